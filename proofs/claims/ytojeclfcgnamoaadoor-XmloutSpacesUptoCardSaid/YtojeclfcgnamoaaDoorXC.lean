/-
  The law's alive: the document's example.
-/
import Derived.Test.YtojeclfcgnamoaaDoorWJ
namespace Go.Proofs.YtojeclfcgnamoaaDoor
open Go.RowKit

def ndT : Nd := .mk 0 ⟨#[]⟩ ⟨#[]⟩ [] [] ⟨#[60]⟩
def ndX : Nd := .mk 0 ⟨#[117]⟩ ⟨#[97]⟩ [] [ndT] ⟨#[]⟩
/-- <n1:a xmlns:n1="u">&lt;</n1:a> -/
def byX : ByteArray := ⟨#[60, 110, 49, 58, 97, 32, 120, 109, 108, 110, 115, 58, 110, 49, 61, 34, 117, 34, 62, 38, 108, 116, 59, 60, 47, 110, 49, 58, 97, 62]⟩
theorem ndX_check : CheckN ndX = 0 := by decide +kernel
theorem ndX_sort : sortN ndX = ndX := by
  have : sortA [] = [] := List.Perm.eq_nil (sortA_perm [])
  unfold ndX ndT
  simp only [sortN, sortsN, this]
theorem ndX_write : WriteN ndX = byX := by
  unfold WriteN PrefN
  rw [ndX_sort]
  decide +kernel
theorem ndX_bulk : ndX.bulk ≤ 10000 := by decide +kernel
theorem ndX_at {W : World} {b : Nat} (h : Blk W b 27 [.int .i64 0, .string ⟨#[]⟩, .string ⟨#[]⟩, .slice none 0 0, .slice none 0 0, .string ⟨#[60]⟩]) : NdAt W ndX (.slice none 0 0) (.slice (some ⟨b, 0, none⟩) 1 1) := by
  have hat : AttrsV W (.slice none 0 0) [] := ⟨none, 0, rfl, Nat.le_refl _, .inl rfl⟩
  refine NdAt.make (by decide) hat ⟨some ⟨b, 0, none⟩, 1, rfl, Nat.le_refl _, .inr ⟨b, 0, rfl, h.lt, ?_⟩⟩
  unfold ndT
  rw [NdsAt, NdsAt]
  exact ⟨⟨_, _, h.at 0, h.at 1, h.at 2, h.at 3, h.at 4, h.at 5, NdAt.make (by decide) hat ⟨none, 0, rfl, Nat.le_refl _, .inl rfl⟩⟩, trivial⟩
set_option maxRecDepth 100000 in
set_option maxHeartbeats 4000000 in
theorem xalive_c (w : World) (hE : EnvT w) : Calls Tryd.prog 6 #[] w (RetBel (.bool true) w) := by
  obtain ⟨V1, h1, q1, l1, s1⟩ := alloc_step w 27 [.int .i64 0, .string ⟨#[]⟩, .string ⟨#[]⟩, .slice none 0 0, .slice none 0 0, .string ⟨#[60]⟩]
  have hc := xWrite_c ndX _ _ V1 ndX_bulk (hE.bel l1) (ndX_at q1)
  rw [ndX_check] at hc
  unfold ndV at hc
  have HC := Lib.hid hc
  have L1 := Lib.hid l1
  have HV1 := Lib.hid h1
  clear hc h1 q1 l1 s1 hE
  go_enter Tryd.func6, Tryd.ntmps6
  go_wp2_with fail
  rw [show w.alloc (.cells #[.int .i64 0, .string ⟨#[]⟩, .string ⟨#[]⟩, .slice none 0 0, .slice none 0 0, .string ⟨#[60]⟩] 27) = V1 from HV1.out]
  refine HC.out.mono ?_
  rintro e2 w2 ⟨⟨v, rfl, hv⟩, hb2⟩
  obtain ⟨-, hby⟩ := hv.resolve_left fun e => e.1 rfl
  rw [ndX_write] at hby
  have hcv := bytes_string w2 v byX hby
  obtain ⟨va, vn, vc, rfl, -⟩ := hby
  have hq : (byX.toList == [60, 110, 49, 58, 97, 32, 120, 109, 108, 110, 115, 58, 110, 49, 61, 34, 117, 34, 62, 38, 108, 116, 59, 60, 47, 110, 49, 58, 97, 62]) = true := by rw [Lib.toList_data]; rfl
  have HB2 := Lib.hid (L1.out.trans hb2)
  clear hv hb2 HC
  go_wp2_with fail
  go_ret
  exact ⟨rfl, HB2.out⟩
end Go.Proofs.YtojeclfcgnamoaaDoor
