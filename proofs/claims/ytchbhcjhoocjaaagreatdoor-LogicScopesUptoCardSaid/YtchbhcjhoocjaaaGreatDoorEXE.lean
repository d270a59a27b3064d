/-
  expr's laws: the document's example.
  expr's laws: what all of them begin with: the example, and which expressions are more than are looked at.
-/
import Derived.Test.YtchbhcjhoocjaaaGreatDoorEXD
import Derived.Test.YtchbhcjhoocjaaaGreatDoorRXB
import Derived.Test.YtchbhcjhoocjaaaGreatDoorEXC
import Derived.Test.YtchbhcjhoocjaaaGreatDoorEXB
namespace Go.Proofs.YtchbhcjhoocjaaaGreatDoor
open Go.RowKit

def nE (s : ByteArray) : Ex := .mk 3 s [] []
def plusE : Ex := .mk 5 ⟨#[43]⟩ [] [nE ⟨#[120]⟩, nE ⟨#[121]⟩]
def exX : Ex := .mk 12 ⟨#[120]⟩ [] [nE ⟨#[97]⟩, plusE]
def exM : Ex := .mk 17 ⟨#[]⟩ [⟨#[107]⟩, ⟨#[109]⟩] [.mk 0 ⟨#[49]⟩ [] [], nE ⟨#[107]⟩]
theorem exX_check : CheckE exX = 0 := by decide +kernel
theorem exM_check : CheckE exM = 0 := by decide +kernel
theorem uniq_eq {l m : List ByteArray} (hm : Srt m) (h : ∀ x, x ∈ l ↔ x ∈ m) : uniqS l = m := srt_ext (srt_uniqS l) hm fun x => by rw [mem_uniqS, h]
theorem exX_free0 : freeE exX [] = [⟨#[97]⟩, ⟨#[121]⟩] := by decide +kernel
theorem exM_free0 : freeE exM [] = [] := by decide +kernel
theorem exX_free : uniqS (freeE exX []) = [⟨#[97]⟩, ⟨#[121]⟩] := by
  rw [exX_free0]
  exact uniq_eq (by unfold Srt ltB; decide +kernel) fun _ => Iff.rfl
theorem exM_free : uniqS (freeE exM []) = [] := by
  rw [exM_free0]
  exact uniq_eq srt_nil fun _ => Iff.rfl
theorem exX_in : scopedE exX [⟨#[97]⟩, ⟨#[121]⟩] = 0 := by decide +kernel
theorem exX_out : scopedE exX [⟨#[97]⟩, ⟨#[120]⟩] = 13 := by decide +kernel
theorem ex_with1 : withS [] [⟨#[97]⟩, ⟨#[121]⟩] = (some [⟨#[97]⟩, ⟨#[121]⟩], 0) := by decide +kernel
theorem ex_with2 : withS [] [⟨#[97]⟩, ⟨#[120]⟩] = (some [⟨#[97]⟩, ⟨#[120]⟩], 0) := by decide +kernel
theorem exX_bulk : exX.bulk ≤ 1000 := by decide +kernel
theorem exM_bulk : exM.bulk ≤ 1000 := by decide +kernel

theorem results_cellE {P : Program} {fn : Func} {p : Tmp} {ty : TypeId} (h : fn.results = #[.cell p ty]) (tmps : Array Value) (w : World) (g : Nat) (v : Value)
    (hp : tmps.getD p undef = .pointer (some ⟨g, 0, none⟩)) (hl : (loadVar ty ⟨g, 0, none⟩).run P w = .ok v w) : (results fn tmps).run P w = .ok v w := by
  have hp' : tmps[p]?.getD undef = .pointer (some ⟨g, 0, none⟩) := by simpa using hp
  simp [results, h, hp', asAddr, hl]
theorem load_ex {w : World} {g : Nat} {k : Int} {s : ByteArray} {n l : Value} (hb : Blk w g 26 [.int .i64 k, .string s, n, l]) :
    (loadVar 26 ⟨g, 0, none⟩).run Tryz.prog w = .ok (.agg #[.int .i64 k, .string s, n, l]) w := by
  refine run_loadVar_mid w g 0 26 [.int .i64 k, .string s, n, l] _ (fun j v hv => ?_) Tryz.underlying26 rfl (by kernel_rfl)
  rw [Nat.zero_add, hb.at, hv]
/-- A block that is made, one step. -/
theorem alloc_step (w : World) (t : TypeId) (cs : List Value) : ∃ W, w.alloc (.cells cs.toArray t) = W ∧ Blk W w.heap.size t cs ∧ Bel w W ∧ W.heap.size = w.heap.size + 1 :=
  ⟨_, rfl, Blk.new w t cs, Bel.alloc _ _, World.size_alloc _ _⟩
theorem names_blk {W : World} {b : Nat} {l : List ByteArray} {n : Nat} {cs : List Value} (h : Blk W b 9 cs) (hcs : cs = strsV l) (hn : l.length = n) : NamesAt W (some ⟨b, 0, none⟩) l ∧ RowAt0 W (.slice (some ⟨b, 0, none⟩) n n) (strsV l) ∧ RowE W (.slice (some ⟨b, 0, none⟩) n n) (strsV l) := by
  subst hn hcs
  have h1 : RowAt0 W (.slice (some ⟨b, 0, none⟩) l.length l.length) (strsV l) := .inr ⟨b, 0, l.length, by rw [strsV_length], by rw [strsV_length]; exact Nat.le_refl _, h.lt, fun j hj => by rw [Nat.zero_add, h.at]; simp [hj]⟩
  exact ⟨(names_of_row0 h1).2.2, h1, h1.toE⟩

end Go.Proofs.YtchbhcjhoocjaaaGreatDoor

namespace Go.Proofs.YtchbhcjhoocjaaaGreatDoor
open Go.RowKit

theorem parts_of_exs {W : World} {b off : Nat} {l : List Ex} (h : ExsAt W b off l) : PartsAt W (some ⟨b, off, none⟩) l := by
  intro i x hx
  obtain ⟨vn, vl, c0, c1, c2, c3, h1⟩ := h.get hx
  obtain ⟨na, la, nn, nc, m, lc, rfl, rfl, _⟩ := h1.opened
  exact ⟨b, off, na, nn, nc, la, m, lc, rfl, c0, c1, c2, c3, h1⟩
theorem sameE_comm (a b : Ex) : sameE b a = sameE a b := by
  rw [Bool.eq_iff_iff, sameE_iff, sameE_iff, eq_comm]
theorem sameE_refl (a : Ex) : sameE a a = true := (sameE_iff a a).2 rfl
/-- 1 or 0: more than 0? -/
theorem oneIf_pos (b : Bool) : decide (0 < oneIf b) = b := by cases b <;> rfl
end Go.Proofs.YtchbhcjhoocjaaaGreatDoor
