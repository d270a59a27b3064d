/-
  xmlout: the walks of the writer's value and node.
-/
import Derived.Test.YtojeclfcgnamoaaDoorWG
namespace Go.Proofs.YtojeclfcgnamoaaDoor
open Go.RowKit Go.Maps Go.Shelf

theorem valL_len (s : ByteArray) : (valL s).length = (escL true s).length + 3 := by unfold valL; simp
set_option maxRecDepth 100000 in
set_option maxHeartbeats 4000000 in
theorem wvalue_c (b mb : Nat) (l : List UInt8) (s : ByteArray) (w : World) (h : WB b mb l w) (hE : Env w) (hf : fineS s = true) (hs : s.size ≤ 1073741824) (hl : l.length + (valL s).length ≤ 1073741824) :
    Calls Tryd.prog 43 #[.pointer (some ⟨b, 0, none⟩), .string s] w fun e w' => e = .returned (.tuple #[]) ∧ RetWB b mb (l ++ valL s) w w' := by
  have hc := xescValue_c s hs w hE
  unfold escR at hc
  rw [if_pos hf] at hc
  rw [valL_len] at hl
  obtain ⟨v, hv⟩ : ∃ v : ByteArray, ⟨(escL true s).toArray⟩ = v := ⟨_, rfl⟩
  have hvl : valL s = [61, 34] ++ (v.data.toList ++ [34]) := by rw [← hv]; unfold valL; simp
  have hvs : v.size = (escL true s).length := by rw [← hv]; rfl
  rw [hvl]
  dsimp only at hc
  rw [hv] at hc
  have HC := Lib.hid hc
  have hsz : v.size ≤ 1073741824 := by omega
  have h1 : ¬ (9223372036854775807 < (⟨#[61, 34]⟩ : ByteArray).size + v.size) := by
    have : (⟨#[61, 34]⟩ : ByteArray).size = 2 := rfl
    omega
  have h2 : ¬ (9223372036854775807 < (⟨#[61, 34]⟩ ++ v : ByteArray).size + (⟨#[34]⟩ : ByteArray).size) := by
    have : (⟨#[34]⟩ : ByteArray).size = 1 := rfl
    have : (⟨#[61, 34]⟩ : ByteArray).size = 2 := rfl
    rw [ByteArray.size_append]
    omega
  have HSZ : Hid ((⟨#[61, 34]⟩ ++ v ++ ⟨#[34]⟩ : ByteArray).size ≤ 1073741830) := Lib.hid (by
    have h3 : (⟨#[34]⟩ : ByteArray).size = 1 := rfl
    have h4 : (⟨#[61, 34]⟩ : ByteArray).size = 2 := rfl
    rw [ByteArray.size_append, ByteArray.size_append, h3, h4]
    omega)
  have HD : Hid ((⟨#[61, 34]⟩ ++ v ++ ⟨#[34]⟩ : ByteArray).data.toList = [61, 34] ++ (v.data.toList ++ [34])) := Lib.hid (by simp)
  have hl2 : l.length ≤ 1073741824 := by omega
  have HW := Lib.hid h
  obtain ⟨X, hX⟩ : ∃ X, l ++ ([61, 34] ++ (v.data.toList ++ [34])) = X := ⟨_, rfl⟩
  rw [hX]
  have HX := Lib.hid hX
  have hbw := h.lt
  clear hc hv hvl hvs hE h hl hX
  go_enter Tryd.func43, Tryd.ntmps43
  go_wp2_with fail
  refine HC.out.mono ?_
  rintro e1 w1 ⟨rfl, hb1⟩
  have HW1 := Lib.hid (HW.out.bel hb1)
  have HB1 : Hid (Below b w w1) := Lib.hid (hb1.mono (Nat.le_of_lt hbw))
  have HK1 : Hid (KeepT (keepB WrE) w w1) := Lib.hid (KeepT.of_bel hb1)
  clear hb1 HC
  go_wp2_with fail
  refine (wstr_c b mb l _ _ HW1.out (by have := HSZ.out; omega)).mono ?_
  rintro e2 w2 ⟨rfl, hw2, hb2, hk2⟩
  rw [HD.out, HX.out] at hw2
  have HW2 := Lib.hid hw2
  have HB2 := Lib.hid (HB1.out.trans hb2)
  have HK2 := Lib.hid (HK1.out.trans hk2)
  clear hw2 hb2 hk2
  go_wp2_with fail
  go_end0
  exact ⟨rfl, HW2.out, HB2.out, HK2.out⟩
end Go.Proofs.YtojeclfcgnamoaaDoor
