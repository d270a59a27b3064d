/-
  The scope laws' own example: alive.
-/
import Derived.Test.YtaaedmipcffjoaaDoorSCE
import Derived.Test.YtaaedmipcffjoaaDoorSCH
namespace Go.Proofs.YtaaedmipcffjoaaDoor
open Go.RowKit

theorem addS_nil_mem (l : List ByteArray) (x : ByteArray) : x ∈ addS [] l ↔ x ∈ l := by rw [mem_addS]; simp
theorem withS_cases (N l : List ByteArray) : withS N l = (none, 6) ∨ withS N l = (none, 19) ∨ withS N l = (some (addS N l), 0) := by
  unfold withS
  split
  · exact .inl rfl
  · split
    · exact .inr (.inl rfl)
    · exact .inr (.inr rfl)
def exL : List ByteArray := [⟨#[110, 101, 116]⟩, ⟨#[110, 101, 116, 32, 112, 114, 105, 99, 101]⟩, ⟨#[97]⟩]
def exN : List ByteArray := [⟨#[97]⟩, ⟨#[110, 101, 116]⟩, ⟨#[110, 101, 116, 32, 112, 114, 105, 99, 101]⟩]
theorem ex_with : withS [] exL = (some exN, 0) := by decide +kernel
theorem ex_long1 : longS exN [⟨#[110, 101, 116]⟩, ⟨#[112, 114, 105, 99, 101]⟩, ⟨#[120]⟩] 3 = (⟨#[110, 101, 116, 32, 112, 114, 105, 99, 101]⟩, 2) := by decide +kernel
theorem ex_long2 : longS exN [⟨#[112, 114, 105, 99, 101]⟩] 1 = (⟨#[]⟩, 0) := by decide +kernel

set_option maxRecDepth 100000 in
set_option maxHeartbeats 2000000 in
theorem salive_c (w : World) (hE : Env w) : Calls Tryd.prog 14 #[] w (RetBel (.bool true) w) := by
  have h1 := fun w1 (h : Env w1) v (hv : RowAt w1 v (strsV exL)) => new_c v exL w1 h (.inr hv) (by decide) (by decide)
  rw [ex_with] at h1
  have h2 := fun w1 v p (hp : ScopeIs w1 p exN) (hv : RowAt w1 v (strsV [⟨#[110, 101, 116]⟩, ⟨#[112, 114, 105, 99, 101]⟩, ⟨#[120]⟩])) => longest_c p exN v _ w1 hp (.inr hv) (by decide) (by decide)
  simp only [List.length_cons, List.length_nil, Nat.zero_add, Nat.reduceAdd, ex_long1] at h2
  have h3 := fun w1 v p (hp : ScopeIs w1 p exN) (hv : RowAt w1 v (strsV [⟨#[112, 114, 105, 99, 101]⟩])) => longest_c p exN v _ w1 hp (.inr hv) (by decide) (by decide)
  simp only [List.length_cons, List.length_nil, Nat.zero_add, ex_long2] at h3
  have r1 := fun w1 => row_new w1 (strsV exL) 9
  have r2 := fun w1 => row_new w1 (strsV [⟨#[110, 101, 116]⟩, ⟨#[112, 114, 105, 99, 101]⟩, ⟨#[120]⟩]) 9
  have r3 := fun w1 => row_new w1 (strsV [⟨#[112, 114, 105, 99, 101]⟩]) 9
  have H1 := Lib.hid h1
  have H2 := Lib.hid h2
  have H3 := Lib.hid h3
  have R1 := Lib.hid r1
  have R2 := Lib.hid r2
  have R3 := Lib.hid r3
  have HE := Lib.hid hE
  clear h1 h2 h3 r1 r2 r3 hE
  go_enter Tryd.func14, Tryd.ntmps14
  go_wp2_with fail
  refine (H1.out _ (HE.out.bel (Bel.alloc _ _)) _ (R1.out w)).mono ?_
  rintro e w1 ⟨hb1, p, rfl, hp⟩
  obtain ⟨po, rfl⟩ : ∃ po, p = .pointer (some po) := by
    obtain ⟨_, _, C, hv, hn⟩ := hp
    cases C with
    | nil => have := hn.length_eq; simp [exN] at this
    | cons own C => obtain ⟨b, u, sl, rfl, _⟩ := hv; exact ⟨_, rfl⟩
  have HP := Lib.hid hp
  clear hp
  go_wp2_with fail
  refine (H2.out _ _ _ (HP.out.bel (Bel.alloc _ _)) (R2.out w1)).mono ?_
  rintro e w2 ⟨rfl, hb2⟩
  go_wp2_with fail
  refine (H3.out _ _ _ ((HP.out.bel ((Bel.alloc _ _).trans hb2)).bel (Bel.alloc _ _)) (R3.out w2)).mono ?_
  rintro e w3 ⟨rfl, hb3⟩
  go_wp2_with fail
  go_ret
  exact ⟨rfl, (((Bel.alloc _ _).trans hb1).trans ((Bel.alloc _ _).trans hb2)).trans ((Bel.alloc _ _).trans hb3)⟩
end Go.Proofs.YtaaedmipcffjoaaDoor
