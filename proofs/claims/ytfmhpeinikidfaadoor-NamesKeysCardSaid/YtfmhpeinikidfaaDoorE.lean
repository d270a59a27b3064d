/-
  The walks of names.Plain and names.Split.
-/
import Derived.Test.YtfmhpeinikidfaaDoorD
namespace Go.Proofs.YtfmhpeinikidfaaDoor
open Go.RowKit

theorem fine_of_first (c : Int) (h : firstC c = true) : fineC c = true := by
  unfold firstC at h; unfold fineC at *; simp only [decide_eq_true_eq] at *; omega
theorem fine_of_next (c : Int) (h : nextC c = true) : fineC c = true := by
  unfold nextC at h; rw [Bool.or_eq_true] at h
  rcases h with h | h
  · exact fine_of_first c h
  · unfold fineC; simp only [decide_eq_true_eq] at *; omega
theorem fine_of_part (c : Int) (h : partC c = true) : fineC c = true := by
  unfold partC at h; rw [Bool.or_eq_true] at h
  rcases h with h | h
  · exact fine_of_next c h
  · unfold fineC; simp only [decide_eq_true_eq] at *; omega

set_option maxHeartbeats 400000 in
theorem plain_c (s : ByteArray) (hs : s.size ≤ 4294967280) (w : World) (hE : Env w) :
    Calls Tryd.prog 12 #[.string s] w fun e w' => e = .returned (.bool (plainS s)) ∧ Bel w w' := by
  go_enter Tryd.func12, Tryd.ntmps12
  go_wp2_with (go_at_call 25; refine (made_c s hs _ _ _ _ _ hE fine_of_part asks_start asks_part fine_of_first).mono ?_; rintro e w' ⟨rfl, hb⟩)
  go_ret
  exact ⟨rfl, by assumption⟩

/-- A name's prefix and what stands behind it, the error's number. -/
def splitS (s : ByteArray) : ByteArray × ByteArray × Nat :=
  let t := Lib.cut s.data.toList [58]
  if t.2.2 = true ∧ plainS ⟨t.1.toArray⟩ = true ∧ plainS ⟨t.2.1.toArray⟩ = true then (⟨t.1.toArray⟩, ⟨t.2.1.toArray⟩, 0)
  else if t.2.2 = false ∧ plainS s = true then (⟨#[]⟩, s, 0)
  else (⟨#[]⟩, ⟨#[]⟩, 6)

theorem cut_sizes (s : ByteArray) : (⟨(Lib.cut s.data.toList [58]).1.toArray⟩ : ByteArray).size ≤ s.size ∧ (⟨(Lib.cut s.data.toList [58]).2.1.toArray⟩ : ByteArray).size ≤ s.size := by
  have hl : s.size = s.data.toList.length := rfl
  constructor
  · show (Lib.cut s.data.toList [58]).1.toArray.size ≤ _
    rw [hl]; unfold Lib.cut; simp; split <;> simp
    omega
  · show (Lib.cut s.data.toList [58]).2.1.toArray.size ≤ _
    rw [hl]; unfold Lib.cut; simp; split <;> simp

set_option maxHeartbeats 400000 in
theorem split_c (s : ByteArray) (hs : s.size ≤ 4294967280) (w : World) (hE : Env w) :
    Calls Tryd.prog 10 #[.string s] w fun e w' => e = .returned (.tuple #[.string (splitS s).1, .string (splitS s).2.1, .int .i64 (splitS s).2.2]) ∧ Bel w w' := by
  obtain ⟨h1, h2⟩ := cut_sizes s
  obtain ⟨r, hr⟩ : ∃ r, splitS s = r := ⟨_, rfl⟩
  rw [hr]
  obtain ⟨m, hm⟩ := hE.2
  have hcut := fun w1 (hE1 : Env w1) => Tryd.strings_Cut s ⟨#[58]⟩ hE1.2.choose w1 (by omega) hE1.2.choose_spec
  unfold splitS at hr
  dsimp only at hcut
  obtain ⟨⟨a, b, t⟩, hab⟩ : ∃ x, Lib.cut s.data.toList [58] = x := ⟨_, rfl⟩
  simp only [hab] at hcut hr h1 h2
  obtain ⟨A, hA⟩ : ∃ A : ByteArray, A = ⟨a.toArray⟩ := ⟨_, rfl⟩
  obtain ⟨B, hB⟩ : ∃ B : ByteArray, B = ⟨b.toArray⟩ := ⟨_, rfl⟩
  rw [← hA] at hcut hr h1
  rw [← hB] at hcut hr h2
  have HR := Lib.hid hr
  have HC := Lib.hid hcut
  have HE := Lib.hid hE
  clear hr hcut hab hA hB hE hm
  go_enter Tryd.func10, Tryd.ntmps10
  cases t
  all_goals
    go_wp2_with (first
      | (go_at_call 24; refine (HC.out _ HE.out).mono ?_; rintro e w1 ⟨rfl, hd⟩; have hb1 := Bel.of_drewN hd; have hE1 := HE.out.bel hb1; clear hd)
      | (go_at_call 12; refine (plain_c _ (by omega) _ (by assumption)).mono ?_; rintro e w2 ⟨rfl, hb2⟩; have hE2 := (by assumption : Env _).bel hb2))
    all_goals go_ret3
  all_goals have hr := HR.out
  all_goals clear HR HC
  all_goals go_light
  all_goals refine ⟨tup3 (str_eq ?_) (str_eq ?_) (int_eq ?_), by grind [Bel.trans]⟩
  all_goals (rw [← hr]; grind)
end Go.Proofs.YtfmhpeinikidfaaDoor
