/-
  The walks of names.Keyword, Word, Words, Right.
-/
import Derived.Test.YtjnaikojoemkaaaDoorM
import Derived.Test.YtjnaikojoemkaaaDoorE
import Derived.Maps.OwnOps
namespace Go.Proofs.YtjnaikojoemkaaaDoor
open Go.RowKit Go.Maps

theorem look_true {P : Program} {w : World} {t k e : TypeId} {b n : Nat} {D : DataW Unit} (h : w.ownsMap P k (trueElem (H := Unit)) b n D) (K : Keyed P k) (ht : P.underlying t = some (.map k e)) (hz : (zeroValue e).run P w = .ok (.bool false) w)
    {key : Value} {kl : Lit} (hkey : keyOf P k key = some kl) : (Instr.lookup t (.map (some b)) key false).run P w = .ok (.bool (Maps.has D kl)) w := by
  obtain ⟨es, clock, hb, F, _, rfl⟩ := h
  rcases Maps.fit_look false K ht hz hb F hkey with ⟨hrun, _, hat⟩ | ⟨e0, y, _, _, hrun, hRv, hat, _⟩
  · rw [Maps.has_false_of_atKey hat]; exact hrun
  · rw [Maps.has_true_of_atKey hat]
    have hv : e0.val = .bool true := by
      unfold trueElem at hRv
      split at hRv
      · assumption
      · cases hRv
    rw [hv] at hrun
    exact hrun

theorem kwD_has (s : ByteArray) : Maps.has (kwD (H := Unit) (upto kwF 17)) (.string s.data.toList) = isKw s := by
  unfold kwD
  rw [has_setOf _ _ _ (by intro x hx; obtain ⟨y, _, rfl⟩ := List.mem_map.1 hx; trivial)]
  unfold isKw
  rw [List.any_map]
  have : upto kwF 17 = (List.range 17).map kwF := rfl
  rw [this, List.any_map]
  show (List.range 17).any (fun j => (kwF j).1.data.toList == s.data.toList) = _
  have h2 : (List.range 17).any (fun j => (kwF j).1.data.toList == s.data.toList) = ((List.range 17).map fun j => (kwF j).1.data.toList).any (fun l => l == s.data.toList) := by rw [List.any_map]; rfl
  rw [h2]
  rfl

theorem zero_bool (w : World) : (zeroValue 4).run Tryd.prog w = .ok (.bool false) w := by kernel_rfl

set_option maxHeartbeats 400000 in
theorem keyword_c (s : ByteArray) (hs : s.size ≤ 4294967280) (w : World) :
    Calls Tryd.prog 20 #[.string s] w fun e w' => e = .returned (.bool (isKw s)) ∧ Bel w w' := by
  have hk := fun w1 => callsIn_wide.1 (keywords_in 4 (Nat.le_refl _) w1)
  have HK := Lib.hid hk
  clear hk
  have hsl : s.size ≤ maxLen := by unfold maxLen; omega
  go_enter Tryd.func20, Tryd.ntmps20
  go_wp2_with (first
    | (go_at_call 32; refine (HK.out _).mono ?_; rintro e w1 ⟨rfl, hown, hb⟩; have hrun := look_true hown (string_keyed Tryd.underlying9) (t := 61) (e := 4) Tryd.underlying61 (zero_bool w1) (Go.WideMaps.keyOf_string_mk Tryd.underlying9 hsl); rw [kwD_has] at hrun))
  go_ret
  exact ⟨rfl, by assumption⟩

/-- Is it a word that is no keyword? -/
def wordS (s : ByteArray) : Bool := madeS firstC nextC s && !isKw s

set_option maxHeartbeats 400000 in
theorem word_c (s : ByteArray) (hs : s.size ≤ 4294967280) (w : World) (hE : Env w) :
    Calls Tryd.prog 19 #[.string s] w fun e w' => e = .returned (.bool (wordS s)) ∧ Bel w w' := by
  have hm := made_c s hs _ _ _ _ w hE fine_of_next asks_first asks_next fine_of_first
  unfold wordS
  obtain ⟨A, hA⟩ : ∃ A, madeS firstC nextC s = A := ⟨_, rfl⟩
  rw [hA] at hm ⊢
  have HM := Lib.hid hm
  clear hm hA
  cases A
  · show Calls _ _ _ _ fun e w' => e = .returned (.bool false) ∧ Bel w w'
    go_enter Tryd.func19, Tryd.ntmps19
    go_wp2_with (go_at_call 29; refine HM.out.mono ?_; rintro e w1 ⟨rfl, hb⟩)
    go_ret
    exact ⟨rfl, by assumption⟩
  · show Calls _ _ _ _ fun e w' => e = .returned (.bool (!isKw s)) ∧ Bel w w'
    go_enter Tryd.func19, Tryd.ntmps19
    go_wp2_with (first
      | (go_at_call 29; refine HM.out.mono ?_; rintro e w1 ⟨rfl, hb⟩)
      | (go_at_call 20; refine (keyword_c s hs _).mono ?_; rintro e w2 ⟨rfl, hb2⟩))
    all_goals go_ret
    exact ⟨rfl, (by assumption : Bel w w1).trans (by assumption)⟩

end Go.Proofs.YtjnaikojoemkaaaDoor
