/-
  feellex: the law FeellexQuotes is true.
-/
import Derived.Test.YtjnaikojoemkaaaDoorMI
import Derived.Test.YtjnaikojoemkaaaDoorMJ
namespace Go.Proofs.YtjnaikojoemkaaaDoor
open Go.RowKit

theorem quote_cut (s : ByteArray) : (quoteB s).extract 0 ((quoteB s).size - 1) = openQ s ∧ (openQ s).size = (quoteB s).size - 1 := by
  have e : quoteB s = openQ s ++ ⟨#[34]⟩ := mk_append (quoteL s.data.toList) [34]
  have h1 : (quoteB s).size = (openQ s).size + 1 := by rw [e, ByteArray.size_append]; rfl
  refine ⟨?_, by omega⟩
  rw [h1, Nat.add_sub_cancel]
  rw [e, extract_front _ _ _ (Nat.le_refl _), extract_all]

set_option maxRecDepth 100000 in
set_option maxHeartbeats 8000000 in
theorem quotes_c {w : World} (s : ByteArray) (hs : s.size ≤ maxLen) (hE : Env w ∧ SignsAt w) :
    Calls Tryd.prog 5 #[.string s] w (RetBel (.bool true) w) := by
  unfold maxLen at hs
  obtain ⟨hE, hw⟩ := hE
  have HAL : Hid (∀ w1, Bel w w1 → Calls Tryd.prog 7 #[] w1 (RetBel (.bool true) w1)) := Lib.hid fun w1 hb => alive_c w1 (hE.bel hb) (signs_bel hw hb)
  by_cases h8 : s.size ≤ 1000
  · have h8i : (s.size : Int) ≤ 1000 := by omega
    have HQ : Hid (∀ w1, Bel w w1 → Calls Tryd.prog 10 #[.string s] w1 (RetBel (.tuple #[.string (quoteS s).1, .int .i64 (quoteS s).2]) w1)) := Lib.hid fun w1 hb => quote_c s (by omega) w1 (hE.bel hb)
    unfold quoteS at HQ
    by_cases hk : chkS s < s.size
    · rw [if_pos hk] at HQ
      clear hE hw hk
      go_enter Tryd.func5, Tryd.ntmps5
      go_wp2_with fail
      refine (HQ.out _ (Bel.refl _)).mono ?_
      rintro e w1 ⟨rfl, b1⟩
      go_wp2_with fail
      refine (HAL.out _ b1).mono ?_
      rintro e w2 ⟨rfl, b2⟩
      go_wp2_with fail
      go_ret
      exact ⟨rfl, b1.trans b2⟩
    · rw [if_neg hk] at HQ
      have hok := chk_ok s hk
      have hql := quoteL_le s.data.toList
      have hsz : (quoteB s).size = (quoteL s.data.toList).length + 1 := by
        show (quoteL s.data.toList ++ [34]).toArray.size = _
        simp
      have hsl : s.data.toList.length = s.size := rfl
      have h2 := (quoteB_head s).1
      have hcut := quote_cut s
      have HL1 : Hid (∀ w1, Bel w w1 → Calls Tryd.prog 8 #[.string (quoteB s)] w1 fun x w' => ∃ v, x = .returned (.tuple #[v, .int .i64 (quoteB s).size, .int .i64 0]) ∧ RowL w' v [(3, 0, s), (5, ((quoteB s).size : Int), ⟨#[]⟩)] ∧ Bel w1 w') :=
        Lib.hid fun w1 hb => lex_row (quoteB s) (by omega) w1 (hE.bel hb) (signs_bel hw hb) _ _ _ (by rw [lex_quote s hok]; rfl)
      have HL2 : Hid (∀ w1, Bel w w1 → Calls Tryd.prog 8 #[.string (openQ s)] w1 fun x w' => ∃ v, x = .returned (.tuple #[v, .int .i64 (openQ s).size, .int .i64 10]) ∧ RowL w' v [] ∧ Bel w1 w') :=
        Lib.hid fun w1 hb => lex_row (openQ s) (by omega) w1 (hE.bel hb) (signs_bel hw hb) _ _ _ (by rw [lex_openQ s hok]; rfl)
      obtain ⟨q, hq⟩ : ∃ q, quoteB s = q := ⟨_, rfl⟩
      obtain ⟨q2, hq2⟩ : ∃ q, openQ s = q := ⟨_, rfl⟩
      rw [hq] at hcut HQ HL1 h2 hsz
      rw [hq2] at hcut HL2
      obtain ⟨hc1, hc2⟩ := hcut
      have hqs : q.size ≤ 2010 := by omega
      have hc3 : ((q2.size : Int) == (q.size : Int) - 1) = true := by simp; omega
      have hss : (s.toList != s.toList) = false := by simp
      have h2i : (2 : Int) ≤ q.size := by omega
      clear hE hw hk hok hql hsl hq hq2 hsz hc2
      go_enter Tryd.func5, Tryd.ntmps5
      go_wp2_with fail
      refine (HQ.out _ (Bel.refl _)).mono ?_
      rintro e w1 ⟨rfl, b1⟩
      go_wp2_with fail
      refine (HL1.out _ b1).mono ?_
      rintro e w2 ⟨v, rfl, hr, b2⟩
      obtain ⟨v1, c1, hv, h1⟩ := rowL_form hr
      rcases h1 with h1 | ⟨g, off, rfl, hk, hlt, hc⟩
      · cases h1
      simp only [List.length_cons, List.length_nil, Nat.zero_add, Nat.reduceAdd] at hv hk
      subst hv
      have c0 := hc 0 _ rfl
      have d0 : w2.cell? ⟨g, off, none⟩ = some (.int .i64 3) := by simpa using c0.1
      have d1 : w2.cell? ⟨g, off + 2, none⟩ = some (.string s) := by simpa using c0.2.2
      clear hc c0 hr
      go_wp2_with fail
      refine (HL2.out _ (b1.trans b2)).mono ?_
      rintro e w3 ⟨v3, rfl, _, b3⟩
      go_wp2_with fail
      refine (HAL.out _ ((b1.trans b2).trans b3)).mono ?_
      rintro e w4 ⟨rfl, b4⟩
      go_wp2_with fail
      go_ret
      exact ⟨rfl, ((b1.trans b2).trans b3).trans b4⟩
  · have h8i : (1000 : Int) < s.size := by omega
    clear hE hw
    go_enter Tryd.func5, Tryd.ntmps5
    go_wp2_with fail
    refine (HAL.out _ (Bel.refl _)).mono ?_
    rintro e w3 ⟨rfl, b3⟩
    go_wp2_with fail
    go_ret
    exact ⟨rfl, b3⟩
end Go.Proofs.YtjnaikojoemkaaaDoor
