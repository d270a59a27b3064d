/-
  feellex: the law FeellexTexts is true.
-/
import Derived.Test.YtjnaikojoemkaaaGreatDoorTA
namespace Go.Proofs.YtjnaikojoemkaaaGreatDoor
open Go.RowKit

set_option maxRecDepth 100000 in
set_option maxHeartbeats 8000000 in
theorem texts_c {w : World} (k p : Int) (x : ByteArray) (hx : x.size ≤ maxLen) (s : ByteArray) (hs : s.size ≤ maxLen) (hE : Env w ∧ SignsAt w) :
    Calls Tryz.prog 4 #[.agg #[.int .i64 k, .int .i64 p, .string x], .string s] w (RetBel (.bool true) w) := by
  unfold maxLen at hs hx
  obtain ⟨hE, hw⟩ := hE
  have HAL : Hid (∀ w1, Bel w w1 → Calls Tryz.prog 5 #[] w1 (RetBel (.bool true) w1)) := Lib.hid fun w1 hb => alive_c w1 (hE.bel hb) (signs_bel hw hb)
  have hb0 := Bel.alloc w (.cells #[.int .i64 k, .int .i64 p, .string x] 32)
  by_cases h8 : x.size ≤ 1000
  · have h8i : (x.size : Int) ≤ 1000 := by omega
    by_cases h9 : s.size ≤ 1000
    · have h9i : (s.size : Int) ≤ 1000 := by omega
      have HT1 : Hid (∀ w1, Bel w w1 → Calls Tryz.prog 9 #[.agg #[.int .i64 k, .int .i64 p, .string x]] w1 (RetBel (.tuple #[.string (textOf k x).1, .int .i64 (textOf k x).2]) w1)) := Lib.hid fun w1 hb => ptext_c k p x (by omega) w1 (hE.bel hb) (signs_bel hw hb)
      have HT2 : Hid (∀ w1, Calls Tryz.prog 10 #[.agg #[.int .i64 k, .int .i64 p, .string x]] w1 (RetBel (.tuple #[.string (textOf k x).1, .int .i64 (textOf k x).2]) w1)) := Lib.hid fun w1 => rtextt_c k p x (by omega) w1
      have HQ1 : Hid (∀ w1, Bel w w1 → Calls Tryz.prog 11 #[.string s] w1 (RetBel (.tuple #[.string (quoteS s).1, .int .i64 (quoteS s).2]) w1)) := Lib.hid fun w1 hb => quote_c s (by omega) w1 (hE.bel hb)
      have HQ2 : Hid (∀ w1, Calls Tryz.prog 12 #[.string s] w1 (RetBel (.tuple #[.string (quoteS s).1, .bool (!decide (chkS s < s.size))]) w1)) := Lib.hid fun w1 => rquote_c s (by omega) w1
      unfold quoteS at HQ1 HQ2
      obtain ⟨⟨T1, T2⟩, hT⟩ : ∃ T, textOf k x = T := ⟨_, rfl⟩
      rw [hT] at HT1 HT2
      have hss : (T1.toList == T1.toList) = true := by simp
      have HB0 := Lib.hid hb0
      have HBK := Lib.hid (Blk.new w 32 [.int .i64 k, .int .i64 p, .string x])
      by_cases hk : chkS s < s.size
      all_goals
        first | rw [if_pos hk, decide_eq_true hk] at HQ2 | rw [if_neg hk, decide_eq_false hk] at HQ2
        first | rw [if_pos hk] at HQ1 | rw [if_neg hk] at HQ1
        obtain ⟨q, hq⟩ : ∃ q, quoteB s = q := ⟨_, rfl⟩
        (try rw [hq] at HQ1 HQ2)
        have hqq : (q.toList == q.toList) = true := by simp
        clear hE hw hk hT hq hb0
        go_enter Tryz.func4, Tryz.ntmps4
        go_wp2_with fail
        refine (HT1.out _ HB0.out).mono ?_
        rintro e w1 ⟨rfl, b1⟩
        have f0 := (HBK.out.bel b1).at 0
        have f1 := (HBK.out.bel b1).at 1
        have f2 := (HBK.out.bel b1).at 2
        go_wp2_with fail
        refine (HT2.out _).mono ?_
        rintro e w2 ⟨rfl, b2⟩
        clear f0 f1 f2
        go_wp2_with fail
        refine (HQ1.out _ ((HB0.out.trans b1).trans b2)).mono ?_
        rintro e w3 ⟨rfl, b3⟩
        go_wp2_with fail
        refine (HQ2.out _).mono ?_
        rintro e w4 ⟨rfl, b4⟩
        go_wp2_with fail
        refine (HAL.out _ ((((HB0.out.trans b1).trans b2).trans b3).trans b4)).mono ?_
        rintro e w5 ⟨rfl, b5⟩
        go_wp2_with fail
        go_ret
        exact ⟨rfl, ((((HB0.out.trans b1).trans b2).trans b3).trans b4).trans b5⟩
    · have h9i : (1000 : Int) < s.size := by omega
      clear hE hw
      go_enter Tryz.func4, Tryz.ntmps4
      go_wp2_with fail
      refine (HAL.out _ hb0).mono ?_
      rintro e w3 ⟨rfl, b3⟩
      go_wp2_with fail
      go_ret
      exact ⟨rfl, hb0.trans b3⟩
  · have h8i : (1000 : Int) < x.size := by omega
    clear hE hw
    go_enter Tryz.func4, Tryz.ntmps4
    go_wp2_with fail
    refine (HAL.out _ hb0).mono ?_
    rintro e w3 ⟨rfl, b3⟩
    go_wp2_with fail
    go_ret
    exact ⟨rfl, hb0.trans b3⟩
end Go.Proofs.YtjnaikojoemkaaaGreatDoor
