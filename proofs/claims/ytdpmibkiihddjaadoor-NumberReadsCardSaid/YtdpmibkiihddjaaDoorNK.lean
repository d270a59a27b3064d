/-
  The walk of the document's answer for number: Read.
-/
import Derived.Test.YtdpmibkiihddjaaDoorNJ
namespace Go.Proofs.YtdpmibkiihddjaaDoor
open Go.RowKit

/-- Where the first point stands; the length, if there is none. -/
def pointL (l : List UInt8) : Nat := (l.takeWhile (· != 46)).length
theorem pointL_cons (c : UInt8) (l : List UInt8) : pointL (c :: l) = if c = 46 then 0 else pointL l + 1 := by
  unfold pointL
  by_cases h : c = 46 <;> simp [h]
theorem pointL_le (l : List UInt8) : pointL l ≤ l.length := (List.takeWhile_sublist _).length_le
theorem index_point : ∀ l : List UInt8, Lib.index l [46] = if pointL l < l.length then (pointL l : Int) else -1
  | [] => rfl
  | c :: l => by
    have ih := index_point l
    by_cases h : c = 46
    · subst h; simp [Lib.index, pointL_cons]
    · have hp : pointL (c :: l) = pointL l + 1 := by rw [pointL_cons, if_neg h]
      have h1 : ([46] : List UInt8).isPrefixOf (c :: l) = false := by
        simp [List.isPrefixOf]; exact fun e => h e.symm
      rw [Lib.index, h1, ih, hp]
      by_cases h2 : pointL l < l.length
      · have h3 : ((pointL l : Int) == -1) = false := beq_eq_false_iff_ne.2 (by omega)
        have h4 : pointL l + 1 < (c :: l).length := by rw [List.length_cons]; omega
        simp [h2, h3]
      · have h4 : ¬ pointL l + 1 < (c :: l).length := by rw [List.length_cons]; omega
        simp [h2]
theorem cut_point (l : List UInt8) : Lib.cut l [46] = (l.take (pointL l), l.drop (pointL l + 1), decide (pointL l < l.length)) := by
  unfold Lib.cut
  rw [index_point]
  by_cases h : pointL l < l.length
  · rw [if_pos h, if_pos (by omega)]; simp [h]
  · have h2 : pointL l = l.length := by have := pointL_le l; omega
    rw [if_neg h, if_neg (by omega), h2]; simp

set_option maxRecDepth 100000 in
set_option maxHeartbeats 8000000 in
theorem rread_c (s : ByteArray) (hs : s.size ≤ 4294967200) (w : World) :
    Calls Tryd.prog 10 #[.string s] w (RetNumE (readL (dl s)) w) := by
  have hds := dl_size s
  obtain ⟨R, hR⟩ : ∃ R, readL (dl s) = R := ⟨_, rfl⟩
  rw [hR]
  unfold readL at hR
  dsimp only at hR
  rw [cut_point] at hR
  have hpl := pointL_le (dl s)
  obtain ⟨p, hp⟩ : ∃ p, pointL (dl s) = p := ⟨_, rfl⟩
  simp only [hp, hds] at hR
  rw [hp, hds] at hpl
  obtain ⟨A, hA⟩ : ∃ A, s.extract 0 p = A := ⟨_, rfl⟩
  obtain ⟨B, hB⟩ : ∃ B, s.extract (p + 1) s.size = B := ⟨_, rfl⟩
  have hAl : dl A = (dl s).take p := by rw [← hA, Lib.extract_upto]; rfl
  have hBl : dl B = (dl s).drop (p + 1) := by rw [← hB, Lib.extract_from]; rfl
  have hAs : A.size = p := by rw [← dl_size, hAl, List.length_take, hds]; omega
  have hBs : B.size = s.size - (p + 1) := by rw [← dl_size, hBl, List.length_drop, hds]
  rw [← hAl, ← hBl, dl_size, dl_size] at hR
  have hd1 := fun w1 => rdigits_c A (by unfold maxLen; omega) w1
  have hd2 := fun w1 => rdigits_c B (by unfold maxLen; omega) w1
  have hne1 : digitsL (dl A) = true → dl A ++ dl B ≠ [] := fun h e => by
    rw [(List.append_eq_nil_iff.1 e).1] at h; cases h
  have hne2 : digitsL (dl B) = true → dl A ++ dl B ≠ [] := fun h e => by
    rw [(List.append_eq_nil_iff.1 e).2] at h; cases h
  have hAe : A.toList.isEmpty = (dl A).isEmpty := dl_empty A
  have hAem : (dl A = []) ↔ (dl A).isEmpty = true := by rw [List.isEmpty_iff]
  simp only [hAem] at hR
  obtain ⟨em, hem⟩ : ∃ em, (dl A).isEmpty = em := ⟨_, rfl⟩
  obtain ⟨D, hD⟩ : ∃ D, digitsL (dl A) = D := ⟨_, rfl⟩
  obtain ⟨E, hE⟩ : ∃ E, digitsL (dl B) = E := ⟨_, rfl⟩
  rw [hD] at hd1 hne1
  rw [hE] at hd2 hne2
  rw [hem] at hAe
  simp only [hD, hE, hem] at hR
  have hAe2 : (A.toList = []) = (em = true) := by rw [← hAe, List.isEmpty_iff]
  have hab3 : (A ++ B).size = A.size + B.size := ByteArray.size_append
  have hdl : dl (A ++ B) = dl A ++ dl B := by simp [dl]
  have hcan := fun (h : dl A ++ dl B ≠ []) w1 => rcanon_c (A ++ B) (by rw [hab3]; omega) (by rw [hdl]; exact h) B.size (by omega) w1
  rw [hdl] at hcan
  obtain ⟨C, hC⟩ : ∃ C, canonL (dl A ++ dl B) B.size = C := ⟨_, rfl⟩
  rw [hC] at hcan hR
  have hno : ¬ (9223372036854775807 < A.size + B.size) := by omega
  have hBp : B.size ≤ 4294967200 := by omega
  have hAp : A.size ≤ 4294967200 := by omega
  have H1 := Lib.hid hd1
  have H2 := Lib.hid hd2
  have HCAN := Lib.hid hcan
  have HN1 := Lib.hid hne1
  have HN2 := Lib.hid hne2
  have HR := Lib.hid hR
  have HA := Lib.hid hA
  have HB := Lib.hid hB
  have HAS := Lib.hid hAs
  have HP := Lib.hid hp
  have HAE := Lib.hid hAe
  have HAE2 := Lib.hid hAe2
  clear hd1 hd2 hcan hne1 hne2 hR hA hB hAs hBs hp hAe hAe2 hAem hem hD hE hab3 hdl hC hAl hBl hds
  go_enter Tryd.func10, Tryd.ntmps10
  go_wp2_with fail
  have t2 := Two.new w 24 (.string ⟨#[]⟩) (.int .i64 0)
  have hb0 : Bel w (w.alloc (.cells #[.string ⟨#[]⟩, .int .i64 0] 24)) := by (repeat (first | exact Bel.refl _ | assumption | refine Bel.to_drewN ?_ _ | refine Bel.to_drew ?_ | refine Bel.to_setCell ?_ (by first | exact Nat.le_refl _ | (simp; done) | (simp; omega) | omega) _ | refine Bel.to_alloc ?_ _ | refine Bel.trans ?_ (by assumption)))
  have q0 := t2.c0
  have q1 := t2.c1
  have qf := t2.fz
  have ql := t2.lt
  obtain ⟨W0, hW0⟩ : ∃ W0, w.alloc (.cells #[.string ⟨#[]⟩, .int .i64 0] 24) = W0 := ⟨_, rfl⟩
  rw [hW0] at q0 q1 qf ql hb0 ⊢
  have HB0 := Lib.hid hb0
  clear hW0 t2 hb0
  go_loop [4, 5] (fun pt i => ∃ k : Nat, k ≤ s.size ∧ i = .int .i64 k ∧ pt = .int .i64 s.size ∧ Hid (p = k + pointL ((dl s).drop k))) (fun _ i => s.size - (intOf i).toNat)
  case atStart => exact ⟨0, Nat.zero_le _, rfl, rfl, Lib.hid (by rw [List.drop_zero, Nat.zero_add]; exact HP.out.symm)⟩
  case round =>
    obtain ⟨k, hk, rfl, rfl, hpk⟩ := hrel
    by_cases hlt : k < s.size
    · have hdr := dl_drop s k hlt
      have hpk2 := hpk.out
      rw [hdr, pointL_cons] at hpk2
      have hgk : s.get! k = s[k] := by simpa using get_at s k hlt
      rw [hgk] at hpk2
      obtain ⟨c, hc⟩ : ∃ c, s[k] = c := ⟨_, rfl⟩
      rw [hc] at hpk2
      by_cases h46 : c = 46
      · rw [if_pos h46, Nat.add_zero] at hpk2
        subst h46
        subst hpk2
        have hpi : (p : Int) < s.size := by omega
        have hpn : (p : Int) + 1 ≤ s.size := by omega
        have hR1 := HR.out
        rw [decide_eq_true hlt] at hR1
        have hA1 := HA.out
        have hB1 := HB.out
        have hae := HAE.out
        have hae2 := HAE2.out
        clear hdr hgk hpk
        by_cases hbig : 1000 < A.size + B.size
        · rw [if_pos hbig] at hR1
          have hbi : (1000 : Int) < (A.size : Int) + B.size := by omega
          have HR1 := Lib.hid hR1
          clear hR1 hbig
          cases D <;> cases E <;> cases em
          all_goals
            simp only [Bool.false_eq_true, eq_iff_iff, iff_false, iff_true] at hae2
            go_wp2_with (first
              | ((with_reducible refine (H1.out _).mono ?_); rintro e w' ⟨rfl, rfl⟩)
              | ((with_reducible refine (H2.out _).mono ?_); rintro e w' ⟨rfl, rfl⟩))
            have hr := HR1.out
            simp at hr
            have hb0 := HB0.out
            refine bodyPost_ret (v := .tuple #[.agg #[.string (bs R.1.1), .int .i64 R.1.2], .int .i64 R.2]) (by simp [results, Tryd.results10, go_sem, ← hr, bs, q0, q1]) rfl ⟨rfl, by (repeat (first | exact Bel.refl _ | assumption | refine Bel.to_drewN ?_ _ | refine Bel.to_drew ?_ | refine Bel.to_setCell ?_ (by first | exact Nat.le_refl _ | (simp; done) | (simp; omega) | omega) _ | refine Bel.to_alloc ?_ _ | refine Bel.trans ?_ (by assumption)))⟩
        · rw [if_neg hbig] at hR1
          have hbi : (A.size : Int) + B.size ≤ 1000 := by omega
          have HR1 := Lib.hid hR1
          clear hR1 hbig
          cases D <;> cases E <;> cases em
          all_goals
            simp only [Bool.false_eq_true, eq_iff_iff, iff_false, iff_true] at hae2
            go_wp2_with (first
              | ((with_reducible refine (H1.out _).mono ?_); rintro e w' ⟨rfl, rfl⟩)
              | ((with_reducible refine (H2.out _).mono ?_); rintro e w' ⟨rfl, rfl⟩)
              | (go_at_call 15; refine (HCAN.out (by first | exact HN1.out rfl | exact HN2.out rfl | exact HN1.out trivial | exact HN2.out trivial) _).mono ?_; rintro e w5 ⟨rfl, hb5⟩; obtain ⟨hc5, hf5⟩ := bcell hb5; have hz5 : w.heap.size < w5.heap.size := by have := hb5.size; omega))
            have hr := HR1.out
            simp at hr
            have hb0 := HB0.out
            refine bodyPost_ret (v := .tuple #[.agg #[.string (bs R.1.1), .int .i64 R.1.2], .int .i64 R.2]) (by first | (simp [results, Tryd.results10, go_sem, ← hr, bs, q0, q1]; done) | (simp [results, Tryd.results10, go_sem, ← hr, hc5, q0, q1, ql]; done)) rfl ⟨rfl, by (repeat (first | exact Bel.refl _ | assumption | refine Bel.to_drewN ?_ _ | refine Bel.to_drew ?_ | refine Bel.to_setCell ?_ (by first | exact Nat.le_refl _ | (simp; done) | (simp; omega) | omega) _ | refine Bel.to_alloc ?_ _ | refine Bel.trans ?_ (by assumption)))⟩
      · rw [if_neg h46] at hpk2
        have hc4 : ((c.toNat : Int) == 46) = false := by
          refine beq_eq_false_iff_ne.2 fun e2 => h46 (UInt8.toNat_inj.1 ?_)
          have : (46 : UInt8).toNat = 46 := rfl
          omega
        have HPK := Lib.hid hpk2
        clear hdr hgk hpk hpk2 h46
        go_wp2_with fail
        refine ⟨⟨k + 1, by omega, by go_num, rfl, Lib.hid (by have := HPK.out; omega)⟩, by simp [intOf]; omega⟩
    · obtain rfl : k = s.size := by omega
      have hpk2 := hpk.out
      rw [List.drop_of_length_le (by rw [dl_size]; omega)] at hpk2
      have hps : p = s.size := hpk2
      have hR1 := HR.out
      rw [decide_eq_false (by omega)] at hR1
      have hB0 : B = ⟨#[]⟩ := by
        have h1 := HB.out
        rw [hps, Lib.extract_from, List.drop_of_length_le (by rw [show s.data.toList.length = s.size from rfl]; omega)] at h1
        exact h1.symm
      have hBz : B.size = 0 := by rw [hB0]; rfl
      have hA0 : A = s := by
        have h1 := HA.out
        rw [hps, Lib.extract_upto, List.take_of_length_le (by rw [show s.data.toList.length = s.size from rfl]; omega)] at h1
        exact h1.symm
      subst hA0
      have hcn : (canonL (dl A ++ dl B) B.size) = canonL (dl A ++ dl B) B.size := rfl
      have hae := HAE.out
      have hae2 := HAE2.out
      have hBi : (B.size : Int) = 0 := by omega
      have hcan0 : dl A ++ dl B ≠ [] → ∀ w1, Calls Tryd.prog 15 #[.agg #[.string (A ++ ⟨#[]⟩), .int .i64 0]] w1 (RetNum C w1) := fun h w1 => by
        have h1 := HCAN.out h w1
        rw [hBi, hB0] at h1
        exact h1
      have HCAN0 := Lib.hid hcan0
      have hex : A.extract 0 A.size = A := by simp
      clear hpk hpk2 hps hcn HB hlt hcan0 HCAN HA H2 hno hBp hpl
      by_cases hbig : 1000 < A.size + B.size
      · rw [if_pos hbig] at hR1
        have hbi : (1000 : Int) < (A.size : Int) := by omega
        have HR1 := Lib.hid hR1
        have HB0' := Lib.hid hB0
        clear hR1 hbig hBz hBi hB0
        cases D <;> cases em
        all_goals
          simp only [Bool.false_eq_true, eq_iff_iff, iff_false, iff_true] at hae2
          go_wp2_with (first
            | ((with_reducible refine (H1.out _).mono ?_); rintro e w' ⟨rfl, rfl⟩))
          have hr := HR1.out
          simp at hr
          have hb0 := HB0.out
          refine bodyPost_ret (v := .tuple #[.agg #[.string (bs R.1.1), .int .i64 R.1.2], .int .i64 R.2]) (by simp [results, Tryd.results10, go_sem, ← hr, bs, q0, q1]) rfl ⟨rfl, by (repeat (first | exact Bel.refl _ | assumption | refine Bel.to_drewN ?_ _ | refine Bel.to_drew ?_ | refine Bel.to_setCell ?_ (by first | exact Nat.le_refl _ | (simp; done) | (simp; omega) | omega) _ | refine Bel.to_alloc ?_ _ | refine Bel.trans ?_ (by assumption)))⟩
      · rw [if_neg hbig] at hR1
        have hbi : (A.size : Int) ≤ 1000 := by omega
        have HR1 := Lib.hid hR1
        have HB0' := Lib.hid hB0
        clear hR1 hbig hBz hBi hB0
        cases D <;> cases em
        all_goals
          simp only [Bool.false_eq_true, eq_iff_iff, iff_false, iff_true] at hae2
          go_wp2_with (first
            | ((with_reducible refine (H1.out _).mono ?_); rintro e w' ⟨rfl, rfl⟩)
            | (go_at_call 15; refine (HCAN0.out (by first | exact HN1.out rfl | exact HN1.out trivial) _).mono ?_; rintro e w5 ⟨rfl, hb5⟩; obtain ⟨hc5, hf5⟩ := bcell hb5; have hz5 : w.heap.size < w5.heap.size := by have := hb5.size; omega))
          have hr := HR1.out
          simp at hr
          have hb0 := HB0.out
          refine bodyPost_ret (v := .tuple #[.agg #[.string (bs R.1.1), .int .i64 R.1.2], .int .i64 R.2]) (by first | (simp [results, Tryd.results10, go_sem, ← hr, bs, q0, q1]; done) | (simp [results, Tryd.results10, go_sem, ← hr, hc5, q0, q1, ql]; done)) rfl ⟨rfl, by (repeat (first | exact Bel.refl _ | assumption | refine Bel.to_drewN ?_ _ | refine Bel.to_drew ?_ | refine Bel.to_setCell ?_ (by first | exact Nat.le_refl _ | (simp; done) | (simp; omega) | omega) _ | refine Bel.to_alloc ?_ _ | refine Bel.trans ?_ (by assumption)))⟩
end Go.Proofs.YtdpmibkiihddjaaDoor
