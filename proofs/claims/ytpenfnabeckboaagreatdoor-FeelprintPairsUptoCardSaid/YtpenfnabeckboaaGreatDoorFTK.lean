/-
  tipstavelaw11: the walks of plain and counts.
  tipstavelaw11: the walk of signs.
-/
import Derived.Test.YtpenfnabeckboaaGreatDoorFLJ
import Derived.Test.YtpenfnabeckboaaGreatDoorKT
import Derived.Test.YtpenfnabeckboaaGreatDoorEXE
import Derived.Test.YtpenfnabeckboaaGreatDoorEHW
import Derived.Deep.CutBlock
import Derived.BigQuiet
import Derived.Deep.QuietTactic
namespace Go.Proofs.YtpenfnabeckboaaGreatDoor
open Go.RowKit

theorem beq_one (s : ByteArray) (c : UInt8) : (s.toList == [c]) = decide (s = ⟨#[c]⟩) := by
  rw [Bool.eq_iff_iff, beq_iff_eq, decide_eq_true_eq, Lib.toList_data]
  constructor
  · intro h
    apply ByteArray.ext
    apply Array.toList_inj.1
    rw [h]
  · intro h
    rw [h]
set_option maxRecDepth 100000 in
set_option maxHeartbeats 4000000 in
theorem plain_c (L : List (Int × Nat × ByteArray)) (hL : L.length ≤ 1152921504) (v : Value) (w : World) (hv : RowL w v (L.map toLx)) :
    Calls Tryz.prog 16 #[v] w (fun e w' => Bel w w' ∧ ∃ v', e = .returned v' ∧ w'.ownsRow w.heap.size 43 3 v' (plainT L).length (lexCells (plainT L))) := by
  obtain ⟨a1, c1, rfl, hc1⟩ := rowL_form hv
  rw [List.length_map] at hc1 ⊢
  obtain ⟨n, hn⟩ : ∃ n, L.length = n := ⟨_, rfl⟩
  rw [hn] at hL hc1 ⊢
  have HN := Lib.hid hn
  have HC1 := Lib.hid hc1
  clear hv hc1 hn
  go_enter Tryz.func16, Tryz.ntmps16
  go_wp2_with fail
  go_loopw [3, 8] (fun l i wr => ∃ j : Nat, j ≤ n ∧ i = .int .i64 j ∧ Bel w wr ∧ wr.ownsRow w.heap.size 43 3 l (plainT (L.take j)).length (lexCells (plainT (L.take j)))) (fun _ i _ => n - (intOf i).toNat)
  case atStart => exact ⟨0, Nat.zero_le _, rfl, Bel.refl _, World.ownsRow_nil _ _ _ _⟩
  case round =>
    obtain ⟨j, hj, rfl, hbel, hown⟩ := hrel
    by_cases hlt : j < n
    · have hlti : (j : Int) < n := by omega
      obtain ⟨x, hx⟩ : ∃ x, L[j]? = some x := ⟨_, List.getElem?_eq_getElem (by have := HN.out; omega)⟩
      rcases HC1.out with h0 | ⟨b1, o1, rfl, hk1, hb1, hcell1⟩
      · have := HN.out; rw [List.map_eq_nil_iff.1 h0] at this; simp at this; omega
      obtain ⟨f0, f1, f2⟩ := hcell1 j (toLx x) (by rw [List.getElem?_map, hx]; rfl)
      rw [← hbel.cell hb1] at f0 f1 f2
      have htk : L.take (j + 1) = L.take j ++ [x] := by rw [List.take_add_one, hx]; rfl
      obtain ⟨k, p, s⟩ := x
      simp only [toLx] at f0 f1 f2
      have hst := plainT_snoc (L.take j) (k, p, s)
      rw [← htk] at hst
      have hle : (plainT (L.take j)).length ≤ n := by have := plainT_le (L.take j); rw [List.length_take] at this; omega
      obtain ⟨acc, hacc⟩ : ∃ A, plainT (L.take j) = A := ⟨_, rfl⟩
      rw [hacc] at hown hst hle
      unfold parT at hst
      rw [← beq_one, ← beq_one] at hst
      have hk0 : decide (k = 4) = (k == 4) := rfl
      simp only [hk0] at hst
      obtain ⟨K, hK⟩ : ∃ A, (k == 4) = A := ⟨_, rfl⟩
      obtain ⟨A, hA⟩ : ∃ A, (s.toList == [40]) = A := ⟨_, rfl⟩
      obtain ⟨B, hB⟩ : ∃ A, (s.toList == [41]) = A := ⟨_, rfl⟩
      have hK2 : (k != 4) = !K := by rw [← hK]; rfl
      have hA2 : (s.toList != [40]) = !A := by rw [← hA]; rfl
      have hB2 : (s.toList != [41]) = !B := by rw [← hB]; rfl
      rw [hK, hA, hB] at hst
      have HST := Lib.hid hst
      have HOWN := Lib.hid hown
      clear hst hown hcell1 hx htk hacc hk0
      have hcase : (K = true ∧ A = true) ∨ (K = true ∧ A = false ∧ B = true) ∨ (K = false) ∨ (K = true ∧ A = false ∧ B = false) := by
        cases K <;> cases A <;> cases B <;> simp
      rcases hcase with ⟨rfl, rfl⟩ | ⟨rfl, rfl, rfl⟩ | rfl | ⟨rfl, rfl, rfl⟩
      · go_wp2_with fail
        have hz : plainT (L.take (j + 1)) = acc := by simpa using HST.out
        exact ⟨⟨j + 1, by omega, by go_num, hbel.to_alloc _, by rw [hz]; exact HOWN.out.alloc _⟩, by simp [intOf]; omega⟩
      · go_wp2_with fail
        have hz : plainT (L.take (j + 1)) = acc := by simpa using HST.out
        exact ⟨⟨j + 1, by omega, by go_num, hbel.to_alloc _, by rw [hz]; exact HOWN.out.alloc _⟩, by simp [intOf]; omega⟩
      · go_wp2_with (at_builtin; refine wpL_append1 rfl _ _ 38 rfl w 43 (.agg #[.int .i64 0, .int .i64 0, .string ⟨#[]⟩]) 3 32 Tryz.underlying38 info_lex rfl (by decide) (by decide) _ acc.length (lexCells acc) rfl ((HOWN.out.alloc _).alloc _) ⟨wr.heap.size + 1, 0, none⟩ 1 [.int .i64 k, .int .i64 p, .string s] rfl rfl (cells3_new _ _ _ _ _ _) (by simp [Value.oneCell']) (by omega) ((hbel.to_alloc _).to_alloc _) ?_; intro g2 cp w4 hown4 hb4 hb5; have HOWN4 := Lib.hid hown4; clear hown4)
        have hz := HST.out
        rw [if_neg (by simp)] at hz
        exact ⟨⟨j + 1, by omega, by go_num, hb4, by rw [hz, lexCells_snoc, List.length_append]; exact HOWN4.out⟩, by simp [intOf]; omega⟩
      · go_wp2_with (at_builtin; refine wpL_append1 rfl _ _ 38 rfl w 43 (.agg #[.int .i64 0, .int .i64 0, .string ⟨#[]⟩]) 3 32 Tryz.underlying38 info_lex rfl (by decide) (by decide) _ acc.length (lexCells acc) rfl ((HOWN.out.alloc _).alloc _) ⟨wr.heap.size + 1, 0, none⟩ 1 [.int .i64 k, .int .i64 p, .string s] rfl rfl (cells3_new _ _ _ _ _ _) (by simp [Value.oneCell']) (by omega) ((hbel.to_alloc _).to_alloc _) ?_; intro g2 cp w4 hown4 hb4 hb5; have HOWN4 := Lib.hid hown4; clear hown4)
        have hz := HST.out
        rw [if_neg (by simp)] at hz
        exact ⟨⟨j + 1, by omega, by go_num, hb4, by rw [hz, lexCells_snoc, List.length_append]; exact HOWN4.out⟩, by simp [intOf]; omega⟩
    · obtain rfl : j = n := by omega
      have hfin : L.take j = L := List.take_of_length_le (by rw [HN.out]; exact Nat.le_refl _)
      rw [hfin] at hown
      have HOWN := Lib.hid hown
      clear hown hfin
      go_wp2_with fail
      go_ret
      exact ⟨hbel, _, rfl, HOWN.out⟩
/-! counts -/
theorem ownS_le (k : Int) (s : ByteArray) : ownS k s ≤ 1 ∧ halfS k s ≤ 1 := by
  unfold ownS halfS
  constructor
  · split
    · omega
    · split <;> omega
  · split <;> omega
mutual
theorem ownE_le : ∀ e : Ex, ownE e + 1 ≤ 2 * e.bulk
  | .mk k s ns l => by
    unfold ownE Ex.bulk
    have := ownsE_le l
    have := (ownS_le k s).1
    omega
theorem ownsE_le : ∀ l : List Ex, ownsE l ≤ 2 * Ex.bulk.bulks l
  | [] => by unfold ownsE; omega
  | x :: r => by
    unfold ownsE Ex.bulk.bulks
    have := ownE_le x
    have := ownsE_le r
    split <;> omega
end
mutual
theorem halfE_le : ∀ e : Ex, halfE e ≤ e.bulk
  | .mk k s ns l => by
    unfold halfE Ex.bulk
    have := halfsE_le l
    have := (ownS_le k s).2
    omega
theorem halfsE_le : ∀ l : List Ex, halfsE l ≤ Ex.bulk.bulks l
  | [] => by unfold halfsE; omega
  | x :: r => by
    unfold halfsE Ex.bulk.bulks
    have := halfE_le x
    have := halfsE_le r
    omega
end
theorem ownsE_take : ∀ (l : List Ex) (j : Nat) (x : Ex), l[j]? = some x → ownsE (l.take (j + 1)) = ownsE (l.take j) + ownE x + (if x.k = 19 then 0 else 1)
  | [], _, _, h => by cases h
  | y :: r, 0, x, h => by cases h; rw [List.take_succ_cons, List.take_zero, List.take_zero, ownsE_cons, ownsE_nil]; omega
  | y :: r, j + 1, x, h => by
    have := ownsE_take r j x h
    rw [List.take_succ_cons, List.take_succ_cons, ownsE_cons, ownsE_cons, this]
    omega
theorem halfsE_take : ∀ (l : List Ex) (j : Nat) (x : Ex), l[j]? = some x → halfsE (l.take (j + 1)) = halfsE (l.take j) + halfE x
  | [], _, _, h => by cases h
  | y :: r, 0, x, h => by cases h; rw [List.take_succ_cons, List.take_zero, List.take_zero, halfsE_cons, halfsE_nil]; omega
  | y :: r, j + 1, x, h => by
    have := halfsE_take r j x h
    rw [List.take_succ_cons, List.take_succ_cons, halfsE_cons, halfsE_cons, this]
    omega
theorem bulks_takeE : ∀ (l : List Ex) (i : Nat), Ex.bulk.bulks (l.take i) ≤ Ex.bulk.bulks l
  | [], i => by simp
  | x :: r, 0 => by rw [List.take_zero]; unfold Ex.bulk.bulks; omega
  | x :: r, i + 1 => by rw [List.take_succ_cons]; unfold Ex.bulk.bulks; have := bulks_takeE r i; omega
theorem u8_eq (x : UInt8) (n : Nat) {E : Bool} (hE : ((x.toNat : Int) == (n : Int)) = E) (hn : n < 256 := by omega) : decide (x = UInt8.ofNat n) = E := by
  rw [← hE, Bool.eq_iff_iff, decide_eq_true_eq, beq_iff_eq]
  constructor
  · intro h
    rw [h]
    simp
    omega
  · intro h
    have h2 : x.toNat = n := by omega
    rw [← h2]
    simp
set_option maxRecDepth 100000 in
set_option maxHeartbeats 8000000 in
theorem counts_c : ∀ (n : Nat) (e : Ex), e.bulk ≤ n → n ≤ 1048576 → ∀ (vn vl : Value) (w : World), ExAt w e vn vl →
    Calls Tryz.prog 18 #[.agg #[.int .i64 e.k, .string e.s, vn, vl]] w (RetBel (.tuple #[.int .i64 (ownE e), .int .i64 (halfE e)]) w) := by
  intro n
  induction n with
  | zero => intro e he; exfalso; have := bulk_eq e; omega
  | succ n ih =>
    intro e he hn vn vl w hat
    obtain ⟨na, la, nn, nc, m, lc, rfl, rfl, _, hm, _, hmc, _, _, _, hpa⟩ := hat.opened
    have HD := Lib.hid (ownE_eq e)
    have HF := Lib.hid (halfE_eq e)
    have hbp := bulk_parts e
    have HTB : Hid (∀ i, ownsE (e.l.take i) ≤ 2097152 ∧ halfsE (e.l.take i) ≤ 1048576) := Lib.hid fun i => by
      have h1 := ownsE_le (e.l.take i)
      have h2 := halfsE_le (e.l.take i)
      have h3 := bulks_takeE e.l i
      omega
    have IH := Lib.hid ih
    have HP := Lib.hid hpa
    have HBP : Hid (∀ (i : Nat) (x : Ex), e.l[i]? = some x → x.bulk ≤ n) := Lib.hid fun i x hx => by have := bulk_part hx; omega
    have HM := Lib.hid hm
    have hso := ownS_le e.k e.s
    obtain ⟨P, hP⟩ : ∃ P, ownS e.k e.s = P := ⟨_, rfl⟩
    obtain ⟨H, hH⟩ : ∃ P, halfS e.k e.s = P := ⟨_, rfl⟩
    rw [hP] at HD hso
    rw [hH] at HF hso
    obtain ⟨D, hD⟩ : ∃ D, ownE e = D := ⟨_, rfl⟩
    obtain ⟨F, hF⟩ : ∃ D, halfE e = D := ⟨_, rfl⟩
    rw [hD] at HD ⊢
    rw [hF] at HF ⊢
    have HPP := Lib.hid hP
    have HHH := Lib.hid hH
    obtain ⟨V1, h1, k1, l1, s1⟩ := alloc_step w 25 [.int .i64 e.k, .string e.s, .slice na nn nc, .slice la m lc]
    have c0 := Lib.hid (k1.at 0)
    have c1 := Lib.hid (k1.at 1)
    have c2 := Lib.hid (k1.at 2)
    have c3 := Lib.hid (k1.at 3)
    have HV1 := Lib.hid h1
    have L1 := Lib.hid l1
    clear ih hm hat hD hF hP hH hpa h1 k1 l1 s1 hbp
    go_enter Tryz.func18, Tryz.ntmps18
    go_upto_region 1 with fail
    rw [show w.alloc (.cells #[.int .i64 e.k, .string e.s, .slice na nn nc, .slice la m lc] 25) = V1 from HV1.out]
    clear HV1
    go_upto_block 0 with fail
    go_cut [4, 5] (fun a b wx => a = .int .i64 P ∧ b = .int .i64 H ∧ Bel V1 wx)
    case first =>
      have d0 := c0.out
      have d1 := c1.out
      obtain ⟨A, hA⟩ : ∃ A, (e.k == 10) = A := ⟨_, rfl⟩
      obtain ⟨B, hB⟩ : ∃ A, (e.k == 15) = A := ⟨_, rfl⟩
      obtain ⟨C, hC⟩ : ∃ A, (e.k == 18) = A := ⟨_, rfl⟩
      have HA := Lib.hid hA
      have HB := Lib.hid hB
      have HC := Lib.hid hC
      cases A
      · have hk1 : ¬ e.k = 10 := by simpa using HA.out
        have HK1 := Lib.hid hk1
        clear hk1
        cases B
        · have hk2 : ¬ e.k = 15 := by simpa using HB.out
          have HK2 := Lib.hid hk2
          clear hk2
          cases C
          · have hk3 : ¬ e.k = 18 := by simpa using HC.out
            have hp0 : P = 0 := by rw [← HPP.out]; exact own_no _ hk3 HK1.out HK2.out
            have hh0 : H = 0 := by rw [← HHH.out]; exact half_no _ hk3
            clear hk3
            go_wp2_with fail
            go_meet
            exact ⟨int_eq (by omega), int_eq (by omega), Bel.refl _⟩
          · have hk3 : e.k = 18 := by simpa using HC.out
            have HK3 := Lib.hid hk3
            clear hk3
            by_cases h2 : e.s.size = 2
            · have p0 : 0 < e.s.size := by omega
              have p1 : 1 < e.s.size := by omega
              have HG0 := Lib.hid (get_at e.s 0 p0)
              have HG1 := Lib.hid (get_at e.s 1 p1)
              obtain ⟨x0, hx0⟩ : ∃ x, e.s[0]'p0 = x := ⟨_, rfl⟩
              obtain ⟨x1, hx1⟩ : ∃ x, e.s[1]'p1 = x := ⟨_, rfl⟩
              rw [hx0] at HG0
              rw [hx1] at HG1
              have hi2 : ((e.s.size : Int) == 2) = true := by rw [h2]; rfl
              have q0 : (0 : Int) < e.s.size := by omega
              have q1 : (1 : Int) < e.s.size := by omega
              have HH2 := Lib.hid h2
              obtain ⟨E0, hE0⟩ : ∃ A, ((x0.toNat : Int) == 40) = A := ⟨_, rfl⟩
              obtain ⟨E1, hE1⟩ : ∃ A, ((x1.toNat : Int) == 41) = A := ⟨_, rfl⟩
              have hu0 : decide (e.s.get! 0 = 40) = E0 := by rw [HG0.out]; exact u8_eq x0 40 hE0
              have hu1 : decide (e.s.get! 1 = 41) = E1 := by rw [HG1.out]; exact u8_eq x1 41 hE1
              have hp0 : P = if E0 = true then 1 else 0 := by
                rw [← HPP.out]
                unfold ownS
                rw [if_neg (fun e => e.elim HK1.out HK2.out), ← hu0]
                simp [HK3.out, h2]
              have hh0 : H = if (E0 != E1) = true then 1 else 0 := by
                rw [← HHH.out]
                unfold halfS
                rw [hu0, hu1]
                simp [HK3.out, h2]
              clear h2 hu0 hu1
              cases E0 <;> cases E1
              · have h3 : P = 0 := by simpa using hp0
                have h4 : H = 0 := by simpa using hh0
                clear hp0 hh0
                go_wp2_with fail
                go_quiet (fail)
                go_wp2_with fail
                go_meet
                exact ⟨int_eq (by omega), int_eq (by omega), by (repeat (first | exact Bel.refl _ | assumption | refine Bel.to_drewN ?_ _ | refine Bel.to_drew ?_ | refine Bel.to_setCell ?_ (by first | exact Nat.le_refl _ | (simp; done) | (simp; omega) | omega) _ | refine Bel.to_alloc ?_ _ | refine Bel.trans ?_ (by assumption)))⟩
              · have h3 : P = 0 := by simpa using hp0
                have h4 : H = 1 := by simpa using hh0
                clear hp0 hh0
                go_wp2_with fail
                go_quiet (fail)
                go_wp2_with fail
                go_meet
                exact ⟨int_eq (by omega), int_eq (by omega), by (repeat (first | exact Bel.refl _ | assumption | refine Bel.to_drewN ?_ _ | refine Bel.to_drew ?_ | refine Bel.to_setCell ?_ (by first | exact Nat.le_refl _ | (simp; done) | (simp; omega) | omega) _ | refine Bel.to_alloc ?_ _ | refine Bel.trans ?_ (by assumption)))⟩
              · have h3 : P = 1 := by simpa using hp0
                have h4 : H = 1 := by simpa using hh0
                clear hp0 hh0
                go_wp2_with fail
                go_quiet (fail)
                go_wp2_with fail
                go_meet
                exact ⟨int_eq (by omega), int_eq (by omega), by (repeat (first | exact Bel.refl _ | assumption | refine Bel.to_drewN ?_ _ | refine Bel.to_drew ?_ | refine Bel.to_setCell ?_ (by first | exact Nat.le_refl _ | (simp; done) | (simp; omega) | omega) _ | refine Bel.to_alloc ?_ _ | refine Bel.trans ?_ (by assumption)))⟩
              · have h3 : P = 1 := by simpa using hp0
                have h4 : H = 0 := by simpa using hh0
                clear hp0 hh0
                go_wp2_with fail
                go_quiet (fail)
                go_wp2_with fail
                go_meet
                exact ⟨int_eq (by omega), int_eq (by omega), by (repeat (first | exact Bel.refl _ | assumption | refine Bel.to_drewN ?_ _ | refine Bel.to_drew ?_ | refine Bel.to_setCell ?_ (by first | exact Nat.le_refl _ | (simp; done) | (simp; omega) | omega) _ | refine Bel.to_alloc ?_ _ | refine Bel.trans ?_ (by assumption)))⟩
            · have hi2 : ((e.s.size : Int) == 2) = false := beq_eq_false_iff_ne.2 (by omega)
              have hp0 : P = 0 := by
                rw [← HPP.out]; unfold ownS
                rw [if_neg (fun e => e.elim HK1.out HK2.out), if_neg (fun e => h2 e.2.1)]
              have hh0 : H = 0 := by rw [← HHH.out]; unfold halfS; rw [if_neg (fun e => h2 e.2.1)]
              clear h2
              go_wp2_with fail
              go_meet
              exact ⟨int_eq (by omega), int_eq (by omega), Bel.refl _⟩
        · have hk2 : e.k = 15 := by simpa using HB.out
          have hp0 : P = 1 := by rw [← HPP.out]; exact own_one _ (.inr hk2)
          have hh0 : H = 0 := by rw [← HHH.out]; exact half_no _ (by omega)
          clear hk2
          go_wp2_with fail
          go_meet
          exact ⟨int_eq (by omega), int_eq (by omega), Bel.refl _⟩
      · have hk2 : e.k = 10 := by simpa using HA.out
        have hp0 : P = 1 := by rw [← HPP.out]; exact own_one _ (.inl hk2)
        have hh0 : H = 0 := by rw [← HHH.out]; exact half_no _ (by omega)
        clear hk2
        go_wp2_with fail
        go_meet
        exact ⟨int_eq (by omega), int_eq (by omega), Bel.refl _⟩
    case rest =>
    obtain ⟨rfl, rfl, hb⟩ := hcut
    have d3 := hb.keep c3.out
    have HBV := Lib.hid (L1.out.trans hb)
    clear hb
    go_wp2_with fail
    go_loopw [4, 5, 51] (fun a b i wr => ∃ j : Nat, j ≤ m ∧ i = .int .i64 j ∧ a = .int .i64 ((P + ownsE (e.l.take j) : Nat) : Int) ∧ b = .int .i64 ((H + halfsE (e.l.take j) : Nat) : Int) ∧ Bel w wr) (fun _ _ i _ => m - (intOf i).toNat)
    case atStart => exact ⟨0, Nat.zero_le _, rfl, by rw [List.take_zero, ownsE_nil]; rfl, by rw [List.take_zero, halfsE_nil]; rfl, HBV.out⟩
    case round =>
      obtain ⟨j, hj, rfl, rfl, rfl, hbel⟩ := hrel
      by_cases hlt : j < m
      · have hlti : (j : Int) < m := by omega
        obtain ⟨x, hx⟩ : ∃ x, e.l[j]? = some x := ⟨_, List.getElem?_eq_getElem (by have := HM.out; omega)⟩
        obtain ⟨pb, po, xna, xnn, xnc, xla, xln, xlc, rfl, g0, g1, g2, g3, ha⟩ := HP.out j x hx
        have f0 := hbel.keep g0
        have f1 := hbel.keep g1
        have f2 := hbel.keep g2
        have f3 := hbel.keep g3
        have HQ : Hid (∀ W, Bel w W → Calls Tryz.prog 18 #[.agg #[.int .i64 x.k, .string x.s, .slice xna xnn xnc, .slice xla xln xlc]] W (RetBel (.tuple #[.int .i64 (ownE x), .int .i64 (halfE x)]) W)) := Lib.hid fun W hW => IH.out x (HBP.out j x hx) (by omega) _ _ W (ExAt.bel hW x ha)
        have h1 := ownsE_take e.l j x hx
        have h2 := halfsE_take e.l j x hx
        have h3 := HTB.out (j + 1)
        rw [h1, h2] at h3
        obtain ⟨q1, hq1⟩ : ∃ q, P + ownsE (e.l.take j) = q := ⟨_, rfl⟩
        obtain ⟨q2, hq2⟩ : ∃ q, H + halfsE (e.l.take j) = q := ⟨_, rfl⟩
        have h4 : ∀ K : Bool, (x.k == 19) = K → P + ownsE (e.l.take (j + 1)) = q1 + ownE x + (if K = true then 0 else 1) := fun K hK => by
          rw [h1, ← hq1]
          cases K
          · have : ¬ x.k = 19 := by simpa using hK
            rw [if_neg this, if_neg (by simp)]
            omega
          · have : x.k = 19 := by simpa using hK
            rw [if_pos this, if_pos rfl]
            omega
        have h5 : H + halfsE (e.l.take (j + 1)) = q2 + halfE x := by rw [h2, ← hq2]; omega
        obtain ⟨ox, hox⟩ : ∃ q, ownE x = q := ⟨_, rfl⟩
        obtain ⟨hx2, hhx⟩ : ∃ q, halfE x = q := ⟨_, rfl⟩
        rw [hox] at HQ h4 h3
        rw [hhx] at HQ h5 h3
        have hle1 : q1 + ox ≤ 2097160 := by omega
        have hle2 : q2 + hx2 ≤ 1048580 := by omega
        obtain ⟨K, hK⟩ : ∃ K, (x.k == 19) = K := ⟨_, rfl⟩
        have hK2 : (x.k != 19) = !K := by rw [← hK]; rfl
        replace h4 := h4 K hK
        have H4 := Lib.hid h4
        have H5 := Lib.hid h5
        have HBL := Lib.hid hbel
        rw [hq1, hq2]
        clear g0 g1 g2 g3 ha hx h1 h2 h3 h4 h5 hq1 hq2 hox hhx hbel
        obtain ⟨V3, h1, k1, l1, s1⟩ := alloc_step wr 25 [.int .i64 x.k, .string x.s, .slice xna xnn xnc, .slice xla xln xlc]
        have HV3 := Lib.hid h1
        have L3 := Lib.hid l1
        have y0 := k1.at 0
        have y1 := k1.at 1
        have y2 := k1.at 2
        have y3 := k1.at 3
        clear h1 k1 l1 s1
        go_upto_region 12 with fail
        rw [show wr.alloc (.cells #[.int .i64 x.k, .string x.s, .slice xna xnn xnc, .slice xla xln xlc] 25) = V3 from HV3.out]
        clear f0 f1 f2 f3 HV3
        go_wp2_with fail
        refine (HQ.out _ (HBL.out.trans L3.out)).mono ?_
        rintro e2 w2 ⟨rfl, hb2⟩
        have z0 := hb2.keep y0
        have HB2 := Lib.hid (HBL.out.trans (L3.out.trans hb2))
        clear hb2 y0 y1 y2 y3
        cases K
        · go_wp2_with fail
          exact ⟨⟨j + 1, by omega, by go_num, int_eq (by have := H4.out; rw [if_neg (by simp)] at this; omega), int_eq (by have := H5.out; omega), HB2.out⟩, by simp [intOf]; omega⟩
        · go_wp2_with fail
          exact ⟨⟨j + 1, by omega, by go_num, int_eq (by have := H4.out; simp at this; omega), int_eq (by have := H5.out; omega), HB2.out⟩, by simp [intOf]; omega⟩
      · obtain rfl : j = m := by omega
        have hfin : e.l.take j = e.l := List.take_of_length_le (by rw [HM.out]; exact Nat.le_refl _)
        rw [hfin]
        go_wp2_with fail
        go_ret2
        have e1 := HD.out
        have e2 := HF.out
        subst e1 e2
        exact ⟨rfl, hbel⟩
end Go.Proofs.YtpenfnabeckboaaGreatDoor

namespace Go.Proofs.YtpenfnabeckboaaGreatDoor
open Go.RowKit

theorem results_cell6 {P : Program} {fn : Func} {p : Tmp} {ty : TypeId} (h : fn.results = #[.cell p ty]) (tmps : Array Value) (w : World) (g : Nat) (v : Value)
    (hp : tmps.getD p undef = .pointer (some ⟨g, 0, none⟩)) (hl : (loadVar ty ⟨g, 0, none⟩).run P w = .ok v w) : (results fn tmps).run P w = .ok v w := by
  have hp' : tmps[p]?.getD undef = .pointer (some ⟨g, 0, none⟩) := by simpa using hp
  simp [results, h, hp', asAddr, hl]
def sixG : List UInt8 := [40, 91, 41, 93, 123, 125]
def sixV (f : Nat → Nat) : List Value := [.int .i64 (f 0), .int .i64 (f 1), .int .i64 (f 2), .int .i64 (f 3), .int .i64 (f 4), .int .i64 (f 5)]
theorem sixV_at (f : Nat → Nat) {m : Nat} (h : m < 6) : (sixV f)[m]? = some (.int .i64 (f m)) := by
  match m, h with
  | 0, _ => rfl
  | 1, _ => rfl
  | 2, _ => rfl
  | 3, _ => rfl
  | 4, _ => rfl
  | 5, _ => rfl
theorem sixV_congr {f g : Nat → Nat} (h : ∀ i, i < 6 → f i = g i) : sixV f = sixV g := by
  unfold sixV
  rw [h 0 (by omega), h 1 (by omega), h 2 (by omega), h 3 (by omega), h 4 (by omega), h 5 (by omega)]
theorem sixV_set {f g : Nat → Nat} {m : Nat} (h : m < 6) (hm : g m = f m + 1) (ho : ∀ i, i < 6 → i ≠ m → g i = f i) : (sixV f).set m (.int .i64 ((f m : Int) + 1)) = sixV g := by
  have hmi : (g m : Int) = (f m : Int) + 1 := by omega
  rw [← hmi]
  match m, h with
  | 0, _ => unfold sixV; rw [ho 1 (by omega) (by omega), ho 2 (by omega) (by omega), ho 3 (by omega) (by omega), ho 4 (by omega) (by omega), ho 5 (by omega) (by omega)]; rfl
  | 1, _ => unfold sixV; rw [ho 0 (by omega) (by omega), ho 2 (by omega) (by omega), ho 3 (by omega) (by omega), ho 4 (by omega) (by omega), ho 5 (by omega) (by omega)]; rfl
  | 2, _ => unfold sixV; rw [ho 0 (by omega) (by omega), ho 1 (by omega) (by omega), ho 3 (by omega) (by omega), ho 4 (by omega) (by omega), ho 5 (by omega) (by omega)]; rfl
  | 3, _ => unfold sixV; rw [ho 0 (by omega) (by omega), ho 1 (by omega) (by omega), ho 2 (by omega) (by omega), ho 4 (by omega) (by omega), ho 5 (by omega) (by omega)]; rfl
  | 4, _ => unfold sixV; rw [ho 0 (by omega) (by omega), ho 1 (by omega) (by omega), ho 2 (by omega) (by omega), ho 3 (by omega) (by omega), ho 5 (by omega) (by omega)]; rfl
  | 5, _ => unfold sixV; rw [ho 0 (by omega) (by omega), ho 1 (by omega) (by omega), ho 2 (by omega) (by omega), ho 3 (by omega) (by omega), ho 4 (by omega) (by omega)]; rfl
/-- With one token more, held against the first m signs. -/
def fz (f : Nat → Nat) (t : ByteArray) (m i : Nat) : Nat := f i + (if i < m ∧ t = ⟨#[sixG.getD i 0]⟩ then 1 else 0)
theorem fz_zero (f : Nat → Nat) (t : ByteArray) : sixV (fz f t 0) = sixV f := sixV_congr fun i _ => by unfold fz; rw [if_neg (by omega)]; rfl
theorem fz_far (f : Nat → Nat) (t : ByteArray) (m : Nat) : ∀ i, i ≠ m → fz f t (m + 1) i = fz f t m i := by
  intro i hi
  unfold fz
  by_cases h : i < m ∧ t = ⟨#[sixG.getD i 0]⟩
  · rw [if_pos h, if_pos ⟨by omega, h.2⟩]
  · rw [if_neg h, if_neg (fun e => h ⟨by omega, e.2⟩)]
theorem fz_hit (f : Nat → Nat) (t : ByteArray) (m : Nat) (h : t = ⟨#[sixG.getD m 0]⟩) : fz f t (m + 1) m = fz f t m m + 1 := by
  unfold fz
  rw [if_pos ⟨by omega, h⟩, if_neg (by omega)]
theorem fz_miss (f : Nat → Nat) (t : ByteArray) (m : Nat) (h : ¬ t = ⟨#[sixG.getD m 0]⟩) : sixV (fz f t (m + 1)) = sixV (fz f t m) := sixV_congr fun i _ => by
  by_cases hi : i = m
  · subst hi; unfold fz; rw [if_neg (fun e => h e.2), if_neg (fun e => h e.2)]
  · exact fz_far f t m i hi
theorem fz_le (f : Nat → Nat) (t : ByteArray) (m i : Nat) : fz f t m i ≤ f i + 1 := by unfold fz; split <;> omega
def cS (L : List (Int × Nat × ByteArray)) (i : Nat) : Nat := cT (sixG.getD i 0) L
theorem cS_snoc (L : List (Int × Nat × ByteArray)) (k : Int) (p : Nat) (t : ByteArray) (i : Nat) : cS (L ++ [(k, p, t)]) i = cS L i + (if k = 4 ∧ t = ⟨#[sixG.getD i 0]⟩ then 1 else 0) := by
  unfold cS cT
  rw [List.map_append, cn_append, List.map_singleton, cn_cons, cn_nil]
  show _ + ((if (k, t) = (4, ⟨#[sixG.getD i 0]⟩) then 1 else 0) + 0) = _
  rw [Nat.add_zero]
  simp only [Prod.mk.injEq]
theorem cS_le (L : List (Int × Nat × ByteArray)) (i : Nat) : cS L i ≤ L.length := by
  unfold cS cT cn
  have := List.countP_le_length (p := fun t => decide (t = sg (sixG.getD i 0))) (l := L.map unT)
  rwa [List.length_map] at this
def keep6 : TypeId → Bool := fun t => decide (t ≠ 44)
theorem KeepT.blk6 {p : TypeId → Bool} {W W' : World} (h : KeepT p W W') {b t : Nat} {cs : List Value} (hb : Blk W b t cs) (hp : p t = true) : Blk W' b t cs := (h.2 b _ _ _ hb hp).trans hb
theorem own_cells {W : World} {B : Nat} {v : Value} {L : List (Int × Nat × ByteArray)} (h : W.ownsRow B 43 3 v L.length (lexCells L)) :
    ∃ a cap, v = .slice a L.length cap ∧ (L = [] ∨ ∃ g off, a = some ⟨g, off, none⟩ ∧ L.length ≤ cap ∧ ∀ W', KeepT keep6 W W' → ∀ j x, L[j]? = some x →
      W'.cell? ⟨g, off + j * 3, none⟩ = some (.int .i64 x.1) ∧ W'.cell? ⟨g, off + j * 3 + 1, none⟩ = some (.int .i64 x.2.1) ∧ W'.cell? ⟨g, off + j * 3 + 2, none⟩ = some (.string x.2.2)) := by
  have h2 := h
  obtain ⟨hl, ⟨rfl, h0⟩ | ⟨g, cap, cur, rfl, hg, hh, hn, _, hsz, ht⟩⟩ := h
  · exact ⟨none, 0, by rw [h0], .inl (List.eq_nil_of_length_eq_zero h0)⟩
  · refine ⟨_, cap, rfl, .inr ⟨g, 0, rfl, hn, fun W' hk j x hx => ?_⟩⟩
    rcases own_rowL (hk.own h2 (by decide)) with ⟨h3, h4⟩ | ⟨b, off, cap', h3, _, _, h4⟩
    · rw [List.map_eq_nil_iff.1 h4] at hx; cases hx
    · injection h3 with h3 _ _
      injection h3 with h3
      injection h3 with e1 e2 _
      subst e1 e2
      exact h4 j (toLx x) (by rw [List.getElem?_map, hx]; rfl)
theorem six_fin {w W : World} (f : Nat → Nat) (hB : Blk W w.heap.size 44 (sixV fun _ => 0)) (hb : Bel w W) :
    (loadVar 44 ⟨w.heap.size, 0, none⟩).run Tryz.prog (W.setCells w.heap.size 0 (sixV f)) = .ok (.agg (sixV f).toArray) (W.setCells w.heap.size 0 (sixV f)) ∧ Bel w (W.setCells w.heap.size 0 (sixV f)) := by
  have ht : W.there w.heap.size 0 6 := by
    intro j hj
    refine ⟨?_, hB.fz _⟩
    rw [Nat.zero_add, hB.at, sixV_at _ hj]
    rfl
  refine ⟨run_loadVar_mid _ w.heap.size 0 44 (sixV f) _ (World.rangeAt_setCells_same W _ _ _ ht) Tryz.underlying44 rfl (by kernel_rfl), ?_⟩
  exact Bel.to_setCell (Bel.to_setCell (Bel.to_setCell (Bel.to_setCell (Bel.to_setCell (Bel.to_setCell hb (p := ⟨w.heap.size, 0, none⟩) (Nat.le_refl _) _) (p := ⟨w.heap.size, 1, none⟩) (Nat.le_refl _) _) (p := ⟨w.heap.size, 2, none⟩) (Nat.le_refl _) _) (p := ⟨w.heap.size, 3, none⟩) (Nat.le_refl _) _) (p := ⟨w.heap.size, 4, none⟩) (Nat.le_refl _) _) (p := ⟨w.heap.size, 5, none⟩) (Nat.le_refl _) _
def sixS : List Value := [.string ⟨#[40]⟩, .string ⟨#[91]⟩, .string ⟨#[41]⟩, .string ⟨#[93]⟩, .string ⟨#[123]⟩, .string ⟨#[125]⟩]
theorem sixS_at {m : Nat} (h : m < 6) : sixS[m]? = some (.string ⟨#[sixG.getD m 0]⟩) := by
  match m, h with
  | 0, _ => rfl
  | 1, _ => rfl
  | 2, _ => rfl
  | 3, _ => rfl
  | 4, _ => rfl
  | 5, _ => rfl
set_option maxRecDepth 100000 in
set_option maxHeartbeats 8000000 in
theorem lsigns_c (s : ByteArray) (hs : s.size ≤ 4294967280) (w : World) (hE : Env w) (hw : SignsAt w) :
    Calls Tryz.prog 17 #[.string s] w (RetBel (.agg (sixV (cS (lexS s).1)).toArray) w) := by
  have hlen := lexS_len s
  obtain ⟨⟨L, R2, R3⟩, hR⟩ : ∃ R, lexS s = R := ⟨_, rfl⟩
  have HLX : Hid (∀ W, Bel w W → Calls Tryz.prog 15 #[.string s] W (RetLex (L, R2, R3) W)) := Lib.hid fun W hW => by rw [← hR]; exact lex_c s hs W (hE.bel hW) (signs_bel hw hW)
  rw [hR] at hlen ⊢
  dsimp only at hlen ⊢
  obtain ⟨n, hn⟩ : ∃ n, L.length = n := ⟨_, rfl⟩
  have HN := Lib.hid hn
  rw [hn] at hlen
  obtain ⟨V1, h1, k1, l1, s1⟩ := alloc_step w 44 (sixV fun _ => 0)
  obtain ⟨V2, h2, k2, l2, s2⟩ := alloc_step V1 44 (sixV fun _ => 0)
  have HV1 := Lib.hid h1
  have HV2 := Lib.hid h2
  have HB2 := Lib.hid (l1.trans l2)
  have K1 := Lib.hid (k1.bel l2)
  have K2 := Lib.hid k2
  have HGE : Hid (w.heap.size < V1.heap.size) := Lib.hid (by omega)
  clear hR hn hE hw h1 h2 k1 k2 l1 l2 s1 s2
  go_enter Tryz.func17, Tryz.ntmps17
  go_upto_region 1 with fail
  rw [show w.alloc (.cells #[.int .i64 0, .int .i64 0, .int .i64 0, .int .i64 0, .int .i64 0, .int .i64 0] 44) = V1 from HV1.out]
  go_upto_region 2 with fail
  rw [show V1.alloc (.cells #[.int .i64 0, .int .i64 0, .int .i64 0, .int .i64 0, .int .i64 0, .int .i64 0] 44) = V2 from HV2.out]
  clear HV1 HV2
  go_wp2_with fail
  refine (HLX.out _ HB2.out).mono ?_
  rintro e3 w3 ⟨hb3, v, rfl, hown⟩
  have HB3 := Lib.hid (HB2.out.trans hb3)
  have K13 := Lib.hid (K1.out.bel hb3)
  have K23 := Lib.hid (K2.out.bel hb3)
  obtain ⟨a3, c3, rfl, hcell⟩ := own_cells hown
  dsimp only
  rw [show L.length = n from HN.out] at hcell ⊢
  have HC := Lib.hid hcell
  clear hb3 hown hcell K1 K2 HB2
  go_wp2_with fail
  go_loopw [19] (fun i wr => ∃ j : Nat, j ≤ n ∧ i = .int .i64 j ∧ KeepT keep6 w3 wr ∧ Bel w wr ∧ Blk wr w.heap.size 44 (sixV fun _ => 0) ∧ Blk wr V1.heap.size 44 (sixV (cS (L.take j)))) (fun i _ => n - (intOf i).toNat)
  case atStart => exact ⟨0, Nat.zero_le _, rfl, KeepT.refl _ _, HB3.out, K13.out, by rw [List.take_zero, show sixV (cS []) = sixV (fun _ => 0) from rfl]; exact K23.out⟩
  case round =>
    obtain ⟨j, hj, rfl, hkt, hbel, hz, hnb⟩ := hrel
    by_cases hlt : j < n
    · have hlti : (j : Int) < n := by omega
      obtain ⟨x, hx⟩ : ∃ x, L[j]? = some x := ⟨_, List.getElem?_eq_getElem (by have := HN.out; omega)⟩
      rcases HC.out with h0 | ⟨g, off, rfl, hcap, hcell⟩
      · have := HN.out; rw [h0] at this; simp at this; omega
      obtain ⟨f0, f1, f2⟩ := hcell wr hkt j x hx
      obtain ⟨k, p, t⟩ := x
      simp only at f0 f1 f2
      have htk : L.take (j + 1) = L.take j ++ [(k, p, t)] := by rw [List.take_add_one, hx]; rfl
      have hsn : ∀ i, cS (L.take (j + 1)) i = cS (L.take j) i + (if k = 4 ∧ t = ⟨#[sixG.getD i 0]⟩ then 1 else 0) := fun i => by rw [htk]; exact cS_snoc _ k p t i
      have hFle : ∀ i, cS (L.take j) i ≤ n := fun i => by have := cS_le (L.take j) i; rw [List.length_take] at this; omega
      obtain ⟨F, hF⟩ : ∃ F, cS (L.take j) = F := ⟨_, rfl⟩
      rw [hF] at hnb hsn hFle
      obtain ⟨K, hK⟩ : ∃ A, (k == 4) = A := ⟨_, rfl⟩
      have hK2 : (k != 4) = !K := by rw [← hK]; rfl
      obtain ⟨wo, rfl⟩ : ∃ W, W = wr := ⟨_, rfl⟩
      obtain ⟨V3, h3, k3, l3, s3⟩ := alloc_step wo 43 [.int .i64 k, .int .i64 p, .string t]
      obtain ⟨V4, h4, k4, l4, s4⟩ := alloc_step V3 9 sixS
      have HV3 := Lib.hid h3
      have HV4 := Lib.hid h4
      have y0 := k3.at 0
      have HT4 := Lib.hid (k3.bel l4)
      have HS4 := Lib.hid k4
      have HB3o := Lib.hid (hbel.trans l3)
      have HB4o := Lib.hid (hbel.trans (l3.trans l4))
      have HK3 := Lib.hid (hkt.trans (KeepT.of_bel l3))
      have HK4 := Lib.hid (hkt.trans (KeepT.of_bel (l3.trans l4)))
      have HZ3 := Lib.hid (hz.bel l3)
      have HN3 := Lib.hid (hnb.bel l3)
      have HZ4 := Lib.hid (hz.bel (l3.trans l4))
      have HN4 := Lib.hid (hnb.bel (l3.trans l4))
      have HSN := Lib.hid hsn
      have HFL := Lib.hid hFle
      have HKK := Lib.hid hK
      clear h3 h4 k3 k4 l3 l4 s3 s4 hkt hbel hz hnb hcell hx htk hsn hF hK hFle
      go_upto_region 6 with fail
      rw [show wo.alloc (.cells #[.int .i64 k, .int .i64 p, .string t] 43) = V3 from HV3.out]
      cases K
      · go_wp2_with fail
        have hk4 : ¬ k = 4 := by have := HKK.out; simpa using this
        exact ⟨⟨j + 1, by omega, by go_num, HK3.out, HB3o.out, HZ3.out, by rw [sixV_congr (g := F) fun i _ => by rw [HSN.out i, if_neg (fun e => hk4 e.1), Nat.add_zero]]; exact HN3.out⟩, by simp [intOf]; omega⟩
      · have hk4 : k = 4 := by have := HKK.out; simpa using this
        have HK4' := Lib.hid hk4
        clear hk4 f0 f1 f2
        go_wp2_with fail
        rw [show V3.alloc (.cells #[.string ⟨#[40]⟩, .string ⟨#[91]⟩, .string ⟨#[41]⟩, .string ⟨#[93]⟩, .string ⟨#[123]⟩, .string ⟨#[125]⟩] 9) = V4 from HV4.out]
        clear HV3 HV4 y0
        go_loopw [28] (fun i wr => ∃ q : Nat, q ≤ 6 ∧ i = .int .i64 q ∧ KeepT keep6 V4 wr ∧ Bel w wr ∧ Blk wr w.heap.size 44 (sixV fun _ => 0) ∧ Blk wr V1.heap.size 44 (sixV (fz F t q))) (fun i _ => 6 - (intOf i).toNat)
        case atStart => exact ⟨0, Nat.zero_le _, rfl, KeepT.refl _ _, HB4o.out, HZ4.out, by rw [fz_zero]; exact HN4.out⟩
        case round =>
          obtain ⟨q, hq, rfl, hkt, hbel, hz, hnb⟩ := hrel
          by_cases hq6 : q < 6
          · have hqi : (q : Int) < 6 := by omega
            have g1 : wr.cell? ⟨V3.heap.size, q, none⟩ = some (.string ⟨#[sixG.getD q 0]⟩) := by rw [(hkt.blk6 HS4.out (by decide)).at, sixS_at hq6]
            have g2 := (hkt.blk6 HT4.out (by decide)).at 2
            have g3 : wr.cell? ⟨V1.heap.size, q, none⟩ = some (.int .i64 (fz F t q q)) := by rw [hnb.at, sixV_at _ hq6]
            have g4 := hnb.fz
            obtain ⟨y, hy⟩ : ∃ y : ByteArray, ⟨#[sixG.getD q 0]⟩ = y := ⟨_, rfl⟩
            rw [hy] at g1
            obtain ⟨E, hE⟩ : ∃ E, (t.toList == y.toList) = E := ⟨_, rfl⟩
            have hle : fz F t q q ≤ 4294967290 := by have := fz_le F t q q; have := HFL.out q; omega
            obtain ⟨N, hN⟩ : ∃ N, fz F t q q = N := ⟨_, rfl⟩
            rw [hN] at g3 hle
            have HEE := Lib.hid hE
            have HY := Lib.hid hy
            have HNN := Lib.hid hN
            have HKT := Lib.hid hkt
            have HBL := Lib.hid hbel
            have HZ := Lib.hid hz
            have HNB := Lib.hid hnb
            clear hkt hbel hz hnb hy hN
            cases E
            · go_wp2_with fail
              have hne : ¬ t = ⟨#[sixG.getD q 0]⟩ := fun e => by
                have h1 := HEE.out
                rw [e, HY.out] at h1
                simp at h1
              exact ⟨⟨q + 1, by omega, by go_num, HKT.out, HBL.out, HZ.out, by rw [fz_miss F t q hne]; exact HNB.out⟩, by simp [intOf]; omega⟩
            · go_wp2_with fail
              have heq : t = ⟨#[sixG.getD q 0]⟩ := by
                have h1 := HEE.out
                rw [beq_iff_eq, Lib.toList_data, Lib.toList_data] at h1
                rw [HY.out]
                exact ByteArray.ext (Array.toList_inj.1 h1)
              have hst := HNB.out.set q (.int .i64 ((fz F t q q : Int) + 1))
              rw [sixV_set hq6 (fz_hit F t q heq) (fun i _ hi => fz_far F t q i hi), HNN.out] at hst
              exact ⟨⟨q + 1, by omega, by go_num, HKT.out.trans (KeepT.set HNB.out (by decide) _ _), Bel.to_setCell HBL.out (Nat.le_of_lt HGE.out) _, HZ.out.far (by have := HGE.out; show w.heap.size ≠ V1.heap.size; omega) _, hst⟩, by simp [intOf]; omega⟩
          · obtain rfl : q = 6 := by omega
            have HKT := Lib.hid hkt
            have HBL := Lib.hid hbel
            have HZ := Lib.hid hz
            have HNB := Lib.hid hnb
            clear hkt hbel hz hnb
            go_wp2_with fail
            exact ⟨⟨j + 1, by omega, by go_num, HK4.out.trans HKT.out, HBL.out, HZ.out, by
              rw [sixV_congr (g := fz F t 6) fun i hi => by
                rw [HSN.out i]
                unfold fz
                by_cases hh : t = ⟨#[sixG.getD i 0]⟩
                · rw [if_pos ⟨HK4'.out, hh⟩, if_pos ⟨hi, hh⟩]
                · rw [if_neg (fun e => hh e.2), if_neg (fun e => hh e.2)]]
              exact HNB.out⟩, by simp [intOf]; omega⟩
    · obtain rfl : j = n := by omega
      have hfin : L.take j = L := List.take_of_length_le (by rw [HN.out]; exact Nat.le_refl _)
      rw [hfin] at hnb
      have y0 : wr.cell? ⟨V1.heap.size, 0, none⟩ = some (.int .i64 (cS L 0)) := hnb.at 0
      have y1 : wr.cell? ⟨V1.heap.size, 1, none⟩ = some (.int .i64 (cS L 1)) := hnb.at 1
      have y2 : wr.cell? ⟨V1.heap.size, 2, none⟩ = some (.int .i64 (cS L 2)) := hnb.at 2
      have y3 : wr.cell? ⟨V1.heap.size, 3, none⟩ = some (.int .i64 (cS L 3)) := hnb.at 3
      have y4 : wr.cell? ⟨V1.heap.size, 4, none⟩ = some (.int .i64 (cS L 4)) := hnb.at 4
      have y5 : wr.cell? ⟨V1.heap.size, 5, none⟩ = some (.int .i64 (cS L 5)) := hnb.at 5
      have z0 : wr.cell? ⟨w.heap.size, 0, none⟩ = some (.int .i64 0) := hz.at 0
      have z1 : wr.cell? ⟨w.heap.size, 1, none⟩ = some (.int .i64 0) := hz.at 1
      have z2 : wr.cell? ⟨w.heap.size, 2, none⟩ = some (.int .i64 0) := hz.at 2
      have z3 : wr.cell? ⟨w.heap.size, 3, none⟩ = some (.int .i64 0) := hz.at 3
      have z4 : wr.cell? ⟨w.heap.size, 4, none⟩ = some (.int .i64 0) := hz.at 4
      have z5 : wr.cell? ⟨w.heap.size, 5, none⟩ = some (.int .i64 0) := hz.at 5
      have z6 := hz.fz
      have FIN := Lib.hid (six_fin (cS L) hz hbel)
      clear hkt hbel hz hnb hfin
      go_wp2_with fail
      refine bodyPost_ret (results_cell6 rfl _ _ w.heap.size _ rfl FIN.out.1) rfl ?_
      exact ⟨rfl, FIN.out.2⟩
end Go.Proofs.YtpenfnabeckboaaGreatDoor
