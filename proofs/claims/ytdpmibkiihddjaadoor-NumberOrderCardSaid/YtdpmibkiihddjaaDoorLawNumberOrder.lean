/-
  The walk of the law NumberOrder: whatever the three numbers: true.
-/
import Derived.Test.YtdpmibkiihddjaaDoorNO
import Derived.Test.YtdpmibkiihddjaaDoorNQ
namespace Go.Proofs.YtdpmibkiihddjaaDoor
open Go.RowKit

set_option maxRecDepth 100000 in
set_option maxHeartbeats 8000000 in
theorem numberOrder_walk (a : ByteArray) (ha : a.size ≤ maxLen) (s : Int) (_hs : (Lit.int .i64 s).wf = true) (b : ByteArray) (hb : b.size ≤ maxLen) (t : Int) (_ht : (Lit.int .i64 t).wf = true) (c : ByteArray) (hc : c.size ≤ maxLen) (u : Int) (_hu : (Lit.int .i64 u).wf = true) (w : World) (hE : EnvN w) :
    Calls Tryd.prog 6 #[.agg #[.string a, .int .i64 s], .agg #[.string b, .int .i64 t], .agg #[.string c, .int .i64 u]] w (fun e w' => e = .returned (.bool true) ∧ Bel w w') := by
  have HE := Lib.hid hE
  clear hE _hs _ht _hu
  have qg := fun op x y xs ys w1 => eqGuard_num op x y xs ys w1
  by_cases hbig : (300 < a.size ∨ 300 < b.size) ∨ 300 < c.size
  · have hways : (300 : Int) < a.size ∨ ((a.size : Int) ≤ 300 ∧ (300 : Int) < b.size) ∨ ((a.size : Int) ≤ 300 ∧ (b.size : Int) ≤ 300 ∧ (300 : Int) < c.size) := by omega
    have HW := Lib.hid hways
    clear hbig hways
    rcases HW.out with h | ⟨h, h'⟩ | ⟨h, h', h''⟩
    all_goals
      go_enter Tryd.func6, Tryd.ntmps6
      go_wp2_with fail
      refine (alive_c _ (HE.out.bel (by (repeat (first | exact Bel.refl _ | assumption | refine Bel.to_drewN ?_ _ | refine Bel.to_drew ?_ | refine Bel.to_setCell ?_ (by first | exact Nat.le_refl _ | (simp; done) | (simp; omega) | omega) _ | refine Bel.to_alloc ?_ _ | refine Bel.trans ?_ (by assumption)))))).mono ?_
      rintro e w1 ⟨rfl, hb1⟩
      go_wp2_with fail
      go_ret
      exact ⟨rfl, by (repeat (first | exact Bel.refl _ | assumption | refine Bel.to_drewN ?_ _ | refine Bel.to_drew ?_ | refine Bel.to_setCell ?_ (by first | exact Nat.le_refl _ | (simp; done) | (simp; omega) | omega) _ | refine Bel.to_alloc ?_ _ | refine Bel.trans ?_ (by assumption)))⟩
  · have ha2 : (a.size : Int) ≤ 300 := by omega
    have hb2 : (b.size : Int) ≤ 300 := by omega
    have hc2 : (c.size : Int) ≤ 300 := by omega
    have h1 := fun w1 (h : EnvN w1) => canonE_c a ha s w1 h
    have h2 := fun w1 (h : EnvN w1) => canonE_c b hb t w1 h
    have h3 := fun w1 (h : EnvN w1) => canonE_c c hc u w1 h
    obtain ⟨n1, hn1⟩ : ∃ n, checkN (dl a) s = n := ⟨_, rfl⟩
    obtain ⟨n2, hn2⟩ : ∃ n, checkN (dl b) t = n := ⟨_, rfl⟩
    obtain ⟨n3, hn3⟩ : ∃ n, checkN (dl c) u = n := ⟨_, rfl⟩
    have e1 : (canonE (dl a) s).2 = n1 := by unfold canonE; rw [hn1]; split <;> simp_all
    have e2 : (canonE (dl b) t).2 = n2 := by unfold canonE; rw [hn2]; split <;> simp_all
    have e3 : (canonE (dl c) u).2 = n3 := by unfold canonE; rw [hn3]; split <;> simp_all
    by_cases hgood : (n1 = 0 ∧ n2 = 0 ∧ n3 = 0) ∧ s ≤ 300 ∧ t ≤ 300 ∧ u ≤ 300
    · obtain ⟨⟨rfl, rfl, rfl⟩, hs3, ht3, hu3⟩ := hgood
      obtain ⟨_, _, _, hs0, _⟩ := checkN_zero hn1
      obtain ⟨_, _, _, ht0, _⟩ := checkN_zero hn2
      obtain ⟨_, _, _, hu0, _⟩ := checkN_zero hn3
      obtain ⟨s, rfl⟩ := Int.eq_ofNat_of_zero_le hs0
      obtain ⟨t, rfl⟩ := Int.eq_ofNat_of_zero_le ht0
      obtain ⟨u, rfl⟩ := Int.eq_ofNat_of_zero_le hu0
      obtain ⟨x1, x2, hx, hxc, hxd, _, hx3, _, hxV, _, _⟩ := canon_right (dl a) s hn1
      obtain ⟨y1, y2, hy, hyc, hyd, _, hy3, _, hyV, _, _⟩ := canon_right (dl b) t hn2
      rw [Int.toNat_natCast] at hxV hyV
      obtain ⟨A, hA⟩ : ∃ A, V (dl a) s = A := ⟨_, rfl⟩
      obtain ⟨B, hB⟩ : ∃ B, V (dl b) t = B := ⟨_, rfl⟩
      obtain ⟨C, hC⟩ : ∃ C, V (dl c) u = C := ⟨_, rfl⟩
      obtain ⟨K, hK⟩ : ∃ K, cmpN A B = K := ⟨_, rfl⟩
      have hKb := cmpN_bd A B
      rw [hK] at hKb
      obtain ⟨hK0, hK1⟩ := hKb
      obtain ⟨X, hX⟩ : ∃ X : ByteArray, bs x1 = X := ⟨_, rfl⟩
      obtain ⟨Y, hY⟩ : ∃ Y : ByteArray, bs y1 = Y := ⟨_, rfl⟩
      have hEq : ((K : Int) == 0) = numEq X x2 Y y2 := by
        refine bool_ext ?_
        rw [beq_iff_eq, numEq_true, ← hK, cmpN_zero, ← hA, ← hB, ← hxV, ← hyV]
        constructor
        · intro h
          obtain ⟨h1, h2⟩ := can_uniq x1 y1 x2 y2 hxd hyd hxc hyc hx3 hy3 h
          exact ⟨by rw [← hX, ← hY, h1], by rw [h2]⟩
        · rintro ⟨h, h'⟩
          have h3 : x2 = y2 := by omega
          have h4 : x1 = y1 := by rw [← dl_bs x1, ← dl_bs y1, hX, hY, h]
          rw [h3, h4]
      obtain ⟨E, hE2⟩ : ∃ E, numEq X x2 Y y2 = E := ⟨_, rfl⟩
      rw [hE2] at hEq
      have p1 : ∀ w1, EnvN w1 → Calls Tryd.prog 11 #[.agg #[.string a, .int .i64 s]] w1 fun e w' => e = .returned (.tuple #[.agg #[.string X, .int .i64 x2], .int .i64 0]) ∧ Bel w1 w' := fun w1 h =>
        (h1 w1 h).mono fun e w' ⟨he, hb⟩ => ⟨by rw [he]; unfold canonE; rw [hn1, if_pos rfl, hx, ← hX]; rfl, hb⟩
      have p2 : ∀ w1, EnvN w1 → Calls Tryd.prog 11 #[.agg #[.string b, .int .i64 t]] w1 fun e w' => e = .returned (.tuple #[.agg #[.string Y, .int .i64 y2], .int .i64 0]) ∧ Bel w1 w' := fun w1 h =>
        (h2 w1 h).mono fun e w' ⟨he, hb⟩ => ⟨by rw [he]; unfold canonE; rw [hn2, if_pos rfl, hy, ← hY]; rfl, hb⟩
      obtain ⟨⟨G1, G2⟩, hG⟩ : ∃ G, (canonE (dl c) (u : Int)).1 = G := ⟨_, rfl⟩
      have p3 : ∀ w1, EnvN w1 → Calls Tryd.prog 11 #[.agg #[.string c, .int .i64 u]] w1 fun e w' => e = .returned (.tuple #[.agg #[.string (bs G1), .int .i64 G2], .int .i64 0]) ∧ Bel w1 w' := fun w1 h =>
        (h3 w1 h).mono fun e w' ⟨he, hb⟩ => ⟨by rw [he, hG, e3]; rfl, hb⟩
      have cmp : ∀ (a : ByteArray) (s : Nat) (b : ByteArray) (t : Nat), a.size ≤ maxLen → b.size ≤ maxLen → checkN (dl a) s = 0 → checkN (dl b) t = 0 → ∀ k, cmpN (V (dl a) s) (V (dl b) t) = k → ∀ w1, EnvN w1 → Calls Tryd.prog 17 #[.agg #[.string a, .int .i64 s], .agg #[.string b, .int .i64 t]] w1 fun e w' => e = .returned (.tuple #[.int .i64 k, .int .i64 0]) ∧ Bel w1 w' := by
        intro a s b t ha hb h1 h2 k hk w1 h
        refine (compare_c a ha s b hb t w1 h).mono fun e w' ⟨he, hb⟩ => ⟨?_, hb⟩
        rw [he]
        unfold compareE bothN
        rw [h1, if_pos rfl, h2, if_pos rfl]
        simp only [Int.toNat_natCast, hk]
        rfl
      have p4 := cmp a s b t ha hb hn1 hn2 K (by rw [hA, hB]; exact hK)
      have p5 := cmp b t a s hb ha hn2 hn1 (-K) (by rw [hA, hB, cmpN_neg A B, hK])
      have p6 := fun w1 (h : EnvN w1) => addSmall_c a s c u hn1 hn3 (by omega) (by omega) (by omega) (by omega) w1 h
      have p7 := fun w1 (h : EnvN w1) => addSmall_c b t c u hn2 hn3 (by omega) (by omega) (by omega) (by omega) w1 h
      have p8 := fun w1 (h : EnvN w1) => addSmall_c c u b t hn3 hn2 (by omega) (by omega) (by omega) (by omega) w1 h
      rw [hA, hC] at p6
      rw [hB, hC] at p7 p8
      have hKn : IntKind.i64.wrap (-K) = -K := IntWalk.i64_in _ (by omega)
      have q1 : ∀ w1, (binOp .eql 24 (.agg #[.string X, .int .i64 x2]) (.agg #[.string Y, .int .i64 y2])).run Tryd.prog w1 = .ok (.bool E) w1 := fun w1 => by rw [eql_num, hE2]
      have P1 := Lib.hid p1
      have P2 := Lib.hid p2
      have P3 := Lib.hid p3
      have P4 := Lib.hid p4
      have P5 := Lib.hid p5
      have P6 := Lib.hid p6
      have P7 := Lib.hid p7
      have P8 := Lib.hid p8
      have CMP := Lib.hid cmp
      have HKK := Lib.hid hK
      have hs4 : (s : Int) ≤ 300 := by omega
      have ht4 : (t : Int) ≤ 300 := by omega
      have hu4 : (u : Int) ≤ 300 := by omega
      clear p1 p2 p3 p4 p5 p6 p7 p8 cmp hK h1 h2 h3 hn1 hn2 hn3 e1 e2 e3 hbig hs0 ht0 hu0 hs3 ht3 hu3 hx hxc hxd hx3 hxV hy hyc hyd hy3 hyV hA hB hC hX hY hE2 hG ha hb hc
      go_enter Tryd.func6, Tryd.ntmps6
      go_wp2_with fail
      refine (P1.out _ (HE.out.bel (by (repeat (first | exact Bel.refl _ | assumption | refine Bel.to_drewN ?_ _ | refine Bel.to_drew ?_ | refine Bel.to_setCell ?_ (by first | exact Nat.le_refl _ | (simp; done) | (simp; omega) | omega) _ | refine Bel.to_alloc ?_ _ | refine Bel.trans ?_ (by assumption)))))).mono ?_
      rintro e w1 ⟨rfl, hb1⟩
      have c1_0_0 : w1.cell? ⟨w.heap.size, 0, none⟩ = some (.string a) := hb1.keep (by first | assumption | (simp; done) | go_simp)
      have c1_0_1 : w1.cell? ⟨w.heap.size, 1, none⟩ = some (.int .i64 s) := hb1.keep (by first | assumption | (simp; done) | go_simp)
      have l1_0 : w.heap.size < w1.heap.size := cell_lt c1_0_0
      have c1_1_0 : w1.cell? ⟨w.heap.size + 1, 0, none⟩ = some (.string b) := hb1.keep (by first | assumption | (simp; done) | go_simp)
      have c1_1_1 : w1.cell? ⟨w.heap.size + 1, 1, none⟩ = some (.int .i64 t) := hb1.keep (by first | assumption | (simp; done) | go_simp)
      have l1_1 : w.heap.size + 1 < w1.heap.size := cell_lt c1_1_0
      have c1_2_0 : w1.cell? ⟨w.heap.size + 1 + 1, 0, none⟩ = some (.string c) := hb1.keep (by first | assumption | (simp; done) | go_simp)
      have c1_2_1 : w1.cell? ⟨w.heap.size + 1 + 1, 1, none⟩ = some (.int .i64 u) := hb1.keep (by first | assumption | (simp; done) | go_simp)
      have l1_2 : w.heap.size + 1 + 1 < w1.heap.size := cell_lt c1_2_0
      go_wp2_with fail
      refine (P2.out _ (HE.out.bel (by (repeat (first | exact Bel.refl _ | assumption | refine Bel.to_drewN ?_ _ | refine Bel.to_drew ?_ | refine Bel.to_setCell ?_ (by first | exact Nat.le_refl _ | (simp; done) | (simp; omega) | omega) _ | refine Bel.to_alloc ?_ _ | refine Bel.trans ?_ (by assumption)))))).mono ?_
      rintro e w2 ⟨rfl, hb2⟩
      have c2_0_0 : w2.cell? ⟨w.heap.size, 0, none⟩ = some (.string a) := hb2.keep (by first | assumption | (simp; done) | go_simp)
      have c2_0_1 : w2.cell? ⟨w.heap.size, 1, none⟩ = some (.int .i64 s) := hb2.keep (by first | assumption | (simp; done) | go_simp)
      have l2_0 : w.heap.size < w2.heap.size := cell_lt c2_0_0
      have c2_1_0 : w2.cell? ⟨w.heap.size + 1, 0, none⟩ = some (.string b) := hb2.keep (by first | assumption | (simp; done) | go_simp)
      have c2_1_1 : w2.cell? ⟨w.heap.size + 1, 1, none⟩ = some (.int .i64 t) := hb2.keep (by first | assumption | (simp; done) | go_simp)
      have l2_1 : w.heap.size + 1 < w2.heap.size := cell_lt c2_1_0
      have c2_2_0 : w2.cell? ⟨w.heap.size + 1 + 1, 0, none⟩ = some (.string c) := hb2.keep (by first | assumption | (simp; done) | go_simp)
      have c2_2_1 : w2.cell? ⟨w.heap.size + 1 + 1, 1, none⟩ = some (.int .i64 u) := hb2.keep (by first | assumption | (simp; done) | go_simp)
      have l2_2 : w.heap.size + 1 + 1 < w2.heap.size := cell_lt c2_2_0
      have c2_3_0 : w2.cell? ⟨w1.heap.size, 0, none⟩ = some (.string X) := hb2.keep (by first | assumption | (simp; done) | go_simp)
      have c2_3_1 : w2.cell? ⟨w1.heap.size, 1, none⟩ = some (.int .i64 x2) := hb2.keep (by first | assumption | (simp; done) | go_simp)
      have l2_3 : w1.heap.size < w2.heap.size := cell_lt c2_3_0
      try clear c1_0_0
      try clear c1_0_1
      try clear l1_0
      try clear c1_1_0
      try clear c1_1_1
      try clear l1_1
      try clear c1_2_0
      try clear c1_2_1
      try clear l1_2
      try clear c1_3_0
      try clear c1_3_1
      try clear l1_3
      go_wp2_with fail
      refine (P3.out _ (HE.out.bel (by (repeat (first | exact Bel.refl _ | assumption | refine Bel.to_drewN ?_ _ | refine Bel.to_drew ?_ | refine Bel.to_setCell ?_ (by first | exact Nat.le_refl _ | (simp; done) | (simp; omega) | omega) _ | refine Bel.to_alloc ?_ _ | refine Bel.trans ?_ (by assumption)))))).mono ?_
      rintro e w3 ⟨rfl, hb3⟩
      have c3_0_0 : w3.cell? ⟨w.heap.size, 0, none⟩ = some (.string a) := hb3.keep (by first | assumption | (simp; done) | go_simp)
      have c3_0_1 : w3.cell? ⟨w.heap.size, 1, none⟩ = some (.int .i64 s) := hb3.keep (by first | assumption | (simp; done) | go_simp)
      have l3_0 : w.heap.size < w3.heap.size := cell_lt c3_0_0
      have c3_1_0 : w3.cell? ⟨w.heap.size + 1, 0, none⟩ = some (.string b) := hb3.keep (by first | assumption | (simp; done) | go_simp)
      have c3_1_1 : w3.cell? ⟨w.heap.size + 1, 1, none⟩ = some (.int .i64 t) := hb3.keep (by first | assumption | (simp; done) | go_simp)
      have l3_1 : w.heap.size + 1 < w3.heap.size := cell_lt c3_1_0
      have c3_2_0 : w3.cell? ⟨w.heap.size + 1 + 1, 0, none⟩ = some (.string c) := hb3.keep (by first | assumption | (simp; done) | go_simp)
      have c3_2_1 : w3.cell? ⟨w.heap.size + 1 + 1, 1, none⟩ = some (.int .i64 u) := hb3.keep (by first | assumption | (simp; done) | go_simp)
      have l3_2 : w.heap.size + 1 + 1 < w3.heap.size := cell_lt c3_2_0
      have c3_3_0 : w3.cell? ⟨w1.heap.size, 0, none⟩ = some (.string X) := hb3.keep (by first | assumption | (simp; done) | go_simp)
      have c3_3_1 : w3.cell? ⟨w1.heap.size, 1, none⟩ = some (.int .i64 x2) := hb3.keep (by first | assumption | (simp; done) | go_simp)
      have l3_3 : w1.heap.size < w3.heap.size := cell_lt c3_3_0
      have c3_4_0 : w3.cell? ⟨w2.heap.size, 0, none⟩ = some (.string Y) := hb3.keep (by first | assumption | (simp; done) | go_simp)
      have c3_4_1 : w3.cell? ⟨w2.heap.size, 1, none⟩ = some (.int .i64 y2) := hb3.keep (by first | assumption | (simp; done) | go_simp)
      have l3_4 : w2.heap.size < w3.heap.size := cell_lt c3_4_0
      try clear c2_0_0
      try clear c2_0_1
      try clear l2_0
      try clear c2_1_0
      try clear c2_1_1
      try clear l2_1
      try clear c2_2_0
      try clear c2_2_1
      try clear l2_2
      try clear c2_3_0
      try clear c2_3_1
      try clear l2_3
      try clear c2_4_0
      try clear c2_4_1
      try clear l2_4
      go_wp2_with fail
      refine (P4.out _ (HE.out.bel (by (repeat (first | exact Bel.refl _ | assumption | refine Bel.to_drewN ?_ _ | refine Bel.to_drew ?_ | refine Bel.to_setCell ?_ (by first | exact Nat.le_refl _ | (simp; done) | (simp; omega) | omega) _ | refine Bel.to_alloc ?_ _ | refine Bel.trans ?_ (by assumption)))))).mono ?_
      rintro e w4 ⟨rfl, hb4⟩
      have c4_0_0 : w4.cell? ⟨w.heap.size, 0, none⟩ = some (.string a) := hb4.keep (by first | assumption | (simp; done) | go_simp)
      have c4_0_1 : w4.cell? ⟨w.heap.size, 1, none⟩ = some (.int .i64 s) := hb4.keep (by first | assumption | (simp; done) | go_simp)
      have l4_0 : w.heap.size < w4.heap.size := cell_lt c4_0_0
      have c4_1_0 : w4.cell? ⟨w.heap.size + 1, 0, none⟩ = some (.string b) := hb4.keep (by first | assumption | (simp; done) | go_simp)
      have c4_1_1 : w4.cell? ⟨w.heap.size + 1, 1, none⟩ = some (.int .i64 t) := hb4.keep (by first | assumption | (simp; done) | go_simp)
      have l4_1 : w.heap.size + 1 < w4.heap.size := cell_lt c4_1_0
      have c4_2_0 : w4.cell? ⟨w.heap.size + 1 + 1, 0, none⟩ = some (.string c) := hb4.keep (by first | assumption | (simp; done) | go_simp)
      have c4_2_1 : w4.cell? ⟨w.heap.size + 1 + 1, 1, none⟩ = some (.int .i64 u) := hb4.keep (by first | assumption | (simp; done) | go_simp)
      have l4_2 : w.heap.size + 1 + 1 < w4.heap.size := cell_lt c4_2_0
      have c4_3_0 : w4.cell? ⟨w1.heap.size, 0, none⟩ = some (.string X) := hb4.keep (by first | assumption | (simp; done) | go_simp)
      have c4_3_1 : w4.cell? ⟨w1.heap.size, 1, none⟩ = some (.int .i64 x2) := hb4.keep (by first | assumption | (simp; done) | go_simp)
      have l4_3 : w1.heap.size < w4.heap.size := cell_lt c4_3_0
      have c4_4_0 : w4.cell? ⟨w2.heap.size, 0, none⟩ = some (.string Y) := hb4.keep (by first | assumption | (simp; done) | go_simp)
      have c4_4_1 : w4.cell? ⟨w2.heap.size, 1, none⟩ = some (.int .i64 y2) := hb4.keep (by first | assumption | (simp; done) | go_simp)
      have l4_4 : w2.heap.size < w4.heap.size := cell_lt c4_4_0
      try clear c3_0_0
      try clear c3_0_1
      try clear l3_0
      try clear c3_1_0
      try clear c3_1_1
      try clear l3_1
      try clear c3_2_0
      try clear c3_2_1
      try clear l3_2
      try clear c3_3_0
      try clear c3_3_1
      try clear l3_3
      try clear c3_4_0
      try clear c3_4_1
      try clear l3_4
      go_wp2_with fail
      refine (P5.out _ (HE.out.bel (by (repeat (first | exact Bel.refl _ | assumption | refine Bel.to_drewN ?_ _ | refine Bel.to_drew ?_ | refine Bel.to_setCell ?_ (by first | exact Nat.le_refl _ | (simp; done) | (simp; omega) | omega) _ | refine Bel.to_alloc ?_ _ | refine Bel.trans ?_ (by assumption)))))).mono ?_
      rintro e w5 ⟨rfl, hb5⟩
      have c5_0_0 : w5.cell? ⟨w.heap.size, 0, none⟩ = some (.string a) := hb5.keep (by first | assumption | (simp; done) | go_simp)
      have c5_0_1 : w5.cell? ⟨w.heap.size, 1, none⟩ = some (.int .i64 s) := hb5.keep (by first | assumption | (simp; done) | go_simp)
      have l5_0 : w.heap.size < w5.heap.size := cell_lt c5_0_0
      have c5_1_0 : w5.cell? ⟨w.heap.size + 1, 0, none⟩ = some (.string b) := hb5.keep (by first | assumption | (simp; done) | go_simp)
      have c5_1_1 : w5.cell? ⟨w.heap.size + 1, 1, none⟩ = some (.int .i64 t) := hb5.keep (by first | assumption | (simp; done) | go_simp)
      have l5_1 : w.heap.size + 1 < w5.heap.size := cell_lt c5_1_0
      have c5_2_0 : w5.cell? ⟨w.heap.size + 1 + 1, 0, none⟩ = some (.string c) := hb5.keep (by first | assumption | (simp; done) | go_simp)
      have c5_2_1 : w5.cell? ⟨w.heap.size + 1 + 1, 1, none⟩ = some (.int .i64 u) := hb5.keep (by first | assumption | (simp; done) | go_simp)
      have l5_2 : w.heap.size + 1 + 1 < w5.heap.size := cell_lt c5_2_0
      have c5_3_0 : w5.cell? ⟨w1.heap.size, 0, none⟩ = some (.string X) := hb5.keep (by first | assumption | (simp; done) | go_simp)
      have c5_3_1 : w5.cell? ⟨w1.heap.size, 1, none⟩ = some (.int .i64 x2) := hb5.keep (by first | assumption | (simp; done) | go_simp)
      have l5_3 : w1.heap.size < w5.heap.size := cell_lt c5_3_0
      have c5_4_0 : w5.cell? ⟨w2.heap.size, 0, none⟩ = some (.string Y) := hb5.keep (by first | assumption | (simp; done) | go_simp)
      have c5_4_1 : w5.cell? ⟨w2.heap.size, 1, none⟩ = some (.int .i64 y2) := hb5.keep (by first | assumption | (simp; done) | go_simp)
      have l5_4 : w2.heap.size < w5.heap.size := cell_lt c5_4_0
      try clear c4_0_0
      try clear c4_0_1
      try clear l4_0
      try clear c4_1_0
      try clear c4_1_1
      try clear l4_1
      try clear c4_2_0
      try clear c4_2_1
      try clear l4_2
      try clear c4_3_0
      try clear c4_3_1
      try clear l4_3
      try clear c4_4_0
      try clear c4_4_1
      try clear l4_4
      go_wp2_with fail
      refine (P6.out _ (HE.out.bel (by (repeat (first | exact Bel.refl _ | assumption | refine Bel.to_drewN ?_ _ | refine Bel.to_drew ?_ | refine Bel.to_setCell ?_ (by first | exact Nat.le_refl _ | (simp; done) | (simp; omega) | omega) _ | refine Bel.to_alloc ?_ _ | refine Bel.trans ?_ (by assumption)))))).mono ?_
      rintro e w6 ⟨d6, z6, rfl, hcan6, hd6, hk6, hz6, hV6, hb6⟩
      have c6_0_0 : w6.cell? ⟨w.heap.size, 0, none⟩ = some (.string a) := hb6.keep (by first | assumption | (simp; done) | go_simp)
      have c6_0_1 : w6.cell? ⟨w.heap.size, 1, none⟩ = some (.int .i64 s) := hb6.keep (by first | assumption | (simp; done) | go_simp)
      have l6_0 : w.heap.size < w6.heap.size := cell_lt c6_0_0
      have c6_1_0 : w6.cell? ⟨w.heap.size + 1, 0, none⟩ = some (.string b) := hb6.keep (by first | assumption | (simp; done) | go_simp)
      have c6_1_1 : w6.cell? ⟨w.heap.size + 1, 1, none⟩ = some (.int .i64 t) := hb6.keep (by first | assumption | (simp; done) | go_simp)
      have l6_1 : w.heap.size + 1 < w6.heap.size := cell_lt c6_1_0
      have c6_2_0 : w6.cell? ⟨w.heap.size + 1 + 1, 0, none⟩ = some (.string c) := hb6.keep (by first | assumption | (simp; done) | go_simp)
      have c6_2_1 : w6.cell? ⟨w.heap.size + 1 + 1, 1, none⟩ = some (.int .i64 u) := hb6.keep (by first | assumption | (simp; done) | go_simp)
      have l6_2 : w.heap.size + 1 + 1 < w6.heap.size := cell_lt c6_2_0
      have c6_3_0 : w6.cell? ⟨w1.heap.size, 0, none⟩ = some (.string X) := hb6.keep (by first | assumption | (simp; done) | go_simp)
      have c6_3_1 : w6.cell? ⟨w1.heap.size, 1, none⟩ = some (.int .i64 x2) := hb6.keep (by first | assumption | (simp; done) | go_simp)
      have l6_3 : w1.heap.size < w6.heap.size := cell_lt c6_3_0
      have c6_4_0 : w6.cell? ⟨w2.heap.size, 0, none⟩ = some (.string Y) := hb6.keep (by first | assumption | (simp; done) | go_simp)
      have c6_4_1 : w6.cell? ⟨w2.heap.size, 1, none⟩ = some (.int .i64 y2) := hb6.keep (by first | assumption | (simp; done) | go_simp)
      have l6_4 : w2.heap.size < w6.heap.size := cell_lt c6_4_0
      try clear c5_0_0
      try clear c5_0_1
      try clear l5_0
      try clear c5_1_0
      try clear c5_1_1
      try clear l5_1
      try clear c5_2_0
      try clear c5_2_1
      try clear l5_2
      try clear c5_3_0
      try clear c5_3_1
      try clear l5_3
      try clear c5_4_0
      try clear c5_4_1
      try clear l5_4
      obtain ⟨D6, hD6⟩ : ∃ D : ByteArray, bs d6 = D := ⟨_, rfl⟩
      have hdl6 : dl D6 = d6 := by rw [← hD6]; rfl
      rw [hD6]
      have hs6 : D6.size ≤ 1000 := by rw [← dl_size, hdl6]; exact (checkN_zero hk6).2.2.1
      have HD6 := Lib.hid (And.intro hdl6 (And.intro hk6 hV6))
      clear hD6 hdl6 hcan6 hd6 hk6 hV6
      go_wp2_with fail
      refine (P7.out _ (HE.out.bel (by (repeat (first | exact Bel.refl _ | assumption | refine Bel.to_drewN ?_ _ | refine Bel.to_drew ?_ | refine Bel.to_setCell ?_ (by first | exact Nat.le_refl _ | (simp; done) | (simp; omega) | omega) _ | refine Bel.to_alloc ?_ _ | refine Bel.trans ?_ (by assumption)))))).mono ?_
      rintro e w7 ⟨d7, z7, rfl, hcan7, hd7, hk7, hz7, hV7, hb7⟩
      have c7_0_0 : w7.cell? ⟨w.heap.size, 0, none⟩ = some (.string a) := hb7.keep (by first | assumption | (simp; done) | go_simp)
      have c7_0_1 : w7.cell? ⟨w.heap.size, 1, none⟩ = some (.int .i64 s) := hb7.keep (by first | assumption | (simp; done) | go_simp)
      have l7_0 : w.heap.size < w7.heap.size := cell_lt c7_0_0
      have c7_1_0 : w7.cell? ⟨w.heap.size + 1, 0, none⟩ = some (.string b) := hb7.keep (by first | assumption | (simp; done) | go_simp)
      have c7_1_1 : w7.cell? ⟨w.heap.size + 1, 1, none⟩ = some (.int .i64 t) := hb7.keep (by first | assumption | (simp; done) | go_simp)
      have l7_1 : w.heap.size + 1 < w7.heap.size := cell_lt c7_1_0
      have c7_2_0 : w7.cell? ⟨w.heap.size + 1 + 1, 0, none⟩ = some (.string c) := hb7.keep (by first | assumption | (simp; done) | go_simp)
      have c7_2_1 : w7.cell? ⟨w.heap.size + 1 + 1, 1, none⟩ = some (.int .i64 u) := hb7.keep (by first | assumption | (simp; done) | go_simp)
      have l7_2 : w.heap.size + 1 + 1 < w7.heap.size := cell_lt c7_2_0
      have c7_3_0 : w7.cell? ⟨w1.heap.size, 0, none⟩ = some (.string X) := hb7.keep (by first | assumption | (simp; done) | go_simp)
      have c7_3_1 : w7.cell? ⟨w1.heap.size, 1, none⟩ = some (.int .i64 x2) := hb7.keep (by first | assumption | (simp; done) | go_simp)
      have l7_3 : w1.heap.size < w7.heap.size := cell_lt c7_3_0
      have c7_4_0 : w7.cell? ⟨w2.heap.size, 0, none⟩ = some (.string Y) := hb7.keep (by first | assumption | (simp; done) | go_simp)
      have c7_4_1 : w7.cell? ⟨w2.heap.size, 1, none⟩ = some (.int .i64 y2) := hb7.keep (by first | assumption | (simp; done) | go_simp)
      have l7_4 : w2.heap.size < w7.heap.size := cell_lt c7_4_0
      have c7_5_0 : w7.cell? ⟨w6.heap.size, 0, none⟩ = some (.string D6) := hb7.keep (by first | assumption | (simp; done) | go_simp)
      have c7_5_1 : w7.cell? ⟨w6.heap.size, 1, none⟩ = some (.int .i64 z6) := hb7.keep (by first | assumption | (simp; done) | go_simp)
      have l7_5 : w6.heap.size < w7.heap.size := cell_lt c7_5_0
      try clear c6_0_0
      try clear c6_0_1
      try clear l6_0
      try clear c6_1_0
      try clear c6_1_1
      try clear l6_1
      try clear c6_2_0
      try clear c6_2_1
      try clear l6_2
      try clear c6_3_0
      try clear c6_3_1
      try clear l6_3
      try clear c6_4_0
      try clear c6_4_1
      try clear l6_4
      try clear c6_5_0
      try clear c6_5_1
      try clear l6_5
      obtain ⟨D7, hD7⟩ : ∃ D : ByteArray, bs d7 = D := ⟨_, rfl⟩
      have hdl7 : dl D7 = d7 := by rw [← hD7]; rfl
      rw [hD7]
      have hs7 : D7.size ≤ 1000 := by rw [← dl_size, hdl7]; exact (checkN_zero hk7).2.2.1
      have HD7 := Lib.hid (And.intro hdl7 (And.intro hk7 hV7))
      have HU7 := Lib.hid (And.intro hcan7 (And.intro hd7 hD7))
      clear hD7 hdl7 hcan7 hd7 hk7 hV7
      go_wp2_with fail
      refine (P8.out _ (HE.out.bel (by (repeat (first | exact Bel.refl _ | assumption | refine Bel.to_drewN ?_ _ | refine Bel.to_drew ?_ | refine Bel.to_setCell ?_ (by first | exact Nat.le_refl _ | (simp; done) | (simp; omega) | omega) _ | refine Bel.to_alloc ?_ _ | refine Bel.trans ?_ (by assumption)))))).mono ?_
      rintro e w8 ⟨d8, z8, rfl, hcan8, hd8, hk8, hz8, hV8, hb8⟩
      have c8_0_0 : w8.cell? ⟨w.heap.size, 0, none⟩ = some (.string a) := hb8.keep (by first | assumption | (simp; done) | go_simp)
      have c8_0_1 : w8.cell? ⟨w.heap.size, 1, none⟩ = some (.int .i64 s) := hb8.keep (by first | assumption | (simp; done) | go_simp)
      have l8_0 : w.heap.size < w8.heap.size := cell_lt c8_0_0
      have c8_1_0 : w8.cell? ⟨w.heap.size + 1, 0, none⟩ = some (.string b) := hb8.keep (by first | assumption | (simp; done) | go_simp)
      have c8_1_1 : w8.cell? ⟨w.heap.size + 1, 1, none⟩ = some (.int .i64 t) := hb8.keep (by first | assumption | (simp; done) | go_simp)
      have l8_1 : w.heap.size + 1 < w8.heap.size := cell_lt c8_1_0
      have c8_2_0 : w8.cell? ⟨w.heap.size + 1 + 1, 0, none⟩ = some (.string c) := hb8.keep (by first | assumption | (simp; done) | go_simp)
      have c8_2_1 : w8.cell? ⟨w.heap.size + 1 + 1, 1, none⟩ = some (.int .i64 u) := hb8.keep (by first | assumption | (simp; done) | go_simp)
      have l8_2 : w.heap.size + 1 + 1 < w8.heap.size := cell_lt c8_2_0
      have c8_3_0 : w8.cell? ⟨w1.heap.size, 0, none⟩ = some (.string X) := hb8.keep (by first | assumption | (simp; done) | go_simp)
      have c8_3_1 : w8.cell? ⟨w1.heap.size, 1, none⟩ = some (.int .i64 x2) := hb8.keep (by first | assumption | (simp; done) | go_simp)
      have l8_3 : w1.heap.size < w8.heap.size := cell_lt c8_3_0
      have c8_4_0 : w8.cell? ⟨w2.heap.size, 0, none⟩ = some (.string Y) := hb8.keep (by first | assumption | (simp; done) | go_simp)
      have c8_4_1 : w8.cell? ⟨w2.heap.size, 1, none⟩ = some (.int .i64 y2) := hb8.keep (by first | assumption | (simp; done) | go_simp)
      have l8_4 : w2.heap.size < w8.heap.size := cell_lt c8_4_0
      have c8_5_0 : w8.cell? ⟨w6.heap.size, 0, none⟩ = some (.string D6) := hb8.keep (by first | assumption | (simp; done) | go_simp)
      have c8_5_1 : w8.cell? ⟨w6.heap.size, 1, none⟩ = some (.int .i64 z6) := hb8.keep (by first | assumption | (simp; done) | go_simp)
      have l8_5 : w6.heap.size < w8.heap.size := cell_lt c8_5_0
      have c8_6_0 : w8.cell? ⟨w7.heap.size, 0, none⟩ = some (.string D7) := hb8.keep (by first | assumption | (simp; done) | go_simp)
      have c8_6_1 : w8.cell? ⟨w7.heap.size, 1, none⟩ = some (.int .i64 z7) := hb8.keep (by first | assumption | (simp; done) | go_simp)
      have l8_6 : w7.heap.size < w8.heap.size := cell_lt c8_6_0
      try clear c7_0_0
      try clear c7_0_1
      try clear l7_0
      try clear c7_1_0
      try clear c7_1_1
      try clear l7_1
      try clear c7_2_0
      try clear c7_2_1
      try clear l7_2
      try clear c7_3_0
      try clear c7_3_1
      try clear l7_3
      try clear c7_4_0
      try clear c7_4_1
      try clear l7_4
      try clear c7_5_0
      try clear c7_5_1
      try clear l7_5
      try clear c7_6_0
      try clear c7_6_1
      try clear l7_6
      have huq : d8 = d7 ∧ z8 = z7 := can_uniq d8 d7 z8 z7 hd8 HU7.out.2.1 hcan8 HU7.out.1 hz8 hz7 (by rw [hV8, HD7.out.2.2]; exact Nat.add_comm _ _)
      obtain ⟨rfl, rfl⟩ := huq
      rw [HU7.out.2.2]
      clear hcan8 hd8 hk8 hV8
      go_wp2_with fail
      refine (CMP.out D6 z6 D7 z8 (by unfold maxLen; omega) (by unfold maxLen; omega) (by rw [HD6.out.1]; exact HD6.out.2.1) (by rw [HD7.out.1]; exact HD7.out.2.1) K (by rw [HD6.out.1, HD7.out.1, HD6.out.2.2, HD7.out.2.2, cmpN_add]; exact HKK.out) _ (HE.out.bel (by (repeat (first | exact Bel.refl _ | assumption | refine Bel.to_drewN ?_ _ | refine Bel.to_drew ?_ | refine Bel.to_setCell ?_ (by first | exact Nat.le_refl _ | (simp; done) | (simp; omega) | omega) _ | refine Bel.to_alloc ?_ _ | refine Bel.trans ?_ (by assumption)))))).mono ?_
      rintro e w9 ⟨rfl, hb9⟩
      have c9_0_0 : w9.cell? ⟨w.heap.size, 0, none⟩ = some (.string a) := hb9.keep (by first | assumption | (simp; done) | go_simp)
      have c9_0_1 : w9.cell? ⟨w.heap.size, 1, none⟩ = some (.int .i64 s) := hb9.keep (by first | assumption | (simp; done) | go_simp)
      have l9_0 : w.heap.size < w9.heap.size := cell_lt c9_0_0
      have c9_1_0 : w9.cell? ⟨w.heap.size + 1, 0, none⟩ = some (.string b) := hb9.keep (by first | assumption | (simp; done) | go_simp)
      have c9_1_1 : w9.cell? ⟨w.heap.size + 1, 1, none⟩ = some (.int .i64 t) := hb9.keep (by first | assumption | (simp; done) | go_simp)
      have l9_1 : w.heap.size + 1 < w9.heap.size := cell_lt c9_1_0
      have c9_2_0 : w9.cell? ⟨w.heap.size + 1 + 1, 0, none⟩ = some (.string c) := hb9.keep (by first | assumption | (simp; done) | go_simp)
      have c9_2_1 : w9.cell? ⟨w.heap.size + 1 + 1, 1, none⟩ = some (.int .i64 u) := hb9.keep (by first | assumption | (simp; done) | go_simp)
      have l9_2 : w.heap.size + 1 + 1 < w9.heap.size := cell_lt c9_2_0
      have c9_3_0 : w9.cell? ⟨w1.heap.size, 0, none⟩ = some (.string X) := hb9.keep (by first | assumption | (simp; done) | go_simp)
      have c9_3_1 : w9.cell? ⟨w1.heap.size, 1, none⟩ = some (.int .i64 x2) := hb9.keep (by first | assumption | (simp; done) | go_simp)
      have l9_3 : w1.heap.size < w9.heap.size := cell_lt c9_3_0
      have c9_4_0 : w9.cell? ⟨w2.heap.size, 0, none⟩ = some (.string Y) := hb9.keep (by first | assumption | (simp; done) | go_simp)
      have c9_4_1 : w9.cell? ⟨w2.heap.size, 1, none⟩ = some (.int .i64 y2) := hb9.keep (by first | assumption | (simp; done) | go_simp)
      have l9_4 : w2.heap.size < w9.heap.size := cell_lt c9_4_0
      have c9_5_0 : w9.cell? ⟨w6.heap.size, 0, none⟩ = some (.string D6) := hb9.keep (by first | assumption | (simp; done) | go_simp)
      have c9_5_1 : w9.cell? ⟨w6.heap.size, 1, none⟩ = some (.int .i64 z6) := hb9.keep (by first | assumption | (simp; done) | go_simp)
      have l9_5 : w6.heap.size < w9.heap.size := cell_lt c9_5_0
      have c9_6_0 : w9.cell? ⟨w7.heap.size, 0, none⟩ = some (.string D7) := hb9.keep (by first | assumption | (simp; done) | go_simp)
      have c9_6_1 : w9.cell? ⟨w7.heap.size, 1, none⟩ = some (.int .i64 z8) := hb9.keep (by first | assumption | (simp; done) | go_simp)
      have l9_6 : w7.heap.size < w9.heap.size := cell_lt c9_6_0
      have c9_7_0 : w9.cell? ⟨w8.heap.size, 0, none⟩ = some (.string D7) := hb9.keep (by first | assumption | (simp; done) | go_simp)
      have c9_7_1 : w9.cell? ⟨w8.heap.size, 1, none⟩ = some (.int .i64 z8) := hb9.keep (by first | assumption | (simp; done) | go_simp)
      have l9_7 : w8.heap.size < w9.heap.size := cell_lt c9_7_0
      try clear c8_0_0
      try clear c8_0_1
      try clear l8_0
      try clear c8_1_0
      try clear c8_1_1
      try clear l8_1
      try clear c8_2_0
      try clear c8_2_1
      try clear l8_2
      try clear c8_3_0
      try clear c8_3_1
      try clear l8_3
      try clear c8_4_0
      try clear c8_4_1
      try clear l8_4
      try clear c8_5_0
      try clear c8_5_1
      try clear l8_5
      try clear c8_6_0
      try clear c8_6_1
      try clear l8_6
      try clear c8_7_0
      try clear c8_7_1
      try clear l8_7
      go_wp2_with fail
      refine (alive_c _ (HE.out.bel (by (repeat (first | exact Bel.refl _ | assumption | refine Bel.to_drewN ?_ _ | refine Bel.to_drew ?_ | refine Bel.to_setCell ?_ (by first | exact Nat.le_refl _ | (simp; done) | (simp; omega) | omega) _ | refine Bel.to_alloc ?_ _ | refine Bel.trans ?_ (by assumption)))))).mono ?_
      rintro e w10 ⟨rfl, hb10⟩
      have c10_0_0 : w10.cell? ⟨w.heap.size, 0, none⟩ = some (.string a) := hb10.keep (by first | assumption | (simp; done) | go_simp)
      have c10_0_1 : w10.cell? ⟨w.heap.size, 1, none⟩ = some (.int .i64 s) := hb10.keep (by first | assumption | (simp; done) | go_simp)
      have l10_0 : w.heap.size < w10.heap.size := cell_lt c10_0_0
      have c10_1_0 : w10.cell? ⟨w.heap.size + 1, 0, none⟩ = some (.string b) := hb10.keep (by first | assumption | (simp; done) | go_simp)
      have c10_1_1 : w10.cell? ⟨w.heap.size + 1, 1, none⟩ = some (.int .i64 t) := hb10.keep (by first | assumption | (simp; done) | go_simp)
      have l10_1 : w.heap.size + 1 < w10.heap.size := cell_lt c10_1_0
      have c10_2_0 : w10.cell? ⟨w.heap.size + 1 + 1, 0, none⟩ = some (.string c) := hb10.keep (by first | assumption | (simp; done) | go_simp)
      have c10_2_1 : w10.cell? ⟨w.heap.size + 1 + 1, 1, none⟩ = some (.int .i64 u) := hb10.keep (by first | assumption | (simp; done) | go_simp)
      have l10_2 : w.heap.size + 1 + 1 < w10.heap.size := cell_lt c10_2_0
      have c10_3_0 : w10.cell? ⟨w1.heap.size, 0, none⟩ = some (.string X) := hb10.keep (by first | assumption | (simp; done) | go_simp)
      have c10_3_1 : w10.cell? ⟨w1.heap.size, 1, none⟩ = some (.int .i64 x2) := hb10.keep (by first | assumption | (simp; done) | go_simp)
      have l10_3 : w1.heap.size < w10.heap.size := cell_lt c10_3_0
      have c10_4_0 : w10.cell? ⟨w2.heap.size, 0, none⟩ = some (.string Y) := hb10.keep (by first | assumption | (simp; done) | go_simp)
      have c10_4_1 : w10.cell? ⟨w2.heap.size, 1, none⟩ = some (.int .i64 y2) := hb10.keep (by first | assumption | (simp; done) | go_simp)
      have l10_4 : w2.heap.size < w10.heap.size := cell_lt c10_4_0
      have c10_5_0 : w10.cell? ⟨w6.heap.size, 0, none⟩ = some (.string D6) := hb10.keep (by first | assumption | (simp; done) | go_simp)
      have c10_5_1 : w10.cell? ⟨w6.heap.size, 1, none⟩ = some (.int .i64 z6) := hb10.keep (by first | assumption | (simp; done) | go_simp)
      have l10_5 : w6.heap.size < w10.heap.size := cell_lt c10_5_0
      have c10_6_0 : w10.cell? ⟨w7.heap.size, 0, none⟩ = some (.string D7) := hb10.keep (by first | assumption | (simp; done) | go_simp)
      have c10_6_1 : w10.cell? ⟨w7.heap.size, 1, none⟩ = some (.int .i64 z8) := hb10.keep (by first | assumption | (simp; done) | go_simp)
      have l10_6 : w7.heap.size < w10.heap.size := cell_lt c10_6_0
      have c10_7_0 : w10.cell? ⟨w8.heap.size, 0, none⟩ = some (.string D7) := hb10.keep (by first | assumption | (simp; done) | go_simp)
      have c10_7_1 : w10.cell? ⟨w8.heap.size, 1, none⟩ = some (.int .i64 z8) := hb10.keep (by first | assumption | (simp; done) | go_simp)
      have l10_7 : w8.heap.size < w10.heap.size := cell_lt c10_7_0
      try clear c9_0_0
      try clear c9_0_1
      try clear l9_0
      try clear c9_1_0
      try clear c9_1_1
      try clear l9_1
      try clear c9_2_0
      try clear c9_2_1
      try clear l9_2
      try clear c9_3_0
      try clear c9_3_1
      try clear l9_3
      try clear c9_4_0
      try clear c9_4_1
      try clear l9_4
      try clear c9_5_0
      try clear c9_5_1
      try clear l9_5
      try clear c9_6_0
      try clear c9_6_1
      try clear l9_6
      try clear c9_7_0
      try clear c9_7_1
      try clear l9_7
      have q2 : ∀ w1, (binOp .eql 24 (.agg #[.string D7, .int .i64 z8]) (.agg #[.string D7, .int .i64 z8])).run Tryd.prog w1 = .ok (.bool true) w1 := fun w1 => by rw [eql_num, numEq_true.2 ⟨rfl, rfl⟩]
      go_wp2_with fail
      go_ret
      exact ⟨rfl, by (repeat (first | exact Bel.refl _ | assumption | refine Bel.to_drewN ?_ _ | refine Bel.to_drew ?_ | refine Bel.to_setCell ?_ (by first | exact Nat.le_refl _ | (simp; done) | (simp; omega) | omega) _ | refine Bel.to_alloc ?_ _ | refine Bel.trans ?_ (by assumption)))⟩
    · have hways : (((n1 : Int) != 0) = true) ∨ (((n1 : Int) != 0) = false ∧ ((n2 : Int) != 0) = true) ∨ (((n1 : Int) != 0) = false ∧ ((n2 : Int) != 0) = false ∧ ((n3 : Int) != 0) = true) ∨ (((n1 : Int) != 0) = false ∧ ((n2 : Int) != 0) = false ∧ ((n3 : Int) != 0) = false ∧ 300 < s) ∨ (((n1 : Int) != 0) = false ∧ ((n2 : Int) != 0) = false ∧ ((n3 : Int) != 0) = false ∧ s ≤ 300 ∧ 300 < t) ∨ (((n1 : Int) != 0) = false ∧ ((n2 : Int) != 0) = false ∧ ((n3 : Int) != 0) = false ∧ s ≤ 300 ∧ t ≤ 300 ∧ 300 < u) := by
        have hi : ∀ n : Nat, (((n : Int) != 0) = true ↔ n ≠ 0) ∧ (((n : Int) != 0) = false ↔ n = 0) := fun n => by
          constructor
          · rw [bne_iff_ne]; omega
          · rw [bne_eq_false_iff_eq]; omega
        simp only [(hi n1).1, (hi n1).2, (hi n2).1, (hi n2).2, (hi n3).1, (hi n3).2]
        omega
      have HW := Lib.hid hways
      obtain ⟨⟨⟨F1, F2⟩, F3⟩, hF⟩ : ∃ F, canonE (dl a) s = F := ⟨_, rfl⟩
      obtain ⟨⟨⟨G1, G2⟩, G3⟩, hG⟩ : ∃ F, canonE (dl b) t = F := ⟨_, rfl⟩
      obtain ⟨⟨⟨I1, I2⟩, I3⟩, hI⟩ : ∃ F, canonE (dl c) u = F := ⟨_, rfl⟩
      rw [hF] at h1 e1
      rw [hG] at h2 e2
      rw [hI] at h3 e3
      dsimp only at e1 e2 e3
      subst e1 e2 e3
      have P1 := Lib.hid h1
      have P2 := Lib.hid h2
      have P3 := Lib.hid h3
      clear h1 h2 h3 hF hG hI hn1 hn2 hn3 hways hgood hbig ha hb hc
      rcases HW.out with h | ⟨h, h'⟩ | ⟨h, h', h''⟩ | ⟨h, h', h'', h3⟩ | ⟨h, h', h'', h3, h4⟩ | ⟨h, h', h'', h3, h4, h5⟩
      all_goals
        go_enter Tryd.func6, Tryd.ntmps6
        go_wp2_with fail
        refine (P1.out _ (HE.out.bel (by (repeat (first | exact Bel.refl _ | assumption | refine Bel.to_drewN ?_ _ | refine Bel.to_drew ?_ | refine Bel.to_setCell ?_ (by first | exact Nat.le_refl _ | (simp; done) | (simp; omega) | omega) _ | refine Bel.to_alloc ?_ _ | refine Bel.trans ?_ (by assumption)))))).mono ?_
        rintro e w1 ⟨rfl, hb1⟩
        have c1_0_0 : w1.cell? ⟨w.heap.size, 0, none⟩ = some (.string a) := hb1.keep (by first | assumption | (simp; done) | go_simp)
        have c1_0_1 : w1.cell? ⟨w.heap.size, 1, none⟩ = some (.int .i64 s) := hb1.keep (by first | assumption | (simp; done) | go_simp)
        have l1_0 : w.heap.size < w1.heap.size := cell_lt c1_0_0
        have c1_1_0 : w1.cell? ⟨w.heap.size + 1, 0, none⟩ = some (.string b) := hb1.keep (by first | assumption | (simp; done) | go_simp)
        have c1_1_1 : w1.cell? ⟨w.heap.size + 1, 1, none⟩ = some (.int .i64 t) := hb1.keep (by first | assumption | (simp; done) | go_simp)
        have l1_1 : w.heap.size + 1 < w1.heap.size := cell_lt c1_1_0
        have c1_2_0 : w1.cell? ⟨w.heap.size + 1 + 1, 0, none⟩ = some (.string c) := hb1.keep (by first | assumption | (simp; done) | go_simp)
        have c1_2_1 : w1.cell? ⟨w.heap.size + 1 + 1, 1, none⟩ = some (.int .i64 u) := hb1.keep (by first | assumption | (simp; done) | go_simp)
        have l1_2 : w.heap.size + 1 + 1 < w1.heap.size := cell_lt c1_2_0
        go_wp2_with fail
        refine (P2.out _ (HE.out.bel (by (repeat (first | exact Bel.refl _ | assumption | refine Bel.to_drewN ?_ _ | refine Bel.to_drew ?_ | refine Bel.to_setCell ?_ (by first | exact Nat.le_refl _ | (simp; done) | (simp; omega) | omega) _ | refine Bel.to_alloc ?_ _ | refine Bel.trans ?_ (by assumption)))))).mono ?_
        rintro e w2 ⟨rfl, hb2⟩
        have c2_0_0 : w2.cell? ⟨w.heap.size, 0, none⟩ = some (.string a) := hb2.keep (by first | assumption | (simp; done) | go_simp)
        have c2_0_1 : w2.cell? ⟨w.heap.size, 1, none⟩ = some (.int .i64 s) := hb2.keep (by first | assumption | (simp; done) | go_simp)
        have l2_0 : w.heap.size < w2.heap.size := cell_lt c2_0_0
        have c2_1_0 : w2.cell? ⟨w.heap.size + 1, 0, none⟩ = some (.string b) := hb2.keep (by first | assumption | (simp; done) | go_simp)
        have c2_1_1 : w2.cell? ⟨w.heap.size + 1, 1, none⟩ = some (.int .i64 t) := hb2.keep (by first | assumption | (simp; done) | go_simp)
        have l2_1 : w.heap.size + 1 < w2.heap.size := cell_lt c2_1_0
        have c2_2_0 : w2.cell? ⟨w.heap.size + 1 + 1, 0, none⟩ = some (.string c) := hb2.keep (by first | assumption | (simp; done) | go_simp)
        have c2_2_1 : w2.cell? ⟨w.heap.size + 1 + 1, 1, none⟩ = some (.int .i64 u) := hb2.keep (by first | assumption | (simp; done) | go_simp)
        have l2_2 : w.heap.size + 1 + 1 < w2.heap.size := cell_lt c2_2_0
        try clear c1_0_0
        try clear c1_0_1
        try clear l1_0
        try clear c1_1_0
        try clear c1_1_1
        try clear l1_1
        try clear c1_2_0
        try clear c1_2_1
        try clear l1_2
        go_wp2_with fail
        refine (P3.out _ (HE.out.bel (by (repeat (first | exact Bel.refl _ | assumption | refine Bel.to_drewN ?_ _ | refine Bel.to_drew ?_ | refine Bel.to_setCell ?_ (by first | exact Nat.le_refl _ | (simp; done) | (simp; omega) | omega) _ | refine Bel.to_alloc ?_ _ | refine Bel.trans ?_ (by assumption)))))).mono ?_
        rintro e w3 ⟨rfl, hb3⟩
        have c3_0_0 : w3.cell? ⟨w.heap.size, 0, none⟩ = some (.string a) := hb3.keep (by first | assumption | (simp; done) | go_simp)
        have c3_0_1 : w3.cell? ⟨w.heap.size, 1, none⟩ = some (.int .i64 s) := hb3.keep (by first | assumption | (simp; done) | go_simp)
        have l3_0 : w.heap.size < w3.heap.size := cell_lt c3_0_0
        have c3_1_0 : w3.cell? ⟨w.heap.size + 1, 0, none⟩ = some (.string b) := hb3.keep (by first | assumption | (simp; done) | go_simp)
        have c3_1_1 : w3.cell? ⟨w.heap.size + 1, 1, none⟩ = some (.int .i64 t) := hb3.keep (by first | assumption | (simp; done) | go_simp)
        have l3_1 : w.heap.size + 1 < w3.heap.size := cell_lt c3_1_0
        have c3_2_0 : w3.cell? ⟨w.heap.size + 1 + 1, 0, none⟩ = some (.string c) := hb3.keep (by first | assumption | (simp; done) | go_simp)
        have c3_2_1 : w3.cell? ⟨w.heap.size + 1 + 1, 1, none⟩ = some (.int .i64 u) := hb3.keep (by first | assumption | (simp; done) | go_simp)
        have l3_2 : w.heap.size + 1 + 1 < w3.heap.size := cell_lt c3_2_0
        try clear c2_0_0
        try clear c2_0_1
        try clear l2_0
        try clear c2_1_0
        try clear c2_1_1
        try clear l2_1
        try clear c2_2_0
        try clear c2_2_1
        try clear l2_2
        go_wp2_with fail
        refine (alive_c _ (HE.out.bel (by (repeat (first | exact Bel.refl _ | assumption | refine Bel.to_drewN ?_ _ | refine Bel.to_drew ?_ | refine Bel.to_setCell ?_ (by first | exact Nat.le_refl _ | (simp; done) | (simp; omega) | omega) _ | refine Bel.to_alloc ?_ _ | refine Bel.trans ?_ (by assumption)))))).mono ?_
        rintro e w4 ⟨rfl, hb4⟩
        have c4_0_0 : w4.cell? ⟨w.heap.size, 0, none⟩ = some (.string a) := hb4.keep (by first | assumption | (simp; done) | go_simp)
        have c4_0_1 : w4.cell? ⟨w.heap.size, 1, none⟩ = some (.int .i64 s) := hb4.keep (by first | assumption | (simp; done) | go_simp)
        have l4_0 : w.heap.size < w4.heap.size := cell_lt c4_0_0
        have c4_1_0 : w4.cell? ⟨w.heap.size + 1, 0, none⟩ = some (.string b) := hb4.keep (by first | assumption | (simp; done) | go_simp)
        have c4_1_1 : w4.cell? ⟨w.heap.size + 1, 1, none⟩ = some (.int .i64 t) := hb4.keep (by first | assumption | (simp; done) | go_simp)
        have l4_1 : w.heap.size + 1 < w4.heap.size := cell_lt c4_1_0
        have c4_2_0 : w4.cell? ⟨w.heap.size + 1 + 1, 0, none⟩ = some (.string c) := hb4.keep (by first | assumption | (simp; done) | go_simp)
        have c4_2_1 : w4.cell? ⟨w.heap.size + 1 + 1, 1, none⟩ = some (.int .i64 u) := hb4.keep (by first | assumption | (simp; done) | go_simp)
        have l4_2 : w.heap.size + 1 + 1 < w4.heap.size := cell_lt c4_2_0
        try clear c3_0_0
        try clear c3_0_1
        try clear l3_0
        try clear c3_1_0
        try clear c3_1_1
        try clear l3_1
        try clear c3_2_0
        try clear c3_2_1
        try clear l3_2
        go_wp2_with fail
        go_ret
        exact ⟨rfl, by (repeat (first | exact Bel.refl _ | assumption | refine Bel.to_drewN ?_ _ | refine Bel.to_drew ?_ | refine Bel.to_setCell ?_ (by first | exact Nat.le_refl _ | (simp; done) | (simp; omega) | omega) _ | refine Bel.to_alloc ?_ _ | refine Bel.trans ?_ (by assumption)))⟩
end Go.Proofs.YtdpmibkiihddjaaDoor
