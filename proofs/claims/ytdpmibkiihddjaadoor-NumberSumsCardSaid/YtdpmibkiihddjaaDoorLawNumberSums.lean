/-
  The walk of the law NumberSums: whatever the two numbers: true.
-/
import Derived.Test.YtdpmibkiihddjaaDoorNO
import Derived.Test.YtdpmibkiihddjaaDoorNP
import Derived.Test.YtdpmibkiihddjaaDoorNM
namespace Go.Proofs.YtdpmibkiihddjaaDoor
open Go.RowKit

set_option maxRecDepth 100000 in
set_option maxHeartbeats 8000000 in
theorem numberSums_walk (a : ByteArray) (ha : a.size ≤ maxLen) (s : Int) (_hs : (Lit.int .i64 s).wf = true) (b : ByteArray) (hb : b.size ≤ maxLen) (t : Int) (_ht : (Lit.int .i64 t).wf = true) (w : World) (hE : EnvN w) :
    Calls Tryd.prog 5 #[.agg #[.string a, .int .i64 s], .agg #[.string b, .int .i64 t]] w (fun e w' => e = .returned (.bool true) ∧ Bel w w') := by
  have HE := Lib.hid hE
  clear hE _hs _ht
  have qg := fun op x y xs ys w1 => eqGuard_num op x y xs ys w1
  have q0 : ∀ w1, (binOp .eql 24 (.agg #[.string ⟨#[]⟩, .int .i64 0]) (.agg #[.string ⟨#[]⟩, .int .i64 0])).run Tryd.prog w1 = .ok (.bool true) w1 := fun w1 => by rw [eql_num, numEq_true.2 ⟨rfl, rfl⟩]
  by_cases hbig : 1500 < a.size ∨ 1500 < b.size
  · have HBIG := Lib.hid hbig
    clear hbig
    rcases Nat.lt_or_ge 1500 a.size with h1 | h1
    · have hbig' : (1500 : Int) < a.size := by omega
      go_enter Tryd.func5, Tryd.ntmps5
      go_wp2_with fail
      refine (alive_c _ (HE.out.bel (by (repeat (first | exact Bel.refl _ | assumption | refine Bel.to_drewN ?_ _ | refine Bel.to_drew ?_ | refine Bel.to_setCell ?_ (by first | exact Nat.le_refl _ | (simp; done) | (simp; omega) | omega) _ | refine Bel.to_alloc ?_ _ | refine Bel.trans ?_ (by assumption)))))).mono ?_
      rintro e w1 ⟨rfl, hb1⟩
      go_wp2_with fail
      go_ret
      exact ⟨rfl, by (repeat (first | exact Bel.refl _ | assumption | refine Bel.to_drewN ?_ _ | refine Bel.to_drew ?_ | refine Bel.to_setCell ?_ (by first | exact Nat.le_refl _ | (simp; done) | (simp; omega) | omega) _ | refine Bel.to_alloc ?_ _ | refine Bel.trans ?_ (by assumption)))⟩
    · have h2 : 1500 < b.size := by have := HBIG.out; omega
      have hbig' : (a.size : Int) ≤ 1500 := by omega
      have hbig2 : (1500 : Int) < b.size := by omega
      go_enter Tryd.func5, Tryd.ntmps5
      go_wp2_with fail
      refine (alive_c _ (HE.out.bel (by (repeat (first | exact Bel.refl _ | assumption | refine Bel.to_drewN ?_ _ | refine Bel.to_drew ?_ | refine Bel.to_setCell ?_ (by first | exact Nat.le_refl _ | (simp; done) | (simp; omega) | omega) _ | refine Bel.to_alloc ?_ _ | refine Bel.trans ?_ (by assumption)))))).mono ?_
      rintro e w1 ⟨rfl, hb1⟩
      go_wp2_with fail
      go_ret
      exact ⟨rfl, by (repeat (first | exact Bel.refl _ | assumption | refine Bel.to_drewN ?_ _ | refine Bel.to_drew ?_ | refine Bel.to_setCell ?_ (by first | exact Nat.le_refl _ | (simp; done) | (simp; omega) | omega) _ | refine Bel.to_alloc ?_ _ | refine Bel.trans ?_ (by assumption)))⟩
  · have ha2 : (a.size : Int) ≤ 1500 := by omega
    have hb2 : (b.size : Int) ≤ 1500 := by omega
    have h1 := fun w1 (h : EnvN w1) => compare_c a ha s b hb t w1 h
    have h2 := fun w1 (h : EnvN w1) => add_c a ha s b hb t w1 h
    have h3 := fun w1 => rcheck_c a ha s w1
    have h4 := fun w1 => rcheck_c b hb t w1
    have hz1 := @checkN_zero (dl a) s
    have hz2 := @checkN_zero (dl b) t
    have hbo : bothN (dl a) s (dl b) t = if checkN (dl a) s = 0 then checkN (dl b) t else checkN (dl a) s := rfl
    obtain ⟨n, hn⟩ : ∃ n, checkN (dl a) s = n := ⟨_, rfl⟩
    obtain ⟨m, hm⟩ : ∃ m, checkN (dl b) t = m := ⟨_, rfl⟩
    obtain ⟨o, ho⟩ : ∃ o, bothN (dl a) s (dl b) t = o := ⟨_, rfl⟩
    rw [hn] at h3 hz1
    rw [hm] at h4 hz2
    rw [hn, hm, ho] at hbo
    clear hn hm hbig
    by_cases h0 : o = 0
    · have hn0 : n = 0 := by rw [hbo] at h0; split at h0 <;> omega
      have hm0 : m = 0 := by rw [hbo, if_pos hn0] at h0; exact h0
      subst hn0 hm0
      obtain ⟨hd1, hn1, hl1, hs0, hs1⟩ := hz1 rfl
      obtain ⟨hd2, hn2, hl2, ht0, ht1⟩ := hz2 rfl
      obtain ⟨s, rfl⟩ := Int.eq_ofNat_of_zero_le hs0
      obtain ⟨t, rfl⟩ := Int.eq_ofNat_of_zero_le ht0
      rw [dl_size] at hl1 hl2
      have h5 := fun w1 => radd_c a s b t hd1 hd2 hl1 hl2 (by omega) (by omega) w1
      have h6 := fun w1 => rcompare_c a s b t hd1 hd2 hl1 hl2 (by omega) (by omega) w1
      obtain ⟨K, hK⟩ : ∃ K, cmpN (V (dl a) s) (V (dl b) t) = K := ⟨_, rfl⟩
      rw [hK] at h6
      have p1 : ∀ w1, EnvN w1 → Calls Tryd.prog 17 #[.agg #[.string a, .int .i64 s], .agg #[.string b, .int .i64 t]] w1 fun e w' => e = .returned (.tuple #[.int .i64 K, .int .i64 0]) ∧ Bel w1 w' := fun w1 h =>
        (h1 w1 h).mono fun e w' ⟨he, hb⟩ => ⟨by rw [he]; unfold compareE; rw [ho, if_pos h0]; simp only [Int.toNat_natCast, hK]; rfl, hb⟩
      have key : ∀ S S' : List UInt8, S.all isDig = true → 10 ^ (1000 - max (s : Int).toNat (t : Int).toNat) * val S = V (dl a) (s : Int).toNat + V (dl b) (t : Int).toNat → S'.all isDig = true → val S' = V (dl a) s + V (dl b) t → canonL S (max s t : Nat) = canonL S' 1000 := by
        intro S S' hS hv hS' hv'
        rw [Int.toNat_natCast, Int.toNat_natCast] at hv
        obtain ⟨z, hz⟩ : ∃ z : Nat, z = 1000 := ⟨_, rfl⟩
        have h9 := canon_same_val S S' (max s t) z _ hS hS' (by omega) (by omega) hv (by rw [mul_self_pow _ _ (by omega)]; exact hv')
        rw [hz] at h9
        exact h9
      have hadd : ∀ S, bothN (dl a) (s : Int) (dl b) (t : Int) = 0 → addE (dl a) s (dl b) t S = if 1000 < (canonL S (max s t : Nat)).1.length then (([], 0), 19) else (canonL S (max s t : Nat), 0) := by
        intro S h
        unfold addE
        rw [h, if_pos rfl, show max (s : Int) (t : Int) = ((max s t : Nat) : Int) from by omega]
      have P1 := Lib.hid p1
      have P2 := Lib.hid h2
      have P3 := Lib.hid h3
      have P4 := Lib.hid h4
      have P5 := Lib.hid h5
      have P6 := Lib.hid h6
      have HKEY := Lib.hid key
      have HADD := Lib.hid hadd
      have HO := Lib.hid (ho.trans h0)
      clear p1 h1 h2 h3 h4 h5 h6 key hadd ho h0 hbo hK hd1 hn1 hl1 hs0 hs1 hd2 hn2 hl2 ht0 ht1 hz1 hz2 o ha hb
      go_enter Tryd.func5, Tryd.ntmps5
      go_wp2_with fail
      refine (P1.out _ (HE.out.bel (by (repeat (first | exact Bel.refl _ | assumption | refine Bel.to_drewN ?_ _ | refine Bel.to_drew ?_ | refine Bel.to_setCell ?_ (by first | exact Nat.le_refl _ | (simp; done) | (simp; omega) | omega) _ | refine Bel.to_alloc ?_ _ | refine Bel.trans ?_ (by assumption)))))).mono ?_
      rintro e w1 ⟨rfl, hb1⟩
      obtain ⟨hc1, hf1⟩ := bcell hb1
      have hz1 : w.heap.size + 1 < w1.heap.size := by have := hb1.size; simp at this; omega
      have hz1' : w.heap.size < w1.heap.size := by omega
      go_wp2_with fail
      refine (P2.out _ (HE.out.bel (by (repeat (first | exact Bel.refl _ | assumption | refine Bel.to_drewN ?_ _ | refine Bel.to_drew ?_ | refine Bel.to_setCell ?_ (by first | exact Nat.le_refl _ | (simp; done) | (simp; omega) | omega) _ | refine Bel.to_alloc ?_ _ | refine Bel.trans ?_ (by assumption)))))).mono ?_
      rintro e w2 ⟨S, hS, hSn, hSl, hv, he, hb2⟩
      have hv := hv HO.out
      rw [HADD.out S HO.out] at he
      obtain ⟨⟨C1, C2⟩, hC⟩ : ∃ C, canonL S (max s t : Nat) = C := ⟨_, rfl⟩
      rw [hC] at he
      have h5 : ∀ w1, Calls Tryd.prog 19 #[.agg #[.string a, .int .i64 s], .agg #[.string b, .int .i64 t]] w1 (RetNum (C1, C2) w1) := fun w1 =>
        (P5.out w1).mono fun e w' ⟨S', hS', _, hv', h⟩ => by rw [← hC, HKEY.out S S' hS hv hS' hv']; exact h
      have P5' := Lib.hid h5
      clear h5 hS hSn hSl hv hC
      obtain ⟨hc2, hf2⟩ := bcell hb2
      have hz2 : w.heap.size + 1 < w2.heap.size := by have := hb2.size; omega
      have hz2' : w.heap.size < w2.heap.size := by omega
      dsimp only at he
      have hbigC : 1000 < C1.length ∨ C1.length ≤ 1000 := by omega
      have HBC := Lib.hid hbigC
      clear hbigC
      obtain ⟨Q, hQ⟩ : ∃ Q : ByteArray, bs C1 = Q := ⟨_, rfl⟩
      have hQs : Q.size = C1.length := by rw [← hQ, bs_size]
      have p5 : ∀ w1, Calls Tryd.prog 19 #[.agg #[.string a, .int .i64 s], .agg #[.string b, .int .i64 t]] w1 fun e w' => e = .returned (.agg #[.string Q, .int .i64 C2]) ∧ Bel w1 w' := by rw [← hQ]; exact P5'.out
      have P5'' := Lib.hid p5
      have HQS := Lib.hid hQs
      rcases HBC.out with hbc | hbc
      · rw [if_pos hbc] at he
        have hbq : (1000 : Int) < Q.size := by rw [hQs]; omega
        have he2 : e = .returned (.tuple #[.agg #[.string ⟨#[]⟩, .int .i64 0], .int .i64 19]) := he
        subst he2
        clear he p5 hQ hQs P5' hbc
        go_wp2_with fail
        refine (P3.out _).mono ?_
        rintro e w3 ⟨rfl, hb3⟩
        obtain ⟨hc3, hf3⟩ := bcell hb3
        have hz3 : w2.heap.size < w3.heap.size := by have := hb3.size; simp at this; omega
        have hz3' : w.heap.size + 1 < w3.heap.size := by omega
        have hz3'' : w.heap.size < w3.heap.size := by omega
        have ne1 : w.heap.size ≠ w2.heap.size := by omega
        have ne2 : w.heap.size + 1 ≠ w2.heap.size := by omega
        go_wp2_with fail
        refine (P4.out _).mono ?_
        rintro e w4 ⟨rfl, hb4⟩
        obtain ⟨hc4, hf4⟩ := bcell hb4
        have hz4 : w2.heap.size < w4.heap.size := by have := hb4.size; omega
        have hz4' : w.heap.size + 1 < w4.heap.size := by omega
        have hz4'' : w.heap.size < w4.heap.size := by omega
        go_wp2_with fail
        refine (P5''.out _).mono ?_
        rintro e w5 ⟨rfl, hb5⟩
        obtain ⟨hc5, hf5⟩ := bcell hb5
        have hz5 : w2.heap.size < w5.heap.size := by have := hb5.size; omega
        have hz5' : w.heap.size + 1 < w5.heap.size := by omega
        have hz5'' : w.heap.size < w5.heap.size := by omega
        go_wp2_with fail
        refine (alive_c _ (HE.out.bel (by (repeat (first | exact Bel.refl _ | assumption | refine Bel.to_drewN ?_ _ | refine Bel.to_drew ?_ | refine Bel.to_setCell ?_ (by first | exact Nat.le_refl _ | (simp; done) | (simp; omega) | omega) _ | refine Bel.to_alloc ?_ _ | refine Bel.trans ?_ (by assumption)))))).mono ?_
        rintro e w6 ⟨rfl, hb6⟩
        obtain ⟨hc6, hf6⟩ := bcell hb6
        have hz6 : w5.heap.size < w6.heap.size := by have := hb6.size; simp at this; omega
        have hz6' : w.heap.size + 1 < w6.heap.size := by omega
        have hz6'' : w.heap.size < w6.heap.size := by omega
        have hz62 : w2.heap.size < w6.heap.size := by omega
        have ne3 : w.heap.size ≠ w5.heap.size := by omega
        have ne4 : w.heap.size + 1 ≠ w5.heap.size := by omega
        have ne5 : w2.heap.size ≠ w5.heap.size := by omega
        go_wp2_with fail
        refine (P6.out _).mono ?_
        rintro e w7 ⟨rfl, hb7⟩
        obtain ⟨hc7, hf7⟩ := bcell hb7
        have hz7 : w5.heap.size < w7.heap.size := by have := hb7.size; omega
        have hz7' : w2.heap.size < w7.heap.size := by omega
        go_wp2_with fail
        go_ret
        exact ⟨rfl, by (repeat (first | exact Bel.refl _ | assumption | refine Bel.to_drewN ?_ _ | refine Bel.to_drew ?_ | refine Bel.to_setCell ?_ (by first | exact Nat.le_refl _ | (simp; done) | (simp; omega) | omega) _ | refine Bel.to_alloc ?_ _ | refine Bel.trans ?_ (by assumption)))⟩
      · rw [if_neg (by omega)] at he
        have hbq : (Q.size : Int) ≤ 1000 := by rw [hQs]; omega
        have he2 : e = .returned (.tuple #[.agg #[.string Q, .int .i64 C2], .int .i64 0]) := by rw [← hQ]; exact he
        have q1 : ∀ w1, (binOp .eql 24 (.agg #[.string Q, .int .i64 C2]) (.agg #[.string Q, .int .i64 C2])).run Tryd.prog w1 = .ok (.bool true) w1 := fun w1 => by rw [eql_num, numEq_true.2 ⟨rfl, rfl⟩]
        subst he2
        clear he p5 hQ hQs P5' hbc
        go_wp2_with fail
        refine (P3.out _).mono ?_
        rintro e w3 ⟨rfl, hb3⟩
        obtain ⟨hc3, hf3⟩ := bcell hb3
        have hz3 : w2.heap.size < w3.heap.size := by have := hb3.size; simp at this; omega
        have hz3' : w.heap.size + 1 < w3.heap.size := by omega
        have hz3'' : w.heap.size < w3.heap.size := by omega
        have ne1 : w.heap.size ≠ w2.heap.size := by omega
        have ne2 : w.heap.size + 1 ≠ w2.heap.size := by omega
        go_wp2_with fail
        refine (P4.out _).mono ?_
        rintro e w4 ⟨rfl, hb4⟩
        obtain ⟨hc4, hf4⟩ := bcell hb4
        have hz4 : w2.heap.size < w4.heap.size := by have := hb4.size; omega
        have hz4' : w.heap.size + 1 < w4.heap.size := by omega
        have hz4'' : w.heap.size < w4.heap.size := by omega
        go_wp2_with fail
        refine (P5''.out _).mono ?_
        rintro e w5 ⟨rfl, hb5⟩
        obtain ⟨hc5, hf5⟩ := bcell hb5
        have hz5 : w2.heap.size < w5.heap.size := by have := hb5.size; omega
        have hz5' : w.heap.size + 1 < w5.heap.size := by omega
        have hz5'' : w.heap.size < w5.heap.size := by omega
        go_wp2_with fail
        refine (alive_c _ (HE.out.bel (by (repeat (first | exact Bel.refl _ | assumption | refine Bel.to_drewN ?_ _ | refine Bel.to_drew ?_ | refine Bel.to_setCell ?_ (by first | exact Nat.le_refl _ | (simp; done) | (simp; omega) | omega) _ | refine Bel.to_alloc ?_ _ | refine Bel.trans ?_ (by assumption)))))).mono ?_
        rintro e w6 ⟨rfl, hb6⟩
        obtain ⟨hc6, hf6⟩ := bcell hb6
        have hz6 : w5.heap.size < w6.heap.size := by have := hb6.size; simp at this; omega
        have hz6' : w.heap.size + 1 < w6.heap.size := by omega
        have hz6'' : w.heap.size < w6.heap.size := by omega
        have hz62 : w2.heap.size < w6.heap.size := by omega
        have ne3 : w.heap.size ≠ w5.heap.size := by omega
        have ne4 : w.heap.size + 1 ≠ w5.heap.size := by omega
        have ne5 : w2.heap.size ≠ w5.heap.size := by omega
        go_wp2_with fail
        refine (P6.out _).mono ?_
        rintro e w7 ⟨rfl, hb7⟩
        obtain ⟨hc7, hf7⟩ := bcell hb7
        have hz7 : w5.heap.size < w7.heap.size := by have := hb7.size; omega
        have hz7' : w2.heap.size < w7.heap.size := by omega
        go_wp2_with fail
        go_ret
        exact ⟨rfl, by (repeat (first | exact Bel.refl _ | assumption | refine Bel.to_drewN ?_ _ | refine Bel.to_drew ?_ | refine Bel.to_setCell ?_ (by first | exact Nat.le_refl _ | (simp; done) | (simp; omega) | omega) _ | refine Bel.to_alloc ?_ _ | refine Bel.trans ?_ (by assumption)))⟩
    · have P : o ≠ 0 := h0
      have p1 : ∀ w1, EnvN w1 → Calls Tryd.prog 17 #[.agg #[.string a, .int .i64 s], .agg #[.string b, .int .i64 t]] w1 fun e w' => e = .returned (.tuple #[.int .i64 0, .int .i64 o]) ∧ Bel w1 w' := fun w1 h =>
        (h1 w1 h).mono fun e w' ⟨he, hb⟩ => ⟨by rw [he]; unfold compareE; rw [ho, if_neg h0], hb⟩
      have p2 : ∀ w1, EnvN w1 → Calls Tryd.prog 18 #[.agg #[.string a, .int .i64 s], .agg #[.string b, .int .i64 t]] w1 fun e w' => e = .returned (.tuple #[.agg #[.string ⟨#[]⟩, .int .i64 0], .int .i64 o]) ∧ Bel w1 w' := fun w1 h =>
        (h2 w1 h).mono fun e w' ⟨S, _, _, _, _, he, hb⟩ => ⟨by rw [he]; unfold addE; rw [ho, if_neg h0]; rfl, hb⟩
      have ho0 : ((o : Int) == 0) = false := beq_eq_false_iff_ne.2 (by omega)
      have ho1 : ((o : Int) != 0) = true := by rw [bne_iff_ne]; omega
      have P1 := Lib.hid p1
      have P2 := Lib.hid p2
      have P4 := Lib.hid h4
      clear p1 p2 h1 h2 h4 hz1 hz2 ho h0 ha hb P
      by_cases hn0 : n = 0
      · subst hn0
        have hmo : m = o := by simpa using hbo.symm
        subst hmo
        have P3 := Lib.hid h3
        clear h3 hbo
        go_enter Tryd.func5, Tryd.ntmps5
        go_wp2_with fail
        refine (P1.out _ (HE.out.bel (by (repeat (first | exact Bel.refl _ | assumption | refine Bel.to_drewN ?_ _ | refine Bel.to_drew ?_ | refine Bel.to_setCell ?_ (by first | exact Nat.le_refl _ | (simp; done) | (simp; omega) | omega) _ | refine Bel.to_alloc ?_ _ | refine Bel.trans ?_ (by assumption)))))).mono ?_
        rintro e w1 ⟨rfl, hb1⟩
        obtain ⟨hc1, hf1⟩ := bcell hb1
        have hz1 : w.heap.size + 1 < w1.heap.size := by have := hb1.size; simp at this; omega
        have hz1' : w.heap.size < w1.heap.size := by omega
        go_wp2_with fail
        refine (P2.out _ (HE.out.bel (by (repeat (first | exact Bel.refl _ | assumption | refine Bel.to_drewN ?_ _ | refine Bel.to_drew ?_ | refine Bel.to_setCell ?_ (by first | exact Nat.le_refl _ | (simp; done) | (simp; omega) | omega) _ | refine Bel.to_alloc ?_ _ | refine Bel.trans ?_ (by assumption)))))).mono ?_
        rintro e w2 ⟨rfl, hb2⟩
        obtain ⟨hc2, hf2⟩ := bcell hb2
        have hz2 : w.heap.size + 1 < w2.heap.size := by have := hb2.size; omega
        have hz2' : w.heap.size < w2.heap.size := by omega
        go_wp2_with fail
        refine (P3.out _).mono ?_
        rintro e w3 ⟨rfl, hb3⟩
        obtain ⟨hc3, hf3⟩ := bcell hb3
        have hz3 : w2.heap.size < w3.heap.size := by have := hb3.size; simp at this; omega
        have hz3' : w.heap.size + 1 < w3.heap.size := by omega
        have hz3'' : w.heap.size < w3.heap.size := by omega
        have ne1 : w.heap.size ≠ w2.heap.size := by omega
        have ne2 : w.heap.size + 1 ≠ w2.heap.size := by omega
        go_wp2_with fail
        refine (P4.out _).mono ?_
        rintro e w4 ⟨rfl, hb4⟩
        obtain ⟨hc4, hf4⟩ := bcell hb4
        have hz4 : w2.heap.size < w4.heap.size := by have := hb4.size; omega
        go_wp2_with fail
        refine (alive_c _ (HE.out.bel (by (repeat (first | exact Bel.refl _ | assumption | refine Bel.to_drewN ?_ _ | refine Bel.to_drew ?_ | refine Bel.to_setCell ?_ (by first | exact Nat.le_refl _ | (simp; done) | (simp; omega) | omega) _ | refine Bel.to_alloc ?_ _ | refine Bel.trans ?_ (by assumption)))))).mono ?_
        rintro e w6 ⟨rfl, hb6⟩
        obtain ⟨hc6, hf6⟩ := bcell hb6
        have hz6 : w2.heap.size < w6.heap.size := by have := hb6.size; omega
        go_wp2_with fail
        go_ret
        exact ⟨rfl, by (repeat (first | exact Bel.refl _ | assumption | refine Bel.to_drewN ?_ _ | refine Bel.to_drew ?_ | refine Bel.to_setCell ?_ (by first | exact Nat.le_refl _ | (simp; done) | (simp; omega) | omega) _ | refine Bel.to_alloc ?_ _ | refine Bel.trans ?_ (by assumption)))⟩
      · have hno : n = o := by simpa [hn0] using hbo.symm
        subst hno
        have P3 := Lib.hid h3
        clear h3 hbo hn0
        go_enter Tryd.func5, Tryd.ntmps5
        go_wp2_with fail
        refine (P1.out _ (HE.out.bel (by (repeat (first | exact Bel.refl _ | assumption | refine Bel.to_drewN ?_ _ | refine Bel.to_drew ?_ | refine Bel.to_setCell ?_ (by first | exact Nat.le_refl _ | (simp; done) | (simp; omega) | omega) _ | refine Bel.to_alloc ?_ _ | refine Bel.trans ?_ (by assumption)))))).mono ?_
        rintro e w1 ⟨rfl, hb1⟩
        obtain ⟨hc1, hf1⟩ := bcell hb1
        have hz1 : w.heap.size + 1 < w1.heap.size := by have := hb1.size; simp at this; omega
        have hz1' : w.heap.size < w1.heap.size := by omega
        go_wp2_with fail
        refine (P2.out _ (HE.out.bel (by (repeat (first | exact Bel.refl _ | assumption | refine Bel.to_drewN ?_ _ | refine Bel.to_drew ?_ | refine Bel.to_setCell ?_ (by first | exact Nat.le_refl _ | (simp; done) | (simp; omega) | omega) _ | refine Bel.to_alloc ?_ _ | refine Bel.trans ?_ (by assumption)))))).mono ?_
        rintro e w2 ⟨rfl, hb2⟩
        obtain ⟨hc2, hf2⟩ := bcell hb2
        have hz2 : w.heap.size + 1 < w2.heap.size := by have := hb2.size; omega
        have hz2' : w.heap.size < w2.heap.size := by omega
        go_wp2_with fail
        refine (P3.out _).mono ?_
        rintro e w3 ⟨rfl, hb3⟩
        obtain ⟨hc3, hf3⟩ := bcell hb3
        have hz3 : w2.heap.size < w3.heap.size := by have := hb3.size; simp at this; omega
        have hz3' : w.heap.size + 1 < w3.heap.size := by omega
        have hz3'' : w.heap.size < w3.heap.size := by omega
        have ne1 : w.heap.size ≠ w2.heap.size := by omega
        have ne2 : w.heap.size + 1 ≠ w2.heap.size := by omega
        go_wp2_with fail
        refine (alive_c _ (HE.out.bel (by (repeat (first | exact Bel.refl _ | assumption | refine Bel.to_drewN ?_ _ | refine Bel.to_drew ?_ | refine Bel.to_setCell ?_ (by first | exact Nat.le_refl _ | (simp; done) | (simp; omega) | omega) _ | refine Bel.to_alloc ?_ _ | refine Bel.trans ?_ (by assumption)))))).mono ?_
        rintro e w6 ⟨rfl, hb6⟩
        obtain ⟨hc6, hf6⟩ := bcell hb6
        have hz6 : w2.heap.size < w6.heap.size := by have := hb6.size; omega
        go_wp2_with fail
        go_ret
        exact ⟨rfl, by (repeat (first | exact Bel.refl _ | assumption | refine Bel.to_drewN ?_ _ | refine Bel.to_drew ?_ | refine Bel.to_setCell ?_ (by first | exact Nat.le_refl _ | (simp; done) | (simp; omega) | omega) _ | refine Bel.to_alloc ?_ _ | refine Bel.trans ?_ (by assumption)))⟩
end Go.Proofs.YtdpmibkiihddjaaDoor
