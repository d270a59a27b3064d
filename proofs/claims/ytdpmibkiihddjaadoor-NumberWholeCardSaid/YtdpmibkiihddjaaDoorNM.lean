/-
  The walk of the document's answer for number: Add.
-/
import Derived.Test.YtdpmibkiihddjaaDoorNL
namespace Go.Proofs.YtdpmibkiihddjaaDoor
open Go.RowKit

theorem radd_step (U W k c : Nat) (S : List UInt8) (hS : S.length = k) (h : val S + 10 ^ k * c = U % 10 ^ k + W % 10 ^ k) :
    let t := U / 10 ^ k % 10 + W / 10 ^ k % 10 + c
    val (UInt8.ofNat (48 + t % 10) :: S) + 10 ^ (k + 1) * (t / 10) = U % 10 ^ (k + 1) + W % 10 ^ (k + 1) := by
  intro t
  rw [val_cons, (digit_dig (t % 10) (by omega)).2, hS, Nat.mod_pow_succ, Nat.mod_pow_succ, Nat.pow_succ]
  obtain ⟨p, hp⟩ : ∃ p, 10 ^ k = p := ⟨_, rfl⟩
  have ht0 : t = U / p % 10 + W / p % 10 + c := by rw [← hp]
  rw [hp] at h ⊢
  have ht : p * t = p * (U / p % 10) + p * (W / p % 10) + p * c := by rw [← Nat.mul_add, ← Nat.mul_add, ← ht0]
  have ht2 : p * t = p * (t % 10) + p * 10 * (t / 10) := by
    conv => lhs; rw [← Nat.mod_add_div t 10]
    rw [Nat.mul_add, Nat.mul_assoc]
  omega

/-- 'string([]byte{c})'. -/
theorem one_byte (W : World) (n : Int) (q : UInt8) (h : n = q.toNat) :
    (convert 60 9 (.slice (some ⟨W.heap.size, 0, none⟩) 1 1)).run Tryd.prog (W.alloc (.cells #[.int .u8 n] 5)) = .ok (.string (bs [q])) (W.alloc (.cells #[.int .u8 n] 5)) := by
  have := run_convert_bytes_back (P := Tryd.prog) (W.alloc (.cells #[.int .u8 n] 5)) 60 9 5 ⟨W.heap.size, 0, none⟩ 1 [q] Tryd.underlying60 Tryd.underlying5 Tryd.underlying9 (fun j hj => by
    obtain rfl : j = 0 := by simpa using hj
    rw [show (⟨W.heap.size, 0, none⟩ : Addr).add 0 = ⟨W.heap.size, 0, none⟩ from by simp [Addr.add]]
    simp [h])
  exact this

/-- The digits that the document's sum is made of. -/
def RetRAdd (a : List UInt8) (s : Nat) (b : List UInt8) (t : Nat) (w : World) (e : Ending) (w' : World) : Prop :=
  ∃ S, S.all isDig = true ∧ S ≠ [] ∧ val S = V a s + V b t ∧ RetNum (canonL S 1000) w e w'

set_option maxRecDepth 100000 in
set_option maxHeartbeats 4000000 in
theorem radd_c (a : ByteArray) (s : Nat) (b : ByteArray) (t : Nat) (ha : (dl a).all isDig = true) (hb : (dl b).all isDig = true) (hal : a.size ≤ 1000) (hbl : b.size ≤ 1000) (hs : s ≤ 1000) (ht : t ≤ 1000) (w : World) :
    Calls Tryd.prog 19 #[.agg #[.string a, .int .i64 s], .agg #[.string b, .int .i64 t]] w (RetRAdd (dl a) s (dl b) t w) := by
  have hU := V_lt (dl a) s ha (by rw [dl_size]; omega)
  have hW := V_lt (dl b) t hb (by rw [dl_size]; omega)
  have hra := fun j => ratL_eq (dl a) s ha hs j
  have hrb := fun j => ratL_eq (dl b) t hb ht j
  obtain ⟨U, hUU⟩ : ∃ U, V (dl a) s = U := ⟨_, rfl⟩
  obtain ⟨W, hWW⟩ : ∃ W, V (dl b) t = W := ⟨_, rfl⟩
  rw [hUU] at hU hra
  rw [hWW] at hW hrb
  have HUU := Lib.hid hUU
  have HWW := Lib.hid hWW
  have HRA := Lib.hid hra
  have HRB := Lib.hid hrb
  have HU := Lib.hid hU
  have HW := Lib.hid hW
  clear hra hrb hU hW hUU hWW ha hb
  go_enter Tryd.func19, Tryd.ntmps19
  go_wp2_with fail
  have t1 := ((Two.new w 24 (.string a) (.int .i64 s)).bel (Bel.alloc _ (.cells #[.string b, .int .i64 t] 24))).bel (Bel.alloc _ (.cells #[.string ⟨#[]⟩, .int .i64 0] 24))
  have t2 := (Two.new (w.alloc (.cells #[.string a, .int .i64 s] 24)) 24 (.string b) (.int .i64 t)).bel (Bel.alloc _ (.cells #[.string ⟨#[]⟩, .int .i64 0] 24))
  have t3 := Two.new ((w.alloc (.cells #[.string a, .int .i64 s] 24)).alloc (.cells #[.string b, .int .i64 t] 24)) 24 (.string ⟨#[]⟩) (.int .i64 0)
  rw [World.size_alloc] at t2
  rw [World.size_alloc, World.size_alloc] at t3
  have hb0 : Bel w (((w.alloc (.cells #[.string a, .int .i64 s] 24)).alloc (.cells #[.string b, .int .i64 t] 24)).alloc (.cells #[.string ⟨#[]⟩, .int .i64 0] 24)) := by (repeat (first | exact Bel.refl _ | assumption | refine Bel.to_drewN ?_ _ | refine Bel.to_drew ?_ | refine Bel.to_setCell ?_ (by first | exact Nat.le_refl _ | (simp; done) | (simp; omega) | omega) _ | refine Bel.to_alloc ?_ _ | refine Bel.trans ?_ (by assumption)))
  go_loopw [5, 6, 7] (fun sv cv i wr => ∃ (k c : Nat) (z : Int) (X : ByteArray), k ≤ 2002 ∧ i = .int .i64 z ∧ Hid (z = (k : Int) - 1000) ∧ sv = .string X ∧ cv = .int .i64 c ∧ c ≤ 1 ∧ X.size ≤ 2002 ∧ Hid (X.size = k) ∧ Hid ((dl X).all isDig = true) ∧ Two wr w.heap.size 24 (.string a) (.int .i64 s) ∧ Two wr (w.heap.size + 1) 24 (.string b) (.int .i64 t) ∧ Two wr (w.heap.size + 1 + 1) 24 (.string ⟨#[]⟩) (.int .i64 0) ∧ Bel w wr ∧ Hid (val (dl X) + 10 ^ k * c = U % 10 ^ k + W % 10 ^ k)) (fun _ _ i _ => (1002 - intOf i).toNat)
  case atStart => exact ⟨0, 0, -1000, ⟨#[]⟩, by omega, rfl, Lib.hid (by omega), rfl, rfl, by omega, by decide, Lib.hid rfl, Lib.hid rfl, t1, t2, t3, hb0, Lib.hid (by simp [Nat.mod_one]; rfl)⟩
  case round =>
    obtain ⟨k, c, z, X, hk, rfl, hz, rfl, rfl, hc, hXb, hXs, hXd, h1, h2, h3, hbel, hval⟩ := hrel
    clear t1 t2 t3 hb0
    have q0 := h1.c0
    have q1 := h1.c1
    have r0 := h2.c0
    have r1 := h2.c1
    have hlt := h1.lt
    have hlt2 := h2.lt
    have H1 := Lib.hid h1
    have H2 := Lib.hid h2
    have H3 := Lib.hid h3
    clear h1 h2 h3
    by_cases hk0 : k < 2002
    · have hz0 : -1000 ≤ z := by have := hz.out; omega
      have hz1 : z ≤ 1001 := by have := hz.out; omega
      have hzj : z = (k : Int) - 1000 := by have := hz.out; omega
      have c1 := fun w1 => rat_c a (by omega) s (by omega) z (by omega) (by omega) w1
      have c2 := fun w1 => rat_c b (by omega) t (by omega) z (by omega) (by omega) w1
      rw [show ratL (dl a) s z = ((U / 10 ^ k % 10 : Nat) : Int) from by rw [hzj]; exact HRA.out k] at c1
      rw [show ratL (dl b) t z = ((W / 10 ^ k % 10 : Nat) : Int) from by rw [hzj]; exact HRB.out k] at c2
      have hst := radd_step U W k c (dl X) hXs.out hval.out
      obtain ⟨A, hA⟩ : ∃ A, U / 10 ^ k % 10 = A := ⟨_, rfl⟩
      obtain ⟨B, hB⟩ : ∃ B, W / 10 ^ k % 10 = B := ⟨_, rfl⟩
      rw [hA, hB] at hst
      rw [hA] at c1
      rw [hB] at c2
      have hAb : A < 10 := by omega
      have hBb : B < 10 := by omega
      obtain ⟨D, hD⟩ : ∃ D, A + B + c = D := ⟨_, rfl⟩
      rw [hD] at hst
      have hDi : ((A : Int) + B + c) = D := by omega
      have hDb : D ≤ 19 := by omega
      have f1 : IntKind.i64.wrap ((A : Int) + B) = (A : Int) + B := IntWalk.i64_in _ (by omega)
      have f2 : IntKind.i64.wrap ((A : Int) + B + c) = (A : Int) + B + c := IntWalk.i64_in _ (by omega)
      have C1 := Lib.hid c1
      have C2 := Lib.hid c2
      have HST := Lib.hid hst
      have HDI := Lib.hid hDi
      clear c1 c2 hst hA hB hval hzj hDi hD
      go_wp2_with fail
      go_region_held3 (fun w' => w'.cell? ⟨w.heap.size, 0, none⟩ = some (.string a) ∧ w'.cell? ⟨w.heap.size, 1, none⟩ = some (.int .i64 s) ∧ w'.cell? ⟨w.heap.size + 1, 0, none⟩ = some (.string b) ∧ w'.cell? ⟨w.heap.size + 1, 1, none⟩ = some (.int .i64 t) ∧ Bel wr w')
        (((try dsimp only); (try go_split_ands); (refine ⟨?_, ?_, ?_, ?_, ?_⟩ <;> first | assumption | exact Bel.keep (by assumption) (by assumption) | ((repeat (first | exact Bel.refl _ | assumption | refine Bel.to_drewN ?_ _ | refine Bel.to_drew ?_ | refine Bel.to_setCell ?_ (by first | exact Nat.le_refl _ | (simp; done) | (simp; omega) | omega) _ | refine Bel.to_alloc ?_ _ | refine Bel.trans ?_ (by assumption))); done) | (go_keep; done))))
        (first
          | ((with_reducible refine (C1.out _).mono ?_); rintro e w3 ⟨rfl, hb3⟩)
          | ((with_reducible refine (C2.out _).mono ?_); rintro e w4 ⟨rfl, hb4⟩))
      rw [HDI.out]
      clear f1 f2 q0 q1 r0 r1
      obtain ⟨q, hq⟩ : ∃ q : UInt8, UInt8.ofNat (48 + D % 10) = q := ⟨_, rfl⟩
      have hst := HST.out
      rw [hq] at hst
      have hqd := digit_dig (D % 10) (by omega)
      rw [hq] at hqd
      have hqi : (48 : Int) + (D : Int) % 10 = (q.toNat : Int) := by
        have : (UInt8.ofNat (48 + D % 10)).toNat = 48 + D % 10 := by rw [UInt8.toNat_ofNat']; omega
        rw [hq] at this; omega
      have hcv := one_byte w4 ((48 : Int) + (D : Int) % 10) q hqi
      obtain ⟨Q, hQ⟩ : ∃ Q, bs [q] = Q := ⟨_, rfl⟩
      rw [hQ] at hcv
      have hQs : Q.size = 1 := by rw [← hQ, bs_size]; rfl
      have hdl : dl (Q ++ X) = q :: dl X := by rw [← hQ]; simp [dl, bs]
      have hsz : (Q ++ X).size = X.size + 1 := by rw [ByteArray.size_append, hQs]; omega
      have hno : ¬ (9223372036854775807 < Q.size + X.size) := by omega
      have HST2 := Lib.hid hst
      have HDL := Lib.hid hdl
      have HSZ := Lib.hid hsz
      have HQD := Lib.hid hqd
      clear hst hqd hqi hq hQ hdl hsz hQs HST
      go_split_ands
      rename_i p0 p1 p2 p3 p4
      have HP4 := Lib.hid p4
      clear p0 p1 p2 p3 p4 hb3 hb4
      go_wp2_with fail
      have hp4 := HP4.out
      have hXk := hXs.out
      have hB1 : Bel wr (w4.alloc (.cells #[.int .u8 (48 + (D : Int) % 10)] 5)) := Bel.to_alloc hp4 _
      refine ⟨⟨k + 1, D / 10, z + 1, Q ++ X, by omega, rfl, Lib.hid (by have := hz.out; omega), rfl, by go_num, by omega, by rw [HSZ.out]; omega, Lib.hid (by rw [HSZ.out]; omega), Lib.hid (by rw [HDL.out, List.all_cons, HQD.out.1, hXd.out]; rfl), H1.out.bel hB1, H2.out.bel hB1, H3.out.bel hB1, hbel.trans hB1, Lib.hid (by rw [HDL.out]; exact HST2.out)⟩, by simp [intOf]; omega⟩
    · obtain rfl : k = 2002 := by omega
      have hz2 : (1001 : Int) < z := by have := hz.out; omega
      obtain ⟨N, hN⟩ : ∃ N, N = 2002 := ⟨_, rfl⟩
      have hv := hval.out
      rw [← hN] at hv
      have hvl := val_lt (dl X) hXd.out
      rw [dl_size, hXs.out, ← hN] at hvl
      have hU2 := HU.out
      have hW2 := HW.out
      have hp : ∀ m, N = m + m + 2 → U < 10 ^ (m + m) → W < 10 ^ (m + m) → U < 10 ^ N ∧ W < 10 ^ N ∧ U + W < 10 ^ N := by
        intro m hm h1 h2
        rw [hm, Nat.pow_add]
        refine ⟨by omega, by omega, by omega⟩
      obtain ⟨u1, u2, u3⟩ := hp 1000 hN hU2 hW2
      rw [Nat.mod_eq_of_lt u1, Nat.mod_eq_of_lt u2] at hv
      have hc0 : c = 0 := by
        rcases Nat.eq_zero_or_pos c with h | h
        · exact h
        · have : 10 ^ N * 1 ≤ 10 ^ N * c := Nat.mul_le_mul_left _ h
          omega
      rw [hc0, Nat.mul_zero, Nat.add_zero, ← HUU.out, ← HWW.out] at hv
      have hne : dl X ≠ [] := fun h => by
        have := hXs.out
        rw [← dl_size, h] at this
        cases this
      have hcan := fun w9 => rcanon_c X (by omega) hne 1000 (by omega) w9
      have hX0 : ∃ c l, dl X = c :: l := by
        cases h : dl X with
        | nil => exact absurd h hne
        | cons c l => exact ⟨c, l, rfl⟩
      obtain ⟨⟨C1, C2⟩, hC⟩ : ∃ C, canonL (dl X) 1000 = C := ⟨_, rfl⟩
      rw [show canonL (dl X) ((1000 : Nat) : Int) = (C1, C2) from hC] at hcan
      have hpost : ∀ e W, RetNum (C1, C2) w e W → RetRAdd (dl a) s (dl b) t w e W := fun e W h => ⟨dl X, hXd.out, hne, hv, by rw [hC]; exact h⟩
      have HPOST := Lib.hid hpost
      have HCAN := Lib.hid hcan
      have p0 := H3.out.c0
      have p1 := H3.out.c1
      have pf := H3.out.fz
      have pl := H3.out.lt
      clear hv hvl hU2 hW2 hp u1 u2 u3 hc0 hne hcan hX0 hC hpost hval hN q0 q1 r0 r1
      go_wp2_with fail
      refine (HCAN.out _).mono ?_
      rintro e w5 ⟨rfl, hb5⟩
      obtain ⟨hc5, hf5⟩ := bcell hb5
      have hz5 : wr.heap.size ≤ w5.heap.size := hb5.size
      have pl5 : w.heap.size + 1 + 1 < w5.heap.size := by omega
      go_wp2_with fail
      refine bodyPost_ret (v := .agg #[.string (bs C1), .int .i64 C2]) (by simp [results, Tryd.results19, go_sem, hc5, p0, p1, pl]) rfl (HPOST.out _ _ ⟨rfl, ?_⟩)
      (repeat (first | exact Bel.refl _ | assumption | refine Bel.to_drewN ?_ _ | refine Bel.to_drew ?_ | refine Bel.to_setCell ?_ (by first | exact Nat.le_refl _ | (simp; done) | (simp; omega) | omega) _ | refine Bel.to_alloc ?_ _ | refine Bel.trans ?_ (by assumption)))
end Go.Proofs.YtdpmibkiihddjaaDoor
