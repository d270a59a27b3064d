/-
  The walk of the layer number: Add.
-/
import Derived.Test.YtdpmibkiihddjaaDoorNH
import Derived.Laws.OwnMore
namespace Go.Proofs.YtdpmibkiihddjaaDoor
open Go.RowKit

/-- The cells of bytes. -/
def u8b (l : List UInt8) : List Value := l.map fun b => Value.int .u8 b.toNat
theorem u8b_length (l : List UInt8) : (u8b l).length = l.length := by simp [u8b]
theorem u8b_set (a : List UInt8) (x y : UInt8) (b : List UInt8) (n : Nat) (hn : n = a.length) : (u8b (a ++ x :: b)).set n (.int .u8 y.toNat) = u8b (a ++ y :: b) := by
  subst hn
  unfold u8b
  rw [← List.map_set (f := fun b : UInt8 => Value.int .u8 b.toNat) (a := y)]
  simp
theorem info_u8 : (Tryd.prog.info? 5).map (fun i => (i.zero, i.size, i.bytes)) = some (some (.int .u8 0), 1, 1) := by kernel_rfl
theorem make_bytes (B : Nat) (n : Nat) (hn : n ≤ 1000000) (w : World) (hB : B ≤ w.heap.size) :
    ∃ w', (Instr.makeSlice 60 (.int .i64 (n : Int)) (.int .i64 (n : Int))).run Tryd.prog w = .ok (.slice (some ⟨w.heap.size, 0, none⟩) n n) w' ∧
      w'.ownsRow B 5 1 (.slice (some ⟨w.heap.size, 0, none⟩) n n) n (u8b (List.replicate n 0)) ∧ Bel w w' := by
  obtain ⟨i, hi, hz, h1, h2⟩ := info_parts info_u8
  obtain ⟨w', hr, hown, hg⟩ := run_makeSlice_full (P := Tryd.prog) w B 60 5 i (.int .u8 0) 1 Tryd.underlying60 hi hz h1 .i64 .i64 n (by omega) (by rw [h2]; omega) (by unfold maxLen; omega) hB
  refine ⟨w', hr, ?_, Below.grown (Below.refl _ w) hg (Nat.le_refl _) (fun k hk => by cases hk)⟩
  have : (madeCells (Value.int .u8 0).cells (n * 1)).toList = u8b (List.replicate n 0) := by
    unfold madeCells u8b
    apply List.ext_getElem
    · simp
    · intro i h1 h2
      simp [Value.cells, Nat.mod_one]
  rw [this] at hown
  exact hown

theorem all_drop {l : List UInt8} (h : l.all isDig = true) (k : Nat) : (l.drop k).all isDig = true := by
  rw [List.all_eq_true] at *
  exact fun x hx => h x (List.mem_of_mem_drop hx)
theorem sum_step (x y S : List UInt8) (k N c : Nat) (hx : x.length = N) (hy : y.length = N) (hk : k < N) (hS : S.length = k) (h : val S + 10 ^ k * c = val (x.drop (N - k)) + val (y.drop (N - k))) :
    let t := dg (x.getD (N - 1 - k) 0) + dg (y.getD (N - 1 - k) 0) + c
    val (UInt8.ofNat (48 + t % 10) :: S) + 10 ^ (k + 1) * (t / 10) = val (x.drop (N - (k + 1))) + val (y.drop (N - (k + 1))) := by
  intro t
  have e1 : ∀ l : List UInt8, l.length = N → l.drop (N - (k + 1)) = l.getD (N - 1 - k) 0 :: l.drop (N - k) := fun l hl => by
    rw [show N - (k + 1) = N - 1 - k from by omega, List.drop_eq_getElem_cons (by omega), List.getD_eq_getElem?_getD, List.getElem?_eq_getElem (by omega), show N - 1 - k + 1 = N - k from by omega]
    rfl
  rw [e1 x hx, e1 y hy, val_cons, val_cons, val_cons, (digit_dig (t % 10) (by omega)).2, hS, List.length_drop, List.length_drop, hx, hy, show N - (N - k) = k from by omega, Nat.pow_succ]
  obtain ⟨p, hp⟩ : ∃ p, 10 ^ k = p := ⟨_, rfl⟩
  rw [hp] at h ⊢
  have ht : p * t = p * dg (x.getD (N - 1 - k) 0) + p * dg (y.getD (N - 1 - k) 0) + p * c := by rw [← Nat.mul_add, ← Nat.mul_add]
  have ht2 : p * t = p * (t % 10) + p * 10 * (t / 10) := by
    conv => lhs; rw [← Nat.mod_add_div t 10]
    rw [Nat.mul_add, Nat.mul_assoc]
  omega

/-- The sum, or what is wrong with which. -/
def sumL (x y : List UInt8) : List UInt8 → Prop := fun S => S.length = x.length + 1 ∧ S.all isDig = true ∧ val S = val x + val y
def addE (a : List UInt8) (s : Int) (b : List UInt8) (t : Int) (S : List UInt8) : (List UInt8 × Int) × Nat :=
  if bothN a s b t = 0 then (if 1000 < (canonL S (max s t)).1.length then (([], 0), 19) else (canonL S (max s t), 0)) else (([], 0), bothN a s b t)
/-- What Add answers: for the digits S of the sum. -/
def RetAdd (a : List UInt8) (s : Int) (b : List UInt8) (t : Int) (w : World) (e : Ending) (w' : World) : Prop :=
  ∃ S, S.all isDig = true ∧ S ≠ [] ∧ S.length ≤ 4000 ∧ (bothN a s b t = 0 → 10 ^ (1000 - max s.toNat t.toNat) * val S = V a s.toNat + V b t.toNat) ∧ RetNumE (addE a s b t S) w e w'

set_option maxRecDepth 100000 in
set_option maxHeartbeats 8000000 in
theorem add_c (a : ByteArray) (ha : a.size ≤ maxLen) (s : Int) (b : ByteArray) (hb : b.size ≤ maxLen) (t : Int) (w : World) (hE : EnvN w) :
    Calls Tryd.prog 18 #[.agg #[.string a, .int .i64 s], .agg #[.string b, .int .i64 t]] w (RetAdd (dl a) s (dl b) t w) := by
  have h1 := fun w1 => both_c a ha s b hb t w1
  obtain ⟨n, hn⟩ : ∃ n, bothN (dl a) s (dl b) t = n := ⟨_, rfl⟩
  have hz := @bothN_zero (dl a) s (dl b) t
  rw [hn] at h1 hz
  have H1 := Lib.hid h1
  have HE := Lib.hid hE
  have HN := Lib.hid hn
  clear h1 hn hE
  by_cases h0 : n = 0
  · obtain ⟨hz1, hz2⟩ := hz h0
    obtain ⟨hd1, hn1, hl1, hs0, hs1⟩ := checkN_zero hz1
    obtain ⟨hd2, hn2, hl2, ht0, ht1⟩ := checkN_zero hz2
    subst h0
    obtain ⟨s, rfl⟩ := Int.eq_ofNat_of_zero_le hs0
    obtain ⟨t, rfl⟩ := Int.eq_ofNat_of_zero_le ht0
    rw [dl_size] at hl1 hl2
    have h2 := fun w1 => level_c a b s t (by omega) (by omega) (by omega) (by omega) w1
    have hv1 := levelX_val (dl a) (dl b) s t (by omega) (by omega)
    have hv2 := levelX_val (dl b) (dl a) t s (by omega) (by omega)
    have hg1 := levelX_dig (dl a) (dl b) s t hd1
    have hg2 := levelX_dig (dl b) (dl a) t s hd2
    have hN1 := levelX_length (dl a) (dl b) s t
    have hN2 := levelX_length (dl b) (dl a) t s
    rw [Nat.max_comm t s] at hv2
    obtain ⟨x, hx⟩ : ∃ x, levelX (dl a) (dl b) s t = x := ⟨_, rfl⟩
    obtain ⟨y, hy⟩ : ∃ y, levelX (dl b) (dl a) t s = y := ⟨_, rfl⟩
    rw [hx] at h2 hv1 hg1 hN1
    rw [hy] at h2 hv2 hg2 hN2
    obtain ⟨N, hN⟩ : ∃ N, x.length = N := ⟨_, rfl⟩
    have hNy : y.length = N := by rw [← hN, hN1, hN2, Nat.max_comm t s]; exact Nat.max_comm _ _
    have hNp : 1 ≤ N := by
      rw [← hN, hN1, dl_size]
      have : a.size ≠ 0 := by rw [← dl_size]; simpa using hn1
      omega
    have hNb : N ≤ 2000 := by rw [← hN, hN1, dl_size, dl_size]; omega
    obtain ⟨M, hM⟩ : ∃ M, max s t = M := ⟨_, rfl⟩
    have hMb : M ≤ 1000 := by omega
    rw [hM] at h2 hv1 hv2
    have HSUM : Hid (10 ^ (1000 - M) * val x + 10 ^ (1000 - M) * val y = V (dl a) s + V (dl b) t) := Lib.hid (by rw [hv1, hv2])
    obtain ⟨X, hX⟩ : ∃ X : ByteArray, bs x = X := ⟨_, rfl⟩
    obtain ⟨Y, hY⟩ : ∃ Y : ByteArray, bs y = Y := ⟨_, rfl⟩
    have hXs : X.size = N := by rw [← hX, bs_size, hN]
    have hYs : Y.size = N := by rw [← hY, bs_size, hNy]
    have h2' : ∀ w1, Calls Tryd.prog 30 #[.agg #[.string a, .int .i64 s], .agg #[.string b, .int .i64 t]] w1 fun e w' => e = .returned (.tuple #[.string X, .string Y, .int .i64 M]) ∧ Bel w1 w' := by rw [← hX, ← hY]; exact h2
    have hbyte : ∀ p, p < N → (∃ c : UInt8, x.getD p 0 = c ∧ isDig c = true ∧ X.get! p = c) ∧ (∃ c : UInt8, y.getD p 0 = c ∧ isDig c = true ∧ Y.get! p = c) := by
      intro p hp
      refine ⟨⟨_, rfl, ?_, ?_⟩, ⟨_, rfl, ?_, ?_⟩⟩
      · rw [List.getD_eq_getElem?_getD, List.getElem?_eq_getElem (by omega)]
        exact List.all_eq_true.1 hg1 _ (List.getElem_mem _)
      · rw [get_bang X p (by show p < X.size; omega)]
        subst hX
        simp [bs, List.getElem?_eq_getElem (show p < x.length by omega)]
      · rw [List.getD_eq_getElem?_getD, List.getElem?_eq_getElem (by omega)]
        exact List.all_eq_true.1 hg2 _ (List.getElem_mem _)
      · rw [get_bang Y p (by show p < Y.size; omega)]
        subst hY
        simp [bs, List.getElem?_eq_getElem (show p < y.length by omega)]
    have H2 := Lib.hid h2'
    have HB := Lib.hid hbyte
    have HNX := Lib.hid hN
    have HNY := Lib.hid hNy
    have HXS := Lib.hid hXs
    have HYS := Lib.hid hYs
    have HM := Lib.hid hM
    have hXi : (X.size : Int) = N := by omega
    clear h2 h2' hX hY hv1 hv2 hz1 hz2 hd1 hd2 hs1 ht1 hn1 hn2 hl1 hl2 hs0 ht0 hz hbyte hx hy hN hNy hN1 hN2 hg1 hg2 hXs hYs hM
    have HXI := Lib.hid hXi
    clear hXi
    go_enter Tryd.func18, Tryd.ntmps18
    go_wp2_with fail
    refine (H1.out _).mono ?_
    rintro e w1 ⟨v, rfl, ⟨_, rfl⟩ | ⟨h, _⟩, hb1⟩
    · obtain ⟨hc, hf⟩ := bcell hb1
      have hz : w.heap.size + 1 + 1 < w1.heap.size := by have := hb1.size; simp at this; omega
      go_wp2_with fail
      refine (H2.out _).mono ?_
      rintro e w2 ⟨rfl, hb2⟩
      have HB2 : Hid (Bel w w2) := Lib.hid (by (repeat (first | exact Bel.refl _ | assumption | refine Bel.to_drewN ?_ _ | refine Bel.to_drew ?_ | refine Bel.to_setCell ?_ (by first | exact Nat.le_refl _ | (simp; done) | (simp; omega) | omega) _ | refine Bel.to_alloc ?_ _ | refine Bel.trans ?_ (by assumption))))
      have c0 : w2.cell? ⟨w.heap.size + 1 + 1, 0, none⟩ = some (.string ⟨#[]⟩) := by rw [hb2.cell hz, hc _ _ (by simp)]; go_simp
      have c1 : w2.cell? ⟨w.heap.size + 1 + 1, 1, none⟩ = some (.int .i64 0) := by rw [hb2.cell hz, hc _ _ (by simp)]; go_simp
      have fz : ∀ o, w2.frozen? ⟨w.heap.size + 1 + 1, o, none⟩ = false := by intro o; rw [hb2.frozen hz, hf _ _ (by simp)]; go_simp
      have hz2 : w.heap.size + 1 + 1 < w2.heap.size := by have := hb2.size; omega
      have HC0 := Lib.hid c0
      have HC1 := Lib.hid c1
      have HFZ := Lib.hid fz
      clear hc hf hb1 hb2 hz c0 c1 fz
      obtain ⟨w3, hmk, hown, hb3⟩ := make_bytes w2.heap.size (N + 1) (by omega) w2 (Nat.le_refl _)
      have hmk2 : (Instr.makeSlice 60 (.int .i64 ((X.size : Int) + 1)) (.int .i64 ((X.size : Int) + 1))).run Tryd.prog w2 = .ok (.slice (some ⟨w2.heap.size, 0, none⟩) (N + 1) (N + 1)) w3 := by rw [HXI.out]; exact hmk
      have hXb : (X.size : Int) ≤ 2000 := by have := HXI.out; omega
      have HOWN := Lib.hid hown
      clear hmk hown
      go_wp2_with fail
      clear hmk2
      go_loopw [11, 12] (fun carry i wr => ∃ (k c : Nat) (z : Int) (S : List UInt8), k ≤ N ∧ i = .int .i64 z ∧ Hid (z = (N : Int) - 1 - k) ∧ carry = .int .u8 c ∧ c ≤ 1 ∧ Hid (S.length = k) ∧ S.all isDig = true ∧ wr.ownsRow w2.heap.size 5 1 (.slice (some ⟨w2.heap.size, 0, none⟩) (N + 1) (N + 1)) (N + 1) (u8b (List.replicate (N + 1 - k) 0 ++ S)) ∧ Bel w2 wr ∧ Hid (val S + 10 ^ k * c = val (x.drop (N - k)) + val (y.drop (N - k)))) (fun _ i _ => (intOf i + 1).toNat)
      case atStart =>
        exact ⟨0, 0, (X.size : Int) - 1, [], Nat.zero_le _, rfl, Lib.hid (by have := HXI.out; omega), rfl, by omega, Lib.hid rfl, rfl, by simpa using HOWN.out, hb3, Lib.hid (by
          rw [List.drop_of_length_le (by rw [HNX.out]; omega), List.drop_of_length_le (by rw [HNY.out]; omega)]; rfl)⟩
      case round =>
        obtain ⟨k, c, z, S, hk, rfl, hz, rfl, hcc, hS, hSd, hown, hbel, hval⟩ := hrel
        by_cases hlt : k < N
        · obtain ⟨p, hp⟩ : ∃ p : Nat, z = p := ⟨z.toNat, by have := hz.out; omega⟩
          subst hp
          have hpN : p + k + 1 = N := by have := hz.out; omega
          obtain ⟨⟨cx, hx1, hx2, hx3⟩, ⟨cy, hy1, hy2, hy3⟩⟩ := HB.out p (by omega)
          have hpx : (p : Int) < X.size := by have := HXS.out; omega
          have hpy : (p : Int) < Y.size := by have := HYS.out; omega
          have hpx' : p < X.size := by omega
          have hpy' : p < Y.size := by omega
          have gx : X[p] = cx := by rw [← hx3]; simpa using (get_at X p hpx').symm
          have gy : Y[p] = cy := by rw [← hy3]; simpa using (get_at Y p hpy').symm
          have bx : 48 ≤ cx.toNat ∧ cx.toNat ≤ 57 := by simpa [isDig] using hx2
          have by_ : 48 ≤ cy.toNat ∧ cy.toNat ≤ 57 := by simpa [isDig] using hy2
          obtain ⟨bx0, bx1⟩ := bx
          obtain ⟨by0, by1⟩ := by_
          have hst := sum_step x y S k N c HNX.out HNY.out hlt hS.out hval.out
          rw [show N - 1 - k = p from by omega, hx1, hy1] at hst
          obtain ⟨D, hD⟩ : ∃ D, dg cx + dg cy + c = D := ⟨_, rfl⟩
          rw [hD] at hst
          have hDi : (cx.toNat : Int) - 48 + cy.toNat - 48 + c = D := by rw [← hD]; unfold dg; omega
          have hDb : D ≤ 19 := by unfold dg at hD; omega
          have HST := Lib.hid hst
          have HDI := Lib.hid hDi
          have f1 : IntKind.u8.wrap ((cx.toNat : Int) - 48) = (cx.toNat : Int) - 48 := IntWalk.u8_in _ (by omega)
          have f2 : IntKind.u8.wrap ((cx.toNat : Int) - 48 + cy.toNat) = (cx.toNat : Int) - 48 + cy.toNat := IntWalk.u8_in _ (by omega)
          have f3 : IntKind.u8.wrap ((cx.toNat : Int) - 48 + cy.toNat - 48) = (cx.toNat : Int) - 48 + cy.toNat - 48 := IntWalk.u8_in _ (by omega)
          have f4 : IntKind.u8.wrap ((cx.toNat : Int) - 48 + cy.toNat - 48 + c) = (cx.toNat : Int) - 48 + cy.toNat - 48 + c := IntWalk.u8_in _ (by omega)
          have hce := hown.cellAt (p + 1) (by omega)
          have hfr := hown.frozenAt (p + 1)
          have hsto := fun u => (hown.stored (p + 1) u).1
          obtain ⟨vo, hvo⟩ : ∃ vo, wr.cell? ⟨w2.heap.size, p + 1, none⟩ = some vo := by
            rw [hce]
            have : p + 1 < (u8b (List.replicate (N + 1 - k) 0 ++ S)).length := by rw [u8b_length, List.length_append, List.length_replicate, hS.out]; omega
            exact ⟨_, List.getElem?_eq_getElem this⟩
          have hset : ∀ q : UInt8, (u8b (List.replicate (N + 1 - k) 0 ++ S)).set (p + 1) (.int .u8 q.toNat) = u8b (List.replicate (N + 1 - (k + 1)) 0 ++ (q :: S)) := by
            intro q
            rw [show N + 1 - k = (p + 1) + 1 from by omega, List.replicate_succ', List.append_assoc, List.singleton_append, u8b_set _ _ _ _ _ (by simp), show N + 1 - (k + 1) = p + 1 from by omega]
          have HSTO : Hid (∀ q : UInt8, (wr.setCell ⟨w2.heap.size, p + 1, none⟩ (.int .u8 q.toNat)).ownsRow w2.heap.size 5 1 (.slice (some ⟨w2.heap.size, 0, none⟩) (N + 1) (N + 1)) (N + 1) (u8b (List.replicate (N + 1 - (k + 1)) 0 ++ (q :: S)))) := Lib.hid (fun q => by rw [← hset q]; exact hsto _)
          have j1 : (p : Int) + 1 < (N : Int) + 1 := by omega
          have j2 : (0 : Int) ≤ (p : Int) + 1 := by omega
          have j3 : p + 1 < N + 1 := by omega
          have HP := Lib.hid hpN
          have HGX := Lib.hid gx
          have HZ := Lib.hid hz
          clear hst hDi hce hset hsto hx1 hx2 hx3 hy1 hy2 hy3 hD hpN hown
          go_wp2_with fail
          go_region
          rw [HDI.out]
          clear f1 f2 f3 f4
          go_wp2_with fail
          have hdd := digit_dig (D % 10) (by omega)
          have hdn : ((UInt8.ofNat (48 + D % 10)).toNat : Int) = 48 + (D : Int) % 10 := by
            have : (UInt8.ofNat (48 + D % 10)).toNat = 48 + D % 10 := by rw [UInt8.toNat_ofNat']; omega
            omega
          refine ⟨⟨k + 1, D / 10, (p : Int) - 1, UInt8.ofNat (48 + D % 10) :: S, by omega, rfl, Lib.hid (by have := hz.out; omega), by go_num, by omega, Lib.hid (by rw [List.length_cons, hS.out]), by rw [List.all_cons, hdd.1, hSd]; rfl, ?_, ?_, Lib.hid HST.out⟩, by simp [intOf]⟩
          · have := HSTO.out (UInt8.ofNat (48 + D % 10))
            rw [hdn] at this
            exact this
          · refine Bel.to_drew (Bel.to_setCell hbel (Nat.le_refl _) _)
        · obtain rfl : k = N := by omega
          have hzz : z = -1 := by have := hz.out; omega
          subst hzz
          rw [show k + 1 - k = 1 from by omega] at hown
          have hce := hown.cellAt 0 (by omega)
          have hfr := hown.frozenAt 0
          have hce2 : wr.cell? ⟨w2.heap.size, 0, none⟩ = some (.int .u8 0) := by rw [hce]; rfl
          have hst0 := (hown.stored 0 (.int .u8 ((48 : Int) + c))).1
          obtain ⟨q, hq⟩ : ∃ q : UInt8, UInt8.ofNat (48 + c) = q := ⟨_, rfl⟩
          have hqd := digit_dig c (by omega)
          rw [hq] at hqd
          have hqi : (48 : Int) + c = (q.toNat : Int) := by
            have : (UInt8.ofNat (48 + c)).toNat = 48 + c := by rw [UInt8.toNat_ofNat']; omega
            rw [hq] at this; omega
          have hset : (u8b (List.replicate 1 0 ++ S)).set 0 (.int .u8 ((48 : Int) + c)) = u8b (q :: S) := by
            rw [hqi]; rfl
          rw [hset] at hst0
          have hval2 : val (q :: S) = val x + val y := by
            have h := hval.out
            rw [Nat.sub_self, List.drop_zero, List.drop_zero] at h
            rw [val_cons, hS.out, hqd.2]; exact h
          have hcv : (convert 60 9 (.slice (some ⟨w2.heap.size, 0, none⟩) (k + 1) (k + 1))).run Tryd.prog (wr.setCell ⟨w2.heap.size, 0, none⟩ (.int .u8 ((48 : Int) + c))) = .ok (.string (bs (q :: S))) (wr.setCell ⟨w2.heap.size, 0, none⟩ (.int .u8 ((48 : Int) + c))) := by
            have := run_convert_bytes_back (P := Tryd.prog) (wr.setCell ⟨w2.heap.size, 0, none⟩ (.int .u8 ((48 : Int) + c))) 60 9 5 ⟨w2.heap.size, 0, none⟩ (k + 1) (q :: S) Tryd.underlying60 Tryd.underlying5 Tryd.underlying9 (fun j hj => by
              have h1 := hst0.cellAt j (by rw [List.length_cons, hS.out] at hj; omega)
              rw [show (⟨w2.heap.size, 0, none⟩ : Addr).add j = ⟨w2.heap.size, j, none⟩ from by simp [Addr.add]; omega, h1]
              unfold u8b
              rw [List.getElem?_map, List.getElem?_eq_getElem hj]; rfl)
            rw [List.length_cons, hS.out] at this
            exact this
          have hSl : (q :: S).length = k + 1 := by rw [List.length_cons, hS.out]
          have hcan := fun w9 => canon_c (bs (q :: S)) (by rw [bs_size, hSl]; omega) M (by omega) (by omega) w9
          rw [dl_bs] at hcan
          have hqa : (q :: S).all isDig = true := by rw [List.all_cons, hqd.1, hSd]; rfl
          have hqn : q :: S ≠ [] := by simp
          obtain ⟨Z, hZ⟩ : ∃ Z, q :: S = Z := ⟨_, rfl⟩
          rw [hZ] at hcv hcan hqa hqn hSl hval2
          obtain ⟨Q, hQ⟩ : ∃ Q, bs Z = Q := ⟨_, rfl⟩
          rw [hQ] at hcv hcan
          obtain ⟨⟨C1, C2⟩, hC⟩ : ∃ C, canonL Z M = C := ⟨_, rfl⟩
          rw [hC] at hcan
          have hbs : Bel w2 (wr.setCell ⟨w2.heap.size, 0, none⟩ (.int .u8 ((48 : Int) + c))) := Bel.to_setCell hbel (Nat.le_refl _) _
          obtain ⟨K1, hK1⟩ : ∃ K1, bs C1 = K1 := ⟨_, rfl⟩
          have hcan' : ∀ w9, Calls Tryd.prog 24 #[.agg #[.string Q, .int .i64 M]] w9 fun e w' => e = .returned (.agg #[.string K1, .int .i64 C2]) ∧ Bel w9 w' := by rw [← hK1]; exact hcan
          have hKs : K1.size = C1.length := by rw [← hK1, bs_size]
          have HCAN := Lib.hid hcan'
          have HBS := Lib.hid hbs
          have HZ2 : Hid (addE (dl a) s (dl b) t Z = if 1000 < K1.size then (([], 0), 19) else ((C1, C2), 0)) := Lib.hid (by
            unfold addE
            rw [HN.out, if_pos rfl, show max (s : Int) (t : Int) = ((M : Nat) : Int) from by have := HM.out; omega, hC, hKs])
          have HV : Hid (10 ^ (1000 - max (s : Int).toNat (t : Int).toNat) * val Z = V (dl a) (s : Int).toNat + V (dl b) (t : Int).toNat) := Lib.hid (by
            have := HSUM.out
            rw [Int.toNat_natCast, Int.toNat_natCast, HM.out, hval2, Nat.mul_add]; exact this)
          have HK1 := Lib.hid hK1
          have HCV := Lib.hid hcv
          have HQA := Lib.hid hqa
          have HQN := Lib.hid hqn
          have HSL := Lib.hid hSl
          have hpost : ∀ (e : Ending) (W : World), RetNumE (if 1000 < K1.size then (([], 0), 19) else ((C1, C2), 0)) w e W → RetAdd (dl a) s (dl b) t w e W := fun e W h =>
            ⟨Z, HQA.out, HQN.out, by rw [HSL.out]; omega, fun _ => HV.out, by rw [HZ2.out]; exact h⟩
          have HPOST := Lib.hid hpost
          clear hcan hcan' hbs hqi hset hst0 hval hS hSd hz hqd hq hqa hqn hZ hQ hC hKs hK1 hSl hval2 hce hown hpost
          have hbig : K1.size ≤ 1000 ∨ 1000 < K1.size := by omega
          have HBIG := Lib.hid hbig
          clear hbig
          go_wp2_with fail
          refine (HCAN.out _).mono ?_
          rintro e w5 ⟨rfl, hb5⟩
          have hb25 : Bel w2 w5 := HBS.out.trans hb5
          have q0 : w5.cell? ⟨w.heap.size + 1 + 1, 0, none⟩ = some (.string ⟨#[]⟩) := by rw [hb25.cell hz2]; exact HC0.out
          have q1 : w5.cell? ⟨w.heap.size + 1 + 1, 1, none⟩ = some (.int .i64 0) := by rw [hb25.cell hz2]; exact HC1.out
          have q2 : ∀ o, w5.frozen? ⟨w.heap.size + 1 + 1, o, none⟩ = false := by intro o; rw [hb25.frozen hz2]; exact HFZ.out o
          have hz5 : w.heap.size + 1 + 1 < w5.heap.size := by have := hb25.size; omega
          have HB5 := Lib.hid (HB2.out.trans hb25)
          clear hb5 hb25 hce2 hfr hcv hz2 hbel hb3 w3 HOWN
          rcases HBIG.out with hbig | hbig
          · have hbi : (K1.size : Int) ≤ 1000 := by omega
            go_wp2_with fail
            refine bodyPost_ret (v := .tuple #[.agg #[.string K1, .int .i64 C2], .int .i64 0]) (by simp [results, Tryd.results18, go_sem, q0, q1, hz5]) rfl ?_
            refine HPOST.out _ _ ?_
            rw [if_neg (by omega)]
            have hb5 := HB5.out
            have hk := HK1.out
            refine ⟨?_, by (repeat (first | exact Bel.refl _ | assumption | refine Bel.to_drewN ?_ _ | refine Bel.to_drew ?_ | refine Bel.to_setCell ?_ (by first | exact Nat.le_refl _ | (simp; done) | (simp; omega) | omega) _ | refine Bel.to_alloc ?_ _ | refine Bel.trans ?_ (by assumption)))⟩
            subst hk
            rfl
          · have hbi : (1000 : Int) < K1.size := by omega
            go_wp2_with fail
            refine bodyPost_ret (v := .tuple #[.agg #[.string ⟨#[]⟩, .int .i64 0], .int .i64 19]) (by simp [results, Tryd.results18, go_sem, q0, q1, hz5]) rfl ?_
            refine HPOST.out _ _ ?_
            rw [if_pos (by omega)]
            have hb5 := HB5.out
            refine ⟨rfl, by (repeat (first | exact Bel.refl _ | assumption | refine Bel.to_drewN ?_ _ | refine Bel.to_drew ?_ | refine Bel.to_setCell ?_ (by first | exact Nat.le_refl _ | (simp; done) | (simp; omega) | omega) _ | refine Bel.to_alloc ?_ _ | refine Bel.trans ?_ (by assumption)))⟩
    · exact absurd rfl h
  · have HPOST : Hid (∀ e W, RetNumE (([], 0), n) w e W → RetAdd (dl a) s (dl b) t w e W) := Lib.hid (fun e W h =>
      ⟨[48], by decide, by decide, by decide, fun h1 => absurd (HN.out.symm.trans h1) h0, by unfold addE; rw [HN.out, if_neg h0]; exact h⟩)
    clear hz
    go_enter Tryd.func18, Tryd.ntmps18
    go_wp2_with fail
    refine (H1.out _).mono ?_
    rintro e w1 ⟨v, rfl, ⟨h, _⟩ | ⟨h, b, rfl, hcb⟩, hb1⟩
    · exact absurd h h0
    · obtain ⟨hc, hf⟩ := bcell hb1
      have hz : w.heap.size + 1 + 1 < w1.heap.size := by have := hb1.size; simp at this; omega
      have h3 := told_c _ n w1 (HE.out.bel (by (repeat (first | exact Bel.refl _ | assumption | refine Bel.to_drewN ?_ _ | refine Bel.to_drew ?_ | refine Bel.to_setCell ?_ (by first | exact Nat.le_refl _ | (simp; done) | (simp; omega) | omega) _ | refine Bel.to_alloc ?_ _ | refine Bel.trans ?_ (by assumption))))).1 (.inr ⟨h, b, rfl, hcb⟩)
      have H3 := Lib.hid h3
      clear h3 hcb
      go_wp2_with fail
      refine H3.out.mono ?_
      rintro e w2 ⟨rfl, hb2⟩
      obtain ⟨hc2, hf2⟩ := bcell hb2
      have hz2 : w1.heap.size ≤ w2.heap.size := hb2.size
      go_wp2_with fail
      refine bodyPost_ret (v := .tuple #[.agg #[.string ⟨#[]⟩, .int .i64 0], .int .i64 n]) (by simp [results, Tryd.results18, go_sem, hc, hc2, hz]) rfl (HPOST.out _ _ ⟨rfl, ?_⟩)
      (repeat (first | exact Bel.refl _ | assumption | refine Bel.to_drewN ?_ _ | refine Bel.to_drew ?_ | refine Bel.to_setCell ?_ (by first | exact Nat.le_refl _ | (simp; done) | (simp; omega) | omega) _ | refine Bel.to_alloc ?_ _ | refine Bel.trans ?_ (by assumption)))
end Go.Proofs.YtdpmibkiihddjaaDoor
