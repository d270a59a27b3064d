/-
  xmltree's document: the walks of Count, Same; the law's Great.
-/
import Derived.Test.YtojeclfcgnamoaaDoorWAA
import Derived.Test.YtojeclfcgnamoaaDoorDW
import Derived.Test.YtojeclfcgnamoaaDoorWE
namespace Go.Proofs.YtojeclfcgnamoaaDoor
open Go.RowKit

/-- A number that is told as far as so much. -/
def NInv (t : Int) (S q : Nat) : Prop := q ≤ S ∧ (q = S ∨ t < q)
def RetNat (P : Nat → Prop) (w : World) (e : Ending) (w' : World) : Prop := ∃ n : Nat, e = .returned (.int .i64 n) ∧ P n ∧ Bel w w'
theorem tk {P : Program} {ops : Array Oper} {Q : Exit → Act → World → Prop} {md : Region.Mode} {S : World → Prop} (i : Nat) {oi : Oper} {v : Value} {fuel : Nat} {listed : Array Bool} {a : Act} {w : World} (hy : YieldsIf P ops S oi v a)
    (h : wpAnyH P md ops Q S fuel (listed.setIfInBounds i true) (a.put oi.dst v) w) (hi : ops[i]? = some oi := by rfl) (hs : Region.noSelect ops = true := by kernel_rfl) (hf : Region.free md ops listed i = true := by kernel_rfl)
    (hr : (Region.ready md ops listed).contains i = true := by kernel_rfl) (hQ : ∀ c a w, Q (.panic c) (a.put oi.dst v) w → Q (.panic c) a w := by exact fun _ _ _ h => h) (hS : S w := by assumption) : wpAnyH P md ops Q S (fuel + 1) listed a w :=
  wpAnyH_take hi hs hf hr hQ hy hS h

theorem atrSum_take {al : List Atr} {i : Nat} {x : Atr} (h : al[i]? = some x) : atrSum (al.take (i + 1)) = atrSum (al.take i) + (x.1.size + x.2.1.size + x.2.2.size + 1) := by
  rw [List.take_add_one, h]
  unfold atrSum
  simp
theorem atrSum_take_le (al : List Atr) (i : Nat) : atrSum (al.take i) ≤ atrSum al := by
  conv => rhs; rw [← List.take_append_drop i al]
  unfold atrSum
  rw [List.map_append, List.sum_append]
  omega
theorem bulks_app : ∀ a b : List Nd, Nd.bulk.bulks (a ++ b) = Nd.bulk.bulks a + Nd.bulk.bulks b
  | [], b => by rw [List.nil_append, Nd.bulk.bulks]; omega
  | x :: a, b => by rw [List.cons_append, bulks_cons, bulks_cons, bulks_app a b]; omega
theorem bulks_take {l : List Nd} {i : Nat} {x : Nd} (h : l[i]? = some x) : Nd.bulk.bulks (l.take (i + 1)) = Nd.bulk.bulks (l.take i) + x.bulk := by
  rw [List.take_add_one, h, bulks_app]
  simp [bulks_cons, Nd.bulk.bulks]
theorem bulks_take_le (l : List Nd) (i : Nat) : Nd.bulk.bulks (l.take i) ≤ Nd.bulk.bulks l := by
  conv => rhs; rw [← List.take_append_drop i l, bulks_app]
  omega
set_option maxRecDepth 100000 in
set_option maxHeartbeats 8000000 in
theorem ncountF_c (f : Nat) (ih : ∀ (e : Nd), e.bulk ≤ f → ∀ va vk w (t : Int), 0 ≤ t → t ≤ 1099511627776 → NdAt w e va vk → Calls Tryd.prog 16 #[ndV e va vk, .int .i64 t] w (RetNat (NInv t e.bulk) w))
    (e : Nd) (hf : e.bulk ≤ f + 1) (hbk : f ≤ 1073741824) (va vk : Value) (w : World) (t : Int) (ht0 : 0 ≤ t) (ht : t ≤ 1099511627776) (h : NdAt w e va vk) :
    Calls Tryd.prog 16 #[ndV e va vk, .int .i64 t] w (RetNat (NInv t e.bulk) w) := by
  obtain ⟨aa, ka, an, ac, kn, kc, rfl, rfl, han, hkn, hac, hkc, hab, hkb, hatr, hkid⟩ := h.opened
  have hbe := nd_bulk e
  have HX : Hid (∀ x : Nd, x ∈ e.ks → ∀ xa xk W (T : Int), 0 ≤ T → T ≤ 1099511627776 → Bel w W → NdAt W x xa xk → Calls Tryd.prog 16 #[ndV x xa xk, .int .i64 T] W (RetNat (NInv T x.bulk) W)) := Lib.hid fun x hx xa xk W T h1 h2 hW hN => ih x (by have := nbulks_mem hx; omega) xa xk W T h1 h2 hN
  have HA := Lib.hid hatr
  have HK := Lib.hid hkid
  have HAN := Lib.hid han
  have HKN := Lib.hid hkn
  have han2 : an ≤ 1073741825 := by omega
  have hkn2 : kn ≤ 1073741825 := by omega
  obtain ⟨T0, hT0⟩ : ∃ n, e.t = n := ⟨_, rfl⟩
  obtain ⟨sp, hsp⟩ : ∃ t, e.sp = t := ⟨_, rfl⟩
  obtain ⟨lo, hlo⟩ : ∃ t, e.lo = t := ⟨_, rfl⟩
  obtain ⟨tx, htx⟩ : ∃ t, e.tx = t := ⟨_, rfl⟩
  obtain ⟨al, hal⟩ : ∃ t, e.al = t := ⟨_, rfl⟩
  obtain ⟨ks, hks⟩ : ∃ t, e.ks = t := ⟨_, rfl⟩
  unfold ndV
  rw [hsp, hlo, htx, hal, hks] at hbe
  rw [hT0, hsp, hlo, htx]
  rw [hal] at HA HAN
  rw [hks] at HX HK HKN
  obtain ⟨S, hS⟩ : ∃ S, e.bulk = S := ⟨_, rfl⟩
  rw [hS] at hbe hf ⊢
  have hsz1 : sp.size ≤ 1073741824 := by omega
  have hsz2 : lo.size ≤ 1073741824 := by omega
  have hsz3 : tx.size ≤ 1073741824 := by omega
  have HBE := Lib.hid hbe
  have HSL : Hid (S ≤ 1073741825) := Lib.hid (by omega)
  obtain ⟨V1, h1, q1, l1, s1⟩ := alloc_step w 27 [.int .i64 T0, .string sp, .string lo, .slice aa an ac, .slice ka kn kc, .string tx]
  have c1 := q1.at 1
  have c2 := q1.at 2
  have c3 := q1.at 3
  have c4 := q1.at 4
  have c5 := q1.at 5
  have Q1 := Lib.hid q1
  have L1 := Lib.hid l1
  have HV1 := Lib.hid h1
  clear h1 q1 l1 s1 h ih hbe hf hbk hatr hkid han hkn hac hkc hab hkb hT0 hsp hlo htx hal hks hS
  go_enter Tryd.func16, Tryd.ntmps16
  go_upto_region 1 with fail
  rw [show w.alloc (.cells #[.int .i64 T0, .string sp, .string lo, .slice aa an ac, .slice ka kn kc, .string tx] 27) = V1 from HV1.out]
  clear HV1
  go_wp2_with fail
  go_loopw [5, 6] (fun v i wr => ∃ (j q : Nat), i = .int .i64 j ∧ j ≤ an ∧ v = .int .i64 q ∧ q = 1 + tx.size + sp.size + lo.size + atrSum (al.take j) ∧ Hid (Bel V1 wr)) (fun _ i _ => an - (intOf i).toNat)
  case atStart => exact ⟨0, 1 + tx.size + sp.size + lo.size, rfl, Nat.zero_le _, int_eq (by omega), by simp [atrSum], Lib.hid (Bel.refl _)⟩
  case round =>
    obtain ⟨j, q, rfl, hj, rfl, hq, HBJ⟩ := hrel
    by_cases hlt : j < an
    · have hlti : (j : Int) < an := by omega
      obtain ⟨y, hy⟩ : ∃ y, al[j]? = some y := ⟨_, List.getElem?_eq_getElem (by have := HAN.out; omega)⟩
      obtain ⟨b, off, rfl, g0, g1, g2⟩ := HA.out j y hy
      have hbw := L1.out.trans HBJ.out
      have f0 := hbw.keep g0
      have f1 := hbw.keep g1
      have f2 := hbw.keep g2
      have e3 := HBJ.out.keep c3
      have htk := atrSum_take hy
      have hle := atrSum_take_le al (j + 1)
      have hbe := HBE.out
      have hsl := HSL.out
      have hys : y.1.size ≤ 1073741824 ∧ y.2.1.size ≤ 1073741824 ∧ y.2.2.size ≤ 1073741824 ∧ q ≤ 1073741824 := by omega
      have HQ : Hid (q + (1 + y.2.2.size + y.1.size + y.2.1.size) = 1 + tx.size + sp.size + lo.size + atrSum (al.take (j + 1))) := Lib.hid (by omega)
      obtain ⟨ya, yb, yc⟩ := y
      dsimp only at f0 f1 f2 hys HQ
      obtain ⟨hy1, hy2, hy3, hq1⟩ := hys
      clear g0 g1 g2 hy hbw htk hle hbe hsl hq
      go_upto_region 5 with fail
      go_quiet (fail)
      go_wp2_with fail
      exact ⟨⟨j + 1, q + (1 + yc.size + ya.size + yb.size), by go_num, by omega, int_eq (by omega), HQ.out, Lib.hid (HBJ.out.trans (Bel.drewN _ _))⟩, by simp [intOf]; omega⟩
    · have hlti : ¬ ((j : Int) < an) := by omega
      have e3 := HBJ.out.keep c3
      have hqe : q = 1 + tx.size + sp.size + lo.size + atrSum al := by rw [hq, List.take_of_length_le (by have := HAN.out; omega)]
      have HQ0 : Hid (NInv t (q + Nd.bulk.bulks (ks.take 0)) q) := Lib.hid ⟨by omega, .inl (by rw [List.take_zero, Nd.bulk.bulks]; rfl)⟩
      have HTOT : Hid (q + Nd.bulk.bulks ks = S) := Lib.hid (by have := HBE.out; omega)
      obtain ⟨q0, hq0⟩ : ∃ n, q = n := ⟨_, rfl⟩
      rw [hq0] at HTOT
      have HQ1 : Hid (NInv t (q0 + Nd.bulk.bulks (ks.take 0)) q) := Lib.hid (by rw [← hq0]; exact HQ0.out)
      have hq1 : q ≤ 1073741825 := by have := HTOT.out; have := HSL.out; omega
      clear hq hqe HQ0 hq0
      go_wp2_with fail
      go_loopw [5, 7] (fun v i wr => ∃ (j q : Nat), i = .int .i64 j ∧ j ≤ kn ∧ v = .int .i64 q ∧ Hid (NInv t (q0 + Nd.bulk.bulks (ks.take j)) q) ∧ q ≤ 1073741825 ∧ Hid (Bel V1 wr)) (fun _ i _ => kn - (intOf i).toNat)
      case atStart => exact ⟨0, q, rfl, Nat.zero_le _, rfl, HQ1, hq1, HBJ⟩
      case round =>
        obtain ⟨j, q, rfl, hj, rfl, HQJ, hqb, HBJ⟩ := hrel
        have e4 := HBJ.out.keep c4
        have htl := bulks_take_le ks j
        by_cases hlt : j < kn
        · have hlti : (j : Int) < kn := by omega
          by_cases hqt : (q : Int) ≤ t
          · obtain ⟨y, hy⟩ : ∃ y, ks[j]? = some y := ⟨_, List.getElem?_eq_getElem (by have := HKN.out; omega)⟩
            obtain ⟨bb, off, yaa, yan, yac, yka, ykn, ykc, rfl, g0, g1, g2, g3, g4, g5, hyn⟩ := HK.out j y hy
            have hbw := L1.out.trans HBJ.out
            have f0 := hbw.keep g0
            have f1 := hbw.keep g1
            have f2 := hbw.keep g2
            have f3 := hbw.keep g3
            have f4 := hbw.keep g4
            have f5 := hbw.keep g5
            have htk := bulks_take hy
            have hle := bulks_take_le ks (j + 1)
            have HC := Lib.hid (HX.out y (List.mem_of_getElem? hy) _ _ wr (t - q) (by omega) (by omega) hbw (NdAt.bel hbw y hyn))
            unfold ndV at HC
            have HYB : Hid (∀ c, NInv (t - q) y.bulk c → NInv t (q0 + Nd.bulk.bulks (ks.take (j + 1))) (q + c) ∧ q + c ≤ 1073741825) := Lib.hid fun c hc => by
              have h1 := HQJ.out
              have h2 := HTOT.out
              have h3 := HSL.out
              unfold NInv at *
              omega
            clear g0 g1 g2 g3 g4 g5 hy hyn hbw htk hle htl
            go_wp2_with fail
            refine HC.out.mono ?_
            rintro e2 w2 ⟨c, rfl, hc, hb2⟩
            obtain ⟨hn1, hn2⟩ := HYB.out c hc
            have HN1 := Lib.hid hn1
            have HB2 := Lib.hid (HBJ.out.trans hb2)
            clear hc hb2 hn1 HYB HC f0 f1 f2 f3 f4 f5
            have hsc : c ≤ 1073741825 := by omega
            go_wp2_with fail
            exact ⟨⟨j + 1, q + c, by go_num, by omega, int_eq (by omega), HN1, hn2, HB2⟩, by simp [intOf]; omega⟩
          · have HF : Hid (NInv t S q) := Lib.hid (by
              have h1 := HQJ.out
              have h2 := HTOT.out
              unfold NInv at *
              omega)
            clear htl
            go_wp2_with fail
            go_ret
            exact ⟨q, rfl, HF.out, L1.out.trans HBJ.out⟩
        · have hlti : ¬ ((j : Int) < kn) := by omega
          have HF : Hid (NInv t S q) := Lib.hid (by
            have h1 := HQJ.out
            have h2 := HTOT.out
            rw [List.take_of_length_le (by have := HKN.out; omega), h2] at h1
            exact h1)
          clear htl
          go_wp2_with fail
          go_ret
          exact ⟨q, rfl, HF.out, L1.out.trans HBJ.out⟩
theorem ncount_c : ∀ (f : Nat) (e : Nd), e.bulk ≤ f → f ≤ 1073741824 → ∀ va vk w (t : Int), 0 ≤ t → t ≤ 1099511627776 → NdAt w e va vk → Calls Tryd.prog 16 #[ndV e va vk, .int .i64 t] w (RetNat (NInv t e.bulk) w) := by
  intro f
  induction f with
  | zero => intro e he; have := nd_pos e; omega
  | succ f ih => exact fun e he hf va vk w t h1 h2 h3 => ncountF_c f (fun e' he' va' vk' w' t' g1 g2 g3 => ih e' he' (by omega) va' vk' w' t' g1 g2 g3) e he (by omega) va vk w t h1 h2 h3
/-- What Great tells. -/
def greatN (l : List Nd) : Nat := if (l.any fun x => decide (4000 < x.bulk)) = true then 1 else 0
theorem greatN_zero {l : List Nd} (h : greatN l = 0) : ∀ x ∈ l, x.bulk ≤ 4000 := fun x hx => by
  unfold greatN at h
  split at h
  · omega
  · rename_i h1
    rcases Nat.lt_or_ge 4000 x.bulk with h2 | h2
    · exact absurd (List.any_eq_true.2 ⟨x, hx, decide_eq_true h2⟩) h1
    · exact h2
set_option maxRecDepth 100000 in
set_option maxHeartbeats 4000000 in
theorem great_c (l : List Nd) (a : Option Addr) (n c : Nat) (w : World) (hn : l.length = n) (hn2 : n ≤ 1073741824) (hb : ∀ x ∈ l, x.bulk ≤ 1073741824) (hk : KidsAt w a l) :
    Calls Tryd.prog 7 #[.slice a n c] w (RetBel (.int .i64 (greatN l)) w) := by
  have HN := Lib.hid hn
  have HB := Lib.hid hb
  have HK := Lib.hid hk
  obtain ⟨R, hR⟩ : ∃ R, greatN l = R := ⟨_, rfl⟩
  rw [hR]
  have HR : Hid ((if (l.any fun x => decide (4000 < x.bulk)) = true then 1 else 0) = R) := Lib.hid hR
  clear hn hb hk hR
  go_enter Tryd.func7, Tryd.ntmps7
  go_wp2_with fail
  go_loopw [7] (fun i wr => ∃ (j : Nat), i = .int .i64 j ∧ j ≤ n ∧ Hid ((if ((l.drop j).any fun x => decide (4000 < x.bulk)) = true then 1 else 0) = R) ∧ Hid (Bel w wr)) (fun i _ => n - (intOf i).toNat)
  case atStart => exact ⟨0, rfl, Nat.zero_le _, by rw [List.drop_zero]; exact HR, Lib.hid (Bel.refl _)⟩
  case round =>
    obtain ⟨j, rfl, hj, HRJ, HBJ⟩ := hrel
    by_cases hlt : j < n
    · have hlti : (j : Int) < n := by omega
      obtain ⟨y, hy⟩ : ∃ y, l[j]? = some y := ⟨_, List.getElem?_eq_getElem (by have := HN.out; omega)⟩
      obtain ⟨bb, off, yaa, yan, yac, yka, ykn, ykc, rfl, g0, g1, g2, g3, g4, g5, hyn⟩ := HK.out j y hy
      have f0 := HBJ.out.keep g0
      have f1 := HBJ.out.keep g1
      have f2 := HBJ.out.keep g2
      have f3 := HBJ.out.keep g3
      have f4 := HBJ.out.keep g4
      have f5 := HBJ.out.keep g5
      have hrj := HRJ.out
      rw [drop_tail hy, List.any_cons] at hrj
      obtain ⟨S, hS⟩ : ∃ S, y.bulk = S := ⟨_, rfl⟩
      obtain ⟨V3, h3, q3, l3, s3⟩ := alloc_step wr 27 [.int .i64 y.t, .string y.sp, .string y.lo, .slice yaa yan yac, .slice yka ykn ykc, .string y.tx]
      have d0 := q3.at 0
      have d1 := q3.at 1
      have d2 := q3.at 2
      have d3 := q3.at 3
      have d4 := q3.at 4
      have d5 := q3.at 5
      have hbw := HBJ.out.trans l3
      have HC := Lib.hid (ncount_c y.bulk y (Nat.le_refl _) (HB.out y (List.mem_of_getElem? hy)) _ _ V3 4000 (by decide) (by decide) (NdAt.bel hbw y hyn))
      unfold ndV at HC
      rw [hS] at HC hrj
      have HV3 := Lib.hid h3
      have HB3 := Lib.hid hbw
      have HRK := Lib.hid hrj
      clear g0 g1 g2 g3 g4 g5 hy hyn hrj h3 q3 l3 s3 hbw hS HRJ HBJ
      go_upto_region 4 with fail
      rw [show wr.alloc (.cells #[.int .i64 y.t, .string y.sp, .string y.lo, .slice yaa yan yac, .slice yka ykn ykc, .string y.tx] 27) = V3 from HV3.out]
      clear HV3
      go_wp2_with fail
      refine HC.out.mono ?_
      rintro e4 w4 ⟨q, rfl, hq, hb4⟩
      have HB4 := Lib.hid (HB3.out.trans hb4)
      have hqq : (4000 < q ↔ 4000 < S) := by unfold NInv at hq; omega
      have HQ := Lib.hid hqq
      clear hb4 hq hqq HC d0 d1 d2 d3 d4 d5 f0 f1 f2 f3 f4 f5
      by_cases hg : 4000 < q
      · have hgi : (4000 : Int) < q := by omega
        have HX : Hid (1 = R) := Lib.hid (by rw [← HRK.out, decide_eq_true (HQ.out.1 hg)]; rfl)
        clear HRK HQ
        go_wp2_with fail
        go_ret
        exact ⟨ret_int (by rw [← HX.out]; rfl), HB4.out⟩
      · have hgi : ¬ (4000 : Int) < q := by omega
        have HX : Hid ((if ((l.drop (j + 1)).any fun x => decide (4000 < x.bulk)) = true then 1 else 0) = R) := Lib.hid (by rw [← HRK.out, decide_eq_false (fun e => hg (HQ.out.2 e)), Bool.false_or])
        clear HRK HQ
        go_wp2_with fail
        exact ⟨⟨j + 1, by go_num, by omega, HX, HB4⟩, by simp [intOf]; omega⟩
    · have hlti : ¬ ((j : Int) < n) := by omega
      have HX : Hid (0 = R) := Lib.hid (by have := HRJ.out; rwa [List.drop_eq_nil_of_le (by have := HN.out; omega)] at this)
      clear HRJ
      go_wp2_with fail
      go_ret
      exact ⟨ret_int (by rw [← HX.out]; rfl), HBJ.out⟩
/-! Attributes held against each other. -/
theorem atFields : Tryd.prog.underlying 63 = some (.struct (Tryd.prog.fieldsOf 63)) := by kernel_rfl
theorem atStood : Tryd.prog.stoodInHeld 63 = false := by kernel_rfl
def atEq (x y : Atr) : Bool := decide (x = y)
set_option maxRecDepth 100000 in
theorem at_eqFields (n : Nat) (x y : Atr) (w : World) :
    (Op.eqFields (n + 2) #[.string x.1, .string x.2.1, .string x.2.2] #[.string y.1, .string y.2.1, .string y.2.2] (Tryd.prog.fieldsOf 63).toList).run Tryd.prog w = .ok (atEq x y) w := by
  obtain ⟨a, b, c⟩ := x
  obtain ⟨d, e, f⟩ := y
  have hfs := atFields
  rw [Tryd.underlying63] at hfs
  have e1 : ∀ (s t : ByteArray) w1, (Op.equalIn (n + 2) 9 (.string s) (.string t)).run Tryd.prog w1 = .ok (s.toList == t.toList) w1 := fun s t w1 => run_equalIn_string (P := Tryd.prog) w1 (n + 1) 9 s t Tryd.underlying9
  have e2 : ∀ (s t u v : ByteArray) w1, (Op.equalIn (n + 2) 23 (.agg #[.string s, .string t]) (.agg #[.string u, .string v])).run Tryd.prog w1 = .ok (nmEq s t u v) w1 := fun s t u v w1 => by
    rw [run_equalIn_agg w1 (n + 1) 23 _ _ nmFields nmStood, nm_eqFields]
  have p0 : ∀ (x y z : Value) w1, (part 23 #[x, y, z] 0).run Tryd.prog w1 = .ok (.agg #[x, y]) w1 := fun x y z w1 => by kernel_rfl
  have p1 : ∀ (x y z : Value) w1, (part 9 #[x, y, z] 2).run Tryd.prog w1 = .ok z w1 := fun x y z w1 => by kernel_rfl
  unfold atEq
  have hcf := lequal c f
  have hfs2 := Option.some.inj hfs
  injection hfs2 with hfs3
  rw [← hfs3]
  clear hfs
  have hsplit : decide ((a, b, c) = (d, e, f)) = (nmEq a b d e && decide (c = f)) := by
    unfold nmEq
    rw [← Bool.decide_and]
    apply decide_eq_decide.2
    constructor
    · intro h; injection h with h1 h2; injection h2 with h2 h3; exact ⟨⟨h1, h2⟩, h3⟩
    · rintro ⟨⟨rfl, rfl⟩, rfl⟩; rfl
  rw [hsplit]
  obtain ⟨N, hN⟩ : ∃ N, nmEq a b d e = N := ⟨_, rfl⟩
  rw [hN]
  cases N
  · simp [Op.eqFields, Sem.run_bind, p0, p1, e1, e2, hN, Result.andThen_ok]
  · cases hcd : decide (c = f)
    · rw [hcd] at hcf
      simp [Op.eqFields, Sem.run_bind, p0, p1, e1, e2, hN, hcf, Result.andThen_ok]
    · rw [hcd] at hcf
      simp [Op.eqFields, Sem.run_bind, p0, p1, e1, e2, hN, hcf, Result.andThen_ok]
theorem neq_at (x y : Atr) (w : World) :
    (binOp .neq 63 (.agg #[.string x.1, .string x.2.1, .string x.2.2]) (.agg #[.string y.1, .string y.2.1, .string y.2.2])).run Tryd.prog w = .ok (.bool (!atEq x y)) w := by
  rw [run_neq_struct, show (10000 : Nat) = 9999 + 1 from rfl, run_equalIn_agg w 9999 63 _ _ atFields atStood, show (9999 : Nat) = 9997 + 2 from rfl, at_eqFields]; rfl
end Go.Proofs.YtojeclfcgnamoaaDoor
