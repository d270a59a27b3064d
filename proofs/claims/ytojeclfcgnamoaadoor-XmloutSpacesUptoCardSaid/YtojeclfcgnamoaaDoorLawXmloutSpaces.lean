/-
  XmloutSpaces: the walk.
-/
import Derived.Test.YtojeclfcgnamoaaDoorXE
namespace Go.Proofs.YtojeclfcgnamoaaDoor
open Go.RowKit Go.Maps

theorem kids_one {W : World} {b : Nat} {x : Nd} {aa ka : Option Addr} {an ac kn kc : Nat} (h : Blk W b 27 [.int .i64 x.t, .string x.sp, .string x.lo, .slice aa an ac, .slice ka kn kc, .string x.tx]) (hx : NdAt W x (.slice aa an ac) (.slice ka kn kc)) :
    KidsAt W (some ⟨b, 0, none⟩) [x] := fun i y hy => by
  cases i with
  | succ i => simp at hy
  | zero =>
    simp at hy
    subst hy
    exact ⟨b, 0, aa, an, ac, ka, kn, kc, rfl, h.at 0, h.at 1, h.at 2, h.at 3, h.at 4, h.at 5, hx⟩
set_option maxRecDepth 100000 in
set_option maxHeartbeats 16000000 in
theorem xmloutSpaces_walk {W : World} (x : Nd) (va vk : Value) (h : NdAt W x va vk) (hm : x.bulk ≤ 1048576) (hE : EnvT W) : Calls Tryd.prog 5 #[ndV x va vk] W (RetBel (.bool true) W) := by
  have HAL := Lib.hid fun V (hV : Bel W V) => xalive_c V (hE.bel hV)
  have HNA := Lib.hid fun V (hV : Bel W V) => NdAt.bel hV x h
  have HE := Lib.hid fun V (hV : Bel W V) => hE.bel hV
  obtain ⟨aa, ka, an, ac, kn, kc, rfl, rfl, _⟩ := h.opened
  obtain ⟨V1, h1, q1, l1, s1⟩ := alloc_step W 27 [.int .i64 x.t, .string x.sp, .string x.lo, .slice aa an ac, .slice ka kn kc, .string x.tx]
  have c0 := q1.at 0
  have c1 := q1.at 1
  have c2 := q1.at 2
  have c3 := q1.at 3
  have c4 := q1.at 4
  have c5 := q1.at 5
  have Q1 := Lib.hid q1
  have L1 := Lib.hid l1
  have HV1 := Lib.hid h1
  have HM := Lib.hid hm
  unfold ndV
  clear h1 q1 l1 s1 h hm hE
  go_enter Tryd.func5, Tryd.ntmps5
  go_upto_region 1 with fail
  rw [show W.alloc (.cells #[.int .i64 x.t, .string x.sp, .string x.lo, .slice aa an ac, .slice ka kn kc, .string x.tx] 27) = V1 from HV1.out]
  clear HV1
  go_wp2_with fail
  refine (HAL.out _ L1.out).mono ?_
  rintro e2 w2 ⟨rfl, hb2⟩
  have f0 := hb2.keep c0
  have f1 := hb2.keep c1
  have f2 := hb2.keep c2
  have f3 := hb2.keep c3
  have f4 := hb2.keep c4
  have f5 := hb2.keep c5
  obtain ⟨V2, h2, q2, l2, s2⟩ := alloc_step w2 27 [.int .i64 x.t, .string x.sp, .string x.lo, .slice aa an ac, .slice ka kn kc, .string x.tx]
  have HG := Lib.hid (great_c [x] (some ⟨w2.heap.size, 0, none⟩) 1 1 V2 rfl (by omega) (by simp; have := HM.out; omega) (kids_one q2 (HNA.out _ ((L1.out.trans hb2).trans l2))))
  have HV2 := Lib.hid h2
  have HB2 := Lib.hid ((L1.out.trans hb2).trans l2)
  have HB12 := Lib.hid (hb2.trans l2)
  clear hb2 h2 q2 l2 s2 c0 c1 c2 c3 c4 c5
  go_wp2_with fail
  rw [show w2.alloc (.cells #[.int .i64 x.t, .string x.sp, .string x.lo, .slice aa an ac, .slice ka kn kc, .string x.tx] 27) = V2 from HV2.out]
  clear HV2
  refine HG.out.mono ?_
  rintro e3 w3 ⟨rfl, hb3⟩
  have Q3 := Lib.hid (Q1.out.bel (HB12.out.trans hb3))
  have HB3 := Lib.hid (HB2.out.trans hb3)
  clear HG hb3 f0 f1 f2 f3 f4 f5 HB12 HB2
  by_cases hgr : greatN [x] = 0
  · have hx4 := greatN_zero hgr x (List.mem_singleton.2 rfl)
    obtain ⟨G, hG⟩ : ∃ g, greatN [x] = g := ⟨_, rfl⟩
    rw [hG] at hgr ⊢
    subst hgr
    clear hG
    have c0 := Q3.out.at 0
    have c1 := Q3.out.at 1
    have c2 := Q3.out.at 2
    have c3 := Q3.out.at 3
    have c4 := Q3.out.at 4
    have c5 := Q3.out.at 5
    have HPR := Lib.hid (xPrefixes_c x _ _ w3 (by omega) (HE.out _ HB3.out) (HNA.out _ HB3.out))
    unfold ndV at HPR
    go_wp2_with fail
    refine HPR.out.mono ?_
    rintro e4 w4 ⟨⟨v, rfl, hv⟩, hb4⟩
    have Q4 := Lib.hid (Q3.out.bel hb4)
    have HB4 := Lib.hid (HB3.out.trans hb4)
    clear HPR c0 c1 c2 c3 c4 c5
    have c0 := Q4.out.at 0
    have c1 := Q4.out.at 1
    have c2 := Q4.out.at 2
    have c3 := Q4.out.at 3
    have c4 := Q4.out.at 4
    have c5 := Q4.out.at 5
    by_cases hk : CheckN x = 0
    · obtain ⟨-, hpa⟩ := hv.resolve_left fun e => e.1 hk
      rw [hk]
      clear hb4
      have hoc := prefN_occ x
      have hok := prefN_ok x
      obtain ⟨L, hL⟩ : ∃ L, PrefN x = L := ⟨_, rfl⟩
      have HLE : Hid (∀ j, L.length ≤ j → ∀ s, leftF x L j s = 0) := Lib.hid fun j hj s => by rw [← hL] at hj ⊢; exact left_end x hj s
      rw [hL] at hpa hoc hok
      have hpf := pref_facts hk (by omega)
      rw [hL] at hpf
      have hsz : ∀ p ∈ L, p.1.size ≤ maxLen ∧ p.2.size ≤ maxLen := fun p hp => by
        have := (hpf.1 p hp).2
        exact ⟨Nat.le_trans this.2 (by unfold maxLen; omega), Nat.le_trans this.1 (by unfold maxLen; omega)⟩
      have hll : L.length ≤ 10000 := hpf.2
      clear hpf
      obtain ⟨pa, pc, rfl, hpc, hpat⟩ := hpa
      have HO := Lib.hid hoc
      have HK := Lib.hid hok
      have HSZ := Lib.hid hsz
      have HPA := Lib.hid hpat
      obtain ⟨ln, hln⟩ : ∃ n, L.length = n := ⟨_, rfl⟩
      have HLN := Lib.hid hln
      rw [hln] at hll hpc ⊢
      clear hv hoc hok hsz hpat hL hk hln
      have hmm := @run_makeMap Tryd.prog
      have ha0 := cnt_new w4
      obtain ⟨V5, hV5⟩ : ∃ V, w4.alloc (.map #[] 0) = V := ⟨_, rfl⟩
      rw [hV5] at ha0
      have bm : Bel w4 V5 := by rw [← hV5]; exact Bel.alloc _ _
      obtain ⟨mb, hmb⟩ : ∃ m, w4.heap.size = m := ⟨_, rfl⟩
      have HMP := Lib.hid (spaces_c w4 w4.heap.size (Nat.le_refl _) x.bulk x (Nat.le_refl _) (by omega) _ _ 0 (fun _ => 0) V5 (HNA.out _ HB4.out) bm ha0 (fun s => Nat.le_refl _) (by omega))
      unfold ndV at HMP
      have hmlt : mb < V5.heap.size := by rw [← hV5, World.size_alloc]; omega
      rw [hmb] at HMP ha0
      have HMB := Lib.hid hmb
      have HV5 := Lib.hid hV5
      have HBM := Lib.hid bm
      have HX4 := Lib.hid hx4
      have d0 := bm.keep c0
      have d1 := bm.keep c1
      have d2 := bm.keep c2
      have d3 := bm.keep c3
      have d4 := bm.keep c4
      have d5 := bm.keep c5
      clear ha0 bm hmb hV5 hx4 c0 c1 c2 c3 c4 c5 hmlt
      go_upto_region 7 with fail
      rw [show w4.alloc (.map #[] 0) = V5 from HV5.out, HMB.out]
      clear HV5
      go_wp2_with fail
      refine HMP.out.mono ?_
      rintro e6 w6 ⟨rfl, hc6, hb6, hk6⟩
      rw [show (fun s => 0 + occN x s) = leftF x L 0 from by rw [left_start]; funext s; omega] at hc6
      have hb46 : Bel w4 w6 := by have := HMB.out; unfold Bel at *; rw [this]; exact (by have := HBM.out; unfold Bel at this; rw [‹w4.heap.size = mb›] at this; exact this.trans hb6)
      obtain ⟨nb, hnb⟩ : ∃ m, w6.heap.size = m := ⟨_, rfl⟩
      obtain ⟨V7, hV7⟩ : ∃ V, w6.alloc (.map #[] 0) = V := ⟨_, rfl⟩
      have b7 : Bel w6 V7 := by rw [← hV7]; exact Bel.alloc _ _
      have hn7 : CntM V7 nb 0 (nmF L 0) := by rw [nm_start, ← hV7, ← hnb]; exact cnt_new w6
      have hmn : mb < nb := by rw [← hnb]; exact hc6.lt
      have HC7 := Lib.hid (hc6.bel b7)
      have HN7 := Lib.hid hn7
      have HB7 := Lib.hid (hb46.trans b7)
      have HV7 := Lib.hid hV7
      have HNB := Lib.hid hnb
      clear hc6 hb6 hk6 hb46 b7 hn7 hnb hV7 HMP d0 d1 d2 d3 d4 d5
      go_upto_region 9 with fail
      rw [show w6.alloc (.map #[] 0) = V7 from HV7.out, HNB.out]
      clear HV7 HNB
      go_wp2_with fail
      have H0 : Hid (CntM V7 mb (0 + x.bulk) (leftF x L 0) ∧ CntM V7 nb 0 (nmF L 0) ∧ Bel w4 V7) := Lib.hid ⟨HC7.out, HN7.out, HB7.out⟩
      go_loopw [36] (fun i wr => ∃ (j : Nat), i = .int .i64 j ∧ j ≤ ln ∧ Hid (CntM wr mb (0 + x.bulk) (leftF x L j) ∧ CntM wr nb j (nmF L j) ∧ Bel w4 wr)) (fun i _ => ln - (intOf i).toNat)
      case atStart => exact ⟨0, rfl, Nat.zero_le _, H0⟩
      case round =>
        obtain ⟨j, rfl, hj, HSJ⟩ := hrel
        by_cases hlt : j < ln
        · have hlti : (j : Int) < ln := by omega
          obtain ⟨y, hy⟩ : ∃ y, L[j]? = some y := ⟨_, List.getElem?_eq_getElem (by have := HLN.out; omega)⟩
          obtain ⟨b, off, rfl, g0, g1, g2⟩ := HPA.out j y hy
          have f0 := HSJ.out.2.2.keep g0
          have f1 := HSJ.out.2.2.keep g1
          have f2 := HSJ.out.2.2.keep g2
          have hym := List.mem_of_getElem? hy
          obtain ⟨hy2, hy1, hyo⟩ := HO.out.1 y hym
          obtain ⟨hs1, hs2⟩ := HSZ.out y hym
          have hln := left_now (n := x) HK.out.spaces hy
          have hls := left_step (n := x) hy
          have hnn := nm_now HK.out.names hy
          have hns := nm_step HK.out.names hy
          obtain ⟨V3, h3, q3, l3, s3⟩ := alloc_step wr 47 [.int .i64 0, .string y.1, .string y.2]
          have hca := HSJ.out.1.bel l3
          have hcn := HSJ.out.2.1.bel l3
          have k1 := cnt_look hca hs2
          have k2 := cnt_look hcn hs1
          obtain ⟨W4, hup, hc4, hg4⟩ := cnt_put hcn (by have := HLN.out; omega) hs1 (by rw [hnn]; omega)
          rw [hnn] at k2 hup
          have hup2 : (Instr.mapUpdate 44 (.map (some nb)) (.string y.1) (.int .i64 1)).run Tryd.prog V3 = .ok () W4 := hup
          have hca4 := hca.kept (W' := W4) (hg4.block mb hca.lt (by intro e; cases e; exact absurd hmn (Nat.lt_irrefl _)))
          have hk4 := cnt_keep hcn hg4
          obtain ⟨W5, hdl, hc5, hg5⟩ := cnt_del hca4 hs2 0
          have hcn5 := hc4.kept (W' := W5) (hg5.block nb hc4.lt (by intro e; cases e; exact absurd hmn (Nat.lt_irrefl _)))
          rw [hls] at hc5
          rw [hns] at hcn5
          rw [hln] at k1
          obtain ⟨o, ho⟩ : ∃ o, occN x y.2 = o := ⟨_, rfl⟩
          rw [ho] at k1 hyo
          have hoi : ¬ ((o : Int) = 0) := by omega
          have hobk : o ≤ 1048576 := by rw [← ho]; have := occN_le x y.2; have := HM.out; omega
          have hb5 : Bel w4 W5 := Below.grown (Below.grown (HSJ.out.2.2.trans l3) hg4 (by have := (HSJ.out.2.2.trans l3).size; exact this) (fun k e => by cases e; have := HMB.out; omega)) hg5 (by have := (HSJ.out.2.2.trans l3).size; have := hg4.size; omega) (fun k e => by cases e; have := HMB.out; omega)
          have HN : Hid (CntM W5 mb (0 + x.bulk) (leftF x L (j + 1)) ∧ CntM W5 nb (j + 1) (nmF L (j + 1)) ∧ Bel w4 W5) := Lib.hid ⟨hc5, hcn5, hb5⟩
          have hq4 := q3.keepT hk4 rfl
          have e1 := q3.at 1
          have e2 := q3.at 2
          have e3 := hq4.at 2
          have hyl2 := lempty y.2
          have hyl1 := lempty y.1
          rw [decide_eq_false hy2] at hyl2
          rw [decide_eq_false hy1] at hyl1
          obtain ⟨ya, yb⟩ := y
          dsimp only at f0 f1 f2 hyl1 hyl2 k1 k2 hup2 hdl e1 e2 e3 h3
          have HV3 := Lib.hid h3
          clear g0 g1 g2 hy hym hy2 hy1 hs1 hs2 hln hls hnn hns q3 l3 s3 hca hcn hup hc4 hg4 hca4 hk4 hc5 hg5 hcn5 hb5 ho hq4 HSJ h3
          go_upto_region 12 with fail
          rw [show wr.alloc (.cells #[.int .i64 0, .string ya, .string yb] 47) = V3 from HV3.out]
          clear HV3
          go_wp2_with fail
          exact ⟨⟨j + 1, by go_num, by omega, HN⟩, by simp [intOf]; omega⟩
        · have hlti : ¬ ((j : Int) < ln) := by omega
          have hle := cnt_len HSJ.out.1 (HLE.out j (by have := HLN.out; omega)) 3
          go_wp2_with fail
          go_ret
          exact ⟨rfl, HB4.out.trans HSJ.out.2.2⟩
    · obtain ⟨-, rfl⟩ := hv.resolve_right fun e => hk e.1
      have HCK := Lib.hid (xCheck_c x _ _ w4 (by omega) (HE.out _ HB4.out).1 (HNA.out _ HB4.out))
      unfold ndV at HCK
      obtain ⟨K, hK⟩ : ∃ K, CheckN x = K := ⟨_, rfl⟩
      rw [hK] at HCK hk ⊢
      have hki : ¬ ((K : Int) = 0) := by omega
      clear hv hb4 hK
      go_wp2_with fail
      refine HCK.out.mono ?_
      rintro e6 w6 ⟨rfl, hb6⟩
      have HB6 := Lib.hid (HB4.out.trans hb6)
      clear hb6 HCK
      go_wp2_with fail
      go_ret
      exact ⟨rfl, HB6.out⟩
  · obtain ⟨G, hG⟩ : ∃ g, greatN [x] = g := ⟨_, rfl⟩
    rw [hG] at hgr ⊢
    have hgi : (0 : Int) < G := by omega
    clear hG hgr
    have HA3 := Lib.hid (HAL.out _ HB3.out)
    go_wp2_with fail
    refine HA3.out.mono ?_
    rintro e4 w4 ⟨rfl, hb4⟩
    have HB4 := Lib.hid (HB3.out.trans hb4)
    clear hb4 HA3
    go_wp2_with fail
    go_ret
    exact ⟨rfl, HB4.out⟩
end Go.Proofs.YtojeclfcgnamoaaDoor
