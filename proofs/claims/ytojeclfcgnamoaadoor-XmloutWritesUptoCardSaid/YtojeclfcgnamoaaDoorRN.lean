/-
  The document's xmlout: the walks of met, Prefixes.
-/
import Derived.Test.YtojeclfcgnamoaaDoorRM
namespace Go.Proofs.YtojeclfcgnamoaaDoor
open Go.RowKit

abbrev OwnP (B : Nat) (M : List Pr6) (w : World) (v : Value) : Prop := ∃ a cap, v = .slice a M.length cap ∧ w.ownsRow B 47 3 (.slice a M.length cap) M.length (M.flatMap encP)
set_option maxRecDepth 100000 in
set_option maxHeartbeats 8000000 in
theorem d6metF_c (u : World) (f : Nat)
    (ih : ∀ (x : Nd), x.bulk ≤ f → ∀ va vk (L : List Pr6) v w, NdAt u x va vk → Bel u w → OwnP u.heap.size L w v → L.length + x.bulk ≤ 536870912 → Calls Tryd.prog 49 #[v, ndV x va vk] w (RetMt u.heap.size (metN L x) w))
    (x : Nd) (hf : x.bulk ≤ f + 1) (hbk : f ≤ 1000000) (va vk : Value) (L : List Pr6) (v : Value) (w : World) (h : NdAt u x va vk) (hb : Bel u w) (ho : OwnP u.heap.size L w v) (hn : L.length + x.bulk ≤ 536870912) :
    Calls Tryd.prog 49 #[v, ndV x va vk] w (RetMt u.heap.size (metN L x) w) := by
  obtain ⟨aa, ka, an, ac, kn, kc, rfl, rfl, han, hkn, hac, hkc, hab, hkb, hatr, hkid⟩ := h.opened
  have hbe := nd_bulk x
  have hal := atr_len x.al
  have HMEET : Hid (∀ L' s a cap W, Bel u W → L'.length ≤ 1073741820 → W.ownsRow u.heap.size 47 3 (.slice a L'.length cap) L'.length (L'.flatMap encP) → Calls Tryd.prog 62 #[.slice a L'.length cap, .string s] W (RetMt u.heap.size (meetP L' s) W)) :=
    Lib.hid fun L' s a cap W hW hl' hP => d6meet_c _ L' s a cap W hW.size hl' hP
  have HALL : Hid (∀ y : Nd, y ∈ x.ks → ∀ ya yk L' v W, NdAt u y ya yk → Bel u W → OwnP u.heap.size L' W v → L'.length + y.bulk ≤ 536870912 → Calls Tryd.prog 49 #[v, ndV y ya yk] W (RetMt u.heap.size (metN L' y) W)) := Lib.hid fun y hy ya yk L' v W h1 h2 h3 h4 => ih y (by have := nbulks_mem hy; omega) ya yk L' v W h1 h2 h3 h4
  have HA := Lib.hid hatr
  have HK := Lib.hid hkid
  have HAN := Lib.hid han
  have HKN := Lib.hid hkn
  have HBE := Lib.hid hbe
  have han2 : an ≤ 1000001 := by omega
  have hkn2 : kn ≤ 1000001 := by omega
  obtain ⟨NT, hNT⟩ : ∃ N, L.length + x.bulk = N := ⟨_, rfl⟩
  have HNT := Lib.hid hNT
  rw [hNT] at hn
  rw [metN_eq]
  obtain ⟨M, hM⟩ : ∃ M, metsN (meetsP (meetP L x.sp) x.al) x.ks = M := ⟨_, rfl⟩
  rw [hM]
  have HMM := Lib.hid hM
  obtain ⟨a, cap, rfl, hown⟩ := ho
  unfold ndV
  obtain ⟨V1, h1, q1, l1, s1⟩ := alloc_step w 27 [.int .i64 x.t, .string x.sp, .string x.lo, .slice aa an ac, .slice ka kn kc, .string x.tx]
  have c1 := q1.at 1
  have Q1 := Lib.hid q1
  have HV1 := Lib.hid h1
  have HB1 := Lib.hid (hb.trans l1)
  have HBW : Hid (Below u.heap.size w V1) := Lib.hid (l1.mono hb.size)
  have HKW : Hid (KeepT keepQ w V1) := Lib.hid (KeepT.of_bel l1)
  have HC1 := Lib.hid (HMEET.out L x.sp a cap V1 HB1.out (by omega) (own_bel hown l1))
  have HL1 : Hid ((meetP L x.sp).length ≤ L.length + 1) := Lib.hid (meetP_len L x.sp)
  have HLB := Lib.hid (show L.length + 1 ≤ 536870912 by have := nd_pos x; omega)
  obtain ⟨LN, hLN⟩ : ∃ N, L.length = N := ⟨_, rfl⟩
  have HLN := Lib.hid hLN
  rw [hLN] at HC1 ⊢
  clear h1 q1 l1 s1 h hb hown hatr hkid han hkn hac hkc hab hkb hbe hal ih hf hbk hNT hM hLN
  go_enter Tryd.func49, Tryd.ntmps49
  go_upto_region 1 with fail
  rw [show w.alloc (.cells #[.int .i64 x.t, .string x.sp, .string x.lo, .slice aa an ac, .slice ka kn kc, .string x.tx] 27) = V1 from HV1.out]
  clear HV1
  go_wp2_with fail
  refine HC1.out.mono ?_
  rintro e2 w2 ⟨a2, cap2, rfl, ho2, hb2, hk2⟩
  have HO2 := Lib.hid ho2
  have HB2 : Hid (Bel u w2) := Lib.hid (Below.trans HB1.out hb2)
  have HBW2 : Hid (Below u.heap.size w w2) := Lib.hid (HBW.out.trans hb2)
  have HK2 := Lib.hid hk2
  have q2 := Q1.out.keepT hk2 keepQ_types.2.1
  have e3 : w2.cell? ⟨w.heap.size, 3, none⟩ = some (.slice aa an ac) := q2.at 3
  have HL2 : Hid ((meetP L x.sp).length ≤ LN + 1 + 0) := Lib.hid (by have := HL1.out; have := HLN.out; omega)
  clear hb2 hk2 q2 c1 ho2 HC1
  go_wp2_with fail
  go_loopw [0, 5] (fun s0 i wr => ∃ (j : Nat) (L' : List Pr6) (a : Option Addr) (n cap : Nat), s0 = .slice a n cap ∧ i = .int .i64 j ∧ j ≤ an ∧ Hid (n = L'.length ∧ wr.ownsRow u.heap.size 47 3 (.slice a L'.length cap) L'.length (L'.flatMap encP)) ∧ Hid (L'.length ≤ LN + 1 + j) ∧ Hid (meetsP L' (x.al.drop j) = meetsP (meetP L x.sp) x.al) ∧ Hid (Bel u wr) ∧ Hid (Below u.heap.size w wr) ∧ Hid (KeepT keepQ V1 wr)) (fun _ i _ => an - (intOf i).toNat)
  case atStart => exact ⟨0, meetP L x.sp, a2, _, cap2, rfl, rfl, Nat.zero_le _, Lib.hid ⟨rfl, HO2.out⟩, HL2, Lib.hid (by rw [List.drop_zero]), HB2, HBW2, HK2⟩
  case round =>
    obtain ⟨j, L', a3, n3, cap3, rfl, rfl, hj, HOJ, HLJ, HMJ, HBJ, HWJ, HKJ⟩ := hrel
    have q5 := Q1.out.keepT HKJ.out keepQ_types.2.1
    have k3 : wr.cell? ⟨w.heap.size, 3, none⟩ = some (.slice aa an ac) := q5.at 3
    have k4 : wr.cell? ⟨w.heap.size, 4, none⟩ = some (.slice ka kn kc) := q5.at 4
    clear q5
    by_cases hlt : j < an
    · have hlti : (j : Int) < an := by omega
      obtain ⟨y, hy⟩ : ∃ y, x.al[j]? = some y := ⟨_, List.getElem?_eq_getElem (by have := HAN.out; omega)⟩
      obtain ⟨b, off, rfl, g0, g1, g2⟩ := HA.out j y hy
      have f0 := HBJ.out.keep g0
      have hms : meetsP (meetP L' y.1) (x.al.drop (j + 1)) = meetsP (meetP L x.sp) x.al := by
        rw [← HMJ.out, drop_tail hy]
        rfl
      have HMS := Lib.hid hms
      obtain ⟨ya, yb, yc⟩ := y
      dsimp only at f0 HMS
      have HC := Lib.hid (HMEET.out L' ya a3 cap3 wr HBJ.out (by have := HLJ.out; have := HLB.out; have := HLN.out; omega) HOJ.out.2)
      rw [← HOJ.out.1] at HC
      have HL3 : Hid ((meetP L' ya).length ≤ LN + 1 + (j + 1)) := Lib.hid (by have := meetP_len L' ya; have := HLJ.out; omega)
      clear g0 g1 g2 hy hms
      go_wp2_with fail
      refine HC.out.mono ?_
      rintro e4 w4 ⟨a4, cap4, rfl, ho4, hb4, hk4⟩
      have HO4 := Lib.hid ho4
      have HB4 : Hid (Bel u w4) := Lib.hid (Below.trans HBJ.out hb4)
      have HW4 := Lib.hid (HWJ.out.trans hb4)
      have HK4 := Lib.hid (HKJ.out.trans hk4)
      clear hb4 hk4 ho4 HC k3 k4 f0
      go_wp2_with fail
      exact ⟨⟨j + 1, meetP L' ya, a4, _, cap4, rfl, by go_num, by omega, Lib.hid ⟨rfl, HO4.out⟩, HL3, HMS, HB4, HW4, HK4⟩, by simp [intOf]; omega⟩
    · have hlti : ¬ ((j : Int) < an) := by omega
      obtain rfl : j = an := by omega
      have HMJ2 : Hid (L' = meetsP (meetP L x.sp) x.al) := Lib.hid (by have := HMJ.out; rwa [List.drop_eq_nil_of_le (by have := HAN.out; omega)] at this)
      have HQ0 : Hid (L'.length + Nd.bulk.bulks (x.ks.drop 0) ≤ NT) := Lib.hid (by
        have h1 := HBE.out
        have h2 := HNT.out
        have h3 := atr_len x.al
        have h4 := HAN.out
        have h5 := HLJ.out
        have h6 := HLN.out
        rw [List.drop_zero]
        omega)
      have HM : Hid (metsN L' (x.ks.drop 0) = M) := Lib.hid (by rw [HMJ2.out, List.drop_zero, HMM.out])
      clear HMJ HMJ2
      go_wp2_with fail
      go_loopw [0, 6] (fun s0 i wq => ∃ (k : Nat) (L2 : List Pr6) (a : Option Addr) (n cap : Nat), s0 = .slice a n cap ∧ i = .int .i64 k ∧ k ≤ kn ∧ Hid (n = L2.length ∧ wq.ownsRow u.heap.size 47 3 (.slice a L2.length cap) L2.length (L2.flatMap encP)) ∧ Hid (L2.length + Nd.bulk.bulks (x.ks.drop k) ≤ NT) ∧ Hid (metsN L2 (x.ks.drop k) = M) ∧ Hid (Bel u wq) ∧ Hid (Below u.heap.size w wq) ∧ Hid (KeepT keepQ V1 wq)) (fun _ i _ => kn - (intOf i).toNat)
      case atStart => exact ⟨0, L', a3, _, cap3, rfl, rfl, Nat.zero_le _, HOJ, HQ0, HM, HBJ, HWJ, HKJ⟩
      case round =>
        obtain ⟨k, L2, a5, n5, cap5, rfl, rfl, hk, HOK, HQK, HMK, HBK, HWK, HKK⟩ := hrel
        have q5 := Q1.out.keepT HKK.out keepQ_types.2.1
        have k5 : wr.cell? ⟨w.heap.size, 4, none⟩ = some (.slice ka kn kc) := q5.at 4
        clear q5 k4
        by_cases hlk : k < kn
        · have hlki : (k : Int) < kn := by omega
          obtain ⟨y, hy⟩ : ∃ y, x.ks[k]? = some y := ⟨_, List.getElem?_eq_getElem (by have := HKN.out; omega)⟩
          obtain ⟨bb, off, yaa, yan, yac, yka, ykn, ykc, rfl, g0, g1, g2, g3, g4, g5, hyn⟩ := HK.out k y hy
          have f0 := HBK.out.keep g0
          have f1 := HBK.out.keep g1
          have f2 := HBK.out.keep g2
          have f3 := HBK.out.keep g3
          have f4 := HBK.out.keep g4
          have f5 := HBK.out.keep g5
          have hdr := kid_tail hy
          have hqk := HQK.out
          have hmk := HMK.out
          rw [hdr, bulks_cons] at hqk
          rw [hdr, metsN] at hmk
          have HC := Lib.hid (HALL.out y (List.mem_of_getElem? hy) _ _ L2 (.slice a5 n5 cap5) wr hyn HBK.out ⟨a5, cap5, by rw [HOK.out.1], HOK.out.2⟩ (by omega))
          unfold ndV at HC
          have HQ3 : Hid ((metN L2 y).length + Nd.bulk.bulks (x.ks.drop (k + 1)) ≤ NT) := Lib.hid (by have := metN_len y L2; omega)
          have HM3 := Lib.hid hmk
          clear g0 g1 g2 g3 g4 g5 hy hyn hdr hqk hmk
          go_wp2_with fail
          refine HC.out.mono ?_
          rintro e4 w4 ⟨a4, cap4, rfl, ho4, hb4, hk4⟩
          have HO4 := Lib.hid ho4
          have HB4 : Hid (Bel u w4) := Lib.hid (Below.trans HBK.out hb4)
          have HW4 := Lib.hid (HWK.out.trans hb4)
          have HK4 := Lib.hid (HKK.out.trans hk4)
          clear hb4 hk4 ho4 HC k5 f0 f1 f2 f3 f4 f5
          go_wp2_with fail
          exact ⟨⟨k + 1, metN L2 y, a4, _, cap4, rfl, by go_num, by omega, Lib.hid ⟨rfl, HO4.out⟩, HQ3, HM3, HB4, HW4, HK4⟩, by simp [intOf]; omega⟩
        · have hlki : ¬ ((k : Int) < kn) := by omega
          have HX : Hid (L2 = M) := Lib.hid (by have := HMK.out; rwa [List.drop_eq_nil_of_le (by have := HKN.out; omega), metsN] at this)
          clear HMK
          go_wp2_with fail
          go_ret
          have hx := HX.out
          subst hx
          exact ⟨a5, cap5, by rw [HOK.out.1]; rfl, HOK.out.2, HWK.out, HKW.out.trans HKK.out⟩
theorem d6met_c (u : World) : ∀ (f : Nat) (x : Nd), x.bulk ≤ f → f ≤ 1000000 → ∀ va vk (L : List Pr6) v w, NdAt u x va vk → Bel u w → OwnP u.heap.size L w v → L.length + x.bulk ≤ 536870912 → Calls Tryd.prog 49 #[v, ndV x va vk] w (RetMt u.heap.size (metN L x) w) := by
  intro f
  induction f with
  | zero => intro x hx; have := nd_pos x; omega
  | succ f ih => exact fun x hx hf va vk L v w h1 h2 h3 h4 => d6metF_c u f (fun y hy ya yk L' v' w' g1 g2 g3 g4 => ih y hy (by omega) ya yk L' v' w' g1 g2 g3 g4) x hx (by omega) va vk L v w h1 h2 h3 h4
set_option maxRecDepth 100000 in
set_option maxHeartbeats 8000000 in
/-- The document's Prefixes. -/
theorem d6pref_c (e : Nd) (va vk : Value) (w : World) (he : e.bulk ≤ 1000000) (hd : DistN e) (h : NdAt w e va vk) :
    Calls Tryd.prog 24 #[ndV e va vk] w fun r w' => ∃ a c, r = .returned (.slice a (PrefN e).length c) ∧ PairsAt w' (.slice a (PrefN e).length c) (PrefN e) ∧ Bel w w' := by
  have HS := Lib.hid fun W (hW : Bel w W) => rsort_c e va vk W he hd (NdAt.bel hW e h)
  have HM := Lib.hid fun (u : World) xa xk W (hu : NdAt u (sortN e) xa xk) (hW : Bel u W) => d6met_c u (sortN e).bulk (sortN e) (Nat.le_refl _) (by rw [sortN_bulk]; exact he) xa xk [] (.slice none 0 0) W hu hW ⟨none, 0, rfl, World.ownsRow_nil _ _ _ _⟩ (by rw [sortN_bulk]; show 0 + e.bulk ≤ _; omega)
  obtain ⟨aa, ka, an, ac, kn, kc, rfl, rfl, _⟩ := h.opened
  unfold PrefN
  obtain ⟨M, hM⟩ : ∃ M, metN [] (sortN e) = M := ⟨_, rfl⟩
  obtain ⟨S, hS⟩ : ∃ S, sortN e = S := ⟨_, rfl⟩
  rw [hM] at HM ⊢
  rw [hS] at HS HM
  unfold ndV at HS ⊢
  obtain ⟨V1, h1, q1, l1, s1⟩ := alloc_step w 27 [.int .i64 e.t, .string e.sp, .string e.lo, .slice aa an ac, .slice ka kn kc, .string e.tx]
  have c0 := q1.at 0
  have c1 := q1.at 1
  have c2 := q1.at 2
  have c3 := q1.at 3
  have c4 := q1.at 4
  have c5 := q1.at 5
  have L1 := Lib.hid l1
  have HV1 := Lib.hid h1
  clear h1 q1 l1 s1 h hM hS hd
  go_enter Tryd.func24, Tryd.ntmps24
  go_upto_region 1 with fail
  rw [show w.alloc (.cells #[.int .i64 e.t, .string e.sp, .string e.lo, .slice aa an ac, .slice ka kn kc, .string e.tx] 27) = V1 from HV1.out]
  clear HV1
  go_wp2_with fail
  refine (HS.out _ L1.out).mono ?_
  rintro e1 w1 ⟨xa, xk, rfl, hx1, hb1⟩
  have HC := Lib.hid (HM.out w1 xa xk w1 hx1 (Bel.refl _))
  have HB1 := Lib.hid (L1.out.trans hb1)
  unfold ndV at HC
  clear hb1 hx1 c0 c1 c2 c3 c4 c5 HS HM
  go_wp2_with fail
  refine HC.out.mono ?_
  rintro e2 w2 ⟨a2, c2, rfl, ho2, hb2, _⟩
  have HP := Lib.hid (pairs_own ho2)
  have HB2 : Hid (Bel w w2) := Lib.hid (HB1.out.trans hb2)
  clear ho2 hb2 HC
  go_wp2_with fail
  go_ret
  exact ⟨a2, c2, rfl, HP.out, HB2.out⟩
end Go.Proofs.YtojeclfcgnamoaaDoor
