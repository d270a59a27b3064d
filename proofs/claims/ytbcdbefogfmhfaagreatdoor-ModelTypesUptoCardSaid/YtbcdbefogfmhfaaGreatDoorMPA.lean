/-
  model: the walks of check, Check.
-/
import Derived.Test.YtbcdbefogfmhfaaGreatDoorMOK
import Derived.Test.YtbcdbefogfmhfaaGreatDoorMOO
import Derived.Test.YtbcdbefogfmhfaaGreatDoorMOX
import Derived.Test.YtbcdbefogfmhfaaGreatDoorMOY
namespace Go.Proofs.YtbcdbefogfmhfaaGreatDoor
open Go.RowKit Go.Maps

/-- What the walks of a model ask of the world. -/
structure EnvM (w : World) : Prop where
  x : EnvX w
  p : PolAt w
  b : EnvB w
theorem EnvM.bel {w w' : World} (h : EnvM w) (hb : Bel w w') : EnvM w' := ⟨h.x.bel hb, h.p.bel hb, h.b.bel hb⟩
noncomputable def partsM (m : Md) : List Nat := [namedM m, referredM m, circM m, logM m]
theorem parts_nz (m : Md) : nz (partsM m) = CheckM m := rfl
def RetChk (m : Md) (q : MdQ) (w : World) (e : Ending) (w' : World) : Prop :=
  Bel w w' ∧ (CheckM m = 0 → ∃ cb bb tb, e = .returned (.tuple #[.pointer (some ⟨cb, 0, none⟩), .int .i64 0]) ∧ CkS w cb bb tb m q w') ∧ (CheckM m ≠ 0 → e = .returned (.tuple #[.pointer none, .int .i64 (CheckM m)]))
/-- Where the loop over the parts stands. -/
def StG (u V3 : World) (cb bb tb : Nat) (m : Md) (q : MdQ) (k : Nat) (W : World) : Prop := (k = 0 → W = V3) ∧ (k ≠ 0 → CkS u cb bb tb m q W)
set_option maxRecDepth 100000 in
set_option maxHeartbeats 16000000 in
theorem check_m (m : Md) (q : MdQ) (w : World) (hE : EnvM w) (hbk : m.bulk ≤ 1048576) (hat : MdAt w m q) : Calls Tryz.prog 22 #[mdV m q] w (RetChk m q w) := by
  have HE := Lib.hid hE
  have HAT := Lib.hid hat
  have HBK := Lib.hid hbk
  obtain ⟨R, hR⟩ : ∃ R, CheckM m = R := ⟨_, rfl⟩
  have HR : Hid (nz ((partsM m).drop 0) = R) := Lib.hid hR
  have HRE := Lib.hid hR
  obtain ⟨ia, im, ic, na, nn, nc, ka, kn, kc, da, dn, dc⟩ := q
  obtain ⟨q, hq⟩ : ∃ q : MdQ, q = ⟨ia, im, ic, na, nn, nc, ka, kn, kc, da, dn, dc⟩ := ⟨_, rfl⟩
  unfold mdV mdL
  dsimp only
  obtain ⟨mb, hmb⟩ : ∃ x, w.heap.size = x := ⟨_, rfl⟩
  obtain ⟨bb, hbb⟩ : ∃ x, mb + 1 = x := ⟨_, rfl⟩
  obtain ⟨tb, htb⟩ : ∃ x, bb + 1 = x := ⟨_, rfl⟩
  obtain ⟨cb, hcb⟩ : ∃ x, tb + 1 = x := ⟨_, rfl⟩
  obtain ⟨fb, hfb⟩ : ∃ x, cb + 1 = x := ⟨_, rfl⟩
  obtain ⟨V1, h1, q1, l1, s1⟩ := alloc_step w 27 [.string m.id, .string m.nm, .string m.sp, .slice ia im ic, .slice na nn nc, .slice ka kn kc, .slice da dn dc]
  obtain ⟨U1, hU1⟩ : ∃ X, V1.alloc (.map #[] 0) = X := ⟨_, rfl⟩
  obtain ⟨U2, hU2⟩ : ∃ X, U1.alloc (.map #[] 0) = X := ⟨_, rfl⟩
  obtain ⟨V2, h2, q2, l2, s2⟩ := alloc_step U2 93 [.string m.id, .string m.nm, .string m.sp, .slice ia im ic, .slice na nn nc, .slice ka kn kc, .slice da dn dc, .map (some bb), .map (some tb)]
  obtain ⟨V3, h3, q3, l3, s3⟩ := alloc_step V2 110 [.func (.func 50) #[.pointer (some ⟨cb, 0, none⟩)] #[], .func (.func 51) #[.pointer (some ⟨cb, 0, none⟩)] #[], .func (.func 52) #[.pointer (some ⟨cb, 0, none⟩)] #[], .func (.func 53) #[.pointer (some ⟨cb, 0, none⟩)] #[]]
  have e1 : V1.heap.size = bb := by rw [s1, hmb, hbb]
  have e2 : U1.heap.size = tb := by rw [← hU1, World.size_alloc, e1, htb]
  have e3 : U2.heap.size = cb := by rw [← hU2, World.size_alloc, e2, hcb]
  have e4 : V2.heap.size = fb := by rw [s2, e3, hfb]
  have m1 : ByM U1 bb 0 fun _ => none := by rw [← hU1, ← e1]; exact MapV.congr (mv_new V1 thg0) fun _ => rfl
  have m2 : MapV U2 tb 0 int0 fun _ => none := by rw [← hU2, ← e2]; exact mv_new U1 int0
  have b1 : Bel V1 U1 := by rw [← hU1]; exact Bel.alloc _ _
  have b2 : Bel U1 U2 := by rw [← hU2]; exact Bel.alloc _ _
  rw [hmb] at q1
  rw [e3] at q2
  rw [e4] at q3
  have z0 := q1.at 0
  have z1 := q1.at 1
  have z2 := q1.at 2
  have z3 := q1.at 3
  have z4 := q1.at 4
  have z5 := q1.at 5
  have z6 := q1.at 6
  have HM1 := Lib.hid (((m1.bel b2).bel l2).bel l3)
  have HM2 := Lib.hid ((m2.bel l2).bel l3)
  have HC2 : Hid (Blk V3 cb 93 (ckL m q bb tb)) := Lib.hid (by rw [hq]; exact q2.bel l3)
  have HB2 := Lib.hid (l1.trans (b1.trans (b2.trans (l2.trans l3))))
  have HV3 := Lib.hid h3
  have HFN := Lib.hid q3
  have HLT : Hid (w.heap.size ≤ bb ∧ w.heap.size ≤ tb ∧ bb ≠ tb ∧ cb ≠ bb ∧ cb ≠ tb ∧ fb ≠ bb ∧ fb ≠ tb) := Lib.hid (by omega)
  have HV1 := Lib.hid h1
  have HV2 := Lib.hid h2
  have HU1 := Lib.hid hU1
  have HU2 := Lib.hid hU2
  have HMB := Lib.hid hmb
  have HBB := Lib.hid hbb
  have HTB := Lib.hid htb
  have HCB := Lib.hid hcb
  have HFB := Lib.hid hfb
  have HE1 := Lib.hid e1
  have HE2 := Lib.hid e2
  have HE3 := Lib.hid e3
  have HE4 := Lib.hid e4
  have HQ := Lib.hid hq
  have hmm := @run_makeMap Tryz.prog
  clear h3 q3 l3 s3 hE hbk hat hR h1 q1 l1 s1 hU1 hU2 h2 q2 l2 s2 e1 e2 e3 e4 m1 m2 b1 b2 hmb hbb htb hcb hfb hq
  go_enter Tryz.func22, Tryz.ntmps22
  go_upto_region 1 with fail
  rw [show w.alloc (.cells #[.string m.id, .string m.nm, .string m.sp, .slice ia im ic, .slice na nn nc, .slice ka kn kc, .slice da dn dc] 27) = V1 from HV1.out, HMB.out]
  go_upto_region 2 with fail
  rw [HE1.out, HTB.out, HCB.out, show V1.alloc (.map #[] 0) = U1 from HU1.out, show U1.alloc (.map #[] 0) = U2 from HU2.out, show U2.alloc (.cells #[.string m.id, .string m.nm, .string m.sp, .slice ia im ic, .slice na nn nc, .slice ka kn kc, .slice da dn dc, .map (some bb), .map (some tb)] 93) = V2 from HV2.out]
  clear HV1 HV2 HU1 HU2 hmm z0 z1 z2 z3 z4 z5 z6
  go_upto_region 3 with fail
  rw [HE4.out, show V2.alloc (.cells #[.func (.func 50) #[.pointer (some ⟨cb, 0, none⟩)] #[], .func (.func 51) #[.pointer (some ⟨cb, 0, none⟩)] #[], .func (.func 52) #[.pointer (some ⟨cb, 0, none⟩)] #[], .func (.func 53) #[.pointer (some ⟨cb, 0, none⟩)] #[]] 110) = V3 from HV3.out]
  clear HV3
  go_loopw [23] (fun i wr => ∃ k : Nat, i = .int .i64 k ∧ k ≤ 4 ∧ Hid (nz ((partsM m).drop k) = R) ∧ Hid (Blk wr fb 110 [.func (.func 50) #[.pointer (some ⟨cb, 0, none⟩)] #[], .func (.func 51) #[.pointer (some ⟨cb, 0, none⟩)] #[], .func (.func 52) #[.pointer (some ⟨cb, 0, none⟩)] #[], .func (.func 53) #[.pointer (some ⟨cb, 0, none⟩)] #[]]) ∧ Hid (Bel w wr) ∧ Hid (StG w V3 cb bb tb m q k wr)) (fun i _ => 4 - (intOf i).toNat)
  case atStart => exact ⟨0, rfl, by omega, HR, HFN, HB2, Lib.hid ⟨fun _ => rfl, fun h => absurd rfl h⟩⟩
  case round =>
    obtain ⟨k, rfl, hk, HN, HFK, HB, HST⟩ := hrel
    by_cases hk4 : k < 4
    · have hcase : k = 0 ∨ k = 1 ∨ k = 2 ∨ k = 3 := by omega
      clear hk hk4
      rcases hcase with rfl | rfl | rfl | rfl
      · as_aux_lemma =>
        have hw3 := HST.out.1 rfl
        subst hw3
        have HNM := Lib.hid (mnamed_c w wr cb bb tb m q HE.out.x.1 HB.out HC2.out HM1.out HM2.out HLT.out.1 HLT.out.2.1 HLT.out.2.2.1 ⟨HLT.out.2.2.2.1, HLT.out.2.2.2.2.1⟩ (by rw [HQ.out]; exact HAT.out) HBK.out)
        have hn := HN.out
        rw [drop_at (show (partsM m)[0]? = some (namedM m) from rfl), nz_cons] at hn
        have c0 : wr.cell? ⟨fb, 0, none⟩ = some (.func (.func 50) #[.pointer (some ⟨cb, 0, none⟩)] #[]) := HFK.out.at 0
        have hen := fun args w1 => enters_of Tryz.func50 (by kernel_rfl) rfl args w1
        have HN1 := Lib.hid hn
        obtain ⟨E, hE⟩ : ∃ E, namedM m = E := ⟨_, rfl⟩
        have HEE := Lib.hid hE
        clear hn HN hE
        go_wp2_with fail
        refine HNM.out.mono ?_
        rintro e1 w1 ⟨he, hbu, hbt, hck, hk0⟩
        rw [HEE.out] at he
        subst he
        have HB1 := Lib.hid hbu
        have HF1 := Lib.hid (HFK.out.butM hbt HLT.out.2.2.2.2.2.1 HLT.out.2.2.2.2.2.2)
        have HC1 := Lib.hid hck
        have HK0 := Lib.hid hk0
        clear hbu hbt hck hk0
        clear HNM c0 hen HST
        by_cases h0 : E = 0
        · have HN2 : Hid (nz ((partsM m).drop 1) = R) := Lib.hid (by have h1 := HN1.out; rwa [HEE.out, if_pos h0] at h1)
          have HST2 : Hid (StG w wr cb bb tb m q 1 w1) := Lib.hid ⟨fun h => absurd h (by omega), fun _ => ⟨HB1.out, HC1.out, (HK0.out (HEE.out.trans h0)).1, (HK0.out (HEE.out.trans h0)).2, by rw [HQ.out]; exact HAT.out⟩⟩
          subst h0
          clear HN1
          go_wp2_with fail
          exact ⟨⟨1, by go_num, by omega, HN2, HF1, HB1, HST2⟩, by simp [intOf]⟩
        · have hcb : ((E : Int) == 0) = false := by simpa using h0
          have HRR : Hid (CheckM m = E ∧ E ≠ 0) := Lib.hid ⟨by have h1 := HN1.out; rw [HEE.out, if_neg h0] at h1; rw [HRE.out, h1], h0⟩
          clear h0 HN1
          go_wp2_with fail
          go_ret2
          exact ⟨HB1.out, fun h => absurd (HRR.out.1.symm.trans h) HRR.out.2, fun _ => by rw [HRR.out.1]; rfl⟩
      · as_aux_lemma =>
        have HS := Lib.hid (HST.out.2 (by omega))
        have HNM := Lib.hid (referred_c HS.out HE.out.x.1 HE.out.b HBK.out)
        have hn := HN.out
        rw [drop_at (show (partsM m)[1]? = some (referredM m) from rfl), nz_cons] at hn
        have c0 : wr.cell? ⟨fb, 1, none⟩ = some (.func (.func 51) #[.pointer (some ⟨cb, 0, none⟩)] #[]) := HFK.out.at 1
        have hen := fun args w1 => enters_of Tryz.func51 (by kernel_rfl) rfl args w1
        have HN1 := Lib.hid hn
        obtain ⟨E, hE⟩ : ∃ E, referredM m = E := ⟨_, rfl⟩
        have HEE := Lib.hid hE
        clear hn HN hE
        go_wp2_with fail
        refine HNM.out.mono ?_
        rintro e1 w1 ⟨he, hb1⟩
        rw [HEE.out] at he
        subst he
        have HB1 := Lib.hid (HB.out.trans hb1)
        have HF1 := Lib.hid (HFK.out.bel hb1)
        have HS1 := Lib.hid (HS.out.go hb1)
        clear hb1
        clear HNM c0 hen HST
        by_cases h0 : E = 0
        · have HN2 : Hid (nz ((partsM m).drop 2) = R) := Lib.hid (by have h1 := HN1.out; rwa [HEE.out, if_pos h0] at h1)
          have HST2 : Hid (StG w V3 cb bb tb m q 2 w1) := Lib.hid ⟨fun h => absurd h (by omega), fun _ => HS1.out⟩
          subst h0
          clear HN1
          go_wp2_with fail
          exact ⟨⟨2, by go_num, by omega, HN2, HF1, HB1, HST2⟩, by simp [intOf]⟩
        · have hcb : ((E : Int) == 0) = false := by simpa using h0
          have HRR : Hid (CheckM m = E ∧ E ≠ 0) := Lib.hid ⟨by have h1 := HN1.out; rw [HEE.out, if_neg h0] at h1; rw [HRE.out, h1], h0⟩
          clear h0 HN1
          go_wp2_with fail
          go_ret2
          exact ⟨HB1.out, fun h => absurd (HRR.out.1.symm.trans h) HRR.out.2, fun _ => by rw [HRR.out.1]; rfl⟩
      · as_aux_lemma =>
        have HS := Lib.hid (HST.out.2 (by omega))
        have HNM := Lib.hid (circled_c HS.out HBK.out)
        have hn := HN.out
        rw [drop_at (show (partsM m)[2]? = some (circM m) from rfl), nz_cons] at hn
        have c0 : wr.cell? ⟨fb, 2, none⟩ = some (.func (.func 52) #[.pointer (some ⟨cb, 0, none⟩)] #[]) := HFK.out.at 2
        have hen := fun args w1 => enters_of Tryz.func52 (by kernel_rfl) rfl args w1
        have HN1 := Lib.hid hn
        obtain ⟨E, hE⟩ : ∃ E, circM m = E := ⟨_, rfl⟩
        have HEE := Lib.hid hE
        clear hn HN hE
        go_wp2_with fail
        refine HNM.out.mono ?_
        rintro e1 w1 ⟨he, hb1⟩
        rw [HEE.out] at he
        subst he
        have HB1 := Lib.hid (HB.out.trans hb1)
        have HF1 := Lib.hid (HFK.out.bel hb1)
        have HS1 := Lib.hid (HS.out.go hb1)
        clear hb1
        clear HNM c0 hen HST
        by_cases h0 : E = 0
        · have HN2 : Hid (nz ((partsM m).drop 3) = R) := Lib.hid (by have h1 := HN1.out; rwa [HEE.out, if_pos h0] at h1)
          have HST2 : Hid (StG w V3 cb bb tb m q 3 w1) := Lib.hid ⟨fun h => absurd h (by omega), fun _ => HS1.out⟩
          subst h0
          clear HN1
          go_wp2_with fail
          exact ⟨⟨3, by go_num, by omega, HN2, HF1, HB1, HST2⟩, by simp [intOf]⟩
        · have hcb : ((E : Int) == 0) = false := by simpa using h0
          have HRR : Hid (CheckM m = E ∧ E ≠ 0) := Lib.hid ⟨by have h1 := HN1.out; rw [HEE.out, if_neg h0] at h1; rw [HRE.out, h1], h0⟩
          clear h0 HN1
          go_wp2_with fail
          go_ret2
          exact ⟨HB1.out, fun h => absurd (HRR.out.1.symm.trans h) HRR.out.2, fun _ => by rw [HRR.out.1]; rfl⟩
      · as_aux_lemma =>
        have HS := Lib.hid (HST.out.2 (by omega))
        have HNM := Lib.hid (logics_c HS.out HE.out.x HE.out.p HBK.out)
        have hn := HN.out
        rw [drop_at (show (partsM m)[3]? = some (logM m) from rfl), nz_cons] at hn
        have c0 : wr.cell? ⟨fb, 3, none⟩ = some (.func (.func 53) #[.pointer (some ⟨cb, 0, none⟩)] #[]) := HFK.out.at 3
        have hen := fun args w1 => enters_of Tryz.func53 (by kernel_rfl) rfl args w1
        have HN1 := Lib.hid hn
        obtain ⟨E, hE⟩ : ∃ E, logM m = E := ⟨_, rfl⟩
        have HEE := Lib.hid hE
        clear hn HN hE
        go_wp2_with fail
        refine HNM.out.mono ?_
        rintro e1 w1 ⟨he, hb1⟩
        rw [HEE.out] at he
        subst he
        have HB1 := Lib.hid (HB.out.trans hb1)
        have HF1 := Lib.hid (HFK.out.bel hb1)
        have HS1 := Lib.hid (HS.out.go hb1)
        clear hb1
        clear HNM c0 hen HST
        by_cases h0 : E = 0
        · have HN2 : Hid (nz ((partsM m).drop 4) = R) := Lib.hid (by have h1 := HN1.out; rwa [HEE.out, if_pos h0] at h1)
          have HST2 : Hid (StG w V3 cb bb tb m q 4 w1) := Lib.hid ⟨fun h => absurd h (by omega), fun _ => HS1.out⟩
          subst h0
          clear HN1
          go_wp2_with fail
          exact ⟨⟨4, by go_num, by omega, HN2, HF1, HB1, HST2⟩, by simp [intOf]⟩
        · have hcb : ((E : Int) == 0) = false := by simpa using h0
          have HRR : Hid (CheckM m = E ∧ E ≠ 0) := Lib.hid ⟨by have h1 := HN1.out; rw [HEE.out, if_neg h0] at h1; rw [HRE.out, h1], h0⟩
          clear h0 HN1
          go_wp2_with fail
          go_ret2
          exact ⟨HB1.out, fun h => absurd (HRR.out.1.symm.trans h) HRR.out.2, fun _ => by rw [HRR.out.1]; rfl⟩
    · obtain rfl : k = 4 := by omega
      have HR0 : Hid (CheckM m = 0) := Lib.hid (HRE.out.trans HN.out.symm)
      have HS := Lib.hid (HST.out.2 (by omega))
      clear hk hk4 HST
      go_wp2_with fail
      go_ret2
      exact ⟨HB.out, fun _ => ⟨cb, bb, tb, rfl, by rw [← HQ.out]; exact HS.out⟩, fun h => absurd HR0.out h⟩
set_option maxRecDepth 100000 in
set_option maxHeartbeats 8000000 in
theorem mcheck_c (m : Md) (q : MdQ) (w : World) (hE : EnvM w) (hbk : m.bulk ≤ 1048576) (hat : MdAt w m q) : Calls Tryz.prog 10 #[mdV m q] w (RetBel (.int .i64 (CheckM m)) w) := by
  have HC := Lib.hid fun W (hW : Bel w W) => check_m m q W (hE.bel hW) hbk (hat.bel hW)
  obtain ⟨ia, im, ic, na, nn, nc, ka, kn, kc, da, dn, dc⟩ := q
  unfold mdV mdL at HC ⊢
  dsimp only at HC ⊢
  obtain ⟨V1, h1, q1, l1, s1⟩ := alloc_step w 27 [.string m.id, .string m.nm, .string m.sp, .slice ia im ic, .slice na nn nc, .slice ka kn kc, .slice da dn dc]
  obtain ⟨mb, hmb⟩ : ∃ x, w.heap.size = x := ⟨_, rfl⟩
  rw [hmb] at q1
  have z0 := q1.at 0
  have z1 := q1.at 1
  have z2 := q1.at 2
  have z3 := q1.at 3
  have z4 := q1.at 4
  have z5 := q1.at 5
  have z6 := q1.at 6
  have HV1 := Lib.hid h1
  have HMB := Lib.hid hmb
  have HB := Lib.hid l1
  clear hE hbk hat h1 q1 l1 s1 hmb
  go_enter Tryz.func10, Tryz.ntmps10
  go_upto_region 1 with fail
  rw [show w.alloc (.cells #[.string m.id, .string m.nm, .string m.sp, .slice ia im ic, .slice na nn nc, .slice ka kn kc, .slice da dn dc] 27) = V1 from HV1.out, HMB.out]
  clear HV1
  go_wp2_with fail
  refine (HC.out V1 HB.out).mono ?_
  rintro e1 w1 ⟨hb1, hc0, hc1⟩
  by_cases hz : CheckM m = 0
  · obtain ⟨cb, bb, tb, rfl, _⟩ := hc0 hz
    have HZ := Lib.hid hz
    have HB1 := Lib.hid (HB.out.trans hb1)
    clear hb1 hc0 hc1 hz HC z0 z1 z2 z3 z4 z5 z6
    go_wp2_with fail
    go_ret
    exact ⟨by rw [HZ.out]; rfl, HB1.out⟩
  · have he := hc1 hz
    subst he
    have HB1 := Lib.hid (HB.out.trans hb1)
    obtain ⟨R, hR⟩ : ∃ R, CheckM m = R := ⟨_, rfl⟩
    rw [hR]
    have HRR := Lib.hid hR
    clear hb1 hc0 hc1 hz HC hR z0 z1 z2 z3 z4 z5 z6
    go_wp2_with fail
    go_ret
    exact ⟨ret_int (by rw [HRR.out]), HB1.out⟩
end Go.Proofs.YtbcdbefogfmhfaaGreatDoor
