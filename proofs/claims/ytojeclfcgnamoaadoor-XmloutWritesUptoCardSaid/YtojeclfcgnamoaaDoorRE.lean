/-
  The document's xmlout: the walks of check, Check.
-/
import Derived.Test.YtojeclfcgnamoaaDoorRD
namespace Go.Proofs.YtojeclfcgnamoaaDoor
open Go.RowKit

theorem space6 (s : ByteArray) : (s = nsX ∨ fineS s = false) ↔ (fineS s && !decide (s = nsX)) = false := by
  cases fineS s <;> by_cases h : s = nsX <;> simp [h]
theorem elemS_eq (sp lo tx : ByteArray) (al : List Atr) : elemS sp lo tx al = if decide (tx = ⟨#[]⟩) = false then 2 else if rplainS lo = false then 6 else if (fineS sp && !decide (sp = nsX)) = false then 7 else attrsS [] al := by
  unfold elemS namedS
  rw [plain_same]
  by_cases h1 : tx = ⟨#[]⟩
  · rw [if_neg (fun e => e h1), decide_eq_true h1, if_neg (c := (true = false)) (by simp)]
    by_cases h2 : rplainS lo = false
    · simp [h2]
    · by_cases h3 : sp = nsX ∨ fineS sp = false
      · simp [h2, h3, (space6 sp).1 h3]
      · have h4 : ¬ (fineS sp && !decide (sp = nsX)) = false := fun e => h3 ((space6 sp).2 e)
        rw [if_neg h2, if_neg h2, if_neg (c := (false = true ∧ _)) (fun e => Bool.noConfusion e.1), if_neg h3, if_neg h4, if_neg (fun e => e rfl)]
  · rw [if_pos h1, decide_eq_false h1, if_pos rfl]
theorem attrsS_eq (seen : List (ByteArray × ByteArray)) (x : Atr) (r : List Atr) : attrsS seen (x :: r) = if rplainS x.2.1 = false then 6 else if (decide (x.1 = ⟨#[]⟩) && decide (x.2.1 = nmX)) = true then 2 else if (fineS x.1 && !decide (x.1 = nsX)) = false then 7 else if hasN seen x.1 x.2.1 = true then 8 else if fineS x.2.2 = false then 4 else attrsS (seen ++ [(x.1, x.2.1)]) r := by
  rw [attrsS]
  unfold namedS
  rw [plain_same]
  by_cases h2 : rplainS x.2.1 = false
  · simp [h2]
  · by_cases h5 : x.1 = ⟨#[]⟩ ∧ x.2.1 = nmX
    · have h2' : rplainS nmX = false ↔ False := by rw [← h5.2]; simpa using h2
      simp [h5, h2']
    · have h6 : ¬ ((decide (x.1 = ⟨#[]⟩) && decide (x.2.1 = nmX)) = true) := fun e => by
        simp only [Bool.and_eq_true, decide_eq_true_eq] at e
        exact h5 e
      have h7 : ¬ (True ∧ x.1 = ⟨#[]⟩ ∧ x.2.1 = nmX) := fun e => h5 e.2
      by_cases h3 : x.1 = nsX ∨ fineS x.1 = false
      · rw [if_neg h6, if_pos ((space6 x.1).1 h3)]
        simp [h2, h5, h3]
      · have h4 : ¬ (fineS x.1 && !decide (x.1 = nsX)) = false := fun e => h3 ((space6 x.1).2 e)
        rw [if_neg h6, if_neg h4]
        simp [h2, h5, h3]
theorem hasN_snoc (l : List (ByteArray × ByteArray)) (y a b : ByteArray) (z : ByteArray) : hasN (l ++ [(y, z)]) a b = (hasN l a b || nmEq y z a b) := by
  unfold hasN nmEq
  rw [List.any_append]
  simp [Bool.decide_and]
theorem hasN_of {l : List Atr} {k j : Nat} {y : Atr} {a b : ByteArray} (hy : l[k]? = some y) (hk : k < j) (h : nmEq y.1 y.2.1 a b = true) : hasN ((l.take j).map nmA) a b = true := by
  rw [hasN_iff]
  unfold nmEq at h
  obtain ⟨rfl, rfl⟩ := of_decide_eq_true h
  exact List.mem_map.2 ⟨y, List.mem_of_getElem? (i := k) (by rw [List.getElem?_take, if_pos hk]; exact hy), rfl⟩
/-- May a text stand at a place? Not behind another one. -/
def mayK (l : List Nd) : Nat → Bool
  | 0 => true
  | k + 1 => match l[k]? with
    | some y => !decide (y.lo = ⟨#[]⟩)
    | none => true
theorem mayK_succ {l : List Nd} {k : Nat} {y : Nd} (h : l[k]? = some y) : mayK l (k + 1) = !decide (y.lo = ⟨#[]⟩) := by
  simp only [mayK, h]
theorem mayK_step {l : List Nd} {k : Nat} {x : Nd} (h : l[k]? = some x) (d : Nat) (b : Bool) : chksN (l.drop k) d b = if chkN x d b ≠ 0 then chkN x d b else chksN (l.drop (k + 1)) d (mayK l (k + 1)) := by
  rw [drop_tail h, chksN_cons, mayK_succ h]
  simp
set_option maxRecDepth 100000 in
set_option maxHeartbeats 16000000 in
theorem d6chkF_c (f : Nat) (ih : ∀ (e : Nd), e.bulk ≤ f → ∀ va vk w (deep : Nat) (b : Bool), deep ≤ 201 → NdAt w e va vk → Calls Tryd.prog 17 #[ndV e va vk, .int .i64 deep, .bool b] w (RetBel (.int .i64 (chkN e deep (!b))) w))
    (e : Nd) (hf : e.bulk ≤ f + 1) (hbk : f ≤ 1000000) (va vk : Value) (w : World) (deep : Nat) (bw : Bool) (hdp : deep ≤ 201) (h : NdAt w e va vk) :
    Calls Tryd.prog 17 #[ndV e va vk, .int .i64 deep, .bool bw] w (RetBel (.int .i64 (chkN e deep (!bw))) w) := by
  obtain ⟨aa, ka, an, ac, kn, kc, rfl, rfl, han, hkn, hac, hkc, hab, hkb, hatr, hkid⟩ := h.opened
  have hbe := nd_bulk e
  have HX : Hid (∀ x : Nd, x ∈ e.ks → ∀ xa xk W (b : Bool), deep ≤ 200 → Bel w W → NdAt W x xa xk → Calls Tryd.prog 17 #[ndV x xa xk, .int .i64 (deep + 1 : Nat), .bool b] W (RetBel (.int .i64 (chkN x (deep + 1) (!b))) W)) := Lib.hid fun x hx xa xk W b hd2 hW hN => ih x (by have := nbulks_mem hx; omega) xa xk W (deep + 1) b (by omega) hN
  have HKN := Lib.hid hkn
  have HAN := Lib.hid han
  have HKI := Lib.hid hkid
  have HAT := Lib.hid hatr
  have HAS : Hid (∀ x ∈ e.al, x.1.size ≤ 1073741824 ∧ x.2.1.size ≤ 1073741824 ∧ x.2.2.size ≤ 1073741824) := Lib.hid fun x hx => by have := atr_mem hx; omega
  have HTX := Lib.hid fun W (_ : Bel w W) => d6text_c e.t e.sp e.lo e.tx aa ka an ac kn kc bw (by omega) (by omega) (by omega) W
  have HPL := Lib.hid fun W (_ : Bel w W) => rplain_c e.lo (by omega) W
  have HSP := Lib.hid fun W (_ : Bel w W) => d6space_c e.sp (by omega) W
  have hck := chkN_eq e deep (!bw)
  rw [elemS_eq, han, hkn] at hck
  obtain ⟨R, hR⟩ : ∃ R, chkN e deep (!bw) = R := ⟨_, rfl⟩
  rw [hR] at hck ⊢
  have HCK := Lib.hid hck
  have hkn2 : kn ≤ 1000001 := by omega
  have han2 : an ≤ 1000001 := by omega
  have hlo := lempty e.lo
  have htx := lempty e.tx
  obtain ⟨KS, hKS⟩ : ∃ k, e.ks = k := ⟨_, rfl⟩
  rw [hKS] at HKN HKI HX
  obtain ⟨AL, hAL⟩ : ∃ k, e.al = k := ⟨_, rfl⟩
  rw [hAL] at HAN HAT HAS HCK
  unfold ndV
  obtain ⟨t, ht⟩ : ∃ t, e.t = t := ⟨_, rfl⟩
  obtain ⟨sp, hsp⟩ : ∃ t, e.sp = t := ⟨_, rfl⟩
  obtain ⟨lo, hlo2⟩ : ∃ t, e.lo = t := ⟨_, rfl⟩
  obtain ⟨tx, htx2⟩ : ∃ t, e.tx = t := ⟨_, rfl⟩
  rw [ht, hsp, hlo2, htx2] at HTX
  rw [hlo2] at HPL hlo
  rw [hsp] at HSP
  rw [htx2] at htx
  rw [hsp, hlo2, htx2, hKS] at HCK
  obtain ⟨P, hP⟩ : ∃ k, rplainS lo = k := ⟨_, rfl⟩
  obtain ⟨G, hG⟩ : ∃ k, (fineS sp && !decide (sp = nsX)) = k := ⟨_, rfl⟩
  obtain ⟨TX, hTX⟩ : ∃ k, decide (tx = ⟨#[]⟩) = k := ⟨_, rfl⟩
  rw [hP] at HPL HCK
  rw [hG] at HSP HCK
  rw [hTX] at htx HCK
  rw [ht, hsp, hlo2, htx2]
  obtain ⟨V1, h1, q1, l1, s1⟩ := alloc_step w 27 [.int .i64 t, .string sp, .string lo, .slice aa an ac, .slice ka kn kc, .string tx]
  have c0 := q1.at 0
  have c1 := q1.at 1
  have c2 := q1.at 2
  have c3 := q1.at 3
  have c4 := q1.at 4
  have c5 := q1.at 5
  have L1 := Lib.hid l1
  have HV1 := Lib.hid h1
  have HQ1 := Lib.hid q1
  clear h1 q1 l1 s1 hR hck hatr hkid han hkn hac hkc hab hkb ht hsp hlo2 htx2 hKS hAL hP hG hTX h ih hf hbe hbk
  by_cases hlo0 : lo = ⟨#[]⟩
  · rw [decide_eq_true hlo0] at hlo
    have HC2 : Hid ((if bw = true then 2 else textS6 sp tx an kn) = R) := Lib.hid (by rw [HCK.out, if_neg (c := 200 < deep ∧ lo ≠ ⟨#[]⟩) (fun e => e.2 hlo0), if_pos hlo0]; cases bw <;> rfl)
    rw [HC2.out] at HTX
    clear HCK hlo0 HX HKI HPL HSP HC2 HAT HAS
    by_cases hd : 200 < deep <;>
    · go_enter Tryd.func17, Tryd.ntmps17
      go_upto_region 1 with fail
      rw [show w.alloc (.cells #[.int .i64 t, .string sp, .string lo, .slice aa an ac, .slice ka kn kc, .string tx] 27) = V1 from HV1.out]
      clear HV1
      go_wp2_with fail
      refine (HTX.out _ L1.out).mono ?_
      rintro e1 w1 ⟨rfl, hb1⟩
      go_wp2_with fail
      go_ret
      exact ⟨rfl, L1.out.trans hb1⟩
  · rw [decide_eq_false hlo0] at hlo
    clear HTX
    by_cases hd : 200 < deep
    · have HC2 : Hid (9 = R) := Lib.hid (by rw [HCK.out, if_pos ⟨hd, hlo0⟩])
      clear HCK hlo0 HX HKI HPL HSP HAT HAS
      go_enter Tryd.func17, Tryd.ntmps17
      go_upto_region 1 with fail
      rw [show w.alloc (.cells #[.int .i64 t, .string sp, .string lo, .slice aa an ac, .slice ka kn kc, .string tx] 27) = V1 from HV1.out]
      clear HV1
      go_wp2_with fail
      go_ret
      exact ⟨ret_int (by rw [← HC2.out]; rfl), L1.out⟩
    · have HC2 : Hid ((if (if TX = false then 2 else if P = false then 6 else if G = false then 7 else attrsS [] AL) ≠ 0 then (if TX = false then 2 else if P = false then 6 else if G = false then 7 else attrsS [] AL) else chksN KS (deep + 1) true) = R) := Lib.hid (by rw [HCK.out, if_neg (c := 200 < deep ∧ lo ≠ ⟨#[]⟩) (fun e => hd e.1), if_neg hlo0])
      clear HCK hlo0
      cases TX with
      | false =>
        have HX2 : Hid (2 = R) := Lib.hid HC2.out
        clear HC2 HX HKI HPL HSP HAT HAS
        go_enter Tryd.func17, Tryd.ntmps17
        go_upto_region 1 with fail
        rw [show w.alloc (.cells #[.int .i64 t, .string sp, .string lo, .slice aa an ac, .slice ka kn kc, .string tx] 27) = V1 from HV1.out]
        clear HV1
        go_wp2_with fail
        go_ret
        exact ⟨ret_int (by rw [← HX2.out]; rfl), L1.out⟩
      | true =>
        go_enter Tryd.func17, Tryd.ntmps17
        go_upto_region 1 with fail
        rw [show w.alloc (.cells #[.int .i64 t, .string sp, .string lo, .slice aa an ac, .slice ka kn kc, .string tx] 27) = V1 from HV1.out]
        clear HV1
        go_wp2_with fail
        refine (HPL.out _ L1.out).mono ?_
        rintro e1 w1 ⟨rfl, hb1⟩
        have HB1 := Lib.hid (L1.out.trans hb1)
        have d1 := hb1.keep c1
        have HQ2 := Lib.hid (HQ1.out.bel hb1)
        clear hb1 c0 c1 c2 c3 c4 c5 HPL htx hlo
        cases P with
        | false =>
          have HX2 : Hid (6 = R) := Lib.hid HC2.out
          clear HC2 HX HKI HSP HAT HAS
          go_wp2_with fail
          go_ret
          exact ⟨ret_int (by rw [← HX2.out]; rfl), HB1.out⟩
        | true =>
          go_wp2_with fail
          refine (HSP.out _ HB1.out).mono ?_
          rintro e2 w2 ⟨rfl, hb2⟩
          have HB2 := Lib.hid (HB1.out.trans hb2)
          have HQ3 := Lib.hid (HQ2.out.bel hb2)
          clear hb2 d1 HSP
          cases G with
          | false =>
            have HX2 : Hid (7 = R) := Lib.hid HC2.out
            clear HC2 HX HKI HAT HAS
            go_wp2_with fail
            go_ret
            exact ⟨ret_int (by rw [← HX2.out]; rfl), HB2.out⟩
          | true =>
            have HC3 : Hid ((if attrsS [] AL ≠ 0 then attrsS [] AL else chksN KS (deep + 1) true) = R) := Lib.hid HC2.out
            have d3 := HQ3.out.at 3
            have d4 := HQ3.out.at 4
            clear HC2
            go_wp2_with fail
            go_loopw [7] (fun i wr => ∃ (j : Nat), i = .int .i64 j ∧ j ≤ an ∧ Hid (attrsS ((AL.take j).map nmA) (AL.drop j) = attrsS [] AL) ∧ Hid (Bel w2 wr)) (fun i _ => an - (intOf i).toNat)
            case atStart => exact ⟨0, rfl, Nat.zero_le _, Lib.hid (by rw [List.drop_zero]; rfl), Lib.hid (Bel.refl _)⟩
            case round =>
              obtain ⟨j, rfl, hj, HRJ, HBJ⟩ := hrel
              have f3 := HBJ.out.keep d3
              have f4 := HBJ.out.keep d4
              have HBW := Lib.hid (HB2.out.trans HBJ.out)
              by_cases hlt : j < an
              · have hlti : (j : Int) < an := by omega
                obtain ⟨x, hx⟩ : ∃ x, AL[j]? = some x := ⟨_, List.getElem?_eq_getElem (by have := HAN.out; omega)⟩
                obtain ⟨b, off, rfl, g0, g1, g2⟩ := HAT.out j x hx
                have m0 := HBW.out.keep g0
                have m1 := HBW.out.keep g1
                have m2 := HBW.out.keep g2
                obtain ⟨hz1, hz2, hz3⟩ := HAS.out x (List.mem_of_getElem? hx)
                have htk : (AL.take (j + 1)).map nmA = (AL.take j).map nmA ++ [(x.1, x.2.1)] := by rw [List.take_add_one, hx, List.map_append]; rfl
                have hdr := attrsS_eq ((AL.take j).map nmA) x (AL.drop (j + 1))
                rw [← htk, ← drop_tail hx, HRJ.out] at hdr
                have HP3 := Lib.hid fun W (_ : Bel w W) => rplain_c x.2.1 (by omega) W
                have HS3 := Lib.hid fun W (_ : Bel w W) => d6space_c x.1 (by omega) W
                have HF3 := Lib.hid fun W (_ : Bel w W) => d6fine_c x.2.2 (by omega) W
                obtain ⟨xa, xb, xc⟩ := x
                dsimp only at m0 m1 m2 HP3 HS3 HF3 hdr
                have hq1 := lempty xa
                have hq2 : (xb.toList == [120, 109, 108, 110, 115]) = decide (xb = nmX) := by rw [← lequal xb nmX, Lib.toList_data nmX]; rfl
                obtain ⟨PP, hPP⟩ : ∃ N, rplainS xb = N := ⟨_, rfl⟩
                obtain ⟨Q1, hQ1⟩ : ∃ N, decide (xa = ⟨#[]⟩) = N := ⟨_, rfl⟩
                obtain ⟨Q2, hQ2⟩ : ∃ N, decide (xb = nmX) = N := ⟨_, rfl⟩
                obtain ⟨GG, hGG⟩ : ∃ N, (fineS xa && !decide (xa = nsX)) = N := ⟨_, rfl⟩
                obtain ⟨FF, hFF⟩ : ∃ F, fineS xc = F := ⟨_, rfl⟩
                obtain ⟨NX, hNX⟩ : ∃ N, attrsS ((AL.take (j + 1)).map nmA) (AL.drop (j + 1)) = N := ⟨_, rfl⟩
                obtain ⟨HH, hHH⟩ : ∃ N, hasN ((AL.take j).map nmA) xa xb = N := ⟨_, rfl⟩
                rw [hPP] at HP3 hdr
                rw [hQ1] at hq1 hdr
                rw [hQ2] at hq2 hdr
                rw [hGG] at HS3 hdr
                rw [hFF] at HF3 hdr
                rw [hNX, hHH] at hdr
                have HDR := Lib.hid hdr
                have HNX := Lib.hid hNX
                have HHH := Lib.hid hHH
                obtain ⟨V3, h3, q3, l3, s3⟩ := alloc_step wr 63 [.string xa, .string xb, .string xc]
                have e1 : V3.cell? ⟨wr.heap.size, 1, none⟩ = some (.string xb) := q3.at 1
                have HQ4 := Lib.hid q3
                have HV3 := Lib.hid h3
                have HB3 := Lib.hid (HBJ.out.trans l3)
                clear g0 g1 g2 hx hz1 hz2 hz3 htk hdr h3 q3 l3 s3 hPP hQ1 hQ2 hGG hFF hNX hHH
                go_upto_region 15 with fail
                rw [show wr.alloc (.cells #[.string xa, .string xb, .string xc] 63) = V3 from HV3.out]
                clear HV3
                go_wp2_with fail
                refine (HP3.out _ (HB2.out.trans HB3.out)).mono ?_
                rintro e4 w4 ⟨rfl, hb4⟩
                have HB4 := Lib.hid (HB3.out.trans hb4)
                have HQ5 := Lib.hid (HQ4.out.bel hb4)
                have p0 := HQ5.out.at 0
                have p1 := HQ5.out.at 1
                clear m0 m1 m2 f3 e1 HP3 hb4
                cases PP with
                | false =>
                  have HX2 : Hid (6 = R) := Lib.hid (by have h1 := HC3.out; rw [HDR.out] at h1; exact h1)
                  clear HDR HX HKI HS3 HF3 HAT HAS
                  go_wp2_with fail
                  go_ret
                  exact ⟨ret_int (by rw [← HX2.out]; rfl), HB2.out.trans HB4.out⟩
                | true =>
                  go_upto_region 17 with fail
                  go_cut [66] (fun v wx => v = .bool (Q1 && Q2) ∧ w4 = wx)
                  case first =>
                    cases Q1 <;> cases Q2 <;>
                    · go_wp2_with fail
                      go_meet
                      exact ⟨rfl, rfl⟩
                  case rest =>
                  obtain ⟨rfl, rfl⟩ := hcut
                  obtain ⟨QQ, hQQ⟩ : ∃ N, (Q1 && Q2) = N := ⟨_, rfl⟩
                  have HDR2 := Lib.hid HDR.out
                  rw [hQQ] at HDR2 ⊢
                  clear HDR hQQ hq1 hq2 p1
                  cases QQ with
                  | true =>
                    have HX2 : Hid (2 = R) := Lib.hid (by have h1 := HC3.out; rw [HDR2.out] at h1; exact h1)
                    clear HDR2 HX HKI HS3 HF3 HAT HAS
                    go_wp2_with fail
                    go_ret
                    exact ⟨ret_int (by rw [← HX2.out]; rfl), HB2.out.trans HB4.out⟩
                  | false =>
                    go_wp2_with fail
                    refine (HS3.out _ (HB2.out.trans HB4.out)).mono ?_
                    rintro e5 w5 ⟨rfl, hb5⟩
                    have HB5 := Lib.hid (HB4.out.trans hb5)
                    have HQ6 := Lib.hid (HQ5.out.bel hb5)
                    clear p0 hb5 HS3
                    cases GG with
                    | false =>
                      have HX2 : Hid (7 = R) := Lib.hid (by have h1 := HC3.out; rw [HDR2.out] at h1; exact h1)
                      clear HDR2 HX HKI HF3 HAT HAS
                      go_wp2_with fail
                      go_ret
                      exact ⟨ret_int (by rw [← HX2.out]; rfl), HB2.out.trans HB5.out⟩
                    | true =>
                      obtain ⟨wo, hwo⟩ : ∃ X, X = wr := ⟨_, rfl⟩
                      subst hwo
                      go_wp2_with fail
                      go_loopw [9] (fun i wr => ∃ (k : Nat), i = .int .i64 k ∧ k ≤ j ∧ Hid (hasN ((AL.take k).map nmA) xa xb = false) ∧ Hid (Bel w5 wr)) (fun i _ => j - (intOf i).toNat)
                      case atStart => exact ⟨0, rfl, Nat.zero_le _, Lib.hid rfl, Lib.hid (Bel.refl _)⟩
                      case round =>
                        obtain ⟨k, rfl, hk, HNK, HBK⟩ := hrel
                        have HB6 := Lib.hid (HB5.out.trans HBK.out)
                        by_cases hlk : k < j
                        · have hlki : (k : Int) < j := by omega
                          obtain ⟨y, hy⟩ : ∃ y, AL[k]? = some y := ⟨_, List.getElem?_eq_getElem (by have := HAN.out; omega)⟩
                          obtain ⟨b', off', hbo, g0, g1, g2⟩ := HAT.out k y hy
                          injection hbo with hbo
                          injection hbo with hbo1 hbo2
                          subst hbo1 hbo2
                          have hkan : (k : Int) < an := by omega
                          have hbw6 := HB2.out.trans HB6.out
                          have m0 := hbw6.keep g0
                          have m1 := hbw6.keep g1
                          have z3 := HB6.out.keep d3
                          have hq7 := HQ6.out.bel HBK.out
                          have p0 := hq7.at 0
                          have p1 := hq7.at 1
                          have htk : hasN ((AL.take (k + 1)).map nmA) xa xb = nmEq y.1 y.2.1 xa xb := by
                            rw [List.take_add_one, hy, List.map_append]
                            exact (hasN_snoc _ _ _ _ _).trans (by rw [HNK.out]; rfl)
                          have hof := hasN_of (a := xa) (b := xb) hy hlk
                          rw [HHH.out] at hof
                          have heq := fun W => eql_nm y.1 y.2.1 xa xb W
                          obtain ⟨ya, yb, yc⟩ := y
                          dsimp only at m0 m1 heq htk hof
                          obtain ⟨E, hE⟩ : ∃ E, nmEq ya yb xa xb = E := ⟨_, rfl⟩
                          rw [hE] at heq htk hof
                          have HTK := Lib.hid htk
                          have HOF := Lib.hid hof
                          clear g0 g1 g2 hy hbw6 hq7 htk hof hE
                          cases E with
                          | true =>
                            have HX2 : Hid (8 = R) := Lib.hid (by
                              have h1 := HC3.out
                              have h2 := HDR2.out
                              rw [HOF.out rfl] at h2
                              rw [h2] at h1
                              exact h1)
                            clear HDR2 HX HKI HF3 HAT HAS
                            go_wp2_with fail
                            go_quiet (fail)
                            go_wp2_with fail
                            go_ret
                            exact ⟨ret_int (by rw [← HX2.out]; rfl), by have h1 := HB2.out.trans HB6.out; (repeat (first | exact Bel.refl _ | assumption | refine Bel.to_drewN ?_ _ | refine Bel.to_drew ?_ | refine Bel.to_setCell ?_ (by first | exact Nat.le_refl _ | (simp; done) | (simp; omega) | omega) _ | refine Bel.to_alloc ?_ _ | refine Bel.trans ?_ (by assumption)))⟩
                          | false =>
                            go_wp2_with fail
                            go_quiet (fail)
                            go_wp2_with fail
                            exact ⟨⟨k + 1, by go_num, by omega, HTK, Lib.hid (by have h1 := HBK.out; (repeat (first | exact Bel.refl _ | assumption | refine Bel.to_drewN ?_ _ | refine Bel.to_drew ?_ | refine Bel.to_setCell ?_ (by first | exact Nat.le_refl _ | (simp; done) | (simp; omega) | omega) _ | refine Bel.to_alloc ?_ _ | refine Bel.trans ?_ (by assumption))))⟩, by simp [intOf]; omega⟩
                        · have hlki : ¬ ((k : Int) < j) := by omega
                          obtain rfl : k = j := by omega
                          have HDR3 := Lib.hid HDR2.out
                          have hnh := HNK.out
                          rw [HHH.out] at hnh
                          subst hnh
                          have hq7 := HQ6.out.bel HBK.out
                          have p2 := hq7.at 2
                          have HB7 := Lib.hid (HB2.out.trans HB6.out)
                          clear hq7 HDR2 HNK HHH
                          go_wp2_with fail
                          refine (HF3.out _ HB7.out).mono ?_
                          rintro e6 w6 ⟨rfl, hb6⟩
                          have HB8 := Lib.hid (HB6.out.trans hb6)
                          clear hb6 p2 HF3
                          cases FF with
                          | false =>
                            have HX2 : Hid (4 = R) := Lib.hid (by have h1 := HC3.out; rw [HDR3.out] at h1; exact h1)
                            clear HDR3 HX HKI HAT HAS
                            go_wp2_with fail
                            go_ret
                            exact ⟨ret_int (by rw [← HX2.out]; rfl), HB2.out.trans HB8.out⟩
                          | true =>
                            have HX2 : Hid (attrsS ((AL.take (k + 1)).map nmA) (AL.drop (k + 1)) = attrsS [] AL) := Lib.hid (by rw [HNX.out]; exact HDR3.out.symm)
                            clear HDR3 HX HKI HAT HAS
                            go_wp2_with fail
                            exact ⟨⟨k + 1, by go_num, by omega, HX2, HB8⟩, by simp [intOf]; omega⟩
              · have hlti : ¬ ((j : Int) < an) := by omega
                have HX2 : Hid (chksN KS (deep + 1) true = R) := Lib.hid (by
                  have h1 := HC3.out
                  have h2 := HRJ.out
                  rw [List.drop_eq_nil_of_le (by have := HAN.out; omega), attrsS] at h2
                  rw [← h2] at h1
                  exact h1)
                clear HRJ HC3 HAT HAS
                have d4 := f4
                have HQJ := Lib.hid (HQ3.out.bel HBJ.out)
                obtain ⟨wo, hwo⟩ : ∃ X, X = wr := ⟨_, rfl⟩
                subst hwo
                go_wp2_with fail
                go_loopw [10] (fun i wr => ∃ (k : Nat), i = .int .i64 k ∧ k ≤ kn ∧ Hid (chksN (KS.drop k) (deep + 1) (mayK KS k) = R) ∧ Hid (Bel wo wr)) (fun i _ => kn - (intOf i).toNat)
                case atStart => exact ⟨0, rfl, Nat.zero_le _, Lib.hid (by rw [List.drop_zero]; exact HX2.out), Lib.hid (Bel.refl _)⟩
                case round =>
                  obtain ⟨k, rfl, hk, HNK, HBK⟩ := hrel
                  have z4 := HBK.out.keep f4
                  by_cases hlk : k < kn
                  · have hlki : (k : Int) < kn := by omega
                    obtain ⟨x, hx⟩ : ∃ x, KS[k]? = some x := ⟨_, List.getElem?_eq_getElem (by have := HKN.out; omega)⟩
                    obtain ⟨bb, off, xaa, xan, xac, xka, xkn, xkc, rfl, g0, g1, g2, g3, g4, g5, hxn⟩ := HKI.out k x hx
                    have hbw := HBW.out.trans HBK.out
                    have m0 := hbw.keep g0
                    have m1 := hbw.keep g1
                    have m2 := hbw.keep g2
                    have m3 := hbw.keep g3
                    have m4 := hbw.keep g4
                    have m5 := hbw.keep g5
                    have hdr := mayK_step hx (deep + 1) (mayK KS k)
                    rw [HNK.out] at hdr
                    have HC := Lib.hid fun W (hW : Bel w W) b => HX.out x (List.mem_of_getElem? hx) _ _ W b (by omega) hW (NdAt.bel hW x hxn)
                    unfold ndV at HC
                    have hprev : ∀ m, k = m + 1 → ∃ y lo, KS[m]? = some y ∧ wr.cell? ⟨bb, off + m * 6 + 2, none⟩ = some (.string lo) ∧ mayK KS k = !decide (lo = ⟨#[]⟩) := fun m hm => by
                      obtain ⟨y, hy⟩ : ∃ y, KS[m]? = some y := ⟨_, List.getElem?_eq_getElem (by have := HKN.out; omega)⟩
                      obtain ⟨b2, off2, _, _, _, _, _, _, hbo, _, _, q2, _⟩ := HKI.out m y hy
                      injection hbo with hbo
                      injection hbo with hbo1 hbo2
                      subst hbo1 hbo2
                      exact ⟨y, y.lo, hy, hbw.keep q2, by rw [hm]; exact mayK_succ hy⟩
                    obtain ⟨xt, hxt⟩ : ∃ t, x.t = t := ⟨_, rfl⟩
                    obtain ⟨xsp, hxsp⟩ : ∃ t, x.sp = t := ⟨_, rfl⟩
                    obtain ⟨xlo, hxlo⟩ : ∃ t, x.lo = t := ⟨_, rfl⟩
                    obtain ⟨xtx, hxtx⟩ : ∃ t, x.tx = t := ⟨_, rfl⟩
                    rw [hxt, hxsp, hxlo, hxtx] at HC
                    rw [hxt] at m0
                    rw [hxsp] at m1
                    rw [hxlo] at m2
                    rw [hxtx] at m5
                    have HDR := Lib.hid hdr
                    have HPV := Lib.hid hprev
                    have HBW3 := Lib.hid hbw
                    clear g0 g1 g2 g3 g4 g5 hx hxn hdr hprev hbw hxt hxsp hxlo hxtx HX HKI HNK
                    have hwd : IntKind.i64.wrap ((deep : Int) + 1) = ((deep + 1 : Nat) : Int) := by rw [IntWalk.i64_in _ (by omega)]; omega
                    go_upto_region 31 with fail
                    go_cut [11] (fun v wx => v = .int .i64 (chkN x (deep + 1) (mayK KS k) : Nat) ∧ Bel wr wx)
                    case first =>
                      rcases Nat.eq_zero_or_pos k with hk0 | hk0
                      · have hmk : mayK KS k = true := by rw [hk0]; rfl
                        have HMK := Lib.hid hmk
                        have hki : ¬ (0 : Int) < k := by omega
                        have hdk : decide (0 < k) = false := decide_eq_false (by omega)
                        have hdki : decide ((0 : Int) < k) = false := decide_eq_false hki
                        clear hk0 hmk
                        refine wp_region_held_drew (S := fun w' => Bel wr w') (by kernel_rfl) (by (repeat (first | exact Bel.refl _ | assumption | refine Bel.to_drewN ?_ _ | refine Bel.to_drew ?_ | refine Bel.to_setCell ?_ (by first | exact Nat.le_refl _ | (simp; done) | (simp; omega) | omega) _ | refine Bel.to_alloc ?_ _ | refine Bel.trans ?_ (by assumption)))) (fun hHeld => ?_)
                        refine tk 0 (v := ?_) ?_ ?_
                        rotate_left 1
                        · first
                            | (refine Or.inl ⟨by rfl, ?_⟩; intro w9 hSw; have e9_0 := Bel.keep hSw z4; have e9_1 := Bel.keep hSw m0; have e9_2 := Bel.keep hSw m1; have e9_3 := Bel.keep hSw m2; have e9_4 := Bel.keep hSw m3; have e9_5 := Bel.keep hSw m4; have e9_6 := Bel.keep hSw m5; go_simp; (try with_reducible rfl); done)
                            | (refine Or.inr ⟨by rfl, ?_⟩; rfl)
                        simp only [List.getElem_toArray, List.getElem_cons_zero, Act.put, List.setIfInBounds_toArray, List.set_cons_zero, List.set_cons_succ]
                        refine tk 1 (v := ?_) ?_ ?_
                        rotate_left 1
                        · first
                            | (refine Or.inl ⟨by rfl, ?_⟩; intro w9 hSw; have e9_0 := Bel.keep hSw z4; have e9_1 := Bel.keep hSw m0; have e9_2 := Bel.keep hSw m1; have e9_3 := Bel.keep hSw m2; have e9_4 := Bel.keep hSw m3; have e9_5 := Bel.keep hSw m4; have e9_6 := Bel.keep hSw m5; go_simp; (try with_reducible rfl); done)
                            | (refine Or.inr ⟨by rfl, ?_⟩; rfl)
                        simp only [List.getElem_toArray, List.getElem_cons_succ, List.getElem_cons_zero, Act.put, List.setIfInBounds_toArray, List.set_cons_zero, List.set_cons_succ]
                        refine tk 2 (v := ?_) ?_ ?_
                        rotate_left 1
                        · first
                            | (refine Or.inl ⟨by rfl, ?_⟩; intro w9 hSw; have e9_0 := Bel.keep hSw z4; have e9_1 := Bel.keep hSw m0; have e9_2 := Bel.keep hSw m1; have e9_3 := Bel.keep hSw m2; have e9_4 := Bel.keep hSw m3; have e9_5 := Bel.keep hSw m4; have e9_6 := Bel.keep hSw m5; go_simp; (try with_reducible rfl); done)
                            | (refine Or.inr ⟨by rfl, ?_⟩; rfl)
                        simp only [List.getElem_toArray, List.getElem_cons_succ, List.getElem_cons_zero, Act.put, List.setIfInBounds_toArray, List.set_cons_zero, List.set_cons_succ]
                        refine tk 3 (v := ?_) ?_ ?_
                        rotate_left 1
                        · first
                            | (refine Or.inl ⟨by rfl, ?_⟩; intro w9 hSw; have e9_0 := Bel.keep hSw z4; have e9_1 := Bel.keep hSw m0; have e9_2 := Bel.keep hSw m1; have e9_3 := Bel.keep hSw m2; have e9_4 := Bel.keep hSw m3; have e9_5 := Bel.keep hSw m4; have e9_6 := Bel.keep hSw m5; go_simp; (try with_reducible rfl); done)
                            | (refine Or.inr ⟨by rfl, ?_⟩; rfl)
                        simp only [List.getElem_toArray, List.getElem_cons_succ, List.getElem_cons_zero, Act.put, List.setIfInBounds_toArray, List.set_cons_zero, List.set_cons_succ]
                        refine tk 4 (v := ?_) ?_ ?_
                        rotate_left 1
                        · first
                            | (refine Or.inl ⟨by rfl, ?_⟩; intro w9 hSw; have e9_0 := Bel.keep hSw z4; have e9_1 := Bel.keep hSw m0; have e9_2 := Bel.keep hSw m1; have e9_3 := Bel.keep hSw m2; have e9_4 := Bel.keep hSw m3; have e9_5 := Bel.keep hSw m4; have e9_6 := Bel.keep hSw m5; go_simp; (try with_reducible rfl); done)
                            | (refine Or.inr ⟨by rfl, ?_⟩; rfl)
                        simp only [List.getElem_toArray, List.getElem_cons_succ, List.getElem_cons_zero, Act.put, List.setIfInBounds_toArray, List.set_cons_zero, List.set_cons_succ]
                        refine tk 5 (v := ?_) ?_ ?_
                        rotate_left 1
                        · first
                            | (refine Or.inl ⟨by rfl, ?_⟩; intro w9 hSw; have e9_0 := Bel.keep hSw z4; have e9_1 := Bel.keep hSw m0; have e9_2 := Bel.keep hSw m1; have e9_3 := Bel.keep hSw m2; have e9_4 := Bel.keep hSw m3; have e9_5 := Bel.keep hSw m4; have e9_6 := Bel.keep hSw m5; go_simp; (try with_reducible rfl); done)
                            | (refine Or.inr ⟨by rfl, ?_⟩; rfl)
                        simp only [List.getElem_toArray, List.getElem_cons_succ, List.getElem_cons_zero, Act.put, List.setIfInBounds_toArray, List.set_cons_zero, List.set_cons_succ]
                        refine tk 6 (v := ?_) ?_ ?_
                        rotate_left 1
                        · first
                            | (refine Or.inl ⟨by rfl, ?_⟩; intro w9 hSw; have e9_0 := Bel.keep hSw z4; have e9_1 := Bel.keep hSw m0; have e9_2 := Bel.keep hSw m1; have e9_3 := Bel.keep hSw m2; have e9_4 := Bel.keep hSw m3; have e9_5 := Bel.keep hSw m4; have e9_6 := Bel.keep hSw m5; go_simp; (try with_reducible rfl); done)
                            | (refine Or.inr ⟨by rfl, ?_⟩; rfl)
                        simp only [List.getElem_toArray, List.getElem_cons_succ, List.getElem_cons_zero, Act.put, List.setIfInBounds_toArray, List.set_cons_zero, List.set_cons_succ]
                        refine tk 7 (v := ?_) ?_ ?_
                        rotate_left 1
                        · first
                            | (refine Or.inl ⟨by rfl, ?_⟩; intro w9 hSw; have e9_0 := Bel.keep hSw z4; have e9_1 := Bel.keep hSw m0; have e9_2 := Bel.keep hSw m1; have e9_3 := Bel.keep hSw m2; have e9_4 := Bel.keep hSw m3; have e9_5 := Bel.keep hSw m4; have e9_6 := Bel.keep hSw m5; go_simp; (try with_reducible rfl); done)
                            | (refine Or.inr ⟨by rfl, ?_⟩; rfl)
                        simp only [List.getElem_toArray, List.getElem_cons_succ, List.getElem_cons_zero, Act.put, List.setIfInBounds_toArray, List.set_cons_zero, List.set_cons_succ]
                        refine tk 8 (v := ?_) ?_ ?_
                        rotate_left 1
                        · first
                            | (refine Or.inl ⟨by rfl, ?_⟩; intro w9 hSw; have e9_0 := Bel.keep hSw z4; have e9_1 := Bel.keep hSw m0; have e9_2 := Bel.keep hSw m1; have e9_3 := Bel.keep hSw m2; have e9_4 := Bel.keep hSw m3; have e9_5 := Bel.keep hSw m4; have e9_6 := Bel.keep hSw m5; go_simp; (try with_reducible rfl); done)
                            | (refine Or.inr ⟨by rfl, ?_⟩; rfl)
                        simp only [List.getElem_toArray, List.getElem_cons_succ, List.getElem_cons_zero, Act.put, List.setIfInBounds_toArray, List.set_cons_zero, List.set_cons_succ]
                        refine tk 9 (v := ?_) ?_ ?_
                        rotate_left 1
                        · first
                            | (refine Or.inl ⟨by rfl, ?_⟩; intro w9 hSw; have e9_0 := Bel.keep hSw z4; have e9_1 := Bel.keep hSw m0; have e9_2 := Bel.keep hSw m1; have e9_3 := Bel.keep hSw m2; have e9_4 := Bel.keep hSw m3; have e9_5 := Bel.keep hSw m4; have e9_6 := Bel.keep hSw m5; go_simp; (try with_reducible rfl); done)
                            | (refine Or.inr ⟨by rfl, ?_⟩; rfl)
                        simp only [List.getElem_toArray, List.getElem_cons_succ, List.getElem_cons_zero, Act.put, List.setIfInBounds_toArray, List.set_cons_zero, List.set_cons_succ]
                        refine tk 10 (v := ?_) ?_ ?_
                        rotate_left 1
                        · first
                            | (refine Or.inl ⟨by rfl, ?_⟩; intro w9 hSw; have e9_0 := Bel.keep hSw z4; have e9_1 := Bel.keep hSw m0; have e9_2 := Bel.keep hSw m1; have e9_3 := Bel.keep hSw m2; have e9_4 := Bel.keep hSw m3; have e9_5 := Bel.keep hSw m4; have e9_6 := Bel.keep hSw m5; go_simp; (try with_reducible rfl); done)
                            | (refine Or.inr ⟨by rfl, ?_⟩; rfl)
                        simp only [List.getElem_toArray, List.getElem_cons_succ, List.getElem_cons_zero, Act.put, List.setIfInBounds_toArray, List.set_cons_zero, List.set_cons_succ]
                        refine tk 11 (v := ?_) ?_ ?_
                        rotate_left 1
                        · first
                            | (refine Or.inl ⟨by rfl, ?_⟩; intro w9 hSw; have e9_0 := Bel.keep hSw z4; have e9_1 := Bel.keep hSw m0; have e9_2 := Bel.keep hSw m1; have e9_3 := Bel.keep hSw m2; have e9_4 := Bel.keep hSw m3; have e9_5 := Bel.keep hSw m4; have e9_6 := Bel.keep hSw m5; go_simp; (try with_reducible rfl); done)
                            | (refine Or.inr ⟨by rfl, ?_⟩; rfl)
                        simp only [List.getElem_toArray, List.getElem_cons_succ, List.getElem_cons_zero, Act.put, List.setIfInBounds_toArray, List.set_cons_zero, List.set_cons_succ]
                        refine tk 12 (v := ?_) ?_ ?_
                        rotate_left 1
                        · first
                            | (refine Or.inl ⟨by rfl, ?_⟩; intro w9 hSw; have e9_0 := Bel.keep hSw z4; have e9_1 := Bel.keep hSw m0; have e9_2 := Bel.keep hSw m1; have e9_3 := Bel.keep hSw m2; have e9_4 := Bel.keep hSw m3; have e9_5 := Bel.keep hSw m4; have e9_6 := Bel.keep hSw m5; go_simp; (try with_reducible rfl); done)
                            | (refine Or.inr ⟨by rfl, ?_⟩; rfl)
                        simp only [List.getElem_toArray, List.getElem_cons_succ, List.getElem_cons_zero, Act.put, List.setIfInBounds_toArray, List.set_cons_zero, List.set_cons_succ]
                        refine tk 13 (v := ?_) ?_ ?_
                        rotate_left 1
                        · first
                            | (refine Or.inl ⟨by rfl, ?_⟩; intro w9 hSw; have e9_0 := Bel.keep hSw z4; have e9_1 := Bel.keep hSw m0; have e9_2 := Bel.keep hSw m1; have e9_3 := Bel.keep hSw m2; have e9_4 := Bel.keep hSw m3; have e9_5 := Bel.keep hSw m4; have e9_6 := Bel.keep hSw m5; go_simp; (try with_reducible rfl); done)
                            | (refine Or.inr ⟨by rfl, ?_⟩; rfl)
                        simp only [List.getElem_toArray, List.getElem_cons_succ, List.getElem_cons_zero, Act.put, List.setIfInBounds_toArray, List.set_cons_zero, List.set_cons_succ]
                        refine tk 14 (v := ?_) ?_ ?_
                        rotate_left 1
                        · first
                            | (refine Or.inl ⟨by rfl, ?_⟩; intro w9 hSw; have e9_0 := Bel.keep hSw z4; have e9_1 := Bel.keep hSw m0; have e9_2 := Bel.keep hSw m1; have e9_3 := Bel.keep hSw m2; have e9_4 := Bel.keep hSw m3; have e9_5 := Bel.keep hSw m4; have e9_6 := Bel.keep hSw m5; go_simp; (try with_reducible rfl); done)
                            | (refine Or.inr ⟨by rfl, ?_⟩; rfl)
                        simp only [List.getElem_toArray, List.getElem_cons_succ, List.getElem_cons_zero, Act.put, List.setIfInBounds_toArray, List.set_cons_zero, List.set_cons_succ]
                        refine tk 15 (v := ?_) ?_ ?_
                        rotate_left 1
                        · first
                            | (refine Or.inl ⟨by rfl, ?_⟩; intro w9 hSw; have e9_0 := Bel.keep hSw z4; have e9_1 := Bel.keep hSw m0; have e9_2 := Bel.keep hSw m1; have e9_3 := Bel.keep hSw m2; have e9_4 := Bel.keep hSw m3; have e9_5 := Bel.keep hSw m4; have e9_6 := Bel.keep hSw m5; go_simp; (try with_reducible rfl); done)
                            | (refine Or.inr ⟨by rfl, ?_⟩; rfl)
                        simp only [List.getElem_toArray, List.getElem_cons_succ, List.getElem_cons_zero, Act.put, List.setIfInBounds_toArray, List.set_cons_zero, List.set_cons_succ]
                        refine tk 16 (v := ?_) ?_ ?_
                        rotate_left 1
                        · first
                            | (refine Or.inl ⟨by rfl, ?_⟩; intro w9 hSw; have e9_0 := Bel.keep hSw z4; have e9_1 := Bel.keep hSw m0; have e9_2 := Bel.keep hSw m1; have e9_3 := Bel.keep hSw m2; have e9_4 := Bel.keep hSw m3; have e9_5 := Bel.keep hSw m4; have e9_6 := Bel.keep hSw m5; go_simp; (try with_reducible rfl); done)
                            | (refine Or.inr ⟨by rfl, ?_⟩; rfl)
                        simp only [List.getElem_toArray, List.getElem_cons_succ, List.getElem_cons_zero, Act.put, List.setIfInBounds_toArray, List.set_cons_zero, List.set_cons_succ]
                        refine tk 17 (v := ?_) ?_ ?_
                        rotate_left 1
                        · first
                            | (refine Or.inl ⟨by rfl, ?_⟩; intro w9 hSw; have e9_0 := Bel.keep hSw z4; have e9_1 := Bel.keep hSw m0; have e9_2 := Bel.keep hSw m1; have e9_3 := Bel.keep hSw m2; have e9_4 := Bel.keep hSw m3; have e9_5 := Bel.keep hSw m4; have e9_6 := Bel.keep hSw m5; go_simp; (try with_reducible rfl); done)
                            | (refine Or.inr ⟨by rfl, ?_⟩; rfl)
                        simp only [List.getElem_toArray, List.getElem_cons_succ, List.getElem_cons_zero, Act.put, List.setIfInBounds_toArray, List.set_cons_zero, List.set_cons_succ]
                        refine tk 18 (v := ?_) ?_ ?_
                        rotate_left 1
                        · first
                            | (refine Or.inl ⟨by rfl, ?_⟩; intro w9 hSw; have e9_0 := Bel.keep hSw z4; have e9_1 := Bel.keep hSw m0; have e9_2 := Bel.keep hSw m1; have e9_3 := Bel.keep hSw m2; have e9_4 := Bel.keep hSw m3; have e9_5 := Bel.keep hSw m4; have e9_6 := Bel.keep hSw m5; go_simp; (try with_reducible rfl); done)
                            | (refine Or.inr ⟨by rfl, ?_⟩; rfl)
                        simp only [List.getElem_toArray, List.getElem_cons_succ, List.getElem_cons_zero, Act.put, List.setIfInBounds_toArray, List.set_cons_zero, List.set_cons_succ]
                        refine tk 19 (v := ?_) ?_ ?_
                        rotate_left 1
                        · first
                            | (refine Or.inl ⟨by rfl, ?_⟩; intro w9 hSw; have e9_0 := Bel.keep hSw z4; have e9_1 := Bel.keep hSw m0; have e9_2 := Bel.keep hSw m1; have e9_3 := Bel.keep hSw m2; have e9_4 := Bel.keep hSw m3; have e9_5 := Bel.keep hSw m4; have e9_6 := Bel.keep hSw m5; go_simp; (try with_reducible rfl); done)
                            | (refine Or.inr ⟨by rfl, ?_⟩; rfl)
                        simp only [List.getElem_toArray, List.getElem_cons_succ, List.getElem_cons_zero, Act.put, List.setIfInBounds_toArray, List.set_cons_zero, List.set_cons_succ]
                        refine wpAnyH_ready (rs := [20]) (by kernel_rfl) (by simp) ?_
                        refine AllReadyH.cons (o := _) rfl (fun K hK => ?_) AllReadyH.nil
                        go_simp
                        refine (HC.out _ (HBW3.out.trans (by (repeat (first | exact Bel.refl _ | assumption | refine Bel.to_drewN ?_ _ | refine Bel.to_drew ?_ | refine Bel.to_setCell ?_ (by first | exact Nat.le_refl _ | (simp; done) | (simp; omega) | omega) _ | refine Bel.to_alloc ?_ _ | refine Bel.trans ?_ (by assumption))))) false).mono ?_
                        rintro e6 w6 ⟨rfl, hb6⟩
                        dsimp only
                        have hr6 : Bel wr w6 := by (repeat (first | exact Bel.refl _ | assumption | refine Bel.to_drewN ?_ _ | refine Bel.to_drew ?_ | refine Bel.to_setCell ?_ (by first | exact Nat.le_refl _ | (simp; done) | (simp; omega) | omega) _ | refine Bel.to_alloc ?_ _ | refine Bel.trans ?_ (by assumption)))
                        refine hK.out _ _ hr6 (fun hHeld => ?_)
                        clear hK K
                        refine tk 21 (v := ?_) ?_ ?_
                        rotate_left 1
                        · first
                            | (refine Or.inl ⟨by rfl, ?_⟩; intro w9 hSw; go_simp; (try with_reducible rfl); done)
                            | (refine Or.inr ⟨by rfl, ?_⟩; rfl)
                        simp only [List.getElem_toArray, List.getElem_cons_succ, List.getElem_cons_zero, Act.put, List.setIfInBounds_toArray, List.set_cons_zero, List.set_cons_succ]
                        refine wpAnyH_done (by kernel_rfl) ?_ _
                        go_wp2_with fail
                        go_meet
                        exact ⟨by rw [HMK.out], hr6⟩
                      · obtain ⟨m, hm⟩ : ∃ m, k = m + 1 := ⟨k - 1, by omega⟩
                        obtain ⟨y, ylo, _, q2, hmk⟩ := HPV.out m hm
                        have hylo := lempty ylo
                        obtain ⟨YL, hYL⟩ : ∃ N, decide (ylo = ⟨#[]⟩) = N := ⟨_, rfl⟩
                        rw [hYL] at hylo hmk
                        have HMK := Lib.hid hmk
                        have hki : (0 : Int) < k := by omega
                        have hdk : decide (0 < k) = true := decide_eq_true hk0
                        have hdki : decide ((0 : Int) < k) = true := decide_eq_true hki
                        have hwm : IntKind.i64.wrap ((k : Int) - 1) = m := by rw [IntWalk.i64_in _ (by omega)]; omega
                        have hwm2 : IntKind.i64.wrap (m : Int) = m := IntWalk.i64_in _ (by omega)
                        have hmk2 : m ≤ k := by omega
                        have hmk3 : (m : Int) < kn := by omega
                        clear hm hYL hmk
                        refine wp_region_held_drew (S := fun w' => Bel wr w') (by kernel_rfl) (by (repeat (first | exact Bel.refl _ | assumption | refine Bel.to_drewN ?_ _ | refine Bel.to_drew ?_ | refine Bel.to_setCell ?_ (by first | exact Nat.le_refl _ | (simp; done) | (simp; omega) | omega) _ | refine Bel.to_alloc ?_ _ | refine Bel.trans ?_ (by assumption)))) (fun hHeld => ?_)
                        refine tk 0 (v := ?_) ?_ ?_
                        rotate_left 1
                        · first
                            | (refine Or.inl ⟨by rfl, ?_⟩; intro w9 hSw; have e9_0 := Bel.keep hSw z4; have e9_1 := Bel.keep hSw m0; have e9_2 := Bel.keep hSw m1; have e9_3 := Bel.keep hSw m2; have e9_4 := Bel.keep hSw m3; have e9_5 := Bel.keep hSw m4; have e9_6 := Bel.keep hSw m5; have e9_7 := Bel.keep hSw q2; go_simp; (try with_reducible rfl); done)
                            | (refine Or.inr ⟨by rfl, ?_⟩; rfl)
                        simp only [List.getElem_toArray, List.getElem_cons_zero, Act.put, List.setIfInBounds_toArray, List.set_cons_zero, List.set_cons_succ]
                        refine tk 1 (v := ?_) ?_ ?_
                        rotate_left 1
                        · first
                            | (refine Or.inl ⟨by rfl, ?_⟩; intro w9 hSw; have e9_0 := Bel.keep hSw z4; have e9_1 := Bel.keep hSw m0; have e9_2 := Bel.keep hSw m1; have e9_3 := Bel.keep hSw m2; have e9_4 := Bel.keep hSw m3; have e9_5 := Bel.keep hSw m4; have e9_6 := Bel.keep hSw m5; have e9_7 := Bel.keep hSw q2; go_simp; (try with_reducible rfl); done)
                            | (refine Or.inr ⟨by rfl, ?_⟩; rfl)
                        simp only [List.getElem_toArray, List.getElem_cons_succ, List.getElem_cons_zero, Act.put, List.setIfInBounds_toArray, List.set_cons_zero, List.set_cons_succ]
                        refine tk 2 (v := ?_) ?_ ?_
                        rotate_left 1
                        · first
                            | (refine Or.inl ⟨by rfl, ?_⟩; intro w9 hSw; have e9_0 := Bel.keep hSw z4; have e9_1 := Bel.keep hSw m0; have e9_2 := Bel.keep hSw m1; have e9_3 := Bel.keep hSw m2; have e9_4 := Bel.keep hSw m3; have e9_5 := Bel.keep hSw m4; have e9_6 := Bel.keep hSw m5; have e9_7 := Bel.keep hSw q2; go_simp; (try with_reducible rfl); done)
                            | (refine Or.inr ⟨by rfl, ?_⟩; rfl)
                        simp only [List.getElem_toArray, List.getElem_cons_succ, List.getElem_cons_zero, Act.put, List.setIfInBounds_toArray, List.set_cons_zero, List.set_cons_succ]
                        refine tk 3 (v := ?_) ?_ ?_
                        rotate_left 1
                        · first
                            | (refine Or.inl ⟨by rfl, ?_⟩; intro w9 hSw; have e9_0 := Bel.keep hSw z4; have e9_1 := Bel.keep hSw m0; have e9_2 := Bel.keep hSw m1; have e9_3 := Bel.keep hSw m2; have e9_4 := Bel.keep hSw m3; have e9_5 := Bel.keep hSw m4; have e9_6 := Bel.keep hSw m5; have e9_7 := Bel.keep hSw q2; go_simp; (try with_reducible rfl); done)
                            | (refine Or.inr ⟨by rfl, ?_⟩; rfl)
                        simp only [List.getElem_toArray, List.getElem_cons_succ, List.getElem_cons_zero, Act.put, List.setIfInBounds_toArray, List.set_cons_zero, List.set_cons_succ]
                        refine tk 4 (v := ?_) ?_ ?_
                        rotate_left 1
                        · first
                            | (refine Or.inl ⟨by rfl, ?_⟩; intro w9 hSw; have e9_0 := Bel.keep hSw z4; have e9_1 := Bel.keep hSw m0; have e9_2 := Bel.keep hSw m1; have e9_3 := Bel.keep hSw m2; have e9_4 := Bel.keep hSw m3; have e9_5 := Bel.keep hSw m4; have e9_6 := Bel.keep hSw m5; have e9_7 := Bel.keep hSw q2; go_simp; (try with_reducible rfl); done)
                            | (refine Or.inr ⟨by rfl, ?_⟩; rfl)
                        simp only [List.getElem_toArray, List.getElem_cons_succ, List.getElem_cons_zero, Act.put, List.setIfInBounds_toArray, List.set_cons_zero, List.set_cons_succ]
                        refine tk 5 (v := ?_) ?_ ?_
                        rotate_left 1
                        · first
                            | (refine Or.inl ⟨by rfl, ?_⟩; intro w9 hSw; have e9_0 := Bel.keep hSw z4; have e9_1 := Bel.keep hSw m0; have e9_2 := Bel.keep hSw m1; have e9_3 := Bel.keep hSw m2; have e9_4 := Bel.keep hSw m3; have e9_5 := Bel.keep hSw m4; have e9_6 := Bel.keep hSw m5; have e9_7 := Bel.keep hSw q2; go_simp; (try with_reducible rfl); done)
                            | (refine Or.inr ⟨by rfl, ?_⟩; rfl)
                        simp only [List.getElem_toArray, List.getElem_cons_succ, List.getElem_cons_zero, Act.put, List.setIfInBounds_toArray, List.set_cons_zero, List.set_cons_succ]
                        refine tk 6 (v := ?_) ?_ ?_
                        rotate_left 1
                        · first
                            | (refine Or.inl ⟨by rfl, ?_⟩; intro w9 hSw; have e9_0 := Bel.keep hSw z4; have e9_1 := Bel.keep hSw m0; have e9_2 := Bel.keep hSw m1; have e9_3 := Bel.keep hSw m2; have e9_4 := Bel.keep hSw m3; have e9_5 := Bel.keep hSw m4; have e9_6 := Bel.keep hSw m5; have e9_7 := Bel.keep hSw q2; go_simp; (try with_reducible rfl); done)
                            | (refine Or.inr ⟨by rfl, ?_⟩; rfl)
                        simp only [List.getElem_toArray, List.getElem_cons_succ, List.getElem_cons_zero, Act.put, List.setIfInBounds_toArray, List.set_cons_zero, List.set_cons_succ]
                        refine tk 7 (v := ?_) ?_ ?_
                        rotate_left 1
                        · first
                            | (refine Or.inl ⟨by rfl, ?_⟩; intro w9 hSw; have e9_0 := Bel.keep hSw z4; have e9_1 := Bel.keep hSw m0; have e9_2 := Bel.keep hSw m1; have e9_3 := Bel.keep hSw m2; have e9_4 := Bel.keep hSw m3; have e9_5 := Bel.keep hSw m4; have e9_6 := Bel.keep hSw m5; have e9_7 := Bel.keep hSw q2; go_simp; (try with_reducible rfl); done)
                            | (refine Or.inr ⟨by rfl, ?_⟩; rfl)
                        simp only [List.getElem_toArray, List.getElem_cons_succ, List.getElem_cons_zero, Act.put, List.setIfInBounds_toArray, List.set_cons_zero, List.set_cons_succ]
                        refine tk 8 (v := ?_) ?_ ?_
                        rotate_left 1
                        · first
                            | (refine Or.inl ⟨by rfl, ?_⟩; intro w9 hSw; have e9_0 := Bel.keep hSw z4; have e9_1 := Bel.keep hSw m0; have e9_2 := Bel.keep hSw m1; have e9_3 := Bel.keep hSw m2; have e9_4 := Bel.keep hSw m3; have e9_5 := Bel.keep hSw m4; have e9_6 := Bel.keep hSw m5; have e9_7 := Bel.keep hSw q2; go_simp; (try with_reducible rfl); done)
                            | (refine Or.inr ⟨by rfl, ?_⟩; rfl)
                        simp only [List.getElem_toArray, List.getElem_cons_succ, List.getElem_cons_zero, Act.put, List.setIfInBounds_toArray, List.set_cons_zero, List.set_cons_succ]
                        refine tk 9 (v := ?_) ?_ ?_
                        rotate_left 1
                        · first
                            | (refine Or.inl ⟨by rfl, ?_⟩; intro w9 hSw; have e9_0 := Bel.keep hSw z4; have e9_1 := Bel.keep hSw m0; have e9_2 := Bel.keep hSw m1; have e9_3 := Bel.keep hSw m2; have e9_4 := Bel.keep hSw m3; have e9_5 := Bel.keep hSw m4; have e9_6 := Bel.keep hSw m5; have e9_7 := Bel.keep hSw q2; go_simp; (try with_reducible rfl); done)
                            | (refine Or.inr ⟨by rfl, ?_⟩; rfl)
                        simp only [List.getElem_toArray, List.getElem_cons_succ, List.getElem_cons_zero, Act.put, List.setIfInBounds_toArray, List.set_cons_zero, List.set_cons_succ]
                        refine tk 10 (v := ?_) ?_ ?_
                        rotate_left 1
                        · first
                            | (refine Or.inl ⟨by rfl, ?_⟩; intro w9 hSw; have e9_0 := Bel.keep hSw z4; have e9_1 := Bel.keep hSw m0; have e9_2 := Bel.keep hSw m1; have e9_3 := Bel.keep hSw m2; have e9_4 := Bel.keep hSw m3; have e9_5 := Bel.keep hSw m4; have e9_6 := Bel.keep hSw m5; have e9_7 := Bel.keep hSw q2; go_simp; (try with_reducible rfl); done)
                            | (refine Or.inr ⟨by rfl, ?_⟩; rfl)
                        simp only [List.getElem_toArray, List.getElem_cons_succ, List.getElem_cons_zero, Act.put, List.setIfInBounds_toArray, List.set_cons_zero, List.set_cons_succ]
                        refine tk 11 (v := ?_) ?_ ?_
                        rotate_left 1
                        · first
                            | (refine Or.inl ⟨by rfl, ?_⟩; intro w9 hSw; have e9_0 := Bel.keep hSw z4; have e9_1 := Bel.keep hSw m0; have e9_2 := Bel.keep hSw m1; have e9_3 := Bel.keep hSw m2; have e9_4 := Bel.keep hSw m3; have e9_5 := Bel.keep hSw m4; have e9_6 := Bel.keep hSw m5; have e9_7 := Bel.keep hSw q2; go_simp; (try with_reducible rfl); done)
                            | (refine Or.inr ⟨by rfl, ?_⟩; rfl)
                        simp only [List.getElem_toArray, List.getElem_cons_succ, List.getElem_cons_zero, Act.put, List.setIfInBounds_toArray, List.set_cons_zero, List.set_cons_succ]
                        refine tk 12 (v := ?_) ?_ ?_
                        rotate_left 1
                        · first
                            | (refine Or.inl ⟨by rfl, ?_⟩; intro w9 hSw; have e9_0 := Bel.keep hSw z4; have e9_1 := Bel.keep hSw m0; have e9_2 := Bel.keep hSw m1; have e9_3 := Bel.keep hSw m2; have e9_4 := Bel.keep hSw m3; have e9_5 := Bel.keep hSw m4; have e9_6 := Bel.keep hSw m5; have e9_7 := Bel.keep hSw q2; go_simp; (try with_reducible rfl); done)
                            | (refine Or.inr ⟨by rfl, ?_⟩; rfl)
                        simp only [List.getElem_toArray, List.getElem_cons_succ, List.getElem_cons_zero, Act.put, List.setIfInBounds_toArray, List.set_cons_zero, List.set_cons_succ]
                        refine tk 13 (v := ?_) ?_ ?_
                        rotate_left 1
                        · first
                            | (refine Or.inl ⟨by rfl, ?_⟩; intro w9 hSw; have e9_0 := Bel.keep hSw z4; have e9_1 := Bel.keep hSw m0; have e9_2 := Bel.keep hSw m1; have e9_3 := Bel.keep hSw m2; have e9_4 := Bel.keep hSw m3; have e9_5 := Bel.keep hSw m4; have e9_6 := Bel.keep hSw m5; have e9_7 := Bel.keep hSw q2; go_simp; (try with_reducible rfl); done)
                            | (refine Or.inr ⟨by rfl, ?_⟩; rfl)
                        simp only [List.getElem_toArray, List.getElem_cons_succ, List.getElem_cons_zero, Act.put, List.setIfInBounds_toArray, List.set_cons_zero, List.set_cons_succ]
                        refine tk 14 (v := ?_) ?_ ?_
                        rotate_left 1
                        · first
                            | (refine Or.inl ⟨by rfl, ?_⟩; intro w9 hSw; have e9_0 := Bel.keep hSw z4; have e9_1 := Bel.keep hSw m0; have e9_2 := Bel.keep hSw m1; have e9_3 := Bel.keep hSw m2; have e9_4 := Bel.keep hSw m3; have e9_5 := Bel.keep hSw m4; have e9_6 := Bel.keep hSw m5; have e9_7 := Bel.keep hSw q2; go_simp; (try with_reducible rfl); done)
                            | (refine Or.inr ⟨by rfl, ?_⟩; rfl)
                        simp only [List.getElem_toArray, List.getElem_cons_succ, List.getElem_cons_zero, Act.put, List.setIfInBounds_toArray, List.set_cons_zero, List.set_cons_succ]
                        refine tk 15 (v := ?_) ?_ ?_
                        rotate_left 1
                        · first
                            | (refine Or.inl ⟨by rfl, ?_⟩; intro w9 hSw; have e9_0 := Bel.keep hSw z4; have e9_1 := Bel.keep hSw m0; have e9_2 := Bel.keep hSw m1; have e9_3 := Bel.keep hSw m2; have e9_4 := Bel.keep hSw m3; have e9_5 := Bel.keep hSw m4; have e9_6 := Bel.keep hSw m5; have e9_7 := Bel.keep hSw q2; go_simp; (try with_reducible rfl); done)
                            | (refine Or.inr ⟨by rfl, ?_⟩; rfl)
                        simp only [List.getElem_toArray, List.getElem_cons_succ, List.getElem_cons_zero, Act.put, List.setIfInBounds_toArray, List.set_cons_zero, List.set_cons_succ]
                        refine tk 16 (v := ?_) ?_ ?_
                        rotate_left 1
                        · first
                            | (refine Or.inl ⟨by rfl, ?_⟩; intro w9 hSw; have e9_0 := Bel.keep hSw z4; have e9_1 := Bel.keep hSw m0; have e9_2 := Bel.keep hSw m1; have e9_3 := Bel.keep hSw m2; have e9_4 := Bel.keep hSw m3; have e9_5 := Bel.keep hSw m4; have e9_6 := Bel.keep hSw m5; have e9_7 := Bel.keep hSw q2; go_simp; (try with_reducible rfl); done)
                            | (refine Or.inr ⟨by rfl, ?_⟩; rfl)
                        simp only [List.getElem_toArray, List.getElem_cons_succ, List.getElem_cons_zero, Act.put, List.setIfInBounds_toArray, List.set_cons_zero, List.set_cons_succ]
                        refine tk 17 (v := ?_) ?_ ?_
                        rotate_left 1
                        · first
                            | (refine Or.inl ⟨by rfl, ?_⟩; intro w9 hSw; have e9_0 := Bel.keep hSw z4; have e9_1 := Bel.keep hSw m0; have e9_2 := Bel.keep hSw m1; have e9_3 := Bel.keep hSw m2; have e9_4 := Bel.keep hSw m3; have e9_5 := Bel.keep hSw m4; have e9_6 := Bel.keep hSw m5; have e9_7 := Bel.keep hSw q2; go_simp; (try with_reducible rfl); done)
                            | (refine Or.inr ⟨by rfl, ?_⟩; rfl)
                        simp only [List.getElem_toArray, List.getElem_cons_succ, List.getElem_cons_zero, Act.put, List.setIfInBounds_toArray, List.set_cons_zero, List.set_cons_succ]
                        refine tk 18 (v := ?_) ?_ ?_
                        rotate_left 1
                        · first
                            | (refine Or.inl ⟨by rfl, ?_⟩; intro w9 hSw; have e9_0 := Bel.keep hSw z4; have e9_1 := Bel.keep hSw m0; have e9_2 := Bel.keep hSw m1; have e9_3 := Bel.keep hSw m2; have e9_4 := Bel.keep hSw m3; have e9_5 := Bel.keep hSw m4; have e9_6 := Bel.keep hSw m5; have e9_7 := Bel.keep hSw q2; go_simp; (try with_reducible rfl); done)
                            | (refine Or.inr ⟨by rfl, ?_⟩; rfl)
                        simp only [List.getElem_toArray, List.getElem_cons_succ, List.getElem_cons_zero, Act.put, List.setIfInBounds_toArray, List.set_cons_zero, List.set_cons_succ]
                        refine tk 19 (v := ?_) ?_ ?_
                        rotate_left 1
                        · first
                            | (refine Or.inl ⟨by rfl, ?_⟩; intro w9 hSw; have e9_0 := Bel.keep hSw z4; have e9_1 := Bel.keep hSw m0; have e9_2 := Bel.keep hSw m1; have e9_3 := Bel.keep hSw m2; have e9_4 := Bel.keep hSw m3; have e9_5 := Bel.keep hSw m4; have e9_6 := Bel.keep hSw m5; have e9_7 := Bel.keep hSw q2; go_simp; (try with_reducible rfl); done)
                            | (refine Or.inr ⟨by rfl, ?_⟩; rfl)
                        simp only [List.getElem_toArray, List.getElem_cons_succ, List.getElem_cons_zero, Act.put, List.setIfInBounds_toArray, List.set_cons_zero, List.set_cons_succ]
                        refine wpAnyH_ready (rs := [20]) (by kernel_rfl) (by simp) ?_
                        refine AllReadyH.cons (o := _) rfl (fun K hK => ?_) AllReadyH.nil
                        go_simp
                        refine (HC.out _ (HBW3.out.trans (by (repeat (first | exact Bel.refl _ | assumption | refine Bel.to_drewN ?_ _ | refine Bel.to_drew ?_ | refine Bel.to_setCell ?_ (by first | exact Nat.le_refl _ | (simp; done) | (simp; omega) | omega) _ | refine Bel.to_alloc ?_ _ | refine Bel.trans ?_ (by assumption))))) YL).mono ?_
                        rintro e6 w6 ⟨rfl, hb6⟩
                        dsimp only
                        have hr6 : Bel wr w6 := by (repeat (first | exact Bel.refl _ | assumption | refine Bel.to_drewN ?_ _ | refine Bel.to_drew ?_ | refine Bel.to_setCell ?_ (by first | exact Nat.le_refl _ | (simp; done) | (simp; omega) | omega) _ | refine Bel.to_alloc ?_ _ | refine Bel.trans ?_ (by assumption)))
                        refine hK.out _ _ hr6 (fun hHeld => ?_)
                        clear hK K
                        refine tk 21 (v := ?_) ?_ ?_
                        rotate_left 1
                        · first
                            | (refine Or.inl ⟨by rfl, ?_⟩; intro w9 hSw; go_simp; (try with_reducible rfl); done)
                            | (refine Or.inr ⟨by rfl, ?_⟩; rfl)
                        simp only [List.getElem_toArray, List.getElem_cons_succ, List.getElem_cons_zero, Act.put, List.setIfInBounds_toArray, List.set_cons_zero, List.set_cons_succ]
                        refine wpAnyH_done (by kernel_rfl) ?_ _
                        go_wp2_with fail
                        go_meet
                        exact ⟨by rw [HMK.out], hr6⟩
                    case rest =>
                    obtain ⟨rfl, hbc⟩ := hcut
                    generalize wc = w6 at hbc ⊢
                    have HB6 := Lib.hid (HBK.out.trans hbc)
                    obtain ⟨N, hN⟩ : ∃ N, chkN x (deep + 1) (mayK KS k) = N := ⟨_, rfl⟩
                    have HDR2 := Lib.hid HDR.out
                    rw [hN] at HDR2 ⊢
                    clear hbc hN HDR HPV HC m0 m1 m2 m3 m4 m5 z4 HBW3
                    by_cases hk : N = 0
                    · subst hk
                      have HR4 : Hid (chksN (KS.drop (k + 1)) (deep + 1) (mayK KS (k + 1)) = R) := Lib.hid (by rw [HDR2.out]; rfl)
                      clear HDR2
                      go_wp2_with fail
                      exact ⟨⟨k + 1, by go_num, by omega, HR4, HB6⟩, by simp [intOf]; omega⟩
                    · have hk2 : ((N : Int) == 0) = false := by simpa using hk
                      have hk3 : ((N : Int) != 0) = true := by simpa using hk
                      have HR4 : Hid (N = R) := Lib.hid (by have := HDR2.out; rw [if_pos hk] at this; exact this.symm)
                      clear hk HDR2
                      go_wp2_with fail
                      go_ret
                      exact ⟨ret_int (by rw [HR4.out]), HBW.out.trans HB6.out⟩
                  · have hlki : ¬ ((k : Int) < kn) := by omega
                    have HR4 : Hid (0 = R) := Lib.hid (by have := HNK.out; rwa [List.drop_eq_nil_of_le (by have := HKN.out; omega), chksN_nil] at this)
                    clear HNK
                    go_wp2_with fail
                    go_ret
                    exact ⟨ret_int (by rw [← HR4.out]; rfl), HBW.out.trans HBK.out⟩
theorem d6chk_c : ∀ (f : Nat) (e : Nd), e.bulk ≤ f → f ≤ 1000000 → ∀ va vk w (deep : Nat) (b : Bool), deep ≤ 201 → NdAt w e va vk → Calls Tryd.prog 17 #[ndV e va vk, .int .i64 deep, .bool b] w (RetBel (.int .i64 (chkN e deep (!b))) w) := by
  intro f
  induction f with
  | zero => intro e he; have := nd_pos e; omega
  | succ f ih => exact fun e he hf va vk w deep b hd h => d6chkF_c f (fun e' he' va' vk' w' d' m' hd' h' => ih e' he' (by omega) va' vk' w' d' m' hd' h') e he (by omega) va vk w deep b hd h
set_option maxRecDepth 100000 in
set_option maxHeartbeats 4000000 in
theorem d6Check_c (e : Nd) (va vk : Value) (w : World) (he : e.bulk ≤ 1000000) (h : NdAt w e va vk) : Calls Tryd.prog 8 #[ndV e va vk] w (RetBel (.int .i64 (CheckN e)) w) := by
  have HC := Lib.hid fun W (hW : Bel w W) => d6chk_c e.bulk e (Nat.le_refl _) he va vk W 1 true (by omega) (NdAt.bel hW e h)
  obtain ⟨aa, ka, an, ac, kn, kc, rfl, rfl, _⟩ := h.opened
  unfold CheckN
  obtain ⟨R, hR⟩ : ∃ R, chkN e 1 false = R := ⟨_, rfl⟩
  rw [show (!true) = false from rfl, hR] at HC
  rw [hR]
  unfold ndV at HC ⊢
  obtain ⟨V1, h1, q1, l1, s1⟩ := alloc_step w 27 [.int .i64 e.t, .string e.sp, .string e.lo, .slice aa an ac, .slice ka kn kc, .string e.tx]
  have c0 := q1.at 0
  have c1 := q1.at 1
  have c2 := q1.at 2
  have c3 := q1.at 3
  have c4 := q1.at 4
  have c5 := q1.at 5
  have L1 := Lib.hid l1
  have HV1 := Lib.hid h1
  clear h1 q1 l1 s1 hR h
  go_enter Tryd.func8, Tryd.ntmps8
  go_upto_region 1 with fail
  rw [show w.alloc (.cells #[.int .i64 e.t, .string e.sp, .string e.lo, .slice aa an ac, .slice ka kn kc, .string e.tx] 27) = V1 from HV1.out]
  clear HV1
  go_wp2_with fail
  refine (HC.out _ L1.out).mono ?_
  rintro e1 w1 ⟨rfl, hb1⟩
  go_wp2_with fail
  go_ret
  exact ⟨rfl, L1.out.trans hb1⟩
end Go.Proofs.YtojeclfcgnamoaaDoor
