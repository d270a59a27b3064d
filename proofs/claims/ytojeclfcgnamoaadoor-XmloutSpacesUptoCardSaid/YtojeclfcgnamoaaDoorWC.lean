/-
  xmlout: the walks of check, Check.
-/
import Derived.Test.YtojeclfcgnamoaaDoorWB
namespace Go.Proofs.YtojeclfcgnamoaaDoor
open Go.RowKit

theorem kid_tail {e x : Nd} {i : Nat} (h : e.ks[i]? = some x) : e.ks.drop i = x :: e.ks.drop (i + 1) := by
  obtain ⟨hi, rfl⟩ := List.getElem?_eq_some_iff.1 h
  exact List.drop_eq_getElem_cons hi
set_option maxRecDepth 100000 in
set_option maxHeartbeats 8000000 in
theorem xchkF_c (f : Nat) (ih : ∀ (e : Nd), e.bulk ≤ f → ∀ va vk w (deep : Nat) (may : Bool), deep ≤ 201 → Env w → NdAt w e va vk → Calls Tryd.prog 22 #[ndV e va vk, .int .i64 deep, .bool may] w (RetBel (.int .i64 (chkN e deep may)) w))
    (e : Nd) (hf : e.bulk ≤ f + 1) (hbk : f ≤ 1000000) (va vk : Value) (w : World) (deep : Nat) (may : Bool) (hdp : deep ≤ 201) (hE : Env w) (h : NdAt w e va vk) :
    Calls Tryd.prog 22 #[ndV e va vk, .int .i64 deep, .bool may] w (RetBel (.int .i64 (chkN e deep may)) w) := by
  obtain ⟨aa, ka, an, ac, kn, kc, rfl, rfl, han, hkn, hac, hkc, hab, hkb, hatr, hkid⟩ := h.opened
  have hbe := nd_bulk e
  have HX : Hid (∀ x : Nd, x ∈ e.ks → ∀ xa xk W (b : Bool), deep ≤ 200 → Bel w W → NdAt W x xa xk → Calls Tryd.prog 22 #[ndV x xa xk, .int .i64 (deep + 1 : Nat), .bool b] W (RetBel (.int .i64 (chkN x (deep + 1) b)) W)) := Lib.hid fun x hx xa xk W b hd2 hW hN => ih x (by have := nbulks_mem hx; omega) xa xk W (deep + 1) b (by omega) (hE.bel hW) hN
  have HKN := Lib.hid hkn
  have HKI := Lib.hid hkid
  have HTX := Lib.hid fun W (hW : Bel w W) => xtext_c e.t e.sp e.lo e.tx aa ka an ac kn kc (by omega) (by omega) (by omega) W (hE.bel hW)
  have HEL := Lib.hid fun W (hW : Bel w W) => xelem_c e.t e.sp e.lo e.tx e.al aa ka an ac kn kc (by omega) W (hE.bel hW) han (fun j x hx => by obtain ⟨b, off, h0, h1, h2, h3⟩ := hatr j x hx; exact ⟨b, off, h0, hW.keep h1, hW.keep h2, hW.keep h3⟩)
  have hck := chkN_eq e deep may
  rw [han, hkn] at hck
  obtain ⟨R, hR⟩ : ∃ R, chkN e deep may = R := ⟨_, rfl⟩
  rw [hR] at hck ⊢
  have HCK := Lib.hid hck
  have hkn2 : kn ≤ 1000001 := by omega
  have hlo := lempty e.lo
  obtain ⟨KS, hKS⟩ : ∃ k, e.ks = k := ⟨_, rfl⟩
  rw [hKS] at HKN HKI HX
  unfold ndV
  obtain ⟨t, ht⟩ : ∃ t, e.t = t := ⟨_, rfl⟩
  obtain ⟨sp, hsp⟩ : ∃ t, e.sp = t := ⟨_, rfl⟩
  obtain ⟨lo, hlo2⟩ : ∃ t, e.lo = t := ⟨_, rfl⟩
  obtain ⟨tx, htx⟩ : ∃ t, e.tx = t := ⟨_, rfl⟩
  obtain ⟨TS, hTS⟩ : ∃ k, textS6 sp tx an kn = k := ⟨_, rfl⟩
  obtain ⟨ES, hES⟩ : ∃ k, elemS sp lo tx e.al = k := ⟨_, rfl⟩
  rw [ht, hsp, hlo2, htx] at HTX HEL
  rw [hsp, hlo2, htx, hKS, hTS, hES] at HCK
  rw [hTS] at HTX
  rw [hES] at HEL
  rw [hlo2] at hlo
  rw [ht, hsp, hlo2, htx]
  obtain ⟨V1, h1, q1, l1, s1⟩ := alloc_step w 27 [.int .i64 t, .string sp, .string lo, .slice aa an ac, .slice ka kn kc, .string tx]
  have c0 := q1.at 0
  have c1 := q1.at 1
  have c2 := q1.at 2
  have c3 := q1.at 3
  have c4 := q1.at 4
  have c5 := q1.at 5
  have L1 := Lib.hid l1
  have HV1 := Lib.hid h1
  have hbn : w.heap.size < V1.heap.size := by omega
  clear h1 q1 l1 s1 hR hck hE hatr hkid han hkn hac hkc hab hkb ht hsp hlo2 htx hTS hES hKS h ih hf hbe hbk
  by_cases hlo0 : lo = ⟨#[]⟩
  · rw [decide_eq_true hlo0] at hlo
    have HC2 : Hid ((if may = false then 2 else TS) = R) := Lib.hid (by rw [HCK.out, if_neg (c := 200 < deep ∧ lo ≠ ⟨#[]⟩) (fun e => e.2 hlo0), if_pos hlo0])
    clear HCK hlo0 HX HKI HEL
    cases may
    · by_cases hd : 200 < deep
      · go_enter Tryd.func22, Tryd.ntmps22
        go_upto_region 1 with fail
        rw [show w.alloc (.cells #[.int .i64 t, .string sp, .string lo, .slice aa an ac, .slice ka kn kc, .string tx] 27) = V1 from HV1.out]
        clear HV1
        go_wp2_with fail
        go_ret
        exact ⟨ret_int (by rw [← HC2.out]; rfl), L1.out⟩
      · go_enter Tryd.func22, Tryd.ntmps22
        go_upto_region 1 with fail
        rw [show w.alloc (.cells #[.int .i64 t, .string sp, .string lo, .slice aa an ac, .slice ka kn kc, .string tx] 27) = V1 from HV1.out]
        clear HV1
        go_wp2_with fail
        go_ret
        exact ⟨ret_int (by rw [← HC2.out]; rfl), L1.out⟩
    · by_cases hd : 200 < deep
      · go_enter Tryd.func22, Tryd.ntmps22
        go_upto_region 1 with fail
        rw [show w.alloc (.cells #[.int .i64 t, .string sp, .string lo, .slice aa an ac, .slice ka kn kc, .string tx] 27) = V1 from HV1.out]
        clear HV1
        go_wp2_with fail
        refine (HTX.out _ L1.out).mono ?_
        rintro e1 w1 ⟨rfl, hb1⟩
        go_wp2_with fail
        go_ret
        exact ⟨ret_int (by rw [← HC2.out]; rfl), L1.out.trans hb1⟩
      · go_enter Tryd.func22, Tryd.ntmps22
        go_upto_region 1 with fail
        rw [show w.alloc (.cells #[.int .i64 t, .string sp, .string lo, .slice aa an ac, .slice ka kn kc, .string tx] 27) = V1 from HV1.out]
        clear HV1
        go_wp2_with fail
        refine (HTX.out _ L1.out).mono ?_
        rintro e1 w1 ⟨rfl, hb1⟩
        go_wp2_with fail
        go_ret
        exact ⟨ret_int (by rw [← HC2.out]; rfl), L1.out.trans hb1⟩
  · rw [decide_eq_false hlo0] at hlo
    clear HTX
    by_cases hd : 200 < deep
    · have HC2 : Hid (9 = R) := Lib.hid (by rw [HCK.out, if_pos ⟨hd, hlo0⟩])
      clear HCK hlo0 HX HKI HEL
      go_enter Tryd.func22, Tryd.ntmps22
      go_upto_region 1 with fail
      rw [show w.alloc (.cells #[.int .i64 t, .string sp, .string lo, .slice aa an ac, .slice ka kn kc, .string tx] 27) = V1 from HV1.out]
      clear HV1
      go_wp2_with fail
      go_ret
      exact ⟨ret_int (by rw [← HC2.out]; rfl), L1.out⟩
    · have HC2 : Hid ((if ES ≠ 0 then ES else chksN KS (deep + 1) true) = R) := Lib.hid (by rw [HCK.out, if_neg (c := 200 < deep ∧ lo ≠ ⟨#[]⟩) (fun e => hd e.1), if_neg hlo0])
      clear HCK hlo0
      go_enter Tryd.func22, Tryd.ntmps22
      go_upto_region 1 with fail
      rw [show w.alloc (.cells #[.int .i64 t, .string sp, .string lo, .slice aa an ac, .slice ka kn kc, .string tx] 27) = V1 from HV1.out]
      clear HV1
      go_wp2_with fail
      refine (HEL.out _ L1.out).mono ?_
      rintro e1 w1 ⟨rfl, hb1⟩
      have HB1 := Lib.hid (L1.out.trans hb1)
      have d4 := hb1.keep c4
      clear hb1 c0 c1 c2 c3 c4 c5 HEL
      by_cases hk : ES = 0
      · subst hk
        have HC3 : Hid (chksN KS (deep + 1) true = R) := Lib.hid (by rw [← HC2.out]; rfl)
        clear HC2
        go_wp2_with fail
        go_loopw [2, 44] (fun m i wr => ∃ (j : Nat) (b : Bool), m = .bool b ∧ i = .int .i64 j ∧ j ≤ kn ∧ Hid (chksN (KS.drop j) (deep + 1) b = R) ∧ Hid (Bel w wr)) (fun _ i _ => kn - (intOf i).toNat)
        case atStart => exact ⟨0, true, rfl, rfl, Nat.zero_le _, HC3, HB1⟩
        case round =>
          obtain ⟨j, b, rfl, rfl, hj, HRJ, HBJ⟩ := hrel
          by_cases hlt : j < kn
          · have hlti : (j : Int) < kn := by omega
            obtain ⟨x, hx⟩ : ∃ x, KS[j]? = some x := ⟨_, List.getElem?_eq_getElem (by have := HKN.out; omega)⟩
            obtain ⟨bb, off, xaa, xan, xac, xka, xkn, xkc, rfl, g0, g1, g2, g3, g4, g5, hxn⟩ := HKI.out j x hx
            have f0 := HBJ.out.keep g0
            have f1 := HBJ.out.keep g1
            have f2 := HBJ.out.keep g2
            have f3 := HBJ.out.keep g3
            have f4 := HBJ.out.keep g4
            have f5 := HBJ.out.keep g5
            have hdr : chksN (KS.drop j) (deep + 1) b = if chkN x (deep + 1) b ≠ 0 then chkN x (deep + 1) b else chksN (KS.drop (j + 1)) (deep + 1) (!decide (x.lo = ⟨#[]⟩)) := by
              rw [List.drop_eq_getElem_cons (by have := HKN.out; omega), (List.getElem?_eq_some_iff.1 hx).2, chksN_cons]
              simp
            rw [hdr] at HRJ
            have HC := Lib.hid fun W (hW : Bel w W) => HX.out x (List.mem_of_getElem? hx) _ _ W b (by omega) hW (NdAt.bel hW x hxn)
            unfold ndV at HC
            have hxl := lempty x.lo
            obtain ⟨N, hN⟩ : ∃ N, chkN x (deep + 1) b = N := ⟨_, rfl⟩
            obtain ⟨Lx, hLx⟩ : ∃ N, decide (x.lo = ⟨#[]⟩) = N := ⟨_, rfl⟩
            rw [hN] at HC HRJ
            rw [hLx] at hxl HRJ
            obtain ⟨xt, hxt⟩ : ∃ t, x.t = t := ⟨_, rfl⟩
            obtain ⟨xsp, hxsp⟩ : ∃ t, x.sp = t := ⟨_, rfl⟩
            obtain ⟨xlo, hxlo⟩ : ∃ t, x.lo = t := ⟨_, rfl⟩
            obtain ⟨xtx, hxtx⟩ : ∃ t, x.tx = t := ⟨_, rfl⟩
            rw [hxt, hxsp, hxlo, hxtx] at HC
            rw [hxt] at f0
            rw [hxsp] at f1
            rw [hxlo] at f2 hxl
            rw [hxtx] at f5
            obtain ⟨V3, h3, q3, l3, s3⟩ := alloc_step wr 27 [.int .i64 xt, .string xsp, .string xlo, .slice xaa xan xac, .slice xka xkn xkc, .string xtx]
            have e0 := q3.at 0
            have e1 := q3.at 1
            have e2 := q3.at 2
            have e3 := q3.at 3
            have e4 := q3.at 4
            have e5 := q3.at 5
            have HV3 := Lib.hid h3
            have L3 := Lib.hid (HBJ.out.trans l3)
            clear g0 g1 g2 g3 g4 g5 hx hxn hdr hN hLx hxt hxsp hxlo hxtx h3 q3 l3 s3
            go_upto_region 14 with fail
            rw [show wr.alloc (.cells #[.int .i64 xt, .string xsp, .string xlo, .slice xaa xan xac, .slice xka xkn xkc, .string xtx] 27) = V3 from HV3.out]
            clear HV3
            go_wp2_with fail
            refine (HC.out _ L3.out).mono ?_
            rintro e6 w6 ⟨rfl, hb6⟩
            have p2 := hb6.keep e2
            have HB6 := Lib.hid (L3.out.trans hb6)
            clear hb6 e0 e1 e2 e3 e4 e5 f0 f1 f2 f3 f4 f5 HC
            by_cases hk : N = 0
            · subst hk
              have HR4 : Hid (chksN (KS.drop (j + 1)) (deep + 1) (!Lx) = R) := Lib.hid (by rw [← HRJ.out]; rfl)
              clear HRJ
              go_wp2_with fail
              exact ⟨⟨j + 1, !Lx, rfl, by go_num, by omega, HR4, HB6⟩, by simp [intOf]; omega⟩
            · have hk2 : ((N : Int) == 0) = false := by simpa using hk
              have hk3 : ((N : Int) != 0) = true := by simpa using hk
              have HR4 : Hid (N = R) := Lib.hid (by have := HRJ.out; rwa [if_pos hk] at this)
              clear hk HRJ
              go_wp2_with fail
              go_ret
              exact ⟨ret_int (by rw [HR4.out]), HB6.out⟩
          · have hlti : ¬ ((j : Int) < kn) := by omega
            have HR4 : Hid (0 = R) := Lib.hid (by have := HRJ.out; rwa [List.drop_eq_nil_of_le (by have := HKN.out; omega), chksN_nil] at this)
            clear HRJ
            go_wp2_with fail
            go_ret
            exact ⟨ret_int (by rw [← HR4.out]; rfl), HBJ.out⟩
      · have hk2 : ((ES : Int) == 0) = false := by simpa using hk
        have hk3 : ((ES : Int) != 0) = true := by simpa using hk
        have HR4 : Hid (ES = R) := Lib.hid (by rw [← HC2.out, if_pos hk])
        clear hk HC2
        go_wp2_with fail
        go_ret
        exact ⟨ret_int (by rw [HR4.out]), HB1.out⟩
theorem xchk_c : ∀ (f : Nat) (e : Nd), e.bulk ≤ f → f ≤ 1000000 → ∀ va vk w (deep : Nat) (may : Bool), deep ≤ 201 → Env w → NdAt w e va vk → Calls Tryd.prog 22 #[ndV e va vk, .int .i64 deep, .bool may] w (RetBel (.int .i64 (chkN e deep may)) w) := by
  intro f
  induction f with
  | zero => intro e he; have := nd_pos e; omega
  | succ f ih => exact fun e he hf va vk w deep may hd hE h => xchkF_c f (fun e' he' va' vk' w' d' m' hd' hE' h' => ih e' he' (by omega) va' vk' w' d' m' hd' hE' h') e he (by omega) va vk w deep may hd hE h
set_option maxRecDepth 100000 in
set_option maxHeartbeats 4000000 in
theorem xCheck_c (e : Nd) (va vk : Value) (w : World) (he : e.bulk ≤ 1000000) (hE : Env w) (h : NdAt w e va vk) : Calls Tryd.prog 10 #[ndV e va vk] w (RetBel (.int .i64 (CheckN e)) w) := by
  have HC := Lib.hid fun W (hW : Bel w W) => xchk_c e.bulk e (Nat.le_refl _) he va vk W 1 false (by omega) (hE.bel hW) (NdAt.bel hW e h)
  obtain ⟨aa, ka, an, ac, kn, kc, rfl, rfl, _⟩ := h.opened
  unfold CheckN
  obtain ⟨R, hR⟩ : ∃ R, chkN e 1 false = R := ⟨_, rfl⟩
  rw [hR] at HC ⊢
  unfold ndV at HC ⊢
  obtain ⟨V1, h1, q1, l1, s1⟩ := alloc_step w 27 [.int .i64 e.t, .string e.sp, .string e.lo, .slice aa an ac, .slice ka kn kc, .string e.tx]
  have c0 := q1.at 0
  have c1 := q1.at 1
  have c2 := q1.at 2
  have c3 := q1.at 3
  have c4 := q1.at 4
  have c5 := q1.at 5
  have L1 := Lib.hid l1
  have HV1 := Lib.hid h1
  clear h1 q1 l1 s1 hR h hE
  go_enter Tryd.func10, Tryd.ntmps10
  go_upto_region 1 with fail
  rw [show w.alloc (.cells #[.int .i64 e.t, .string e.sp, .string e.lo, .slice aa an ac, .slice ka kn kc, .string e.tx] 27) = V1 from HV1.out]
  clear HV1
  go_wp2_with fail
  refine (HC.out _ L1.out).mono ?_
  rintro e1 w1 ⟨rfl, hb1⟩
  go_wp2_with fail
  go_ret
  exact ⟨rfl, L1.out.trans hb1⟩
end Go.Proofs.YtojeclfcgnamoaaDoor
