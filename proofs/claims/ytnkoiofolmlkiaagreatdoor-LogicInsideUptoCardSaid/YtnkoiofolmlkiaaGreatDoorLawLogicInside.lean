/-
  The walk of the law LogicInside: whatever the logic: true.
-/
import Derived.Test.YtnkoiofolmlkiaaGreatDoorRLD
import Derived.Test.YtnkoiofolmlkiaaGreatDoorLGK
namespace Go.Proofs.YtnkoiofolmlkiaaGreatDoor
open Go.RowKit

def zzS : ByteArray := ⟨#[122, 122, 32, 122]⟩
def zzE : Ex := .mk 3 zzS [] []
def zzL : Lg := .mk 0 zzE ⟨#[]⟩ [] [] [] [] []
/-- A logic in a context; bound in an invocation. -/
def inA (l : Lg) : Lg := .mk 2 emptyE ⟨#[]⟩ [] [] [] [zzS, ⟨#[]⟩] [l, zzL]
def inB (l : Lg) : Lg := .mk 3 zzE ⟨#[]⟩ [] [] [] [⟨#[112]⟩] [l]
theorem inA_own (l : Lg) : ownL (inA l) = 0 := by
  have h1 : formL (inA l) = true := rfl
  have h2 : namedS (givenL 2 [zzS, ⟨#[]⟩]) = 0 := by decide +kernel
  have h3 : fiveL (inA l) = [0, 0, 0, 0, 0] := by
    show [namedS (givenL 2 [zzS, ⟨#[]⟩]), namedS [], 0, exprsE [], rusE 0 0 []] = _
    rw [h2]
    rfl
  unfold ownL
  rw [if_neg (by show ¬ ¬ ((0 : Int) ≤ 2 ∧ (2 : Int) ≤ 3); decide), if_neg (by rw [h1]; decide), h3]
  rfl
theorem inB_own (l : Lg) : ownL (inB l) = 0 := by
  have h1 : formL (inB l) = true := rfl
  have h2 : namedS (givenL 3 [⟨#[112]⟩]) = 0 := by decide +kernel
  have h4 : exprsE [zzE] = 0 := by decide +kernel
  have h3 : fiveL (inB l) = [0, 0, 0, 0, 0] := by
    show [namedS (givenL 3 [⟨#[112]⟩]), namedS [], exprsE [zzE], exprsE [], rusE 0 0 []] = _
    rw [h2, h4]
    rfl
  unfold ownL
  rw [if_neg (by show ¬ ¬ ((0 : Int) ≤ 3 ∧ (3 : Int) ≤ 3); decide), if_neg (by rw [h1]; decide), h3]
  rfl
theorem dL_pos (l : Lg) : 1 ≤ dL l := by rw [dL_eq]; omega
theorem inA_depth (l : Lg) : dL (inA l) = dL l + 1 := by
  have h := dL_pos l
  have h2 : dL zzL = 1 := by decide +kernel
  rw [dL_eq]
  show dsL [l, zzL] + 1 = _
  unfold dsL dsL dsL
  omega
theorem inB_depth (l : Lg) : dL (inB l) = dL l + 1 := by
  rw [dL_eq]
  show dsL [l] + 1 = _
  unfold dsL dsL
  omega
theorem check_split {l : Lg} (h : CheckL l = 0) : dL l ≤ 30 ∧ checkL l = 0 := by
  unfold CheckL at h
  rw [deepL_iff] at h
  split at h
  · cases h
  · rename_i h1
    exact ⟨by simpa using h1, h⟩
theorem check_join {x : Lg} {d : Nat} (hd : dL x = d + 1) (hc : checkL x = 0) (h : d ≤ 30) : CheckL x = if d = 30 then 9 else 0 := by
  unfold CheckL
  rw [deepL_iff, hd, hc]
  by_cases h30 : d = 30
  · rw [if_pos h30, if_pos (by simp; omega)]
  · rw [if_neg h30, if_neg (by simp; omega)]
theorem inA_check {l : Lg} (h : CheckL l = 0) : CheckL (inA l) = if dL l = 30 then 9 else 0 := by
  obtain ⟨h1, h2⟩ := check_split h
  have hz : checkL zzL = 0 := by decide +kernel
  refine check_join (inA_depth l) ?_ h1
  rw [checkL_eq, inA_own, if_pos rfl]
  show nz [checkL l, checkL zzL] = 0
  rw [h2, hz]
  rfl
theorem inB_check {l : Lg} (h : CheckL l = 0) : CheckL (inB l) = if dL l = 30 then 9 else 0 := by
  obtain ⟨h1, h2⟩ := check_split h
  refine check_join (inB_depth l) ?_ h1
  rw [checkL_eq, inB_own, if_pos rfl]
  show nz [checkL l] = 0
  rw [h2]
  rfl
theorem zz_free : freeE zzE [] = [zzS] := by decide +kernel
theorem zzL_free (x : ByteArray) : x ∈ freeL zzL [] ↔ x = zzS := by
  rw [mem_freeL0]
  have hp : partsL zzL = [zzE] := rfl
  rw [hp, show (∃ e ∈ [zzE], x ∈ freeE e []) ↔ x ∈ freeE zzE [] from by simp, zz_free]
  simp [zzL, Lg.l]
theorem inA_free (l : Lg) : uniqS (freeL (inA l) []) = uniqS (freeL l []) := uniq_ext fun x => by
  rw [mem_freeL0]
  have hp : partsL (inA l) = [] := rfl
  rw [hp]
  constructor
  · rintro (⟨e, he, _⟩ | ⟨j, y, hy, hx, hb⟩)
    · cases he
    · match j, hy with
      | 0, hy => cases hy; exact hx
      | 1, hy =>
        cases hy
        refine absurd ?_ hb
        rw [(zzL_free x).1 hx]
        show zzS ∈ [zzS]
        exact List.mem_singleton.2 rfl
      | j + 2, hy => cases hy
  · intro hx
    exact .inr ⟨0, l, rfl, hx, by show x ∉ []; simp⟩
theorem inB_free (l : Lg) (x : ByteArray) : x ∈ freeL (inB l) [] ↔ x ∈ freeL l [] ∨ x = zzS := by
  rw [mem_freeL0]
  have hp : partsL (inB l) = [zzE] := rfl
  rw [hp, show (∃ e ∈ [zzE], x ∈ freeE e []) ↔ x ∈ freeE zzE [] from by simp, zz_free]
  constructor
  · rintro (h | ⟨j, y, hy, hx, hb⟩)
    · exact .inr (List.mem_singleton.1 h)
    · match j, hy with
      | 0, hy => cases hy; exact .inl hx
      | j + 1, hy => cases hy
  · rintro (h | rfl)
    · exact .inr ⟨0, l, rfl, h, by show x ∉ []; simp⟩
    · exact .inl (List.mem_singleton.2 rfl)
theorem inB_with {l : Lg} (hb : l.bulk ≤ 5000) : withS (uniqS (freeL l [])) [zzS] = (some (uniqS (freeL (inB l) [])), 0) := by
  have h1 := uniq_freeL_len l hb
  have hs := srt_uniqS (freeL l [])
  have h2 := addS_length (uniqS (freeL l [])) [zzS] hs
  have h3 : (ownS (uniqS (freeL l [])) [zzS]).length ≤ 1 := by
    refine Nat.le_trans (len_le_of_mem [zzS] _ (srt_ownS _ _).nodup fun x hx => ((mem_ownS _ _ _).1 hx).1) ?_
    exact Nat.le_refl _
  rw [with_ok (by intro x hx; rw [List.mem_singleton.1 hx]; decide +kernel) (by omega)]
  rw [srt_ext (srt_addS [zzS] hs) (srt_uniqS (freeL (inB l) [])) fun x => by rw [mem_addS, mem_uniqS, mem_uniqS, inB_free, List.mem_singleton]]
theorem with_got' {N l M : List ByteArray} (h : withS N l = (some M, 0)) : M.length ≤ 4096 := by
  unfold withS at h
  split at h
  · cases h
  · split at h
    · cases h
    · injection h with h _
      injection h with h
      subst h
      omega
theorem inA_bulk (l : Lg) : (inA l).bulk = l.bulk + 14 := by
  have h1 : zzL.bulk = 6 := by decide +kernel
  have h2 : emptyE.bulk = 1 := by decide +kernel
  have h3 : sumS [zzS, (⟨#[]⟩ : ByteArray)] = 6 := by decide +kernel
  rw [lbulk_eq]
  show emptyE.bulk + 0 + 0 + 0 + sumS [zzS, ⟨#[]⟩] + 0 + lbulks [l, zzL] + 1 = _
  unfold lbulks lbulks lbulks
  omega
theorem inB_bulk (l : Lg) : (inB l).bulk = l.bulk + 8 := by
  have h2 : zzE.bulk = 5 := by decide +kernel
  have h3 : sumS [(⟨#[112]⟩ : ByteArray)] = 2 := by decide +kernel
  rw [lbulk_eq]
  show zzE.bulk + 0 + 0 + 0 + sumS [⟨#[112]⟩] + 0 + lbulks [l] + 1 = _
  unfold lbulks lbulks
  omega

set_option maxRecDepth 100000 in
set_option maxHeartbeats 16000000 in
theorem logicInside_walk {w : World} (l : Lg) (q : LgQ) (hat : LgAt w l q) (hb : l.bulk ≤ 1048576) (hEP : EnvX w ∧ PolAt w) :
    Calls Tryz.prog 4 #[lgV l q] w (RetBel (.bool true) w) := by
  have hat' := hat
  obtain ⟨nea, nen, nec, lea, len, lec, ia, im, ic, oa, om, oc, ra, rm, rc, na, nm, nc, la, lm, lc, rfl, ⟨him, hom, hrm, hnm, hlm⟩, ⟨hci, hco, hcr, hcn, hcl⟩, ⟨hbi, hbo, hbr, hbn, hbl⟩, hex, hpi, hpo, hpr, hpn, hpl⟩ := LgAt.opened hat
  unfold lgV
  dsimp only
  have HX := Lib.hid hat'
  have HE := Lib.hid hEP.1
  have HP := Lib.hid hEP.2
  have HAL := Lib.hid (fun W (hW : Bel w W) => lalive_c W (HE.out.bel hW) (HP.out.bel hW))
  have HCK : Hid (∀ W, Bel w W → Calls Tryz.prog 8 #[.agg #[.int .i64 l.k, .int .i64 l.e.k, .string l.e.s, .slice nea nen nec, .slice lea len lec, .string l.p, .slice ia im ic, .slice oa om oc, .slice ra rm rc, .slice na nm nc, .slice la lm lc]] W (RetBel (.int .i64 (CheckL l)) W)) := Lib.hid fun W hW => check_lx l ⟨.slice nea nen nec, .slice lea len lec, .slice ia im ic, .slice oa om oc, .slice ra rm rc, .slice na nm nc, .slice la lm lc⟩ W (HE.out.bel hW) (HP.out.bel hW) (by omega) (LgAt.bel hW l hat')
  have HDE : Hid (∀ W, Bel w W → Calls Tryz.prog 14 #[.agg #[.int .i64 l.k, .int .i64 l.e.k, .string l.e.s, .slice nea nen nec, .slice lea len lec, .string l.p, .slice ia im ic, .slice oa om oc, .slice ra rm rc, .slice na nm nc, .slice la lm lc]] W (RetBel (.int .i64 (dL l)) W)) := Lib.hid fun W hW => depth_l l.bulk l (Nat.le_refl _) (by omega) ⟨.slice nea nen nec, .slice lea len lec, .slice ia im ic, .slice oa om oc, .slice ra rm rc, .slice na nm nc, .slice la lm lc⟩ W (LgAt.bel hW l hat')
  obtain ⟨c, hc⟩ : ∃ c, CheckL l = c := ⟨_, rfl⟩
  rw [hc] at HCK
  have HC := Lib.hid hc
  obtain ⟨V1, h1, k1, l1, s1⟩ := alloc_step w 30 [.int .i64 l.k, .int .i64 l.e.k, .string l.e.s, .slice nea nen nec, .slice lea len lec, .string l.p, .slice ia im ic, .slice oa om oc, .slice ra rm rc, .slice na nm nc, .slice la lm lc]
  have T1 := Lib.hid k1
  have L1 := Lib.hid l1
  have HV1 := Lib.hid h1
  clear him hom hrm hnm hlm hex hpi hpo hpr hpn hpl hat hat' hEP hc h1 k1 l1 s1
  go_enter Tryz.func4, Tryz.ntmps4
  go_upto_region 1 with fail
  rw [show w.alloc (.cells #[.int .i64 l.k, .int .i64 l.e.k, .string l.e.s, .slice nea nen nec, .slice lea len lec, .string l.p, .slice ia im ic, .slice oa om oc, .slice ra rm rc, .slice na nm nc, .slice la lm lc] 30) = V1 from HV1.out]
  clear HV1
  go_wp2_with fail
  refine (HAL.out _ L1.out).mono ?_
  rintro e1 w1 ⟨rfl, hb1⟩
  have t1 := T1.out.bel hb1
  have c0 := Blk.at t1 0
  have c1 := Blk.at t1 1
  have c2 := Blk.at t1 2
  have c3 := Blk.at t1 3
  have c4 := Blk.at t1 4
  have c5 := Blk.at t1 5
  have c6 := Blk.at t1 6
  have c7 := Blk.at t1 7
  have c8 := Blk.at t1 8
  have c9 := Blk.at t1 9
  have c10 := Blk.at t1 10
  have HB1 := Lib.hid (L1.out.trans hb1)
  clear hb1 t1
  go_wp2_with fail
  obtain ⟨V2, h2, k2, l2, s2⟩ := alloc_step w1 30 [.int .i64 l.k, .int .i64 l.e.k, .string l.e.s, .slice nea nen nec, .slice lea len lec, .string l.p, .slice ia im ic, .slice oa om oc, .slice ra rm rc, .slice na nm nc, .slice la lm lc]
  rw [h2]
  have hb2 := HB1.out.trans l2
  have HG := Lib.hid (lgreat_c [l] (some ⟨w1.heap.size, 0, none⟩) 1 1 V2 rfl (by omega) (fun j x hx => by
    match j, hx with
    | 0, hx => cases hx; exact ⟨_, _, ⟨.slice nea nen nec, .slice lea len lec, .slice ia im ic, .slice oa om oc, .slice ra rm rc, .slice na nm nc, .slice la lm lc⟩, rfl, blk_cells k2, LgAt.bel hb2 l HX.out⟩
    | j + 1, hx => cases hx) (by intro x hx; rw [List.mem_singleton.1 hx]; omega))
  have T2 := Lib.hid ((Blk.bel (by have := T1.out; exact this) (Bel.refl _)))
  have HB2 := Lib.hid hb2
  have HK2 := Lib.hid l2
  clear h2 k2 s2 hb2
  have d0 := Bel.keep HK2.out c0
  have d1 := Bel.keep HK2.out c1
  have d2 := Bel.keep HK2.out c2
  have d3 := Bel.keep HK2.out c3
  have d4 := Bel.keep HK2.out c4
  have d5 := Bel.keep HK2.out c5
  have d6 := Bel.keep HK2.out c6
  have d7 := Bel.keep HK2.out c7
  have d8 := Bel.keep HK2.out c8
  have d9 := Bel.keep HK2.out c9
  have d10 := Bel.keep HK2.out c10
  clear c0 c1 c2 c3 c4 c5 c6 c7 c8 c9 c10 T2 l2
  refine HG.out.mono ?_
  rintro e3 w3 ⟨rfl, hb3⟩
  have c0 := Bel.keep hb3 d0
  have c1 := Bel.keep hb3 d1
  have c2 := Bel.keep hb3 d2
  have c3 := Bel.keep hb3 d3
  have c4 := Bel.keep hb3 d4
  have c5 := Bel.keep hb3 d5
  have c6 := Bel.keep hb3 d6
  have c7 := Bel.keep hb3 d7
  have c8 := Bel.keep hb3 d8
  have c9 := Bel.keep hb3 d9
  have c10 := Bel.keep hb3 d10
  have HB3 := Lib.hid (HB2.out.trans hb3)
  clear hb3 d0 d1 d2 d3 d4 d5 d6 d7 d8 d9 d10
  obtain ⟨g, hg⟩ : ∃ g, [l].any greatL = g := ⟨_, rfl⟩
  rw [hg]
  rw [List.any_cons, List.any_nil, Bool.or_false] at hg
  have HGR := Lib.hid hg
  clear hg HG HK2
  cases g with
  | true =>
    have h1 : oneIf true = 1 := rfl
    rw [h1]
    clear h1 c0 c1 c2 c3 c4 c5 c6 c7 c8 c9 c10
    go_wp2_with fail
    refine (HAL.out _ HB3.out).mono ?_
    rintro e5 w5 ⟨rfl, hb5⟩
    go_wp2_with fail
    go_ret
    exact ⟨rfl, HB3.out.trans hb5⟩
  | false =>
  have h1 : oneIf false = 0 := rfl
  rw [h1]
  have hbk := greatL_false HGR.out
  clear h1 HGR
  go_wp2_with fail
  refine (HCK.out _ HB3.out).mono ?_
  rintro e4 w4 ⟨rfl, hb4⟩
  have d0 := Bel.keep hb4 c0
  have d1 := Bel.keep hb4 c1
  have d2 := Bel.keep hb4 c2
  have d3 := Bel.keep hb4 c3
  have d4 := Bel.keep hb4 c4
  have d5 := Bel.keep hb4 c5
  have d6 := Bel.keep hb4 c6
  have d7 := Bel.keep hb4 c7
  have d8 := Bel.keep hb4 c8
  have d9 := Bel.keep hb4 c9
  have d10 := Bel.keep hb4 c10
  have HB4 := Lib.hid (HB3.out.trans hb4)
  clear hb4 c0 c1 c2 c3 c4 c5 c6 c7 c8 c9 c10 HCK
  by_cases hc0 : c = 0
  rotate_left 1
  · have hc2 : ((c : Int) == 0) = false := by simpa using hc0
    have hc3 : ((c : Int) != 0) = true := by simpa using hc0
    clear hc0 d0 d1 d2 d3 d4 d5 d6 d7 d8 d9 d10
    go_wp2_with fail
    refine (HAL.out _ HB4.out).mono ?_
    rintro e5 w5 ⟨rfl, hb5⟩
    go_wp2_with fail
    go_ret
    exact ⟨rfl, HB4.out.trans hb5⟩
  subst hc0
  have HOK := Lib.hid (CheckL_ok HC.out)
  have hA := inA_check HC.out
  have hB := inB_check HC.out
  have hdl := (check_split HC.out).1
  have HFR : Hid (∀ W, Bel w W → Calls Tryz.prog 12 #[.agg #[.int .i64 l.k, .int .i64 l.e.k, .string l.e.s, .slice nea nen nec, .slice lea len lec, .string l.p, .slice ia im ic, .slice oa om oc, .slice ra rm rc, .slice na nm nc, .slice la lm lc]] W (RetRow0 (uniqS (freeL l [])) W)) := Lib.hid fun W hW => free_lx l ⟨.slice nea nen nec, .slice lea len lec, .slice ia im ic, .slice oa om oc, .slice ra rm rc, .slice na nm nc, .slice la lm lc⟩ W HOK.out (by omega) (LgAt.bel hW l HX.out)
  obtain ⟨d, hd⟩ : ∃ d, dL l = d := ⟨_, rfl⟩
  rw [hd] at hA hB HDE hdl
  have HDD := Lib.hid hd
  have HCA := Lib.hid hA
  have HCB := Lib.hid hB
  clear hA hB hd
  have hwl : w.heap.size < w4.heap.size := cell_lt d0
  go_upto_region 4 with fail
  obtain ⟨U1, h1, k1, l1, s1⟩ := alloc_step w4 26 [.int .i64 3, .string ⟨#[122, 122, 32, 122]⟩, .slice none 0 0, .slice none 0 0]
  rw [h1]
  have c0 := Bel.keep l1 d0
  have c1 := Bel.keep l1 d1
  have c2 := Bel.keep l1 d2
  have c3 := Bel.keep l1 d3
  have c4 := Bel.keep l1 d4
  have c5 := Bel.keep l1 d5
  have c6 := Bel.keep l1 d6
  have c7 := Bel.keep l1 d7
  have c8 := Bel.keep l1 d8
  have c9 := Bel.keep l1 d9
  have c10 := Bel.keep l1 d10
  have e0 := k1.at 0
  have e1 := k1.at 1
  have e2 := k1.at 2
  have e3 := k1.at 3
  have hwl1 : w.heap.size < U1.heap.size := by omega
  have hwl2 : w4.heap.size < U1.heap.size := by omega
  have H1 := Lib.hid (And.intro l1 s1)
  clear h1 k1 l1 s1 d0 d1 d2 d3 d4 d5 d6 d7 d8 d9 d10 hwl
  go_upto_region 5 with fail
  obtain ⟨U2, h2, k2, l2, s2⟩ := alloc_step U1 9 [.string ⟨#[122, 122, 32, 122]⟩, .string ⟨#[]⟩]
  obtain ⟨U3, h3, k3, l3, s3⟩ := alloc_step U2 30 [.int .i64 l.k, .int .i64 l.e.k, .string l.e.s, .slice nea nen nec, .slice lea len lec, .string l.p, .slice ia im ic, .slice oa om oc, .slice ra rm rc, .slice na nm nc, .slice la lm lc, .int .i64 0, .int .i64 3, .string ⟨#[122, 122, 32, 122]⟩, .slice none 0 0, .slice none 0 0, .string ⟨#[]⟩, .slice none 0 0, .slice none 0 0, .slice none 0 0, .slice none 0 0, .slice none 0 0]
  obtain ⟨U4, h4, k4, l4, s4⟩ := alloc_step U3 30 [.int .i64 2, .int .i64 0, .string ⟨#[]⟩, .slice none 0 0, .slice none 0 0, .string ⟨#[]⟩, .slice none 0 0, .slice none 0 0, .slice none 0 0, .slice (some ⟨U1.heap.size, 0, none⟩) 2 2, .slice (some ⟨U1.heap.size + 1, 0, none⟩) 2 2]
  rw [h2, h3, h4]
  have hl14 := l2.trans (l3.trans l4)
  have d0 := Bel.keep hl14 c0
  have d1 := Bel.keep hl14 c1
  have d2 := Bel.keep hl14 c2
  have d3 := Bel.keep hl14 c3
  have d4 := Bel.keep hl14 c4
  have d5 := Bel.keep hl14 c5
  have d6 := Bel.keep hl14 c6
  have d7 := Bel.keep hl14 c7
  have d8 := Bel.keep hl14 c8
  have d9 := Bel.keep hl14 c9
  have d10 := Bel.keep hl14 c10
  have g0 := Bel.keep hl14 e0
  have g1 := Bel.keep hl14 e1
  have g2 := Bel.keep hl14 e2
  have g3 := Bel.keep hl14 e3
  have hwl3 : w.heap.size < U4.heap.size := by omega
  have hwl4 : w4.heap.size < U4.heap.size := by omega
  clear c0 c1 c2 c3 c4 c5 c6 c7 c8 c9 c10 e0 e1 e2 e3 hwl1 hwl2 h2 h3 h4
  rw [s2] at k3
  rw [s3, s2] at k4
  have H2 := Lib.hid (And.intro (k2.bel (l3.trans l4)) (And.intro (k3.bel l4) (And.intro k4 hl14)))
  clear k2 l2 s2 k3 l3 s3 k4 l4 s4 hl14
  go_upto_region 6 with fail
  obtain ⟨U5, h5, k5, l5, s5⟩ := alloc_step U4 9 [.string ⟨#[112]⟩]
  obtain ⟨U6, h6, k6, l6, s6⟩ := alloc_step U5 30 [.int .i64 l.k, .int .i64 l.e.k, .string l.e.s, .slice nea nen nec, .slice lea len lec, .string l.p, .slice ia im ic, .slice oa om oc, .slice ra rm rc, .slice na nm nc, .slice la lm lc]
  obtain ⟨U7, h7, k7, l7, s7⟩ := alloc_step U6 30 [.int .i64 3, .int .i64 3, .string ⟨#[122, 122, 32, 122]⟩, .slice none 0 0, .slice none 0 0, .string ⟨#[]⟩, .slice none 0 0, .slice none 0 0, .slice none 0 0, .slice (some ⟨U4.heap.size, 0, none⟩) 1 1, .slice (some ⟨U4.heap.size + 1, 0, none⟩) 1 1]
  rw [h5, h6, h7]
  rw [s5] at k6
  obtain ⟨k2, k3, k4, hl14⟩ := H2.out
  rw [s6, s5] at k7
  have hl47 := H1.out.1.trans (hl14.trans (l5.trans (l6.trans l7)))
  have hb7 := HB4.out.trans hl47
  have hz : ∀ W, LgAt W zzL ⟨.slice none 0 0, .slice none 0 0, .slice none 0 0, .slice none 0 0, .slice none 0 0, .slice none 0 0, .slice none 0 0⟩ := fun W => lgAt_lit (exAt_leaf _ _ _ (by decide))
  have hla : LgAt U7 (inA l) ⟨.slice none 0 0, .slice none 0 0, .slice none 0 0, .slice none 0 0, .slice none 0 0, .slice (some ⟨U1.heap.size, 0, none⟩) 2 2, .slice (some ⟨U1.heap.size + 1, 0, none⟩) 2 2⟩ :=
    lgAt_mk (by decide) (exAt_leaf _ _ _ (by decide)) (exsV_nil _) (strV_nil _) (rusV_nil _) (strV_of (names_blk (l := [zzS, ⟨#[]⟩]) (((k2.bel l5).bel l6).bel l7) rfl rfl).1 rfl (Nat.le_refl _)) rfl (Nat.le_refl _) (.inr ⟨U1.heap.size + 1, 0, rfl, lgs_two (qx := ⟨.slice nea nen nec, .slice lea len lec, .slice ia im ic, .slice oa om oc, .slice ra rm rc, .slice na nm nc, .slice la lm lc⟩) (((k3.bel l5).bel l6).bel l7) rfl (LgAt.bel hb7 l HX.out) (hz _)⟩)
  have hlb : LgAt U7 (inB l) ⟨.slice none 0 0, .slice none 0 0, .slice none 0 0, .slice none 0 0, .slice none 0 0, .slice (some ⟨U4.heap.size, 0, none⟩) 1 1, .slice (some ⟨U4.heap.size + 1, 0, none⟩) 1 1⟩ :=
    lgAt_mk (by decide) (exAt_leaf _ _ _ (by decide)) (exsV_nil _) (strV_nil _) (rusV_nil _) (strV_of (names_blk (l := [⟨#[112]⟩]) ((k5.bel l6).bel l7) rfl rfl).1 rfl (Nat.le_refl _)) rfl (Nat.le_refl _) (.inr ⟨U4.heap.size + 1, 0, rfl, lgs_one (qx := ⟨.slice nea nen nec, .slice lea len lec, .slice ia im ic, .slice oa om oc, .slice ra rm rc, .slice na nm nc, .slice la lm lc⟩) (k6.bel l7) rfl (LgAt.bel hb7 l HX.out)⟩)
  have hba := inA_bulk l
  have hbb := inB_bulk l
  have HKA : Hid (∀ W, Bel U7 W → Calls Tryz.prog 8 #[.agg #[.int .i64 2, .int .i64 0, .string ⟨#[]⟩, .slice none 0 0, .slice none 0 0, .string ⟨#[]⟩, .slice none 0 0, .slice none 0 0, .slice none 0 0, .slice (some ⟨U1.heap.size, 0, none⟩) 2 2, .slice (some ⟨U1.heap.size + 1, 0, none⟩) 2 2]] W (RetBel (.int .i64 ((if d = 30 then 9 else 0 : Nat) : Int)) W)) := Lib.hid fun W hW => by
    have h := check_lx (inA l) ⟨.slice none 0 0, .slice none 0 0, .slice none 0 0, .slice none 0 0, .slice none 0 0, .slice (some ⟨U1.heap.size, 0, none⟩) 2 2, .slice (some ⟨U1.heap.size + 1, 0, none⟩) 2 2⟩ W (HE.out.bel (hb7.trans hW)) (HP.out.bel (hb7.trans hW)) (by omega) (LgAt.bel hW _ hla)
    rw [HCA.out] at h
    exact h
  have HKB : Hid (∀ W, Bel U7 W → Calls Tryz.prog 8 #[.agg #[.int .i64 3, .int .i64 3, .string ⟨#[122, 122, 32, 122]⟩, .slice none 0 0, .slice none 0 0, .string ⟨#[]⟩, .slice none 0 0, .slice none 0 0, .slice none 0 0, .slice (some ⟨U4.heap.size, 0, none⟩) 1 1, .slice (some ⟨U4.heap.size + 1, 0, none⟩) 1 1]] W (RetBel (.int .i64 ((if d = 30 then 9 else 0 : Nat) : Int)) W)) := Lib.hid fun W hW => by
    have h := check_lx (inB l) ⟨.slice none 0 0, .slice none 0 0, .slice none 0 0, .slice none 0 0, .slice none 0 0, .slice (some ⟨U4.heap.size, 0, none⟩) 1 1, .slice (some ⟨U4.heap.size + 1, 0, none⟩) 1 1⟩ W (HE.out.bel (hb7.trans hW)) (HP.out.bel (hb7.trans hW)) (by omega) (LgAt.bel hW _ hlb)
    rw [HCB.out] at h
    exact h
  have HFA : Hid (d ≠ 30 → ∀ W, Bel U7 W → Calls Tryz.prog 12 #[.agg #[.int .i64 2, .int .i64 0, .string ⟨#[]⟩, .slice none 0 0, .slice none 0 0, .string ⟨#[]⟩, .slice none 0 0, .slice none 0 0, .slice none 0 0, .slice (some ⟨U1.heap.size, 0, none⟩) 2 2, .slice (some ⟨U1.heap.size + 1, 0, none⟩) 2 2]] W (RetRow0 (uniqS (freeL l [])) W)) := Lib.hid fun hd W hW => by
    have h := free_lx (inA l) ⟨.slice none 0 0, .slice none 0 0, .slice none 0 0, .slice none 0 0, .slice none 0 0, .slice (some ⟨U1.heap.size, 0, none⟩) 2 2, .slice (some ⟨U1.heap.size + 1, 0, none⟩) 2 2⟩ W (CheckL_ok (by rw [HCA.out, if_neg hd])) (by omega) (LgAt.bel hW _ hla)
    rw [inA_free] at h
    exact h
  have HFB : Hid (d ≠ 30 → ∀ W, Bel U7 W → Calls Tryz.prog 12 #[.agg #[.int .i64 3, .int .i64 3, .string ⟨#[122, 122, 32, 122]⟩, .slice none 0 0, .slice none 0 0, .string ⟨#[]⟩, .slice none 0 0, .slice none 0 0, .slice none 0 0, .slice (some ⟨U4.heap.size, 0, none⟩) 1 1, .slice (some ⟨U4.heap.size + 1, 0, none⟩) 1 1]] W (RetRow0 (uniqS (freeL (inB l) [])) W)) := Lib.hid fun hd W hW => free_lx (inB l) ⟨.slice none 0 0, .slice none 0 0, .slice none 0 0, .slice none 0 0, .slice none 0 0, .slice (some ⟨U4.heap.size, 0, none⟩) 1 1, .slice (some ⟨U4.heap.size + 1, 0, none⟩) 1 1⟩ W (CheckL_ok (by rw [HCB.out, if_neg hd])) (by omega) (LgAt.bel hW _ hlb)
  have HDA : Hid (∀ W, Bel U7 W → Calls Tryz.prog 14 #[.agg #[.int .i64 2, .int .i64 0, .string ⟨#[]⟩, .slice none 0 0, .slice none 0 0, .string ⟨#[]⟩, .slice none 0 0, .slice none 0 0, .slice none 0 0, .slice (some ⟨U1.heap.size, 0, none⟩) 2 2, .slice (some ⟨U1.heap.size + 1, 0, none⟩) 2 2]] W (RetBel (.int .i64 ((d : Int) + 1)) W)) := Lib.hid fun W hW => by
    have h := depth_l (inA l).bulk (inA l) (Nat.le_refl _) (by omega) ⟨.slice none 0 0, .slice none 0 0, .slice none 0 0, .slice none 0 0, .slice none 0 0, .slice (some ⟨U1.heap.size, 0, none⟩) 2 2, .slice (some ⟨U1.heap.size + 1, 0, none⟩) 2 2⟩ W (LgAt.bel hW _ hla)
    rw [inA_depth, HDD.out] at h
    exact h
  have HWI := inB_with hbk
  have hF1 := uniq_freeL_len l hbk
  have hF2 : (uniqS (freeL (inB l) [])).length ≤ 4096 := by
    have := with_got' HWI
    exact this
  obtain ⟨F, hF⟩ : ∃ F, uniqS (freeL l []) = F := ⟨_, rfl⟩
  obtain ⟨G, hG⟩ : ∃ G, uniqS (freeL (inB l) []) = G := ⟨_, rfl⟩
  have hsrt := srt_uniqS (freeL l [])
  rw [hF] at HFR HFA HWI hF1 hsrt
  rw [hG] at HFB HWI hF2
  have HWR : Hid (∀ W sl sm, RowAt0 W sl (strsV F) → RowAt0 W sm (strsV [zzS]) → Calls Tryz.prog 15 #[sl, sm] W (RetWithR (some G, 0) W)) := Lib.hid fun W sl sm h1 h2 => by
    have h := rwith_c sl F sm [zzS] W hsrt h1 (by omega) h2 (by decide) (by intro x hx; rw [List.mem_singleton.1 hx]; decide)
    rwa [HWI] at h
  have HSM : Hid (∀ L : List ByteArray, L.length ≤ 4096 → ∀ a1 n1 c1 a2 n2 c2 W, RowAt0 W (.slice a1 n1 c1) (strsV L) → RowAt0 W (.slice a2 n2 c2) (strsV L) → Calls Tryz.prog 16 #[.slice a1 n1 c1, .slice a2 n2 c2] W (RetBel (.bool true) W)) := Lib.hid fun L hL a1 n1 c1 a2 n2 c2 W r1 r2 => by
    have h := lsame_c L L a1 a2 n1 c1 n2 c2 W (names_of_row0 r1).1 (names_of_row0 r2).1 (by have := (names_of_row0 r1).1; omega) (by have := (names_of_row0 r2).1; omega) (names_of_row0 r1).2.2 (names_of_row0 r2).2.2
    rwa [decide_eq_true rfl] at h
  have HF1 := Lib.hid hF1
  have HF2 := Lib.hid hF2
  have KA := Lib.hid (((k4.bel l5).bel l6).bel l7)
  have KB := Lib.hid k7
  have HB7 := Lib.hid hb7
  have c0 := Bel.keep (l5.trans (l6.trans l7)) d0
  have c1 := Bel.keep (l5.trans (l6.trans l7)) d1
  have c2 := Bel.keep (l5.trans (l6.trans l7)) d2
  have c3 := Bel.keep (l5.trans (l6.trans l7)) d3
  have c4 := Bel.keep (l5.trans (l6.trans l7)) d4
  have c5 := Bel.keep (l5.trans (l6.trans l7)) d5
  have c6 := Bel.keep (l5.trans (l6.trans l7)) d6
  have c7 := Bel.keep (l5.trans (l6.trans l7)) d7
  have c8 := Bel.keep (l5.trans (l6.trans l7)) d8
  have c9 := Bel.keep (l5.trans (l6.trans l7)) d9
  have c10 := Bel.keep (l5.trans (l6.trans l7)) d10
  clear k2 k3 k4 H2 h5 k5 l5 s5 h6 k6 l6 s6 h7 k7 l7 s7 d0 d1 d2 d3 d4 d5 d6 d7 d8 d9 d10 g0 g1 g2 g3 hwl3 hwl4 hl14 H1 hl47 hb7 hz hla hlb hba hbb HWI hF1 hF2 hsrt hF hG hbk HCA HCB HDD HC HOK
  go_wp2_with fail
  refine (HFR.out _ HB7.out).mono ?_
  rintro e5 w5 ⟨fa, fn, fc, rfl, hfn, hfr, hb5⟩
  have HFW := Lib.hid hfr
  have HB5 := Lib.hid hb5
  have d0 := Bel.keep hb5 c0
  have d1 := Bel.keep hb5 c1
  have d2 := Bel.keep hb5 c2
  have d3 := Bel.keep hb5 c3
  have d4 := Bel.keep hb5 c4
  have d5 := Bel.keep hb5 c5
  have d6 := Bel.keep hb5 c6
  have d7 := Bel.keep hb5 c7
  have d8 := Bel.keep hb5 c8
  have d9 := Bel.keep hb5 c9
  have d10 := Bel.keep hb5 c10
  clear hfn hfr hb5 c0 c1 c2 c3 c4 c5 c6 c7 c8 c9 c10 HFR
  go_wp2_with fail
  refine (HDE.out _ (HB7.out.trans HB5.out)).mono ?_
  rintro e6 w6 ⟨rfl, hb6⟩
  have c0 := Bel.keep hb6 d0
  have c1 := Bel.keep hb6 d1
  have c2 := Bel.keep hb6 d2
  have c3 := Bel.keep hb6 d3
  have c4 := Bel.keep hb6 d4
  have c5 := Bel.keep hb6 d5
  have c6 := Bel.keep hb6 d6
  have c7 := Bel.keep hb6 d7
  have c8 := Bel.keep hb6 d8
  have c9 := Bel.keep hb6 d9
  have c10 := Bel.keep hb6 d10
  have ka := KA.out.bel (HB5.out.trans hb6)
  have a0 := Blk.at ka 0
  have a1 := Blk.at ka 1
  have a2 := Blk.at ka 2
  have a3 := Blk.at ka 3
  have a4 := Blk.at ka 4
  have a5 := Blk.at ka 5
  have a6 := Blk.at ka 6
  have a7 := Blk.at ka 7
  have a8 := Blk.at ka 8
  have a9 := Blk.at ka 9
  have a10 := Blk.at ka 10
  have HB6 := Lib.hid (HB5.out.trans hb6)
  have HL6 := Lib.hid hb6
  clear hb6 ka d0 d1 d2 d3 d4 d5 d6 d7 d8 d9 d10
  by_cases h30 : d = 30
  · subst h30
    have e9 : ((if 30 = 30 then 9 else 0 : Nat) : Int) = 9 := rfl
    rw [e9] at HKA HKB
    clear e9 HFA HFB
    go_wp2_with fail
    refine (HKA.out _ HB6.out).mono ?_
    rintro e7 w7 ⟨rfl, hb7⟩
    have kb := KB.out.bel (HB6.out.trans hb7)
    have b0 := Blk.at kb 0
    have b1 := Blk.at kb 1
    have b2 := Blk.at kb 2
    have b3 := Blk.at kb 3
    have b4 := Blk.at kb 4
    have b5 := Blk.at kb 5
    have b6 := Blk.at kb 6
    have b7 := Blk.at kb 7
    have b8 := Blk.at kb 8
    have b9 := Blk.at kb 9
    have b10 := Blk.at kb 10
    have HBB := Lib.hid (HB6.out.trans hb7)
    clear hb7 kb a0 a1 a2 a3 a4 a5 a6 a7 a8 a9 a10 HKA
    go_wp2_with fail
    refine (HKB.out _ HBB.out).mono ?_
    rintro e8 w8 ⟨rfl, hb8⟩
    have HBC := Lib.hid (HB7.out.trans (HBB.out.trans hb8))
    clear hb8 b0 b1 b2 b3 b4 b5 b6 b7 b8 b9 b10
    go_wp2_with fail
    go_ret
    exact ⟨rfl, HBC.out⟩
  · have HFA2 := Lib.hid (HFA.out h30)
    have HFB2 := Lib.hid (HFB.out h30)
    have e9 : ((if d = 30 then 9 else 0 : Nat) : Int) = 0 := by rw [if_neg h30]; rfl
    rw [e9] at HKA HKB
    have hd30 : ((d : Int) == 30) = false := by simp; omega
    clear e9 h30 HFA HFB
    go_wp2_with fail
    refine (HKA.out _ HB6.out).mono ?_
    rintro e7 w7 ⟨rfl, hb7⟩
    have kb := KB.out.bel (HB6.out.trans hb7)
    have b0 := Blk.at kb 0
    have b1 := Blk.at kb 1
    have b2 := Blk.at kb 2
    have b3 := Blk.at kb 3
    have b4 := Blk.at kb 4
    have b5 := Blk.at kb 5
    have b6 := Blk.at kb 6
    have b7 := Blk.at kb 7
    have b8 := Blk.at kb 8
    have b9 := Blk.at kb 9
    have b10 := Blk.at kb 10
    have HBB := Lib.hid (HB6.out.trans hb7)
    have HL7 := Lib.hid hb7
    clear hb7 kb a0 a1 a2 a3 a4 a5 a6 a7 a8 a9 a10 HKA
    go_wp2_with fail
    refine (HKB.out _ HBB.out).mono ?_
    rintro e8 w8 ⟨rfl, hb8⟩
    have HBC := Lib.hid (HBB.out.trans hb8)
    have HL8 := Lib.hid (HL6.out.trans (HL7.out.trans hb8))
    have hc08 := HL7.out.trans hb8
    have d0 := Bel.keep hc08 c0
    have d1 := Bel.keep hc08 c1
    have d2 := Bel.keep hc08 c2
    have d3 := Bel.keep hc08 c3
    have d4 := Bel.keep hc08 c4
    have d5 := Bel.keep hc08 c5
    have d6 := Bel.keep hc08 c6
    have d7 := Bel.keep hc08 c7
    have d8 := Bel.keep hc08 c8
    have d9 := Bel.keep hc08 c9
    have d10 := Bel.keep hc08 c10
    clear hb8 hc08 b0 b1 b2 b3 b4 b5 b6 b7 b8 b9 b10 c0 c1 c2 c3 c4 c5 c6 c7 c8 c9 c10 HKB
    go_wp2_with fail
    obtain ⟨X1, h1, k1, l1, s1⟩ := alloc_step w8 9 [.string ⟨#[122, 122, 32, 122]⟩]
    rw [h1]
    have HR1 := Lib.hid (names_blk (l := [zzS]) k1 rfl rfl).2.1
    have HL9 := Lib.hid l1
    clear h1 k1 s1 l1
    refine (HWR.out _ _ _ ((HFW.out.bel HL8.out).bel HL9.out) HR1.out).mono ?_
    rintro e9 w9 ⟨hb9, v9, rfl, hr9⟩
    obtain ⟨ga, gc, rfl, _⟩ := row0_form hr9 _ (strsV_length _)
    have HGW := Lib.hid hr9
    have HL10 := Lib.hid (HL9.out.trans hb9)
    have hx10 := HL9.out.trans hb9
    have c0 := Bel.keep hx10 d0
    have c1 := Bel.keep hx10 d1
    have c2 := Bel.keep hx10 d2
    have c3 := Bel.keep hx10 d3
    have c4 := Bel.keep hx10 d4
    have c5 := Bel.keep hx10 d5
    have c6 := Bel.keep hx10 d6
    have c7 := Bel.keep hx10 d7
    have c8 := Bel.keep hx10 d8
    have c9 := Bel.keep hx10 d9
    have c10 := Bel.keep hx10 d10
    have ka := KA.out.bel (HBC.out.trans hx10)
    have kb := KB.out.bel (HBC.out.trans hx10)
    have a0 := Blk.at ka 0
    have a1 := Blk.at ka 1
    have a2 := Blk.at ka 2
    have a3 := Blk.at ka 3
    have a4 := Blk.at ka 4
    have a5 := Blk.at ka 5
    have a6 := Blk.at ka 6
    have a7 := Blk.at ka 7
    have a8 := Blk.at ka 8
    have a9 := Blk.at ka 9
    have a10 := Blk.at ka 10
    have b0 := Blk.at kb 0
    have b1 := Blk.at kb 1
    have b2 := Blk.at kb 2
    have b3 := Blk.at kb 3
    have b4 := Blk.at kb 4
    have b5 := Blk.at kb 5
    have b6 := Blk.at kb 6
    have b7 := Blk.at kb 7
    have b8 := Blk.at kb 8
    have b9 := Blk.at kb 9
    have b10 := Blk.at kb 10
    have HB9 := Lib.hid (HBC.out.trans hx10)
    have HF9 := Lib.hid ((HFW.out.bel HL8.out).bel hx10)
    clear hb9 hr9 hx10 ka kb d0 d1 d2 d3 d4 d5 d6 d7 d8 d9 d10 HWR HR1
    go_wp2_with fail
    refine wp_region_held_drew (S := fun w' => Bel w9 w') (by kernel_rfl) (by (repeat (first | exact Bel.refl _ | assumption | refine Bel.to_drewN ?_ _ | refine Bel.to_drew ?_ | refine Bel.to_setCell ?_ (by first | exact Nat.le_refl _ | (simp; done) | (simp; omega) | omega) _ | refine Bel.to_alloc ?_ _ | refine Bel.trans ?_ (by assumption)))) (fun hHeld => ?_)
    refine wpAnyH_take (i := 0) (oi := _) (v := ?_) rfl (by kernel_rfl) (by kernel_rfl) (by kernel_rfl) (fun _ _ _ h => h) ?_ (by assumption) ?_
    rotate_left 1
    · first
        | (refine Or.inl ⟨by rfl, ?_⟩; intro w9 hSw; (try dsimp only at hSw); have e9_0 := Bel.keep hSw a0; have e9_1 := Bel.keep hSw a1; have e9_2 := Bel.keep hSw a2; have e9_3 := Bel.keep hSw a3; have e9_4 := Bel.keep hSw a4; have e9_5 := Bel.keep hSw a5; have e9_6 := Bel.keep hSw a6; have e9_7 := Bel.keep hSw a7; have e9_8 := Bel.keep hSw a8; have e9_9 := Bel.keep hSw a9; have e9_10 := Bel.keep hSw a10; go_simp; (try with_reducible rfl); done)
        | (refine Or.inr ⟨by rfl, ?_⟩; rfl)
    simp only [List.getElem_toArray, List.getElem_cons_zero, Act.put, List.setIfInBounds_toArray, List.set_cons_zero, List.set_cons_succ]
    refine wpAnyH_take (i := 2) (oi := _) (v := ?_) rfl (by kernel_rfl) (by kernel_rfl) (by kernel_rfl) (fun _ _ _ h => h) ?_ (by assumption) ?_
    rotate_left 1
    · first
        | (refine Or.inl ⟨by rfl, ?_⟩; intro w9 hSw; (try dsimp only at hSw); go_simp; (try with_reducible rfl); done)
        | (refine Or.inr ⟨by rfl, ?_⟩; rfl)
    simp only [List.getElem_toArray, List.getElem_cons_succ, List.getElem_cons_zero, Act.put, List.setIfInBounds_toArray, List.set_cons_zero, List.set_cons_succ]
    refine wpAnyH_ready (rs := [1]) (by kernel_rfl) (by simp) ?_
    refine AllReadyH.cons (o := _) rfl (fun K hK => ?_) AllReadyH.nil
    go_simp
    refine (HFA2.out _ (HB9.out.trans (by (repeat (first | exact Bel.refl _ | assumption | refine Bel.to_drewN ?_ _ | refine Bel.to_drew ?_ | refine Bel.to_setCell ?_ (by first | exact Nat.le_refl _ | (simp; done) | (simp; omega) | omega) _ | refine Bel.to_alloc ?_ _ | refine Bel.trans ?_ (by assumption)))))).mono ?_
    rintro e1 x1 ⟨xa, xn, xc, rfl, -, hxr, hq1⟩
    dsimp only
    have hr1 : Bel w9 x1 := by (repeat (first | exact Bel.refl _ | assumption | refine Bel.to_drewN ?_ _ | refine Bel.to_drew ?_ | refine Bel.to_setCell ?_ (by first | exact Nat.le_refl _ | (simp; done) | (simp; omega) | omega) _ | refine Bel.to_alloc ?_ _ | refine Bel.trans ?_ (by assumption)))
    refine hK.out _ _ hr1 (fun hHeld => ?_)
    clear hK K
    refine wpAnyH_ready (rs := [3]) (by kernel_rfl) (by simp) ?_
    refine AllReadyH.cons (o := _) rfl (fun K hK => ?_) AllReadyH.nil
    go_simp
    refine (HSM.out F (by have := HF1.out; omega) _ _ _ _ _ _ _ hxr (HF9.out.bel hr1)).mono ?_
    rintro e2 x2 ⟨rfl, hq2⟩
    dsimp only
    have hr2 := hr1.trans hq2
    refine hK.out _ _ hr2 (fun hHeld => ?_)
    clear hK K
    refine wpAnyH_take (i := 4) (oi := _) (v := ?_) rfl (by kernel_rfl) (by kernel_rfl) (by kernel_rfl) (fun _ _ _ h => h) ?_ (by assumption) ?_
    rotate_left 1
    · first
        | (refine Or.inl ⟨by rfl, ?_⟩; intro w9 hSw; (try dsimp only at hSw); have e9_0 := Bel.keep hSw b0; have e9_1 := Bel.keep hSw b1; have e9_2 := Bel.keep hSw b2; have e9_3 := Bel.keep hSw b3; have e9_4 := Bel.keep hSw b4; have e9_5 := Bel.keep hSw b5; have e9_6 := Bel.keep hSw b6; have e9_7 := Bel.keep hSw b7; have e9_8 := Bel.keep hSw b8; have e9_9 := Bel.keep hSw b9; have e9_10 := Bel.keep hSw b10; go_simp; (try with_reducible rfl); done)
        | (refine Or.inr ⟨by rfl, ?_⟩; rfl)
    simp only [List.getElem_toArray, List.getElem_cons_succ, List.getElem_cons_zero, Act.put, List.setIfInBounds_toArray, List.set_cons_zero, List.set_cons_succ]
    refine wpAnyH_take (i := 5) (oi := _) (v := ?_) rfl (by kernel_rfl) (by kernel_rfl) (by kernel_rfl) (fun _ _ _ h => h) ?_ (by assumption) ?_
    rotate_left 1
    · first
        | (refine Or.inl ⟨by rfl, ?_⟩; intro w9 hSw; (try dsimp only at hSw); have e9_0 := Bel.keep hSw b0; have e9_1 := Bel.keep hSw b1; have e9_2 := Bel.keep hSw b2; have e9_3 := Bel.keep hSw b3; have e9_4 := Bel.keep hSw b4; have e9_5 := Bel.keep hSw b5; have e9_6 := Bel.keep hSw b6; have e9_7 := Bel.keep hSw b7; have e9_8 := Bel.keep hSw b8; have e9_9 := Bel.keep hSw b9; have e9_10 := Bel.keep hSw b10; go_simp; (try with_reducible rfl); done)
        | (refine Or.inr ⟨by rfl, ?_⟩; rfl)
    simp only [List.getElem_toArray, List.getElem_cons_succ, List.getElem_cons_zero, Act.put, List.setIfInBounds_toArray, List.set_cons_zero, List.set_cons_succ]
    refine wpAnyH_take (i := 7) (oi := _) (v := ?_) rfl (by kernel_rfl) (by kernel_rfl) (by kernel_rfl) (fun _ _ _ h => h) ?_ (by assumption) ?_
    rotate_left 1
    · first
        | (refine Or.inl ⟨by rfl, ?_⟩; intro w9 hSw; (try dsimp only at hSw); go_simp; (try with_reducible rfl); done)
        | (refine Or.inr ⟨by rfl, ?_⟩; rfl)
    simp only [List.getElem_toArray, List.getElem_cons_succ, List.getElem_cons_zero, Act.put, List.setIfInBounds_toArray, List.set_cons_zero, List.set_cons_succ]
    refine wpAnyH_ready (rs := [6]) (by kernel_rfl) (by simp) ?_
    refine AllReadyH.cons (o := _) rfl (fun K hK => ?_) AllReadyH.nil
    go_simp
    refine (HFB2.out _ (HB9.out.trans hr2)).mono ?_
    rintro e3 x3 ⟨ya, yn, yc, rfl, -, hyr, hq3⟩
    dsimp only
    have hr3 := hr2.trans hq3
    refine hK.out _ _ hr3 (fun hHeld => ?_)
    clear hK K
    refine wpAnyH_ready (rs := [8]) (by kernel_rfl) (by simp) ?_
    refine AllReadyH.cons (o := _) rfl (fun K hK => ?_) AllReadyH.nil
    go_simp
    refine (HSM.out G HF2.out _ _ _ _ _ _ _ hyr (HGW.out.bel hr3)).mono ?_
    rintro e4 x4 ⟨rfl, hq4⟩
    dsimp only
    have hr4 := hr3.trans hq4
    refine hK.out _ _ hr4 (fun hHeld => ?_)
    clear hK K
    refine wpAnyH_take (i := 9) (oi := _) (v := ?_) rfl (by kernel_rfl) (by kernel_rfl) (by kernel_rfl) (fun _ _ _ h => h) ?_ (by assumption) ?_
    rotate_left 1
    · first
        | (refine Or.inl ⟨by rfl, ?_⟩; intro w9 hSw; (try dsimp only at hSw); have e9_0 := Bel.keep hSw a0; have e9_1 := Bel.keep hSw a1; have e9_2 := Bel.keep hSw a2; have e9_3 := Bel.keep hSw a3; have e9_4 := Bel.keep hSw a4; have e9_5 := Bel.keep hSw a5; have e9_6 := Bel.keep hSw a6; have e9_7 := Bel.keep hSw a7; have e9_8 := Bel.keep hSw a8; have e9_9 := Bel.keep hSw a9; have e9_10 := Bel.keep hSw a10; go_simp; (try with_reducible rfl); done)
        | (refine Or.inr ⟨by rfl, ?_⟩; rfl)
    simp only [List.getElem_toArray, List.getElem_cons_succ, List.getElem_cons_zero, Act.put, List.setIfInBounds_toArray, List.set_cons_zero, List.set_cons_succ]
    refine wpAnyH_take (i := 10) (oi := _) (v := ?_) rfl (by kernel_rfl) (by kernel_rfl) (by kernel_rfl) (fun _ _ _ h => h) ?_ (by assumption) ?_
    rotate_left 1
    · first
        | (refine Or.inl ⟨by rfl, ?_⟩; intro w9 hSw; (try dsimp only at hSw); have e9_0 := Bel.keep hSw a0; have e9_1 := Bel.keep hSw a1; have e9_2 := Bel.keep hSw a2; have e9_3 := Bel.keep hSw a3; have e9_4 := Bel.keep hSw a4; have e9_5 := Bel.keep hSw a5; have e9_6 := Bel.keep hSw a6; have e9_7 := Bel.keep hSw a7; have e9_8 := Bel.keep hSw a8; have e9_9 := Bel.keep hSw a9; have e9_10 := Bel.keep hSw a10; go_simp; (try with_reducible rfl); done)
        | (refine Or.inr ⟨by rfl, ?_⟩; rfl)
    simp only [List.getElem_toArray, List.getElem_cons_succ, List.getElem_cons_zero, Act.put, List.setIfInBounds_toArray, List.set_cons_zero, List.set_cons_succ]
    refine wpAnyH_take (i := 11) (oi := _) (v := ?_) rfl (by kernel_rfl) (by kernel_rfl) (by kernel_rfl) (fun _ _ _ h => h) ?_ (by assumption) ?_
    rotate_left 1
    · first
        | (refine Or.inl ⟨by rfl, ?_⟩; intro w9 hSw; (try dsimp only at hSw); have e9_0 := Bel.keep hSw a0; have e9_1 := Bel.keep hSw a1; have e9_2 := Bel.keep hSw a2; have e9_3 := Bel.keep hSw a3; have e9_4 := Bel.keep hSw a4; have e9_5 := Bel.keep hSw a5; have e9_6 := Bel.keep hSw a6; have e9_7 := Bel.keep hSw a7; have e9_8 := Bel.keep hSw a8; have e9_9 := Bel.keep hSw a9; have e9_10 := Bel.keep hSw a10; go_simp; (try with_reducible rfl); done)
        | (refine Or.inr ⟨by rfl, ?_⟩; rfl)
    simp only [List.getElem_toArray, List.getElem_cons_succ, List.getElem_cons_zero, Act.put, List.setIfInBounds_toArray, List.set_cons_zero, List.set_cons_succ]
    refine wpAnyH_take (i := 13) (oi := _) (v := ?_) rfl (by kernel_rfl) (by kernel_rfl) (by kernel_rfl) (fun _ _ _ h => h) ?_ (by assumption) ?_
    rotate_left 1
    · first
        | (refine Or.inl ⟨by rfl, ?_⟩; intro w9 hSw; (try dsimp only at hSw); have e9_0 := Bel.keep hSw c0; have e9_1 := Bel.keep hSw c1; have e9_2 := Bel.keep hSw c2; have e9_3 := Bel.keep hSw c3; have e9_4 := Bel.keep hSw c4; have e9_5 := Bel.keep hSw c5; have e9_6 := Bel.keep hSw c6; have e9_7 := Bel.keep hSw c7; have e9_8 := Bel.keep hSw c8; have e9_9 := Bel.keep hSw c9; have e9_10 := Bel.keep hSw c10; go_simp; (try with_reducible rfl); done)
        | (refine Or.inr ⟨by rfl, ?_⟩; rfl)
    simp only [List.getElem_toArray, List.getElem_cons_succ, List.getElem_cons_zero, Act.put, List.setIfInBounds_toArray, List.set_cons_zero, List.set_cons_succ]
    refine wpAnyH_ready (rs := [12]) (by kernel_rfl) (by simp) ?_
    refine AllReadyH.cons (o := _) rfl (fun K hK => ?_) AllReadyH.nil
    go_simp
    refine (HDA.out _ (HB9.out.trans hr4)).mono ?_
    rintro e5 x5 ⟨rfl, hq5⟩
    dsimp only
    have hr5 := hr4.trans hq5
    refine hK.out _ _ hr5 (fun hHeld => ?_)
    clear hK K
    refine wpAnyH_ready (rs := [14]) (by kernel_rfl) (by simp) ?_
    refine AllReadyH.cons (o := _) rfl (fun K hK => ?_) AllReadyH.nil
    go_simp
    refine (HDE.out _ (HB7.out.trans (HB9.out.trans hr5))).mono ?_
    rintro e6 x6 ⟨rfl, hq6⟩
    dsimp only
    have hr6 := hr5.trans hq6
    refine hK.out _ _ hr6 (fun hHeld => ?_)
    clear hK K
    have hw1 : IntKind.i64.wrap ((d : Int) + 1) = (d : Int) + 1 := IntWalk.i64_in _ (by omega)
    refine wpAnyH_take (i := 15) (oi := _) (v := ?_) rfl (by kernel_rfl) (by kernel_rfl) (by kernel_rfl) (fun _ _ _ h => h) ?_ (by assumption) ?_
    rotate_left 1
    · first
        | (refine Or.inl ⟨by rfl, ?_⟩; intro w9 hSw; (try dsimp only at hSw); go_simp; (try with_reducible rfl); done)
        | (refine Or.inr ⟨by rfl, ?_⟩; rfl)
    simp only [List.getElem_toArray, List.getElem_cons_succ, List.getElem_cons_zero, Act.put, List.setIfInBounds_toArray, List.set_cons_zero, List.set_cons_succ]
    refine wpAnyH_take (i := 16) (oi := _) (v := ?_) rfl (by kernel_rfl) (by kernel_rfl) (by kernel_rfl) (fun _ _ _ h => h) ?_ (by assumption) ?_
    rotate_left 1
    · first
        | (refine Or.inl ⟨by rfl, ?_⟩; intro w9 hSw; (try dsimp only at hSw); go_simp; (try with_reducible rfl); done)
        | (refine Or.inr ⟨by rfl, ?_⟩; rfl)
    simp only [List.getElem_toArray, List.getElem_cons_succ, List.getElem_cons_zero, Act.put, List.setIfInBounds_toArray, List.set_cons_zero, List.set_cons_succ]
    refine wpAnyH_take (i := 17) (oi := _) (v := ?_) rfl (by kernel_rfl) (by kernel_rfl) (by kernel_rfl) (fun _ _ _ h => h) ?_ (by assumption) ?_
    rotate_left 1
    · first
        | (refine Or.inl ⟨by rfl, ?_⟩; intro w9 hSw; (try dsimp only at hSw); go_simp; (try with_reducible rfl); done)
        | (refine Or.inr ⟨by rfl, ?_⟩; rfl)
    simp only [List.getElem_toArray, List.getElem_cons_succ, List.getElem_cons_zero, Act.put, List.setIfInBounds_toArray, List.set_cons_zero, List.set_cons_succ]
    refine wpAnyH_take (i := 18) (oi := _) (v := ?_) rfl (by kernel_rfl) (by kernel_rfl) (by kernel_rfl) (fun _ _ _ h => h) ?_ (by assumption) ?_
    rotate_left 1
    · first
        | (refine Or.inl ⟨by rfl, ?_⟩; intro w9 hSw; (try dsimp only at hSw); go_simp; (try with_reducible rfl); done)
        | (refine Or.inr ⟨by rfl, ?_⟩; rfl)
    simp only [List.getElem_toArray, List.getElem_cons_succ, List.getElem_cons_zero, Act.put, List.setIfInBounds_toArray, List.set_cons_zero, List.set_cons_succ]
    refine wpAnyH_done (by kernel_rfl) ?_ _
    have HRR := Lib.hid (HB7.out.trans (HB9.out.trans hr6))
    clear hHeld hr1 hr2 hr3 hr4 hr5 hr6 hq1 hq2 hq3 hq4 hq5 hq6 hw1 hxr hyr
    go_wp2_with fail
    go_ret
    exact ⟨by simp, HRR.out⟩
end Go.Proofs.YtnkoiofolmlkiaaGreatDoor
