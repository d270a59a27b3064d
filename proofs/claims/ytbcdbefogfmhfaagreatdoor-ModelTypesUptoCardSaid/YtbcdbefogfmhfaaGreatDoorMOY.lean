/-
  model: the walk of referred (printed by wip/mk_moy.py).
-/
import Derived.Test.YtbcdbefogfmhfaaGreatDoorMXB
import Derived.Test.YtbcdbefogfmhfaaGreatDoorMXA
import Derived.Deep.RegionHeld3
namespace Go.Proofs.YtbcdbefogfmhfaaGreatDoor
open Go.RowKit Go.Maps

theorem nz4 (a b c d : Nat) : nz [a, b, c, d] = if a = 0 then if b = 0 then if c = 0 then d else c else b else a := by
  rw [nz_cons, nz_cons, nz_cons, nz_one]
def RetFp (W0 : World) (sb : Nat) (L rest : List ByteArray) (F : Nat) (e : Ending) (w' : World) : Prop := ∃ E : Nat, e = .returned (.int .i64 E) ∧ (E ≠ 0 → E = F) ∧ Bel W0 w' ∧ (E = 0 → MapV w' sb L.length int0 (typC L) ∧ freshE L rest = F)
theorem fresh_p {W0 W : World} {sb F : Nat} {L rest : List ByteArray} {x : ByteArray} (hb : Bel W0 W) (h0 : W0.heap.size ≤ sb) (hE : Env W) (hm : MapV W sb L.length int0 (typC L)) (heq : freshE L (x :: rest) = F) (hx : x.size ≤ 1073741824) (hL : L.length < 1073741824) :
    Calls Tryz.prog 94 #[.map (some sb), .string x, .int .i64 L.length] W (RetFp W0 sb (L ++ [x]) rest F) := by
  refine (fresh_c sb L.length L.length (typC L) x W hE hm hL hx).mono ?_
  rintro e w' ⟨rfl, hbt, hk⟩
  rw [freshE_cons] at heq
  refine ⟨freE (typC L) x, rfl, fun hne => ?_, hbt.bel hb h0 h0, fun hz => ?_⟩
  · rw [← heq]
    unfold freE at hne ⊢
    rw [typC_some] at hne ⊢
    by_cases hr : rightS x = false
    · rw [if_pos hr, if_pos hr]
    · rw [if_neg hr] at hne
      rw [if_neg hr, if_neg hr]
      by_cases hm : x ∈ L
      · rw [if_pos (decide_eq_true hm), if_pos hm]
      · rw [if_neg (by simpa using hm)] at hne; exact absurd rfl hne
  · have hk2 := hk hz
    unfold freE at hz
    rw [typC_some] at hz
    by_cases hr : rightS x = false
    · rw [if_pos hr] at hz; cases hz
    · rw [if_neg hr] at hz
      by_cases hm : x ∈ L
      · rw [if_pos (decide_eq_true hm)] at hz; cases hz
      · rw [if_neg hr, if_neg hm] at heq
        refine ⟨?_, heq⟩
        have := MapV.congr hk2 (typC_put hm)
        rwa [List.length_append, List.length_singleton]
theorem if_hit {P : Prop} [Decidable P] {c A D : Nat} (h : A = if (if P then c else 0) = 0 then D else (if P then c else 0)) (hp : P) (hc : c ≠ 0) : A = c := by rwa [if_pos hp, if_neg hc] at h
theorem if_miss {P : Prop} [Decidable P] {c A D : Nat} (h : A = if (if P then c else 0) = 0 then D else (if P then c else 0)) (hp : ¬ P) : A = D := by rwa [if_neg hp, if_pos rfl] at h
theorem str_ne {s : ByteArray} (h : s ≠ ⟨#[]⟩) : (s.toList == []) = false := by
  refine beq_eq_false_iff_ne.2 fun e => h ?_
  rw [Lib.toList_data] at e
  exact ByteArray.ext (Array.ext' e)
theorem ints_at1 {W : World} {b : Nat} {x : Nat} {xz : Int} (hx : (x : Int) = xz) (h : Blk W b 3 [.int .i64 xz]) : IntsAt W (some ⟨b, 0, none⟩) [x] := fun j y hy => by
  subst hx
  cases j with
  | zero => cases hy; exact ⟨b, 0, rfl, h.at 0⟩
  | succ j => cases hy
theorem ints_at2 {W : World} {b : Nat} {x y : Nat} {xz yz : Int} (hx : (x : Int) = xz) (hy : (y : Int) = yz) (h : Blk W b 3 [.int .i64 xz, .int .i64 yz]) : IntsAt W (some ⟨b, 0, none⟩) [x, y] := fun j z hz => by
  subst hx hy
  cases j with
  | zero => cases hz; exact ⟨b, 0, rfl, h.at 0⟩
  | succ j =>
    cases j with
    | zero => cases hz; exact ⟨b, 0, rfl, h.at 1⟩
    | succ j => cases hz
set_option maxRecDepth 100000 in
set_option maxHeartbeats 16000000 in
theorem referred_c {u W : World} {cb bb tb : Nat} {m : Md} {q : MdQ} (h : CkS u cb bb tb m q W) (hE : Env u) (hEB : EnvB u) (hbk : m.bulk ≤ 1048576) :
    Calls Tryz.prog 51 #[.pointer (some ⟨cb, 0, none⟩)] W (RetBel (.int .i64 (referredM m)) W) := by
  have HS := Lib.hid h
  have HE := Lib.hid hE
  have HEB := Lib.hid hEB
  have HBK := Lib.hid hbk
  obtain ⟨f1, hf1⟩ : ∃ f : It → Nat, (fun t : It => if typedM m t.base = false then 15 else 0) = f := ⟨_, rfl⟩
  obtain ⟨f2, hf2⟩ : ∃ f : Inp → Nat, (fun x : Inp => if x.ty ≠ ⟨#[]⟩ ∧ typedM m x.ty = false then 15 else 0) = f := ⟨_, rfl⟩
  obtain ⟨A, hA⟩ : ∃ A, nz (m.its.map f1) = A := ⟨_, rfl⟩
  obtain ⟨B, hB⟩ : ∃ A, nz (m.ins.map f2) = A := ⟨_, rfl⟩
  obtain ⟨C, hC⟩ : ∃ A, nz (m.kns.map (refKn m.things)) = A := ⟨_, rfl⟩
  obtain ⟨D, hD⟩ : ∃ A, nz (m.des.map (refDe m m.things)) = A := ⟨_, rfl⟩
  obtain ⟨R, hR⟩ : ∃ R, referredM m = R := ⟨_, rfl⟩
  have HR : Hid ((if A = 0 then if B = 0 then if C = 0 then D else C else B else A) = R) := Lib.hid (by rw [← hR]; unfold referredM; rw [nz4, hf1, hf2, hA, hB, hC, hD])
  rw [hR]
  have HA := Lib.hid hA
  have HBB := Lib.hid hB
  have HCC := Lib.hid hC
  have HDD := Lib.hid hD
  have HF1 := Lib.hid fun t : It => (congrFun hf1 t).symm
  have HF2 := Lib.hid fun t : Inp => (congrFun hf2 t).symm
  obtain ⟨ia, hia⟩ : ∃ a, q.ia = a := ⟨_, rfl⟩
  obtain ⟨im, him⟩ : ∃ a, q.im = a := ⟨_, rfl⟩
  obtain ⟨ic, hic⟩ : ∃ a, q.ic = a := ⟨_, rfl⟩
  have k3 : W.cell? ⟨cb, 3, none⟩ = some (.slice ia im ic) := by rw [← hia, ← him, ← hic]; exact h.bc.at 3
  have HIT : Hid (ItsAt u ia m.its ∧ m.its.length = im ∧ im ≤ 1048576) := Lib.hid ⟨hia ▸ h.at'.its, him ▸ h.at'.li, by have := m.bulk_len; have := h.at'.li; omega⟩
  have him2 : im ≤ 1048576 := HIT.out.2.2
  clear h hE hEB hbk hia him hic hR hA hB hC hD hf1 hf2
  go_enter Tryz.func51, Tryz.ntmps51
  go_wp2_with fail
  go_loopw [24] (fun i wr => ∃ j : Nat, i = .int .i64 j ∧ j ≤ im ∧ Hid (nz ((m.its.drop j).map f1) = A) ∧ Hid (Bel W wr)) (fun i _ => im - (intOf i).toNat)
  case atStart => exact ⟨0, rfl, Nat.zero_le _, Lib.hid (by rw [List.drop_zero]; exact HA.out), Lib.hid (Bel.refl _)⟩
  case round =>
    obtain ⟨j, rfl, hj, HN, HB⟩ := hrel
    by_cases hjn : j < im
    · as_aux_lemma =>
      have hji : (j : Int) < im := by omega
      obtain ⟨x, hx⟩ : ∃ x, m.its[j]? = some x := ⟨_, List.getElem?_eq_getElem (by have := HIT.out; omega)⟩
      obtain ⟨b, off, rfl, v, hcl, va, vc, rfl, _, _⟩ := HIT.out.1 j x hx
      obtain ⟨vn, hvn⟩ : ∃ n, x.te.l.length = n := ⟨_, rfl⟩
      rw [hvn] at hcl
      have hcl2 := hcl.bel (HS.out.bel.trans HB.out)
      have g0 := hcl2.get0
      have g1 := hcl2.get 1 rfl
      have g2 := hcl2.get 2 rfl
      have g3 := hcl2.get 3 rfl
      have g4 := hcl2.get 4 rfl
      have hxs : x.base.size ≤ 1048576 := by have := Md.bulk_its (List.mem_of_getElem? hx); have := HBK.out; unfold It.bulk at *; omega
      have hall := nz_map_drop f1 m.its j x hx
      rw [HN.out, HF1.out] at hall
      obtain ⟨V, hV, hxV, hbV, hsV⟩ := alloc_step wr 54 (itL x (.slice va vn vc))
      obtain ⟨ib, hib⟩ : ∃ x, wr.heap.size = x := ⟨_, rfl⟩
      rw [hib] at hxV
      have z1 : V.cell? ⟨ib, 1, none⟩ = some (.string x.base) := hxV.at 1
      have HT := Lib.hid (typed_c (HS.out.go (HB.out.trans hbV)) HEB.out x.base (by omega))
      have HBV := Lib.hid (HB.out.trans hbV)
      have HVN := Lib.hid hV
      have HIB := Lib.hid hib
      unfold itL at HVN
      obtain ⟨K, hK⟩ : ∃ K, typedM m x.base = K := ⟨_, rfl⟩
      rw [hK] at hall HT
      have HALL := Lib.hid hall
      clear hx hcl hcl2 hvn hxs hV hxV hbV hsV hib k3 HN HB hall hK
      go_upto_region 4 with fail
      rw [show wr.alloc (.cells #[.string x.nm, .string x.base, .bool x.te.any, .bool x.te.no, .slice va vn vc] 54) = V from HVN.out, HIB.out]
      clear HVN g0 g1 g2 g3 g4
      cases K with
      | true =>
        have HN2 : Hid (nz ((m.its.drop (j + 1)).map f1) = A) := Lib.hid (if_miss HALL.out (by decide)).symm
        clear HALL
        go_wp2_with fail
        refine HT.out.mono ?_
        rintro e1 w1 ⟨rfl, hb1⟩
        have HB1 := Lib.hid (HBV.out.trans hb1)
        clear hb1 HT z1
        go_wp2_with fail
        exact ⟨⟨j + 1, by go_num, by omega, HN2, HB1⟩, by simp [intOf]; omega⟩
      | false =>
        have HRE : Hid (15 = R) := Lib.hid (by
          have h1 := if_hit HALL.out rfl (by decide)
          have h2 := HR.out
          rw [if_neg (by rw [h1]; decide)] at h2
          exact h1.symm.trans h2)
        clear HALL
        go_wp2_with fail
        refine HT.out.mono ?_
        rintro e1 w1 ⟨rfl, hb1⟩
        have HB1 := Lib.hid (HBV.out.trans hb1)
        clear hb1 HT z1
        go_wp2_with fail
        go_ret
        exact ⟨by rw [← HRE.out]; rfl, HB1.out⟩
    · have hji : ¬ (j : Int) < im := by omega
      have HR2 : Hid ((if B = 0 then if C = 0 then D else C else B) = R) := Lib.hid (by
        have h1 := HN.out
        rw [List.drop_of_length_le (by have := HIT.out; omega)] at h1
        have h2 := HR.out
        rwa [if_pos (by rw [← h1]; rfl)] at h2)
      have HS1 := Lib.hid (HS.out.go HB.out)
      obtain ⟨W1, hW1⟩ : ∃ X, X = wr := ⟨_, rfl⟩
      subst hW1
      have HBW1 := Lib.hid HB.out
      obtain ⟨na0, hna0⟩ : ∃ a, q.na = a := ⟨_, rfl⟩
      obtain ⟨nn, hnn⟩ : ∃ a, q.nm = a := ⟨_, rfl⟩
      obtain ⟨nc, hnc⟩ : ∃ a, q.nc = a := ⟨_, rfl⟩
      have k4 : W1.cell? ⟨cb, 4, none⟩ = some (.slice na0 nn nc) := by rw [← hna0, ← hnn, ← hnc]; exact HS1.out.bc.at 4
      have HIN : Hid (InpsAt u na0 m.ins ∧ m.ins.length = nn ∧ nn ≤ 1048576) := Lib.hid ⟨hna0 ▸ HS1.out.at'.ins, hnn ▸ HS1.out.at'.ln, by have := m.bulk_len; have := HBK.out; have := HS1.out.at'.ln; omega⟩
      have hnn2 : nn ≤ 1048576 := HIN.out.2.2
      clear hna0 hnn hnc HN HB k3 HS HR
      go_wp2_with fail
      go_loopw [40] (fun i wr => ∃ j : Nat, i = .int .i64 j ∧ j ≤ nn ∧ Hid (nz ((m.ins.drop j).map f2) = B) ∧ Hid (Bel W1 wr)) (fun i _ => nn - (intOf i).toNat)
      case atStart => exact ⟨0, rfl, Nat.zero_le _, Lib.hid (by rw [List.drop_zero]; exact HBB.out), Lib.hid (Bel.refl _)⟩
      case round =>
        obtain ⟨j1, rfl, hj1, HN, HB⟩ := hrel
        by_cases hjn : j1 < nn
        · as_aux_lemma =>
          have hji : (j1 : Int) < nn := by omega
          obtain ⟨x, hx⟩ : ∃ x, m.ins[j1]? = some x := ⟨_, List.getElem?_eq_getElem (by have := HIN.out; omega)⟩
          obtain ⟨b, off, rfl, hcl⟩ := HIN.out.1 j1 x hx
          have hcl2 := hcl.bel (HS1.out.bel.trans HB.out)
          have g0 := hcl2.get0
          have g1 := hcl2.get 1 rfl
          have g2 := hcl2.get 2 rfl
          have hxs : x.ty.size ≤ 1048576 := by have := Md.bulk_ins (List.mem_of_getElem? hx); have := HBK.out; unfold Inp.bulk at *; omega
          have hall := nz_map_drop f2 m.ins j1 x hx
          rw [HN.out, HF2.out] at hall
          obtain ⟨V, hV, hxV, hbV, hsV⟩ := alloc_step wr 33 (inpL x)
          obtain ⟨ib, hib⟩ : ∃ x, wr.heap.size = x := ⟨_, rfl⟩
          rw [hib] at hxV
          have z2 : V.cell? ⟨ib, 2, none⟩ = some (.string x.ty) := hxV.at 2
          have HT := Lib.hid (typed_c (HS1.out.go (HB.out.trans hbV)) HEB.out x.ty (by omega))
          have HBV := Lib.hid (HB.out.trans hbV)
          have HVN := Lib.hid hV
          have HIB := Lib.hid hib
          unfold inpL at HVN
          obtain ⟨K, hK⟩ : ∃ K, typedM m x.ty = K := ⟨_, rfl⟩
          rw [hK] at hall HT
          have HALL := Lib.hid hall
          clear hx hcl hcl2 hxs hV hxV hbV hsV hib k4 HN HB hall hK
          go_upto_region 10 with fail
          rw [show wr.alloc (.cells #[.string x.id, .string x.nm, .string x.ty] 33) = V from HVN.out, HIB.out]
          clear HVN g0 g1 g2
          by_cases hty : x.ty = ⟨#[]⟩
          · have HN2 : Hid (nz ((m.ins.drop (j1 + 1)).map f2) = B) := Lib.hid (if_miss HALL.out (fun e => e.1 hty)).symm
            rw [hty] at z2
            clear HALL HT hty
            go_wp2_with fail
            exact ⟨⟨j1 + 1, by go_num, by omega, HN2, HBV⟩, by simp [intOf]; omega⟩
          · have ht := str_ne hty
            cases K with
            | true =>
              have HN2 : Hid (nz ((m.ins.drop (j1 + 1)).map f2) = B) := Lib.hid (if_miss HALL.out (fun e => by cases e.2)).symm
              clear HALL hty
              go_wp2_with fail
              refine HT.out.mono ?_
              rintro e1 w1 ⟨rfl, hb1⟩
              have HB1 := Lib.hid (HBV.out.trans hb1)
              clear hb1 HT z2 ht
              go_wp2_with fail
              exact ⟨⟨j1 + 1, by go_num, by omega, HN2, HB1⟩, by simp [intOf]; omega⟩
            | false =>
              have HRE : Hid (15 = R) := Lib.hid (by
                have h1 := if_hit HALL.out ⟨hty, rfl⟩ (by decide)
                have h2 := HR2.out
                rw [if_neg (by rw [h1]; decide)] at h2
                exact h1.symm.trans h2)
              clear HALL hty
              go_wp2_with fail
              refine HT.out.mono ?_
              rintro e1 w1 ⟨rfl, hb1⟩
              have HB1 := Lib.hid (HBV.out.trans hb1)
              clear hb1 HT z2 ht
              go_wp2_with fail
              go_ret
              exact ⟨by rw [← HRE.out]; rfl, HBW1.out.trans HB1.out⟩
        · have hji : ¬ (j1 : Int) < nn := by omega
          have HR3 : Hid ((if C = 0 then D else C) = R) := Lib.hid (by
            have h1 := HN.out
            rw [List.drop_of_length_le (by have := HIN.out; omega)] at h1
            have h2 := HR2.out
            rwa [if_pos (by rw [← h1]; rfl)] at h2)
          have HS2 := Lib.hid (HS1.out.go HB.out)
          have HBW2 := Lib.hid (HBW1.out.trans HB.out)
          obtain ⟨W2, hW2⟩ : ∃ X, X = wr := ⟨_, rfl⟩
          subst hW2
          obtain ⟨ka0, hka0⟩ : ∃ a, q.ka = a := ⟨_, rfl⟩
          obtain ⟨dn, hdn⟩ : ∃ a, q.km = a := ⟨_, rfl⟩
          obtain ⟨dc, hdc⟩ : ∃ a, q.kc = a := ⟨_, rfl⟩
          have k5 : W2.cell? ⟨cb, 5, none⟩ = some (.slice ka0 dn dc) := by rw [← hka0, ← hdn, ← hdc]; exact HS2.out.bc.at 5
          have HKN : Hid (KnsAt u ka0 m.kns ∧ m.kns.length = dn ∧ dn ≤ 1048576) := Lib.hid ⟨hka0 ▸ HS2.out.at'.kns, hdn ▸ HS2.out.at'.lk, by have := m.bulk_len; have := HBK.out; have := HS2.out.at'.lk; omega⟩
          have hdn2 : dn ≤ 1048576 := HKN.out.2.2
          clear hka0 hdn hdc HN HB k4 HS1 HR2 HBW1
          go_wp2_with fail
          go_loopw [61] (fun i wr => ∃ j : Nat, i = .int .i64 j ∧ j ≤ dn ∧ Hid (nz ((m.kns.drop j).map (refKn m.things)) = C) ∧ Hid (Bel W2 wr)) (fun i _ => dn - (intOf i).toNat)
          case atStart => exact ⟨0, rfl, Nat.zero_le _, Lib.hid (by rw [List.drop_zero]; exact HCC.out), Lib.hid (Bel.refl _)⟩
          case round =>
            obtain ⟨j2, rfl, hj2, HN, HB⟩ := hrel
            by_cases hjn : j2 < dn
            · as_aux_lemma =>
              have hji : (j2 : Int) < dn := by omega
              obtain ⟨x, hx⟩ : ∃ x, m.kns[j2]? = some x := ⟨_, List.getElem?_eq_getElem (by have := HKN.out; omega)⟩
              obtain ⟨b, off, rfl, vn, vk, qq, hcl, ⟨pa, pc, rfl, hpc, hpa⟩, ⟨ka, kc, rfl, hkc, hka⟩, hlg⟩ := HKN.out.1 j2 x hx
              obtain ⟨nea, nen, nec, lea, len, lec, lia, lim, lic, sa, om, sc, ra, rm, rc, lna, lnm, lnc, la, lm, lc, rfl, _, _, _, _, _, _, _, _, _⟩ := hlg.opened
              obtain ⟨pn, hpn⟩ : ∃ n, x.ps.length = n := ⟨_, rfl⟩
              obtain ⟨kn, hkn⟩ : ∃ n, x.kw.length = n := ⟨_, rfl⟩
              rw [hpn, hkn] at hcl
              rw [hkn] at hkc
              have hbu := HS2.out.bel.trans HB.out
              have hcl2 := hcl.bel hbu
              have g0 := hcl2.get0
              have g1 := hcl2.get 1 rfl
              have g2 := hcl2.get 2 rfl
              have g3 := hcl2.get 3 rfl
              have g4 := hcl2.get 4 rfl
              have g5 := hcl2.get 5 rfl
              have g6 := hcl2.get 6 rfl
              have g7 := hcl2.get 7 rfl
              have g8 := hcl2.get 8 rfl
              have g9 := hcl2.get 9 rfl
              have g10 := hcl2.get 10 rfl
              have g11 := hcl2.get 11 rfl
              have g12 := hcl2.get 12 rfl
              have g13 := hcl2.get 13 rfl
              have g14 := hcl2.get 14 rfl
              have hxb := Md.bulk_kns (List.mem_of_getElem? hx)
              have hsz : (x.ps.length ≤ 1048576 ∧ ∀ y ∈ x.ps, y.size ≤ 1048576) ∧ (x.kw.length ≤ 1048576 ∧ ∀ y ∈ x.kw, y.size ≤ 1073741824) := by
                have := HBK.out
                have h1 : sumS x.ps ≤ 1048576 ∧ sumS x.kw ≤ 1048576 := by unfold Kn.bulk at hxb; omega
                exact ⟨⟨by have := len_sumS x.ps; omega, fun y hy => by have := mem_sumS x.ps y hy; omega⟩, ⟨by have := len_sumS x.kw; omega, fun y hy => by have := mem_sumS x.kw y hy; omega⟩⟩
              have hall := nz_map_drop (refKn m.things) m.kns j2 x hx
              rw [HN.out] at hall
              unfold refKn at hall
              obtain ⟨F, hF⟩ : ∃ F, freshE [] x.ps = F := ⟨_, rfl⟩
              obtain ⟨G, hG⟩ : ∃ F, refsE m.things [2] [] x.kw = F := ⟨_, rfl⟩
              rw [hF, hG] at hall
              obtain ⟨V, hV, hxV, hbV, hsV⟩ := alloc_step wr 44 (knL x (.slice pa pn pc) (.slice ka kn kc) ⟨.slice nea nen nec, .slice lea len lec, .slice lia lim lic, .slice sa om sc, .slice ra rm rc, .slice lna lnm lnc, .slice la lm lc⟩)
              obtain ⟨ib, hib⟩ : ∃ x, wr.heap.size = x := ⟨_, rfl⟩
              obtain ⟨sb, hsb⟩ : ∃ x, ib + 1 = x := ⟨_, rfl⟩
              have hsV2 : V.heap.size = sb := by rw [hsV, hib, hsb]
              rw [hib] at hxV
              obtain ⟨U, hU⟩ : ∃ X, V.alloc (.map #[] 0) = X := ⟨_, rfl⟩
              have hUM : MapV U sb 0 int0 (typC []) := by rw [← hU, ← hsV2]; exact MapV.congr (mv_new V int0) fun s => by unfold typC; rw [if_neg (by simp)]
              have hVU : Bel V U := by rw [← hU]; exact Bel.alloc _ _
              have HXU := Lib.hid (hxV.bel hVU)
              have HXV : Hid (Blk V ib 44 [.string x.id, .string x.nm, .slice pa pn pc, .slice ka kn kc, .int .i64 x.lg.k, .int .i64 x.lg.e.k, .string x.lg.e.s, .slice nea nen nec, .slice lea len lec, .string x.lg.p, .slice lia lim lic, .slice sa om sc, .slice ra rm rc, .slice lna lnm lnc, .slice la lm lc]) := Lib.hid hxV
              have HUV := Lib.hid (hbu.trans hbV)
              have HWV := Lib.hid (HB.out.trans hbV)
              have y2 : U.cell? ⟨ib, 2, none⟩ = some (.slice pa pn pc) := HXU.out.at 2
              have HBV := Lib.hid ((HB.out.trans hbV).trans hVU)
              have HVU := Lib.hid hVU
              have HUM := Lib.hid hUM
              have HVN := Lib.hid hV
              have HIB := Lib.hid hib
              have HSB := Lib.hid hsb
              have HSV := Lib.hid hsV2
              have HUE := Lib.hid hU
              have HPA := Lib.hid (hpa.bel (hbu.trans hbV))
              have HKA := Lib.hid (hka.bel (hbu.trans hbV))
              have HSZ := Lib.hid hsz
              have HPN := Lib.hid hpn
              have HKC : Hid (kn ≤ kc ∧ x.kw.length = kn) := Lib.hid ⟨hkc, hkn⟩
              have hpn2 : pn ≤ 1048576 := by omega
              have HF := Lib.hid hF
              have HG := Lib.hid hG
              have HALL := Lib.hid hall
              have hmm := @run_makeMap Tryz.prog
              clear hx hcl hcl2 hpa hpc hka hkc hlg hpn hkn hxb hsz hall hV hxV hbV hsV hsV2 hib hsb hU hUM hVU hbu k5 HN HB hF hG
              unfold knL lgC at HVN
              go_upto_region 17 with fail
              rw [show wr.alloc (.cells #[.string x.id, .string x.nm, .slice pa pn pc, .slice ka kn kc, .int .i64 x.lg.k, .int .i64 x.lg.e.k, .string x.lg.e.s, .slice nea nen nec, .slice lea len lec, .string x.lg.p, .slice lia lim lic, .slice sa om sc, .slice ra rm rc, .slice lna lnm lnc, .slice la lm lc] 44) = V from HVN.out, HIB.out, HSB.out, show V.alloc (.map #[] 0) = U from HUE.out]
              clear HVN HUE hmm g0 g1 g2 g3 g4 g5 g6 g7 g8 g9 g10 g11 g12 g13 g14
              obtain ⟨W3, hW3⟩ : ∃ X, X = wr := ⟨_, rfl⟩
              subst hW3
              go_wp2_with fail
              go_loopw [69] (fun i wr => ∃ k : Nat, i = .int .i64 k ∧ k ≤ pn ∧ Hid (MapV wr sb (x.ps.take k).length int0 (typC (x.ps.take k)) ∧ freshE (x.ps.take k) (x.ps.drop k) = F) ∧ Hid (Bel V wr)) (fun i _ => pn - (intOf i).toNat)
              case atStart => exact ⟨0, rfl, Nat.zero_le _, Lib.hid ⟨HUM.out, HF.out⟩, HVU⟩
              case round =>
                obtain ⟨k, rfl, hk, HMF, HBI⟩ := hrel
                by_cases hkp : k < pn
                · as_aux_lemma =>
                  have hki : (k : Int) < pn := by omega
                  obtain ⟨y, hy⟩ : ∃ y, x.ps[k]? = some y := ⟨_, List.getElem?_eq_getElem (by have := HPN.out; omega)⟩
                  obtain ⟨b3, off3, rfl, g0⟩ := HPA.out k y hy
                  have f0 : wr.cell? ⟨b3, off3 + k, none⟩ = some (.string y) := HBI.out.keep g0
                  have hlen : (x.ps.take k).length = k := by rw [List.length_take]; have := HPN.out; omega
                  have htk : x.ps.take k ++ [y] = x.ps.take (k + 1) := by rw [List.take_add_one, hy]; rfl
                  have hmf := HMF.out
                  rw [drop_at hy] at hmf
                  have hfp := fresh_p HBI.out (Nat.le_of_eq HSV.out) (HE.out.bel (HUV.out.trans HBI.out)) hmf.1 hmf.2 (by have := HSZ.out.1.2 y (List.mem_of_getElem? hy); omega) (by omega)
                  rw [htk, hlen] at hfp
                  have HFP := Lib.hid hfp
                  clear hy g0 hlen htk hmf hfp HMF y2
                  go_wp2_with fail
                  refine HFP.out.mono ?_
                  rintro e5 w5 ⟨E, rfl, hE5, hb5, hz5⟩
                  have HB5 := Lib.hid hb5
                  have HE5 := Lib.hid hE5
                  have HZ5 := Lib.hid hz5
                  clear hb5 hE5 hz5 HFP f0
                  by_cases hE0 : E = 0
                  · subst hE0
                    have HM2 := Lib.hid (HZ5.out rfl)
                    clear HE5 HZ5
                    go_wp2_with fail
                    exact ⟨⟨k + 1, by go_num, by omega, HM2, HB5⟩, by simp [intOf]; omega⟩
                  · have hcb : ((E : Int) == 0) = false := by simpa using hE0
                    have HRE : Hid (E = R) := Lib.hid (by
                      have h0 := HE5.out hE0
                      have h1 := HALL.out
                      rw [← h0, if_pos hE0, if_neg hE0] at h1
                      have h2 := HR3.out
                      rw [if_neg (by rw [h1]; exact hE0)] at h2
                      exact h1.symm.trans h2)
                    clear hE0 HE5 HZ5
                    go_wp2_with fail
                    go_ret
                    exact ⟨by rw [HRE.out]; rfl, HBW2.out.trans (HWV.out.trans HB5.out)⟩
                · as_aux_lemma =>
                  have hki : ¬ (k : Int) < pn := by omega
                  have hF0 : F = 0 := by
                    have h1 := HMF.out.2
                    rw [List.drop_of_length_le (by have := HPN.out; omega)] at h1
                    rw [← h1]; rfl
                  have HALL2 := HALL.out
                  rw [hF0, show (if (0 : Nat) ≠ 0 then 0 else G) = G from if_neg (fun e => e rfl)] at HALL2
                  have HAL2 := Lib.hid HALL2
                  have y3 : wr.cell? ⟨ib, 3, none⟩ = some (.slice ka kn kc) := (HXV.out.bel HBI.out).at 3
                  obtain ⟨T, h6, q6, l6, s6⟩ := alloc_step wr 3 [.int .i64 2]
                  have hrf := refs_c (HS2.out.go ((HWV.out.trans HBI.out).trans l6)) x.kw ka kn kc HKC.out.2 (by have := HSZ.out.2.1; have := HKC.out.2; omega) HKC.out.1 (HKA.out.bel (HBI.out.trans l6)) HSZ.out.2.2 [2] _ 1 1 rfl (by omega) (ints_at1 rfl q6)
                  rw [HG.out] at hrf
                  have HRF := Lib.hid hrf
                  have HT := Lib.hid h6
                  have HBT := Lib.hid (HBI.out.trans l6)
                  clear hF0 HALL HALL2 h6 q6 l6 s6 hrf HMF HUM HF y2
                  go_wp2_with fail
                  rw [show wr.alloc (.cells #[.int .i64 2] 3) = T from HT.out]
                  clear HT
                  refine HRF.out.mono ?_
                  rintro e5 w5 ⟨rfl, hb5⟩
                  have HB5 := Lib.hid (HWV.out.trans (HBT.out.trans hb5))
                  clear hb5 HRF y3
                  by_cases hG0 : G = 0
                  · subst hG0
                    have HN2 : Hid (nz ((m.kns.drop (j2 + 1)).map (refKn m.things)) = C) := Lib.hid (by have h1 := HAL2.out; rw [if_pos rfl] at h1; exact h1.symm)
                    clear HAL2
                    go_wp2_with fail
                    exact ⟨⟨j2 + 1, by go_num, by omega, HN2, HB5⟩, by simp [intOf]; omega⟩
                  · have hcb : ((G : Int) == 0) = false := by simpa using hG0
                    have HRE : Hid (G = R) := Lib.hid (by
                      have h1 := HAL2.out
                      rw [if_neg hG0] at h1
                      have h2 := HR3.out
                      rw [if_neg (by rw [h1]; exact hG0)] at h2
                      exact h1.symm.trans h2)
                    clear hG0 HAL2
                    go_wp2_with fail
                    go_ret
                    exact ⟨by rw [HRE.out]; rfl, HBW2.out.trans HB5.out⟩

            · have hji : ¬ (j2 : Int) < dn := by omega
              have HR4 : Hid (D = R) := Lib.hid (by
                have h1 := HN.out
                rw [List.drop_of_length_le (by have := HKN.out; omega)] at h1
                have h2 := HR3.out
                rwa [if_pos (by rw [← h1]; rfl)] at h2)
              have HS3 := Lib.hid (HS2.out.go HB.out)
              have HBW3 := Lib.hid (HBW2.out.trans HB.out)
              obtain ⟨W3, hW3⟩ : ∃ X, X = wr := ⟨_, rfl⟩
              subst hW3
              obtain ⟨da0, hda0⟩ : ∃ a, q.da = a := ⟨_, rfl⟩
              obtain ⟨en, hen⟩ : ∃ a, q.dm = a := ⟨_, rfl⟩
              obtain ⟨ec, hec⟩ : ∃ a, q.dc = a := ⟨_, rfl⟩
              have k6 : W3.cell? ⟨cb, 6, none⟩ = some (.slice da0 en ec) := by rw [← hda0, ← hen, ← hec]; exact HS3.out.bc.at 6
              have HDS : Hid (DesAt u da0 m.des ∧ m.des.length = en ∧ en ≤ 1048576) := Lib.hid ⟨hda0 ▸ HS3.out.at'.des, hen ▸ HS3.out.at'.ld, by have := m.bulk_len; have := HBK.out; have := HS3.out.at'.ld; omega⟩
              have hen2 : en ≤ 1048576 := HDS.out.2.2
              clear hda0 hen hec HN HB k5 HS2 HR3 HBW2
              go_wp2_with fail
              go_loopw [97] (fun i wr => ∃ j : Nat, i = .int .i64 j ∧ j ≤ en ∧ Hid (nz ((m.des.drop j).map (refDe m m.things)) = D) ∧ Hid (Bel W3 wr)) (fun i _ => en - (intOf i).toNat)
              case atStart => exact ⟨0, rfl, Nat.zero_le _, Lib.hid (by rw [List.drop_zero]; exact HDD.out), Lib.hid (Bel.refl _)⟩
              case round =>
                obtain ⟨j3, rfl, hj3, HN, HB⟩ := hrel
                by_cases hjn : j3 < en
                · as_aux_lemma =>
                  have hji : (j3 : Int) < en := by omega
                  obtain ⟨x, hx⟩ : ∃ x, m.des[j3]? = some x := ⟨_, List.getElem?_eq_getElem (by have := HDS.out; omega)⟩
                  obtain ⟨b, off, rfl, vn, vk, qq, hcl, ⟨pa, pc, rfl, hpc, hpa⟩, ⟨ka, kc, rfl, hkc, hka⟩, hlg⟩ := HDS.out.1 j3 x hx
                  obtain ⟨nea, nen, nec, lea, len, lec, lia, lim, lic, sa, om, sc, ra, rm, rc, lna, lnm, lnc, la, lm, lc, rfl, _, _, _, _, _, _, _, _, _⟩ := hlg.opened
                  obtain ⟨pn, hpn⟩ : ∃ n, x.nd.length = n := ⟨_, rfl⟩
                  obtain ⟨kn, hkn⟩ : ∃ n, x.kw.length = n := ⟨_, rfl⟩
                  rw [hpn, hkn] at hcl
                  rw [hkn] at hkc
                  rw [hpn] at hpc
                  have hbu := HS3.out.bel.trans HB.out
                  have hcl2 := hcl.bel hbu
                  have g0 := hcl2.get0
                  have g1 := hcl2.get 1 rfl
                  have g2 := hcl2.get 2 rfl
                  have g3 := hcl2.get 3 rfl
                  have g4 := hcl2.get 4 rfl
                  have g5 := hcl2.get 5 rfl
                  have g6 := hcl2.get 6 rfl
                  have g7 := hcl2.get 7 rfl
                  have g8 := hcl2.get 8 rfl
                  have g9 := hcl2.get 9 rfl
                  have g10 := hcl2.get 10 rfl
                  have g11 := hcl2.get 11 rfl
                  have g12 := hcl2.get 12 rfl
                  have g13 := hcl2.get 13 rfl
                  have g14 := hcl2.get 14 rfl
                  have g15 := hcl2.get 15 rfl
                  have hxb := Md.bulk_des (List.mem_of_getElem? hx)
                  have hsz : (x.nd.length ≤ 1048576 ∧ ∀ y ∈ x.nd, y.size ≤ 1073741824) ∧ (x.kw.length ≤ 1048576 ∧ ∀ y ∈ x.kw, y.size ≤ 1073741824) := by
                    have := HBK.out
                    have h1 : sumS x.nd ≤ 1048576 ∧ sumS x.kw ≤ 1048576 := by unfold De.bulk at hxb; omega
                    exact ⟨⟨by have := len_sumS x.nd; omega, fun y hy => by have := mem_sumS x.nd y hy; omega⟩, ⟨by have := len_sumS x.kw; omega, fun y hy => by have := mem_sumS x.kw y hy; omega⟩⟩
                  have hxs : x.ty.size ≤ 1048576 := by have := HBK.out; unfold De.bulk at hxb; omega
                  have hall := nz_map_drop (refDe m m.things) m.des j3 x hx
                  rw [HN.out] at hall
                  unfold refDe at hall
                  obtain ⟨F, hF⟩ : ∃ F, refsE m.things [1, 3] [] x.nd = F := ⟨_, rfl⟩
                  obtain ⟨G, hG⟩ : ∃ F, refsE m.things [2] [] x.kw = F := ⟨_, rfl⟩
                  obtain ⟨K, hK⟩ : ∃ K, typedM m x.ty = K := ⟨_, rfl⟩
                  rw [hF, hG, hK] at hall
                  obtain ⟨V, hV, hxV, hbV, hsV⟩ := alloc_step wr 46 (deL x (.slice pa pn pc) (.slice ka kn kc) ⟨.slice nea nen nec, .slice lea len lec, .slice lia lim lic, .slice sa om sc, .slice ra rm rc, .slice lna lnm lnc, .slice la lm lc⟩)
                  obtain ⟨ib, hib⟩ : ∃ x, wr.heap.size = x := ⟨_, rfl⟩
                  rw [hib] at hxV
                  have z2 : V.cell? ⟨ib, 2, none⟩ = some (.string x.ty) := hxV.at 2
                  have HT := Lib.hid (typed_c (HS3.out.go (HB.out.trans hbV)) HEB.out x.ty (by omega))
                  rw [hK] at HT
                  have HXV : Hid (Blk V ib 46 [.string x.id, .string x.nm, .string x.ty, .slice pa pn pc, .slice ka kn kc, .int .i64 x.lg.k, .int .i64 x.lg.e.k, .string x.lg.e.s, .slice nea nen nec, .slice lea len lec, .string x.lg.p, .slice lia lim lic, .slice sa om sc, .slice ra rm rc, .slice lna lnm lnc, .slice la lm lc]) := Lib.hid hxV
                  have HWV := Lib.hid (HB.out.trans hbV)
                  have HVN := Lib.hid hV
                  have HIB := Lib.hid hib
                  have HPA := Lib.hid (hpa.bel (hbu.trans hbV))
                  have HKA := Lib.hid (hka.bel (hbu.trans hbV))
                  have HSZ := Lib.hid hsz
                  have HKC : Hid ((pn ≤ pc ∧ x.nd.length = pn) ∧ (kn ≤ kc ∧ x.kw.length = kn)) := Lib.hid ⟨⟨hpc, hpn⟩, hkc, hkn⟩
                  have HF := Lib.hid hF
                  have HG := Lib.hid hG
                  have HALL := Lib.hid hall
                  have HVV := Lib.hid (Bel.refl V)
                  clear hx hcl hcl2 hpa hpc hka hkc hlg hpn hkn hxb hsz hxs hall hV hxV hbV hsV hib hbu k6 HN HB hF hG hK
                  unfold deL lgC at HVN
                  go_upto_region 31 with fail
                  rw [show wr.alloc (.cells #[.string x.id, .string x.nm, .string x.ty, .slice pa pn pc, .slice ka kn kc, .int .i64 x.lg.k, .int .i64 x.lg.e.k, .string x.lg.e.s, .slice nea nen nec, .slice lea len lec, .string x.lg.p, .slice lia lim lic, .slice sa om sc, .slice ra rm rc, .slice lna lnm lnc, .slice la lm lc] 46) = V from HVN.out, HIB.out]
                  clear HVN g0 g1 g2 g3 g4 g5 g6 g7 g8 g9 g10 g11 g12 g13 g14 g15
                  by_cases hty : x.ty = ⟨#[]⟩
                  · have HAL2 : Hid (D = if (if F ≠ 0 then F else G) = 0 then nz ((m.des.drop (j3 + 1)).map (refDe m m.things)) else (if F ≠ 0 then F else G)) := Lib.hid (by have h1 := HALL.out; rwa [show (if x.ty ≠ ⟨#[]⟩ ∧ K = false then 15 else if F ≠ 0 then F else G) = (if F ≠ 0 then F else G) from if_neg (fun e => e.1 hty)] at h1)
                    rw [hty] at z2
                    clear HALL HT hty
                    have x3 : V.cell? ⟨ib, 3, none⟩ = some (.slice pa pn pc) := (HXV.out.bel HVV.out).at 3
                    obtain ⟨T1, h6, q6, l6, s6⟩ := alloc_step V 3 [.int .i64 1, .int .i64 3]
                    have hrf := refs_c (HS3.out.go ((HWV.out.trans HVV.out).trans l6)) x.nd pa pn pc HKC.out.1.2 (by have := HSZ.out.1.1; have := HKC.out.1.2; omega) HKC.out.1.1 (HPA.out.bel (HVV.out.trans l6)) HSZ.out.1.2 [1, 3] _ 2 2 rfl (by omega) (ints_at2 rfl rfl q6)
                    rw [HF.out] at hrf
                    have HRF := Lib.hid hrf
                    have HT1 := Lib.hid h6
                    have HBT1 := Lib.hid (HVV.out.trans l6)
                    clear h6 q6 l6 s6 hrf
                    go_wp2_with fail
                    rw [show V.alloc (.cells #[.int .i64 1, .int .i64 3] 3) = T1 from HT1.out]
                    clear HT1
                    refine HRF.out.mono ?_
                    rintro e5 w5 ⟨rfl, hb5⟩
                    have HV5 := Lib.hid (HBT1.out.trans hb5)
                    clear hb5 HRF x3 HBT1
                    by_cases hF0 : F = 0
                    case neg =>
                      have hcb : ((F : Int) == 0) = false := by simpa using hF0
                      have HRE : Hid (F = R) := Lib.hid (by
                        have h1 := HAL2.out
                        rw [show (if F ≠ 0 then F else G) = F from if_pos hF0, if_neg hF0] at h1
                        exact h1.symm.trans HR4.out)
                      clear hF0 HAL2
                      go_wp2_with fail
                      go_ret
                      exact ⟨by rw [HRE.out]; rfl, HBW3.out.trans (HWV.out.trans HV5.out)⟩
                    case pos =>
                    subst hF0
                    have HAL3 : Hid (D = if G = 0 then nz ((m.des.drop (j3 + 1)).map (refDe m m.things)) else G) := Lib.hid (by
                      have h1 := HAL2.out
                      rwa [show (if (0 : Nat) ≠ 0 then 0 else G) = G from if_neg (fun e => e rfl)] at h1)
                    have x4 : w5.cell? ⟨ib, 4, none⟩ = some (.slice ka kn kc) := (HXV.out.bel HV5.out).at 4
                    obtain ⟨T2, h7, q7, l7, s7⟩ := alloc_step w5 3 [.int .i64 2]
                    have hrg := refs_c (HS3.out.go ((HWV.out.trans HV5.out).trans l7)) x.kw ka kn kc HKC.out.2.2 (by have := HSZ.out.2.1; have := HKC.out.2.2; omega) HKC.out.2.1 (HKA.out.bel (HV5.out.trans l7)) HSZ.out.2.2 [2] _ 1 1 rfl (by omega) (ints_at1 rfl q7)
                    rw [HG.out] at hrg
                    have HRG := Lib.hid hrg
                    have HT2 := Lib.hid h7
                    have HBT2 := Lib.hid (HV5.out.trans l7)
                    clear h7 q7 l7 s7 hrg HAL2
                    go_wp2_with fail
                    rw [show w5.alloc (.cells #[.int .i64 2] 3) = T2 from HT2.out]
                    clear HT2
                    refine HRG.out.mono ?_
                    rintro e6 w6 ⟨rfl, hb6⟩
                    have HB6 := Lib.hid (HWV.out.trans (HBT2.out.trans hb6))
                    clear hb6 HRG x4 HBT2
                    by_cases hG0 : G = 0
                    · subst hG0
                      have HN2 : Hid (nz ((m.des.drop (j3 + 1)).map (refDe m m.things)) = D) := Lib.hid (by have h1 := HAL3.out; rw [if_pos rfl] at h1; exact h1.symm)
                      clear HAL3
                      go_wp2_with fail
                      exact ⟨⟨j3 + 1, by go_num, by omega, HN2, HB6⟩, by simp [intOf]; omega⟩
                    · have hcb : ((G : Int) == 0) = false := by simpa using hG0
                      have HRE : Hid (G = R) := Lib.hid (by
                        have h1 := HAL3.out
                        rw [if_neg hG0] at h1
                        exact h1.symm.trans HR4.out)
                      clear hG0 HAL3
                      go_wp2_with fail
                      go_ret
                      exact ⟨by rw [HRE.out]; rfl, HBW3.out.trans HB6.out⟩
                  · have ht := str_ne hty
                    cases K with
                    | true =>
                      have HAL2 : Hid (D = if (if F ≠ 0 then F else G) = 0 then nz ((m.des.drop (j3 + 1)).map (refDe m m.things)) else (if F ≠ 0 then F else G)) := Lib.hid (by have h1 := HALL.out; rwa [show (if x.ty ≠ ⟨#[]⟩ ∧ true = false then 15 else if F ≠ 0 then F else G) = (if F ≠ 0 then F else G) from if_neg (fun e => by cases e.2)] at h1)
                      clear HALL hty
                      go_wp2_with fail
                      refine HT.out.mono ?_
                      rintro e1 w1 ⟨rfl, hb1⟩
                      have HV1 := Lib.hid hb1
                      clear hb1 HT z2 ht
                      have x3 : w1.cell? ⟨ib, 3, none⟩ = some (.slice pa pn pc) := (HXV.out.bel HV1.out).at 3
                      obtain ⟨T1, h6, q6, l6, s6⟩ := alloc_step w1 3 [.int .i64 1, .int .i64 3]
                      have hrf := refs_c (HS3.out.go ((HWV.out.trans HV1.out).trans l6)) x.nd pa pn pc HKC.out.1.2 (by have := HSZ.out.1.1; have := HKC.out.1.2; omega) HKC.out.1.1 (HPA.out.bel (HV1.out.trans l6)) HSZ.out.1.2 [1, 3] _ 2 2 rfl (by omega) (ints_at2 rfl rfl q6)
                      rw [HF.out] at hrf
                      have HRF := Lib.hid hrf
                      have HT1 := Lib.hid h6
                      have HBT1 := Lib.hid (HV1.out.trans l6)
                      clear h6 q6 l6 s6 hrf
                      go_wp2_with fail
                      rw [show w1.alloc (.cells #[.int .i64 1, .int .i64 3] 3) = T1 from HT1.out]
                      clear HT1
                      refine HRF.out.mono ?_
                      rintro e5 w5 ⟨rfl, hb5⟩
                      have HV5 := Lib.hid (HBT1.out.trans hb5)
                      clear hb5 HRF x3 HBT1
                      by_cases hF0 : F = 0
                      case neg =>
                        have hcb : ((F : Int) == 0) = false := by simpa using hF0
                        have HRE : Hid (F = R) := Lib.hid (by
                          have h1 := HAL2.out
                          rw [show (if F ≠ 0 then F else G) = F from if_pos hF0, if_neg hF0] at h1
                          exact h1.symm.trans HR4.out)
                        clear hF0 HAL2
                        go_wp2_with fail
                        go_ret
                        exact ⟨by rw [HRE.out]; rfl, HBW3.out.trans (HWV.out.trans HV5.out)⟩
                      case pos =>
                      subst hF0
                      have HAL3 : Hid (D = if G = 0 then nz ((m.des.drop (j3 + 1)).map (refDe m m.things)) else G) := Lib.hid (by
                        have h1 := HAL2.out
                        rwa [show (if (0 : Nat) ≠ 0 then 0 else G) = G from if_neg (fun e => e rfl)] at h1)
                      have x4 : w5.cell? ⟨ib, 4, none⟩ = some (.slice ka kn kc) := (HXV.out.bel HV5.out).at 4
                      obtain ⟨T2, h7, q7, l7, s7⟩ := alloc_step w5 3 [.int .i64 2]
                      have hrg := refs_c (HS3.out.go ((HWV.out.trans HV5.out).trans l7)) x.kw ka kn kc HKC.out.2.2 (by have := HSZ.out.2.1; have := HKC.out.2.2; omega) HKC.out.2.1 (HKA.out.bel (HV5.out.trans l7)) HSZ.out.2.2 [2] _ 1 1 rfl (by omega) (ints_at1 rfl q7)
                      rw [HG.out] at hrg
                      have HRG := Lib.hid hrg
                      have HT2 := Lib.hid h7
                      have HBT2 := Lib.hid (HV5.out.trans l7)
                      clear h7 q7 l7 s7 hrg HAL2
                      go_wp2_with fail
                      rw [show w5.alloc (.cells #[.int .i64 2] 3) = T2 from HT2.out]
                      clear HT2
                      refine HRG.out.mono ?_
                      rintro e6 w6 ⟨rfl, hb6⟩
                      have HB6 := Lib.hid (HWV.out.trans (HBT2.out.trans hb6))
                      clear hb6 HRG x4 HBT2
                      by_cases hG0 : G = 0
                      · subst hG0
                        have HN2 : Hid (nz ((m.des.drop (j3 + 1)).map (refDe m m.things)) = D) := Lib.hid (by have h1 := HAL3.out; rw [if_pos rfl] at h1; exact h1.symm)
                        clear HAL3
                        go_wp2_with fail
                        exact ⟨⟨j3 + 1, by go_num, by omega, HN2, HB6⟩, by simp [intOf]; omega⟩
                      · have hcb : ((G : Int) == 0) = false := by simpa using hG0
                        have HRE : Hid (G = R) := Lib.hid (by
                          have h1 := HAL3.out
                          rw [if_neg hG0] at h1
                          exact h1.symm.trans HR4.out)
                        clear hG0 HAL3
                        go_wp2_with fail
                        go_ret
                        exact ⟨by rw [HRE.out]; rfl, HBW3.out.trans HB6.out⟩
                    | false =>
                      have HRE : Hid (15 = R) := Lib.hid (by
                        have h1 := HALL.out
                        rw [show (if x.ty ≠ ⟨#[]⟩ ∧ false = false then 15 else if F ≠ 0 then F else G) = 15 from if_pos ⟨hty, rfl⟩, if_neg (by decide)] at h1
                        exact h1.symm.trans HR4.out)
                      clear HALL hty
                      go_wp2_with fail
                      refine HT.out.mono ?_
                      rintro e1 w1 ⟨rfl, hb1⟩
                      have HB1 := Lib.hid (HWV.out.trans hb1)
                      clear hb1 HT z2 ht
                      go_wp2_with fail
                      go_ret
                      exact ⟨by rw [← HRE.out]; rfl, HBW3.out.trans HB1.out⟩
                · have hji : ¬ (j3 : Int) < en := by omega
                  have HRE : Hid (R = 0) := Lib.hid (by
                    have h1 := HN.out
                    rw [List.drop_of_length_le (by have := HDS.out; omega)] at h1
                    rw [← HR4.out, ← h1]
                    rfl)
                  clear HN
                  go_wp2_with fail
                  go_ret
                  exact ⟨by rw [HRE.out]; rfl, HBW3.out.trans HB.out⟩
end Go.Proofs.YtbcdbefogfmhfaaGreatDoor
