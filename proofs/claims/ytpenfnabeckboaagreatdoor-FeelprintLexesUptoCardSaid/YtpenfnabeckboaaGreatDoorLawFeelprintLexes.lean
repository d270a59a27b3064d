/-
  The walk of the law FeelprintLexes: whatever the expression: true.
-/
import Derived.Test.YtpenfnabeckboaaGreatDoorFPM
import Derived.Test.YtpenfnabeckboaaGreatDoorRXA
import Derived.Test.YtpenfnabeckboaaGreatDoorEXE
import Derived.Test.YtpenfnabeckboaaGreatDoorEHW
import Derived.Test.YtpenfnabeckboaaGreatDoorFTK
namespace Go.Proofs.YtpenfnabeckboaaGreatDoor
open Go.RowKit

theorem greatE_nx {e : Ex} (h : greatE e = false) : cE e ≤ 1500 ∧ bE e ≤ 8000 := by
  unfold greatE at h
  simp at h
  omega
theorem own_slice {W : World} {B : Nat} {v : Value} {L : List (Int × Nat × ByteArray)} (h : W.ownsRow B 43 3 v L.length (lexCells L)) : ∃ a cap, v = .slice a L.length cap := by
  obtain ⟨a, cap, h1, _⟩ := rowL_form (own_rowL h)
  exact ⟨a, cap, by rw [h1, List.length_map]⟩
theorem rowL_cells {W : World} {a : Option Addr} {q c : Nat} {l : List (Int × Nat × ByteArray)} (h : RowL W (.slice a q c) (l.map toLx)) {i : Nat} {z : Int × Nat × ByteArray} (hz : l[i]? = some z) :
    ∃ g off, a = some ⟨g, off, none⟩ ∧ q ≤ c ∧ g < W.heap.size ∧ ∀ j x, l[j]? = some x → W.cell? ⟨g, off + j * 3, none⟩ = some (.int .i64 x.1) ∧ W.cell? ⟨g, off + j * 3 + 1, none⟩ = some (.int .i64 x.2.1) ∧ W.cell? ⟨g, off + j * 3 + 2, none⟩ = some (.string x.2.2) := by
  rcases h with ⟨_, h0⟩ | ⟨b, off, cap, h1, h2, h3, h4⟩
  · rw [List.map_eq_nil_iff.1 h0] at hz; cases hz
  · injection h1 with e1 e2 e3
    exact ⟨b, off, e1, by omega, h3, fun j x hx => h4 j (toLx x) (by rw [List.getElem?_map, hx]; rfl)⟩
set_option maxRecDepth 100000 in
set_option maxHeartbeats 8000000 in
theorem feelprintLexes_walk {w : World} (e : Ex) (en el : Value) (he : ExAt w e en el) (hbe : e.bulk ≤ 1048576) (hEG : EnvX w ∧ SignsAt w) :
    Calls Tryz.prog 5 #[exV e en el] w (RetBel (.bool true) w) := by
  obtain ⟨hE, hG⟩ := hEG
  have HX := Lib.hid he
  have HE := Lib.hid hE
  have HG0 := Lib.hid hG
  obtain ⟨na, la, nn, nc, m, lc, rfl, rfl, _, hml, _, hmc, _, _, _, hpa⟩ := he.opened
  unfold exV
  have HRC := Lib.hid (fun W (hW : Bel w W) => rcheck_x e _ _ W (by omega) (ExAt.bel hW e he))
  have HPR := Lib.hid (fun W (hW : Bel w W) => print_c e _ _ _ _ _ _ W (HE.out.bel hW) (by omega) (ExAt.bel hW e he))
  have HBA := Lib.hid (fun W (hW : Bel w W) => bare_c e _ _ _ _ _ _ W (HE.out.bel hW) (by omega) (ExAt.bel hW e he))
  have HLX := Lib.hid (fun (S : ByteArray) (hS : S.size ≤ 1073741824) W (hW : Bel w W) => lex_c S (by omega) W (HE.out.1.bel hW) (signs_bel HG0.out hW))
  obtain ⟨c, hc⟩ : ∃ c, CheckE e = c := ⟨_, rfl⟩
  have hsz : c = 0 → (textE2 false e).size ≤ 1073741824 ∧ (textE2 true e).size ≤ 1073741824 := fun h => by
    have h1 := text_size (hc.trans h) false
    have h2 := text_size (hc.trans h) true
    omega
  have hex := fun (h : c = 0) => lexes (e := e) (hc.trans h)
  obtain ⟨TT, hTT⟩ : ∃ T, textE2 false e = T := ⟨_, rfl⟩
  obtain ⟨TB, hTB⟩ : ∃ T, textE2 true e = T := ⟨_, rfl⟩
  rw [hc] at HRC HPR HBA
  rw [hTT] at HPR hsz hex
  rw [hTB] at HBA hsz hex
  have HC := Lib.hid hc
  have HSZ := Lib.hid hsz
  have HEX := Lib.hid hex
  clear he hE hG hc hpa hml hsz hex hTT hTB
  go_enter Tryz.func5, Tryz.ntmps5
  go_wp2_with fail
  obtain ⟨V1, h1, k1, l1, s1⟩ := alloc_step w 25 [.int .i64 e.k, .string e.s, .slice na nn nc, .slice la m lc]
  rw [h1]
  have BX := Lib.hid k1
  have HV := Lib.hid l1
  clear h1 k1 l1 s1
  refine (falive_c _ (HE.out.bel HV.out)).mono ?_
  rintro e1 w1 ⟨rfl, hb1⟩
  have c0 := hb1.keep (BX.out.at 0)
  have c1 := hb1.keep (BX.out.at 1)
  have c2 := hb1.keep (BX.out.at 2)
  have c3 := hb1.keep (BX.out.at 3)
  have HB1 := Lib.hid (HV.out.trans hb1)
  clear hb1
  go_wp2_with fail
  obtain ⟨V3, h3, k3, l3, s3⟩ := alloc_step w1 25 [.int .i64 e.k, .string e.s, .slice na nn nc, .slice la m lc]
  rw [h3]
  have hb3 := HB1.out.trans l3
  have HG := Lib.hid (egreat_c [e] (some ⟨w1.heap.size, 0, none⟩) 1 1 V3 rfl (by omega) (parts_of_exs (exs_one k3 rfl (ExAt.bel hb3 e HX.out))) (by intro x hx; simp at hx; subst hx; omega))
  have e0 := l3.keep c0
  have e1 := l3.keep c1
  have e2 := l3.keep c2
  have e3 := l3.keep c3
  have HB3 := Lib.hid hb3
  clear h3 k3 l3 s3 hb3 c0 c1 c2 c3
  refine HG.out.mono ?_
  rintro e4 w4 ⟨rfl, hb4⟩
  have c0 := hb4.keep e0
  have c1 := hb4.keep e1
  have c2 := hb4.keep e2
  have c3 := hb4.keep e3
  have HB4 := Lib.hid (HB3.out.trans hb4)
  obtain ⟨g, hg⟩ : ∃ g, [e].any greatE = g := ⟨_, rfl⟩
  rw [hg]
  rw [List.any_cons, List.any_nil, Bool.or_false] at hg
  have HGR := Lib.hid hg
  clear e0 e1 e2 e3 hb4 hg HG
  cases g with
  | true =>
    have h1 : oneIf true = 1 := rfl
    rw [h1]
    go_wp2_with fail
    refine (falive_c _ (HE.out.bel HB4.out)).mono ?_
    rintro e5 w5 ⟨rfl, hb5⟩
    go_wp2_with fail
    go_ret
    exact ⟨rfl, HB4.out.trans hb5⟩
  | false =>
  have h1 : oneIf false = 0 := rfl
  rw [h1]
  have HGF := Lib.hid (greatE_nx HGR.out)
  clear h1 HGR
  go_wp2_with fail
  refine (HPR.out _ HB4.out).mono ?_
  rintro e6 w6 ⟨rfl, hb6⟩
  have d0 := hb6.keep c0
  have d1 := hb6.keep c1
  have d2 := hb6.keep c2
  have d3 := hb6.keep c3
  have HB6 := Lib.hid (HB4.out.trans hb6)
  clear c0 c1 c2 c3 hb6
  go_wp2_with fail
  refine (HBA.out _ HB6.out).mono ?_
  rintro e7 w7 ⟨rfl, hb7⟩
  have HB7 := Lib.hid (HB6.out.trans hb7)
  clear d0 d1 d2 d3 hb7
  by_cases h0 : c = 0
  · subst h0
    obtain ⟨n1, n2, La, Lb, hla, hlb, hle, hpl⟩ := HEX.out rfl
    obtain ⟨hs1, hs2⟩ := HSZ.out rfl
    have HL1 : Hid (∀ W, Bel w W → Calls Tryz.prog 15 #[.string TT] W (RetLex (La, n1, 0) W)) := Lib.hid fun W hW => by rw [← hla]; exact HLX.out TT hs1 W hW
    have HL2 : Hid (∀ W, Bel w W → Calls Tryz.prog 15 #[.string TB] W (RetLex (Lb, n2, 0) W)) := Lib.hid fun W hW => by rw [← hlb]; exact HLX.out TB hs2 W hW
    have hq1 := lexS_len TT
    have hq2 := lexS_len TB
    rw [hla] at hq1
    rw [hlb] at hq2
    dsimp only at hq1 hq2
    have HP1 : Hid (∀ v W, RowL W v (La.map toLx) → _) := Lib.hid fun v W hv => plain_c La (by omega) v W hv
    have HP2 : Hid (∀ v W, RowL W v (Lb.map toLx) → _) := Lib.hid fun v W hv => plain_c Lb (by omega) v W hv
    have hpn : (plainT La).length = (plainT Lb).length := by have := congrArg List.length hpl; rwa [List.length_map, List.length_map] at this
    have hqb : (plainT Lb).length ≤ 1073741825 := Nat.le_trans (plainT_le Lb) (by omega)
    have HQB := Lib.hid hqb
    clear hqb
    have HPL := Lib.hid hpl
    have hle2 : ¬ ((La.length : Int) > Lb.length) := by omega
    obtain ⟨na2, hna2⟩ : ∃ n, La.length = n := ⟨_, rfl⟩
    obtain ⟨nb2, hnb2⟩ : ∃ n, Lb.length = n := ⟨_, rfl⟩
    rw [hna2, hnb2] at hle2
    have HNA := Lib.hid hna2
    have HNB := Lib.hid hnb2
    have HPN := Lib.hid hpn
    clear hla hlb hle hpl hs1 hs2 hq1 hq2 hna2 hnb2 hpn
    go_wp2_with fail
    refine (HL1.out _ HB7.out).mono ?_
    rintro e8 w8 ⟨hb8, v8, rfl, ho8⟩
    obtain ⟨a8, c8, rfl⟩ := own_slice ho8
    have HO8 := Lib.hid ho8
    rw [show La.length = na2 from HNA.out]
    have HB8 := Lib.hid (HB7.out.trans hb8)
    clear hb8 ho8
    go_wp2_with fail
    refine (HL2.out _ HB8.out).mono ?_
    rintro e9 w9 ⟨hb9, v9, rfl, ho9⟩
    obtain ⟨a9, c9, rfl⟩ := own_slice ho9
    have HR8 := Lib.hid ((own_rowL HO8.out).bel hb9)
    have HR9 := Lib.hid (own_rowL ho9)
    rw [show La.length = na2 from HNA.out] at HR8
    rw [show Lb.length = nb2 from HNB.out] at HR9 ⊢
    have HB9 := Lib.hid (HB8.out.trans hb9)
    clear hb9 ho9 HO8
    go_wp2_with fail
    refine (HP1.out _ _ HR8.out).mono ?_
    rintro e10 w10 ⟨hb10, v10, rfl, ho10⟩
    obtain ⟨a10, c10, rfl⟩ := own_slice ho10
    have HR9b := Lib.hid (HR9.out.bel hb10)
    have HR10 := Lib.hid (own_rowL ho10)
    have HB10 := Lib.hid (HB9.out.trans hb10)
    clear hb10 ho10 HR8 HR9
    go_wp2_with fail
    refine (HP2.out _ _ HR9b.out).mono ?_
    rintro e11 w11 ⟨hb11, v11, rfl, ho11⟩
    obtain ⟨a11, c11, rfl⟩ := own_slice ho11
    have HR10b := Lib.hid (HR10.out.bel hb11)
    have HR11 := Lib.hid (own_rowL ho11)
    rw [show (plainT La).length = (plainT Lb).length from HPN.out] at HR10b ⊢
    obtain ⟨q, hq⟩ : ∃ q, (plainT Lb).length = q := ⟨_, rfl⟩
    rw [hq] at HR10b HR11 HQB ⊢
    have hqb := HQB.out
    have HQ := Lib.hid hq
    have HB11 := Lib.hid (HB10.out.trans hb11)
    clear hb11 ho11 HR10 HR9b hq
    go_wp2_with fail
    go_loopw [80] (fun i wr => ∃ j : Nat, j ≤ q ∧ i = .int .i64 j ∧ Bel w11 wr) (fun i _ => q - (intOf i).toNat)
    case atStart => exact ⟨0, Nat.zero_le _, rfl, Bel.refl _⟩
    case round =>
      obtain ⟨j, hj, rfl, hbel⟩ := hrel
      by_cases hlt : j < q
      · have hlti : (j : Int) < q := by omega
        obtain ⟨y, hy⟩ : ∃ y, (plainT Lb)[j]? = some y := ⟨_, List.getElem?_eq_getElem (by have := HQ.out; omega)⟩
        obtain ⟨x, hx⟩ : ∃ y, (plainT La)[j]? = some y := ⟨_, List.getElem?_eq_getElem (by have := HQ.out; have := HPN.out; omega)⟩
        obtain ⟨e1, e2⟩ := un_at HPL.out hx hy
        obtain ⟨g1, o1, rfl, hc1, hg1, hcl1⟩ := rowL_cells HR10b.out hx
        obtain ⟨g2, o2, rfl, hc2, hg2, hcl2⟩ := rowL_cells HR11.out hy
        obtain ⟨f0, f1, f2⟩ := hcl1 j x hx
        obtain ⟨k0, k1, k2⟩ := hcl2 j y hy
        rw [← hbel.cell hg1] at f0 f1 f2
        rw [← hbel.cell hg2] at k0 k1 k2
        obtain ⟨x1, x2, x3⟩ := x
        obtain ⟨y1, y2, y3⟩ := y
        simp only at f0 f1 f2 k0 k1 k2 e1 e2
        subst e1 e2
        have HBL := Lib.hid hbel
        clear hx hy hcl1 hcl2 hbel
        go_wp2_with fail
        go_quiet (fail)
        go_wp2_with fail
        exact ⟨⟨j + 1, by omega, by go_num, HBL.out.to_drewN _⟩, by simp [intOf]; omega⟩
      · obtain rfl : j = q := by omega
        have HBL := Lib.hid (HB11.out.trans hbel)
        clear hbel
        go_wp2_with fail
        go_ret
        exact ⟨rfl, HBL.out⟩
  · have hci : ((c : Int) != 0) = true := by simpa using h0
    go_wp2_with fail
    go_ret
    exact ⟨rfl, HB7.out⟩
end Go.Proofs.YtpenfnabeckboaaGreatDoor
