/-
  The walk of the law FeelprintPairs: whatever the expression: true.
-/
import Derived.Test.YtpenfnabeckboaaGreatDoorFPM
import Derived.Test.YtpenfnabeckboaaGreatDoorRXA
import Derived.Test.YtpenfnabeckboaaGreatDoorEXE
import Derived.Test.YtpenfnabeckboaaGreatDoorEHW
import Derived.Test.YtpenfnabeckboaaGreatDoorFTK
namespace Go.Proofs.YtpenfnabeckboaaGreatDoor
open Go.RowKit

theorem greatE_np {e : Ex} (h : greatE e = false) : cE e ≤ 1500 ∧ bE e ≤ 8000 := by
  unfold greatE at h
  simp at h
  omega
theorem own_sliceP {W : World} {B : Nat} {v : Value} {L : List (Int × Nat × ByteArray)} (h : W.ownsRow B 43 3 v L.length (lexCells L)) : ∃ a cap, v = .slice a L.length cap := by
  obtain ⟨a, cap, h1, _⟩ := rowL_form (own_rowL h)
  exact ⟨a, cap, by rw [h1, List.length_map]⟩
set_option maxRecDepth 100000 in
set_option maxHeartbeats 8000000 in
theorem feelprintPairs_walk {w : World} (e : Ex) (en el : Value) (he : ExAt w e en el) (hbe : e.bulk ≤ 1048576) (hEG : EnvX w ∧ SignsAt w) :
    Calls Tryz.prog 6 #[exV e en el] w (RetBel (.bool true) w) := by
  obtain ⟨hE, hG⟩ := hEG
  have HX := Lib.hid he
  have HE := Lib.hid hE
  have HG0 := Lib.hid hG
  obtain ⟨na, la, nn, nc, m, lc, rfl, rfl, _, hml, _, hmc, _, _, _, hpa⟩ := he.opened
  unfold exV
  have HRC := Lib.hid (fun W (hW : Bel w W) => rcheck_x e _ _ W (by omega) (ExAt.bel hW e he))
  have HPR := Lib.hid (fun W (hW : Bel w W) => print_c e _ _ _ _ _ _ W (HE.out.bel hW) (by omega) (ExAt.bel hW e he))
  have HBA := Lib.hid (fun W (hW : Bel w W) => bare_c e _ _ _ _ _ _ W (HE.out.bel hW) (by omega) (ExAt.bel hW e he))
  have HCT := Lib.hid (fun W (hW : Bel w W) => counts_c e.bulk e (Nat.le_refl _) hbe _ _ W (ExAt.bel hW e he))
  have HLX := Lib.hid (fun (S : ByteArray) (hS : S.size ≤ 1073741824) W (hW : Bel w W) => lsigns_c S (by omega) W (HE.out.1.bel hW) (signs_bel HG0.out hW))
  obtain ⟨c, hc⟩ : ∃ c, CheckE e = c := ⟨_, rfl⟩
  have hsz : c = 0 → (textE2 false e).size ≤ 1073741824 ∧ (textE2 true e).size ≤ 1073741824 := fun h => by
    have h1 := text_size (hc.trans h) false
    have h2 := text_size (hc.trans h) true
    omega
  have hex := fun (h : c = 0) => pairs (e := e) (hc.trans h)
  obtain ⟨TT, hTT⟩ : ∃ T, textE2 false e = T := ⟨_, rfl⟩
  obtain ⟨TB, hTB⟩ : ∃ T, textE2 true e = T := ⟨_, rfl⟩
  rw [hc] at HRC HPR HBA
  rw [hTT] at HPR hsz hex
  rw [hTB] at HBA hsz hex
  have HC := Lib.hid hc
  have hown := ownE_le e
  have hhalf := halfE_le e
  obtain ⟨O, hO⟩ : ∃ O, ownE e = O := ⟨_, rfl⟩
  obtain ⟨H, hH⟩ : ∃ O, halfE e = O := ⟨_, rfl⟩
  rw [hO] at HCT hex hown
  rw [hH] at HCT hex hhalf
  have HSZ := Lib.hid hsz
  have HEX := Lib.hid hex
  clear he hE hG hc hpa hml hsz hex hTT hTB hO hH
  go_enter Tryz.func6, Tryz.ntmps6
  go_wp2_with fail
  obtain ⟨V1, h1, k1, l1, s1⟩ := alloc_step w 25 [.int .i64 e.k, .string e.s, .slice na nn nc, .slice la m lc]
  rw [h1]
  have BX := Lib.hid k1
  have HV := Lib.hid l1
  clear h1 k1 l1 s1
  refine (falive_c _ (HE.out.bel HV.out)).mono ?_
  rintro e1 w1 ⟨rfl, hb1⟩
  have c0 := hb1.keep (BX.out.at 0)
  have c1 := hb1.keep (BX.out.at 1)
  have c2 := hb1.keep (BX.out.at 2)
  have c3 := hb1.keep (BX.out.at 3)
  have HB1 := Lib.hid (HV.out.trans hb1)
  clear hb1
  go_wp2_with fail
  obtain ⟨V3, h3, k3, l3, s3⟩ := alloc_step w1 25 [.int .i64 e.k, .string e.s, .slice na nn nc, .slice la m lc]
  rw [h3]
  have hb3 := HB1.out.trans l3
  have HG := Lib.hid (egreat_c [e] (some ⟨w1.heap.size, 0, none⟩) 1 1 V3 rfl (by omega) (parts_of_exs (exs_one k3 rfl (ExAt.bel hb3 e HX.out))) (by intro x hx; simp at hx; subst hx; omega))
  have e0 := l3.keep c0
  have e1 := l3.keep c1
  have e2 := l3.keep c2
  have e3 := l3.keep c3
  have HB3 := Lib.hid hb3
  clear h3 k3 l3 s3 hb3 c0 c1 c2 c3
  refine HG.out.mono ?_
  rintro e4 w4 ⟨rfl, hb4⟩
  have c0 := hb4.keep e0
  have c1 := hb4.keep e1
  have c2 := hb4.keep e2
  have c3 := hb4.keep e3
  have HB4 := Lib.hid (HB3.out.trans hb4)
  obtain ⟨g, hg⟩ : ∃ g, [e].any greatE = g := ⟨_, rfl⟩
  rw [hg]
  rw [List.any_cons, List.any_nil, Bool.or_false] at hg
  have HGR := Lib.hid hg
  clear e0 e1 e2 e3 hb4 hg HG
  cases g with
  | true =>
    have h1 : oneIf true = 1 := rfl
    rw [h1]
    go_wp2_with fail
    refine (falive_c _ (HE.out.bel HB4.out)).mono ?_
    rintro e5 w5 ⟨rfl, hb5⟩
    go_wp2_with fail
    go_ret
    exact ⟨rfl, HB4.out.trans hb5⟩
  | false =>
  have h1 : oneIf false = 0 := rfl
  rw [h1]
  have HGF := Lib.hid (greatE_np HGR.out)
  clear h1 HGR
  go_wp2_with fail
  refine (HRC.out _ HB4.out).mono ?_
  rintro e6 w6 ⟨rfl, hb6⟩
  have d0 := hb6.keep c0
  have d1 := hb6.keep c1
  have d2 := hb6.keep c2
  have d3 := hb6.keep c3
  have HB6 := Lib.hid (HB4.out.trans hb6)
  clear c0 c1 c2 c3 hb6
  by_cases h0 : c = 0
  · subst h0
    obtain ⟨n1, n2, La, Lb, hla, hlb, e1, e2, e3, e4, e5, e6, e7⟩ := HEX.out rfl
    obtain ⟨hsa, hsb⟩ := HSZ.out rfl
    have hq1 := lexS_len TT
    have hq2 := lexS_len TB
    rw [hla] at hq1
    rw [hlb] at hq2
    dsimp only at hq1 hq2
    have hba : ∀ i, cS La i ≤ 1073741825 := fun i => Nat.le_trans (cS_le La i) (by omega)
    have hbb : ∀ i, cS Lb i ≤ 1073741825 := fun i => Nat.le_trans (cS_le Lb i) (by omega)
    have g1 : cS La 0 + cS La 1 = cS La 2 + cS La 3 := e1
    have g2 : cS La 4 = cS La 5 := e2
    have g3 : cS Lb 0 + cS Lb 1 = cS Lb 2 + cS Lb 3 := e3
    have g4 : H = 0 → cS La 0 = cS La 2 ∧ cS La 1 = cS La 3 := e4
    have g5 : cS Lb 0 = O := e5
    have g6 : cS La 0 ≤ O := e6
    have g7 : cS Lb 4 = cS La 4 := e7
    obtain ⟨a0, ha0⟩ : ∃ n, cS La 0 = n := ⟨_, rfl⟩
    obtain ⟨a1, ha1⟩ : ∃ n, cS La 1 = n := ⟨_, rfl⟩
    obtain ⟨a2, ha2⟩ : ∃ n, cS La 2 = n := ⟨_, rfl⟩
    obtain ⟨a3, ha3⟩ : ∃ n, cS La 3 = n := ⟨_, rfl⟩
    obtain ⟨a4, ha4⟩ : ∃ n, cS La 4 = n := ⟨_, rfl⟩
    obtain ⟨a5, ha5⟩ : ∃ n, cS La 5 = n := ⟨_, rfl⟩
    obtain ⟨b0, hb0⟩ : ∃ n, cS Lb 0 = n := ⟨_, rfl⟩
    obtain ⟨b1, hb1⟩ : ∃ n, cS Lb 1 = n := ⟨_, rfl⟩
    obtain ⟨b2, hb2⟩ : ∃ n, cS Lb 2 = n := ⟨_, rfl⟩
    obtain ⟨b3, hb3⟩ : ∃ n, cS Lb 3 = n := ⟨_, rfl⟩
    obtain ⟨b4, hb4⟩ : ∃ n, cS Lb 4 = n := ⟨_, rfl⟩
    obtain ⟨b5, hb5⟩ : ∃ n, cS Lb 5 = n := ⟨_, rfl⟩
    have HSa : Hid (∀ W, Bel w W → Calls Tryz.prog 17 #[.string TT] W (RetBel (.agg #[.int .i64 a0, .int .i64 a1, .int .i64 a2, .int .i64 a3, .int .i64 a4, .int .i64 a5]) W)) := Lib.hid fun W hW => by
      have h1 := HLX.out TT hsa W hW
      rw [hla] at h1
      rw [← ha0, ← ha1, ← ha2, ← ha3, ← ha4, ← ha5]
      exact h1
    have HSb : Hid (∀ W, Bel w W → Calls Tryz.prog 17 #[.string TB] W (RetBel (.agg #[.int .i64 b0, .int .i64 b1, .int .i64 b2, .int .i64 b3, .int .i64 b4, .int .i64 b5]) W)) := Lib.hid fun W hW => by
      have h1 := HLX.out TB hsb W hW
      rw [hlb] at h1
      rw [← hb0, ← hb1, ← hb2, ← hb3, ← hb4, ← hb5]
      exact h1
    have hba0 := hba 0
    have hba1 := hba 1
    have hba2 := hba 2
    have hba3 := hba 3
    have hba4 := hba 4
    have hba5 := hba 5
    have hbb0 := hbb 0
    have hbb1 := hbb 1
    have hbb2 := hbb 2
    have hbb3 := hbb 3
    have hbb4 := hbb 4
    have hbb5 := hbb 5
    simp only [ha0, ha1, ha2, ha3, ha4, ha5] at g1 g2 g4 g6 g7
    rw [ha0] at hba0
    rw [ha1] at hba1
    rw [ha2] at hba2
    rw [ha3] at hba3
    rw [ha4] at hba4
    rw [ha5] at hba5
    simp only [hb0, hb1, hb2, hb3, hb4, hb5] at g3 g5 g7
    rw [hb0] at hbb0
    rw [hb1] at hbb1
    rw [hb2] at hbb2
    rw [hb3] at hbb3
    rw [hb4] at hbb4
    rw [hb5] at hbb5
    subst g5 g7
    subst g2
    have HG1 := Lib.hid g1
    have HG3 := Lib.hid g3
    have HG4 := Lib.hid g4
    have HG6 := Lib.hid g6
    clear hla hlb e1 e2 e3 e4 e5 e6 e7 hsa hsb hq1 hq2 hba hbb g1 g3 g4 g6 ha0 ha1 ha2 ha3 ha4 ha5 hb0 hb1 hb2 hb3 hb4 hb5
    go_wp2_with fail
    refine (HPR.out _ HB6.out).mono ?_
    rintro e7 w7 ⟨rfl, hb7⟩
    have c0 := hb7.keep d0
    have c1 := hb7.keep d1
    have c2 := hb7.keep d2
    have c3 := hb7.keep d3
    have HB7 := Lib.hid (HB6.out.trans hb7)
    clear d0 d1 d2 d3 hb7
    go_wp2_with fail
    refine (HBA.out _ HB7.out).mono ?_
    rintro e8 w8 ⟨rfl, hb8⟩
    have d0 := hb8.keep c0
    have d1 := hb8.keep c1
    have d2 := hb8.keep c2
    have d3 := hb8.keep c3
    have HB8 := Lib.hid (HB7.out.trans hb8)
    clear c0 c1 c2 c3 hb8
    go_wp2_with fail
    refine (HSa.out _ HB8.out).mono ?_
    rintro e9 w9 ⟨rfl, hb9⟩
    have c0 := hb9.keep d0
    have c1 := hb9.keep d1
    have c2 := hb9.keep d2
    have c3 := hb9.keep d3
    have HB9 := Lib.hid (HB8.out.trans hb9)
    clear d0 d1 d2 d3 hb9
    go_wp2_with fail
    refine (HSb.out _ HB9.out).mono ?_
    rintro e10 w10 ⟨rfl, hb10⟩
    have d0 := hb10.keep c0
    have d1 := hb10.keep c1
    have d2 := hb10.keep c2
    have d3 := hb10.keep c3
    have HB10 := Lib.hid (HB9.out.trans hb10)
    clear c0 c1 c2 c3 hb10
    go_upto_region 8 with fail
    obtain ⟨V5, h5, k5, l5, s5⟩ := alloc_step w10 44 [.int .i64 a0, .int .i64 a1, .int .i64 a2, .int .i64 a3, .int .i64 b4, .int .i64 b4]
    obtain ⟨V6, h6, k6, l6, s6⟩ := alloc_step V5 44 [.int .i64 b0, .int .i64 b1, .int .i64 b2, .int .i64 b3, .int .i64 b4, .int .i64 b5]
    rw [s5] at k6
    rw [show w10.alloc (.cells #[.int .i64 a0, .int .i64 a1, .int .i64 a2, .int .i64 a3, .int .i64 b4, .int .i64 b4] 44) = V5 from h5]
    rw [show V5.alloc (.cells #[.int .i64 b0, .int .i64 b1, .int .i64 b2, .int .i64 b3, .int .i64 b4, .int .i64 b5] 44) = V6 from h6]
    have l56 := l5.trans l6
    have c0 := l56.keep d0
    have c1 := l56.keep d1
    have c2 := l56.keep d2
    have c3 := l56.keep d3
    have K5 := Lib.hid (k5.bel l6)
    have K6 := Lib.hid k6
    have HB12 := Lib.hid (HB10.out.trans l56)
    clear h5 k5 l5 s5 h6 k6 l6 s6 l56 d0 d1 d2 d3
    go_wp2_with fail
    refine (HCT.out _ HB12.out).mono ?_
    rintro e11 w11 ⟨rfl, hb11⟩
    have HB13 := Lib.hid (HB12.out.trans hb11)
    have p0 : w11.cell? ⟨w10.heap.size, 0, none⟩ = some (.int .i64 a0) := (K5.out.bel hb11).at 0
    have p1 : w11.cell? ⟨w10.heap.size, 1, none⟩ = some (.int .i64 a1) := (K5.out.bel hb11).at 1
    have p2 : w11.cell? ⟨w10.heap.size, 2, none⟩ = some (.int .i64 a2) := (K5.out.bel hb11).at 2
    have p3 : w11.cell? ⟨w10.heap.size, 3, none⟩ = some (.int .i64 a3) := (K5.out.bel hb11).at 3
    have p4 : w11.cell? ⟨w10.heap.size, 4, none⟩ = some (.int .i64 b4) := (K5.out.bel hb11).at 4
    have p5 : w11.cell? ⟨w10.heap.size, 5, none⟩ = some (.int .i64 b4) := (K5.out.bel hb11).at 5
    have q0 : w11.cell? ⟨w10.heap.size + 1, 0, none⟩ = some (.int .i64 b0) := (K6.out.bel hb11).at 0
    have q1 : w11.cell? ⟨w10.heap.size + 1, 1, none⟩ = some (.int .i64 b1) := (K6.out.bel hb11).at 1
    have q2 : w11.cell? ⟨w10.heap.size + 1, 2, none⟩ = some (.int .i64 b2) := (K6.out.bel hb11).at 2
    have q3 : w11.cell? ⟨w10.heap.size + 1, 3, none⟩ = some (.int .i64 b3) := (K6.out.bel hb11).at 3
    have q4 : w11.cell? ⟨w10.heap.size + 1, 4, none⟩ = some (.int .i64 b4) := (K6.out.bel hb11).at 4
    have q5 : w11.cell? ⟨w10.heap.size + 1, 5, none⟩ = some (.int .i64 b5) := (K6.out.bel hb11).at 5
    clear c0 c1 c2 c3 hb11
    have hz1 : ((a0 : Int) + a1 - a2 - a3 != 0) = false := by have := HG1.out; simp; omega
    have hz3 : ((b0 : Int) + b1 - b2 - b3 != 0) = false := by have := HG3.out; simp; omega
    have hz6 : (a0 : Int) ≤ b0 := by have := HG6.out; omega
    by_cases hH : H = 0
    · obtain ⟨e1, e2⟩ := HG4.out hH
      subst hH
      subst e1 e2
      go_wp2_with fail
      go_ret
      exact ⟨rfl, HB13.out⟩
    · have hHi : ((H : Int) == 0) = false := beq_eq_false_iff_ne.2 (by omega)
      go_wp2_with fail
      go_ret
      exact ⟨rfl, HB13.out⟩
  · have hci : ((c : Int) != 0) = true := by simpa using h0
    go_wp2_with fail
    refine (falive_c _ (HE.out.bel HB6.out)).mono ?_
    rintro e7 w7 ⟨rfl, hb7⟩
    go_wp2_with fail
    go_ret
    exact ⟨rfl, HB6.out.trans hb7⟩
end Go.Proofs.YtpenfnabeckboaaGreatDoor
