/-
  The walk of the law ScopeMakes: whatever the names, more names: true.
-/
import Derived.Test.YtaaedmipcffjoaaDoorSCI
import Derived.Test.YtaaedmipcffjoaaDoorSCG
import Derived.Test.YtaaedmipcffjoaaDoorSCL
import Derived.Test.YtaaedmipcffjoaaDoorSCM
namespace Go.Proofs.YtaaedmipcffjoaaDoor
open Go.RowKit

theorem srt_withS {N l M : List ByteArray} {k : Nat} (hN : Srt N) (h : withS N l = (some M, k)) : Srt M ∧ M = addS N l ∧ M.length ≤ 4096 := by
  unfold withS at h
  split at h
  · cases h
  · split at h
    · cases h
    · rename_i h1
      simp at h
      obtain ⟨rfl, _⟩ := h
      exact ⟨srt_addS l hN, rfl, by omega⟩

set_option maxRecDepth 100000 in
set_option maxHeartbeats 8000000 in
theorem scopeMakes_walk {w : World} (v0 : Value) (l : List ByteArray) (hv0 : RowAt0 w v0 (strsV l)) (hm0 : sumS l ≤ 1048576) (v1 : Value) (more : List ByteArray) (hv1 : RowAt0 w v1 (strsV more)) (hm1 : sumS more ≤ 1048576) (hE : Env w) :
    Calls Tryd.prog 9 #[v0, v1] w (RetBel (.bool true) w) := by
  have hlen0 := len_sumS l
  have hlen1 := len_sumS more
  have hg := fun w1 (hb : Bel w w1) => great_c (.slice (some ⟨w1.heap.size, 0, none⟩) 2 2) [v0, v1] [l, more] (w1.alloc (.cells #[v0, v1] 22)) (row_new w1 [v0, v1] 22) rfl (by simp) (fun i h => by
    match i, h with
    | 0, _ => exact hv0.bel (hb.trans (Bel.alloc _ _))
    | 1, _ => exact hv1.bel (hb.trans (Bel.alloc _ _))) (by
    have := greatL_le l; have := greatL_le more
    rw [greatN_cons, greatN_cons, show greatN [] = 0 from rfl]; omega)
  have hal := fun w1 (hb : Bel w w1) => salive_c w1 (hE.bel hb)
  have hnew := fun w1 (hb : Bel w w1) => new_c v0 l w1 (hE.bel hb) (hv0.bel hb) (by omega) (fun x hx => by have := mem_sumS l x hx; omega)
  have hrw := fun w1 (hb : Bel w w1) => rwith_c (.slice none 0 0) [] v0 l w1 srt_nil (.inl ⟨rfl, rfl⟩) (by simp) (hv0.bel hb) (by omega) (fun x hx => by have := mem_sumS l x hx; omega)
  have hwi := fun w1 p N (hp : ScopeIs w1 p N) (hb : Bel w w1) => with_c p N v1 more w1 (hE.bel hb) hp (hv1.bel hb) (by omega) (fun x hx => by have := mem_sumS more x hx; omega)
  have hrw2 := fun w1 u N (hu : RowAt0 w1 u (strsV N)) (hN : Srt N) (hl : N.length ≤ 4096) (hb : Bel w w1) => rwith_c u N v1 more w1 hN hu (by omega) (hv1.bel hb) (by omega) (fun x hx => by have := mem_sumS more x hx; omega)
  obtain ⟨a0, c0, rfl, _⟩ := row0_form hv0 l.length (strsV_length l)
  obtain ⟨a1, c1, rfl, _⟩ := row0_form hv1 more.length (strsV_length more)
  obtain ⟨n0, h0⟩ : ∃ n, l.length = n := ⟨_, rfl⟩
  obtain ⟨n1, h1⟩ : ∃ n, more.length = n := ⟨_, rfl⟩
  obtain ⟨G, hG⟩ : ∃ G, decide (400 < greatN [l, more]) = G := ⟨_, rfl⟩
  rw [hG] at hg
  rw [h0] at hg hnew hlen0 hrw ⊢
  rw [h1] at hg hwi hlen1 hrw2 ⊢
  have HG := Lib.hid hg
  have HA := Lib.hid hal
  have HN := Lib.hid hnew
  have HRW := Lib.hid hrw
  have HWI := Lib.hid hwi
  have HRW2 := Lib.hid hrw2
  clear hg hal hnew hwi hrw hrw2 hG h0 h1 hv0 hv1 hE
  go_enter Tryd.func9, Tryd.ntmps9
  go_wp2_with fail
  refine (HA.out _ (by (repeat (first | exact Bel.refl _ | assumption | refine Bel.to_drewN ?_ _ | refine Bel.to_drew ?_ | refine Bel.to_setCell ?_ (by first | exact Nat.le_refl _ | (simp; done) | (simp; omega) | omega) _ | refine Bel.to_alloc ?_ _ | refine Bel.trans ?_ (by assumption))))).mono ?_
  rintro e w1 ⟨rfl, hb1⟩
  go_wp2_with fail
  refine (HG.out _ hb1).mono ?_
  rintro e w2 ⟨rfl, rfl⟩
  have hb2 : Bel w (w1.alloc (.cells #[.slice a0 n0 c0, .slice a1 n1 c1] 22)) := hb1.to_alloc _
  cases G
  · go_wp2_with fail
    have hN := HN.out _ hb2
    have hR := HRW.out
    rcases withS_cases [] l with h | h | h <;> rw [h] at hN hR
    · have HR := Lib.hid hR
      clear hR
      refine hN.mono ?_
      rintro e w3 ⟨hb3, rfl⟩
      go_wp2_with fail
      refine (HR.out w3 (hb2.trans hb3)).mono ?_
      rintro e w4 ⟨hb4, rfl⟩
      go_wp2_with fail
      go_ret
      exact ⟨rfl, (hb2.trans hb3).trans hb4⟩
    · have HR := Lib.hid hR
      clear hR
      refine hN.mono ?_
      rintro e w3 ⟨hb3, rfl⟩
      go_wp2_with fail
      refine (HR.out w3 (hb2.trans hb3)).mono ?_
      rintro e w4 ⟨hb4, rfl⟩
      go_wp2_with fail
      go_ret
      exact ⟨rfl, (hb2.trans hb3).trans hb4⟩
    · have HR := Lib.hid hR
      clear hR
      obtain ⟨hsrt, _, hNl⟩ := srt_withS srt_nil h
      obtain ⟨N, hNN⟩ : ∃ N, addS [] l = N := ⟨_, rfl⟩
      rw [hNN] at hN HR hsrt hNl
      refine hN.mono ?_
      rintro e w3 ⟨hb3, p, rfl, hp⟩
      obtain ⟨po, rfl⟩ := scope_ptr hp
      have hb3' := hb2.trans hb3
      have HP := Lib.hid hp
      clear hp hN h hNN
      go_wp2_with fail
      refine (HR.out w3 hb3').mono ?_
      rintro e w4 ⟨hb4, u, rfl, hu⟩
      have hb4' := hb3'.trans hb4
      have hu0 := hu
      obtain ⟨au, cu, rfl, _⟩ := row0_form hu N.length (strsV_length N)
      have hW := HWI.out w4 _ N (HP.out.bel hb4) hb4'
      have hRW := fun w5 (hb : Bel w4 w5) => HRW2.out w5 _ N (hu0.bel hb) hsrt hNl (hb4'.trans hb)
      obtain ⟨nn, hnn⟩ : ∃ n, N.length = n := ⟨_, rfl⟩
      rw [hnn] at hRW hu0 hNl ⊢
      have hlen := fun w5 (hb : Bel w4 w5) => len_c (.pointer po) N w5 ((HP.out.bel hb4).bel hb)
      have hnm := fun w5 (hb : Bel w4 w5) => names_c (.pointer po) N w5 ((HP.out.bel hb4).bel hb)
      simp only [hnn] at hlen
      have HU := Lib.hid hu0
      have HLEN := Lib.hid hlen
      have HNM := Lib.hid hnm
      have HNN := Lib.hid hnn
      have HB4 := Lib.hid hb4'
      have HNL := Lib.hid hNl
      clear hlen hnm hu0 hu hnn hb4' hNl
      rcases withS_cases N more with h5 | h5 | h5 <;> (rw [h5] at hW; simp only [h5] at hRW)
      · have HRR := Lib.hid hRW
        have HWW := Lib.hid hW
        clear hRW hW h5
        go_wp2_with fail
        refine HWW.out.mono ?_
        rintro e w5 ⟨hb5, rfl⟩
        go_wp2_with fail
        refine (HRR.out w5 hb5).mono ?_
        rintro e w6 ⟨hb6, rfl⟩
        have hb6' := hb5.trans hb6
        go_wp2_with fail
        refine (HNM.out w6 hb6').mono ?_
        rintro e w7 ⟨x7, rfl, hr7, hb7⟩
        have hsm := ssame_c x7 (.slice au nn cu) N N w7 hr7 (HU.out.bel (Bel.trans hb6' hb7)) (by have := HNN.out; have := HNL.out; omega)
        rw [decide_eq_true rfl] at hsm
        have HSM := Lib.hid hsm
        clear hsm hr7
        go_wp2_with fail
        refine HSM.out.mono ?_
        rintro e w8 ⟨rfl, hb8⟩
        go_wp2_with fail
        refine (HLEN.out w8 ((Bel.trans hb6' hb7).trans hb8)).mono ?_
        rintro e w9 ⟨rfl, rfl⟩
        go_wp2_with fail
        go_ret
        exact ⟨rfl, ((HB4.out.trans hb6').trans hb7).trans hb8⟩
      · have HRR := Lib.hid hRW
        have HWW := Lib.hid hW
        clear hRW hW h5
        go_wp2_with fail
        refine HWW.out.mono ?_
        rintro e w5 ⟨hb5, rfl⟩
        go_wp2_with fail
        refine (HRR.out w5 hb5).mono ?_
        rintro e w6 ⟨hb6, rfl⟩
        have hb6' := hb5.trans hb6
        go_wp2_with fail
        refine (HNM.out w6 hb6').mono ?_
        rintro e w7 ⟨x7, rfl, hr7, hb7⟩
        have hsm := ssame_c x7 (.slice au nn cu) N N w7 hr7 (HU.out.bel (Bel.trans hb6' hb7)) (by have := HNN.out; have := HNL.out; omega)
        rw [decide_eq_true rfl] at hsm
        have HSM := Lib.hid hsm
        clear hsm hr7
        go_wp2_with fail
        refine HSM.out.mono ?_
        rintro e w8 ⟨rfl, hb8⟩
        go_wp2_with fail
        refine (HLEN.out w8 ((Bel.trans hb6' hb7).trans hb8)).mono ?_
        rintro e w9 ⟨rfl, rfl⟩
        go_wp2_with fail
        go_ret
        exact ⟨rfl, ((HB4.out.trans hb6').trans hb7).trans hb8⟩
      · obtain ⟨hsM, _, hMl⟩ := srt_withS hsrt h5
        obtain ⟨M, hMM⟩ : ∃ M, addS N more = M := ⟨_, rfl⟩
        rw [hMM] at hW hsM hMl
        simp only [hMM] at hRW
        have HRR := Lib.hid hRW
        have HWW := Lib.hid hW
        clear hRW hW h5 hMM
        go_wp2_with fail
        refine HWW.out.mono ?_
        rintro e w5 ⟨hb5, q, rfl, hq⟩
        obtain ⟨qo, rfl⟩ := scope_ptr hq
        have HQ := Lib.hid hq
        clear hq
        go_wp2_with fail
        refine (HRR.out w5 hb5).mono ?_
        rintro e w6 ⟨hb6, x6, rfl, hr6⟩
        have hb6' := hb5.trans hb6
        obtain ⟨a6, c6, rfl, _⟩ := row0_form hr6 M.length (strsV_length M)
        obtain ⟨mm, hmm⟩ : ∃ n, M.length = n := ⟨_, rfl⟩
        rw [hmm] at hr6 ⊢
        have HR6 := Lib.hid hr6
        have HMM := Lib.hid hmm
        have HML := Lib.hid hMl
        clear hr6 hmm hMl
        have hnq := names_c (.pointer qo) M w6 (HQ.out.bel hb6)
        have HNQ := Lib.hid hnq
        clear hnq
        go_wp2_with fail
        refine HNQ.out.mono ?_
        rintro e w7 ⟨y7, rfl, hr7, hb7⟩
        have hsm := ssame_c y7 (.slice a6 mm c6) M M w7 hr7 (HR6.out.bel hb7) (by have := HMM.out; have := HML.out; omega)
        rw [decide_eq_true rfl] at hsm
        have HSM := Lib.hid hsm
        clear hsm hr7
        go_wp2_with fail
        refine HSM.out.mono ?_
        rintro e w8 ⟨rfl, hb8⟩
        have hlq := len_c (.pointer qo) M w8 (((HQ.out.bel hb6).bel hb7).bel hb8)
        rw [HMM.out] at hlq
        have HLQ := Lib.hid hlq
        clear hlq
        go_wp2_with fail
        refine HLQ.out.mono ?_
        rintro e w9 ⟨rfl, rfl⟩
        have hb8' := (hb6'.trans hb7).trans hb8
        go_wp2_with fail
        refine (HNM.out w8 hb8').mono ?_
        rintro e w10 ⟨x10, rfl, hr10, hb10⟩
        have hsm := ssame_c x10 (.slice au nn cu) N N w10 hr10 (HU.out.bel (Bel.trans hb8' hb10)) (by have := HNN.out; have := HNL.out; omega)
        rw [decide_eq_true rfl] at hsm
        have HSM := Lib.hid hsm
        clear hsm hr10
        go_wp2_with fail
        refine HSM.out.mono ?_
        rintro e w11 ⟨rfl, hb11⟩
        go_wp2_with fail
        refine (HLEN.out w11 ((Bel.trans hb8' hb10).trans hb11)).mono ?_
        rintro e w12 ⟨rfl, rfl⟩
        go_wp2_with fail
        go_ret
        exact ⟨rfl, ((HB4.out.trans hb8').trans hb10).trans hb11⟩
  · go_wp2_with fail
    refine (HA.out _ hb2).mono ?_
    rintro e w3 ⟨rfl, hb3⟩
    go_wp2_with fail
    go_ret
    exact ⟨rfl, hb2.trans hb3⟩
end Go.Proofs.YtaaedmipcffjoaaDoor
