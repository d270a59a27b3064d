/-
  The walk of the law ScopeGrows: whatever the names, more names, the words: true.
-/
import Derived.Test.YtaaedmipcffjoaaDoorSCI
namespace Go.Proofs.YtaaedmipcffjoaaDoor
open Go.RowKit

set_option maxRecDepth 100000 in
set_option maxHeartbeats 4000000 in
theorem scopeGrows_walk {w : World} (v0 : Value) (l : List ByteArray) (hv0 : RowAt0 w v0 (strsV l)) (hm0 : sumS l ≤ 1048576) (v1 : Value) (more : List ByteArray) (hv1 : RowAt0 w v1 (strsV more)) (hm1 : sumS more ≤ 1048576) (v2 : Value) (words : List ByteArray) (hv2 : RowAt0 w v2 (strsV words)) (hm2 : sumS words ≤ 1048576) (hE : Env w) :
    Calls Tryd.prog 4 #[v0, v1, v2] w (RetBel (.bool true) w) := by
  have hlen0 := len_sumS l
  have hlen1 := len_sumS more
  have hlen2 := len_sumS words
  have hg := fun w1 (hb : Bel w w1) => great_c (.slice (some ⟨w1.heap.size, 0, none⟩) 3 3) [v0, v1, v2] [l, more, words] (w1.alloc (.cells #[v0, v1, v2] 22)) (row_new w1 [v0, v1, v2] 22) rfl (by simp) (fun i h => by
    match i, h with
    | 0, _ => exact hv0.bel (hb.trans (Bel.alloc _ _))
    | 1, _ => exact hv1.bel (hb.trans (Bel.alloc _ _))
    | 2, _ => exact hv2.bel (hb.trans (Bel.alloc _ _))) (by
    have := greatL_le l; have := greatL_le words; have := greatL_le more
    rw [greatN_cons, greatN_cons, greatN_cons, show greatN [] = 0 from rfl]; omega)
  have hal := fun w1 (hb : Bel w w1) => salive_c w1 (hE.bel hb)
  have hnew := fun w1 (hb : Bel w w1) => new_c v0 l w1 (hE.bel hb) (hv0.bel hb) (by omega) (fun x hx => by have := mem_sumS l x hx; omega)
  have hwi := fun w1 p N (hp : ScopeIs w1 p N) (hb : Bel w w1) => with_c p N v1 more w1 (hE.bel hb) hp (hv1.bel hb) (by omega) (fun x hx => by have := mem_sumS more x hx; omega)
  have hlo := fun w1 p N (hp : ScopeIs w1 p N) (hb : Bel w w1) => longest_c p N v2 words w1 hp (hv2.bel hb) (by omega) (by omega)
  obtain ⟨a0, c0, rfl, _⟩ := row0_form hv0 l.length (strsV_length l)
  obtain ⟨a1, c1, rfl, _⟩ := row0_form hv1 more.length (strsV_length more)
  obtain ⟨a2, c2, rfl, _⟩ := row0_form hv2 words.length (strsV_length words)
  obtain ⟨n0, h0⟩ : ∃ n, l.length = n := ⟨_, rfl⟩
  obtain ⟨n1, h1⟩ : ∃ n, more.length = n := ⟨_, rfl⟩
  obtain ⟨n2, h2⟩ : ∃ n, words.length = n := ⟨_, rfl⟩
  obtain ⟨G, hG⟩ : ∃ G, decide (400 < greatN [l, more, words]) = G := ⟨_, rfl⟩
  rw [hG] at hg
  rw [h0] at hg hnew hlen0 ⊢
  rw [h1] at hg hwi hlen1 ⊢
  rw [h2] at hg hlo hlen2 ⊢
  have HG := Lib.hid hg
  have HA := Lib.hid hal
  have HN := Lib.hid hnew
  have HL := Lib.hid hlo
  have HWI := Lib.hid hwi
  clear hg hal hnew hlo hwi hG h0 h1 h2 hv0 hv1 hv2 hE
  go_enter Tryd.func4, Tryd.ntmps4
  go_wp2_with fail
  refine (HA.out _ (by (repeat (first | exact Bel.refl _ | assumption | refine Bel.to_drewN ?_ _ | refine Bel.to_drew ?_ | refine Bel.to_setCell ?_ (by first | exact Nat.le_refl _ | (simp; done) | (simp; omega) | omega) _ | refine Bel.to_alloc ?_ _ | refine Bel.trans ?_ (by assumption))))).mono ?_
  rintro e w1 ⟨rfl, hb1⟩
  go_wp2_with fail
  refine (HG.out _ hb1).mono ?_
  rintro e w2 ⟨rfl, rfl⟩
  have hb2 : Bel w (w1.alloc (.cells #[.slice a0 n0 c0, .slice a1 n1 c1, .slice a2 n2 c2] 22)) := hb1.to_alloc _
  cases G
  · go_wp2_with fail
    have hN := HN.out _ hb2
    rcases withS_cases [] l with h | h | h <;> rw [h] at hN
    · refine hN.mono ?_
      rintro e w3 ⟨hb3, rfl⟩
      go_wp2_with fail
      go_ret
      exact ⟨rfl, hb2.trans hb3⟩
    · refine hN.mono ?_
      rintro e w3 ⟨hb3, rfl⟩
      go_wp2_with fail
      go_ret
      exact ⟨rfl, hb2.trans hb3⟩
    · refine hN.mono ?_
      rintro e w3 ⟨hb3, p, rfl, hp⟩
      obtain ⟨po, rfl⟩ := scope_ptr hp
      have hb3' := hb2.trans hb3
      have hW := HWI.out _ _ _ hp hb3'
      have HP := Lib.hid hp
      clear hp hN
      go_wp2_with fail
      rcases withS_cases (addS [] l) more with h4 | h4 | h4 <;> rw [h4] at hW
      · refine hW.mono ?_
        rintro e w4 ⟨hb4, rfl⟩
        go_wp2_with fail
        go_ret
        exact ⟨rfl, hb3'.trans hb4⟩
      · refine hW.mono ?_
        rintro e w4 ⟨hb4, rfl⟩
        go_wp2_with fail
        go_ret
        exact ⟨rfl, hb3'.trans hb4⟩
      · refine hW.mono ?_
        rintro e w4 ⟨hb4, q, rfl, hq⟩
        obtain ⟨qo, rfl⟩ := scope_ptr hq
        have hb4' := hb3'.trans hb4
        have hl1 := HL.out _ _ _ (HP.out.bel hb4) hb4'
        have hl2 := fun w5 (hb : Bel w4 w5) => HL.out w5 _ _ (hq.bel hb) (hb4'.trans hb)
        have hh1 := fun w5 (hb : Bel w4 w5) x => has_c _ _ x w5 ((HP.out.bel hb4).bel hb)
        have hh2 := fun w5 (hb : Bel w4 w5) x => has_c _ _ x w5 (hq.bel hb)
        obtain ⟨N, hNN⟩ : ∃ N, addS [] l = N := ⟨_, rfl⟩
        obtain ⟨M, hMM⟩ : ∃ M, addS N more = M := ⟨_, rfl⟩
        rw [hNN] at hl1 hl2 hh1 hh2
        rw [hMM] at hl2 hh2
        have hsub : ∀ x, x ∈ N → x ∈ M := fun x hx => by rw [← hMM, mem_addS]; exact .inl hx
        have f1 := longS_grows N M words hsub n2
        have f2 := longS_text N words n2
        have f3 := longS_text M words n2
        have f4 := longS_eq_text N M words n2
        obtain ⟨⟨X, n⟩, hX⟩ : ∃ r, longS N words n2 = r := ⟨_, rfl⟩
        obtain ⟨⟨Y, k⟩, hY⟩ : ∃ r, longS M words n2 = r := ⟨_, rfl⟩
        rw [hX] at hl1 f1 f2 f4
        rw [hY] at hl2 f1 f3 f4
        dsimp only at f1 f2 f3 f4
        have hxy : (n = 0 ∧ k = 0 ∧ X = Y) ∨ (n = 0 ∧ 0 < k ∧ Y ∈ M) ∨ (0 < n ∧ n < k ∧ X ∈ N ∧ X ∈ M ∧ Y ∈ M) ∨ (0 < n ∧ n = k ∧ X ∈ N ∧ Y ∈ M ∧ X = Y) := by
          rcases f2 with ⟨g1, g2⟩ | ⟨g1, g2, g3⟩ <;> rcases f3 with ⟨k1, k2⟩ | ⟨k1, k2, k3⟩
          · exact .inl ⟨g1, k1, by rw [g2, k2]⟩
          · exact .inr (.inl ⟨g1, k1, k3⟩)
          · omega
          · rcases Nat.eq_or_lt_of_le f1 with e | e
            · exact .inr (.inr (.inr ⟨g1, e, g3, k3, f4 e⟩))
            · exact .inr (.inr (.inl ⟨g1, e, g3, hsub X g3, k3⟩))
        have K1 := Lib.hid hl1
        have K2 := Lib.hid hl2
        have K3 := Lib.hid hh1
        have K4 := Lib.hid hh2
        have K5 := Lib.hid hb4'
        have K6 := Lib.hid hxy
        have K7 := Lib.hid hsub
        clear hl1 hl2 hh1 hh2 hb4' hxy f1 f2 f3 f4 hX hY hsub hMM hNN hW hq h h4 hb3' hb4
        go_wp2_with fail
        refine K1.out.mono ?_
        rintro e w5 ⟨rfl, hb5⟩
        go_wp2_with fail
        refine (K2.out w5 hb5).mono ?_
        rintro e w6 ⟨rfl, hb6⟩
        have hb6' := hb5.trans hb6
        rcases K6.out with ⟨rfl, rfl, rfl⟩ | ⟨rfl, hk, hY⟩ | ⟨hn, hnk, hXN, hXM, hYM⟩ | ⟨hn, rfl, hXN, hYM, rfl⟩
        · go_wp2_with fail
          go_ret
          exact ⟨rfl, K5.out.trans hb6'⟩
        · have e1 : ((k : Int) == 0) = false := by simp; omega
          have e2 : (0 : Int) < k := by omega
          have h2 := K4.out w6 hb6' Y
          rw [decide_eq_true hY] at h2
          have H2 := Lib.hid h2
          clear h2 hY
          go_wp2_with fail
          refine H2.out.mono ?_
          rintro e w7 ⟨rfl, hb7⟩
          go_wp2_with fail
          go_ret
          exact ⟨rfl, (K5.out.trans hb6').trans hb7⟩
        · have e1 : ((k : Int) == 0) = false := by simp; omega
          have e3 : ((n : Int) == 0) = false := by simp; omega
          have e2 : (n : Int) < k := by omega
          have h1 := K3.out w6 hb6' X
          have h2 := fun w7 (hb : Bel w6 w7) => K4.out w7 (hb6'.trans hb) X
          have h3 := fun w7 (hb : Bel w6 w7) => K4.out w7 (hb6'.trans hb) Y
          rw [decide_eq_true hXN] at h1
          simp only [decide_eq_true hXM] at h2
          simp only [decide_eq_true hYM] at h3
          have H1 := Lib.hid h1
          have H2 := Lib.hid h2
          have H3 := Lib.hid h3
          clear h1 h2 h3 hXN hXM hYM
          go_wp2_with fail
          refine H1.out.mono ?_
          rintro e w7 ⟨rfl, hb7⟩
          go_wp2_with fail
          refine (H2.out _ hb7).mono ?_
          rintro e w8 ⟨rfl, hb8⟩
          go_wp2_with fail
          refine (H3.out _ (hb7.trans hb8)).mono ?_
          rintro e w9 ⟨rfl, hb9⟩
          go_wp2_with fail
          go_ret
          exact ⟨rfl, (((K5.out.trans hb6').trans hb7).trans hb8).trans hb9⟩
        · have e3 : ((n : Int) == 0) = false := by simp; omega
          have h1 := K3.out w6 hb6' X
          have h2 := fun w7 (hb : Bel w6 w7) => K4.out w7 (hb6'.trans hb) X
          rw [decide_eq_true hXN] at h1
          simp only [decide_eq_true hYM] at h2
          have H1 := Lib.hid h1
          have H2 := Lib.hid h2
          clear h1 h2 hXN hYM
          go_wp2_with fail
          refine H1.out.mono ?_
          rintro e w7 ⟨rfl, hb7⟩
          go_wp2_with fail
          refine (H2.out _ hb7).mono ?_
          rintro e w8 ⟨rfl, hb8⟩
          go_wp2_with fail
          refine (H2.out _ (hb7.trans hb8)).mono ?_
          rintro e w9 ⟨rfl, hb9⟩
          go_wp2_with fail
          go_ret
          exact ⟨rfl, (((K5.out.trans hb6').trans hb7).trans hb8).trans hb9⟩
  · go_wp2_with fail
    refine (HA.out _ hb2).mono ?_
    rintro e w3 ⟨rfl, hb3⟩
    go_wp2_with fail
    go_ret
    exact ⟨rfl, hb2.trans hb3⟩
end Go.Proofs.YtaaedmipcffjoaaDoor
