/-
  The walk of the law ScopeNone: whatever the words, the name: true.
-/
import Derived.Test.YtaaedmipcffjoaaDoorSCI
import Derived.Test.YtaaedmipcffjoaaDoorSCL
import Derived.Test.YtaaedmipcffjoaaDoorSCM
import Derived.Test.YtaaedmipcffjoaaDoorRR
namespace Go.Proofs.YtaaedmipcffjoaaDoor
open Go.RowKit

theorem longS_none (words : List ByteArray) : ∀ n, longS [] words n = (⟨#[]⟩, 0)
  | 0 => rfl
  | n + 1 => by rw [longS_succ, if_neg (by simp), longS_none words n]
theorem with_one (x : ByteArray) : withS [] [x] = if rightS x = true then (some [x], 0) else (none, 6) := by
  unfold withS
  rw [show [x].all rightS = rightS x from by simp, show addS [] [x] = [x] from rfl]
  cases rightS x <;> simp

set_option maxRecDepth 100000 in
set_option maxHeartbeats 8000000 in
theorem scopeNone_walk {w : World} (v0 : Value) (words : List ByteArray) (hv0 : RowAt0 w v0 (strsV words)) (hm0 : sumS words ≤ 1048576) (name : ByteArray) (hn : name.size ≤ 1048576) (hE : Env w) :
    Calls Tryd.prog 10 #[v0, .string name] w (RetBel (.bool true) w) := by
  have hlen0 := len_sumS words
  have hg := great_c (.slice (some ⟨w.heap.size, 0, none⟩) 1 1) [v0] [words] (w.alloc (.cells #[v0] 22)) (row_new w [v0] 22) rfl (by simp) (fun i h => by
    match i, h with
    | 0, _ => exact hv0.bel (Bel.alloc _ _)) (by
    have := greatL_le words
    rw [greatN_cons, show greatN [] = 0 from rfl]; omega)
  have hal := fun w1 (hb : Bel w w1) => salive_c w1 (hE.bel hb)
  have hlo := fun w1 (hb : Bel w w1) => longest_c (.pointer none) [] v0 words w1 (ScopeIs.none w1) (hv0.bel hb) (by omega) (by omega)
  simp only [longS_none] at hlo
  have hwi := fun w1 (hb : Bel w w1) => with_c (.pointer none) [] (.slice (some ⟨w1.heap.size, 0, none⟩) 1 1) [name] (w1.alloc (.cells #[.string name] 9)) (hE.bel (hb.to_alloc _)) (ScopeIs.none _) (.inr (row_new w1 (strsV [name]) 9)) (by simp) (by simp; omega)
  simp only [with_one] at hwi
  have hha := fun w1 => has_c (.pointer none) [] name w1 (ScopeIs.none w1)
  rw [show decide (name ∈ ([] : List ByteArray)) = false from by simp] at hha
  have hle := fun w1 => len_c (.pointer none) [] w1 (ScopeIs.none w1)
  rw [show (([] : List ByteArray).length : Int) = 0 from rfl] at hle
  have hrr := fun w1 => rright_c name (by omega) w1
  obtain ⟨R, hR⟩ : ∃ R, (wordsS name).isSome = R := ⟨_, rfl⟩
  have hR2 : rightS name = R := hR
  simp only [hR2] at hwi
  simp only [hR] at hrr
  obtain ⟨a0, c0, rfl, _⟩ := row0_form hv0 words.length (strsV_length words)
  obtain ⟨n0, h0⟩ : ∃ n, words.length = n := ⟨_, rfl⟩
  obtain ⟨G, hG⟩ : ∃ G, decide (400 < greatN [words]) = G := ⟨_, rfl⟩
  rw [hG] at hg
  rw [h0] at hg hlo hlen0 ⊢
  have HG := Lib.hid hg
  have HA := Lib.hid hal
  have HL := Lib.hid hlo
  have HWI := Lib.hid hwi
  have HH := Lib.hid hha
  have HLE := Lib.hid hle
  have HRR := Lib.hid hrr
  clear hg hal hlo hwi hha hle hrr hG h0 hv0 hE hR hR2
  go_enter Tryd.func10, Tryd.ntmps10
  go_wp2_with fail
  refine HG.out.mono ?_
  rintro e w2 ⟨rfl, rfl⟩
  have hb2 : Bel w (w.alloc (.cells #[.slice a0 n0 c0] 22)) := Bel.alloc _ _
  have fin : ∀ (w2 : World), Bel w w2 → Calls Tryd.prog 14 #[] w2 (RetBel (.bool true) w2) := fun w2 hb => HA.out _ hb
  have FIN := Lib.hid fin
  clear fin
  cases G
  · by_cases h5 : 500 < name.size
    · have h6 : (500 : Int) < name.size := by omega
      go_wp2_with fail
      refine (HA.out _ hb2).mono ?_
      rintro e w3 ⟨rfl, hb3⟩
      go_wp2_with fail
      go_ret
      exact ⟨rfl, hb2.trans hb3⟩
    · have h6 : (name.size : Int) ≤ 500 := by omega
      go_wp2_with fail
      refine (HL.out _ hb2).mono ?_
      rintro e w3 ⟨rfl, hb3⟩
      have hb3' := hb2.trans hb3
      go_wp2_with fail
      have hW := HWI.out w3 hb3'
      cases R
      · rw [if_neg (by simp)] at hW
        refine hW.mono ?_
        rintro e w4 ⟨hb4, rfl⟩
        have hb4' := (hb3'.to_alloc _).trans hb4
        go_wp2_with fail
        refine (HA.out _ hb4').mono ?_
        rintro e w5 ⟨rfl, hb5⟩
        go_wp2_with fail
        refine (HH.out w5).mono ?_
        rintro e w6 ⟨rfl, hb6⟩
        go_wp2_with fail
        refine (HLE.out w6).mono ?_
        rintro e w7 ⟨rfl, rfl⟩
        go_wp2_with fail
        refine (HRR.out _).mono ?_
        rintro e w8 ⟨rfl, hb8⟩
        go_wp2_with fail
        go_ret
        exact ⟨rfl, ((hb4'.trans hb5).trans hb6).trans hb8⟩
      · rw [if_pos rfl] at hW
        refine hW.mono ?_
        rintro e w4 ⟨hb4, q, rfl, hq⟩
        obtain ⟨qo, rfl⟩ := scope_ptr hq
        have HQ := Lib.hid hq
        clear hq
        have hb4' := (hb3'.to_alloc _).trans hb4
        go_wp2_with fail
        refine (HA.out _ hb4').mono ?_
        rintro e w5 ⟨rfl, hb5⟩
        go_wp2_with fail
        refine (HH.out w5).mono ?_
        rintro e w6 ⟨rfl, hb6⟩
        go_wp2_with fail
        refine (HLE.out w6).mono ?_
        rintro e w7 ⟨rfl, rfl⟩
        go_wp2_with fail
        refine (HRR.out _).mono ?_
        rintro e w8 ⟨rfl, hb8⟩
        have hq8 := HQ.out.bel ((hb5.trans hb6).trans hb8)
        have hb8' := ((hb4'.trans hb5).trans hb6).trans hb8
        have h1 := has_c _ [name] name w8 hq8
        rw [show decide (name ∈ [name]) = true from by simp] at h1
        have h2 := fun w9 (hb : Bel w8 w9) => len_c _ [name] w9 (hq8.bel hb)
        have h3 := fun w9 (hb : Bel w8 w9) => names_c _ [name] w9 (hq8.bel hb)
        have H1 := Lib.hid h1
        have H2 := Lib.hid h2
        have H3 := Lib.hid h3
        clear h1 h2 h3 hq8
        go_wp2_with fail
        refine H1.out.mono ?_
        rintro e w9 ⟨rfl, hb9⟩
        go_wp2_with fail
        refine (H2.out _ hb9).mono ?_
        rintro e w10 ⟨rfl, rfl⟩
        go_wp2_with fail
        refine (H3.out _ hb9).mono ?_
        rintro e w11 ⟨x11, rfl, hr11, hb11⟩
        have hsm := ssame_c x11 (.slice (some ⟨w11.heap.size, 0, none⟩) 1 1) [name] [name] (w11.alloc (.cells #[.string name] 9)) (hr11.bel (Bel.alloc _ _)) (.inr (row_new w11 (strsV [name]) 9)) (by simp)
        rw [decide_eq_true rfl] at hsm
        have HSM := Lib.hid hsm
        clear hsm hr11
        go_wp2_with fail
        refine HSM.out.mono ?_
        rintro e w12 ⟨rfl, hb12⟩
        go_wp2_with fail
        go_ret
        exact ⟨rfl, (((hb8'.trans hb9).trans hb11).to_alloc _).trans hb12⟩
  · go_wp2_with fail
    refine (HA.out _ hb2).mono ?_
    rintro e w3 ⟨rfl, hb3⟩
    go_wp2_with fail
    go_ret
    exact ⟨rfl, hb2.trans hb3⟩
end Go.Proofs.YtaaedmipcffjoaaDoor
