/-
  The walk of the law ScopeAsks: whatever the names, the words, the name: true.
-/
import Derived.Test.YtaaedmipcffjoaaDoorSCI
import Derived.Test.YtaaedmipcffjoaaDoorSCF
namespace Go.Proofs.YtaaedmipcffjoaaDoor
open Go.RowKit

set_option maxRecDepth 100000 in
theorem scope_eql (p : Option Addr) (w : World) : (binOp .eql 25 (.pointer p) (.pointer none)).run Tryd.prog w = .ok (.bool (p == none)) w := by
  cases p <;> rfl

set_option maxRecDepth 100000 in
set_option maxHeartbeats 4000000 in
theorem scopeAsks_walk {w : World} (v0 : Value) (l : List ByteArray) (hv0 : RowAt0 w v0 (strsV l)) (hm0 : sumS l ≤ 1048576) (v1 : Value) (words : List ByteArray) (hv1 : RowAt0 w v1 (strsV words)) (hm1 : sumS words ≤ 1048576) (name : ByteArray) (hn : name.size ≤ 1048576) (hE : Env w) :
    Calls Tryd.prog 3 #[v0, v1, .string name] w (RetBel (.bool true) w) := by
  have hlen0 := len_sumS l
  have hlen1 := len_sumS words
  have hg := fun w1 (hb : Bel w w1) => great_c (.slice (some ⟨w1.heap.size, 0, none⟩) 2 2) [v0, v1] [l, words] (w1.alloc (.cells #[v0, v1] 22)) (row_new w1 [v0, v1] 22) rfl (by simp) (fun i h => by
    match i, h with
    | 0, _ => exact hv0.bel (hb.trans (Bel.alloc _ _))
    | 1, _ => exact hv1.bel (hb.trans (Bel.alloc _ _))) (by
    have := greatL_le l; have := greatL_le words
    rw [greatN_cons, greatN_cons, show greatN [] = 0 from rfl]; omega)
  have hal := fun w1 (hb : Bel w w1) => salive_c w1 (hE.bel hb)
  have hnew := fun w1 (hb : Bel w w1) => new_c v0 l w1 (hE.bel hb) (hv0.bel hb) (by omega) (fun x hx => by have := mem_sumS l x hx; omega)
  have hlo := fun w1 p N (hp : ScopeIs w1 p N) (hb : Bel w w1) => longest_c p N v1 words w1 hp (hv1.bel hb) (by omega) (by omega)
  have hrl := fun w1 (hb : Bel w w1) => rlongest_c v0 l v1 words w1 (hv0.bel hb) (by omega) (hv1.bel hb) (by omega) (by omega)
  have hrh := fun w1 (hb : Bel w w1) => rhas_c v0 l name w1 (hv0.bel hb) (by omega)
  obtain ⟨a0, c0, rfl, _⟩ := row0_form hv0 l.length (strsV_length l)
  obtain ⟨a1, c1, rfl, _⟩ := row0_form hv1 words.length (strsV_length words)
  obtain ⟨n0, h0⟩ : ∃ n, l.length = n := ⟨_, rfl⟩
  obtain ⟨n1, h1⟩ : ∃ n, words.length = n := ⟨_, rfl⟩
  obtain ⟨G, hG⟩ : ∃ G, decide (400 < greatN [l, words]) = G := ⟨_, rfl⟩
  rw [hG] at hg
  rw [h0] at hg hnew hrl hrh hlen0 ⊢
  rw [h1] at hg hlo hrl hlen1 ⊢
  have HG := Lib.hid hg
  have HA := Lib.hid hal
  have HN := Lib.hid hnew
  have HL := Lib.hid hlo
  have HRL := Lib.hid hrl
  have HRH := Lib.hid hrh
  clear hg hal hnew hlo hrl hrh hG h0 h1 hv0 hv1 hE
  go_enter Tryd.func3, Tryd.ntmps3
  go_wp2_with fail
  refine (HA.out _ (by (repeat (first | exact Bel.refl _ | assumption | refine Bel.to_drewN ?_ _ | refine Bel.to_drew ?_ | refine Bel.to_setCell ?_ (by first | exact Nat.le_refl _ | (simp; done) | (simp; omega) | omega) _ | refine Bel.to_alloc ?_ _ | refine Bel.trans ?_ (by assumption))))).mono ?_
  rintro e w1 ⟨rfl, hb1⟩
  go_wp2_with fail
  refine (HG.out _ hb1).mono ?_
  rintro e w2 ⟨rfl, rfl⟩
  have hb2 : Bel w (w1.alloc (.cells #[.slice a0 n0 c0, .slice a1 n1 c1] 22)) := hb1.to_alloc _
  cases G
  · by_cases h5 : 500 < name.size
    · have h6 : (500 : Int) < name.size := by omega
      go_wp2_with fail
      refine (HA.out _ hb2).mono ?_
      rintro e w3 ⟨rfl, hb3⟩
      go_wp2_with fail
      go_ret
      exact ⟨rfl, hb2.trans hb3⟩
    · have h6 : (name.size : Int) ≤ 500 := by omega
      go_wp2_with fail
      have hN := HN.out _ hb2
      rcases withS_cases [] l with h | h | h <;> rw [h] at hN
      · refine hN.mono ?_
        rintro e w3 ⟨hb3, rfl⟩
        go_wp2_with fail
        go_ret
        exact ⟨rfl, hb2.trans hb3⟩
      · refine hN.mono ?_
        rintro e w3 ⟨hb3, rfl⟩
        go_wp2_with fail
        go_ret
        exact ⟨rfl, hb2.trans hb3⟩
      · refine hN.mono ?_
        rintro e w3 ⟨hb3, p, rfl, hp⟩
        obtain ⟨po, rfl⟩ := scope_ptr hp
        have hb3' := hb2.trans hb3
        have hlo := HL.out _ _ _ hp hb3'
        have hrl := HRL.out
        have hsame := longS_same (addS [] l) l words (addS_nil_mem l) n1
        rw [hsame] at hlo
        obtain ⟨⟨X, q⟩, hX⟩ : ∃ r, longS l words n1 = r := ⟨_, rfl⟩
        rw [hX] at hlo hrl
        have hhas := fun w4 (hb : Bel w3 w4) => has_c _ _ name w4 (hp.bel hb)
        have hrh := HRH.out
        simp only [addS_nil_mem l name] at hhas
        obtain ⟨F, hF⟩ : ∃ F, decide (name ∈ l) = F := ⟨_, rfl⟩
        simp only [hF] at hhas hrh
        have K1 := Lib.hid hlo
        have K2 := Lib.hid hrl
        have K3 := Lib.hid hhas
        have K4 := Lib.hid hrh
        have K5 := Lib.hid hb3'
        clear hlo hrl hhas hrh hF hX hsame hp hN h hb3' hb3
        go_wp2_with fail
        refine K1.out.mono ?_
        rintro e w4 ⟨rfl, hb4⟩
        go_wp2_with fail
        refine (K2.out w4 (K5.out.trans hb4)).mono ?_
        rintro e w5 ⟨rfl, hb5⟩
        go_wp2_with fail
        refine (K3.out w5 (hb4.trans hb5)).mono ?_
        rintro e w6 ⟨rfl, hb6⟩
        go_wp2_with fail
        refine (K4.out w6 (((K5.out.trans hb4).trans hb5).trans hb6)).mono ?_
        rintro e w7 ⟨rfl, hb7⟩
        go_wp2_with fail
        go_ret
        exact ⟨ret_bool (by simp), (((K5.out.trans hb4).trans hb5).trans hb6).trans hb7⟩
  · go_wp2_with fail
    refine (HA.out _ hb2).mono ?_
    rintro e w3 ⟨rfl, hb3⟩
    go_wp2_with fail
    go_ret
    exact ⟨rfl, hb2.trans hb3⟩
end Go.Proofs.YtaaedmipcffjoaaDoor
