/-
  The walk of the law ScopeWords: whatever the names, the words behind: true.
-/
import Derived.Test.YtaaedmipcffjoaaDoorSCI
import Derived.Test.YtaaedmipcffjoaaDoorSCJ
import Derived.Test.YtaaedmipcffjoaaDoorX
import Derived.Test.YtaaedmipcffjoaaDoorY
namespace Go.Proofs.YtaaedmipcffjoaaDoor
open Go.RowKit

theorem info_str4 : (Tryd.prog.info? 9).map (fun i => (i.zero, i.size, i.bytes)) = some (some (.string ⟨#[]⟩), 1, 16) := by kernel_rfl
theorem strs_one4 (l : List ByteArray) : ∀ y ∈ strsV l, y.oneCell' = true := by
  intro y hy
  obtain ⟨x, _, rfl⟩ := List.mem_map.1 hy
  rfl
theorem words_some (s : ByteArray) (h : rightS s = true) : rwordsS s = some (partsS s) := by
  rw [words_same]
  unfold rightS at h
  unfold wordsS at h ⊢
  split at h
  · rename_i h1; rw [if_pos h1]
  · cases h
theorem new_right {l N : List ByteArray} {M : List ByteArray} (h : withS N l = (some M, 0)) : ∀ x ∈ l, rightS x = true := by
  unfold withS at h
  split at h
  · cases h
  · rename_i h1
    exact List.all_eq_true.1 (by cases hh : l.all rightS with
      | true => rfl
      | false => exact absurd hh h1)

set_option maxRecDepth 100000 in
set_option maxHeartbeats 8000000 in
theorem scopeWords_walk {w : World} (v0 : Value) (l : List ByteArray) (hv0 : RowAt0 w v0 (strsV l)) (hm0 : sumS l ≤ 1048576) (v1 : Value) (behind : List ByteArray) (hv1 : RowAt0 w v1 (strsV behind)) (hm1 : sumS behind ≤ 1048576) (hE : Env w) :
    Calls Tryd.prog 5 #[v0, v1] w (RetBel (.bool true) w) := by
  have hlen0 := len_sumS l
  have hlen1 := len_sumS behind
  have hg := fun w1 (hb : Bel w w1) => great_c (.slice (some ⟨w1.heap.size, 0, none⟩) 2 2) [v0, v1] [l, behind] (w1.alloc (.cells #[v0, v1] 22)) (row_new w1 [v0, v1] 22) rfl (by simp) (fun i h => by
    match i, h with
    | 0, _ => exact hv0.bel (hb.trans (Bel.alloc _ _))
    | 1, _ => exact hv1.bel (hb.trans (Bel.alloc _ _))) (by
    have := greatL_le l; have := greatL_le behind
    rw [greatN_cons, greatN_cons, show greatN [] = 0 from rfl]; omega)
  have hal := fun w1 (hb : Bel w w1) => salive_c w1 (hE.bel hb)
  have hnew := fun w1 (hb : Bel w w1) => new_c v0 l w1 (hE.bel hb) (hv0.bel hb) (by omega) (fun x hx => by have := mem_sumS l x hx; omega)
  obtain ⟨a0, c0, rfl, hcs⟩ := row0_form hv0 l.length (strsV_length l)
  obtain ⟨a1, c1, rfl, _⟩ := row0_form hv1 behind.length (strsV_length behind)
  obtain ⟨n0, h0⟩ : ∃ n, l.length = n := ⟨_, rfl⟩
  obtain ⟨n1, h1⟩ : ∃ n, behind.length = n := ⟨_, rfl⟩
  obtain ⟨G, hG⟩ : ∃ G, decide (400 < greatN [l, behind]) = G := ⟨_, rfl⟩
  rw [hG] at hg
  rw [h0] at hg hnew hlen0 hcs ⊢
  rw [h1] at hg hlen1 hv1 ⊢
  have HG := Lib.hid hg
  have HA := Lib.hid hal
  have HN := Lib.hid hnew
  have HV1 := Lib.hid hv1
  have HCS := Lib.hid hcs
  have HL0 := Lib.hid h0
  have HL1 := Lib.hid h1
  have HE := Lib.hid hE
  clear hg hal hnew hG h0 h1 hv0 hv1 hE hcs
  go_enter Tryd.func5, Tryd.ntmps5
  go_wp2_with fail
  refine (HA.out _ (by (repeat (first | exact Bel.refl _ | assumption | refine Bel.to_drewN ?_ _ | refine Bel.to_drew ?_ | refine Bel.to_setCell ?_ (by first | exact Nat.le_refl _ | (simp; done) | (simp; omega) | omega) _ | refine Bel.to_alloc ?_ _ | refine Bel.trans ?_ (by assumption))))).mono ?_
  rintro e w1 ⟨rfl, hb1⟩
  go_wp2_with fail
  refine (HG.out _ hb1).mono ?_
  rintro e w2 ⟨rfl, rfl⟩
  have hb2 : Bel w (w1.alloc (.cells #[.slice a0 n0 c0, .slice a1 n1 c1] 22)) := hb1.to_alloc _
  cases G
  · by_cases hz : n0 = 0
    · subst hz
      go_wp2_with fail
      refine (HA.out _ hb2).mono ?_
      rintro e w3 ⟨rfl, hb3⟩
      go_wp2_with fail
      go_ret
      exact ⟨rfl, hb2.trans hb3⟩
    · have hz2 : ((n0 : Int) == 0) = false := by simpa using hz
      go_wp2_with fail
      have hN := HN.out _ hb2
      rcases withS_cases [] l with h | h | h <;> rw [h] at hN
      · refine hN.mono ?_
        rintro e w3 ⟨hb3, rfl⟩
        go_wp2_with fail
        go_ret
        exact ⟨rfl, hb2.trans hb3⟩
      · refine hN.mono ?_
        rintro e w3 ⟨hb3, rfl⟩
        go_wp2_with fail
        go_ret
        exact ⟨rfl, hb2.trans hb3⟩
      · refine hN.mono ?_
        rintro e w3 ⟨hb3, p, rfl, hp⟩
        obtain ⟨po, rfl⟩ := scope_ptr hp
        have hb3' := hb2.trans hb3
        have hri := new_right h
        have HP := Lib.hid hp
        have HRI := Lib.hid hri
        have HB3 := Lib.hid hb3'
        clear hN h hp hri hb3' hb3 HG HN
        go_wp2_with fail
        go_loopw [38] (fun i wr => ∃ j : Nat, j ≤ n0 ∧ i = .int .i64 j ∧ Bel w3 wr) (fun i _ => n0 - (intOf i).toNat)
        case atStart => exact ⟨0, Nat.zero_le _, rfl, Bel.refl _⟩
        case round =>
          obtain ⟨j, hj, rfl, hbel⟩ := hrel
          by_cases hjn : j < n0
          · have hjl : j < l.length := by rw [HL0.out]; exact hjn
            obtain ⟨b, off, rfl, hlt, hcap, hce⟩ := HCS.out (by omega)
            obtain ⟨name, hx⟩ : ∃ x, l[j] = x := ⟨_, rfl⟩
            have hmem : name ∈ l := by rw [← hx]; exact List.getElem_mem hjl
            have hcell : wr.cell? ⟨b, off + j, none⟩ = some (.string name) := by
              rw [(HB3.out.trans hbel).cell hlt, hce j hjn, ← hx]; simp [strsV, hjl]
            have hns := mem_sumS l name hmem
            have hw := rwords_c name (by omega) wr
            rw [words_some name (HRI.out name hmem)] at hw
            have hmemN : name ∈ addS [] l := (addS_nil_mem l name).2 hmem
            have ho := own_words (addS [] l) name hmemN
            have hmw := more_words (addS [] l) name hmemN behind
            have hps := joinS_size_eq (partsS name) (parts_ne name)
            rw [joinS_parts] at hps
            have hpl := len_sumS (partsS name)
            obtain ⟨ps, hpp⟩ : ∃ ps, partsS name = ps := ⟨_, rfl⟩
            rw [hpp] at hw ho hmw hps hpl
            obtain ⟨N, hNN⟩ : ∃ N, addS [] l = N := ⟨_, rfl⟩
            rw [hNN] at ho hmw
            have hpp2 := HP.out
            rw [hNN] at hpp2
            obtain ⟨m, hm⟩ : ∃ m, ps.length = m := ⟨_, rfl⟩
            obtain ⟨⟨y, k⟩, hyk⟩ : ∃ r, longS N (ps ++ behind) (ps ++ behind).length = r := ⟨_, rfl⟩
            obtain ⟨q1, q2, q3⟩ := hmw y k hyk
            rw [hm] at q1 q2 q3 ho hpl
            have HW := Lib.hid hw
            have HO := Lib.hid ho
            have HYK := Lib.hid hyk
            have HM := Lib.hid hm
            have HPP := Lib.hid hpp2
            have Q2 := Lib.hid q2
            have Q3 := Lib.hid q3
            have HPS := Lib.hid hps
            have hmL : (m : Int) ≤ 4294967296 := by omega
            have hwl := Nat.lt_of_lt_of_le hlt (HB3.out.trans hbel).size
            clear hw ho hyk hm hpp2 q2 q3 hmw hpp hNN hx hmemN hce
            go_wp2_with fail
            refine HW.out.mono ?_
            rintro e w4 ⟨hb4, vw, rfl, hvw⟩
            obtain ⟨bw, ow, cw, rfl, hcw, hltw, hcew⟩ := hvw
            have hvw : RowAt w4 (.slice (some ⟨bw, ow, none⟩) (strsV ps).length cw) (strsV ps) := ⟨bw, ow, cw, rfl, hcw, hltw, hcew⟩
            rw [strsV_length, HM.out] at hvw hcw ⊢
            have hl1 := longest_c _ N _ ps w4 ((HPP.out.bel hbel).bel hb4) (.inr hvw) (by have := HM.out; omega) (by have := HPS.out; omega)
            rw [HM.out, HO.out] at hl1
            have H1 := Lib.hid hl1
            have HVW := Lib.hid hvw
            clear hl1 hvw hcew
            go_wp2_with fail
            refine H1.out.mono ?_
            rintro e w5 ⟨rfl, hb5⟩
            have hb5' := (hbel.trans hb4).trans hb5
            have hrow5 : RowAt0 (w5.alloc (.cells #[] 9)) (.slice (some ⟨bw, ow, none⟩) m cw) (strsV ps) := .inr (HVW.out.bel (hb5.trans (Bel.alloc _ _)))
            have HROW5 := Lib.hid hrow5
            clear hrow5
            go_wp2_with (first
              | (at_builtin; refine wpL_appendR rfl _ _ 22 rfl w5.heap.size (by simp) 9 (.string ⟨#[]⟩) 16 Tryd.underlying22 info_str4 rfl (by decide) (.slice (some ⟨w5.heap.size, 0, none⟩) 0 0) 0 [] rfl (own_fresh w5 _ _ (Nat.le_refl _)) (.slice (some ⟨bw, ow, none⟩) m cw) (strsV ps) rfl HROW5.out (strs_one4 _) (by rw [strsV_length, HM.out]; omega) ?_; intro v6 w6 hown6 hgr6; have hb6 : Bel w5 w6 := own_grown (own_fresh w5 _ _ (Nat.le_refl _)) (Bel.alloc _ _) hgr6 (Nat.le_refl _); rw [strsV_length, HM.out, Nat.zero_add, List.nil_append] at hown6; have OWN6 := Lib.hid hown6; have B6 := Lib.hid hb6; clear hown6 hgr6 hb6)
              | (at_builtin; refine wpL_appendR rfl _ _ 22 rfl w5.heap.size B6.out.size 9 (.string ⟨#[]⟩) 16 Tryd.underlying22 info_str4 rfl (by decide) v6 m (strsV ps) rfl OWN6.out (.slice a1 n1 c1) (strsV behind) rfl (HV1.out.bel (((HB3.out.trans hb5').trans B6.out))) (strs_one4 _) (by rw [strsV_length, HL1.out]; omega) ?_; intro v7 w7 hown7 hgr7; have hb7 : Bel w5 w7 := own_grown OWN6.out B6.out hgr7 (Nat.le_refl _); rw [strsV_length, HL1.out] at hown7; have OWN7 := Lib.hid hown7; have B7 := Lib.hid hb7; clear hown7 hgr7 hb7))
            have hrow7 := own_row OWN7.out
            rw [show strsV ps ++ strsV behind = strsV (ps ++ behind) from by simp [strsV]] at hrow7
            have hb7' := hb5'.trans B7.out
            have hl2 := longest_c _ N v7 (ps ++ behind) w7 (HPP.out.bel hb7') hrow7 (by rw [List.length_append, HM.out, HL1.out]; omega) (by rw [sumS_append]; have := HPS.out; omega)
            rw [HYK.out] at hl2
            have HL2 := Lib.hid hl2
            clear hl2 hrow7
            refine HL2.out.mono ?_
            rintro e w8 ⟨rfl, hb8⟩
            have hb8' := hb7'.trans hb8
            rcases Nat.eq_or_lt_of_le q1 with e1 | e1
            · have hyn := Q2.out e1.symm
              subst e1 hyn
              go_wp2_with fail
              refine ⟨⟨j + 1, by omega, by go_num, hb8'⟩, by simp [intOf]; omega⟩
            · obtain ⟨g1, g2, g3⟩ := Q3.out e1
              have hh := has_c _ N y w8 (HPP.out.bel hb8')
              rw [decide_eq_true g1] at hh
              have HH := Lib.hid hh
              have e2 : (m : Int) < k := by omega
              have e3 : ((k : Int) == m) = false := by simp; omega
              have e4 : (k == m) = false := by simp; omega
              have e5 : (name.size : Int) < y.size := by omega
              have e6 : (name.size : Int) ≤ y.size := by omega
              clear hh g1
              go_wp2_with fail
              refine HH.out.mono ?_
              rintro e w9 ⟨rfl, hb9⟩
              go_wp2_with fail
              refine ⟨⟨j + 1, by omega, by go_num, hb8'.trans hb9⟩, by simp [intOf]; omega⟩
          · obtain rfl : j = n0 := by omega
            go_wp2_with fail
            go_ret
            exact ⟨rfl, HB3.out.trans hbel⟩
  · go_wp2_with fail
    refine (HA.out _ hb2).mono ?_
    rintro e w3 ⟨rfl, hb3⟩
    go_wp2_with fail
    go_ret
    exact ⟨rfl, hb2.trans hb3⟩
end Go.Proofs.YtaaedmipcffjoaaDoor
