/-
  The walk of the law ScopeOrder: whatever the names: true.
-/
import Derived.Test.YtaaedmipcffjoaaDoorSCI
import Derived.Test.YtaaedmipcffjoaaDoorSCF
import Derived.Test.YtaaedmipcffjoaaDoorSCL
import Derived.Test.YtaaedmipcffjoaaDoorSCM
import Derived.Deep.RegionHeld3
import Derived.BigQuiet
import Derived.Deep.QuietTactic
import Derived.IntWalk
namespace Go.Proofs.YtaaedmipcffjoaaDoor
open Go.RowKit

theorem srt_rev (l : List ByteArray) : addS [] l.reverse = addS [] l :=
  srt_ext (srt_addS _ srt_nil) (srt_addS _ srt_nil) fun x => by rw [mem_addS, mem_addS, List.mem_reverse]
theorem insS_length (x : ByteArray) : ∀ l, (insS x l).length ≤ l.length + 1
  | [] => by simp [insS]
  | y :: l => by
    have := insS_length x l
    unfold insS
    split
    · simp
    · split
      · simp
      · rw [List.length_cons, List.length_cons]; omega
theorem addS_length_le : ∀ (more l : List ByteArray), (addS l more).length ≤ l.length + more.length
  | [], l => Nat.le_refl _
  | x :: more, l => by
    have h1 := addS_length_le more (insS x l)
    have h2 := insS_length x l
    rw [show addS l (x :: more) = addS (insS x l) more from rfl, List.length_cons]
    omega
theorem addS_two {N : List ByteArray} (hN : Srt N) (x : ByteArray) : addS N [x, x] = insS x N := by
  rw [show addS N [x, x] = insS x (insS x N) from rfl]
  exact insS_mem (srt_insS x hN) ((mem_insS x x N).2 (.inl rfl))
theorem with_two {N : List ByteArray} (hN : Srt N) (x : ByteArray) (hx : rightS x = true) (hl : N.length ≤ 1000) : withS N [x, x] = (some (insS x N), 0) := by
  have h1 := insS_length x N
  unfold withS
  rw [addS_two hN, if_neg (by simp [hx]), if_neg (by omega)]
theorem drop_rev (l : List ByteArray) (k : Nat) (h : k < l.length) : addS [] (l.drop k).reverse = insS l[k] (addS [] (l.drop (k + 1)).reverse) := by
  rw [List.drop_eq_getElem_cons h, List.reverse_cons, addS_snoc]
theorem scope_some {w : World} {po : Option Addr} {N : List ByteArray} (h : ScopeIs w (.pointer po) N) (hN : N ≠ []) : ∃ p, po = some p := by
  cases po with
  | some p => exact ⟨p, rfl⟩
  | none =>
    obtain ⟨_, _, C, hv, hp⟩ := h
    cases C with
    | nil => exact absurd (List.Perm.eq_nil hp) hN
    | cons own C => obtain ⟨b, u, sl, h1, _⟩ := hv; cases h1
theorem srt_next {N : List ByteArray} (hN : Srt N) (i : Nat) (h : i + 1 < N.length) : Op.bytesLess N[i].toList N[i + 1].toList = true := by
  rw [bytesLess_ltB, decide_eq_true_eq]
  exact List.pairwise_iff_getElem.1 hN i (i + 1) (by omega) h (by omega)
theorem new_right2 {l N : List ByteArray} {M : List ByteArray} (h : withS N l = (some M, 0)) : ∀ x ∈ l, rightS x = true := by
  unfold withS at h
  split at h
  · cases h
  · rename_i h1
    exact List.all_eq_true.1 (by cases hh : l.all rightS with
      | true => rfl
      | false => exact absurd hh h1)

set_option maxRecDepth 100000 in
set_option maxHeartbeats 8000000 in
theorem scopeOrder_walk {w : World} (v0 : Value) (l : List ByteArray) (hv0 : RowAt0 w v0 (strsV l)) (hm0 : sumS l ≤ 1048576) (hE : Env w) :
    Calls Tryd.prog 11 #[v0] w (RetBel (.bool true) w) := by
  have hlen0 := len_sumS l
  have hg := fun w1 (hb : Bel w w1) => great_c (.slice (some ⟨w1.heap.size, 0, none⟩) 1 1) [v0] [l] (w1.alloc (.cells #[v0] 22)) (row_new w1 [v0] 22) rfl (by simp) (fun i h => by
    match i, h with
    | 0, _ => exact hv0.bel (hb.trans (Bel.alloc _ _))) (by
    have := greatL_le l
    rw [greatN_cons, show greatN [] = 0 from rfl]; omega)
  have hal := fun w1 (hb : Bel w w1) => salive_c w1 (hE.bel hb)
  have hnew := fun w1 (hb : Bel w w1) => new_c v0 l w1 (hE.bel hb) (hv0.bel hb) (by omega) (fun x hx => by have := mem_sumS l x hx; omega)
  have hwi := fun w1 p N x (hx : x ∈ l) (hp : ScopeIs w1 p N) (hb : Bel w w1) g (hrow : RowAt w1 (.slice (some ⟨g, 0, none⟩) 2 2) (strsV [x, x])) => with_c p N (.slice (some ⟨g, 0, none⟩) 2 2) [x, x] w1 (hE.bel hb) hp (.inr hrow) (by simp) (fun y hy => by
    obtain rfl : y = x := by simpa using hy
    have := mem_sumS l y hx; omega)
  obtain ⟨a0, c0, rfl, hcs⟩ := row0_form hv0 l.length (strsV_length l)
  obtain ⟨n0, h0⟩ : ∃ n, l.length = n := ⟨_, rfl⟩
  obtain ⟨G, hG⟩ : ∃ G, decide (400 < greatN [l]) = G := ⟨_, rfl⟩
  rw [hG] at hg
  rw [h0] at hg hnew hlen0 hcs ⊢
  have HG := Lib.hid hg
  have HA := Lib.hid hal
  have HN := Lib.hid hnew
  have HWI := Lib.hid hwi
  have HCS := Lib.hid hcs
  have HL0 := Lib.hid h0
  clear hg hal hnew hwi hG h0 hv0 hE hcs
  go_enter Tryd.func11, Tryd.ntmps11
  go_wp2_with fail
  refine (HA.out _ (by (repeat (first | exact Bel.refl _ | assumption | refine Bel.to_drewN ?_ _ | refine Bel.to_drew ?_ | refine Bel.to_setCell ?_ (by first | exact Nat.le_refl _ | (simp; done) | (simp; omega) | omega) _ | refine Bel.to_alloc ?_ _ | refine Bel.trans ?_ (by assumption))))).mono ?_
  rintro e w1 ⟨rfl, hb1⟩
  go_wp2_with fail
  refine (HG.out _ hb1).mono ?_
  rintro e w2 ⟨rfl, rfl⟩
  have hb2 : Bel w (w1.alloc (.cells #[.slice a0 n0 c0] 22)) := hb1.to_alloc _
  cases G
  · by_cases hz : 60 < n0
    · have hz2 : (60 : Int) < n0 := by omega
      go_wp2_with fail
      refine (HA.out _ hb2).mono ?_
      rintro e w3 ⟨rfl, hb3⟩
      go_wp2_with fail
      go_ret
      exact ⟨rfl, hb2.trans hb3⟩
    · have hz2 : (n0 : Int) ≤ 60 := by omega
      go_wp2_with fail
      have hN := HN.out _ hb2
      rcases withS_cases [] l with h | h | h <;> rw [h] at hN
      · refine hN.mono ?_
        rintro e w3 ⟨hb3, rfl⟩
        go_wp2_with fail
        go_ret
        exact ⟨rfl, hb2.trans hb3⟩
      · refine hN.mono ?_
        rintro e w3 ⟨hb3, rfl⟩
        go_wp2_with fail
        go_ret
        exact ⟨rfl, hb2.trans hb3⟩
      · refine hN.mono ?_
        rintro e w3 ⟨hb3, p, rfl, hp⟩
        obtain ⟨po, rfl⟩ := scope_ptr hp
        have hb3' := hb2.trans hb3
        have hri := new_right2 h
        obtain ⟨N, hNN⟩ : ∃ N, addS [] l = N := ⟨_, rfl⟩
        rw [hNN] at hp
        have HP := Lib.hid hp
        have HRI := Lib.hid hri
        have HB3 := Lib.hid hb3'
        have HNN := Lib.hid hNN
        clear hN h hp hri hb3' hb3 HG HN hNN hb1 hb2
        go_wp2_with fail
        go_loopw [5, 6] (fun t i wr => ∃ (k : Nat) (q : Option Addr), k ≤ n0 ∧ i = .int .i64 ((k : Int) - 1) ∧ t = .pointer q ∧ Bel w3 wr ∧ ScopeIs wr (.pointer q) (addS [] (l.drop k).reverse)) (fun _ i _ => (intOf i + 1).toNat)
        case atStart => exact ⟨n0, none, Nat.le_refl _, rfl, rfl, Bel.refl _, by rw [List.drop_of_length_le (by have := HL0.out; omega)]; exact ScopeIs.none _⟩
        case round =>
          obtain ⟨k, q, hk, rfl, rfl, hbel, hq⟩ := hrel
          cases k with
          | zero =>
            rw [List.drop_zero, srt_rev, HNN.out] at hq
            have hsN : Srt N := by rw [← HNN.out]; exact srt_addS _ srt_nil
            have hNl : N.length ≤ 60 := by
              rw [← HNN.out]
              have := addS_length_le l []
              rw [List.length_nil, HL0.out] at this
              omega
            have hs1 := HP.out.bel hbel
            have h1 := names_c _ N wr hs1
            have h2 := fun w1 (hb : Bel wr w1) => names_c _ N w1 (hq.bel hb)
            have h3 := fun w1 (hb : Bel wr w1) x => has_q (.pointer po) N x w1 (hs1.bel hb)
            have h4 := fun w1 (hb : Bel wr w1) => len_c _ N w1 (hs1.bel hb)
            have h5 := fun w1 (hb : Bel wr w1) => len_c _ N w1 (hq.bel hb)
            obtain ⟨m, hm⟩ : ∃ m, N.length = m := ⟨_, rfl⟩
            have H1 := Lib.hid h1
            have H2 := Lib.hid h2
            have H3 := Lib.hid h3
            rw [hm] at h4 h5 hNl
            have H4 := Lib.hid h4
            have H5 := Lib.hid h5
            have HM := Lib.hid hm
            have HSN := Lib.hid hsN
            clear h1 h2 h3 h4 h5 hm hsN hs1 hq
            have hend := HB3.out.trans hbel
            have HE := Lib.hid hend
            clear hend hbel
            go_wp2_with fail
            refine H1.out.mono ?_
            rintro e w4 ⟨u, rfl, hu, hb4⟩
            go_wp2_with fail
            refine (H2.out _ hb4).mono ?_
            rintro e w5 ⟨v, rfl, hv, hb5⟩
            have hb5' := hb4.trans hb5
            have hu5 := hu.bel hb5
            obtain ⟨ua, uc, rfl, huc⟩ := row0_form hu5 N.length (strsV_length N)
            obtain ⟨va, vc, rfl, _⟩ := row0_form hv N.length (strsV_length N)
            have h6 := fun w6 (hb : Bel w5 w6) => ssame_c _ _ N N w6 (hu5.bel hb) (hv.bel hb) (by rw [HM.out]; omega)
            rw [decide_eq_true rfl] at h6
            rw [HM.out] at h6 huc ⊢
            have H6 := Lib.hid h6
            have HU := Lib.hid huc
            clear h6 huc hu5 hv hu hb4 hb5
            go_wp2_with fail
            go_loopw [68] (fun i wr => ∃ j : Nat, j ≤ m ∧ i = .int .i64 j ∧ Bel w5 wr) (fun i _ => m - (intOf i).toNat)
            case atStart => exact ⟨0, Nat.zero_le _, rfl, Bel.refl _⟩
            case round =>
              obtain ⟨j, hj, rfl, hbw⟩ := hrel
              by_cases hjm : j < m
              · have hjl : j < N.length := by rw [HM.out]; exact hjm
                obtain ⟨b, off, rfl, hlt, hcap, hce⟩ := HU.out (by omega)
                obtain ⟨x, hx⟩ : ∃ x, N[j] = x := ⟨_, rfl⟩
                have hmem : x ∈ N := by rw [← hx]; exact List.getElem_mem hjl
                have hcx : wr.cell? ⟨b, off + j, none⟩ = some (.string x) := by
                  rw [hbw.cell hlt, hce j hjm, ← hx]; simp [strsV, hjl]
                have hji : (j : Int) < m := by omega
                have hq3 := fun w6 (hb : Bel wr w6) => (H3.out w6 ((hb5'.trans hbw).trans hb) x).mono (R' := fun e w7 => e = .returned (.bool (decide (x ∈ N))) ∧ ∃ n, w7 = w6.drewN n) fun _ _ ⟨h1, n, h2⟩ => ⟨h1, n, h2.symm⟩
                rw [decide_eq_true hmem] at hq3
                have HQ3 := Lib.hid hq3
                by_cases h0 : j = 0
                · subst h0
                  have hd : decide ((0 : Int) < (0 : Int)) = false := by decide
                  rw [Nat.add_zero] at hcx
                  clear hq3 hx hce hmem
                  go_wp2_with fail
                  go_quiet (first | (go_at_call 19; refine Calls.quiet_of (HQ3.out _ (Bel.drewN _ _))))
                  go_wp2_with fail
                  refine ⟨⟨1, by omega, rfl, hbw.to_drewN nq⟩, by simp [intOf]; omega⟩
                · obtain ⟨i, rfl⟩ : ∃ i, j = i + 1 := ⟨j - 1, by omega⟩
                  have hlt2 := srt_next HSN.out i hjl
                  obtain ⟨y, hy⟩ : ∃ y, N[i]'(by omega) = y := ⟨_, rfl⟩
                  have hcy : wr.cell? ⟨b, off + i, none⟩ = some (.string y) := by
                    rw [hbw.cell hlt, hce i (by omega), ← hy]; simp [strsV, show i < N.length from by omega]
                  rw [hx, hy] at hlt2
                  have f0 : decide (0 < i + 1) = true := by simp
                  have f1 : ((i + 1 : Nat) : Int) - 1 = i := by omega
                  have f1' : (i : Int) + 1 - 1 = i := by omega
                  clear hq3 hx hy hce hmem
                  go_wp2_with fail
                  go_quiet (first | (go_at_call 19; refine Calls.quiet_of (HQ3.out _ (Bel.drewN _ _))))
                  go_wp2_with fail
                  refine ⟨⟨i + 2, by omega, by go_num, hbw.to_drewN nq⟩, by simp [intOf]; omega⟩
              · obtain rfl : j = m := by omega
                go_wp2_with fail
                refine (H6.out _ hbw).mono ?_
                rintro e w6 ⟨rfl, hb6⟩
                have hb6' := (hb5'.trans hbw).trans hb6
                go_wp2_with fail
                refine (H4.out _ hb6').mono ?_
                rintro e w7 ⟨rfl, rfl⟩
                go_wp2_with fail
                refine (H5.out _ hb6').mono ?_
                rintro e w8 ⟨rfl, rfl⟩
                go_wp2_with fail
                go_ret
                exact ⟨rfl, HE.out.trans hb6'⟩
          | succ k =>
            have hkl : k < l.length := by rw [HL0.out]; omega
            obtain ⟨b, off, rfl, hlt, hcap, hce⟩ := HCS.out (by omega)
            obtain ⟨x, hx⟩ : ∃ x, l[k] = x := ⟨_, rfl⟩
            have hmem : x ∈ l := by rw [← hx]; exact List.getElem_mem hkl
            have hcell : wr.cell? ⟨b, off + k, none⟩ = some (.string x) := by
              rw [(HB3.out.trans hbel).cell hlt, hce k (by omega), ← hx]; simp [strsV, hkl]
            have hdr := drop_rev l k hkl
            rw [hx] at hdr
            obtain ⟨T, hT⟩ : ∃ T, addS [] (l.drop (k + 1)).reverse = T := ⟨_, rfl⟩
            have hsT : Srt T := by rw [← hT]; exact srt_addS _ srt_nil
            have hTl : T.length ≤ 60 := by
              rw [← hT]
              have := addS_length_le (l.drop (k + 1)).reverse []
              rw [List.length_reverse, List.length_drop, List.length_nil, HL0.out] at this
              omega
            rw [hT] at hq hdr
            have hri := HRI.out x hmem
            have hw : ∀ w1 g, Bel wr w1 → RowAt w1 (.slice (some ⟨g, 0, none⟩) 2 2) (strsV [x, x]) → Calls Tryd.prog 21 #[.pointer q, .slice (some ⟨g, 0, none⟩) 2 2] w1 fun e w' => ∃ p4, e = .returned (.tuple #[.pointer (some p4), .int .i64 0]) ∧ Bel w1 w' ∧ ScopeIs w' (.pointer (some p4)) (insS x T) := by
              intro w1 g hb1 hrow
              have h := HWI.out w1 (.pointer q) T x hmem (hq.bel hb1) ((HB3.out.trans hbel).trans hb1) g hrow
              rw [with_two hsT x hri (by omega)] at h
              refine h.mono ?_
              rintro e w' ⟨hb', p4, rfl, hs4⟩
              obtain ⟨p5, rfl⟩ := scope_ptr hs4
              obtain ⟨p6, rfl⟩ := scope_some hs4 (fun h => by
                have := (mem_insS x x T).2 (.inl rfl)
                rw [h] at this; cases this)
              exact ⟨p6, rfl, hb', hs4⟩
            have HWW := Lib.hid hw
            have HDR := Lib.hid hdr
            have HBEL := Lib.hid hbel
            have e0 : ((k + 1 : Nat) : Int) - 1 = k := by omega
            rw [e0]
            have e1 : (k : Int) < n0 := by omega
            have e2 : (0 : Int) ≤ k := by omega
            clear hw hdr hx hq hT hsT hri hce hbel e0
            go_wp2_with fail
            go_region_held3 (fun w' => w'.cell? ⟨b, off + k, none⟩ = some (.string x) ∧ Bel wr w') (((try dsimp only); (try go_split_ands); (refine ⟨?_, ?_⟩ <;> first | assumption | exact Bel.keep (by assumption) (by assumption) | ((repeat (first | exact Bel.refl _ | assumption | refine Bel.to_drewN ?_ _ | refine Bel.to_drew ?_ | refine Bel.to_setCell ?_ (by first | exact Nat.le_refl _ | (simp; done) | (simp; omega) | omega) _ | refine Bel.to_alloc ?_ _ | refine Bel.trans ?_ (by assumption))); done) | (go_keep; done))))
              (first | (go_at_call 21; refine (HWW.out ((wr.alloc (.cells #[.string x, .string x] 9)).drew) wr.heap.size ((Bel.alloc wr _).to_drew) ((row_new wr (strsV [x, x]) 9).bel (Bel.drew _))).mono ?_; rintro e w4 ⟨p4, rfl, hb4, hs4⟩; have HS4 := Lib.hid hs4; have HB4 := Lib.hid hb4; clear hs4 hb4))
            go_wp2_with fail
            exact ⟨⟨k, some p4, by omega, rfl, rfl, HBEL.out.trans ((Bel.alloc _ _).trans ((Bel.drew _).trans HB4.out)), by rw [HDR.out]; exact HS4.out⟩, by simp [intOf]⟩
  · go_wp2_with fail
    refine (HA.out _ hb2).mono ?_
    rintro e w3 ⟨rfl, hb3⟩
    go_wp2_with fail
    go_ret
    exact ⟨rfl, hb2.trans hb3⟩
end Go.Proofs.YtaaedmipcffjoaaDoor
