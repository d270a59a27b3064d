/-
  The walks of the document's answer for scope: Has, Longest.
  The walk of the document's answer for scope: With.
-/
import Derived.Test.YtchbhcjhoocjaaaGreatDoorSPA
import Derived.Test.YtchbhcjhoocjaaaGreatDoorMK
import Derived.Test.YtchbhcjhoocjaaaGreatDoorMB
import Derived.BigQuiet
import Derived.Deep.QuietTactic
import Derived.Deep.RegionHeld3
import Derived.IntWalk
namespace Go.Proofs.YtchbhcjhoocjaaaGreatDoor
open Go.RowKit

theorem eq_of_toList {x y : ByteArray} : (x.toList == y.toList) = decide (x = y) := by
  refine bool_ext ?_
  rw [decide_eq_true_eq]
  exact ⟨toList_eq, fun h => by rw [h]; simp⟩
theorem toLists_eq {x y : ByteArray} : (x.toList == y.toList) = decide (y = x) := by
  rw [eq_of_toList]; exact decide_eq_decide.2 ⟨Eq.symm, Eq.symm⟩

set_option maxRecDepth 100000 in
set_option maxHeartbeats 1000000 in
theorem rhas_c (sl : Value) (l : List ByteArray) (x : ByteArray) (w : World) (hv : RowAt0 w sl (strsV l)) (hl : l.length ≤ 4294967290) :
    Calls Tryz.prog 9 #[sl, .string x] w (RetBel (.bool (decide (x ∈ l))) w) := by
  obtain ⟨ao, cap, rfl, hcs⟩ := row0_form hv l.length (strsV_length l)
  obtain ⟨R, hR⟩ : ∃ R, decide (x ∈ l) = R := ⟨_, rfl⟩
  rw [hR]
  obtain ⟨n, hn⟩ : ∃ n, l.length = n := ⟨_, rfl⟩
  rw [hn] at hcs hl ⊢
  have HR := Lib.hid hR
  have HCS := Lib.hid hcs
  have HN := Lib.hid hn
  clear hR hcs hn hv
  go_enter Tryz.func9, Tryz.ntmps9
  go_wp2_with fail
  go_loopw [5] (fun i wr => ∃ k : Nat, k ≤ n ∧ i = .int .i64 k ∧ Bel w wr ∧ decide (x ∈ l.drop k) = R) (fun i _ => n - (intOf i).toNat)
  case atStart => exact ⟨0, Nat.zero_le _, rfl, Bel.refl _, HR.out⟩
  case round =>
    obtain ⟨k, hk, rfl, hbel, hd⟩ := hrel
    by_cases hkn : k < n
    · have hkl : k < l.length := by rw [HN.out]; exact hkn
      obtain ⟨b, off, rfl, hlt, hcap, hce⟩ := HCS.out (by omega)
      rw [List.drop_eq_getElem_cons hkl] at hd
      obtain ⟨y, hy⟩ : ∃ y, l[k] = y := ⟨_, rfl⟩
      have hcell : wr.cell? ⟨b, off + k, none⟩ = some (.string y) := by
        rw [hbel.cell hlt, hce k hkn, ← hy]; simp [strsV, hkl]
      rw [hy] at hd
      have HD := Lib.hid hd
      clear hy hd hce
      go_wp2_with fail
      · have hxy : (y.toList == x.toList) = true := by assumption
        go_ret
        refine ⟨ret_bool ?_, hbel⟩
        rw [← HD.out, toList_eq hxy]
        simp
      · have hxy : (y.toList == x.toList) = false := by assumption
        refine ⟨⟨k + 1, by omega, by go_num, hbel, ?_⟩, by simp [intOf]; omega⟩
        rw [← HD.out]
        have := toList_ne hxy
        simp [Ne.symm this]
    · obtain rfl : k = n := by omega
      rw [List.drop_of_length_le (by have := HN.out; omega)] at hd
      obtain rfl : R = false := by rw [← hd]; simp
      go_wp2_with fail
      go_ret
      exact ⟨rfl, hbel⟩

def RetLongR (r : ByteArray × Nat) (w : World) (e : Ending) (w' : World) : Prop := e = .returned (.tuple #[.string r.1, .int .i64 r.2]) ∧ Bel w w'

end Go.Proofs.YtchbhcjhoocjaaaGreatDoor

namespace Go.Proofs.YtchbhcjhoocjaaaGreatDoor
open Go.RowKit

def RetWithR (r : Option (List ByteArray) × Nat) (w : World) (e : Ending) (w' : World) : Prop :=
  Bel w w' ∧ match r.1 with
  | none => e = .returned (.tuple #[.slice none 0 0, .int .i64 r.2])
  | some M => ∃ v, e = .returned (.tuple #[v, .int .i64 0]) ∧ RowAt0 w' v (strsV M)
theorem info_str3 : (Tryz.prog.info? 9).map (fun i => (i.zero, i.size, i.bytes)) = some (some (.string ⟨#[]⟩), 1, 16) := by kernel_rfl
theorem strs_one' (l : List ByteArray) : ∀ y ∈ strsV l, y.oneCell' = true := by
  intro y hy
  obtain ⟨x, _, rfl⟩ := List.mem_map.1 hy
  rfl
theorem set_swap (A B : List ByteArray) (x y : ByteArray) : ((strsV (A ++ y :: x :: B)).set (A.length + 1) (.string y)).set A.length (.string x) = strsV (A ++ x :: y :: B) := by
  unfold strsV
  simp [List.set_append_right]
/-- x stands where it belongs, or ahead of A's last. -/
theorem addS_take (l more : List ByteArray) (j : Nat) (h : j < more.length) : addS l (more.take (j + 1)) = insS more[j] (addS l (more.take j)) := by
  rw [take_snoc_s more j h, addS_snoc]

set_option maxRecDepth 100000 in
set_option maxHeartbeats 4000000 in
theorem rwith_c (sl0 : Value) (l0 : List ByteArray) (sl : Value) (l : List ByteArray) (w : World) (hs0 : Srt l0) (hv0 : RowAt0 w sl0 (strsV l0)) (hl0 : l0.length ≤ 4294960000 / 2) (hv : RowAt0 w sl (strsV l)) (hl : l.length ≤ 4294960000 / 2) (hx : ∀ x ∈ l, x.size ≤ 4294967200) :
    Calls Tryz.prog 15 #[sl0, sl] w (RetWithR (withS l0 l) w) := by
  have hr := fun x (hx1 : x ∈ l) w1 => rright_c x (hx x hx1) w1
  obtain ⟨ao, cap, rfl, hcs⟩ := row0_form hv l.length (strsV_length l)
  obtain ⟨ao0, cap0, rfl, _⟩ := row0_form hv0 l0.length (strsV_length l0)
  obtain ⟨R, hR⟩ : ∃ R, withS l0 l = R := ⟨_, rfl⟩
  rw [hR]
  obtain ⟨n, hn⟩ : ∃ n, l.length = n := ⟨_, rfl⟩
  obtain ⟨n0, hn0⟩ : ∃ n, l0.length = n := ⟨_, rfl⟩
  rw [hn] at hcs hl ⊢
  rw [hn0] at hl0 hv0 ⊢
  have hsl : (strsV l0).length = n0 := by rw [strsV_length, hn0]
  have HR := Lib.hid hr
  have HV0 := Lib.hid hv0
  have HCS := Lib.hid hcs
  have HW := Lib.hid hR
  have HN := Lib.hid hn
  have HN0 := Lib.hid hn0
  have HS0 := Lib.hid hs0
  have HSL := Lib.hid hsl
  clear hr hcs hR hn hv hx hv0 hn0 hs0 hsl
  go_enter Tryz.func15, Tryz.ntmps15
  go_wp2_with (at_builtin; refine wpL_appendR rfl _ _ 23 rfl w.heap.size (by simp) 9 (.string ⟨#[]⟩) 16 Tryz.underlying23 info_str3 rfl (by decide) _ 0 [] rfl (own_fresh w _ _ (Nat.le_refl _)) _ (strsV l0) rfl (HV0.out.bel (Bel.alloc _ _)) (strs_one' _) (by rw [HSL.out]; omega) ?_; intro v1 w1 hown hgr; have hb1 : Bel w w1 := own_grown (own_fresh w _ _ (Nat.le_refl _)) (Bel.alloc _ _) hgr (Nat.le_refl _); rw [HSL.out, Nat.zero_add, List.nil_append] at hown; have OWN := Lib.hid hown; have B1 := Lib.hid hb1; clear hown hgr hb1)
  go_loopw [7] (fun i wr => ∃ k : Nat, k ≤ n ∧ i = .int .i64 k ∧ Bel w1 wr ∧ (l.take k).all rightS = true) (fun i _ => n - (intOf i).toNat)
  case atStart => exact ⟨0, Nat.zero_le _, rfl, Bel.refl _, by simp⟩
  case round =>
    obtain ⟨k, hk, rfl, hbel, hall⟩ := hrel
    by_cases hkn : k < n
    · have hkl : k < l.length := by rw [HN.out]; exact hkn
      obtain ⟨b, off, rfl, hlt, hcap, hce⟩ := HCS.out (by omega)
      have hmem : l[k] ∈ l := List.getElem_mem hkl
      obtain ⟨x, hx⟩ : ∃ x, l[k] = x := ⟨_, rfl⟩
      have hcell : wr.cell? ⟨b, off + k, none⟩ = some (.string x) := by
        rw [(B1.out.trans hbel).cell hlt, hce k hkn, ← hx]; simp [strsV, hkl]
      rw [hx] at hmem
      have hri := HR.out x hmem wr
      have hts := take_snoc_s l k hkl
      rw [hx] at hts
      obtain ⟨F, hF⟩ : ∃ F, (wordsS x).isSome = F := ⟨_, rfl⟩
      rw [hF] at hri
      have HRI := Lib.hid hri
      have HF := Lib.hid hF
      have HTS := Lib.hid hts
      have HALL := Lib.hid hall
      have HMEM := Lib.hid hmem
      clear hri hF hts hall hce hx hmem
      cases F
      · go_wp2_with (go_at_call 32; refine HRI.out.mono ?_; rintro e w2 ⟨rfl, hb2⟩)
        go_ret2
        refine ⟨(B1.out.trans hbel).trans (by assumption), ?_⟩
        rw [← HW.out]
        unfold withS
        rw [if_pos]
        · rfl
        · refine Bool.eq_false_iff.2 fun h => ?_
          have := List.all_eq_true.1 h x HMEM.out
          unfold rightS at this
          rw [HF.out] at this; cases this
      · go_wp2_with (go_at_call 32; refine HRI.out.mono ?_; rintro e w2 ⟨rfl, hb2⟩)
        refine ⟨⟨k + 1, by omega, by go_num, hbel.trans (by assumption), ?_⟩, by simp [intOf]; omega⟩
        rw [HTS.out, List.all_append, HALL.out]
        simp [rightS, HF.out]
    · obtain rfl : k = n := by omega
      have hall2 : l.all rightS = true := by rw [List.take_of_length_le (by have := HN.out; omega)] at hall; exact hall
      have hww : R = if 4096 < (addS l0 l).length then (none, 19) else (some (addS l0 l), 0) := by
        rw [← HW.out]; unfold withS; rw [if_neg (by rw [hall2]; simp)]
      have HWW := Lib.hid hww
      have hown1 := own_bel OWN.out hbel
      have hbw := B1.out.trans hbel
      have OWN1 := Lib.hid hown1
      have BW := Lib.hid hbw
      clear hall hall2 hww HW HR hown1 hbw hbel
      go_wp2_with fail
      go_loopw [6, 8] (fun s i w2 => ∃ (j : Nat) (o : Value), o = s ∧ j ≤ k ∧ i = .int .i64 j ∧ Bel w w2 ∧ (addS l0 (l.take j)).length ≤ n0 + j ∧ w2.ownsRow w.heap.size 9 1 o (addS l0 (l.take j)).length (strsV (addS l0 (l.take j)))) (fun _ i _ => k - (intOf i).toNat)
      case atStart => exact ⟨0, _, rfl, Nat.zero_le _, rfl, BW.out, by simp [addS, HN0.out], by simp only [List.take_zero, addS, List.foldl_nil, HN0.out]; exact OWN1.out⟩
      case round =>
        obtain ⟨j, o, rfl, hj, rfl, hbel2, hjl, hown⟩ := hrel
        by_cases hjk : j < k
        · have hkl : j < l.length := by rw [HN.out]; exact hjk
          obtain ⟨b, off, rfl, hlt, hcap, hce⟩ := HCS.out (by omega)
          have hat := addS_take l0 l j hkl
          have hst := srt_addS (l.take j) HS0.out
          obtain ⟨x, hx⟩ : ∃ x, l[j] = x := ⟨_, rfl⟩
          have hcell : wr.cell? ⟨b, off + j, none⟩ = some (.string x) := by
            rw [hbel2.cell hlt, hce j hjk, ← hx]; simp [strsV, hkl]
          obtain ⟨L, hL⟩ : ∃ L, addS l0 (l.take j) = L := ⟨_, rfl⟩
          rw [hx, hL] at hat
          rw [hL] at hst hjl hown
          obtain ⟨c, hc⟩ : ∃ c, L.length = c := ⟨_, rfl⟩
          have hha := rhas_c o L x wr (own_row hown) (by omega)
          rw [hc] at hown hjl
          have hform : ∃ ov cv, o = .slice ov c cv := by
            rcases hown.2 with ⟨rfl, hz⟩ | ⟨g, cap, cur, rfl, _⟩
            · exact ⟨none, 0, by rw [hz]⟩
            · exact ⟨_, _, rfl⟩
          obtain ⟨ov, cv, rfl⟩ := hform
          obtain ⟨F, hF⟩ : ∃ F, decide (x ∈ L) = F := ⟨_, rfl⟩
          rw [hF] at hha
          have HHA := Lib.hid hha
          have HF := Lib.hid hF
          have HAT := Lib.hid hat
          have HST := Lib.hid hst
          have OWN := Lib.hid hown
          have HC := Lib.hid hc
          have HB2 := Lib.hid hbel2
          have hbw := hbel2.size
          obtain ⟨wo, hwo⟩ : ∃ wo, wo = wr := ⟨_, rfl⟩
          rw [← hwo] at hcell HHA OWN HB2 hbw ⊢
          clear hha hF hat hst hown hc hx hL hce hbel2 hwo
          cases F
          · go_wp2_with (first
              | (go_at_call 9; refine HHA.out.mono ?_; rintro e w2 ⟨rfl, hb2⟩; have hc2 : w2.cell? ⟨b, off + j, none⟩ = some (.string x) := hb2.keep hcell)
              | (at_builtin; refine wpL_append1k rfl _ _ 23 rfl w.heap.size (by have := hb2.size; simp; omega) 9 (.string ⟨#[]⟩) 1 16 Tryz.underlying23 info_str3 rfl (by decide) (by decide) _ c (strsV L) rfl ((own_bel OWN.out hb2).alloc _) ⟨w2.heap.size, 0, none⟩ 1 [.string x] rfl rfl (cell_one_new _ _ _) (by simp [Value.oneCell']) (by omega) ?_; intro g cp w3 hown3 hgr; have hb3 : Bel w w3 := own_grown ((own_bel OWN.out hb2).alloc _) ((HB2.out.trans hb2).to_alloc _) hgr (Nat.le_refl _); have B3 := Lib.hid hb3; have OWN3 := Lib.hid hown3; clear hown3 hgr hb3))
            have hnx := of_decide_eq_false HF.out
            have HNX := Lib.hid hnx
            clear hnx
            go_loopw [9] (fun kk w5 => ∃ (p : Nat) (A B : List ByteArray), A.length = p ∧ kk = .int .i64 p ∧ A ++ B = L ∧ (∀ y ∈ B, ltB x y) ∧ Bel w w5 ∧ w5.ownsRow w.heap.size 9 1 (.slice (some ⟨g, 0, none⟩) (c + 1) cp) (c + 1) (strsV (A ++ x :: B))) (fun kk _ => (intOf kk).toNat)
            case atStart => exact ⟨c, L, [], HC.out, rfl, by simp, by simp, B3.out, by simpa [strsV] using OWN3.out⟩
            case round =>
              obtain ⟨p, A, B, hp, rfl, hAB, hB, hb5, hown5⟩ := hrel
              have hAc : A.length + B.length = c := by rw [← List.length_append, hAB, HC.out]
              have hrow5 : ∀ q, q < c + 1 → wr.cell? ⟨g, q, none⟩ = (strsV (A ++ x :: B))[q]? := fun q hq => hown5.cellAt q (by omega)
              have hfz := hown5.frozenAt
              have hcap5 : c + 1 ≤ cp ∧ g < wr.heap.size ∧ w.heap.size ≤ g := by
                rcases hown5.2 with ⟨h, _⟩ | ⟨g', cap', cur, h', hge, hgb, hnc, _⟩
                · simp at h
                · simp only [Value.slice.injEq, Option.some.injEq, Addr.mk.injEq, and_true, true_and] at h'
                  obtain ⟨rfl, rfl⟩ := h'
                  exact ⟨hnc, (Array.getElem?_eq_some_iff.1 hgb).1, hge⟩
              obtain ⟨hc5, hgl, hgw⟩ := hcap5
              by_cases h0 : p = 0
              · subst h0
                obtain rfl : A = [] := List.eq_nil_of_length_eq_zero hp
                have hd : decide ((0 : Int) < (0 : Int)) = false := by decide
                have H5 := Lib.hid hown5
                have HAB := Lib.hid hAB
                have HBB := Lib.hid hB
                clear hown5 hAB hB hrow5 hfz hp hAc
                go_wp2_with fail
                go_quiet (fail)
                go_wp2_with fail
                have hins : insS x L = x :: B := by
                  rw [← HAB.out]
                  exact insS_mid (A := []) (by rw [HAB.out]; exact HST.out) (by simp) HBB.out
                have hlen : (x :: B).length = c + 1 := by rw [List.length_cons, ← HC.out, ← HAB.out]; simp
                refine ⟨⟨j + 1, _, rfl, by omega, by go_num, hb5.to_drewN nq, ?_, ?_⟩, by simp [intOf]; omega⟩
                · rw [HAT.out, hins, hlen]; omega
                · rw [HAT.out, hins, hlen]; exact H5.out
              · obtain ⟨A', y, rfl⟩ : ∃ A' y, A = A' ++ [y] := ⟨A.dropLast, A.getLast (fun h => h0 (by rw [← hp, h]; rfl)), (List.dropLast_concat_getLast _).symm⟩
                have hA' : A'.length + 1 = p := by rw [← hp]; simp
                have hcx : wr.cell? ⟨g, p, none⟩ = some (.string x) := by
                  rw [hrow5 p (by simp at hAc; omega), ← hA']
                  simp [strsV]
                have hcy : wr.cell? ⟨g, p - 1, none⟩ = some (.string y) := by
                  rw [hrow5 (p - 1) (by simp at hAc; omega), ← hA']
                  simp [strsV]
                have hpc : p ≤ c := by simp at hAc; omega
                have f0 : decide (0 < p) = true := by simp; omega
                have f00 : 0 < p := by omega
                have f1 : IntKind.i64.wrap ((p : Int) - 1) = (p : Int) - 1 := IntWalk.i64_in _ (by omega)
                have f2 : (0 : Int) ≤ (p : Int) - 1 := by omega
                have f2' : (1 : Int) ≤ (p : Int) := by omega
                have f3 : ((p : Int) - 1).toNat = p - 1 := by omega
                have f4 : (p : Int) - 1 < ((c + 1 : Nat) : Int) := by omega
                have f4' : (p : Int) - 1 < (c : Int) + 1 := by omega
                have f5 : (p : Int) < (c : Int) + 1 := by omega
                have f6 : (0 : Int) < (p : Int) := by omega
                have hft := bytesLess_ltB x y
                obtain ⟨G, hG⟩ : ∃ G, decide (ltB x y) = G := ⟨_, rfl⟩
                rw [hG] at hft
                have hfz1 := hfz p
                have hfz2 := hfz (p - 1)
                have H5 := Lib.hid hown5
                have HAB := Lib.hid hAB
                have HBB := Lib.hid hB
                have HG := Lib.hid hG
                have HP := Lib.hid hA'
                clear hown5 hAB hB hrow5 hfz hp hAc hG hA'
                cases G
                · go_wp2_with fail
                  go_quiet (fail)
                  go_wp2_with fail
                  have hnlt := of_decide_eq_false HG.out
                  have hsA : Srt (A' ++ [y] ++ B) := by rw [HAB.out]; exact HST.out
                  have hyx : ltB y x := ltB_of y x hnlt (fun e => HNX.out (by rw [← HAB.out, ← e]; simp))
                  have hins : insS x L = (A' ++ [y]) ++ x :: B := by
                    rw [← HAB.out]
                    refine insS_mid hsA (fun z hz => ?_) HBB.out
                    rcases List.mem_append.1 hz with hz | hz
                    · exact ltB_trans ((List.pairwise_append.1 (List.pairwise_append.1 hsA).1).2.2 z hz y (by simp)) hyx
                    · obtain rfl := List.mem_singleton.1 hz; exact hyx
                  have hlen : ((A' ++ [y]) ++ x :: B).length = c + 1 := by
                    have := HC.out
                    rw [← HAB.out] at this
                    simp at this ⊢; omega
                  refine ⟨⟨j + 1, _, rfl, by omega, by go_num, hb5.to_drewN nq, ?_, ?_⟩, by simp [intOf]; omega⟩
                  · rw [HAT.out, hins, hlen]; omega
                  · rw [HAT.out, hins, hlen]; exact H5.out
                · go_wp2_with fail
                  go_quiet (fail)
                  go_wp2_with fail
                  have hsA : Srt (A' ++ [y] ++ B) := by rw [HAB.out]; exact HST.out
                  refine ⟨⟨p - 1, A', y :: B, by have := HP.out; omega, by rw [show ((p - 1 : Nat) : Int) = (p : Int) - 1 from by omega], by rw [← HAB.out]; simp, fun z hz => ?_, ?_, ?_⟩, by simp [intOf]; omega⟩
                  · rcases List.mem_cons.1 hz with rfl | hz
                    · exact of_decide_eq_true HG.out
                    · exact HBB.out z hz
                  · exact Bel.to_setCell (Bel.to_setCell (hb5.to_drewN nq) (p := ⟨g, p, none⟩) hgw _) (p := ⟨g, p - 1, none⟩) hgw _
                  · have h6 : (wr.drewN nq).ownsRow w.heap.size 9 1 (.slice (some ⟨g, 0, none⟩) (c + 1) cp) (c + 1) (strsV (A' ++ [y] ++ x :: B)) := own_bel H5.out (Bel.drewN _ _)
                    have h7 := ((h6.stored p (.string y)).1.stored (p - 1) (.string x)).1
                    have h8 := set_swap A' B x y
                    rw [HP.out] at h8
                    rw [show A'.length = p - 1 from by have := HP.out; omega] at h8
                    rw [List.append_assoc, List.singleton_append, h8] at h7
                    exact h7
          · go_wp2_with (go_at_call 9; refine HHA.out.mono ?_; rintro e w2 ⟨rfl, hb2⟩)
            have hmem := of_decide_eq_true HF.out
            have hat := HAT.out
            rw [insS_mem HST.out hmem] at hat
            refine ⟨⟨j + 1, _, rfl, by omega, by go_num, HB2.out.trans hb2, ?_, ?_⟩, by simp [intOf]; omega⟩
            · rw [hat, HC.out]; omega
            · rw [hat, HC.out]; exact own_bel OWN.out hb2
        · obtain rfl : j = k := by omega
          rw [List.take_of_length_le (by have := HN.out; omega)] at hown
          have hww := HWW.out
          obtain ⟨c, hc⟩ : ∃ c, (addS l0 l).length = c := ⟨_, rfl⟩
          have hrow := own_row hown
          have hown' := hown
          rw [hc] at hww hown'
          have hform : ∃ ov cv, o = .slice ov c cv := by
            rcases hown'.2 with ⟨rfl, hz⟩ | ⟨g, cap, cur, rfl, _⟩
            · exact ⟨none, 0, by rw [hz]⟩
            · exact ⟨_, _, rfl⟩
          obtain ⟨ov, cv, rfl⟩ := hform
          have HROW := Lib.hid hrow
          have HC := Lib.hid hc
          clear hrow hown hown' hc
          by_cases h4 : 4096 < c
          · rw [if_pos h4] at hww
            have h5 : (4096 : Int) < c := by omega
            have HWW2 := Lib.hid hww
            clear hww
            go_wp2_with fail
            go_ret2
            exact ⟨hbel2, by rw [HWW2.out]; rfl⟩
          · rw [if_neg h4] at hww
            have h5 : (c : Int) ≤ 4096 := by omega
            have HWW2 := Lib.hid hww
            clear hww
            go_wp2_with fail
            go_ret2
            exact ⟨hbel2, by rw [HWW2.out]; exact ⟨_, rfl, HROW.out⟩⟩
end Go.Proofs.YtchbhcjhoocjaaaGreatDoor
