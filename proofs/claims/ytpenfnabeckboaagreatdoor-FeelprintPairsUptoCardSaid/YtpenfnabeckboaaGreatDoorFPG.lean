/-
  feelprint: the printer's list and words.
-/
import Derived.Test.YtpenfnabeckboaaGreatDoorFPF
namespace Go.Proofs.YtpenfnabeckboaaGreatDoor
open Go.RowKit

theorem listT_step (bare : Bool) (ns : List ByteArray) (l : List Ex) (j : Nat) (x : Ex) (hx : l[j]? = some x) :
    listT bare ns j ((l.map (ptOf bare)).drop j) = (if j = 0 then [] else [44, 32]) ++ ((match ns[j]? with | some x => btsOf x ++ [58, 32] | none => []) ++ (partT bare 0 (ptOf bare x) ++ listT bare ns (j + 1) ((l.map (ptOf bare)).drop (j + 1)))) := by
  obtain ⟨hj, hg⟩ := List.getElem?_eq_some_iff.1 hx
  rw [List.drop_eq_getElem_cons (by simpa using hj)]
  conv => lhs; unfold listT
  rw [List.getElem_map, hg]
  rfl
set_option maxRecDepth 100000 in
set_option maxHeartbeats 8000000 in
theorem list_c (u : World) (b mb : Nat) (bare : Bool) (l : List Ex) (ns : List ByteArray) (la na : Option Addr) (ln lc nn nc : Nat) (bs : List UInt8) (w : World) (hl : l.length = ln) (hln : ln ≤ 1073741824) (hn : ns.length = nn) (hnn : nn ≤ 1073741824)
    (hp : PartsAt u la l) (hnm : NamesAt u na ns) (hx : ∀ x ∈ l, PartOk u b mb bare x) (h : PR u b mb bare bs w) (hlen : bs.length + (listT bare ns 0 (l.map (ptOf bare))).length ≤ 140737488355328) :
    Calls Tryz.prog 97 #[.pointer (some ⟨b, 0, none⟩), .slice la ln lc, .slice na nn nc] w (RetP u b mb bare (bs ++ listT bare ns 0 (l.map (ptOf bare))) w) := by
  have HP := Lib.hid h
  have HPA := Lib.hid hp
  have HNA := Lib.hid hnm
  have HX := Lib.hid hx
  have HLN := Lib.hid hl
  have HNN := Lib.hid hn
  obtain ⟨TT, hTT⟩ : ∃ T, listT bare ns 0 (l.map (ptOf bare)) = T := ⟨_, rfl⟩
  rw [hTT] at hlen ⊢
  have HTT := Lib.hid hTT
  have HL0 := Lib.hid hlen
  clear h hp hnm hx hl hn hTT hlen
  go_enter Tryz.func97, Tryz.ntmps97
  go_wp2_with fail
  go_loopw [10] (fun i wr => ∃ (j : Nat) (A : List UInt8), j ≤ ln ∧ i = .int .i64 j ∧ A ++ listT bare ns j ((l.map (ptOf bare)).drop j) = TT ∧ PR u b mb bare (bs ++ A) wr ∧ KeepT keepP w wr) (fun i _ => ln - (intOf i).toNat)
  case atStart => exact ⟨0, [], Nat.zero_le _, rfl, by rw [List.drop_zero, List.nil_append, HTT.out], by rw [List.append_nil]; exact HP.out, KeepT.refl _ _⟩
  case round =>
    obtain ⟨j, A, hj, rfl, hA, hpr, hk⟩ := hrel
    by_cases hlt : j < ln
    · have hji : (j : Int) < ln := by omega
      obtain ⟨x, hx⟩ : ∃ x, l[j]? = some x := ⟨_, List.getElem?_eq_getElem (by have := HLN.out; omega)⟩
      obtain ⟨pb, po, xna, xnn, xnc, xla, xln, xlc, rfl, g0, g1, g2, g3, ha⟩ := HPA.out j x hx
      have d0 := hpr.2.keep g0
      have d1 := hpr.2.keep g1
      have d2 := hpr.2.keep g2
      have d3 := hpr.2.keep g3
      have hxm := HX.out x (List.mem_of_getElem? hx)
      rw [listT_step bare ns l j x hx] at hA
      have HQ := Lib.hid (fun (c : List UInt8) (W : World) (hW : PR u b mb bare c W) (hc : c.length + (partT bare 0 (ptOf bare x)).length ≤ 140737488355328) => prpart_c u b mb bare x 0 xna xnn xnc xla xln xlc c W hxm.2.1 hxm.2.2 (by decide) ha hW hxm.1 hc)
      obtain ⟨T0, hT0⟩ : ∃ T, partT bare 0 (ptOf bare x) = T := ⟨_, rfl⟩
      rw [hT0] at HQ hA
      obtain ⟨R, hR⟩ : ∃ R, listT bare ns (j + 1) ((l.map (ptOf bare)).drop (j + 1)) = R := ⟨_, rfl⟩
      rw [hR] at hA
      have HA0 := Lib.hid hA
      have HR := Lib.hid hR
      obtain ⟨V1, h1, k1, l1, s1⟩ := alloc_step wr 25 [.int .i64 x.k, .string x.s, .slice xna xnn xnc, .slice xla xln xlc]
      have HV1 := Lib.hid h1
      have HP0 := Lib.hid (hpr.bel l1)
      have HT0 := Lib.hid (hk.trans (KeepT.of_bel (p := keepP) l1))
      have HK0 := Lib.hid k1
      clear hx g0 g1 g2 g3 ha hxm hT0 hR hA h1 k1 l1 s1 hpr hk
      go_upto_region 3 with fail
      rw [show wr.alloc (.cells #[.int .i64 x.k, .string x.s, .slice xna xnn xnc, .slice xla xln xlc] 25) = V1 from HV1.out]
      clear HV1 d0 d1 d2 d3
      by_cases hj0 : j = 0
      · have hjz : ¬ ((0 : Int) < j) := by omega
        by_cases hjn : j < nn
        · have hjni : (j : Int) < nn := by omega
          obtain ⟨y, hy⟩ : ∃ y, ns[j]? = some y := ⟨_, List.getElem?_eq_getElem (by have := HNN.out; omega)⟩
          obtain ⟨nb, no, rfl, hyc⟩ := HNA.out j y hy
          have HNM := Lib.hid hyc
          have hA := HA0.out
          rw [if_pos hj0, hy] at hA
          dsimp only at hA
          clear HA0 hyc hy hj0
          have HL := Lib.hid (show (bs ++ A).length + (([] : List UInt8) ++ ((btsOf y ++ [58, 32]) ++ T0)).length ≤ 140737488355328 from by have h1 := congrArg List.length hA; have h2 := HL0.out; simp at h1 ⊢; omega)
          have HA0 := Lib.hid hA
          clear hA
          have yn := HP0.out.2.keep HNM.out
          go_wp2_with fail
          obtain ⟨U1, h1, k1, l1, s1⟩ := alloc_step _ 9 [.string y, .string ⟨#[58, 32]⟩]
          rw [h1]
          have HA := Lib.hid (add_c u b mb bare _ [y, ⟨#[58, 32]⟩] _ 2 U1 (HP0.out.bel l1) k1 rfl (by decide) (by have := HL.out; simp [btsOf] at this ⊢; omega))
          have HT := Lib.hid (HT0.out.trans (KeepT.of_bel (p := keepP) l1))
          have HK := Lib.hid (HK0.out.bel l1)
          clear h1 k1 l1 s1
          refine HA.out.mono ?_
          clear HA
          rintro e0 w0 ⟨rfl, hp, ht⟩
          clear yn
          have HP1 := Lib.hid hp
          have HT1 := Lib.hid (HT.out.trans ht)
          have HK1 := Lib.hid (ht.blk HK.out keep_ex)
          clear hp ht HT HK HP0 HT0 HK0
          have y0 := HK1.out.at 0
          have y1 := HK1.out.at 1
          have y2 := HK1.out.at 2
          have y3 := HK1.out.at 3
          go_wp2_with fail
          have HT := Lib.hid HT1.out
          have HK := Lib.hid HK1.out
          refine (HQ.out _ _ HP1.out (by have := HL.out; simp [btsOf] at this ⊢; omega)).mono ?_
          rintro e1 w1 ⟨rfl, hp, ht⟩
          clear y0 y1 y2 y3
          have HP2 := Lib.hid hp
          have HT2 := Lib.hid (HT.out.trans ht)
          have HK2 := Lib.hid (ht.blk HK.out keep_ex)
          clear hp ht HT HK HP1 HT1 HK1
          go_wp2_with fail
          exact ⟨⟨j + 1, A ++ (([] : List UInt8) ++ ((btsOf y ++ [58, 32]) ++ T0)), by omega, by go_num, by rw [HR.out, ← HA0.out]; simp, by simpa [btsOf] using HP2.out, HT2.out⟩, by simp [intOf]; omega⟩
        · have hjni : ¬ ((j : Int) < nn) := by omega
          have hy : ns[j]? = none := List.getElem?_eq_none_iff.2 (by have := HNN.out; omega)
          have hA := HA0.out
          rw [if_pos hj0, hy] at hA
          dsimp only at hA
          clear HA0 hy hj0
          have HL := Lib.hid (show (bs ++ A).length + (([] : List UInt8) ++ (([] : List UInt8) ++ T0)).length ≤ 140737488355328 from by have h1 := congrArg List.length hA; have h2 := HL0.out; simp at h1 ⊢; omega)
          have HA0 := Lib.hid hA
          clear hA
          have y0 := HK0.out.at 0
          have y1 := HK0.out.at 1
          have y2 := HK0.out.at 2
          have y3 := HK0.out.at 3
          go_wp2_with fail
          have HT := Lib.hid HT0.out
          have HK := Lib.hid HK0.out
          refine (HQ.out _ _ HP0.out (by have := HL.out; simp [btsOf] at this ⊢; omega)).mono ?_
          rintro e0 w0 ⟨rfl, hp, ht⟩
          clear y0 y1 y2 y3
          have HP1 := Lib.hid hp
          have HT1 := Lib.hid (HT.out.trans ht)
          have HK1 := Lib.hid (ht.blk HK.out keep_ex)
          clear hp ht HT HK HP0 HT0 HK0
          go_wp2_with fail
          exact ⟨⟨j + 1, A ++ (([] : List UInt8) ++ (([] : List UInt8) ++ T0)), by omega, by go_num, by rw [HR.out, ← HA0.out]; simp, by simpa [btsOf] using HP1.out, HT1.out⟩, by simp [intOf]; omega⟩
      · have hjz : (0 : Int) < j := by omega
        by_cases hjn : j < nn
        · have hjni : (j : Int) < nn := by omega
          obtain ⟨y, hy⟩ : ∃ y, ns[j]? = some y := ⟨_, List.getElem?_eq_getElem (by have := HNN.out; omega)⟩
          obtain ⟨nb, no, rfl, hyc⟩ := HNA.out j y hy
          have HNM := Lib.hid hyc
          have hA := HA0.out
          rw [if_neg hj0, hy] at hA
          dsimp only at hA
          clear HA0 hyc hy hj0
          have HL := Lib.hid (show (bs ++ A).length + ([44, 32] ++ ((btsOf y ++ [58, 32]) ++ T0)).length ≤ 140737488355328 from by have h1 := congrArg List.length hA; have h2 := HL0.out; simp at h1 ⊢; omega)
          have HA0 := Lib.hid hA
          clear hA
          go_wp2_with fail
          obtain ⟨U1, h1, k1, l1, s1⟩ := alloc_step _ 9 [.string ⟨#[44, 32]⟩]
          rw [h1]
          have HA := Lib.hid (add_c u b mb bare _ [⟨#[44, 32]⟩] _ 1 U1 (HP0.out.bel l1) k1 rfl (by decide) (by have := HL.out; simp [btsOf] at this ⊢; omega))
          have HT := Lib.hid (HT0.out.trans (KeepT.of_bel (p := keepP) l1))
          have HK := Lib.hid (HK0.out.bel l1)
          clear h1 k1 l1 s1
          refine HA.out.mono ?_
          clear HA
          rintro e0 w0 ⟨rfl, hp, ht⟩
          have HP1 := Lib.hid hp
          have HT1 := Lib.hid (HT.out.trans ht)
          have HK1 := Lib.hid (ht.blk HK.out keep_ex)
          clear hp ht HT HK HP0 HT0 HK0
          have yn := HP1.out.2.keep HNM.out
          go_wp2_with fail
          obtain ⟨U1, h1, k1, l1, s1⟩ := alloc_step _ 9 [.string y, .string ⟨#[58, 32]⟩]
          rw [h1]
          have HA := Lib.hid (add_c u b mb bare _ [y, ⟨#[58, 32]⟩] _ 2 U1 (HP1.out.bel l1) k1 rfl (by decide) (by have := HL.out; simp [btsOf] at this ⊢; omega))
          have HT := Lib.hid (HT1.out.trans (KeepT.of_bel (p := keepP) l1))
          have HK := Lib.hid (HK1.out.bel l1)
          clear h1 k1 l1 s1
          refine HA.out.mono ?_
          clear HA
          rintro e1 w1 ⟨rfl, hp, ht⟩
          clear yn
          have HP2 := Lib.hid hp
          have HT2 := Lib.hid (HT.out.trans ht)
          have HK2 := Lib.hid (ht.blk HK.out keep_ex)
          clear hp ht HT HK HP1 HT1 HK1
          have y0 := HK2.out.at 0
          have y1 := HK2.out.at 1
          have y2 := HK2.out.at 2
          have y3 := HK2.out.at 3
          go_wp2_with fail
          have HT := Lib.hid HT2.out
          have HK := Lib.hid HK2.out
          refine (HQ.out _ _ HP2.out (by have := HL.out; simp [btsOf] at this ⊢; omega)).mono ?_
          rintro e2 w2 ⟨rfl, hp, ht⟩
          clear y0 y1 y2 y3
          have HP3 := Lib.hid hp
          have HT3 := Lib.hid (HT.out.trans ht)
          have HK3 := Lib.hid (ht.blk HK.out keep_ex)
          clear hp ht HT HK HP2 HT2 HK2
          go_wp2_with fail
          exact ⟨⟨j + 1, A ++ ([44, 32] ++ ((btsOf y ++ [58, 32]) ++ T0)), by omega, by go_num, by rw [HR.out, ← HA0.out]; simp, by simpa [btsOf] using HP3.out, HT3.out⟩, by simp [intOf]; omega⟩
        · have hjni : ¬ ((j : Int) < nn) := by omega
          have hy : ns[j]? = none := List.getElem?_eq_none_iff.2 (by have := HNN.out; omega)
          have hA := HA0.out
          rw [if_neg hj0, hy] at hA
          dsimp only at hA
          clear HA0 hy hj0
          have HL := Lib.hid (show (bs ++ A).length + ([44, 32] ++ (([] : List UInt8) ++ T0)).length ≤ 140737488355328 from by have h1 := congrArg List.length hA; have h2 := HL0.out; simp at h1 ⊢; omega)
          have HA0 := Lib.hid hA
          clear hA
          go_wp2_with fail
          obtain ⟨U1, h1, k1, l1, s1⟩ := alloc_step _ 9 [.string ⟨#[44, 32]⟩]
          rw [h1]
          have HA := Lib.hid (add_c u b mb bare _ [⟨#[44, 32]⟩] _ 1 U1 (HP0.out.bel l1) k1 rfl (by decide) (by have := HL.out; simp [btsOf] at this ⊢; omega))
          have HT := Lib.hid (HT0.out.trans (KeepT.of_bel (p := keepP) l1))
          have HK := Lib.hid (HK0.out.bel l1)
          clear h1 k1 l1 s1
          refine HA.out.mono ?_
          clear HA
          rintro e0 w0 ⟨rfl, hp, ht⟩
          have HP1 := Lib.hid hp
          have HT1 := Lib.hid (HT.out.trans ht)
          have HK1 := Lib.hid (ht.blk HK.out keep_ex)
          clear hp ht HT HK HP0 HT0 HK0
          have y0 := HK1.out.at 0
          have y1 := HK1.out.at 1
          have y2 := HK1.out.at 2
          have y3 := HK1.out.at 3
          go_wp2_with fail
          have HT := Lib.hid HT1.out
          have HK := Lib.hid HK1.out
          refine (HQ.out _ _ HP1.out (by have := HL.out; simp [btsOf] at this ⊢; omega)).mono ?_
          rintro e1 w1 ⟨rfl, hp, ht⟩
          clear y0 y1 y2 y3
          have HP2 := Lib.hid hp
          have HT2 := Lib.hid (HT.out.trans ht)
          have HK2 := Lib.hid (ht.blk HK.out keep_ex)
          clear hp ht HT HK HP1 HT1 HK1
          go_wp2_with fail
          exact ⟨⟨j + 1, A ++ ([44, 32] ++ (([] : List UInt8) ++ T0)), by omega, by go_num, by rw [HR.out, ← HA0.out]; simp, by simpa [btsOf] using HP2.out, HT2.out⟩, by simp [intOf]; omega⟩
    · obtain rfl : j = ln := by omega
      rw [List.drop_of_length_le (by rw [List.length_map, HLN.out]; exact Nat.le_refl _)] at hA
      go_wp2_with fail
      go_end0
      refine ⟨rfl, ?_, hk⟩
      rw [← hA]
      unfold listT
      rw [List.append_nil]
      exact hpr
theorem wordsT_step (bare : Bool) (l : List Ex) (ws : List (List UInt8)) (j : Nat) (x : Ex) (y : List UInt8) (hx : l[j]? = some x) (hy : ws[j]? = some y) :
    wordsT bare ((l.map (ptOf bare)).drop j) (ws.drop j) = y ++ (partT bare 0 (ptOf bare x) ++ wordsT bare ((l.map (ptOf bare)).drop (j + 1)) (ws.drop (j + 1))) := by
  obtain ⟨hj, hg⟩ := List.getElem?_eq_some_iff.1 hx
  obtain ⟨hj2, hg2⟩ := List.getElem?_eq_some_iff.1 hy
  rw [List.drop_eq_getElem_cons (by simpa using hj), List.drop_eq_getElem_cons hj2, List.getElem_map, hg, hg2]
  unfold wordsT
  rw [List.zip_cons_cons, List.flatMap_cons, List.append_assoc]
set_option maxRecDepth 100000 in
set_option maxHeartbeats 4000000 in
theorem prwords_c (u : World) (b mb : Nat) (bare : Bool) (l : List Ex) (ws : List ByteArray) (la : Option Addr) (ln lc wb m : Nat) (bs : List UInt8) (w : World) (hl : l.length = ln) (hln : ln ≤ 1073741824) (hm : ws.length = m) (hlm : ln ≤ m) (hm2 : m ≤ 1073741824)
    (hp : PartsAt u la l) (hwb : Blk w wb 9 (strsV ws)) (hx : ∀ x ∈ l, PartOk u b mb bare x) (h : PR u b mb bare bs w) (hlen : bs.length + (wordsT bare (l.map (ptOf bare)) (ws.map btsOf)).length ≤ 140737488355328) :
    Calls Tryz.prog 98 #[.pointer (some ⟨b, 0, none⟩), .slice la ln lc, .slice (some ⟨wb, 0, none⟩) m m] w (RetP u b mb bare (bs ++ wordsT bare (l.map (ptOf bare)) (ws.map btsOf)) w) := by
  have HP := Lib.hid h
  have HPA := Lib.hid hp
  have HWB := Lib.hid hwb
  have HX := Lib.hid hx
  have HLN := Lib.hid hl
  have HWN := Lib.hid hm
  obtain ⟨TT, hTT⟩ : ∃ T, wordsT bare (l.map (ptOf bare)) (ws.map btsOf) = T := ⟨_, rfl⟩
  rw [hTT] at hlen ⊢
  have HTT := Lib.hid hTT
  have HL0 := Lib.hid hlen
  clear h hp hwb hx hl hm hTT hlen
  go_enter Tryz.func98, Tryz.ntmps98
  go_wp2_with fail
  go_loopw [10] (fun i wr => ∃ (j : Nat) (A : List UInt8), j ≤ ln ∧ i = .int .i64 j ∧ A ++ wordsT bare ((l.map (ptOf bare)).drop j) ((ws.map btsOf).drop j) = TT ∧ PR u b mb bare (bs ++ A) wr ∧ KeepT keepP w wr) (fun i _ => ln - (intOf i).toNat)
  case atStart => exact ⟨0, [], Nat.zero_le _, rfl, by rw [List.drop_zero, List.drop_zero, List.nil_append, HTT.out], by rw [List.append_nil]; exact HP.out, KeepT.refl _ _⟩
  case round =>
    obtain ⟨j, A, hj, rfl, hA, hpr, hk⟩ := hrel
    by_cases hlt : j < ln
    · have hji : (j : Int) < ln := by omega
      have hjm : (j : Int) < m := by omega
      obtain ⟨x, hx⟩ : ∃ x, l[j]? = some x := ⟨_, List.getElem?_eq_getElem (by have := HLN.out; omega)⟩
      obtain ⟨y, hy⟩ : ∃ y, ws[j]? = some y := ⟨_, List.getElem?_eq_getElem (by have := HWN.out; omega)⟩
      obtain ⟨pb, po, xna, xnn, xnc, xla, xln, xlc, rfl, g0, g1, g2, g3, ha⟩ := HPA.out j x hx
      have d0 := hpr.2.keep g0
      have d1 := hpr.2.keep g1
      have d2 := hpr.2.keep g2
      have d3 := hpr.2.keep g3
      have hxm := HX.out x (List.mem_of_getElem? hx)
      rw [wordsT_step bare l (ws.map btsOf) j x (btsOf y) hx (by rw [List.getElem?_map, hy]; rfl)] at hA
      have HWY := Lib.hid (show (strsV ws)[j]? = some (.string y) from by simp [strsV, hy])
      have HQ := Lib.hid (fun (c : List UInt8) (W : World) (hW : PR u b mb bare c W) (hc : c.length + (partT bare 0 (ptOf bare x)).length ≤ 140737488355328) => prpart_c u b mb bare x 0 xna xnn xnc xla xln xlc c W hxm.2.1 hxm.2.2 (by decide) ha hW hxm.1 hc)
      obtain ⟨T0, hT0⟩ : ∃ T, partT bare 0 (ptOf bare x) = T := ⟨_, rfl⟩
      rw [hT0] at HQ hA
      obtain ⟨R, hR⟩ : ∃ R, wordsT bare ((l.map (ptOf bare)).drop (j + 1)) ((ws.map btsOf).drop (j + 1)) = R := ⟨_, rfl⟩
      rw [hR] at hA
      have HA0 := Lib.hid hA
      have HR := Lib.hid hR
      have HL := Lib.hid (show (bs ++ A).length + (btsOf y ++ T0).length ≤ 140737488355328 from by have h1 := congrArg List.length hA; have h2 := HL0.out; simp at h1 ⊢; omega)
      obtain ⟨V1, h1, k1, l1, s1⟩ := alloc_step wr 25 [.int .i64 x.k, .string x.s, .slice xna xnn xnc, .slice xla xln xlc]
      have HV1 := Lib.hid h1
      have HP0 := Lib.hid (hpr.bel l1)
      have HT0 := Lib.hid (hk.trans (KeepT.of_bel (p := keepP) l1))
      have HK0 := Lib.hid k1
      clear hx hy g0 g1 g2 g3 ha hxm hT0 hR hA h1 k1 l1 s1 hpr hk
      go_upto_region 3 with fail
      rw [show wr.alloc (.cells #[.int .i64 x.k, .string x.s, .slice xna xnn xnc, .slice xla xln xlc] 25) = V1 from HV1.out]
      clear HV1 d0 d1 d2 d3
      have yw := (HT0.out.blk HWB.out keep_str).at j
      rw [show (strsV ws)[j]? = some (.string y) from HWY.out] at yw
      go_wp2_with fail
      obtain ⟨U1, h1, k1, l1, s1⟩ := alloc_step _ 9 [.string y]
      rw [h1]
      have HA := Lib.hid (add_c u b mb bare _ [y] _ 1 U1 (HP0.out.bel l1) k1 rfl (by decide) (by have := HL.out; simp [btsOf] at this ⊢; omega))
      have HT := Lib.hid (HT0.out.trans (KeepT.of_bel (p := keepP) l1))
      have HK := Lib.hid (HK0.out.bel l1)
      clear h1 k1 l1 s1
      refine HA.out.mono ?_
      clear HA
      rintro e0 w0 ⟨rfl, hp, ht⟩
      clear yw
      have HP1 := Lib.hid hp
      have HT1 := Lib.hid (HT.out.trans ht)
      have HK1 := Lib.hid (ht.blk HK.out keep_ex)
      clear hp ht HT HK HP0 HT0 HK0
      have y0 := HK1.out.at 0
      have y1 := HK1.out.at 1
      have y2 := HK1.out.at 2
      have y3 := HK1.out.at 3
      go_wp2_with fail
      have HT := Lib.hid HT1.out
      have HK := Lib.hid HK1.out
      refine (HQ.out _ _ HP1.out (by have := HL.out; simp [btsOf] at this ⊢; omega)).mono ?_
      rintro e1 w1 ⟨rfl, hp, ht⟩
      clear y0 y1 y2 y3
      have HP2 := Lib.hid hp
      have HT2 := Lib.hid (HT.out.trans ht)
      have HK2 := Lib.hid (ht.blk HK.out keep_ex)
      clear hp ht HT HK HP1 HT1 HK1
      go_wp2_with fail
      exact ⟨⟨j + 1, A ++ (btsOf y ++ T0), by omega, by go_num, by rw [HR.out, ← HA0.out]; simp, by simpa [btsOf] using HP2.out, HT2.out⟩, by simp [intOf]; omega⟩
    · obtain rfl : j = ln := by omega
      rw [List.drop_of_length_le (l := l.map (ptOf bare)) (by rw [List.length_map, HLN.out]; exact Nat.le_refl _)] at hA
      go_wp2_with fail
      go_end0
      refine ⟨rfl, ?_, hk⟩
      rw [← hA, show wordsT bare [] ((ws.map btsOf).drop j) = [] from rfl, List.append_nil]
      exact hpr
end Go.Proofs.YtpenfnabeckboaaGreatDoor
