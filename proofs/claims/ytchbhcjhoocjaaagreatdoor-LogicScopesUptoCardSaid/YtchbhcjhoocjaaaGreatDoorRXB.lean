/-
  expr: the walks of the document's Within, Scoped, Free, Same.
  expr: the walks of the document's Free, Same.
-/
import Derived.Test.YtchbhcjhoocjaaaGreatDoorRXA
import Derived.Test.YtchbhcjhoocjaaaGreatDoorSPR
import Derived.Test.YtchbhcjhoocjaaaGreatDoorEXD
import Derived.Test.YtchbhcjhoocjaaaGreatDoorEXB
import Derived.Test.YtchbhcjhoocjaaaGreatDoorEXC
import Derived.Deep.CutBlock
namespace Go.Proofs.YtchbhcjhoocjaaaGreatDoor
open Go.RowKit

/-- append of a slice, a nil one too, onto a row of texts of the call's own, at an operation of a region that draws. -/
theorem wp_appendS {o : Oper} {a : Act} {w : World} {K : Act → World → Prop} {Q : Exit → Act → World → Prop} (s x : Operand)
    (ho : o.op = .call { callee := .builtin .append, args := #[s, x], argTypes := #[23, 23] })
    (B : Nat) (hB : B ≤ w.heap.size) (v : Value) (n : Nat) (xs : List Value) (hs : a.eval s = v) (hown : w.ownsRow B 9 1 v n xs)
    (u : Value) (l : List ByteArray) (hx : a.eval x = u) (hnews : RowAt0 w u (strsV l)) (hn : n + l.length ≤ 4294967296)
    (hK : ∀ v' w', w'.ownsRow B 9 1 v' (n + l.length) (xs ++ strsV l) → w.grownBy w' v.ownBlock → K (a.put o.dst v') w') :
    o.wp Tryz.prog a w K Q := by
  obtain ⟨i, hi, hz, hi1, hi2⟩ := info_parts info_str3
  rw [← strsV_length l] at hK hn
  rcases hnews with ⟨rfl, h0⟩ | ⟨b, off, cap, rfl, _, _, hc⟩
  · have hk := hK v w (by rw [h0]; simpa using hown) (World.grownBy.refl w _)
    have hrun := run_append_owned_none (P := Tryz.prog) (w := w) B 23 o.type 9 i 1 Tryz.underlying23 hi v n xs hown
    unfold Oper.wp execOp
    simp only [ho, resolve, invoke, builtin, Sem.run_bind, Sem.run_pure, Result.andThen_ok, List.map_toArray, List.map_cons, List.map_nil, hs, hx, hrun]
    exact hk
  · refine wp_append_own w s x 23 ho B 9 i (.string ⟨#[]⟩) 1 16 Tryz.underlying23 hi hz hi1 hi2 rfl (by decide) v n xs hs hown ⟨b, off, none⟩ (strsV l).length cap (strsV l) hx (by omega) (fun j y hj => ?_) (strs_one' l) (by unfold maxLen; omega) ?_ hB (fun v' w' hown' hgrow _ => hK v' w' hown' hgrow)
    · obtain ⟨hj1, hj2⟩ := List.getElem?_eq_some_iff.1 hj
      rw [← hj2, show ((⟨b, off, none⟩ : Addr).add j) = ⟨b, off + j, none⟩ from by simp [Addr.add]]
      exact hc j hj1
    · omega

/-- The block of a literal of one text. -/
def LitB (W : World) (q : Nat) (x : ByteArray) : Prop := W.heap[q]? = some (.cells #[.string x] 9 (0, 0))
theorem LitB.new (W : World) (x : ByteArray) : LitB (W.alloc (.cells #[.string x] 9)) W.heap.size x := World.alloc_heap_new _ _
theorem LitB.bel {W W' : World} {q : Nat} {x : ByteArray} (h : LitB W q x) (hb : Bel W W') : LitB W' q x := (hb.block (Array.getElem?_eq_some_iff.1 h).1).trans h
theorem LitB.row {W : World} {q : Nat} {x : ByteArray} (h : LitB W q x) : RowAt0 W (.slice (some ⟨q, 0, none⟩) 1 1) (strsV [x]) := by
  refine .inr ⟨q, 0, 1, rfl, by rw [strsV_length]; exact Nat.le_refl _, (Array.getElem?_eq_some_iff.1 h).1, fun j hj => ?_⟩
  rw [strsV_length] at hj
  obtain rfl : j = 0 := by simp at hj; exact hj
  unfold LitB at h
  simp [World.cell?, h, strsV]
theorem LitB.grown {W W' : World} {q : Nat} {x : ByteArray} {v : Value} (h : LitB W q x) (hg : W.grownBy W' v.ownBlock) (hne : some q ≠ v.ownBlock) : LitB W' q x :=
  (hg.block _ (Array.getElem?_eq_some_iff.1 h).1 hne).trans h

set_option maxRecDepth 100000 in
set_option maxHeartbeats 8000000 in
theorem rwithin_c (e : Ex) (vn vl : Value) (i : Nat) (sl : Value) (L : List ByteArray) (w : World) (hb : e.bulk ≤ 1073741824) (hi : i ≤ 1073741824) (hik : e.k = 17 → i ≤ e.ns.length) (hat : ExAt w e vn vl) (hv : RowAt0 w sl (strsV L)) (hL : L.length + e.bulk ≤ 4294967290) :
    Calls Tryz.prog 87 #[.agg #[.int .i64 e.k, .string e.s, vn, vl], .int .i64 i, sl] w (RetRow0 (joinNew L (givenK e.k e.s e.ns i)) w) := by
  have HG := Lib.hid (Nat.le_trans (given_le e.k e.s e.ns i) (by have := bulk_eq e; have := len_names e.ns; omega : e.ns.length + 1 ≤ e.bulk))
  obtain ⟨na, la, nn, nc, m, lc, rfl, rfl, hnn, hm, hnc, hlc, hnb, hmb, hns, hps⟩ := hat.opened
  obtain ⟨ao, cap, rfl, hcs⟩ := row0_form hv L.length (strsV_length L)
  obtain ⟨k, hk⟩ : ∃ k, e.k = k := ⟨_, rfl⟩
  obtain ⟨s, hs⟩ : ∃ s, e.s = s := ⟨_, rfl⟩
  obtain ⟨ns, hnse⟩ : ∃ l, e.ns = l := ⟨_, rfl⟩
  obtain ⟨bk, hbk⟩ : ∃ l, e.bulk = l := ⟨_, rfl⟩
  rw [hk, hs, hnse] at HG ⊢
  rw [hk] at hik
  rw [hnse] at hik hnn hns
  rw [hbk] at HG hL
  have HN := Lib.hid hnn
  have HNS := Lib.hid hns
  have HV := Lib.hid hv
  have HIK := Lib.hid hik
  have hn2 : nn ≤ 1073741824 := by omega
  have hb2 : bk ≤ 1073741824 := by omega
  obtain ⟨G, hG⟩ : ∃ G, givenK k s ns i = G := ⟨_, rfl⟩
  rw [hG] at HG ⊢
  have HGG := Lib.hid hG
  clear hk hs hnse hps hm hnn hns hat hnb hmb hcs hik hv hbk hb hG
  go_enter Tryz.func87, Tryz.ntmps87
  go_upto_block 0 with fail
  have t0 := Blk.new w 26 [.int .i64 k, .string s, .slice na nn nc, .slice la m lc]
  obtain ⟨wa, hwa⟩ : ∃ W, w.alloc (.cells #[.int .i64 k, .string s, .slice na nn nc, .slice la m lc] 26) = W := ⟨_, rfl⟩
  have hb0 : Bel w wa := by rw [← hwa]; exact Bel.alloc _ _
  rw [show w.alloc (.cells [Value.int .i64 k, .string s, .slice na nn nc, .slice la m lc].toArray 26) = wa from hwa] at t0
  rw [hwa]
  have T0 := Lib.hid t0
  have HB0 := Lib.hid hb0
  clear t0 hb0 hwa
  go_cut [7] (fun v wx => ∃ a n c, v = .slice a n c ∧ G.length = n ∧ n ≤ c ∧ NamesAt wx a G ∧ Bel wa wx)
  case first =>
    have c0 := T0.out.at 0
    have c1 := T0.out.at 1
    have c2 := T0.out.at 2
    have hg := HGG.out
    unfold givenK at hg
    by_cases h12 : k = 12 ∨ k = 13 ∨ k = 14
    · rw [if_neg (by omega), if_neg (by omega)] at hg
      have e12 : (k == 12 || (k == 13 || k == 14)) = true := by simpa using h12
      obtain ⟨b12, hb12⟩ : ∃ b, (k == 12) = b := ⟨_, rfl⟩
      obtain ⟨b13, hb13⟩ : ∃ b, (k == 13) = b := ⟨_, rfl⟩
      obtain ⟨b14, hb14⟩ : ∃ b, (k == 14) = b := ⟨_, rfl⟩
      rw [hb12, hb13, hb14] at e12
      by_cases hi1 : i = 1
      · subst hi1
        rw [if_neg (by simp), if_neg (by omega), if_pos h12] at hg
        subst hg
        clear h12 HGG
        cases b12 <;> cases b13 <;> cases b14 <;> simp at e12
        all_goals
          go_wp2_with fail
          go_meet
          exact ⟨_, _, _, rfl, rfl, Nat.le_refl _, NamesAt.new wa [s], Bel.alloc _ _⟩
      · rw [if_pos hi1] at hg
        subst hg
        have hi2 : ((i : Int) == 1) = false := by simp; omega
        clear h12 hi1 HGG
        cases b12 <;> cases b13 <;> cases b14 <;> simp at e12
        all_goals
          go_wp2_with fail
          go_meet
          exact ⟨_, _, _, rfl, rfl, Nat.le_refl _, NamesAt.nil _ _, Bel.refl _⟩
    · have e12 : (k == 12) = false := by simp; omega
      have e13 : (k == 13) = false := by simp; omega
      have e14 : (k == 14) = false := by simp; omega
      by_cases h9 : k = 9
      · subst h9
        rw [if_neg (by omega), if_neg (by omega)] at hg
        by_cases hi1 : i = 1
        · subst hi1
          rw [if_neg (by simp), if_pos rfl] at hg
          subst hg
          clear h12 HGG
          go_wp2_with fail
          go_meet
          exact ⟨_, _, _, rfl, rfl, Nat.le_refl _, NamesAt.new wa [⟨#[105, 116, 101, 109]⟩], Bel.alloc _ _⟩
        · rw [if_pos hi1] at hg
          subst hg
          have hi2 : ((i : Int) == 1) = false := by simp; omega
          clear h12 hi1 HGG
          go_wp2_with fail
          go_meet
          exact ⟨_, _, _, rfl, rfl, Nat.le_refl _, NamesAt.nil _ _, Bel.refl _⟩
      have e9 : (k == 9) = false := by simpa using h9
      by_cases h15 : k = 15
      · subst h15
        rw [if_pos rfl] at hg
        subst hg
        clear h12 h9 HGG
        go_wp2_with fail
        go_meet
        exact ⟨_, _, _, rfl, HN.out, hnc, HNS.out.bel HB0.out, Bel.refl _⟩
      have e15 : (k == 15) = false := by simpa using h15
      by_cases h17 : k = 17
      · subst h17
        rw [if_neg (by omega), if_pos rfl] at hg
        subst hg
        have hin : i ≤ nn := by have := HIK.out rfl; have := HN.out; omega
        have g1 : (0 : Int) ≤ i := by omega
        have g2 : (i : Int) ≤ nc := by omega
        have HLEN : Hid ((ns.take i).length = i) := Lib.hid (by rw [List.length_take, HN.out]; omega)
        clear h12 h9 h15 HGG
        go_wp2_with fail
        go_meet
        exact ⟨_, _, _, rfl, HLEN.out, by omega, (HNS.out.take i).bel HB0.out, Bel.refl _⟩
      have e17 : (k == 17) = false := by simpa using h17
      rw [if_neg h15, if_neg h17] at hg
      have hg2 : G = [] := by
        rw [← hg]
        split
        · rfl
        · first | rfl | rw [if_neg h9, if_neg h12] | rw [if_neg h12]
      subst hg2
      clear h12 h9 h15 h17 hg HGG
      go_wp2_with fail
      go_meet
      exact ⟨_, _, _, rfl, rfl, Nat.le_refl _, NamesAt.nil _ _, Bel.refl _⟩
  case rest =>
  obtain ⟨ga, gn, gc, rfl, hgn, hgc, hgs, hbc⟩ := hcut
  generalize wc = w1 at hbc hgs ⊢
  have HB1 := Lib.hid (HB0.out.trans hbc)
  have HGN := Lib.hid hgn
  have HGS := Lib.hid hgs
  have hgl : gn ≤ bk := by rw [← hgn]; exact HG.out
  have HJL := Lib.hid (joinNew_len G L)
  clear hbc hgn hgs T0 HB0 HGG HNS HIK HN
  go_wp2_with fail
  go_loopw [8, 9] (fun o q wr => ∃ j : Nat, j ≤ gn ∧ q = .int .i64 j ∧ Bel w1 wr ∧ (∃ oa oc, o = .slice oa (joinNew L (G.take j)).length oc) ∧ RowAt0 wr o (strsV (joinNew L (G.take j)))) (fun _ q _ => gn - (intOf q).toNat)
  case atStart => exact ⟨0, Nat.zero_le _, rfl, Bel.refl _, ⟨ao, cap, rfl⟩, HV.out.bel HB1.out⟩
  case round =>
    obtain ⟨j, hj, rfl, hbel, ⟨oa, oc, rfl⟩, hrow⟩ := hrel
    obtain ⟨O, hO⟩ : ∃ O, joinNew L (G.take j) = O := ⟨_, rfl⟩
    have hol : O.length ≤ L.length + gn := by
      rw [← hO]
      have := joinNew_len (G.take j) L
      rw [List.length_take] at this
      omega
    rw [hO] at hrow ⊢
    have HO := Lib.hid hO
    have HBL := Lib.hid hbel
    have HROW := Lib.hid hrow
    clear hO hbel hrow
    by_cases hlt : j < gn
    · have hlti : (j : Int) < gn := by omega
      obtain ⟨x, hx⟩ : ∃ x, G[j]? = some x := ⟨_, List.getElem?_eq_getElem (by have := HGN.out; omega)⟩
      obtain ⟨b, off, rfl, g0⟩ := HGS.out j x hx
      have f0 := HBL.out.keep g0
      have HST := Lib.hid (show joinNew L (G.take (j + 1)) = if x ∈ O then O else O ++ [x] by
        obtain ⟨hj2, hx2⟩ := List.getElem?_eq_some_iff.1 hx
        rw [List.take_succ_eq_append_getElem hj2, hx2, joinNew_snoc, HO.out])
      obtain ⟨_, _, hON⟩ := names_of_row0 HROW.out
      have HA := Lib.hid (ramong_c oa O.length oc O x wr rfl (by omega) hON)
      obtain ⟨y, hy⟩ : ∃ y, decide (x ∈ O) = y := ⟨_, rfl⟩
      rw [hy] at HA
      have HY := Lib.hid hy
      clear hx g0 hy hON
      go_wp2_with fail
      refine HA.out.mono ?_
      rintro e4 w4 ⟨rfl, hb4⟩
      have f4 := hb4.keep f0
      have HB4 := Lib.hid hb4
      clear hb4 f0 HA
      cases y with
      | true =>
        go_wp2_with fail
        refine ⟨⟨j + 1, by omega, by go_num, HBL.out.trans HB4.out, ?_, ?_⟩, by simp [intOf]; omega⟩
        · rw [HST.out, if_pos (by have := HY.out; simpa using this)]; exact ⟨_, _, rfl⟩
        · rw [HST.out, if_pos (by have := HY.out; simpa using this)]; exact HROW.out.bel HB4.out
      | false =>
        go_wp2_with fail
        refine wp_region_held_drew (S := fun w' => w'.cell? ⟨b, off + j, none⟩ = some (.string x) ∧ Bel w4 w') (by kernel_rfl) ⟨by go_simp, by (repeat (first | exact Bel.refl _ | assumption | refine Bel.to_drewN ?_ _ | refine Bel.to_drew ?_ | refine Bel.to_setCell ?_ (by first | exact Nat.le_refl _ | (simp; done) | (simp; omega) | omega) _ | refine Bel.to_alloc ?_ _ | refine Bel.trans ?_ (by assumption)))⟩ (fun hHeld => ?_)
        refine wpAnyH_take (i := 1) (oi := _) (v := ?_) rfl (by kernel_rfl) (by kernel_rfl) (by kernel_rfl) (fun _ _ _ h => h) ?_ (by assumption) ?_
        rotate_left 1
        · first
            | (refine Or.inl ⟨by rfl, ?_⟩; intro w9 hSw; (try dsimp only at hSw); go_simp; (try with_reducible rfl); done)
            | (refine Or.inr ⟨by rfl, ?_⟩; rfl)
        simp only [List.getElem_toArray, List.getElem_cons_succ, List.getElem_cons_zero, Act.put, List.setIfInBounds_toArray, List.set_cons_zero, List.set_cons_succ]
        refine wpAnyH_take (i := 3) (oi := _) (v := ?_) rfl (by kernel_rfl) (by kernel_rfl) (by kernel_rfl) (fun _ _ _ h => h) ?_ (by assumption) ?_
        rotate_left 1
        · first
            | (refine Or.inl ⟨by rfl, ?_⟩; intro w9 hSw; (try dsimp only at hSw); go_simp; (try with_reducible rfl); done)
            | (refine Or.inr ⟨by rfl, ?_⟩; rfl)
        simp only [List.getElem_toArray, List.getElem_cons_succ, List.getElem_cons_zero, Act.put, List.setIfInBounds_toArray, List.set_cons_zero, List.set_cons_succ]
        refine wpAnyH_take (i := 4) (oi := _) (v := ?_) rfl (by kernel_rfl) (by kernel_rfl) (by kernel_rfl) (fun _ _ _ h => h) ?_ (by assumption) ?_
        rotate_left 1
        · first
            | (refine Or.inl ⟨by rfl, ?_⟩; intro w9 hSw; (try dsimp only at hSw); go_simp; (try with_reducible rfl); done)
            | (refine Or.inr ⟨by rfl, ?_⟩; rfl)
        simp only [List.getElem_toArray, List.getElem_cons_succ, List.getElem_cons_zero, Act.put, List.setIfInBounds_toArray, List.set_cons_zero, List.set_cons_succ]
        refine wpAnyH_take (i := 5) (oi := _) (v := ?_) rfl (by kernel_rfl) (by kernel_rfl) (by kernel_rfl) (fun _ _ _ h => h) ?_ (by assumption) ?_
        rotate_left 1
        · first
            | (refine Or.inl ⟨by rfl, ?_⟩; intro w9 hSw; (try dsimp only at hSw); go_simp; (try with_reducible rfl); done)
            | (refine Or.inr ⟨by rfl, ?_⟩; rfl)
        simp only [List.getElem_toArray, List.getElem_cons_succ, List.getElem_cons_zero, Act.put, List.setIfInBounds_toArray, List.set_cons_zero, List.set_cons_succ]
        refine wpAnyH_take (i := 6) (oi := _) (v := ?_) rfl (by kernel_rfl) (by kernel_rfl) (by kernel_rfl) (fun _ _ _ h => h) ?_ (by assumption) ?_
        rotate_left 1
        · first
            | (refine Or.inl ⟨by rfl, ?_⟩; intro w9 hSw; (try dsimp only at hSw); go_simp; (try with_reducible rfl); done)
            | (refine Or.inr ⟨by rfl, ?_⟩; rfl)
        simp only [List.getElem_toArray, List.getElem_cons_succ, List.getElem_cons_zero, Act.put, List.setIfInBounds_toArray, List.set_cons_zero, List.set_cons_succ]
        refine wpAnyH_ready (rs := [0, 7]) (by kernel_rfl) (by simp) ?_
        refine AllReadyH.cons (o := _) rfl (fun K hK => ?_) (AllReadyH.cons (o := _) rfl (fun K hK => ?_) AllReadyH.nil)
        · go_simp
          have hbx : Bel w4 _ := (Bel.drew w4).to_alloc (.cells #[] 9)
          refine hK.out _ _ ⟨hbx.keep f4, hbx⟩ (fun hHeld => ?_)
          clear hK K
          have own0 : (w4.drew.alloc (.cells #[] 9)).ownsRow w4.heap.size 9 1 (.slice (some ⟨w4.heap.size, 0, none⟩) 0 0) 0 [] := own_fresh w4.drew 9 w4.heap.size (Nat.le_refl _)
          refine wpAnyH_ready (rs := [2, 7]) (by kernel_rfl) (by simp) ?_
          refine AllReadyH.cons (o := _) rfl (fun K hK => ?_) (AllReadyH.cons (o := _) rfl (fun K hK => ?_) AllReadyH.nil)
          · rw [if_pos (by rfl)]
            refine wp_appendS _ _ rfl w4.heap.size (by have := (hbx).size; exact this) (.slice (some ⟨w4.heap.size, 0, none⟩) 0 0) 0 [] rfl own0 _ O rfl (HROW.out.bel (HB4.out.trans (hbx))) (by omega) (fun v2 w2 hown2 hg2 => ?_)
            have hb2 : Bel w4 w2 := own_grown own0 (hbx) hg2 (Nat.le_refl _)
            refine hK.out _ _ ⟨hb2.keep f4, hb2⟩ (fun hHeld => ?_)
            clear hK K
            simp only [Act.put]
            refine wpAnyH_ready (rs := [7]) (by kernel_rfl) (by simp) ?_
            refine AllReadyH.cons (o := _) rfl (fun K hK => ?_) AllReadyH.nil
            go_simp
            have hb8 : Bel w4 _ := hb2.to_alloc (.cells #[.string x] 9)
            refine hK.out _ _ ⟨hb8.keep f4, hb8⟩ (fun hHeld => ?_)
            clear hK K
            have own8 := own_bel hown2 (Bel.alloc w2 (.cells #[.string x] 9))
            have lit8 := LitB.new w2 x
            refine wpAnyH_ready (rs := [8]) (by kernel_rfl) (by simp) ?_
            refine AllReadyH.cons (o := _) rfl (fun K hK => ?_) AllReadyH.nil
            rw [if_pos (by rfl)]
            refine wp_appendS _ _ rfl w4.heap.size hb8.size _ _ _ rfl own8 _ [x] rfl lit8.row (by simp; omega) (fun v9 w9 hown9 hg9 => ?_)
            have hb9 := own_grown own8 hb8 hg9 (Nat.le_refl _)
            refine hK.out _ _ ⟨hb9.keep f4, hb9⟩ (fun hHeld => ?_)
            clear hK K
            simp only [Act.put]
            refine wpAnyH_take (i := 9) (oi := _) (v := ?_) rfl (by kernel_rfl) (by kernel_rfl) (by kernel_rfl) (fun _ _ _ h => h) ?_ (by assumption) ?_
            rotate_left 1
            · first
                | (refine Or.inl ⟨by rfl, ?_⟩; intro w9 hSw; (try dsimp only at hSw); go_simp; (try with_reducible rfl); done)
                | (refine Or.inr ⟨by rfl, ?_⟩; rfl)
            simp only [List.getElem_toArray, List.getElem_cons_succ, List.getElem_cons_zero, Act.put, List.setIfInBounds_toArray, List.set_cons_zero, List.set_cons_succ]
            refine wpAnyH_done (by kernel_rfl) ?_ _
            have hown9' : w9.ownsRow w4.heap.size 9 1 v9 (O.length + 1) (strsV O ++ strsV [x]) := by rw [Nat.zero_add, List.nil_append] at hown9; exact hown9
            obtain ⟨g9, c9, rfl⟩ := ownsRow_succ hown9'
            have HOW := Lib.hid hown9'
            have HB9 := Lib.hid hb9
            clear hown9 hown9' hg9 hb9 own8 lit8 hb8 hHeld
            go_wp2_with fail
            refine ⟨⟨j + 1, by omega, by go_num, HBL.out.trans (HB4.out.trans HB9.out), ?_, ?_⟩, by simp [intOf]; omega⟩
            · rw [HST.out, if_neg (by have := HY.out; simpa using this)]; exact ⟨_, _, by rw [List.length_append]; rfl⟩
            · rw [HST.out, if_neg (by have := HY.out; simpa using this)]; have := own_row HOW.out; rwa [show strsV O ++ strsV [x] = strsV (O ++ [x]) from by simp [strsV]] at this
          · go_simp
            have hby : Bel w4 _ := hbx.to_alloc (.cells #[.string x] 9)
            refine hK.out _ _ ⟨hby.keep f4, hby⟩ (fun hHeld => ?_)
            clear hK K
            have lit7 : LitB ((w4.drew.alloc (.cells #[] 9)).alloc (.cells #[.string x] 9)) (w4.heap.size + 1) x := by
              have := LitB.new (w4.drew.alloc (.cells #[] 9)) x
              rw [World.size_alloc] at this
              exact this
            have own1 := own_bel own0 (Bel.alloc (w4.drew.alloc (.cells #[] 9)) (.cells #[.string x] 9))
            refine wpAnyH_ready (rs := [2]) (by kernel_rfl) (by simp) ?_
            refine AllReadyH.cons (o := _) rfl (fun K hK => ?_) AllReadyH.nil
            rw [if_pos (by rfl)]
            refine wp_appendS _ _ rfl w4.heap.size (by have := (hby).size; exact this) (.slice (some ⟨w4.heap.size, 0, none⟩) 0 0) 0 [] rfl own1 _ O rfl (HROW.out.bel (HB4.out.trans (hby))) (by omega) (fun v2 w2 hown2 hg2 => ?_)
            have hb2 : Bel w4 w2 := own_grown own1 (hby) hg2 (Nat.le_refl _)
            refine hK.out _ _ ⟨hb2.keep f4, hb2⟩ (fun hHeld => ?_)
            clear hK K
            simp only [Act.put]
            have lit8 := lit7.grown hg2 (by simp [Value.ownBlock])
            have own8 := hown2
            have hb8 := hb2
            refine wpAnyH_ready (rs := [8]) (by kernel_rfl) (by simp) ?_
            refine AllReadyH.cons (o := _) rfl (fun K hK => ?_) AllReadyH.nil
            rw [if_pos (by rfl)]
            refine wp_appendS _ _ rfl w4.heap.size hb8.size _ _ _ rfl own8 _ [x] rfl lit8.row (by simp; omega) (fun v9 w9 hown9 hg9 => ?_)
            have hb9 := own_grown own8 hb8 hg9 (Nat.le_refl _)
            refine hK.out _ _ ⟨hb9.keep f4, hb9⟩ (fun hHeld => ?_)
            clear hK K
            simp only [Act.put]
            refine wpAnyH_take (i := 9) (oi := _) (v := ?_) rfl (by kernel_rfl) (by kernel_rfl) (by kernel_rfl) (fun _ _ _ h => h) ?_ (by assumption) ?_
            rotate_left 1
            · first
                | (refine Or.inl ⟨by rfl, ?_⟩; intro w9 hSw; (try dsimp only at hSw); go_simp; (try with_reducible rfl); done)
                | (refine Or.inr ⟨by rfl, ?_⟩; rfl)
            simp only [List.getElem_toArray, List.getElem_cons_succ, List.getElem_cons_zero, Act.put, List.setIfInBounds_toArray, List.set_cons_zero, List.set_cons_succ]
            refine wpAnyH_done (by kernel_rfl) ?_ _
            have hown9' : w9.ownsRow w4.heap.size 9 1 v9 (O.length + 1) (strsV O ++ strsV [x]) := by rw [Nat.zero_add, List.nil_append] at hown9; exact hown9
            obtain ⟨g9, c9, rfl⟩ := ownsRow_succ hown9'
            have HOW := Lib.hid hown9'
            have HB9 := Lib.hid hb9
            clear hown9 hown9' hg9 hb9 own8 lit8 hb8 hHeld
            go_wp2_with fail
            refine ⟨⟨j + 1, by omega, by go_num, HBL.out.trans (HB4.out.trans HB9.out), ?_, ?_⟩, by simp [intOf]; omega⟩
            · rw [HST.out, if_neg (by have := HY.out; simpa using this)]; exact ⟨_, _, by rw [List.length_append]; rfl⟩
            · rw [HST.out, if_neg (by have := HY.out; simpa using this)]; have := own_row HOW.out; rwa [show strsV O ++ strsV [x] = strsV (O ++ [x]) from by simp [strsV]] at this
        · go_simp
          have hbx : Bel w4 _ := (Bel.drew w4).to_alloc (.cells #[.string x] 9)
          refine hK.out _ _ ⟨hbx.keep f4, hbx⟩ (fun hHeld => ?_)
          clear hK K
          have lit6 := LitB.new w4.drew x
          refine wpAnyH_ready (rs := [0]) (by kernel_rfl) (by simp) ?_
          refine AllReadyH.cons (o := _) rfl (fun K hK => ?_) AllReadyH.nil
          go_simp
          have hby : Bel w4 _ := hbx.to_alloc (.cells #[] 9)
          refine hK.out _ _ ⟨hby.keep f4, hby⟩ (fun hHeld => ?_)
          clear hK K
          have lit7 := lit6.bel (Bel.alloc _ (.cells #[] 9))
          have own1 : ((w4.drew.alloc (.cells #[.string x] 9)).alloc (.cells #[] 9)).ownsRow w4.heap.size 9 1 (.slice (some ⟨w4.heap.size + 1, 0, none⟩) 0 0) 0 [] := by
            have := own_fresh (w4.drew.alloc (.cells #[.string x] 9)) 9 w4.heap.size (by rw [World.size_alloc]; exact Nat.le_succ _)
            rw [World.size_alloc] at this
            exact this
          refine wpAnyH_ready (rs := [2]) (by kernel_rfl) (by simp) ?_
          refine AllReadyH.cons (o := _) rfl (fun K hK => ?_) AllReadyH.nil
          rw [if_pos (by rfl)]
          refine wp_appendS _ _ rfl w4.heap.size (by have := (hby).size; exact this) (.slice (some ⟨w4.heap.size + 1, 0, none⟩) 0 0) 0 [] rfl own1 _ O rfl (HROW.out.bel (HB4.out.trans (hby))) (by omega) (fun v2 w2 hown2 hg2 => ?_)
          have hb2 : Bel w4 w2 := own_grown own1 (hby) hg2 (Nat.le_refl _)
          refine hK.out _ _ ⟨hb2.keep f4, hb2⟩ (fun hHeld => ?_)
          clear hK K
          simp only [Act.put]
          have lit8 := lit7.grown hg2 (by simp [Value.ownBlock])
          have own8 := hown2
          have hb8 := hb2
          refine wpAnyH_ready (rs := [8]) (by kernel_rfl) (by simp) ?_
          refine AllReadyH.cons (o := _) rfl (fun K hK => ?_) AllReadyH.nil
          rw [if_pos (by rfl)]
          refine wp_appendS _ _ rfl w4.heap.size hb8.size _ _ _ rfl own8 _ [x] rfl lit8.row (by simp; omega) (fun v9 w9 hown9 hg9 => ?_)
          have hb9 := own_grown own8 hb8 hg9 (Nat.le_refl _)
          refine hK.out _ _ ⟨hb9.keep f4, hb9⟩ (fun hHeld => ?_)
          clear hK K
          simp only [Act.put]
          refine wpAnyH_take (i := 9) (oi := _) (v := ?_) rfl (by kernel_rfl) (by kernel_rfl) (by kernel_rfl) (fun _ _ _ h => h) ?_ (by assumption) ?_
          rotate_left 1
          · first
              | (refine Or.inl ⟨by rfl, ?_⟩; intro w9 hSw; (try dsimp only at hSw); go_simp; (try with_reducible rfl); done)
              | (refine Or.inr ⟨by rfl, ?_⟩; rfl)
          simp only [List.getElem_toArray, List.getElem_cons_succ, List.getElem_cons_zero, Act.put, List.setIfInBounds_toArray, List.set_cons_zero, List.set_cons_succ]
          refine wpAnyH_done (by kernel_rfl) ?_ _
          have hown9' : w9.ownsRow w4.heap.size 9 1 v9 (O.length + 1) (strsV O ++ strsV [x]) := by rw [Nat.zero_add, List.nil_append] at hown9; exact hown9
          obtain ⟨g9, c9, rfl⟩ := ownsRow_succ hown9'
          have HOW := Lib.hid hown9'
          have HB9 := Lib.hid hb9
          clear hown9 hown9' hg9 hb9 own8 lit8 hb8 hHeld
          go_wp2_with fail
          refine ⟨⟨j + 1, by omega, by go_num, HBL.out.trans (HB4.out.trans HB9.out), ?_, ?_⟩, by simp [intOf]; omega⟩
          · rw [HST.out, if_neg (by have := HY.out; simpa using this)]; exact ⟨_, _, by rw [List.length_append]; rfl⟩
          · rw [HST.out, if_neg (by have := HY.out; simpa using this)]; have := own_row HOW.out; rwa [show strsV O ++ strsV [x] = strsV (O ++ [x]) from by simp [strsV]] at this
    · obtain rfl : j = gn := by omega
      have hfin : joinNew L G = O := by rw [← HO.out, List.take_of_length_le (by rw [HGN.out]; exact Nat.le_refl _)]
      have HFIN := Lib.hid hfin
      clear hfin
      go_wp2_with fail
      go_ret
      exact ⟨_, _, _, rfl, by rw [HFIN.out], by rw [HFIN.out]; exact HROW.out, HB1.out.trans HBL.out⟩


set_option maxRecDepth 100000 in
set_option maxHeartbeats 8000000 in
theorem rscoped_e : ∀ (n : Nat) (e : Ex), e.bulk ≤ n → n ≤ 1073741824 → ∀ (vn vl sl : Value) (L : List ByteArray) (w : World), OkE e → L.length ≤ 1073745920 → ExAt w e vn vl → RowAt0 w sl (strsV L) →
    Calls Tryz.prog 50 #[.agg #[.int .i64 e.k, .string e.s, vn, vl], sl] w (RetBel (.int .i64 (rscE e L)) w) := by
  intro n
  induction n with
  | zero => intro e he; exfalso; have := bulk_eq e; omega
  | succ n ih =>
    intro e he hn vn vl sl L w hok hLl hat hv
    have HAT := Lib.hid hat
    have HV := Lib.hid hv
    obtain ⟨na, la, nn, nc, m, lc, rfl, rfl, hnn, hm, hnc, hlc, hnb, hmb, hns, hps⟩ := hat.opened
    obtain ⟨ao, cap, rfl, _⟩ := row0_form hv L.length (strsV_length L)
    obtain ⟨_, _, hLN⟩ := names_of_row0 hv
    have HW := Lib.hid (fun (j : Nat) (hj : j < m) W (hW : Bel w W) => rwithin_c e _ _ j _ L W (by omega) (by omega) (fun h17 => by obtain ⟨t, h⟩ := hok.own; have := form_map (own_form h) h17; omega) (ExAt.bel hW e HAT.out) (hv.bel hW) (by omega))
    have HA := Lib.hid (fun W (hW : Bel w W) => ramong_c ao L.length cap L e.s W rfl (by omega) (hLN.bel hW))
    have PS := Lib.hid hps
    have HM := Lib.hid hm
    have HOK := Lib.hid hok
    have HGL := Lib.hid (fun (j : Nat) => Nat.le_trans (given_le e.k e.s e.ns j) (by have := bulk_eq e; have := len_names e.ns; omega : e.ns.length + 1 ≤ e.bulk))
    have HIH : Hid (∀ (x : Ex), x.bulk < e.bulk → OkE x → ∀ xn xl u M W, M.length ≤ 1073745920 → ExAt W x xn xl → RowAt0 W u (strsV M) → Calls Tryz.prog 50 #[.agg #[.int .i64 x.k, .string x.s, xn, xl], u] W (RetBel (.int .i64 (rscE x M)) W)) := Lib.hid fun x hx hox xn xl u M W h1 h2 h3 => ih x (by omega) (by omega) xn xl u M W hox h1 h2 h3
    have hm2 : m ≤ 1073741824 := by omega
    have hbk2 : e.bulk ≤ 1073741824 := by omega
    obtain ⟨R, hR⟩ : ∃ R, rscE e L = R := ⟨_, rfl⟩
    rw [hR]
    rw [rscE_eq] at hR
    have HRR := Lib.hid hR
    clear ih hps hm hnn hns hat hR hv hLN hnb hmb hok hnc he hn
    by_cases hlong : 4096 < L.length
    · have hli : (4096 : Int) < L.length := by omega
      have h2 : R = 19 := by rw [← HRR.out, if_pos hlong]
      subst h2
      clear HRR hlong
      go_enter Tryz.func50, Tryz.ntmps50
      go_wp2_with fail
      go_ret
      exact ⟨rfl, by (repeat (first | exact Bel.refl _ | assumption | refine Bel.to_drewN ?_ _ | refine Bel.to_drew ?_ | refine Bel.to_setCell ?_ (by first | exact Nat.le_refl _ | (simp; done) | (simp; omega) | omega) _ | refine Bel.to_alloc ?_ _ | refine Bel.trans ?_ (by assumption)))⟩
    have hli : ¬ (4096 : Int) < L.length := by omega
    obtain ⟨k, hk⟩ : ∃ k, e.k = k := ⟨_, rfl⟩
    obtain ⟨b3, hb3⟩ : ∃ b, (k == 3) = b := ⟨_, rfl⟩
    obtain ⟨F, hF⟩ : ∃ F, decide (e.s ∈ L) = F := ⟨_, rfl⟩
    rw [hF] at HA
    have hrr := HRR.out
    rw [if_neg hlong] at hrr
    rw [hk] at hrr HW HGL ⊢
    rw [show (if k = 3 ∧ e.s ∉ L then 13 else rscsE k e.s e.ns 0 e.l L) = if (b3 && !F) = true then 13 else rscsE k e.s e.ns 0 e.l L from by rw [← hb3, ← hF]; simp] at hrr
    have HR2 := Lib.hid hrr
    clear HRR hF hrr hk
    have hlong' : L.length ≤ 4096 := by omega
    clear hlong
    go_enter Tryz.func50, Tryz.ntmps50
    go_upto_region 3 with fail
    have t0 := Blk.new w 26 [.int .i64 k, .string e.s, .slice na nn nc, .slice la m lc]
    obtain ⟨wa, hwa⟩ : ∃ W, w.alloc (.cells #[.int .i64 k, .string e.s, .slice na nn nc, .slice la m lc] 26) = W := ⟨_, rfl⟩
    have hb0 : Bel w wa := by rw [← hwa]; exact Bel.alloc _ _
    rw [show w.alloc (.cells [Value.int .i64 k, .string e.s, .slice na nn nc, .slice la m lc].toArray 26) = wa from hwa] at t0
    rw [hwa]
    have c0 := t0.at 0
    have c1 := t0.at 1
    have T0 := Lib.hid t0
    have HB0 := Lib.hid hb0
    clear t0 hb0 hwa
    go_cut [19] (fun v wx => v = .bool (b3 && !F) ∧ Bel wa wx)
    case first =>
      cases b3 with
      | false =>
        go_wp2_with fail
        go_meet
        exact ⟨bool_eq (by simp), Bel.refl _⟩
      | true =>
        go_wp2_with fail
        refine (HA.out _ HB0.out).mono ?_
        rintro e1 w1 ⟨rfl, hb1⟩
        go_wp2_with fail
        go_meet
        exact ⟨bool_eq (by simp), hb1⟩
    case rest =>
    obtain ⟨rfl, hbc⟩ := hcut
    generalize wc = w1 at hbc ⊢
    obtain ⟨Q, hQ⟩ : ∃ Q, (b3 && !F) = Q := ⟨_, rfl⟩
    rw [hQ] at HR2 ⊢
    have T1 := Lib.hid (T0.out.bel hbc)
    have HB1 := Lib.hid (HB0.out.trans hbc)
    clear c0 c1 hQ hbc T0 HB0 HA
    cases Q with
    | true =>
      have h2 : R = 13 := by have := HR2.out; simpa using this.symm
      subst h2
      clear HR2
      go_wp2_with fail
      go_ret
      exact ⟨rfl, HB1.out⟩
    | false =>
    have HR3 : Hid (rscsE k e.s e.ns 0 e.l L = R) := Lib.hid (by have := HR2.out; simpa using this)
    clear HR2
    go_wp2_with fail
    go_loopw [5] (fun i wr => ∃ j : Nat, j ≤ m ∧ i = .int .i64 j ∧ Bel w1 wr ∧ rscsE k e.s e.ns j (e.l.drop j) L = R) (fun i _ => m - (intOf i).toNat)
    case atStart => exact ⟨0, Nat.zero_le _, rfl, Bel.refl _, HR3.out⟩
    case round =>
      obtain ⟨j, hj, rfl, hbel, hck⟩ := hrel
      have HB := Lib.hid hbel
      have c0 : wr.cell? ⟨w.heap.size, 0, none⟩ = some (.int .i64 k) := hbel.keep (T1.out.at 0)
      have c1 : wr.cell? ⟨w.heap.size, 1, none⟩ = some (.string e.s) := hbel.keep (T1.out.at 1)
      have c2 : wr.cell? ⟨w.heap.size, 2, none⟩ = some (.slice na nn nc) := hbel.keep (T1.out.at 2)
      have c3 : wr.cell? ⟨w.heap.size, 3, none⟩ = some (.slice la m lc) := hbel.keep (T1.out.at 3)
      by_cases hlt : j < m
      · have hlti : (j : Int) < m := by omega
        obtain ⟨x, hx⟩ : ∃ x, e.l[j]? = some x := ⟨_, List.getElem?_eq_getElem (by have := HM.out; omega)⟩
        obtain ⟨b, off, xna, xnn, xnc, xla, xln, xlc, rfl, g0, g1, g2, g3, hxa⟩ := PS.out j x hx
        have hbw := HB1.out.trans hbel
        have f0 := hbw.keep g0
        have f1 := hbw.keep g1
        have f2 := hbw.keep g2
        have f3 := hbw.keep g3
        rw [rscsE_drop k e.s e.ns e.l L j x hx] at hck
        obtain ⟨M, hM⟩ : ∃ M, joinNew L (givenK k e.s e.ns j) = M := ⟨_, rfl⟩
        have HWJ := Lib.hid (fun W (hW : Bel w W) => HW.out j hlt W hW)
        rw [hM] at HWJ hck
        have hMl : M.length ≤ 1073745920 := by rw [← hM]; have := joinNew_len (givenK k e.s e.ns j) L; have := HGL.out j; omega
        have HX := Lib.hid (fun W u (hW : Bel w W) (hu : RowAt0 W u (strsV M)) => HIH.out x (bulk_part hx) (HOK.out.part hx) (.slice xna xnn xnc) (.slice xla xln xlc) u M W hMl (ExAt.bel hW x hxa) hu)
        obtain ⟨c, hc⟩ : ∃ c, rscE x M = c := ⟨_, rfl⟩
        rw [hc] at HX hck
        have HCK := Lib.hid hck
        have HBW := Lib.hid hbw
        clear g0 g1 g2 g3 hxa hx hck hc hM hbel hbw HR3
        go_wp2_with fail
        refine wp_region_held_drew (S := fun w' => w'.cell? ⟨w.heap.size, 0, none⟩ = some (.int .i64 k) ∧ w'.cell? ⟨w.heap.size, 1, none⟩ = some (.string e.s) ∧ w'.cell? ⟨w.heap.size, 2, none⟩ = some (.slice na nn nc) ∧ w'.cell? ⟨w.heap.size, 3, none⟩ = some (.slice (some ⟨b, off, none⟩) m lc) ∧ w'.cell? ⟨b, off + j * 4, none⟩ = some (.int .i64 x.k) ∧ w'.cell? ⟨b, off + j * 4 + 1, none⟩ = some (.string x.s) ∧ w'.cell? ⟨b, off + j * 4 + 2, none⟩ = some (.slice xna xnn xnc) ∧ w'.cell? ⟨b, off + j * 4 + 3, none⟩ = some (.slice xla xln xlc) ∧ Bel wr w') (by kernel_rfl) ⟨by go_simp, by go_simp, by go_simp, by go_simp, by go_simp, by go_simp, by go_simp, by go_simp, by (repeat (first | exact Bel.refl _ | assumption | refine Bel.to_drewN ?_ _ | refine Bel.to_drew ?_ | refine Bel.to_setCell ?_ (by first | exact Nat.le_refl _ | (simp; done) | (simp; omega) | omega) _ | refine Bel.to_alloc ?_ _ | refine Bel.trans ?_ (by assumption)))⟩ (fun hHeld => ?_)
        clear c0 c1 c2 c3 f0 f1 f2 f3
        refine wpAnyH_take (i := 0) (oi := _) (v := ?_) rfl (by kernel_rfl) (by kernel_rfl) (by kernel_rfl) (fun _ _ _ h => h) ?_ (by assumption) ?_
        rotate_left 1
        · first
            | (refine Or.inl ⟨by rfl, ?_⟩; intro w9 hSw; (try dsimp only at hSw); go_simp; (try with_reducible rfl); done)
            | (refine Or.inr ⟨by rfl, ?_⟩; rfl)
        simp only [List.getElem_toArray, List.getElem_cons_zero, Act.put, List.setIfInBounds_toArray, List.set_cons_zero, List.set_cons_succ]
        refine wpAnyH_take (i := 1) (oi := _) (v := ?_) rfl (by kernel_rfl) (by kernel_rfl) (by kernel_rfl) (fun _ _ _ h => h) ?_ (by assumption) ?_
        rotate_left 1
        · first
            | (refine Or.inl ⟨by rfl, ?_⟩; intro w9 hSw; (try dsimp only at hSw); go_simp; (try with_reducible rfl); done)
            | (refine Or.inr ⟨by rfl, ?_⟩; rfl)
        simp only [List.getElem_toArray, List.getElem_cons_succ, List.getElem_cons_zero, Act.put, List.setIfInBounds_toArray, List.set_cons_zero, List.set_cons_succ]
        refine wpAnyH_take (i := 2) (oi := _) (v := ?_) rfl (by kernel_rfl) (by kernel_rfl) (by kernel_rfl) (fun _ _ _ h => h) ?_ (by assumption) ?_
        rotate_left 1
        · first
            | (refine Or.inl ⟨by rfl, ?_⟩; intro w9 hSw; (try dsimp only at hSw); go_simp; (try with_reducible rfl); done)
            | (refine Or.inr ⟨by rfl, ?_⟩; rfl)
        simp only [List.getElem_toArray, List.getElem_cons_succ, List.getElem_cons_zero, Act.put, List.setIfInBounds_toArray, List.set_cons_zero, List.set_cons_succ]
        refine wpAnyH_take (i := 3) (oi := _) (v := ?_) rfl (by kernel_rfl) (by kernel_rfl) (by kernel_rfl) (fun _ _ _ h => h) ?_ (by assumption) ?_
        rotate_left 1
        · first
            | (refine Or.inl ⟨by rfl, ?_⟩; intro w9 hSw; (try dsimp only at hSw); go_simp; (try with_reducible rfl); done)
            | (refine Or.inr ⟨by rfl, ?_⟩; rfl)
        simp only [List.getElem_toArray, List.getElem_cons_succ, List.getElem_cons_zero, Act.put, List.setIfInBounds_toArray, List.set_cons_zero, List.set_cons_succ]
        refine wpAnyH_take (i := 4) (oi := _) (v := ?_) rfl (by kernel_rfl) (by kernel_rfl) (by kernel_rfl) (fun _ _ _ h => h) ?_ (by assumption) ?_
        rotate_left 1
        · first
            | (refine Or.inl ⟨by rfl, ?_⟩; intro w9 hSw; (try dsimp only at hSw); go_simp; (try with_reducible rfl); done)
            | (refine Or.inr ⟨by rfl, ?_⟩; rfl)
        simp only [List.getElem_toArray, List.getElem_cons_succ, List.getElem_cons_zero, Act.put, List.setIfInBounds_toArray, List.set_cons_zero, List.set_cons_succ]
        refine wpAnyH_take (i := 5) (oi := _) (v := ?_) rfl (by kernel_rfl) (by kernel_rfl) (by kernel_rfl) (fun _ _ _ h => h) ?_ (by assumption) ?_
        rotate_left 1
        · first
            | (refine Or.inl ⟨by rfl, ?_⟩; intro w9 hSw; (try dsimp only at hSw); go_simp; (try with_reducible rfl); done)
            | (refine Or.inr ⟨by rfl, ?_⟩; rfl)
        simp only [List.getElem_toArray, List.getElem_cons_succ, List.getElem_cons_zero, Act.put, List.setIfInBounds_toArray, List.set_cons_zero, List.set_cons_succ]
        refine wpAnyH_take (i := 6) (oi := _) (v := ?_) rfl (by kernel_rfl) (by kernel_rfl) (by kernel_rfl) (fun _ _ _ h => h) ?_ (by assumption) ?_
        rotate_left 1
        · first
            | (refine Or.inl ⟨by rfl, ?_⟩; intro w9 hSw; (try dsimp only at hSw); go_simp; (try with_reducible rfl); done)
            | (refine Or.inr ⟨by rfl, ?_⟩; rfl)
        simp only [List.getElem_toArray, List.getElem_cons_succ, List.getElem_cons_zero, Act.put, List.setIfInBounds_toArray, List.set_cons_zero, List.set_cons_succ]
        refine wpAnyH_take (i := 7) (oi := _) (v := ?_) rfl (by kernel_rfl) (by kernel_rfl) (by kernel_rfl) (fun _ _ _ h => h) ?_ (by assumption) ?_
        rotate_left 1
        · first
            | (refine Or.inl ⟨by rfl, ?_⟩; intro w9 hSw; (try dsimp only at hSw); go_simp; (try with_reducible rfl); done)
            | (refine Or.inr ⟨by rfl, ?_⟩; rfl)
        simp only [List.getElem_toArray, List.getElem_cons_succ, List.getElem_cons_zero, Act.put, List.setIfInBounds_toArray, List.set_cons_zero, List.set_cons_succ]
        refine wpAnyH_ready (rs := [8]) (by kernel_rfl) (by simp) ?_
        refine AllReadyH.cons (o := _) rfl (fun K hK => ?_) AllReadyH.nil
        go_simp
        go_at_call 87
        have hb9 : Bel wr wr.drew := Bel.drew _
        refine (HWJ.out _ (HBW.out.trans hb9)).mono ?_
        rintro e2 w2 ⟨ma, mn, mc, rfl, hmn, hmr, hb2⟩
        dsimp only
        have hb3 := hb9.trans hb2
        refine hK.out _ _ (by obtain ⟨h0, h1, h2, h3, h4, h5, h6, h7, h8⟩ := hHeld; exact ⟨hb2.keep h0, hb2.keep h1, hb2.keep h2, hb2.keep h3, hb2.keep h4, hb2.keep h5, hb2.keep h6, hb2.keep h7, hb3⟩) (fun hHeld => ?_)
        clear hK K
        refine wpAnyH_ready (rs := [9]) (by kernel_rfl) (by simp) ?_
        refine AllReadyH.cons (o := _) rfl (fun K hK => ?_) AllReadyH.nil
        go_simp
        go_at_call 50
        refine (HX.out _ _ (HBW.out.trans hb3) hmr).mono ?_
        rintro e4 w4 ⟨rfl, hb4⟩
        dsimp only
        refine hK.out _ _ (by obtain ⟨h0, h1, h2, h3, h4, h5, h6, h7, h8⟩ := hHeld; exact ⟨hb4.keep h0, hb4.keep h1, hb4.keep h2, hb4.keep h3, hb4.keep h4, hb4.keep h5, hb4.keep h6, hb4.keep h7, hb3.trans hb4⟩) (fun hHeld => ?_)
        clear hK K
        refine wpAnyH_take (i := 10) (oi := _) (v := ?_) rfl (by kernel_rfl) (by kernel_rfl) (by kernel_rfl) (fun _ _ _ h => h) ?_ (by assumption) ?_
        rotate_left 1
        · first
            | (refine Or.inl ⟨by rfl, ?_⟩; intro w9 hSw; (try dsimp only at hSw); go_simp; (try with_reducible rfl); done)
            | (refine Or.inr ⟨by rfl, ?_⟩; rfl)
        simp only [List.getElem_toArray, List.getElem_cons_succ, List.getElem_cons_zero, Act.put, List.setIfInBounds_toArray, List.set_cons_zero, List.set_cons_succ]
        refine wpAnyH_done (by kernel_rfl) ?_ _
        have HB4 := Lib.hid (hb3.trans hb4)
        clear hHeld hb2 hb3 hb4 hb9 hmr hmn
        by_cases hc0 : c = 0
        · subst hc0
          go_wp2_with fail
          exact ⟨⟨j + 1, by omega, by go_num, HB.out.trans HB4.out, by have := HCK.out; simpa using this⟩, by simp [intOf]; omega⟩
        · have hc2 : ((c : Int) == 0) = false := by simpa using hc0
          have hc3 : ((c : Int) != 0) = true := by simpa using hc0
          have HF : Hid (c = R) := Lib.hid (by have := HCK.out; rwa [if_neg hc0] at this)
          clear hc0 HCK
          go_wp2_with fail
          go_ret
          exact ⟨ret_int (by rw [HF.out]), HBW.out.trans HB4.out⟩
      · obtain rfl : j = m := by omega
        rw [rscsE_end _ _ _ _ _ _ (by have := HM.out; omega)] at hck
        subst hck
        clear HR3
        go_wp2_with fail
        go_ret
        exact ⟨rfl, HB1.out.trans hbel⟩
end Go.Proofs.YtchbhcjhoocjaaaGreatDoor

namespace Go.Proofs.YtchbhcjhoocjaaaGreatDoor
open Go.RowKit

theorem sumB_mem {x : ByteArray} : ∀ {l : List ByteArray}, x ∈ l → x.size ≤ sumB l
  | y :: l, h => by
    rw [sumB_cons]
    rcases List.mem_cons.1 h with rfl | h
    · omega
    · have := sumB_mem h; omega
theorem free_size {e : Ex} {B : List ByteArray} {x : ByteArray} (h : x ∈ freeE e B) : x.size ≤ e.bulk := by
  have h1 := sumB_mem (free_ss e B x h)
  have h2 := bytes_all e
  omega
theorem uniq_one (x : ByteArray) : uniqS [x] = [x] := srt_ext (srt_uniqS _) (by unfold Srt; exact List.pairwise_singleton _ _) fun y => by rw [mem_uniqS]
theorem uniq_nil : uniqS [] = [] := srt_ext (srt_uniqS _) srt_nil fun y => by rw [mem_uniqS]
theorem uniqS_len (l : List ByteArray) : (uniqS l).length ≤ l.length := len_le_of_mem l (uniqS l) (srt_uniqS l).nodup fun x hx => by rwa [mem_uniqS] at hx
theorem with_fine {A F : List ByteArray} (hr : ∀ x ∈ F, rightS x = true) (hn : A.length + F.length ≤ 4096) : withS (uniqS A) (uniqS F) = (some (uniqS (A ++ F)), 0) := by
  unfold withS
  have h1 : (uniqS F).all rightS = true := List.all_eq_true.2 fun x hx => hr x (by rwa [mem_uniqS] at hx)
  have h2 := uniqS_len (A ++ F)
  rw [List.length_append] at h2
  rw [if_neg (by rw [h1]; simp), addS_uniq, if_neg (by omega)]

end Go.Proofs.YtchbhcjhoocjaaaGreatDoor
