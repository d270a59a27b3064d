/-
  expr: the walk of the document's Free once more, for expressions of at most 8000.
-/
import Derived.Test.YtchbhcjhoocjaaaGreatDoorRXB
namespace Go.Proofs.YtchbhcjhoocjaaaGreatDoor
open Go.RowKit

theorem right_pos {x : ByteArray} (h : rightS x = true) : 1 ≤ x.size := by
  rcases Nat.eq_zero_or_pos x.size with h0 | h0
  · rw [show x = ⟨#[]⟩ from ByteArray.ext (Array.eq_empty_of_size_eq_zero h0)] at h
    exact absurd h (by decide +kernel)
  · exact h0
mutual
theorem free_len2 : ∀ (e : Ex), OkE e → ∀ (B : List ByteArray), 2 * (freeE e B).length ≤ e.bulk
  | .mk k s ns l, hok, B => by
    have h1 := frees_len2 k s ns 0 l B fun x hx => by
      obtain ⟨i, hi⟩ := List.getElem?_of_mem hx
      exact hok.part (e := .mk k s ns l) hi
    have hb := bulk_eq (.mk k s ns l)
    have hs : k = 3 → 1 ≤ s.size := fun hk => by
      obtain ⟨t, ho⟩ := hok.own
      exact right_pos ((own_names ho).1 (by rw [show (Ex.mk k s ns l).k = 3 from hk]; rfl))
    simp only [Ex.s, Ex.ns, Ex.l] at hb
    unfold freeE
    rw [List.length_append]
    split
    · next h =>
      have := hs h.1
      rw [List.length_singleton]
      omega
    · rw [List.length_nil]
      omega
theorem frees_len2 (k : Int) (s : ByteArray) (ns : List ByteArray) : ∀ (i : Nat) (l : List Ex) (B : List ByteArray), (∀ x ∈ l, OkE x) → 2 * (freesE k s ns i l B).length ≤ Ex.bulk.bulks l
  | _, [], _, _ => by unfold freesE; simp
  | i, x :: r, B, h => by
    have h1 := free_len2 x (h x (by simp)) (givenK k s ns i ++ B)
    have h2 := frees_len2 k s ns (i + 1) r B fun y hy => h y (by simp [hy])
    unfold freesE Ex.bulk.bulks
    rw [List.length_append]
    omega
end
set_option maxRecDepth 100000 in
set_option maxHeartbeats 8000000 in
theorem rfree_b : ∀ (n : Nat) (e : Ex), e.bulk ≤ n → n ≤ 1073741824 → ∀ (vn vl sl : Value) (L : List ByteArray) (w : World), OkE e → e.bulk ≤ 8000 → L.length + e.bulk ≤ 4294967290 → ExAt w e vn vl → RowAt0 w sl (strsV L) →
    Calls Tryz.prog 52 #[.agg #[.int .i64 e.k, .string e.s, vn, vl], sl] w (RetRow0 (uniqS (freeE e L)) w) := by
  intro n
  induction n with
  | zero => intro e he; exfalso; have := bulk_eq e; omega
  | succ n ih =>
    intro e he hn vn vl sl L w hok hce hLl hat hv
    have HAT := Lib.hid hat
    have HV := Lib.hid hv
    obtain ⟨na, la, nn, nc, m, lc, rfl, rfl, hnn, hm, hnc, hlc, hnb, hmb, hns, hps⟩ := hat.opened
    obtain ⟨ao, cap, rfl, _⟩ := row0_form hv L.length (strsV_length L)
    obtain ⟨_, _, hLN⟩ := names_of_row0 hv
    have HW := Lib.hid (fun (j : Nat) (hj : j < m) W (hW : Bel w W) => rwithin_c e _ _ j _ L W (by omega) (by omega) (fun h17 => by obtain ⟨t, h⟩ := hok.own; have := form_map (own_form h) h17; omega) (ExAt.bel hW e HAT.out) (hv.bel hW) (by omega))
    have HA := Lib.hid (fun W (hW : Bel w W) => ramong_c ao L.length cap L e.s W rfl (by omega) (hLN.bel hW))
    have PS := Lib.hid hps
    have HM := Lib.hid hm
    have HOK := Lib.hid hok
    have HGL := Lib.hid (fun (j : Nat) => (by have := given_le e.k e.s e.ns j; have := bulk_eq e; have := len_names e.ns; omega : (givenK e.k e.s e.ns j).length + Ex.bulk.bulks e.l ≤ e.bulk))
    have HIH : Hid (∀ (x : Ex), x.bulk < e.bulk → OkE x → x.bulk ≤ 8000 → ∀ xn xl u M W, M.length + x.bulk ≤ 4294967290 → ExAt W x xn xl → RowAt0 W u (strsV M) → Calls Tryz.prog 52 #[.agg #[.int .i64 x.k, .string x.s, xn, xl], u] W (RetRow0 (uniqS (freeE x M)) W)) := Lib.hid fun x hx hox hcx xn xl u M W h1 h2 h3 => ih x (by omega) (by omega) xn xl u M W hox hcx h1 h2 h3
    have hm2 : m ≤ 1073741824 := by omega
    have hbk2 : e.bulk ≤ 1073741824 := by omega
    obtain ⟨R, hR⟩ : ∃ R, uniqS (freeE e L) = R := ⟨_, rfl⟩
    rw [hR]
    have hfl := free_len2 e hok L
    rw [freeE_eq] at hR hfl
    have HCE := Lib.hid hce
    obtain ⟨k, hk⟩ : ∃ k, e.k = k := ⟨_, rfl⟩
    obtain ⟨b3, hb3⟩ : ∃ b, (k == 3) = b := ⟨_, rfl⟩
    obtain ⟨F, hF⟩ : ∃ F, decide (e.s ∈ L) = F := ⟨_, rfl⟩
    rw [hF] at HA
    rw [hk] at hR hfl HW HGL ⊢
    rw [show (if k = 3 ∧ e.s ∉ L then [e.s] else []) = if (b3 && !F) = true then [e.s] else [] from by rw [← hb3, ← hF]; simp] at hR hfl
    have HRR := Lib.hid hR
    have HFL := Lib.hid hfl
    clear ih hps hm hnn hns hat hR hv hLN hnb hmb hok hnc he hn hF hk hce hfl
    go_enter Tryz.func52, Tryz.ntmps52
    go_upto_region 2 with fail
    have t0 := Blk.new w 26 [.int .i64 k, .string e.s, .slice na nn nc, .slice la m lc]
    obtain ⟨wa, hwa⟩ : ∃ W, w.alloc (.cells #[.int .i64 k, .string e.s, .slice na nn nc, .slice la m lc] 26) = W := ⟨_, rfl⟩
    have hb0 : Bel w wa := by rw [← hwa]; exact Bel.alloc _ _
    rw [show w.alloc (.cells [Value.int .i64 k, .string e.s, .slice na nn nc, .slice la m lc].toArray 26) = wa from hwa] at t0
    rw [hwa]
    have c0 := t0.at 0
    have c1 := t0.at 1
    have T0 := Lib.hid t0
    have HB0 := Lib.hid hb0
    clear t0 hb0 hwa
    go_cut [16] (fun v wx => v = .bool (b3 && !F) ∧ Bel wa wx)
    case first =>
      cases b3 with
      | false =>
        go_wp2_with fail
        go_meet
        exact ⟨bool_eq (by simp), Bel.refl _⟩
      | true =>
        go_wp2_with fail
        refine (HA.out _ HB0.out).mono ?_
        rintro e1 w1 ⟨rfl, hb1⟩
        go_wp2_with fail
        go_meet
        exact ⟨bool_eq (by simp), hb1⟩
    case rest =>
    obtain ⟨rfl, hbc⟩ := hcut
    generalize wc = w1 at hbc ⊢
    obtain ⟨Q, hQ⟩ : ∃ Q, (b3 && !F) = Q := ⟨_, rfl⟩
    rw [hQ] at HRR HFL ⊢
    have T1 := Lib.hid (T0.out.bel hbc)
    have HB1 := Lib.hid (HB0.out.trans hbc)
    have d1 := hbc.keep c1
    clear c0 c1 hQ hbc T0 HB0 HA
    go_upto_if 16 with fail
    go_cut [5] (fun v wx => ∃ a n c A, v = .slice a n c ∧ A.length = n ∧ RowAt0 wx (.slice a n c) (strsV A) ∧ A = uniqS (if Q = true then [e.s] else []) ∧ Bel w1 wx)
    case first =>
      cases Q with
      | true =>
        go_wp2_with fail
        go_meet
        exact ⟨_, _, _, [e.s], rfl, rfl, (LitB.new w1 e.s).row, (uniq_one e.s).symm, Bel.alloc _ _⟩
      | false =>
        go_wp2_with fail
        go_meet
        exact ⟨_, _, _, [], rfl, rfl, .inl ⟨rfl, rfl⟩, by rw [if_neg (by simp)]; exact uniq_nil.symm, Bel.refl _⟩
    case rest =>
    obtain ⟨oa, on, oc, A0, rfl, hA0l, hA0, hA0e, hbc⟩ := hcut
    generalize wc = w2 at hbc hA0 ⊢
    have T2 := Lib.hid (T1.out.bel hbc)
    have HB2 := Lib.hid (HB1.out.trans hbc)
    have HA0 := Lib.hid hA0
    have HA0E := Lib.hid hA0e
    have HA0L := Lib.hid hA0l
    obtain ⟨P, hP⟩ : ∃ P, (if Q = true then [e.s] else []) = P := ⟨_, rfl⟩
    rw [hP] at HRR HFL HA0E
    clear hP d1 hbc hA0 hA0e hA0l T1 HB1
    go_wp2_with fail
    go_loopw [5, 6] (fun o i wr => ∃ j : Nat, j ≤ m ∧ i = .int .i64 j ∧ Bel w2 wr ∧ ∃ A, (∃ a n c, o = .slice a n c ∧ (uniqS A).length = n) ∧ RowAt0 wr o (strsV (uniqS A)) ∧ uniqS (A ++ freesE k e.s e.ns j (e.l.drop j) L) = R ∧ A.length + (freesE k e.s e.ns j (e.l.drop j) L).length ≤ 4096) (fun _ i _ => m - (intOf i).toNat)
    case atStart =>
      exact ⟨0, Nat.zero_le _, rfl, Bel.refl _, P, ⟨_, _, _, rfl, by rw [← HA0E.out]; exact HA0L.out⟩, by rw [← HA0E.out]; exact HA0.out, HRR.out, by have h1 := HFL.out; have := HCE.out; rw [List.length_append] at h1; rw [List.drop_zero]; omega⟩
    case round =>
      obtain ⟨j, hj, rfl, hbel, A, ⟨pa, pn, pc, rfl, hpn⟩, hrow, hck, hlen⟩ := hrel
      have HB := Lib.hid hbel
      have c0 : wr.cell? ⟨w.heap.size, 0, none⟩ = some (.int .i64 k) := hbel.keep (T2.out.at 0)
      have c1 : wr.cell? ⟨w.heap.size, 1, none⟩ = some (.string e.s) := hbel.keep (T2.out.at 1)
      have c2 : wr.cell? ⟨w.heap.size, 2, none⟩ = some (.slice na nn nc) := hbel.keep (T2.out.at 2)
      have c3 : wr.cell? ⟨w.heap.size, 3, none⟩ = some (.slice la m lc) := hbel.keep (T2.out.at 3)
      by_cases hlt : j < m
      · have hlti : (j : Int) < m := by omega
        obtain ⟨x, hx⟩ : ∃ x, e.l[j]? = some x := ⟨_, List.getElem?_eq_getElem (by have := HM.out; omega)⟩
        obtain ⟨b, off, xna, xnn, xnc, xla, xln, xlc, rfl, g0, g1, g2, g3, hxa⟩ := PS.out j x hx
        have hbw := HB2.out.trans hbel
        have f0 := hbw.keep g0
        have f1 := hbw.keep g1
        have f2 := hbw.keep g2
        have f3 := hbw.keep g3
        rw [freesE_drop k e.s e.ns e.l L j x hx] at hck hlen
        obtain ⟨M, hM⟩ : ∃ M, joinNew L (givenK k e.s e.ns j) = M := ⟨_, rfl⟩
        have HWJ := Lib.hid (fun W (hW : Bel w W) => HW.out j hlt W hW)
        rw [hM] at HWJ
        have hok := HOK.out.part hx
        have hxb := bulk_part hx
        have hcx : x.bulk ≤ 8000 := by have := HCE.out; omega
        have hMl : M.length + x.bulk ≤ 4294967290 := by rw [← hM]; have := joinNew_len (givenK k e.s e.ns j) L; have := HGL.out j; have := bulks_mem (List.mem_of_getElem? hx); omega
        have hF : ∀ z, z ∈ freeE x M ↔ z ∈ freeE x (givenK k e.s e.ns j ++ L) := free_congr x fun z => by rw [← hM, mem_joinNew, List.mem_append, or_comm]
        have HX := Lib.hid (fun W u (hW : Bel w W) (hu : RowAt0 W u (strsV M)) => HIH.out x hxb hok hcx (.slice xna xnn xnc) (.slice xla xln xlc) u M W hMl (ExAt.bel hW x hxa) hu)
        obtain ⟨G, hG⟩ : ∃ G, freeE x (givenK k e.s e.ns j ++ L) = G := ⟨_, rfl⟩
        rw [uniq_ext hF, hG] at HX
        rw [hG] at hck hlen
        have hGr : ∀ z ∈ G, rightS z = true := fun z hz => free_right x hok z ((free_nil z x _).1 (by rw [hG]; exact hz)).1
        have hGs : ∀ z ∈ G, z.size ≤ 1073741824 := fun z hz => by have := free_size (e := x) (B := givenK k e.s e.ns j ++ L) (by rw [hG]; exact hz); omega
        rw [List.length_append] at hlen
        have hwf := with_fine hGr (by omega : A.length + G.length ≤ 4096)
        have hul := uniqS_len A
        have hgl := uniqS_len G
        have HWI := Lib.hid (fun W u v (hu : RowAt0 W u (strsV (uniqS A))) (hv : RowAt0 W v (strsV (uniqS G))) => rwith_c u (uniqS A) v (uniqS G) W (srt_uniqS A) hu (by omega) hv (by omega) (fun z hz => by have := hGs z (by rwa [mem_uniqS] at hz); omega))
        rw [hwf] at HWI
        have HCK := Lib.hid hck
        have HLEN := Lib.hid hlen
        have HROW := Lib.hid hrow
        have HBW := Lib.hid hbw
        clear g0 g1 g2 g3 hxa hx hck hlen hM hbel hbw hok hxb hcx hMl hF hG hGr hGs hwf hul hgl hrow
        go_wp2_with fail
        refine wp_region_held_drew (S := fun w' => w'.cell? ⟨w.heap.size, 0, none⟩ = some (.int .i64 k) ∧ w'.cell? ⟨w.heap.size, 1, none⟩ = some (.string e.s) ∧ w'.cell? ⟨w.heap.size, 2, none⟩ = some (.slice na nn nc) ∧ w'.cell? ⟨w.heap.size, 3, none⟩ = some (.slice (some ⟨b, off, none⟩) m lc) ∧ w'.cell? ⟨b, off + j * 4, none⟩ = some (.int .i64 x.k) ∧ w'.cell? ⟨b, off + j * 4 + 1, none⟩ = some (.string x.s) ∧ w'.cell? ⟨b, off + j * 4 + 2, none⟩ = some (.slice xna xnn xnc) ∧ w'.cell? ⟨b, off + j * 4 + 3, none⟩ = some (.slice xla xln xlc) ∧ Bel wr w') (by kernel_rfl) ⟨by go_simp, by go_simp, by go_simp, by go_simp, by go_simp, by go_simp, by go_simp, by go_simp, by (repeat (first | exact Bel.refl _ | assumption | refine Bel.to_drewN ?_ _ | refine Bel.to_drew ?_ | refine Bel.to_setCell ?_ (by first | exact Nat.le_refl _ | (simp; done) | (simp; omega) | omega) _ | refine Bel.to_alloc ?_ _ | refine Bel.trans ?_ (by assumption)))⟩ (fun hHeld => ?_)
        clear c0 c1 c2 c3 f0 f1 f2 f3
        refine wpAnyH_take (i := 0) (oi := _) (v := ?_) rfl (by kernel_rfl) (by kernel_rfl) (by kernel_rfl) (fun _ _ _ h => h) ?_ (by assumption) ?_
        rotate_left 1
        · first
            | (refine Or.inl ⟨by rfl, ?_⟩; intro w9 hSw; (try dsimp only at hSw); go_simp; (try with_reducible rfl); done)
            | (refine Or.inr ⟨by rfl, ?_⟩; rfl)
        simp only [List.getElem_toArray, List.getElem_cons_zero, Act.put, List.setIfInBounds_toArray, List.set_cons_zero, List.set_cons_succ]
        refine wpAnyH_take (i := 1) (oi := _) (v := ?_) rfl (by kernel_rfl) (by kernel_rfl) (by kernel_rfl) (fun _ _ _ h => h) ?_ (by assumption) ?_
        rotate_left 1
        · first
            | (refine Or.inl ⟨by rfl, ?_⟩; intro w9 hSw; (try dsimp only at hSw); go_simp; (try with_reducible rfl); done)
            | (refine Or.inr ⟨by rfl, ?_⟩; rfl)
        simp only [List.getElem_toArray, List.getElem_cons_succ, List.getElem_cons_zero, Act.put, List.setIfInBounds_toArray, List.set_cons_zero, List.set_cons_succ]
        refine wpAnyH_take (i := 2) (oi := _) (v := ?_) rfl (by kernel_rfl) (by kernel_rfl) (by kernel_rfl) (fun _ _ _ h => h) ?_ (by assumption) ?_
        rotate_left 1
        · first
            | (refine Or.inl ⟨by rfl, ?_⟩; intro w9 hSw; (try dsimp only at hSw); go_simp; (try with_reducible rfl); done)
            | (refine Or.inr ⟨by rfl, ?_⟩; rfl)
        simp only [List.getElem_toArray, List.getElem_cons_succ, List.getElem_cons_zero, Act.put, List.setIfInBounds_toArray, List.set_cons_zero, List.set_cons_succ]
        refine wpAnyH_take (i := 3) (oi := _) (v := ?_) rfl (by kernel_rfl) (by kernel_rfl) (by kernel_rfl) (fun _ _ _ h => h) ?_ (by assumption) ?_
        rotate_left 1
        · first
            | (refine Or.inl ⟨by rfl, ?_⟩; intro w9 hSw; (try dsimp only at hSw); go_simp; (try with_reducible rfl); done)
            | (refine Or.inr ⟨by rfl, ?_⟩; rfl)
        simp only [List.getElem_toArray, List.getElem_cons_succ, List.getElem_cons_zero, Act.put, List.setIfInBounds_toArray, List.set_cons_zero, List.set_cons_succ]
        refine wpAnyH_take (i := 4) (oi := _) (v := ?_) rfl (by kernel_rfl) (by kernel_rfl) (by kernel_rfl) (fun _ _ _ h => h) ?_ (by assumption) ?_
        rotate_left 1
        · first
            | (refine Or.inl ⟨by rfl, ?_⟩; intro w9 hSw; (try dsimp only at hSw); go_simp; (try with_reducible rfl); done)
            | (refine Or.inr ⟨by rfl, ?_⟩; rfl)
        simp only [List.getElem_toArray, List.getElem_cons_succ, List.getElem_cons_zero, Act.put, List.setIfInBounds_toArray, List.set_cons_zero, List.set_cons_succ]
        refine wpAnyH_take (i := 5) (oi := _) (v := ?_) rfl (by kernel_rfl) (by kernel_rfl) (by kernel_rfl) (fun _ _ _ h => h) ?_ (by assumption) ?_
        rotate_left 1
        · first
            | (refine Or.inl ⟨by rfl, ?_⟩; intro w9 hSw; (try dsimp only at hSw); go_simp; (try with_reducible rfl); done)
            | (refine Or.inr ⟨by rfl, ?_⟩; rfl)
        simp only [List.getElem_toArray, List.getElem_cons_succ, List.getElem_cons_zero, Act.put, List.setIfInBounds_toArray, List.set_cons_zero, List.set_cons_succ]
        refine wpAnyH_take (i := 6) (oi := _) (v := ?_) rfl (by kernel_rfl) (by kernel_rfl) (by kernel_rfl) (fun _ _ _ h => h) ?_ (by assumption) ?_
        rotate_left 1
        · first
            | (refine Or.inl ⟨by rfl, ?_⟩; intro w9 hSw; (try dsimp only at hSw); go_simp; (try with_reducible rfl); done)
            | (refine Or.inr ⟨by rfl, ?_⟩; rfl)
        simp only [List.getElem_toArray, List.getElem_cons_succ, List.getElem_cons_zero, Act.put, List.setIfInBounds_toArray, List.set_cons_zero, List.set_cons_succ]
        refine wpAnyH_take (i := 7) (oi := _) (v := ?_) rfl (by kernel_rfl) (by kernel_rfl) (by kernel_rfl) (fun _ _ _ h => h) ?_ (by assumption) ?_
        rotate_left 1
        · first
            | (refine Or.inl ⟨by rfl, ?_⟩; intro w9 hSw; (try dsimp only at hSw); go_simp; (try with_reducible rfl); done)
            | (refine Or.inr ⟨by rfl, ?_⟩; rfl)
        simp only [List.getElem_toArray, List.getElem_cons_succ, List.getElem_cons_zero, Act.put, List.setIfInBounds_toArray, List.set_cons_zero, List.set_cons_succ]
        refine wpAnyH_take (i := 8) (oi := _) (v := ?_) rfl (by kernel_rfl) (by kernel_rfl) (by kernel_rfl) (fun _ _ _ h => h) ?_ (by assumption) ?_
        rotate_left 1
        · first
            | (refine Or.inl ⟨by rfl, ?_⟩; intro w9 hSw; (try dsimp only at hSw); go_simp; (try with_reducible rfl); done)
            | (refine Or.inr ⟨by rfl, ?_⟩; rfl)
        simp only [List.getElem_toArray, List.getElem_cons_succ, List.getElem_cons_zero, Act.put, List.setIfInBounds_toArray, List.set_cons_zero, List.set_cons_succ]
        refine wpAnyH_ready (rs := [9]) (by kernel_rfl) (by simp) ?_
        refine AllReadyH.cons (o := _) rfl (fun K hK => ?_) AllReadyH.nil
        go_simp
        go_at_call 87
        have hb9 : Bel wr wr.drew := Bel.drew _
        refine (HWJ.out _ (HBW.out.trans hb9)).mono ?_
        rintro e2 w3 ⟨ma, mn, mc, rfl, hmn, hmr, hb2⟩
        dsimp only
        have hb3 := hb9.trans hb2
        refine hK.out _ _ (by obtain ⟨h0, h1, h2, h3, h4, h5, h6, h7, h8⟩ := hHeld; exact ⟨hb2.keep h0, hb2.keep h1, hb2.keep h2, hb2.keep h3, hb2.keep h4, hb2.keep h5, hb2.keep h6, hb2.keep h7, hb3⟩) (fun hHeld => ?_)
        clear hK K
        refine wpAnyH_ready (rs := [10]) (by kernel_rfl) (by simp) ?_
        refine AllReadyH.cons (o := _) rfl (fun K hK => ?_) AllReadyH.nil
        go_simp
        go_at_call 52
        refine (HX.out _ _ (HBW.out.trans hb3) hmr).mono ?_
        rintro e4 w4 ⟨fa, fn, fc, rfl, hfn, hfr, hb4⟩
        dsimp only
        have hb5 := hb3.trans hb4
        refine hK.out _ _ (by obtain ⟨h0, h1, h2, h3, h4, h5, h6, h7, h8⟩ := hHeld; exact ⟨hb4.keep h0, hb4.keep h1, hb4.keep h2, hb4.keep h3, hb4.keep h4, hb4.keep h5, hb4.keep h6, hb4.keep h7, hb5⟩) (fun hHeld => ?_)
        clear hK K
        refine wpAnyH_ready (rs := [11]) (by kernel_rfl) (by simp) ?_
        refine AllReadyH.cons (o := _) rfl (fun K hK => ?_) AllReadyH.nil
        go_simp
        go_at_call 15
        refine (HWI.out _ _ _ (HROW.out.bel hb5) hfr).mono ?_
        rintro e6 w6 ⟨hb6, v6, rfl, hr6⟩
        obtain ⟨va, vc, rfl, _⟩ := row0_form hr6 _ (strsV_length _)
        dsimp only
        have hb7 := hb5.trans hb6
        refine hK.out _ _ (by obtain ⟨h0, h1, h2, h3, h4, h5, h6, h7, h8⟩ := hHeld; exact ⟨hb6.keep h0, hb6.keep h1, hb6.keep h2, hb6.keep h3, hb6.keep h4, hb6.keep h5, hb6.keep h6, hb6.keep h7, hb7⟩) (fun hHeld => ?_)
        clear hK K
        refine wpAnyH_take (i := 12) (oi := _) (v := ?_) rfl (by kernel_rfl) (by kernel_rfl) (by kernel_rfl) (fun _ _ _ h => h) ?_ (by assumption) ?_
        rotate_left 1
        · first
            | (refine Or.inl ⟨by rfl, ?_⟩; intro w9 hSw; (try dsimp only at hSw); go_simp; (try with_reducible rfl); done)
            | (refine Or.inr ⟨by rfl, ?_⟩; rfl)
        simp only [List.getElem_toArray, List.getElem_cons_succ, List.getElem_cons_zero, Act.put, List.setIfInBounds_toArray, List.set_cons_zero, List.set_cons_succ]
        refine wpAnyH_take (i := 13) (oi := _) (v := ?_) rfl (by kernel_rfl) (by kernel_rfl) (by kernel_rfl) (fun _ _ _ h => h) ?_ (by assumption) ?_
        rotate_left 1
        · first
            | (refine Or.inl ⟨by rfl, ?_⟩; intro w9 hSw; (try dsimp only at hSw); go_simp; (try with_reducible rfl); done)
            | (refine Or.inr ⟨by rfl, ?_⟩; rfl)
        simp only [List.getElem_toArray, List.getElem_cons_succ, List.getElem_cons_zero, Act.put, List.setIfInBounds_toArray, List.set_cons_zero, List.set_cons_succ]
        refine wpAnyH_take (i := 14) (oi := _) (v := ?_) rfl (by kernel_rfl) (by kernel_rfl) (by kernel_rfl) (fun _ _ _ h => h) ?_ (by assumption) ?_
        rotate_left 1
        · first
            | (refine Or.inl ⟨by rfl, ?_⟩; intro w9 hSw; (try dsimp only at hSw); go_simp; (try with_reducible rfl); done)
            | (refine Or.inr ⟨by rfl, ?_⟩; rfl)
        simp only [List.getElem_toArray, List.getElem_cons_succ, List.getElem_cons_zero, Act.put, List.setIfInBounds_toArray, List.set_cons_zero, List.set_cons_succ]
        refine wpAnyH_take (i := 15) (oi := _) (v := ?_) rfl (by kernel_rfl) (by kernel_rfl) (by kernel_rfl) (fun _ _ _ h => h) ?_ (by assumption) ?_
        rotate_left 1
        · first
            | (refine Or.inl ⟨by rfl, ?_⟩; intro w9 hSw; (try dsimp only at hSw); go_simp; (try with_reducible rfl); done)
            | (refine Or.inr ⟨by rfl, ?_⟩; rfl)
        simp only [List.getElem_toArray, List.getElem_cons_succ, List.getElem_cons_zero, Act.put, List.setIfInBounds_toArray, List.set_cons_zero, List.set_cons_succ]
        refine wpAnyH_done (by kernel_rfl) ?_ _
        have HB7 := Lib.hid hb7
        have HR6 := Lib.hid hr6
        clear hHeld hb2 hb3 hb4 hb5 hb6 hb7 hb9 hmr hmn hfr hfn hr6
        go_wp2_with fail
        exact ⟨⟨j + 1, by omega, by go_num, HB.out.trans HB7.out, A ++ G, ⟨_, _, _, rfl, rfl⟩, HR6.out, by rw [List.append_assoc]; exact HCK.out, by have := HLEN.out; rw [List.length_append]; omega⟩, by simp [intOf]; omega⟩
      · obtain rfl : j = m := by omega
        rw [freesE_end _ _ _ _ _ _ (by have := HM.out; omega), List.append_nil] at hck
        subst hck
        go_wp2_with fail
        go_ret
        exact ⟨_, _, _, rfl, hpn, hrow, HB2.out.trans hbel⟩
end Go.Proofs.YtchbhcjhoocjaaaGreatDoor
