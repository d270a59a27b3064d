/-
  logic: the walk of the document's Free.
-/
import Derived.Test.YtchbhcjhoocjaaaGreatDoorRLK
import Derived.Test.YtchbhcjhoocjaaaGreatDoorRXC
namespace Go.Proofs.YtchbhcjhoocjaaaGreatDoor
open Go.RowKit

theorem freeParts_len2 (B : List ByteArray) : ∀ l : List Ex, (∀ x ∈ l, OkE x) → 2 * (freeParts l B).length ≤ Ex.bulk.bulks l
  | [], _ => by unfold freeParts; simp
  | x :: r, h => by
    have h1 := free_len2 x (h x (by simp)) []
    have h2 := freeParts_len2 B r fun y hy => h y (by simp [hy])
    have h3 := uniqS_len (freeE x [])
    have h4 := List.length_filter_le (fun s => !decide (s ∈ B)) (uniqS (freeE x []))
    unfold freeParts at h2 ⊢
    rw [List.flatMap_cons, List.length_append]
    unfold Ex.bulk.bulks
    omega
mutual
theorem freeL_len2 : ∀ (l : Lg), OkL l → ∀ (B : List ByteArray), 2 * (freeL l B).length ≤ l.bulk
  | .mk k e p ins outs rs ns l, hok, B => by
    have h0 := (OkL_eq _).1 hok
    have h1 := freeParts_len2 B _ h0.1
    have h2 := freesL_len2 k ns 0 l B h0.2.2
    have h3 := bulks_partsL (.mk k e p ins outs rs ns l)
    have h4 := lbulk_eq (.mk k e p ins outs rs ns l)
    rw [freeL_eq, List.length_append]
    simp only [Lg.k, Lg.ns, Lg.l, Lg.e, Lg.ins, Lg.rs, Lg.p, Lg.outs] at *
    omega
theorem freesL_len2 (k : Int) (ns : List ByteArray) : ∀ (i : Nat) (l : List Lg) (B : List ByteArray), (∀ x ∈ l, OkL x) → 2 * (freesL k ns i l B).length ≤ lbulks l
  | _, [], _, _ => by unfold freesL; simp
  | i, x :: r, B, h => by
    have h1 := freeL_len2 x (h x (by simp)) (B ++ bindL k ns i)
    have h2 := freesL_len2 k ns (i + 1) r B fun y hy => h y (by simp [hy])
    unfold freesL lbulks
    rw [List.length_append]
    omega
end
/-- What the parts need. -/
def pF (B : List ByteArray) (L : List Ex) : List ByteArray := L.flatMap fun x => freeE x B
theorem pF_len (B : List ByteArray) : ∀ l : List Ex, (∀ x ∈ l, OkE x) → 2 * (pF B l).length ≤ Ex.bulk.bulks l
  | [], _ => by unfold pF; simp
  | x :: r, h => by
    have h1 := free_len2 x (h x (by simp)) B
    have h2 := pF_len B r fun y hy => h y (by simp [hy])
    unfold pF at h2 ⊢
    rw [List.flatMap_cons, List.length_append]
    unfold Ex.bulk.bulks
    omega
theorem pF_take {B : List ByteArray} {L : List Ex} {j : Nat} {x : Ex} (h : L[j]? = some x) : pF B (L.take (j + 1)) = pF B (L.take j) ++ freeE x B := by
  obtain ⟨hl, rfl⟩ := List.getElem?_eq_some_iff.1 h
  unfold pF
  rw [List.take_succ_eq_append_getElem hl, List.flatMap_append]
  simp
/-- What the logics below need. -/
def kF (k : Int) (ns B : List ByteArray) : Nat → List Lg → List ByteArray
  | _, [] => []
  | i, y :: r => freeL y (rinL k ns B i) ++ kF k ns B (i + 1) r
theorem kF_app (k : Int) (ns B : List ByteArray) : ∀ (i : Nat) (a b : List Lg), kF k ns B i (a ++ b) = kF k ns B i a ++ kF k ns B (i + a.length) b
  | i, [], b => by simp [kF]
  | i, y :: r, b => by
    have h := kF_app k ns B (i + 1) r b
    show freeL y (rinL k ns B i) ++ kF k ns B (i + 1) (r ++ b) = (freeL y (rinL k ns B i) ++ kF k ns B (i + 1) r) ++ kF k ns B (i + (r.length + 1)) b
    rw [h, List.append_assoc, show i + 1 + r.length = i + (r.length + 1) from by omega]
theorem kF_take {k : Int} {ns B : List ByteArray} {L : List Lg} {j : Nat} {y : Lg} (h : L[j]? = some y) : kF k ns B 0 (L.take (j + 1)) = kF k ns B 0 (L.take j) ++ freeL y (rinL k ns B j) := by
  obtain ⟨hl, rfl⟩ := List.getElem?_eq_some_iff.1 h
  rw [List.take_succ_eq_append_getElem hl, kF_app, Nat.zero_add, List.length_take, Nat.min_eq_left (Nat.le_of_lt hl)]
  congr 1
  simp [kF]
theorem kF_len (k : Int) (ns B : List ByteArray) : ∀ (i : Nat) (l : List Lg), (∀ x ∈ l, OkL x) → 2 * (kF k ns B i l).length ≤ lbulks l
  | _, [], _ => by simp [kF]
  | i, y :: r, h => by
    have h1 := freeL_len2 y (h y (by simp)) (rinL k ns B i)
    have h2 := kF_len k ns B (i + 1) r fun z hz => h z (by simp [hz])
    unfold kF lbulks
    rw [List.length_append]
    omega
theorem mem_kF (k : Int) (ns B : List ByteArray) (x : ByteArray) : ∀ (i : Nat) (l : List Lg), x ∈ kF k ns B i l ↔ ∃ j y, l[j]? = some y ∧ x ∈ freeL y (rinL k ns B (i + j))
  | i, [] => by simp [kF]
  | i, y :: r => by
    unfold kF
    rw [List.mem_append, mem_kF k ns B x (i + 1) r]
    constructor
    · rintro (h | ⟨j, z, hz, h⟩)
      · exact ⟨0, y, rfl, h⟩
      · exact ⟨j + 1, z, hz, by rwa [show i + (j + 1) = i + 1 + j from by omega]⟩
    · rintro ⟨j, z, hz, h⟩
      match j, hz, h with
      | 0, hz, h => cases hz; exact .inl h
      | j + 1, hz, h => exact .inr ⟨j, z, hz, by rwa [show i + (j + 1) = i + 1 + j from by omega] at h⟩
theorem rfree_uniq {l : Lg} {B : List ByteArray} : uniqS (pF B (partsL l) ++ kF l.k l.ns B 0 l.l) = uniqS (freeL l B) := by
  refine srt_ext (srt_uniqS _) (srt_uniqS _) fun x => ?_
  rw [mem_uniqS, mem_uniqS, List.mem_append, mem_kF, mem_freeL]
  have hr : ∀ j, ∀ z, z ∈ rinL l.k l.ns B j ↔ z ∈ B ++ bindL l.k l.ns j := fun j z => by
    unfold rinL bindL
    split
    · rw [mem_addS, List.mem_append]
    · simp
  refine or_congr ?_ ?_
  · unfold pF
    rw [List.mem_flatMap]
    constructor
    · rintro ⟨e, he, hx⟩
      obtain ⟨h1, h2⟩ := (free_nil x e B).1 hx
      exact ⟨⟨e, he, h1⟩, h2⟩
    · rintro ⟨⟨e, he, h1⟩, h2⟩
      exact ⟨e, he, (free_nil x e B).2 ⟨h1, h2⟩⟩
  · constructor
    · rintro ⟨j, y, hy, hx⟩
      rw [Nat.zero_add] at hx
      exact ⟨j, y, hy, (freeL_congr y (hr j) x).1 hx⟩
    · rintro ⟨j, y, hy, hx⟩
      exact ⟨j, y, hy, by rw [Nat.zero_add]; exact (freeL_congr y (hr j) x).2 hx⟩
theorem mem_namesB2 {x : ByteArray} : ∀ {l : List ByteArray}, x ∈ l → x.size + 1 ≤ namesB l
  | y :: r, h => by
    rw [namesB_cons]
    rcases List.mem_cons.1 h with rfl | h
    · omega
    · have := mem_namesB2 h
      omega
theorem freeL_size2 {e : Lg} {B : List ByteArray} {x : ByteArray} (h : x ∈ freeL e B) : x.size ≤ e.bulk := by
  have h1 := mem_namesB2 (freeL_tx e x ((freeL_bound x e B).1 h).1)
  have h2 := namesB_txL e
  omega
theorem pF_right {l : Lg} (hok : OkL l) {B : List ByteArray} {L : List Ex} (hL : ∀ x ∈ L, x ∈ partsL l) : ∀ z ∈ pF B L, rightS z = true := fun z hz => by
  obtain ⟨e, he, hz⟩ := List.mem_flatMap.1 hz
  exact free_right e (((OkL_eq l).1 hok).1 e (hL e he)) z ((free_nil z e B).1 hz).1
theorem bulks_take_le (l : List Ex) (j : Nat) : Ex.bulk.bulks (l.take j) ≤ Ex.bulk.bulks l := by
  conv => rhs; rw [← List.take_append_drop j l, bulks_app]
  omega

set_option maxRecDepth 100000 in
set_option maxHeartbeats 16000000 in
theorem rfree_l : ∀ (n : Nat) (l : Lg), l.bulk ≤ n → n ≤ 5000 → ∀ (q : LgQ) (v : Value) (B : List ByteArray) (w : World), OkL l → Srt B → FitL l B → LgAt w l q → RowAt0 w v (strsV B) →
    Calls Tryz.prog 23 #[lgV l q, v] w (RetRow0 (uniqS (freeL l B)) w) := by
  intro n
  induction n with
  | zero => intro l hl; exfalso; have := lbulk_pos l; omega
  | succ n ih =>
    intro l hl hn q v B w hok hs hf hat hv
    have hat' := hat
    have hNl := hf.len hs.nodup
    obtain ⟨va, vc, rfl, hvb⟩ := row0_form hv B.length (strsV_length B)
    obtain ⟨nea, nen, nec, lea, len, lec, ia, im, ic, oa, om, oc, ra, rm, rc, na, nm, nc, la, lm, lc, rfl, ⟨him, hom, hrm, hnm, hlm⟩, ⟨hci, hco, hcr, hcn, hcl⟩, ⟨hbi, hbo, hbr, hbn, hbl⟩, hex, hpi, hpo, hpr, hpn, hpl⟩ := LgAt.opened hat
    unfold lgV
    dsimp only
    have HPT : Hid (∀ W, Bel w W → Calls Tryz.prog 49 #[.agg #[.int .i64 l.k, .int .i64 l.e.k, .string l.e.s, .slice nea nen nec, .slice lea len lec, .string l.p, .slice ia im ic, .slice oa om oc, .slice ra rm rc, .slice na nm nc, .slice la lm lc]] W (RetExs (partsL l) W)) := Lib.hid fun W hW => rpartsL_c l ⟨.slice nea nen nec, .slice lea len lec, .slice ia im ic, .slice oa om oc, .slice ra rm rc, .slice na nm nc, .slice la lm lc⟩ W (LgAt.bel hW l hat') (by omega)
    have HEX := Lib.hid (fun (x : Ex) vn vl W (hx : x ∈ partsL l) (hW : Bel w W) (h1 : ExAt W x vn vl) => rfree_b x.bulk x (Nat.le_refl _) (by have := part_bulk hx; omega) vn vl (.slice va B.length vc) B W (((OkL_eq l).1 hok).1 x hx) (by have := part_bulk hx; omega) (by have := part_bulk hx; omega) h1 (hv.bel hW))
    have HWI : Hid (∀ (j : Nat) (y : Lg), l.l[j]? = some y → ∀ W, Bel w W → Calls Tryz.prog 51 #[.agg #[.int .i64 l.k, .int .i64 l.e.k, .string l.e.s, .slice nea nen nec, .slice lea len lec, .string l.p, .slice ia im ic, .slice oa om oc, .slice ra rm rc, .slice na nm nc, .slice la lm lc], .int .i64 j, .slice va B.length vc] W (fun e w' => ∃ v', e = .returned v' ∧ RowAt0 w' v' (strsV (rinL l.k l.ns B j)) ∧ Bel W w')) := Lib.hid fun j y hy W hW =>
      rwithinL_c l ⟨.slice nea nen nec, .slice lea len lec, .slice ia im ic, .slice oa om oc, .slice ra rm rc, .slice na nm nc, .slice la lm lc⟩ j _ B _ W (LgAt.bel hW l hat') (by omega) (okL_in hok hy) (hv.bel hW) hs (by omega) ⟨(rinL_fit hok hs hf hy).2.2.2, fun h => rinL_not h⟩
    have HKID := Lib.hid (fun (j : Nat) (y : Lg) (hy : l.l[j]? = some y) => rinL_fit hok hs hf hy)
    have HOK := Lib.hid hok
    have HIH : Hid (∀ (x : Lg), x.bulk < l.bulk → ∀ xq u M W, OkL x → Srt M → FitL x M → LgAt W x xq → RowAt0 W u (strsV M) → Calls Tryz.prog 23 #[lgV x xq, u] W (RetRow0 (uniqS (freeL x M)) W)) := Lib.hid fun x hx xq u M W h1 h2 h3 h4 h5 => ih x (by omega) (by omega) xq u M W h1 h2 h3 h4 h5
    have HWT := Lib.hid (fun (A G : List ByteArray) u1 u2 W (hr : ∀ z ∈ G, rightS z = true) (hz : ∀ z ∈ G, z.size ≤ 5000) (hlen : A.length + G.length ≤ 4096) (h1 : RowAt0 W u1 (strsV (uniqS A))) (h2 : RowAt0 W u2 (strsV (uniqS G))) => (by
      have ha := uniqS_len A
      have hg := uniqS_len G
      have h := rwith_c u1 (uniqS A) u2 (uniqS G) W (srt_uniqS A) h1 (by omega) h2 (by omega) (fun z hz' => by have := hz z (by rwa [mem_uniqS] at hz'); omega)
      rw [with_fine hr hlen] at h
      exact h : Calls Tryz.prog 15 #[u1, u2] W (RetWithR (some (uniqS (A ++ G)), 0) W)))
    have HLEN := Lib.hid (fun (i j : Nat) => (by
      have h1 := pF_len B ((partsL l).take i) (fun x hx => ((OkL_eq l).1 hok).1 x (List.mem_of_mem_take hx))
      have h2 := kF_len l.k l.ns B 0 (l.l.take j) (fun x hx => ((OkL_eq l).1 hok).2.2 x (List.mem_of_mem_take hx))
      have h3 := bulks_take_le (partsL l) i
      have h4 := lbulks_le l.l j
      have h5 := bulks_partsL l
      have h6 := lbulk_eq l
      omega : (pF B ((partsL l).take i)).length + (kF l.k l.ns B 0 (l.l.take j)).length ≤ 4096))
    have HSZ := Lib.hid (fun (x : Ex) (hx : x ∈ partsL l) => (by have := part_bulk hx; omega : x.bulk ≤ 5000))
    have HSL := Lib.hid (fun (j : Nat) (x : Lg) (hx : l.l[j]? = some x) => (by have := lbulk_part hx; omega : x.bulk ≤ 5000))
    have HPL := Lib.hid hpl
    have HLM := Lib.hid hlm
    have hl2 : lm ≤ 1073741824 := by omega
    have hpl2 : (partsL l).length ≤ 1073741824 := by have := parts_len l; omega
    obtain ⟨V1, h1, k1, l1, s1⟩ := alloc_step w 30 [.int .i64 l.k, .int .i64 l.e.k, .string l.e.s, .slice nea nen nec, .slice lea len lec, .string l.p, .slice ia im ic, .slice oa om oc, .slice ra rm rc, .slice na nm nc, .slice la lm lc]
    have HV1 := Lib.hid h1
    have T0 := Lib.hid k1
    have HB0 := Lib.hid l1
    have c0 := Blk.at k1 0
    have c1 := Blk.at k1 1
    have c2 := Blk.at k1 2
    have c3 := Blk.at k1 3
    have c4 := Blk.at k1 4
    have c5 := Blk.at k1 5
    have c6 := Blk.at k1 6
    have c7 := Blk.at k1 7
    have c8 := Blk.at k1 8
    have c9 := Blk.at k1 9
    have c10 := Blk.at k1 10
    clear ih him hom hrm hnm hlm hex hpi hpo hpr hpn hpl hat hat' h1 k1 l1 s1 hok hs hf hv hvb
    go_enter Tryz.func23, Tryz.ntmps23
    go_upto_region 1 with fail
    rw [show w.alloc (.cells #[.int .i64 l.k, .int .i64 l.e.k, .string l.e.s, .slice nea nen nec, .slice lea len lec, .string l.p, .slice ia im ic, .slice oa om oc, .slice ra rm rc, .slice na nm nc, .slice la lm lc] 30) = V1 from HV1.out]
    clear HV1
    go_wp2_with fail
    refine (HPT.out _ HB0.out).mono ?_
    rintro e1 w1 ⟨pa, pn, pc, rfl, hpn, hpc, hpp, hb1⟩
    have HPP := Lib.hid hpp
    have HPN := Lib.hid hpn
    have HB1 := Lib.hid (HB0.out.trans hb1)
    have T1 := Lib.hid (T0.out.bel hb1)
    have hpn2 : pn ≤ 1073741824 := by omega
    clear hpp hb1 T0 c0 c1 c2 c3 c4 c5 c6 c7 c8 c9 c10 hpn hpl2 HPT
    go_wp2_with fail
    go_loopw [5, 7] (fun o i wr => ∃ j : Nat, j ≤ pn ∧ i = .int .i64 j ∧ Bel w1 wr ∧ RowAt0 wr o (strsV (uniqS (pF B ((partsL l).take j))))) (fun _ i _ => pn - (intOf i).toNat)
    case atStart => exact ⟨0, Nat.zero_le _, rfl, Bel.refl _, .inl ⟨rfl, by rw [List.take_zero]; show strsV (uniqS []) = []; rw [uniq_nil]; rfl⟩⟩
    case round =>
      obtain ⟨j, hj, rfl, hbel, hrow⟩ := hrel
      have HBL := Lib.hid hbel
      have HROW := Lib.hid hrow
      by_cases hlt : j < pn
      · have hlti : (j : Int) < pn := by omega
        obtain ⟨x, hx⟩ : ∃ x, (partsL l)[j]? = some x := ⟨_, List.getElem?_eq_getElem (by have := HPN.out; omega)⟩
        obtain ⟨b, off, xna, xnn, xnc, xla, xln, xlc, rfl, g0, g1, g2, g3, hxa⟩ := HPP.out j x hx
        have hbw := HB1.out.trans hbel
        have f0 := hbel.keep g0
        have f1 := hbel.keep g1
        have f2 := hbel.keep g2
        have f3 := hbel.keep g3
        have hmem := List.mem_of_getElem? hx
        have HC := Lib.hid (HEX.out x _ _ wr hmem hbw (ExAt.bel hbel x hxa))
        have HTK := Lib.hid (pF_take (B := B) hx)
        have HW2 := Lib.hid (fun u1 u2 W h1 h2 => HWT.out (pF B ((partsL l).take j)) (freeE x B) u1 u2 W (fun z hz => free_right x (((OkL_eq l).1 HOK.out).1 x hmem) z ((free_nil z x B).1 hz).1) (fun z hz => by have := free_size hz; have := HSZ.out x hmem; omega) (by have h := HLEN.out (j + 1) 0; rw [HTK.out, List.length_append] at h; omega) h1 h2)
        clear g0 g1 g2 g3 hxa hx hbel hbw hrow hmem
        go_wp2_with fail
        refine HC.out.mono ?_
        rintro e2 w2 ⟨fa, fn, fc, rfl, hfn, hfr, hb2⟩
        have HB2 := Lib.hid (HBL.out.trans hb2)
        have HC3 := Lib.hid (HW2.out _ _ w2 (HROW.out.bel hb2) hfr)
        clear hb2 HC f0 f1 f2 f3 hfr hfn HW2 HROW
        go_wp2_with fail
        refine HC3.out.mono ?_
        rintro e3 w3 ⟨hb3, v3, rfl, hr3⟩
        have HR3 := Lib.hid hr3
        have HB3 := Lib.hid (HB2.out.trans hb3)
        clear hb3 hr3 HC3
        go_wp2_with fail
        exact ⟨⟨j + 1, by omega, by go_num, HB3.out, by rw [HTK.out]; exact HR3.out⟩, by simp [intOf]; omega⟩
      · have hjn : j = pn := by omega
        have hfull : (partsL l).take j = partsL l := List.take_of_length_le (by have := HPN.out; omega)
        have HFU := Lib.hid hfull
        rw [hfull] at hrow
        have HRO := Lib.hid hrow
        have hpt : ¬ (j : Int) < pn := by omega
        obtain ⟨wo, rfl⟩ : ∃ W, W = wr := ⟨_, rfl⟩
        have HBO := Lib.hid (HB1.out.trans hbel)
        have T2 := Lib.hid (T1.out.bel hbel)
        have HLE := Lib.hid (fun i => by have h := HLEN.out j i; rwa [hfull] at h)
        clear hbel hlt hjn HPP HPN HEX hj hrow hfull HROW HLEN
        go_wp2_with fail
        go_loopw [5, 8] (fun o i wr => ∃ j : Nat, j ≤ lm ∧ i = .int .i64 j ∧ Bel wo wr ∧ RowAt0 wr o (strsV (uniqS (pF B (partsL l) ++ kF l.k l.ns B 0 (l.l.take j))))) (fun _ i _ => lm - (intOf i).toNat)
        case atStart => exact ⟨0, Nat.zero_le _, rfl, Bel.refl _, by rw [List.take_zero]; show RowAt0 _ _ (strsV (uniqS (pF B (partsL l) ++ []))); rw [List.append_nil]; exact HRO.out⟩
        case round =>
          obtain ⟨j, hj, rfl, hbel, hrow⟩ := hrel
          have t3 := T2.out.bel hbel
          have HROW := Lib.hid hrow
          by_cases hlt : j < lm
          · have hlti : (j : Int) < lm := by omega
            obtain ⟨x, hx⟩ : ∃ x, l.l[j]? = some x := ⟨_, List.getElem?_eq_getElem (by have := HLM.out; omega)⟩
            obtain ⟨b, off, xq, rfl, hxc, hxa⟩ := HPL.out j x hx
            obtain ⟨hm1, hm2, hm3, _⟩ := HKID.out j x hx
            have hbw := HBO.out.trans hbel
            have HWJ := Lib.hid (fun W (hW : Bel w W) => HWI.out j x hx W hW)
            have HTK := Lib.hid (kF_take (k := l.k) (ns := l.ns) (B := B) hx)
            obtain ⟨M, hM⟩ : ∃ M, rinL l.k l.ns B j = M := ⟨_, rfl⟩
            rw [hM] at hm1 hm2 HWJ HTK
            have hokx := HOK.out.part hx
            have HX := Lib.hid (fun u W (hW : Bel w W) (hu : RowAt0 W u (strsV M)) => HIH.out x (lbulk_part hx) xq u M W hokx hm1 hm2 (LgAt.bel hW x hxa) hu)
            have HW2 := Lib.hid (fun u1 u2 W h1 h2 => HWT.out (pF B (partsL l) ++ kF l.k l.ns B 0 (l.l.take j)) (freeL x M) u1 u2 W (fun z hz => freeL_right x hokx z ((freeL_bound z x M).1 hz).1) (fun z hz => by have := freeL_size2 hz; have := HSL.out j x hx; omega) (by have h := HLE.out (j + 1); rw [HTK.out, List.length_append] at h; rw [List.length_append]; omega) h1 h2)
            have g1 := hxc.bel hbw
            obtain ⟨xnea, xnen, xnec, xlea, xlen, xlec, xia, xim, xic, xoa, xom, xoc, xra, xrm, xrc, xna, xnm, xnc, xla, xlm, xlc, rfl, ⟨xhim, xhom, xhrm, xhnm, xhlm⟩, ⟨xhci, xhco, xhcr, xhcn, xhcl⟩, ⟨xhbi, xhbo, xhbr, xhbn, xhbl⟩, xhex, xhpi, xhpo, xhpr, xhpn, xhpl⟩ := LgAt.opened hxa
            unfold lgV at HX
            dsimp only at HX
            unfold lgC at g1
            have f0 := CellsAt.get0 g1
            have f1 := CellsAt.get g1 1 rfl
            have f2 := CellsAt.get g1 2 rfl
            have f3 := CellsAt.get g1 3 rfl
            have f4 := CellsAt.get g1 4 rfl
            have f5 := CellsAt.get g1 5 rfl
            have f6 := CellsAt.get g1 6 rfl
            have f7 := CellsAt.get g1 7 rfl
            have f8 := CellsAt.get g1 8 rfl
            have f9 := CellsAt.get g1 9 rfl
            have f10 := CellsAt.get g1 10 rfl
            have HBL := Lib.hid hbel
            have HBW := Lib.hid hbw
            have c0 := Blk.at t3 0
            have c1 := Blk.at t3 1
            have c2 := Blk.at t3 2
            have c3 := Blk.at t3 3
            have c4 := Blk.at t3 4
            have c5 := Blk.at t3 5
            have c6 := Blk.at t3 6
            have c7 := Blk.at t3 7
            have c8 := Blk.at t3 8
            have c9 := Blk.at t3 9
            have c10 := Blk.at t3 10
            clear hxc hxa hx hbel hbw hm1 hm2 hm3 hM g1 t3 hrow hokx xhim xhom xhrm xhnm xhlm xhex xhpi xhpo xhpr xhpn xhpl xhbi xhbo xhbr xhbn xhbl xhci xhco xhcr xhcn xhcl
            go_wp2_with fail
            refine wp_region_held_drew (S := fun w' => Bel wr w') (by kernel_rfl) (by (repeat (first | exact Bel.refl _ | assumption | refine Bel.to_drewN ?_ _ | refine Bel.to_drew ?_ | refine Bel.to_setCell ?_ (by first | exact Nat.le_refl _ | (simp; done) | (simp; omega) | omega) _ | refine Bel.to_alloc ?_ _ | refine Bel.trans ?_ (by assumption)))) (fun hHeld => ?_)
            refine tk 0 (v := ?_) ?_ ?_
            rotate_left 1
            · first
                | (refine Or.inl ⟨by rfl, ?_⟩; intro w9 hSw; have e9_0 := Bel.keep hSw c10; go_simp; (try with_reducible rfl); done)
                | (refine Or.inr ⟨by rfl, ?_⟩; rfl)
            simp only [List.getElem_toArray, List.getElem_cons_zero, Act.put, List.setIfInBounds_toArray, List.set_cons_zero, List.set_cons_succ]
            refine tk 1 (v := ?_) ?_ ?_
            rotate_left 1
            · first
                | (refine Or.inl ⟨by rfl, ?_⟩; intro w9 hSw; have e9_0 := Bel.keep hSw c10; go_simp; (try with_reducible rfl); done)
                | (refine Or.inr ⟨by rfl, ?_⟩; rfl)
            simp only [List.getElem_toArray, List.getElem_cons_succ, List.getElem_cons_zero, Act.put, List.setIfInBounds_toArray, List.set_cons_zero, List.set_cons_succ]
            refine tk 2 (v := ?_) ?_ ?_
            rotate_left 1
            · first
                | (refine Or.inl ⟨by rfl, ?_⟩; intro w9 hSw; have e9_0 := Bel.keep hSw c10; go_simp; (try with_reducible rfl); done)
                | (refine Or.inr ⟨by rfl, ?_⟩; rfl)
            simp only [List.getElem_toArray, List.getElem_cons_succ, List.getElem_cons_zero, Act.put, List.setIfInBounds_toArray, List.set_cons_zero, List.set_cons_succ]
            refine tk 3 (v := ?_) ?_ ?_
            rotate_left 1
            · first
                | (refine Or.inl ⟨by rfl, ?_⟩; intro w9 hSw; go_simp; (try with_reducible rfl); done)
                | (refine Or.inr ⟨by rfl, ?_⟩; rfl)
            simp only [List.getElem_toArray, List.getElem_cons_succ, List.getElem_cons_zero, Act.put, List.setIfInBounds_toArray, List.set_cons_zero, List.set_cons_succ]
            refine tk 4 (v := ?_) ?_ ?_
            rotate_left 1
            · first
                | (refine Or.inl ⟨by rfl, ?_⟩; intro w9 hSw; go_simp; (try with_reducible rfl); done)
                | (refine Or.inr ⟨by rfl, ?_⟩; rfl)
            simp only [List.getElem_toArray, List.getElem_cons_succ, List.getElem_cons_zero, Act.put, List.setIfInBounds_toArray, List.set_cons_zero, List.set_cons_succ]
            refine tk 5 (v := ?_) ?_ ?_
            rotate_left 1
            · first
                | (refine Or.inl ⟨by rfl, ?_⟩; intro w9 hSw; have e9_0 := Bel.keep hSw f0; have e9_1 := Bel.keep hSw f1; have e9_2 := Bel.keep hSw f2; have e9_3 := Bel.keep hSw f3; have e9_4 := Bel.keep hSw f4; have e9_5 := Bel.keep hSw f5; have e9_6 := Bel.keep hSw f6; have e9_7 := Bel.keep hSw f7; have e9_8 := Bel.keep hSw f8; have e9_9 := Bel.keep hSw f9; have e9_10 := Bel.keep hSw f10; go_simp; (try with_reducible rfl); done)
                | (refine Or.inr ⟨by rfl, ?_⟩; rfl)
            simp only [List.getElem_toArray, List.getElem_cons_succ, List.getElem_cons_zero, Act.put, List.setIfInBounds_toArray, List.set_cons_zero, List.set_cons_succ]
            refine tk 6 (v := ?_) ?_ ?_
            rotate_left 1
            · first
                | (refine Or.inl ⟨by rfl, ?_⟩; intro w9 hSw; have e9_0 := Bel.keep hSw c0; have e9_1 := Bel.keep hSw c1; have e9_2 := Bel.keep hSw c2; have e9_3 := Bel.keep hSw c3; have e9_4 := Bel.keep hSw c4; have e9_5 := Bel.keep hSw c5; have e9_6 := Bel.keep hSw c6; have e9_7 := Bel.keep hSw c7; have e9_8 := Bel.keep hSw c8; have e9_9 := Bel.keep hSw c9; have e9_10 := Bel.keep hSw c10; go_simp; (try with_reducible rfl); done)
                | (refine Or.inr ⟨by rfl, ?_⟩; rfl)
            simp only [List.getElem_toArray, List.getElem_cons_succ, List.getElem_cons_zero, Act.put, List.setIfInBounds_toArray, List.set_cons_zero, List.set_cons_succ]
            refine tk 7 (v := ?_) ?_ ?_
            rotate_left 1
            · first
                | (refine Or.inl ⟨by rfl, ?_⟩; intro w9 hSw; go_simp; (try with_reducible rfl); done)
                | (refine Or.inr ⟨by rfl, ?_⟩; rfl)
            simp only [List.getElem_toArray, List.getElem_cons_succ, List.getElem_cons_zero, Act.put, List.setIfInBounds_toArray, List.set_cons_zero, List.set_cons_succ]
            refine tk 8 (v := ?_) ?_ ?_
            rotate_left 1
            · first
                | (refine Or.inl ⟨by rfl, ?_⟩; intro w9 hSw; go_simp; (try with_reducible rfl); done)
                | (refine Or.inr ⟨by rfl, ?_⟩; rfl)
            simp only [List.getElem_toArray, List.getElem_cons_succ, List.getElem_cons_zero, Act.put, List.setIfInBounds_toArray, List.set_cons_zero, List.set_cons_succ]
            refine wpAnyH_ready (rs := [9]) (by kernel_rfl) (by simp) ?_
            refine AllReadyH.cons (o := _) rfl (fun K hK => ?_) AllReadyH.nil
            go_simp
            go_at_call 51
            refine (HWJ.out _ (HBW.out.trans hHeld)).mono ?_
            rintro e4 w4 ⟨v4, rfl, hr4, hb4⟩
            dsimp only
            have hh4 := hHeld.trans hb4
            refine hK.out _ _ hh4 (fun hHeld => ?_)
            clear hK K
            refine wpAnyH_ready (rs := [10]) (by kernel_rfl) (by simp) ?_
            refine AllReadyH.cons (o := _) rfl (fun K hK => ?_) AllReadyH.nil
            go_simp
            go_at_call 23
            refine (HX.out _ _ (HBW.out.trans hh4) hr4).mono ?_
            rintro e5 w5 ⟨fa, fn, fc, rfl, hfn, hfr, hb5⟩
            dsimp only
            have hh5 := hh4.trans hb5
            refine hK.out _ _ hh5 (fun hHeld => ?_)
            clear hK K
            refine wpAnyH_ready (rs := [11]) (by kernel_rfl) (by simp) ?_
            refine AllReadyH.cons (o := _) rfl (fun K hK => ?_) AllReadyH.nil
            go_simp
            go_at_call 15
            refine (HW2.out _ _ _ (HROW.out.bel hh5) hfr).mono ?_
            rintro e6 w6 ⟨hb6, v6, rfl, hr6⟩
            dsimp only
            have hh6 := hh5.trans hb6
            refine hK.out _ _ hh6 (fun hHeld => ?_)
            clear hK K
            refine tk 12 (v := ?_) ?_ ?_
            rotate_left 1
            · first
                | (refine Or.inl ⟨by rfl, ?_⟩; intro w9 hSw; go_simp; (try with_reducible rfl); done)
                | (refine Or.inr ⟨by rfl, ?_⟩; rfl)
            simp only [List.getElem_toArray, List.getElem_cons_succ, List.getElem_cons_zero, Act.put, List.setIfInBounds_toArray, List.set_cons_zero, List.set_cons_succ]
            refine tk 13 (v := ?_) ?_ ?_
            rotate_left 1
            · first
                | (refine Or.inl ⟨by rfl, ?_⟩; intro w9 hSw; go_simp; (try with_reducible rfl); done)
                | (refine Or.inr ⟨by rfl, ?_⟩; rfl)
            simp only [List.getElem_toArray, List.getElem_cons_succ, List.getElem_cons_zero, Act.put, List.setIfInBounds_toArray, List.set_cons_zero, List.set_cons_succ]
            refine tk 14 (v := ?_) ?_ ?_
            rotate_left 1
            · first
                | (refine Or.inl ⟨by rfl, ?_⟩; intro w9 hSw; go_simp; (try with_reducible rfl); done)
                | (refine Or.inr ⟨by rfl, ?_⟩; rfl)
            simp only [List.getElem_toArray, List.getElem_cons_succ, List.getElem_cons_zero, Act.put, List.setIfInBounds_toArray, List.set_cons_zero, List.set_cons_succ]
            refine tk 15 (v := ?_) ?_ ?_
            rotate_left 1
            · first
                | (refine Or.inl ⟨by rfl, ?_⟩; intro w9 hSw; go_simp; (try with_reducible rfl); done)
                | (refine Or.inr ⟨by rfl, ?_⟩; rfl)
            simp only [List.getElem_toArray, List.getElem_cons_succ, List.getElem_cons_zero, Act.put, List.setIfInBounds_toArray, List.set_cons_zero, List.set_cons_succ]
            refine wpAnyH_done (by kernel_rfl) ?_ _
            have HR6 := Lib.hid hr6
            have HH6 := Lib.hid (HBL.out.trans hh6)
            clear hHeld hb4 hb5 hb6 hh4 hh5 hh6 hr4 hr6 hfr hfn c0 c1 c2 c3 c4 c5 c6 c7 c8 c9 c10 f0 f1 f2 f3 f4 f5 f6 f7 f8 f9 f10
            go_wp2_with fail
            exact ⟨⟨j + 1, by omega, by go_num, HH6.out, by rw [HTK.out, ← List.append_assoc]; exact HR6.out⟩, by simp [intOf]; omega⟩
          · have hjn : j = lm := by omega
            have hfull : l.l.take j = l.l := List.take_of_length_le (by have := HLM.out; omega)
            rw [hfull, rfree_uniq] at hrow
            obtain ⟨ra', rc', hv, _⟩ := row0_form hrow (uniqS (freeL l B)).length (strsV_length _)
            rw [hv] at hrow
            have HV := Lib.hid hv
            have HRW := Lib.hid hrow
            have c10 := t3.at 10
            have hpt2 : ¬ (j : Int) < lm := by omega
            have HBF := Lib.hid (HBO.out.trans hbel)
            clear hlt hjn t3 hbel hrow hv hfull HROW
            go_wp2_with fail
            go_ret
            exact ⟨ra', _, rc', by rw [HV.out]; rfl, rfl, HRW.out, HBF.out⟩
end Go.Proofs.YtchbhcjhoocjaaaGreatDoor
