/-
  logic: the walks of the names that one needs: free, Free.
-/
import Derived.Test.YtchbhcjhoocjaaaGreatDoorLGH
import Derived.Test.YtchbhcjhoocjaaaGreatDoorLGP
namespace Go.Proofs.YtchbhcjhoocjaaaGreatDoor
open Go.RowKit Go.Maps

/-- What is found so far: a map that lies beyond u. -/
structure FreeW (u W : World) (bf : Nat) (F : List ByteArray) (n : Nat) : Prop where
  bel : Bel u W
  lf : u.heap.size ≤ bf
  found : ∃ D, W.ownsMap Tryz.prog 9 (plainElem Tryz.prog 4) bf n D ∧ HasD D F
theorem FreeW.to {u W W' : World} {bf : Nat} {F : List ByteArray} {n : Nat} (h : FreeW u W bf F n) (hb : Bel W W') : FreeW u W' bf F n := by
  obtain ⟨h1, h2, D, h3, h4⟩ := h
  exact ⟨h1.trans hb, h2, D, own_mapBel h3 hb, h4⟩
theorem FreeW.keep {u W W' : World} {bf : Nat} {F : List ByteArray} {n : Nat} (h : FreeW u W bf F n) (hb : But bf bf W W') {c o : Nat} {v : Value} (hc : W.cell? ⟨c, o, none⟩ = some v) : W'.cell? ⟨c, o, none⟩ = some v := by
  obtain ⟨D, h1, _⟩ := h.found
  exact hb.keep hc (own_cell_ne h1 hc) (own_cell_ne h1 hc)
theorem FreeW.names {u W W' : World} {bf : Nat} {F : List ByteArray} {n : Nat} (h : FreeW u W bf F n) (hb : But bf bf W W') {a : Option Addr} {l : List ByteArray} (hn : NamesAt W a l) : NamesAt W' a l := fun j x hx => by
  obtain ⟨b, off, h1, h2⟩ := hn j x hx
  exact ⟨b, off, h1, h.keep hb h2⟩
theorem FreeW.row {u W W' : World} {bf : Nat} {F : List ByteArray} {n : Nat} (h : FreeW u W bf F n) (hb : But bf bf W W') {v : Value} {l : List ByteArray} (hr : RowAt0 W v (strsV l)) : RowAt0 W' v (strsV l) := by
  rcases hr with h1 | ⟨b, off, cap, h1, h2, h3, h4⟩
  · exact .inl h1
  · exact .inr ⟨b, off, cap, h1, h2, Nat.lt_of_lt_of_le h3 hb.size, fun j hj => h.keep hb (h4 j hj)⟩
theorem FreeW.lt {u W : World} {bf : Nat} {F : List ByteArray} {n : Nat} (h : FreeW u W bf F n) : bf < W.heap.size := by
  obtain ⟨D, h1, _⟩ := h.found
  exact h1.lt
theorem FreeW.mark {u W : World} {bf : Nat} {F : List ByteArray} {n : Nat} (h : FreeW u W bf F n) (hn : n < 4611686018427387904) {s : ByteArray} (hs : s.size ≤ maxLen) :
    ∃ W', (Instr.mapUpdate 63 (.map (some bf)) (.string s) (.bool true)).run Tryz.prog W = .ok () W' ∧ FreeW u W' bf (F ++ [s]) (n + 1) ∧ But bf bf W W' := by
  obtain ⟨D, h1, h2⟩ := h.found
  obtain ⟨W', hrun, hown, hg⟩ := h1.update lawS Tryz.underlying63 (by unfold maxLen; omega) (keyS_of hs) (plainElem_bool Tryz.underlying4 true)
  have hbut : But bf bf W W' := But.of_p hg
  exact ⟨W', hrun, ⟨hbut.bel h.bel h.lf h.lf, h.lf, D.put (keyS s) _, hown, h2.put s _⟩, hbut⟩
def RetFree1 (u : World) (bf : Nat) (F : List ByteArray) (n : Nat) (v : Value) (w : World) (e : Ending) (w' : World) : Prop := e = .returned v ∧ FreeW u w' bf F n ∧ But bf bf w w'
theorem filter_takeL {p : ByteArray → Bool} {G : List ByteArray} {j : Nat} {s : ByteArray} (h : G[j]? = some s) : (G.take (j + 1)).filter p = (G.take j).filter p ++ if p s = true then [s] else [] := by
  rw [List.take_add_one, h, List.filter_append]
  congr 1
  simp [List.filter_cons]
theorem freeParts_app (A R : List Ex) (B : List ByteArray) : freeParts (A ++ R) B = freeParts A B ++ freeParts R B := by unfold freeParts; rw [List.flatMap_append]
theorem freeParts_one (x : Ex) (B : List ByteArray) : freeParts [x] B = (uniqS (freeE x [])).filter fun s => !decide (s ∈ B) := by unfold freeParts; simp
theorem freeParts_len (B : List ByteArray) : ∀ l : List Ex, (freeParts l B).length ≤ Ex.bulk.bulks l
  | [] => Nat.le_refl _
  | x :: r => by
    have h1 := freeParts_len B r
    have h2 := uniq_free_len x
    have h3 := cE_bulk x
    rw [show x :: r = [x] ++ r from rfl, freeParts_app, List.length_append, freeParts_one, bulks_app]
    have h4 := List.length_filter_le (fun s => !decide (s ∈ B)) (uniqS (freeE x []))
    have h5 : Ex.bulk.bulks [x] = x.bulk := by simp [Ex.bulk.bulks]
    omega
mutual
theorem freeL_len : ∀ (l : Lg) (B : List ByteArray), (freeL l B).length ≤ l.bulk
  | .mk k e p ins outs rs ns l, B => by
    have h1 := freeParts_len B (partsL (.mk k e p ins outs rs ns l))
    have h2 := bulks_partsL (.mk k e p ins outs rs ns l)
    have h3 := freesL_len k ns 0 l B
    simp only [Lg.e, Lg.ins, Lg.rs] at h2
    unfold freeL Lg.bulk
    rw [List.length_append]
    unfold freeParts at h1
    omega
theorem freesL_len (k : Int) (ns : List ByteArray) : ∀ (i : Nat) (l : List Lg) (B : List ByteArray), (freesL k ns i l B).length ≤ lbulks l
  | _, [], _ => by unfold freesL; simp
  | i, x :: r, B => by
    have h1 := freeL_len x (B ++ bindL k ns i)
    have h2 := freesL_len k ns (i + 1) r B
    unfold freesL lbulks
    rw [List.length_append]
    omega
end

set_option maxRecDepth 100000 in
set_option maxHeartbeats 8000000 in
theorem free1_c (x : Ex) (xn xl : Value) (u w : World) (bb fb bf : Nat) (ba : Option Addr) (bn bc : Nat) (B F : List ByteArray) (n : Nat) (hx : ExAt u x xn xl) (hxb : x.bulk ≤ 1048576) (hF : FreeW u w bf F n) (hn : n ≤ 4611686018420000000)
    (hb : w.cell? ⟨bb, 0, none⟩ = some (.slice ba bn bc)) (hbn : B.length = bn) (hbn2 : bn ≤ 1073741824) (hB : NamesAt w ba B) (hf : w.cell? ⟨fb, 0, none⟩ = some (.map (some bf))) :
    Calls Tryz.prog 72 #[.agg #[.int .i64 x.k, .string x.s, xn, xl], .pointer (some ⟨bb, 0, none⟩), .pointer (some ⟨fb, 0, none⟩)] w (RetFree1 u bf (F ++ freeParts [x] B) (n + (freeParts [x] B).length) (.bool true) w) := by
  rw [freeParts_one]
  obtain ⟨na, la, nn, nc, m, lc, rfl, rfl, _, _, _, _, _, _, _, _⟩ := hx.opened
  have hfl := uniq_free_len x
  have hcb := cE_bulk x
  have HFR := Lib.hid (fun W (hW : Bel u W) => free_c x _ _ W hxb (ExAt.bel hW x hx))
  have hsz : ∀ s ∈ uniqS (freeE x []), s.size ≤ maxLen := fun s hs => by
    have := free_size ((mem_uniqS _ _).1 hs)
    unfold maxLen
    omega
  obtain ⟨G, hG⟩ : ∃ G, uniqS (freeE x []) = G := ⟨_, rfl⟩
  rw [hG] at HFR hfl hsz ⊢
  obtain ⟨p, hp⟩ : ∃ p : ByteArray → Bool, (fun s => !decide (s ∈ B)) = p := ⟨_, rfl⟩
  rw [hp]
  have HN := Lib.hid hn
  have HP := Lib.hid hp
  have HSZ := Lib.hid hsz
  have t0 := Bel.alloc w (.cells #[.int .i64 x.k, .string x.s, .slice na nn nc, .slice la m lc] 26)
  have HF := Lib.hid hF
  have HBC := Lib.hid hb
  have HFC := Lib.hid hf
  have HBN := Lib.hid hbn
  have HBB := Lib.hid hB
  clear hG hp hsz hF hb hf hbn hB hx
  go_enter Tryz.func72, Tryz.ntmps72
  go_wp2_with fail
  refine (HFR.out _ (HF.out.bel.trans t0)).mono ?_
  rintro e1 w1 ⟨ga, gn, gc, rfl, hgn, hgr, hb1⟩
  have hbw := t0.trans hb1
  have hF1 := HF.out.to hbw
  have HGN := Lib.hid hgn
  have HGA := Lib.hid (names_of_row0 hgr).2.2
  have HF1 := Lib.hid hF1
  have HB1 := Lib.hid (hbw.but bf bf)
  have HNB := Lib.hid (HBB.out.bel hbw)
  have b0 := hbw.keep HBC.out
  have f0 := hbw.keep HFC.out
  have HB0 := Lib.hid b0
  have HF0 := Lib.hid f0
  have hgn2 : gn ≤ 1073741824 := by have := HGN.out; omega
  clear hgn hgr hb1 hbw hF1 t0 b0 f0
  go_wp2_with fail
  go_loopw [10] (fun i wr => ∃ j : Nat, j ≤ gn ∧ i = .int .i64 j ∧ FreeW u wr bf (F ++ (G.take j).filter p) (n + ((G.take j).filter p).length) ∧ But bf bf w1 wr) (fun i _ => gn - (intOf i).toNat)
  case atStart => exact ⟨0, Nat.zero_le _, rfl, by simpa using HF1.out, But.refl _ _ _⟩
  case round =>
    obtain ⟨j, hj, rfl, hFj, hbt⟩ := hrel
    by_cases hlt : j < gn
    · have hlti : (j : Int) < gn := by omega
      obtain ⟨s, hs⟩ : ∃ s, G[j]? = some s := ⟨_, List.getElem?_eq_getElem (by have := HGN.out; omega)⟩
      obtain ⟨b, off, rfl, g0⟩ := HF1.out.names hbt HGA.out j s hs
      have b0 := HF1.out.keep hbt HB0.out
      have f0 := HF1.out.keep hbt HF0.out
      have HSC := Lib.hid (scontains_c ba bn bc B s wr HBN.out (by omega) (HF1.out.names hbt HNB.out))
      have hfs := filter_takeL (p := p) hs
      have hlen : ((G.take j).filter p).length ≤ 1048576 := by
        have h1 := List.length_filter_le p (G.take j)
        rw [List.length_take] at h1
        omega
      obtain ⟨mb, hmb⟩ : ∃ mb, decide (s ∈ B) = mb := ⟨_, rfl⟩
      have hps : p s = !mb := by rw [← HP.out, ← hmb]
      rw [hmb] at HSC
      rw [hps] at hfs
      have hss := HSZ.out s (List.mem_of_getElem? hs)
      have hnq : n + ((G.take j).filter p).length < 4611686018427387904 := by have := HN.out; have := hlen; omega
      have HNQ := Lib.hid hnq
      obtain ⟨Q, hQ⟩ : ∃ Q, (G.take j).filter p = Q := ⟨_, rfl⟩
      rw [hQ] at hFj hfs hlen HNQ
      have HFS := Lib.hid hfs
      have HFJ := Lib.hid hFj
      have HBT := Lib.hid hbt
      clear hFj hbt hs hfs hQ hps hmb hnq
      go_wp2_with fail
      refine HSC.out.mono ?_
      rintro e2 w2 ⟨rfl, hb2⟩
      have hF2 := HFJ.out.to hb2
      have f2 := hb2.keep f0
      cases mb with
      | true =>
        have HB2 := Lib.hid (HBT.out.trans (hb2.but _ _))
        have HF2 := Lib.hid hF2
        clear hF2 hb2 b0 f0 f2 g0
        go_wp2_with fail
        exact ⟨⟨j + 1, by omega, by go_num, by rw [HFS.out]; simpa using HF2.out, HB2.out⟩, by simp [intOf]; omega⟩
      | false =>
        obtain ⟨w3, hrun, hF3, hb3⟩ := hF2.mark HNQ.out hss
        have HB2 := Lib.hid ((HBT.out.trans (hb2.but _ _)).trans hb3)
        have HF3 := Lib.hid hF3
        clear hF2 hF3 hb2 hb3 b0 f0 g0
        go_wp2_with fail
        exact ⟨⟨j + 1, by omega, by go_num, by rw [HFS.out]; simpa [Nat.add_assoc] using HF3.out, HB2.out⟩, by simp [intOf]; omega⟩
    · obtain rfl : j = gn := by omega
      rw [List.take_of_length_le (by have := HGN.out; omega)] at hFj
      have HFJ := Lib.hid hFj
      have HBT := Lib.hid hbt
      clear hFj hbt
      go_wp2_with fail
      go_ret
      exact ⟨rfl, HFJ.out, HB1.out.trans HBT.out⟩

/-- What each carries: what has been gone through, and what lies there. -/
def FreeC (u : World) (bf : Nat) (P : List Ex) (B F : List ByteArray) (m bb fb : Nat) (sb : Value) (ba : Option Addr) (R : List Ex) (W : World) : Prop :=
  (∃ A, P = A ++ R ∧ FreeW u W bf (F ++ freeParts A B) (m + (freeParts A B).length)) ∧ W.cell? ⟨bb, 0, none⟩ = some sb ∧ W.cell? ⟨fb, 0, none⟩ = some (.map (some bf)) ∧ NamesAt W ba B
theorem FreeC.to {u : World} {bf : Nat} {P : List Ex} {B F : List ByteArray} {m bb fb : Nat} {sb : Value} {ba : Option Addr} {R : List Ex} {W W' : World} (h : FreeC u bf P B F m bb fb sb ba R W) (hb : Bel W W') : FreeC u bf P B F m bb fb sb ba R W' := by
  obtain ⟨⟨A, h1, h2⟩, h3, h4, h5⟩ := h
  exact ⟨⟨A, h1, h2.to hb⟩, hb.keep h3, hb.keep h4, h5.bel hb⟩
theorem free_step (u : World) (bf : Nat) (P : List Ex) (B F : List ByteArray) (m bb fb : Nat) (ba : Option Addr) (bn bc : Nat) (hP : Ex.bulk.bulks P ≤ 1048576) (hm : m + (freeParts P B).length ≤ 4611686018420000000) (hbn : B.length = bn) (hbn2 : bn ≤ 1073741824)
    (x : Ex) (R : List Ex) (xn xl : Value) (W : World) (h : FreeC u bf P B F m bb fb (.slice ba bn bc) ba (x :: R) W) (hx : ExAt u x xn xl) :
    Calls Tryz.prog 72 (#[.agg #[.int .i64 x.k, .string x.s, xn, xl]] ++ #[.pointer (some ⟨bb, 0, none⟩), .pointer (some ⟨fb, 0, none⟩)]) W (RetEach (FreeC u bf P B F m bb fb (.slice ba bn bc) ba) (fun _ => False) R bf W) := by
  obtain ⟨⟨A, h1, h2⟩, h3, h4, h5⟩ := h
  have hxb : x.bulk ≤ 1048576 := by
    have : x ∈ P := by rw [h1]; simp
    have := bulks_mem this
    omega
  have hA : (freeParts A B).length ≤ (freeParts P B).length := by
    rw [h1, freeParts_app, List.length_append]
    omega
  refine (free1_c x xn xl u W bb fb bf ba bn bc B _ _ hx hxb h2 (by omega) h3 hbn hbn2 h5 h4).mono ?_
  rintro e W' ⟨rfl, hF, hbut⟩
  refine ⟨.inl ⟨rfl, ⟨A ++ [x], by rw [h1]; simp, ?_⟩, h2.keep hbut h3, h2.keep hbut h4, h2.names hbut h5⟩, hbut⟩
  rw [freeParts_app, List.length_append, ← List.append_assoc, ← Nat.add_assoc]
  exact hF
theorem row_take {W : World} {na : Option Addr} {ns : List ByteArray} {nm nc i : Nat} (h : NamesAt W na ns) (hn : ns.length = nm) (hi : i < nm) (hc : nm ≤ nc) : RowAt0 W (.slice na i nc) (strsV (ns.take i)) := by
  obtain ⟨b, off, rfl, h0⟩ := h 0 _ (List.getElem?_eq_getElem (by omega : 0 < ns.length))
  have hl : (strsV (ns.take i)).length = i := by rw [strsV_length, List.length_take]; omega
  refine .inr ⟨b, off, nc, by rw [hl], by rw [hl]; omega, cell_lt h0, fun j hj => ?_⟩
  rw [hl] at hj
  obtain ⟨b', off', e, h1⟩ := h j _ (List.getElem?_eq_getElem (by omega : j < ns.length))
  cases e
  rw [h1]
  simp [strsV]

def RetFreeL (u : World) (bf : Nat) (F : List ByteArray) (n : Nat) (w : World) (e : Ending) (w' : World) : Prop := e = .returned (.tuple #[]) ∧ FreeW u w' bf F n ∧ But bf bf w w'
/-- What holds between two parts. -/
def FreeMid (u : World) (bf : Nat) (F FS : List ByteArray) (m : Nat) (rest : List ByteArray) (W : World) : Prop := ∃ G, G ++ rest = FS ∧ FreeW u W bf (F ++ G) (m + G.length)
set_option maxRecDepth 100000 in
set_option maxHeartbeats 16000000 in
theorem free_l (u : World) (bf : Nat) : ∀ (n : Nat) (l : Lg), l.bulk ≤ n → n ≤ 1048576 → ∀ (q : LgQ) (ba : Option Addr) (bn bc : Nat) (B F : List ByteArray) (m : Nat) (w : World), OkL l → LgAt u l q → FreeW u w bf F m → B.length = bn → bn + l.bulk ≤ 1073741824 → RowAt0 w (.slice ba bn bc) (strsV B) → m + (freeL l B).length ≤ 4611686018420000000 →
    Calls Tryz.prog 29 #[lgV l q, .slice ba bn bc, .map (some bf)] w (RetFreeL u bf (F ++ freeL l B) (m + (freeL l B).length) w) := by
  intro n
  induction n with
  | zero => intro l hl; exfalso; have := lbulk_pos l; omega
  | succ n ih =>
    intro l hl hn q ba bn bc B F m w hok hat hF hBl hbb hrow hm
    have hat' := hat
    obtain ⟨nea, nen, nec, lea, len, lec, ia, im, ic, oa, om, oc, ra, rm, rc, na, nm, nc, la, lm, lc, rfl, ⟨him, hom, hrm, hnm, hlm⟩, ⟨hci, hco, hcr, hcn, hcl⟩, ⟨hbi, hbo, hbr, hbn, hbl⟩, hex, hpi, hpo, hpr, hpn, hpl⟩ := LgAt.opened hat
    unfold lgV
    dsimp only
    have hbe := lbulk_eq l
    have hpb : Ex.bulk.bulks (partsL l) ≤ l.bulk := by have := bulks_partsL l; omega
    have hlt := hF.lt
    have hfpm : m + (freeParts (partsL l) B).length ≤ 4611686018420000000 := by rw [freeL_eq, List.length_append] at hm; omega
    have hk2 : l.k = 2 → nm = lm := fun h => by have := (((OkL_eq l).1 hok).2.1 h).1; omega
    obtain ⟨V1, h1, k1, l1, s1⟩ := alloc_step w 30 [.int .i64 l.k, .int .i64 l.e.k, .string l.e.s, .slice nea nen nec, .slice lea len lec, .string l.p, .slice ia im ic, .slice oa om oc, .slice ra rm rc, .slice na nm nc, .slice la lm lc]
    obtain ⟨V2, h2, k2, l2, s2⟩ := alloc_step V1 23 [.slice ba bn bc]
    obtain ⟨V3, h3, k3, l3, s3⟩ := alloc_step V2 63 [.map (some bf)]
    rw [s1] at k2
    rw [s2, s1] at k3
    have b3 := l1.trans (l2.trans l3)
    have hNA := (names_of_row0 hrow).2.2
    have T1 := Lib.hid ((k1.bel l2).bel l3)
    have T2 := Lib.hid (k2.bel l3)
    have T3 := Lib.hid k3
    have hbn1 : bn ≤ 1073741824 := by omega
    have HE := Lib.hid (each_c l ⟨.slice nea nen nec, .slice lea len lec, .slice ia im ic, .slice oa om oc, .slice ra rm rc, .slice na nm nc, .slice la lm lc⟩ 72 #[.pointer (some ⟨w.heap.size + 1, 0, none⟩), .pointer (some ⟨w.heap.size + 1 + 1, 0, none⟩)] bf (FreeC u bf (partsL l) B F m (w.heap.size + 1) (w.heap.size + 1 + 1) (.slice ba bn bc) ba) (fun _ => False) u V3
      (enters_of Tryz.func72 (by kernel_rfl) rfl) hat' (by omega) (fun R W h => by obtain ⟨⟨A, _, h⟩, _⟩ := h; exact h.bel) (fun R W W' h hb => h.to hb)
      ⟨⟨[], rfl, by simpa [freeParts] using hF.to b3⟩, T2.out.at 0, k3.at 0, hNA.bel b3⟩ (by omega)
      (fun x R xn xl W hC hx _ => free_step u bf (partsL l) B F m _ _ ba bn bc (by omega) hfpm hBl hbn1 x R xn xl W hC hx))
    unfold lgV at HE
    dsimp only at HE
    have HIH : Hid (∀ (x : Lg), x.bulk < l.bulk → OkL x → ∀ xq xa xn xc B' F' m' W, LgAt u x xq → FreeW u W bf F' m' → B'.length = xn → xn + x.bulk ≤ 1073741824 → RowAt0 W (.slice xa xn xc) (strsV B') → m' + (freeL x B').length ≤ 4611686018420000000 →
        Calls Tryz.prog 29 #[lgV x xq, .slice xa xn xc, .map (some bf)] W (RetFreeL u bf (F' ++ freeL x B') (m' + (freeL x B').length) W)) := Lib.hid fun x hx ho xq xa xn xc B' F' m' W g1 g2 g3 g4 g5 g6 => ih x (by omega) (by omega) xq xa xn xc B' F' m' W ho g1 g2 g3 g4 g5 g6
    obtain ⟨FT, hFT⟩ : ∃ FT, freeL l B = FT := ⟨_, rfl⟩
    have hfe := freeL_eq l B
    rw [hFT] at hfe hm ⊢
    obtain ⟨FS, hFS⟩ : ∃ FS, freesL l.k l.ns 0 l.l B = FS := ⟨_, rfl⟩
    obtain ⟨FP, hFP⟩ : ∃ FP, freeParts (partsL l) B = FP := ⟨_, rfl⟩
    rw [hFS, hFP] at hfe
    have hfpl : FP.length ≤ Ex.bulk.bulks (partsL l) := by rw [← hFP]; exact freeParts_len B _
    have hfsl : FS.length ≤ lbulks l.l := by rw [← hFS]; exact freesL_len l.k l.ns 0 l.l B
    have hbpl := bulks_partsL l
    have HFP := Lib.hid hFP
    have HFS := Lib.hid hFS
    have HFE := Lib.hid hfe
    have HPL := Lib.hid hpl
    have HPN := Lib.hid hpn
    have HLM := Lib.hid hlm
    have HNM := Lib.hid hnm
    have HK2 := Lib.hid hk2
    have HOK := Lib.hid hok
    have HROW := Lib.hid (hrow.bel b3)
    have HFV := Lib.hid (hF.to b3)
    have HBN := Lib.hid hBl
    have HB3 := Lib.hid b3
    have HBE := Lib.hid hbe
    have HM : Hid (m + FP.length + FS.length ≤ 4611686018420000000) := Lib.hid (by rw [hfe, List.length_append] at hm; omega)
    have HV1 := Lib.hid h1
    have HV2 := Lib.hid h2
    have HV3 := Lib.hid h3
    have c0 := T1.out.at 0
    have c1 := T1.out.at 1
    have c2 := T1.out.at 2
    have c3 := T1.out.at 3
    have c4 := T1.out.at 4
    have c5 := T1.out.at 5
    have c6 := T1.out.at 6
    have c7 := T1.out.at 7
    have c8 := T1.out.at 8
    have c9 := T1.out.at 9
    have c10 := T1.out.at 10
    have hlm2 : lm ≤ 1073741824 := by omega
    have hnm2 : nm ≤ 1073741824 := by omega
    have HLB : Hid (l.bulk ≤ 1048576) := Lib.hid (by omega)
    have HBB := Lib.hid hbb
    obtain ⟨k, hk⟩ : ∃ k, l.k = k := ⟨_, rfl⟩
    rw [hk] at HE HFS HK2 c0 HV1 ⊢
    have HK := Lib.hid hk
    clear ih him hom hrm hnm hlm hex hpi hpo hpr hpn hpl hat hat' hok hF hBl hrow hm hk2 h1 h2 h3 k1 k2 k3 l1 l2 l3 s1 s2 s3 b3 hNA hFT hfe hFS hFP hfpl hfsl hbpl hbe hpb hk hbb hfpm
    go_enter Tryz.func29, Tryz.ntmps29
    go_upto_region 1 with fail
    rw [show w.alloc (.cells #[.int .i64 k, .int .i64 l.e.k, .string l.e.s, .slice nea nen nec, .slice lea len lec, .string l.p, .slice ia im ic, .slice oa om oc, .slice ra rm rc, .slice na nm nc, .slice la lm lc] 30) = V1 from HV1.out,
      show V1.alloc (.cells #[.slice ba bn bc] 23) = V2 from HV2.out, show V2.alloc (.cells #[.map (some bf)] 63) = V3 from HV3.out]
    clear HV1 HV2 HV3
    go_wp2_with fail
    refine HE.out.mono ?_
    rintro e1 w1 ⟨⟨rfl, ⟨A, hA, hF1⟩, hb1, hf1, hn1⟩ | ⟨_, hno⟩, hbut⟩
    rotate_left 1
    · exact hno.elim
    rw [List.append_nil] at hA
    subst hA
    rw [HFP.out] at hF1
    have hbut3 := (HB3.out.but bf bf).trans hbut
    have keep := fun (b o : Nat) (v : Value) (hc : V3.cell? ⟨b, o, none⟩ = some v) (hne : b ≠ bf) => hbut.keep hc hne hne
    have d0 := keep _ _ _ c0 (by omega)
    have d9 := keep _ _ _ c9 (by omega)
    have d10 := keep _ _ _ c10 (by omega)
    have HF1 := Lib.hid hF1
    have HB1 := Lib.hid hbut3
    have HN1 := Lib.hid hn1
    have HR1 := Lib.hid (HROW.out)
    have HD0 := Lib.hid d0
    have HD9 := Lib.hid d9
    have HBB1 := Lib.hid hb1
    have HFF1 := Lib.hid hf1
    have HRW := Lib.hid (HFV.out.row hbut HROW.out)
    clear keep hbut hbut3 hF1 hn1 c0 c1 c2 c3 c4 c5 c6 c7 c8 c9 c10 d0 d9 hb1 hf1 HE T1 T2 T3 HROW HR1 HFV
    go_wp2_with fail
    go_loopw [15] (fun i wr => ∃ j : Nat, j ≤ lm ∧ i = .int .i64 j ∧ But bf bf w1 wr ∧ FreeMid u bf (F ++ FP) FS (m + FP.length) (freesL k l.ns j (l.l.drop j) B) wr) (fun i _ => lm - (intOf i).toNat)
    case atStart => exact ⟨0, Nat.zero_le _, rfl, But.refl _ _ _, [], by rw [List.drop_zero, HFS.out]; rfl, by simpa using HF1.out⟩
    case round =>
      obtain ⟨j, hj, rfl, hbt, hmid⟩ := hrel
      by_cases hlt2 : j < lm
      · have hlti : (j : Int) < lm := by omega
        obtain ⟨x, hx⟩ : ∃ x, l.l[j]? = some x := ⟨_, List.getElem?_eq_getElem (by have := HLM.out; omega)⟩
        obtain ⟨b, off, xq, rfl, hxc, hxa⟩ := HPL.out j x hx
        obtain ⟨G, hG, hFj⟩ := hmid
        rw [freesL_drop k l.ns l.l B j x hx] at hG
        have hb2 := HF1.out.keep hbt HBB1.out
        have hf2 := HF1.out.keep hbt HFF1.out
        have d0 := HF1.out.keep hbt HD0.out
        have d9 := HF1.out.keep hbt HD9.out
        have hrw := HF1.out.row hbt HRW.out
        have hlw0 : w.heap.size < wr.heap.size := cell_lt d0
        have hlw1 : w.heap.size + 1 < wr.heap.size := cell_lt hb2
        have hlw2 : w.heap.size + 1 + 1 < wr.heap.size := cell_lt hf2
        have g1 := hxc.bel hFj.bel
        have hxb := lbulk_part hx
        have hlen : G.length + (freeL x (B ++ bindL k l.ns j)).length + (freesL k l.ns (j + 1) (l.l.drop (j + 1)) B).length = FS.length := by rw [← hG]; simp [List.length_append]; omega
        have hbd := freeL_len x (B ++ bindL k l.ns j)
        have hxk := lbulks_mem (List.mem_of_getElem? hx)
        have HX : Hid (∀ xa xn xc B' W, FreeW u W bf (F ++ FP ++ G) (m + FP.length + G.length) → B'.length = xn → xn ≤ bn + nm → RowAt0 W (.slice xa xn xc) (strsV B') → (freeL x B').length = (freeL x (B ++ bindL k l.ns j)).length → Calls Tryz.prog 29 #[lgV x xq, .slice xa xn xc, .map (some bf)] W (RetFreeL u bf (F ++ FP ++ G ++ freeL x B') (m + FP.length + G.length + (freeL x B').length) W)) := Lib.hid fun xa xn xc B' W e1 e2 e3 e4 e5 =>
          HIH.out x hxb (HOK.out.part hx) xq xa xn xc B' _ _ W hxa e1 e2 (by have := HBB.out; have := HLB.out; have := HBE.out; have := len_sumS l.ns; have := HNM.out; omega) e4 (by have := HM.out; omega)
        have hKJ : k = 2 → j < nm := fun h => by have := HK2.out h; omega
        obtain ⟨xnea, xnen, xnec, xlea, xlen, xlec, xia, xim, xic, xoa, xom, xoc, xra, xrm, xrc, xna, xnm, xnc, xla, xlm, xlc, rfl, ⟨xhim, xhom, xhrm, xhnm, xhlm⟩, ⟨xhci, xhco, xhcr, xhcn, xhcl⟩, ⟨xhbi, xhbo, xhbr, xhbn, xhbl⟩, xhex, xhpi, xhpo, xhpr, xhpn, xhpl⟩ := LgAt.opened hxa
        unfold lgV at HX
        dsimp only at HX
        have f0 := CellsAt.get0 g1
        have f1 := CellsAt.get g1 1 rfl
        have f2 := CellsAt.get g1 2 rfl
        have f3 := CellsAt.get g1 3 rfl
        have f4 := CellsAt.get g1 4 rfl
        have f5 := CellsAt.get g1 5 rfl
        have f6 := CellsAt.get g1 6 rfl
        have f7 := CellsAt.get g1 7 rfl
        have f8 := CellsAt.get g1 8 rfl
        have f9 := CellsAt.get g1 9 rfl
        have f10 := CellsAt.get g1 10 rfl
        have HFJ := Lib.hid hFj
        have HG := Lib.hid hG
        have HBT := Lib.hid hbt
        have HKJ := Lib.hid hKJ
        have HRJ := Lib.hid hrw
        clear hxc g1 hxa hx hG hFj hbt xhim xhom xhrm xhnm xhlm xhex xhpi xhpo xhpr xhpn xhpl hlen hbd hxk hxb hKJ hrw d10
        obtain ⟨wo, hwo⟩ : ∃ W, W = wr := ⟨_, rfl⟩
        subst hwo
        by_cases h2 : k = 2
        · subst h2
          have hjn := HKJ.out rfl
          have hjni : (j : Int) < nm := by omega
          have hj0 : (0 : Int) ≤ (j : Int) := by omega
          have hjc : (j : Int) ≤ (nc : Int) := by omega
          have hbind : bindL 2 l.ns j = l.ns.take j := by unfold bindL; rw [if_pos rfl]
          rw [hbind] at HG
          have HNJ := Lib.hid (fun W (hW : Bel u W) => row_take (HPN.out.bel hW) HNM.out hjn hcn)
          clear HKJ hbind
          go_wp2_with fail
          obtain ⟨X1, hX1, kx, lx, sx⟩ := alloc_step wo 30 [.int .i64 x.k, .int .i64 x.e.k, .string x.e.s, .slice xnea xnen xnec, .slice xlea xlen xlec, .string x.p, .slice xia xim xic, .slice xoa xom xoc, .slice xra xrm xrc, .slice xna xnm xnc, .slice xla xlm xlc]
          rw [hX1]
          have e1 := lx.keep hb2
          have e9 := lx.keep d9
          have e2 := lx.keep hf2
          have KX := Lib.hid kx
          have LX := Lib.hid lx
          clear hX1 kx lx sx f0 f1 f2 f3 f4 f5 f6 f7 f8 f9 f10 hb2 d9 hf2 d0
          refine wp_region_held_drew (S := fun w' => Bel X1 w') (by kernel_rfl) (by (repeat (first | exact Bel.refl _ | assumption | refine Bel.to_drewN ?_ _ | refine Bel.to_drew ?_ | refine Bel.to_setCell ?_ (by first | exact Nat.le_refl _ | (simp; done) | (simp; omega) | omega) _ | refine Bel.to_alloc ?_ _ | refine Bel.trans ?_ (by assumption)))) (fun hHeld => ?_)
          refine tk 0 (v := ?_) ?_ ?_
          rotate_left 1
          · first
              | (refine Or.inl ⟨by rfl, ?_⟩; intro w9 hSw; have e9_0 := Bel.keep hSw e1; have e9_1 := Bel.keep hSw e9; go_simp; (try with_reducible rfl); done)
              | (refine Or.inr ⟨by rfl, ?_⟩; rfl)
          simp only [List.getElem_toArray, List.getElem_cons_zero, Act.put, List.setIfInBounds_toArray, List.set_cons_zero, List.set_cons_succ]
          refine tk 1 (v := ?_) ?_ ?_
          rotate_left 1
          · first
              | (refine Or.inl ⟨by rfl, ?_⟩; intro w9 hSw; have e9_0 := Bel.keep hSw e1; have e9_1 := Bel.keep hSw e9; go_simp; (try with_reducible rfl); done)
              | (refine Or.inr ⟨by rfl, ?_⟩; rfl)
          simp only [List.getElem_toArray, List.getElem_cons_succ, List.getElem_cons_zero, Act.put, List.setIfInBounds_toArray, List.set_cons_zero, List.set_cons_succ]
          refine tk 2 (v := ?_) ?_ ?_
          rotate_left 1
          · first
              | (refine Or.inl ⟨by rfl, ?_⟩; intro w9 hSw; have e9_0 := Bel.keep hSw e1; have e9_1 := Bel.keep hSw e9; go_simp; (try with_reducible rfl); done)
              | (refine Or.inr ⟨by rfl, ?_⟩; rfl)
          simp only [List.getElem_toArray, List.getElem_cons_succ, List.getElem_cons_zero, Act.put, List.setIfInBounds_toArray, List.set_cons_zero, List.set_cons_succ]
          refine tk 3 (v := ?_) ?_ ?_
          rotate_left 1
          · first
              | (refine Or.inl ⟨by rfl, ?_⟩; intro w9 hSw; have e9_0 := Bel.keep hSw e1; have e9_1 := Bel.keep hSw e9; go_simp; (try with_reducible rfl); done)
              | (refine Or.inr ⟨by rfl, ?_⟩; rfl)
          simp only [List.getElem_toArray, List.getElem_cons_succ, List.getElem_cons_zero, Act.put, List.setIfInBounds_toArray, List.set_cons_zero, List.set_cons_succ]
          refine tk 4 (v := ?_) ?_ ?_
          rotate_left 1
          · first
              | (refine Or.inl ⟨by rfl, ?_⟩; intro w9 hSw; have e9_0 := Bel.keep hSw e1; have e9_1 := Bel.keep hSw e9; go_simp; (try with_reducible rfl); done)
              | (refine Or.inr ⟨by rfl, ?_⟩; rfl)
          simp only [List.getElem_toArray, List.getElem_cons_succ, List.getElem_cons_zero, Act.put, List.setIfInBounds_toArray, List.set_cons_zero, List.set_cons_succ]
          refine wpAnyH_ready (rs := [5]) (by kernel_rfl) (by simp) ?_
          refine AllReadyH.cons (o := _) rfl (fun K hK => ?_) AllReadyH.nil
          go_simp
          refine hK.out _ _ (by (repeat (first | exact Bel.refl _ | assumption | refine Bel.to_drewN ?_ _ | refine Bel.to_drew ?_ | refine Bel.to_setCell ?_ (by first | exact Nat.le_refl _ | (simp; done) | (simp; omega) | omega) _ | refine Bel.to_alloc ?_ _ | refine Bel.trans ?_ (by assumption)))) (fun hHeld => ?_)
          clear hK K
          refine wpAnyH_ready (rs := [6]) (by kernel_rfl) (by simp) ?_
          refine AllReadyH.cons (o := _) rfl (fun K hK => ?_) AllReadyH.nil
          go_simp
          have hnr := HNJ.out _ (HFJ.out.bel.trans LX.out)
          have hb7 : Bel X1 (X1.drew.alloc (.cells #[.slice ba bn bc, .slice na j nc] 23)) := (Bel.drew _).trans (Bel.alloc _ _)
          refine (concat_c ba na bn bc j nc B (l.ns.take j) X1.heap.size 23 _ (Blk.new X1.drew 23 [.slice ba bn bc, .slice na j nc]) HBN.out (by rw [List.length_take]; have := HNM.out; omega) (by omega) (by omega) ((HRJ.out.bel LX.out).bel hb7) (hnr.bel hb7)).mono ?_
          rintro e3 w2 ⟨va, vn, vc, rfl, hvn, hvr, hb8⟩
          dsimp only
          have hb9 := hb7.trans hb8
          refine hK.out _ _ hb9 (fun hHeld => ?_)
          clear hK K
          refine tk 7 (v := ?_) ?_ ?_
          rotate_left 1
          · first
              | (refine Or.inl ⟨by rfl, ?_⟩; intro w9 hSw; go_simp; (try with_reducible rfl); done)
              | (refine Or.inr ⟨by rfl, ?_⟩; rfl)
          simp only [List.getElem_toArray, List.getElem_cons_succ, List.getElem_cons_zero, Act.put, List.setIfInBounds_toArray, List.set_cons_zero, List.set_cons_succ]
          refine wpAnyH_done (by kernel_rfl) ?_ _
          have hvl : vn ≤ bn + nm := by rw [← hvn, List.length_append, List.length_take, HBN.out]; have := HNM.out; omega
          have HXF := Lib.hid (HX.out va vn vc (B ++ l.ns.take j) w2 (HFJ.out.to (LX.out.trans hb9)) hvn hvl hvr (by unfold bindL; rw [if_pos rfl]))
          have kx2 := KX.out.bel hb9
          have g2 := hb9.keep e2
          have y0 := Blk.at kx2 0
          have y1 := Blk.at kx2 1
          have y2 := Blk.at kx2 2
          have y3 := Blk.at kx2 3
          have y4 := Blk.at kx2 4
          have y5 := Blk.at kx2 5
          have y6 := Blk.at kx2 6
          have y7 := Blk.at kx2 7
          have y8 := Blk.at kx2 8
          have y9 := Blk.at kx2 9
          have y10 := Blk.at kx2 10
          have HB9 := Lib.hid (HBT.out.trans ((LX.out.trans hb9).but _ _))
          clear hHeld hb7 hb8 hb9 hnr hvn hvr hvl kx2 HX HNJ e1 e9 e2
          go_wp2_with fail
          refine HXF.out.mono ?_
          rintro e4 w4 ⟨rfl, hF2, hb3⟩
          have HF2 := Lib.hid hF2
          have HB2 := Lib.hid (HB9.out.trans hb3)
          clear hF2 hb3 HXF y0 y1 y2 y3 y4 y5 y6 y7 y8 y9 y10 g2
          go_wp2_with fail
          exact ⟨⟨j + 1, by omega, by go_num, HB2.out, G ++ freeL x (B ++ l.ns.take j), by rw [← HG.out, List.append_assoc], by have := HF2.out; rwa [List.append_assoc, Nat.add_assoc, ← List.length_append] at this⟩, by simp [intOf]; omega⟩
        · have n2 : (k == 2) = false := by simpa using h2
          have hbind : bindL k l.ns j = [] := by unfold bindL; rw [if_neg h2]
          have HX2 := Lib.hid (fun W (hW : Bel wo W) => HX.out ba bn bc B W (HFJ.out.to hW) HBN.out (by omega) (HRJ.out.bel hW) (by rw [hbind, List.append_nil]))
          rw [hbind, List.append_nil] at HG
          clear HKJ hbind h2 HX
          go_wp2_with fail
          refine (HX2.out _ (Bel.alloc _ _)).mono ?_
          rintro e2 w2 ⟨rfl, hF2, hb3⟩
          have HF2 := Lib.hid hF2
          have HB2 := Lib.hid (HBT.out.trans (((Bel.alloc _ _).but _ _).trans hb3))
          clear hF2 hb3 HX2 f0 f1 f2 f3 f4 f5 f6 f7 f8 f9 f10
          go_wp2_with fail
          exact ⟨⟨j + 1, by omega, by go_num, HB2.out, G ++ freeL x B, by rw [← HG.out, List.append_assoc], by have := HF2.out; rwa [List.append_assoc, Nat.add_assoc, ← List.length_append] at this⟩, by simp [intOf]; omega⟩
      · obtain rfl : j = lm := by omega
        obtain ⟨G, hG, hFj⟩ := hmid
        rw [freesL_end _ _ _ _ _ (by have := HLM.out; omega), List.append_nil] at hG
        subst hG
        have HFJ := Lib.hid hFj
        have HBT := Lib.hid hbt
        clear hFj hbt
        go_wp2_with fail
        go_end0
        refine ⟨rfl, ?_, HB1.out.trans HBT.out⟩
        rw [HFE.out, List.length_append, ← List.append_assoc, ← Nat.add_assoc]
        exact HFJ.out
end Go.Proofs.YtchbhcjhoocjaaaGreatDoor
