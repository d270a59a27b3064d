/-
  logic: the walks of the names that one needs.
  logic: the walks of the names that one needs: free, Free.
  logic: the walks of the names that one needs, in order; of whether its names are in scope.
-/
import Derived.Test.YtbcdbefogfmhfaaGreatDoorLGY
import Derived.Lib.AppendZerosOnto
import Derived.Lib.Walk
import Derived.Lib.SliceRun
import Derived.Test.YtbcdbefogfmhfaaGreatDoorLGP
namespace Go.Proofs.YtbcdbefogfmhfaaGreatDoor
open Go.RowKit Go.Maps
set_option maxRecDepth 100000 in
set_option maxHeartbeats 4000000 in
theorem grow_nil (n : Nat) (w : World) (hn : n ≤ 4294967296) :
    Calls Tryz.prog 69 #[.slice none 0 0, .int .i64 n] w fun e w' => ∃ a c, e = .returned (.slice a 0 c) ∧ w'.ownsRow w.heap.size 9 1 (.slice a 0 c) 0 [] ∧ Bel w w' := by
  by_cases h0 : n = 0
  · subst h0
    go_enter Tryz.func69, Tryz.ntmps69
    go_wp2_with fail
    go_ret
    exact ⟨_, _, rfl, World.ownsRow_nil _ _ _ _, Bel.refl _⟩
  · obtain ⟨i0, hi, hz0, hz1, hz2⟩ := info_parts info_str4
    have hn0 : (0 : Int) < n := by omega
    have hnn : ¬ ((n : Int) < 0) := by omega
    have hcap := grownCap_ge w n 0 9
    have hcap2 := grownCap_le_maxLen w n 0 9 (by unfold maxLen; omega)
    have hrz : ∀ ty, (Builtin.append_ #[35, 3] ty #[.slice none 0 0, .int .i64 n]).run Tryz.prog w =
        .ok (.slice (some ⟨w.heap.size, 0, none⟩) n (grownCap w n 0 9)) (w.drew.alloc (.cells (#[] ++ Builtin.zeroCells (Value.string ⟨#[]⟩).cells n ++ Builtin.zeroCells (Value.string ⟨#[]⟩).cells (grownCap w n 0 9 - n)) 9)) := fun ty => by
      have h := Lib.run_append_grow_zeros (P := Tryz.prog) w 35 3 ty 9 i0 (.string ⟨#[]⟩) .i64 .i64 Tryz.underlying35 Tryz.underlying3 hi hz0 none 0 0 [] (Go.run_firstCells_none w.drew i0.size 0 0 0) n (by omega) (by omega) (by omega) (by omega)
        (by rw [hz2]; omega) (Go.growslice_fits (by omega) (by rw [hz2]; omega))
      simpa using h
    obtain ⟨G, hG⟩ : ∃ G, grownCap w n 0 9 = G := ⟨_, rfl⟩
    rw [hG] at hrz hcap hcap2
    have hG2 : G ≤ 9223372036854775807 := by unfold maxLen at hcap2; omega
    have HC := Lib.hid hcap
    have HC2 := Lib.hid hcap2
    clear hG hi hz0 hz1 hz2 hcap2
    go_enter Tryz.func69, Tryz.ntmps69
    go_wp2_with (at_builtin; refine Lib.wpList_append_run _ rfl _ _ _ _ rfl _ _ rfl rfl _ _ (hrz _) ?_)
    go_ret
    refine ⟨_, _, rfl, World.ownsRow_made w.drew _ G (Nat.le_refl _) HC2.out ?_, (Bel.drew _).trans (Bel.alloc _ _)⟩
    have := HC.out
    simp [Builtin.zeroCells]
    omega
/-- How many there are in the first ones. -/
def lenTwo (n1 n2 j : Nat) : Nat := if j = 0 then 0 else if j = 1 then n1 else n1 + n2
def appTwo (l1 l2 : List ByteArray) (j : Nat) : List ByteArray := if j = 0 then [] else if j = 1 then l1 else l1 ++ l2
end Go.Proofs.YtbcdbefogfmhfaaGreatDoor

namespace Go.Proofs.YtbcdbefogfmhfaaGreatDoor
open Go.RowKit Go.Maps
theorem row_take {W : World} {na : Option Addr} {ns : List ByteArray} {nm nc i : Nat} (h : NamesAt W na ns) (hn : ns.length = nm) (hi : i < nm) (hc : nm ≤ nc) : RowAt0 W (.slice na i nc) (strsV (ns.take i)) := by
  obtain ⟨b, off, rfl, h0⟩ := h 0 _ (List.getElem?_eq_getElem (by omega : 0 < ns.length))
  have hl : (strsV (ns.take i)).length = i := by rw [strsV_length, List.length_take]; omega
  refine .inr ⟨b, off, nc, by rw [hl], by rw [hl]; omega, cell_lt h0, fun j hj => ?_⟩
  rw [hl] at hj
  obtain ⟨b', off', e, h1⟩ := h j _ (List.getElem?_eq_getElem (by omega : j < ns.length))
  cases e
  rw [h1]
  simp [strsV]
end Go.Proofs.YtbcdbefogfmhfaaGreatDoor

namespace Go.Proofs.YtbcdbefogfmhfaaGreatDoor
open Go.RowKit Go.Maps
/-- What each carries: all so far are in scope. -/
def ScC (u : World) (P : List Ex) (N : List ByteArray) (ib eb : Nat) (po : Value) (R : List Ex) (W : World) : Prop :=
  (∃ A, P = A ++ R ∧ ∀ a ∈ A, scopedE a N = 0) ∧ Bel u W ∧ Blk W ib 62 [po] ∧ Blk W eb 30 [.int .i64 0]
def ScX (u : World) (P : List Ex) (N : List ByteArray) (eb : Nat) (W : World) : Prop :=
  Bel u W ∧ nz (P.map fun x => scopedE x N) ≠ 0 ∧ W.cell? ⟨eb, 0, none⟩ = some (.int .i64 (nz (P.map fun x => scopedE x N) : Nat))
theorem but_set {p q : Nat} (W : World) (j : Nat) (z : Value) : But p q W (W.setCell ⟨p, j, none⟩ z) :=
  ⟨rfl, rfl, rfl, by simp [World.setCell], fun k _ h1 _ => Below.heap_setCell W ⟨p, j, none⟩ z k h1⟩
theorem nz_pre {A R : List Ex} {x : Ex} {f : Ex → Nat} (hA : ∀ a ∈ A, f a = 0) (hx : f x ≠ 0) : nz ((A ++ x :: R).map f) = f x := by
  induction A with
  | nil => rw [List.nil_append, List.map_cons]; unfold nz; rw [if_neg hx]
  | cons a A ih =>
    rw [List.cons_append, List.map_cons]
    unfold nz
    rw [if_pos (hA a (by simp)), ih fun b hb => hA b (by simp [hb])]
set_option maxRecDepth 100000 in
set_option maxHeartbeats 4000000 in
theorem scoped1_c (u : World) (P : List Ex) (N : List ByteArray) (ib eb : Nat) (po : Option Addr) (hE : EnvX u) (hS : ScopeIs u (.pointer po) N) (hne : ib ≠ eb) (hue : u.heap.size ≤ eb)
    (x : Ex) (R : List Ex) (xn xl : Value) (W : World) (h : ScC u P N ib eb (.pointer po) (x :: R) W) (hx : ExAt u x xn xl) (hxb : x.bulk ≤ 1073741824) :
    Calls Tryz.prog 43 (#[.agg #[.int .i64 x.k, .string x.s, xn, xl]] ++ #[.pointer (some ⟨ib, 0, none⟩), .pointer (some ⟨eb, 0, none⟩)]) W (RetEach (ScC u P N ib eb (.pointer po)) (ScX u P N eb) R eb W) := by
  show Calls Tryz.prog 43 #[.agg #[.int .i64 x.k, .string x.s, xn, xl], .pointer (some ⟨ib, 0, none⟩), .pointer (some ⟨eb, 0, none⟩)] W _
  obtain ⟨⟨A, h1, h2⟩, h3, h4, h5⟩ := h
  obtain ⟨na, la, nn, nc, m, lc, rfl, rfl, _, _, _, _, _, _, _, _⟩ := hx.opened
  have HSC := Lib.hid (fun W' (hW : Bel u W') => scoped_e x.bulk x (Nat.le_refl _) hxb _ _ (.pointer po) N W' (hE.bel hW) (hS.bel hW) (ExAt.bel hW x hx))
  obtain ⟨c, hc⟩ : ∃ c, scopedE x N = c := ⟨_, rfl⟩
  rw [hc] at HSC
  have HC := Lib.hid hc
  have H1 := Lib.hid h1
  have H2 := Lib.hid h2
  have b0 := Bel.alloc W (.cells #[.int .i64 x.k, .string x.s, .slice na nn nc, .slice la m lc] 38)
  have i0 := (h4.bel b0).at 0
  have H3 := Lib.hid (h3.trans b0)
  have H4 := Lib.hid (h4.bel b0)
  have H5 := Lib.hid (h5.bel b0)
  have B0 := Lib.hid b0
  clear h1 h2 h3 h4 h5 hx hE hS hc b0
  go_enter Tryz.func43, Tryz.ntmps43
  go_wp2_with fail
  refine (HSC.out _ H3.out).mono ?_
  rintro e2 w2 ⟨rfl, hb2⟩
  have e5 := H5.out.bel hb2
  have c0 := e5.at 0
  have hfz := e5.fz 0
  have k1 := bel_setNew (H3.out.trans hb2) hue 0 (.int .i64 c)
  have k2 := (H4.out.bel hb2).far (p := ⟨eb, 0, none⟩) hne (.int .i64 c)
  have k3 := e5.set 0 (.int .i64 c)
  have k4 : But eb eb W (w2.setCell ⟨eb, 0, none⟩ (.int .i64 c)) := ((B0.out.but _ _).trans (hb2.but _ _)).trans (but_set _ _ _)
  have K1 := Lib.hid k1
  have K2 := Lib.hid k2
  have K3 := Lib.hid k3
  have K4 := Lib.hid k4
  clear hb2 e5 k1 k2 k3 k4 i0
  by_cases hc0 : c = 0
  · subst hc0
    go_wp2_with fail
    go_ret
    refine ⟨.inl ⟨rfl, ⟨A ++ [x], by rw [H1.out]; simp, fun a ha => ?_⟩, K1.out, K2.out, K3.out⟩, K4.out⟩
    rcases List.mem_append.1 ha with ha | ha
    · exact H2.out a ha
    · rw [List.mem_singleton.1 ha]; exact HC.out
  · have hc2 : ((c : Int) == 0) = false := by simpa using hc0
    have HC0 := Lib.hid hc0
    clear hc0
    go_wp2_with fail
    go_ret
    have hz : nz (P.map fun x => scopedE x N) = c := by rw [H1.out, nz_pre (f := fun x => scopedE x N) H2.out (by show scopedE x N ≠ 0; rw [HC.out]; exact HC0.out)]; exact HC.out
    refine ⟨.inr ⟨rfl, K1.out, by rw [hz]; exact HC0.out, by rw [hz]; exact K3.out.at 0⟩, K4.out⟩
theorem Blk.butL {W W' : World} {p b t : Nat} {cs : List Value} (h : Blk W b t cs) (hb : But p p W W') (hne : b ≠ p) : Blk W' b t cs := (hb.block b h.lt hne hne).trans h
theorem set_same {W : World} {b t : Nat} {v : Value} (h : Blk W b t [v]) : W.setCell ⟨b, 0, none⟩ v = W := by
  have hh : (W.setCell ⟨b, 0, none⟩ v).heap = W.heap := by
    apply Array.ext_getElem?
    intro i
    by_cases hi : i = b
    · subst hi
      have h2 := h.set 0 v
      unfold Blk at h2 h
      rw [h2, h]
      rfl
    · exact Below.heap_setCell W ⟨b, 0, none⟩ v i hi
  exact (show W.setCell ⟨b, 0, none⟩ v = { W with heap := (W.setCell ⟨b, 0, none⟩ v).heap } from rfl).trans (by rw [hh])
set_option maxRecDepth 100000 in
set_option maxHeartbeats 16000000 in
theorem scoped_l : ∀ (n : Nat) (l : Lg), l.bulk ≤ n → n ≤ 1073741824 → ∀ (q : LgQ) (v : Value) (N : List ByteArray) (w : World), OkL l → EnvX w → ScopeIs w v N → LgAt w l q →
    Calls Tryz.prog 18 #[lgV l q, v] w (RetBel (.int .i64 (scopedL l N)) w) := by
  intro n
  induction n with
  | zero => intro l hl; exfalso; have := lbulk_pos l; omega
  | succ n ih =>
    intro l hl hn q v N w hok hE hsc hat
    have hat' := hat
    obtain ⟨po, rfl⟩ := scope_ptr hsc
    obtain ⟨nea, nen, nec, lea, len, lec, ia, im, ic, oa, om, oc, ra, rm, rc, na, nm, nc, la, lm, lc, rfl, ⟨him, hom, hrm, hnm, hlm⟩, ⟨hci, hco, hcr, hcn, hcl⟩, ⟨hbi, hbo, hbr, hbn, hbl⟩, hex, hpi, hpo, hpr, hpn, hpl⟩ := LgAt.opened hat
    unfold lgV
    dsimp only
    have hbe := lbulk_eq l
    have hk2 : l.k = 2 → nm = lm := fun h => by have := (((OkL_eq l).1 hok).2.1 h).1; omega
    obtain ⟨V1, h1, k1, l1, s1⟩ := alloc_step w 42 [.int .i64 l.k, .int .i64 l.e.k, .string l.e.s, .slice nea nen nec, .slice lea len lec, .string l.p, .slice ia im ic, .slice oa om oc, .slice ra rm rc, .slice na nm nc, .slice la lm lc]
    obtain ⟨V2, h2, k2, l2, s2⟩ := alloc_step V1 62 [.pointer po]
    obtain ⟨V3, h3, k3, l3, s3⟩ := alloc_step V2 30 [.int .i64 0]
    rw [s1] at k2
    rw [s2, s1] at k3
    have b3 := l1.trans (l2.trans l3)
    have T1 := Lib.hid ((k1.bel l2).bel l3)
    have T2 := Lib.hid (k2.bel l3)
    have T3 := Lib.hid k3
    have hs3 : V3.heap.size = w.heap.size + 1 + 1 + 1 := by omega
    have HE := Lib.hid (each_c l ⟨.slice nea nen nec, .slice lea len lec, .slice ia im ic, .slice oa om oc, .slice ra rm rc, .slice na nm nc, .slice la lm lc⟩ 43 #[.pointer (some ⟨w.heap.size + 1, 0, none⟩), .pointer (some ⟨w.heap.size + 1 + 1, 0, none⟩)] (w.heap.size + 1 + 1) (ScC w (partsL l) N (w.heap.size + 1) (w.heap.size + 1 + 1) (.pointer po)) (ScX w (partsL l) N (w.heap.size + 1 + 1)) w V3
      (enters_of Tryz.func43 (by kernel_rfl) rfl) hat' (by omega) (fun R W h => h.2.1) (fun R W W' h hb => ⟨h.1, h.2.1.trans hb, h.2.2.1.bel hb, h.2.2.2.bel hb⟩)
      ⟨⟨[], rfl, fun a ha => by cases ha⟩, b3, T2.out, k3⟩ (by omega)
      (fun x R xn xl W hC hx hxb => scoped1_c w (partsL l) N _ _ po hE hsc (by omega) (by omega) x R xn xl W hC hx hxb))
    unfold lgV at HE
    dsimp only at HE
    have HIH : Hid (∀ (x : Lg), x.bulk < l.bulk → OkL x → ∀ xq u M W, Bel w W → ScopeIs W u M → LgAt W x xq → Calls Tryz.prog 18 #[lgV x xq, u] W (RetBel (.int .i64 (scopedL x M)) W)) := Lib.hid fun x hx ho xq u M W hW g1 g2 => ih x (by omega) (by omega) xq u M W ho (hE.bel hW) g1 g2
    have HW : Hid (∀ (i : Nat) W, Bel w W → i < nm → Calls Tryz.prog 45 #[.pointer po, .slice na i nc] W (RetWith (withS N (l.ns.take i)) W)) := Lib.hid fun i W hW hi =>
      with_c (.pointer po) N _ (l.ns.take i) W (hE.1.bel hW) (hsc.bel hW) (row_take (hpn.bel hW) hnm hi hcn) (by rw [List.length_take]; omega) (fun x hx => by have := str_mem_size (l := l.ns) (N := 1073741824) (by omega) x (List.mem_of_mem_take hx); omega)
    obtain ⟨R, hR⟩ : ∃ R, scopedL l N = R := ⟨_, rfl⟩
    rw [hR]
    rw [scopedL_eq] at hR
    obtain ⟨Z, hZ⟩ : ∃ Z, nz ((partsL l).map fun x => scopedE x N) = Z := ⟨_, rfl⟩
    rw [hZ] at hR
    have HR := Lib.hid hR
    have HZ := Lib.hid hZ
    have HPL := Lib.hid hpl
    have HLM := Lib.hid hlm
    have HK2 := Lib.hid hk2
    have HOK := Lib.hid hok
    have HS := Lib.hid hsc
    have HV1 := Lib.hid h1
    have HV2 := Lib.hid h2
    have HV3 := Lib.hid h3
    have t1 := T1.out
    have c0 := Blk.at t1 0
    have c1 := Blk.at t1 1
    have c2 := Blk.at t1 2
    have c3 := Blk.at t1 3
    have c4 := Blk.at t1 4
    have c5 := Blk.at t1 5
    have c6 := Blk.at t1 6
    have c7 := Blk.at t1 7
    have c8 := Blk.at t1 8
    have c9 := Blk.at t1 9
    have c10 := Blk.at t1 10
    have hlm2 : lm ≤ 1073741824 := by omega
    have hnm2 : nm ≤ 1073741824 := by omega
    obtain ⟨k, hk⟩ : ∃ k, l.k = k := ⟨_, rfl⟩
    rw [hk] at HE HR HK2 c0 T1 HV1 ⊢
    clear ih him hom hrm hnm hlm hex hpi hpo hpr hpn hpl hat hat' hok hE hsc hR hZ hk2 h1 h2 h3 k1 k2 k3 l1 l2 l3 s1 s2 s3 b3 hbe hk t1
    go_enter Tryz.func18, Tryz.ntmps18
    go_upto_region 2 with fail
    rw [show w.alloc (.cells #[.int .i64 k, .int .i64 l.e.k, .string l.e.s, .slice nea nen nec, .slice lea len lec, .string l.p, .slice ia im ic, .slice oa om oc, .slice ra rm rc, .slice na nm nc, .slice la lm lc] 42) = V1 from HV1.out,
      show V1.alloc (.cells #[.pointer po] 62) = V2 from HV2.out, show V2.alloc (.cells #[.int .i64 0] 30) = V3 from HV3.out]
    clear HV1 HV2 HV3
    go_wp2_with fail
    refine HE.out.mono ?_
    rintro e1 w1 ⟨⟨rfl, ⟨A, hA, hAz⟩, hbw, hib, heb⟩ | ⟨rfl, hbw, hnz, hec⟩, hbut⟩
    rotate_left 1
    · rw [HZ.out] at hnz hec
      have HF : Hid (Z = R) := Lib.hid (by have := HR.out; rwa [if_neg hnz] at this)
      have HBW := Lib.hid hbw
      clear hbw hnz hbut HE HR c0 c1 c2 c3 c4 c5 c6 c7 c8 c9 c10
      go_wp2_with fail
      go_ret
      exact ⟨ret_int (by rw [HF.out]), HBW.out⟩
    have hZ0 : Z = 0 := by
      rw [← HZ.out, nz_zero]
      intro y hy
      obtain ⟨a, ha, rfl⟩ := List.mem_map.1 hy
      rw [hA, List.append_nil] at ha
      exact hAz a ha
    have HR2 : Hid (scopedsL k l.ns 0 l.l N = R) := Lib.hid (by have := HR.out; rwa [if_pos hZ0] at this)
    have HLB := Lib.hid (T1.out.butL hbut (by omega))
    have HIB := Lib.hid hib
    have HEB := Lib.hid heb
    have HBW := Lib.hid hbw
    have d10 := HLB.out.at 10
    clear hA hAz hbw hib heb hbut hZ0 HR HZ HE T1 T2 T3 c0 c1 c2 c3 c4 c5 c6 c7 c8 c9 c10 hs3
    go_wp2_with fail
    go_loopw [18] (fun i wr => ∃ j : Nat, j ≤ lm ∧ i = .int .i64 j ∧ Bel w wr ∧ Blk wr w.heap.size 42 [.int .i64 k, .int .i64 l.e.k, .string l.e.s, .slice nea nen nec, .slice lea len lec, .string l.p, .slice ia im ic, .slice oa om oc, .slice ra rm rc, .slice na nm nc, .slice la lm lc] ∧ Blk wr (w.heap.size + 1) 62 [.pointer po] ∧ Blk wr (w.heap.size + 1 + 1) 30 [.int .i64 0] ∧ scopedsL k l.ns j (l.l.drop j) N = R) (fun i _ => lm - (intOf i).toNat)
    case atStart => exact ⟨0, Nat.zero_le _, rfl, HBW.out, HLB.out, HIB.out, HEB.out, HR2.out⟩
    case round =>
      obtain ⟨j, hj, rfl, hbw, hlb, hib, heb, hck⟩ := hrel
      by_cases hlt2 : j < lm
      · have hlti : (j : Int) < lm := by omega
        obtain ⟨x, hx⟩ : ∃ x, l.l[j]? = some x := ⟨_, List.getElem?_eq_getElem (by have := HLM.out; omega)⟩
        obtain ⟨b, off, xq, rfl, hxc, hxa⟩ := HPL.out j x hx
        have g1 := hxc.bel hbw
        have hxb := lbulk_part hx
        rw [scopedsL_drop k l.ns l.l N j x hx] at hck
        have HX := Lib.hid (fun W u M (hW : Bel w W) (hs : ScopeIs W u M) => HIH.out x hxb (HOK.out.part hx) xq u M W hW hs (LgAt.bel hW x hxa))
        have hKJ : k = 2 → j < nm := fun h => by have := HK2.out h; omega
        obtain ⟨xnea, xnen, xnec, xlea, xlen, xlec, xia, xim, xic, xoa, xom, xoc, xra, xrm, xrc, xna, xnm, xnc, xla, xlm, xlc, rfl, ⟨xhim, xhom, xhrm, xhnm, xhlm⟩, ⟨xhci, xhco, xhcr, xhcn, xhcl⟩, ⟨xhbi, xhbo, xhbr, xhbn, xhbl⟩, xhex, xhpi, xhpo, xhpr, xhpn, xhpl⟩ := LgAt.opened hxa
        unfold lgV at HX
        dsimp only at HX
        have f0 := CellsAt.get0 g1
        have f1 := CellsAt.get g1 1 rfl
        have f2 := CellsAt.get g1 2 rfl
        have f3 := CellsAt.get g1 3 rfl
        have f4 := CellsAt.get g1 4 rfl
        have f5 := CellsAt.get g1 5 rfl
        have f6 := CellsAt.get g1 6 rfl
        have f7 := CellsAt.get g1 7 rfl
        have f8 := CellsAt.get g1 8 rfl
        have f9 := CellsAt.get g1 9 rfl
        have f10 := CellsAt.get g1 10 rfl
        have HCK := Lib.hid hck
        have HKJ := Lib.hid hKJ
        have d0 := hlb.at 0
        have d9 := hlb.at 9
        have i0 := hib.at 0
        have hlw0 : w.heap.size < wr.heap.size := cell_lt d0
        have hlw1 : w.heap.size + 1 < wr.heap.size := cell_lt i0
        have hlw2 : w.heap.size + 1 + 1 < wr.heap.size := heb.lt
        have HBJ := Lib.hid hbw
        have HLJ := Lib.hid hlb
        have HIJ := Lib.hid hib
        have HEJ := Lib.hid heb
        clear hxc g1 hxa hx hck hbw hlb hib heb xhim xhom xhrm xhnm xhlm xhex xhpi xhpo xhpr xhpn xhpl hxb hKJ d10 HR2
        by_cases hin : k = 2 ∧ 0 < j
        · obtain ⟨rfl, hj0⟩ := hin
          have hj0i : (0 : Int) < (j : Int) := by omega
          have hj0i2 : (0 : Int) ≤ (j : Int) := by omega
          have hjn := HKJ.out rfl
          have hjc : (j : Int) ≤ (nc : Int) := by omega
          have hinn : innerL 2 l.ns N j = withS N (l.ns.take j) := by unfold innerL; rw [if_pos ⟨rfl, hj0⟩]
          have hck := HCK.out
          rw [hinn] at hck
          have hwj := fun W (hW : Bel w W) => HW.out j W hW hjn
          have hpar := withS_err (N := N) (l := l.ns.take j) (r := withS N (l.ns.take j)) rfl
          obtain ⟨Q, hQ⟩ : ∃ Q, withS N (l.ns.take j) = Q := ⟨_, rfl⟩
          rw [hQ] at hck hwj hpar
          have HWJ := Lib.hid hwj
          have HCK2 := Lib.hid hck
          clear hinn hck hwj hQ HCK HKJ
          go_wp2_with fail
          obtain ⟨X1, hX1, kx, lx, sx⟩ := alloc_step wr 42 [.int .i64 x.k, .int .i64 x.e.k, .string x.e.s, .slice xnea xnen xnec, .slice xlea xlen xlec, .string x.p, .slice xia xim xic, .slice xoa xom xoc, .slice xra xrm xrc, .slice xna xnm xnc, .slice xla xlm xlc]
          rw [hX1]
          have e0 := lx.keep i0
          have e9 := lx.keep d9
          have KX := Lib.hid kx
          have LX := Lib.hid lx
          clear hX1 kx lx sx f0 f1 f2 f3 f4 f5 f6 f7 f8 f9 f10 i0 d9 d0
          refine wp_region_held_drew (S := fun w' => w'.cell? ⟨w.heap.size + 1, 0, none⟩ = some (.pointer po) ∧ w'.cell? ⟨w.heap.size, 9, none⟩ = some (.slice na nm nc)) (by kernel_rfl) ⟨by go_simp, by go_simp⟩ (fun hHeld => ?_)
          refine wpAnyH_take (i := 0) (oi := _) (v := ?_) rfl (by kernel_rfl) (by kernel_rfl) (by kernel_rfl) (fun _ _ _ h => h) ?_ (by assumption) ?_
          rotate_left 1
          · first
              | (refine Or.inl ⟨by rfl, ?_⟩; intro w9 hSw; (try dsimp only at hSw); go_simp; (try with_reducible rfl); done)
              | (refine Or.inr ⟨by rfl, ?_⟩; rfl)
          simp only [List.getElem_toArray, List.getElem_cons_zero, Act.put, List.setIfInBounds_toArray, List.set_cons_zero, List.set_cons_succ]
          refine wpAnyH_take (i := 1) (oi := _) (v := ?_) rfl (by kernel_rfl) (by kernel_rfl) (by kernel_rfl) (fun _ _ _ h => h) ?_ (by assumption) ?_
          rotate_left 1
          · first
              | (refine Or.inl ⟨by rfl, ?_⟩; intro w9 hSw; (try dsimp only at hSw); go_simp; (try with_reducible rfl); done)
              | (refine Or.inr ⟨by rfl, ?_⟩; rfl)
          simp only [List.getElem_toArray, List.getElem_cons_succ, List.getElem_cons_zero, Act.put, List.setIfInBounds_toArray, List.set_cons_zero, List.set_cons_succ]
          refine wpAnyH_take (i := 2) (oi := _) (v := ?_) rfl (by kernel_rfl) (by kernel_rfl) (by kernel_rfl) (fun _ _ _ h => h) ?_ (by assumption) ?_
          rotate_left 1
          · first
              | (refine Or.inl ⟨by rfl, ?_⟩; intro w9 hSw; (try dsimp only at hSw); go_simp; (try with_reducible rfl); done)
              | (refine Or.inr ⟨by rfl, ?_⟩; rfl)
          simp only [List.getElem_toArray, List.getElem_cons_succ, List.getElem_cons_zero, Act.put, List.setIfInBounds_toArray, List.set_cons_zero, List.set_cons_succ]
          refine wpAnyH_take (i := 3) (oi := _) (v := ?_) rfl (by kernel_rfl) (by kernel_rfl) (by kernel_rfl) (fun _ _ _ h => h) ?_ (by assumption) ?_
          rotate_left 1
          · first
              | (refine Or.inl ⟨by rfl, ?_⟩; intro w9 hSw; (try dsimp only at hSw); go_simp; (try with_reducible rfl); done)
              | (refine Or.inr ⟨by rfl, ?_⟩; rfl)
          simp only [List.getElem_toArray, List.getElem_cons_succ, List.getElem_cons_zero, Act.put, List.setIfInBounds_toArray, List.set_cons_zero, List.set_cons_succ]
          refine wpAnyH_take (i := 4) (oi := _) (v := ?_) rfl (by kernel_rfl) (by kernel_rfl) (by kernel_rfl) (fun _ _ _ h => h) ?_ (by assumption) ?_
          rotate_left 1
          · first
              | (refine Or.inl ⟨by rfl, ?_⟩; intro w9 hSw; (try dsimp only at hSw); go_simp; (try with_reducible rfl); done)
              | (refine Or.inr ⟨by rfl, ?_⟩; rfl)
          simp only [List.getElem_toArray, List.getElem_cons_succ, List.getElem_cons_zero, Act.put, List.setIfInBounds_toArray, List.set_cons_zero, List.set_cons_succ]
          refine wpAnyH_ready (rs := [5]) (by kernel_rfl) (by simp) ?_
          refine AllReadyH.cons (o := _) rfl (fun K hK => ?_) AllReadyH.nil
          go_simp
          have hb7 : Bel wr X1.drew := LX.out.trans (Bel.drew _)
          rcases hpar with ⟨M, rfl⟩ | ⟨c, rfl, hcz⟩
          · refine (HWJ.out _ (HBJ.out.trans hb7)).mono ?_
            rintro e3 w2 ⟨hb8, p, rfl, hsp⟩
            obtain ⟨pp, rfl⟩ := scope_ptr hsp
            dsimp only
            have hb9 := hb7.trans hb8
            have e1 := HEJ.out.bel hb9
            have hec := e1.at 0
            have hfz := e1.fz 0
            refine hK.out _ _ ⟨hb8.keep hHeld.1, hb8.keep hHeld.2⟩ (fun hHeld => ?_)
            clear hK K
            refine wpAnyH_take (i := 6) (oi := _) (v := ?_) rfl (by kernel_rfl) (by kernel_rfl) (by kernel_rfl) (fun _ _ _ h => h) ?_ (by assumption) ?_
            rotate_left 1
            · first
                | (refine Or.inl ⟨by rfl, ?_⟩; intro w9 hSw; (try dsimp only at hSw); go_simp; (try with_reducible rfl); done)
                | (refine Or.inr ⟨by rfl, ?_⟩; rfl)
            simp only [List.getElem_toArray, List.getElem_cons_succ, List.getElem_cons_zero, Act.put, List.setIfInBounds_toArray, List.set_cons_zero, List.set_cons_succ]
            refine wpAnyH_take (i := 7) (oi := _) (v := ?_) rfl (by kernel_rfl) (by kernel_rfl) (by kernel_rfl) (fun _ _ _ h => h) ?_ (by assumption) ?_
            rotate_left 1
            · first
                | (refine Or.inl ⟨by rfl, ?_⟩; intro w9 hSw; (try dsimp only at hSw); go_simp; (try with_reducible rfl); done)
                | (refine Or.inr ⟨by rfl, ?_⟩; rfl)
            simp only [List.getElem_toArray, List.getElem_cons_succ, List.getElem_cons_zero, Act.put, List.setIfInBounds_toArray, List.set_cons_zero, List.set_cons_succ]
            refine wpAnyH_take (i := 8) (oi := _) (v := ?_) rfl (by kernel_rfl) (by kernel_rfl) (by kernel_rfl) (fun _ _ _ h => h) ?_ (by assumption) ?_
            rotate_left 1
            · first
                | (refine Or.inl ⟨by rfl, ?_⟩; intro w9 hSw; (try dsimp only at hSw); go_simp; (try with_reducible rfl); done)
                | (refine Or.inr ⟨by rfl, ?_⟩; rfl)
            simp only [List.getElem_toArray, List.getElem_cons_succ, List.getElem_cons_zero, Act.put, List.setIfInBounds_toArray, List.set_cons_zero, List.set_cons_succ]
            refine wpAnyH_take (i := 9) (oi := _) (v := ?_) rfl (by kernel_rfl) (by kernel_rfl) (by kernel_rfl) (fun _ _ _ h => h) ?_ (by assumption) ?_
            rotate_left 1
            · first
                | (refine Or.inl ⟨by rfl, ?_⟩; intro w9 hSw; (try dsimp only at hSw); go_simp; (try with_reducible rfl); done)
                | (refine Or.inr ⟨by rfl, ?_⟩; rfl)
            simp only [List.getElem_toArray, List.getElem_cons_succ, List.getElem_cons_zero, Act.put, List.setIfInBounds_toArray, List.set_cons_zero, List.set_cons_succ]
            refine wpAnyH_ready (rs := [10]) (by kernel_rfl) (by simp) ?_
            refine AllReadyH.cons (o := _) rfl (fun K hK => ?_) AllReadyH.nil
            go_simp
            have hss := set_same e1
            rw [hss]
            refine hK.out _ _ hHeld (fun hHeld => ?_)
            clear hK K
            refine wpAnyH_done (by kernel_rfl) ?_ _
            have hbw9 := HBJ.out.trans hb9
            have hck2 : (if scopedL x M = 0 then scopedsL 2 l.ns (j + 1) (l.l.drop (j + 1)) N else scopedL x M) = R := HCK2.out
            have hxs := HX.out w2 (.pointer pp) M hbw9 hsp
            obtain ⟨c, hc⟩ : ∃ c, scopedL x M = c := ⟨_, rfl⟩
            rw [hc] at hck2 hxs
            have HCK3 := Lib.hid hck2
            have HXS := Lib.hid hxs
            have kx2 := KX.out.bel ((Bel.drew _).trans hb8)
            have y0 := Blk.at kx2 0
            have y1 := Blk.at kx2 1
            have y2 := Blk.at kx2 2
            have y3 := Blk.at kx2 3
            have y4 := Blk.at kx2 4
            have y5 := Blk.at kx2 5
            have y6 := Blk.at kx2 6
            have y7 := Blk.at kx2 7
            have y8 := Blk.at kx2 8
            have y9 := Blk.at kx2 9
            have y10 := Blk.at kx2 10
            have HB9 := Lib.hid hb9
            have HBW9 := Lib.hid hbw9
            clear hHeld hb7 hb8 hb9 hbw9 hsp hck2 hxs hc e1 hfz hss HX HWJ HCK2 e0 e9 kx2
            go_wp2_with fail
            refine HXS.out.mono ?_
            rintro e4 w4 ⟨rfl, hb4⟩
            have HB4 := Lib.hid (HB9.out.trans hb4)
            have HBW4 := Lib.hid (HBW9.out.trans hb4)
            clear hb4 HXS y0 y1 y2 y3 y4 y5 y6 y7 y8 y9 y10 hec
            by_cases hc0 : c = 0
            · subst hc0
              go_wp2_with fail
              exact ⟨⟨j + 1, by omega, by go_num, HBW4.out, HLJ.out.bel HB4.out, HIJ.out.bel HB4.out, HEJ.out.bel HB4.out, by have := HCK3.out; simpa using this⟩, by simp [intOf]; omega⟩
            · have hc2 : ((c : Int) == 0) = false := by simpa using hc0
              have hc3 : ((c : Int) != 0) = true := by simpa using hc0
              have HF : Hid (c = R) := Lib.hid (by have := HCK3.out; rwa [if_neg hc0] at this)
              clear hc0 HCK3
              go_wp2_with fail
              go_ret
              exact ⟨ret_int (by rw [HF.out]), HBW4.out⟩
          · refine (HWJ.out _ (HBJ.out.trans hb7)).mono ?_
            rintro e3 w2 ⟨hb8, rfl⟩
            dsimp only
            have hb9 := hb7.trans hb8
            have e1 := HEJ.out.bel hb9
            have hec := e1.at 0
            have hfz := e1.fz 0
            refine hK.out _ _ ⟨hb8.keep hHeld.1, hb8.keep hHeld.2⟩ (fun hHeld => ?_)
            clear hK K
            refine wpAnyH_take (i := 6) (oi := _) (v := ?_) rfl (by kernel_rfl) (by kernel_rfl) (by kernel_rfl) (fun _ _ _ h => h) ?_ (by assumption) ?_
            rotate_left 1
            · first
                | (refine Or.inl ⟨by rfl, ?_⟩; intro w9 hSw; (try dsimp only at hSw); go_simp; (try with_reducible rfl); done)
                | (refine Or.inr ⟨by rfl, ?_⟩; rfl)
            simp only [List.getElem_toArray, List.getElem_cons_succ, List.getElem_cons_zero, Act.put, List.setIfInBounds_toArray, List.set_cons_zero, List.set_cons_succ]
            refine wpAnyH_take (i := 7) (oi := _) (v := ?_) rfl (by kernel_rfl) (by kernel_rfl) (by kernel_rfl) (fun _ _ _ h => h) ?_ (by assumption) ?_
            rotate_left 1
            · first
                | (refine Or.inl ⟨by rfl, ?_⟩; intro w9 hSw; (try dsimp only at hSw); go_simp; (try with_reducible rfl); done)
                | (refine Or.inr ⟨by rfl, ?_⟩; rfl)
            simp only [List.getElem_toArray, List.getElem_cons_succ, List.getElem_cons_zero, Act.put, List.setIfInBounds_toArray, List.set_cons_zero, List.set_cons_succ]
            refine wpAnyH_take (i := 8) (oi := _) (v := ?_) rfl (by kernel_rfl) (by kernel_rfl) (by kernel_rfl) (fun _ _ _ h => h) ?_ (by assumption) ?_
            rotate_left 1
            · first
                | (refine Or.inl ⟨by rfl, ?_⟩; intro w9 hSw; (try dsimp only at hSw); go_simp; (try with_reducible rfl); done)
                | (refine Or.inr ⟨by rfl, ?_⟩; rfl)
            simp only [List.getElem_toArray, List.getElem_cons_succ, List.getElem_cons_zero, Act.put, List.setIfInBounds_toArray, List.set_cons_zero, List.set_cons_succ]
            refine wpAnyH_take (i := 9) (oi := _) (v := ?_) rfl (by kernel_rfl) (by kernel_rfl) (by kernel_rfl) (fun _ _ _ h => h) ?_ (by assumption) ?_
            rotate_left 1
            · first
                | (refine Or.inl ⟨by rfl, ?_⟩; intro w9 hSw; (try dsimp only at hSw); go_simp; (try with_reducible rfl); done)
                | (refine Or.inr ⟨by rfl, ?_⟩; rfl)
            simp only [List.getElem_toArray, List.getElem_cons_succ, List.getElem_cons_zero, Act.put, List.setIfInBounds_toArray, List.set_cons_zero, List.set_cons_succ]
            refine wpAnyH_ready (rs := [10]) (by kernel_rfl) (by simp) ?_
            refine AllReadyH.cons (o := _) rfl (fun K hK => ?_) AllReadyH.nil
            go_simp
            have y1 := (HLJ.out.bel hb9).far (p := ⟨w.heap.size + 1 + 1, 0, none⟩) (by show w.heap.size ≠ w.heap.size + 1 + 1; omega) (.int .i64 c)
            have y2 := (HIJ.out.bel hb9).far (p := ⟨w.heap.size + 1 + 1, 0, none⟩) (by show w.heap.size + 1 ≠ w.heap.size + 1 + 1; omega) (.int .i64 c)
            have y3 := (e1.set 0 (.int .i64 c)).at 0
            have y4 := Lib.hid (bel_setNew (HBJ.out.trans hb9) (b := w.heap.size + 1 + 1) (by omega) 0 (.int .i64 c))
            refine hK.out _ _ ⟨y2.at 0, y1.at 9⟩ (fun hHeld => ?_)
            clear hK K
            refine wpAnyH_done (by kernel_rfl) ?_ _
            have hc2 : ((c : Int) == 0) = false := by simpa using hcz
            have hc3 : ((c : Int) != 0) = true := by simpa using hcz
            have HF : Hid (c = R) := Lib.hid HCK2.out
            clear hHeld hb7 hb8 hb9 hec hfz e1 y1 y2 HCK2 HWJ HX e0 e9 hcz
            generalize w2.setCell ⟨w.heap.size + 1 + 1, 0, none⟩ (.int .i64 c) = w5 at y3 y4 ⊢
            go_wp2_with fail
            go_ret
            exact ⟨ret_int (by rw [HF.out]), y4.out⟩
        · have hinn : innerL k l.ns N j = (some N, 0) := by unfold innerL; rw [if_neg hin]
          have hck := HCK.out
          rw [hinn] at hck
          replace hck : (if scopedL x N = 0 then scopedsL k l.ns (j + 1) (l.l.drop (j + 1)) N else scopedL x N) = R := hck
          have hxs := fun W (hW : Bel wr W) => HX.out W (.pointer po) N (HBJ.out.trans hW) (HS.out.bel (HBJ.out.trans hW))
          obtain ⟨c, hc⟩ : ∃ c, scopedL x N = c := ⟨_, rfl⟩
          rw [hc] at hck hxs
          have HCK3 := Lib.hid hck
          have HXS := Lib.hid hxs
          have hgd : (k == 2) = false ∨ k = 2 ∧ ¬ (0 : Int) < (j : Int) := by
            by_cases h2 : k = 2
            · exact .inr ⟨h2, fun h0 => hin ⟨h2, by omega⟩⟩
            · exact .inl (by simpa using h2)
          clear hinn hck hxs hc hin HCK HKJ HX d9
          rcases hgd with n2 | ⟨rfl, hj0⟩
          all_goals
            go_wp2_with fail
            refine (HXS.out _ (Bel.alloc _ _)).mono ?_
            rintro e4 w4 ⟨rfl, hb4⟩
            have HB4 := Lib.hid ((Bel.alloc wr (.cells #[.int .i64 x.k, .int .i64 x.e.k, .string x.e.s, .slice xnea xnen xnec, .slice xlea xlen xlec, .string x.p, .slice xia xim xic, .slice xoa xom xoc, .slice xra xrm xrc, .slice xna xnm xnc, .slice xla xlm xlc] 42)).trans hb4)
            clear hb4 HXS f0 f1 f2 f3 f4 f5 f6 f7 f8 f9 f10 i0 d0
            by_cases hc0 : c = 0
            · subst hc0
              go_wp2_with fail
              exact ⟨⟨j + 1, by omega, by go_num, HBJ.out.trans HB4.out, HLJ.out.bel HB4.out, HIJ.out.bel HB4.out, HEJ.out.bel HB4.out, by have := HCK3.out; simpa using this⟩, by simp [intOf]; omega⟩
            · have hc2 : ((c : Int) == 0) = false := by simpa using hc0
              have hc3 : ((c : Int) != 0) = true := by simpa using hc0
              have HF : Hid (c = R) := Lib.hid (by have := HCK3.out; rwa [if_neg hc0] at this)
              clear hc0 HCK3
              go_wp2_with fail
              go_ret
              exact ⟨ret_int (by rw [HF.out]), HBJ.out.trans HB4.out⟩
      · obtain rfl : j = lm := by omega
        rw [scopedsL_end _ _ _ _ _ (by have := HLM.out; omega)] at hck
        subst hck
        have HBJ := Lib.hid hbw
        clear hbw hlb hib heb HR2
        go_wp2_with fail
        go_ret
        exact ⟨rfl, HBJ.out⟩
end Go.Proofs.YtbcdbefogfmhfaaGreatDoor
