/-
  unary: the walk of Scoped.
  model: the walk of name.
  model: slices.Clone and slices.Concat of texts; the walk of scope.
-/
import Derived.Test.YtbcdbefogfmhfaaGreatDoorLGX
import Derived.Test.YtbcdbefogfmhfaaGreatDoorEXC
import Derived.Test.YtbcdbefogfmhfaaGreatDoorMXB
import Derived.Test.YtbcdbefogfmhfaaGreatDoorMPL
import Derived.Deep.RegionHeld3
import Derived.Test.YtbcdbefogfmhfaaGreatDoorAPG
import Derived.Test.YtbcdbefogfmhfaaGreatDoorLGZ
import Derived.Lib.OwnBridge
namespace Go.Proofs.YtbcdbefogfmhfaaGreatDoor
open Go.RowKit

set_option maxRecDepth 100000 in
set_option maxHeartbeats 4000000 in
theorem uscoped1_c (x : Ex) (xna xla : Option Addr) (xnn xnc xln xlc : Nat) (N : List ByteArray) (po : Option Addr) (pb : Nat) (W : World) (hE : EnvX W) (hb : Blk W pb 62 [.pointer po]) (hsc : ScopeIs W (.pointer po) N) (hx : ExAt W x (.slice xna xnn xnc) (.slice xla xln xlc)) (hbk : x.bulk ≤ 1073741824) :
    Calls Tryz.prog 126 #[.agg #[.int .i64 x.k, .string x.s, .slice xna xnn xnc, .slice xla xln xlc], .pointer (some ⟨pb, 0, none⟩)] W (RetBel (.int .i64 (scopedE x N)) W) := by
  have HC := Lib.hid (fun W1 (h : Bel W W1) => scoped_e x.bulk x (Nat.le_refl _) hbk (.slice xna xnn xnc) (.slice xla xln xlc) (.pointer po) N W1 (hE.bel h) (hsc.bel h) (ExAt.bel h _ hx))
  have c0 : W.cell? ⟨pb, 0, none⟩ = some (.pointer po) := hb.at 0
  have hlt : pb < W.heap.size := hb.lt
  obtain ⟨R, hR⟩ : ∃ R, scopedE x N = R := ⟨_, rfl⟩
  rw [hR] at HC ⊢
  clear hE hb hsc hx hbk hR
  go_enter Tryz.func126, Tryz.ntmps126
  go_wp2_with fail
  refine (HC.out _ (Bel.alloc _ _)).mono ?_
  rintro e w1 ⟨rfl, hb1⟩
  go_wp2_with fail
  go_ret
  exact ⟨rfl, (Bel.alloc _ _).trans hb1⟩
set_option maxRecDepth 100000 in
set_option maxHeartbeats 4000000 in
theorem ueachS_c (l : List Ex) (a : Option Addr) (n c : Nat) (N : List ByteArray) (po : Option Addr) (pb : Nat) (w : World) (hE : EnvX w) (hb : Blk w pb 62 [.pointer po]) (hsc : ScopeIs w (.pointer po) N) (hn : l.length = n) (hn2 : n ≤ 1073741824) (hbk : ∀ x ∈ l, x.bulk ≤ 1073741824) (hps : PartsAt w a l) :
    Calls Tryz.prog 125 #[.slice a n c, .func (.func 126) #[] #[.pointer (some ⟨pb, 0, none⟩)]] w (RetBel (.int .i64 (nz (l.map fun x => scopedE x N) : Nat)) w) := by
  obtain ⟨R, hR⟩ : ∃ R, nz (l.map fun x => scopedE x N) = R := ⟨_, rfl⟩
  rw [hR]
  have HR := Lib.hid hR
  have HM := Lib.hid hn
  have PS := Lib.hid hps
  have HBK := Lib.hid hbk
  have HE := Lib.hid hE
  have HPB := Lib.hid hb
  have HSC := Lib.hid hsc
  have hen := fun args w1 => enters_of Tryz.func126 (by kernel_rfl) rfl args w1
  clear hR hn hps hbk hE hb hsc
  go_enter Tryz.func125, Tryz.ntmps125
  go_wp2_with fail
  go_loopw [10] (fun i wr => ∃ j : Nat, j ≤ n ∧ i = .int .i64 j ∧ Bel w wr ∧ nz ((l.drop j).map fun x => scopedE x N) = R) (fun i _ => n - (intOf i).toNat)
  case atStart => exact ⟨0, Nat.zero_le _, rfl, Bel.refl _, HR.out⟩
  case round =>
    obtain ⟨j, hj, rfl, hbel, hck⟩ := hrel
    by_cases hlt : j < n
    · have hlti : (j : Int) < n := by omega
      obtain ⟨x, hx⟩ : ∃ x, l[j]? = some x := ⟨_, List.getElem?_eq_getElem (by have := HM.out; omega)⟩
      obtain ⟨b, off, xna, xnn, xnc, xla, xln, xlc, rfl, g0, g1, g2, g3, hxa⟩ := PS.out j x hx
      have f0 := hbel.keep g0
      have f1 := hbel.keep g1
      have f2 := hbel.keep g2
      have f3 := hbel.keep g3
      have HC := Lib.hid (fun W (hW : Bel w W) => uscoped1_c x xna xla xnn xnc xln xlc N po pb W (HE.out.bel hW) (HPB.out.bel hW) (HSC.out.bel hW) (ExAt.bel hW x hxa) (HBK.out x (List.mem_of_getElem? hx)))
      rw [nz_map_drop (fun x => scopedE x N) l j x hx] at hck
      obtain ⟨k, hk⟩ : ∃ k, scopedE x N = k := ⟨_, rfl⟩
      rw [hk] at HC hck
      have HB := Lib.hid hbel
      have HCK := Lib.hid hck
      clear g0 g1 g2 g3 hxa hx hck hbel hk
      go_wp2_with fail
      refine (HC.out _ (HB.out.to_alloc _)).mono ?_
      rintro e2 w2 ⟨rfl, hb2⟩
      have HB2 := Lib.hid (HB.out.trans ((Bel.alloc _ _).trans hb2))
      clear hb2 HC
      by_cases hk0 : k = 0
      · subst hk0
        go_wp2_with fail
        exact ⟨⟨j + 1, by omega, by go_num, HB2.out, by have := HCK.out; simpa using this⟩, by simp [intOf]; omega⟩
      · have hc2 : ((k : Int) == 0) = false := by simpa using hk0
        have hc3 : ((k : Int) != 0) = true := by simpa using hk0
        have HF : Hid (k = R) := Lib.hid (by have := HCK.out; simpa [hk0] using this)
        clear hk0 HCK
        go_wp2_with fail
        go_ret
        exact ⟨ret_int (by rw [HF.out]), HB2.out⟩
    · obtain rfl : j = n := by omega
      rw [nz_map_end _ _ _ (by have := HM.out; omega)] at hck
      subst hck
      go_wp2_with fail
      go_ret
      exact ⟨rfl, hbel⟩
set_option maxRecDepth 100000 in
set_option maxHeartbeats 4000000 in
theorem uscoped_c (t : Te) (a : Option Addr) (n c : Nat) (N : List ByteArray) (po : Option Addr) (w : World) (hE : EnvX w) (hsc : ScopeIs w (.pointer po) N) (hn : t.l.length = n) (hn2 : n ≤ 1073741824) (hbk : ∀ x ∈ t.l, x.bulk ≤ 1073741824) (hps : PartsAt w a t.l) :
    Calls Tryz.prog 100 #[.agg #[.bool t.any, .bool t.no, .slice a n c], .pointer po] w (RetBel (.int .i64 (nz (t.l.map fun x => scopedE x N))) w) := by
  obtain ⟨any, no, l⟩ := t
  dsimp only at hn hbk hps ⊢
  obtain ⟨R, hR⟩ : ∃ R, nz (l.map fun x => scopedE x N) = R := ⟨_, rfl⟩
  have HC := Lib.hid (fun W pb (hW : Bel w W) (hb : Blk W pb 62 [.pointer po]) => ueachS_c l a n c N po pb W (hE.bel hW) hb (hsc.bel hW) hn hn2 hbk (hps.bel hW))
  rw [hR] at HC ⊢
  obtain ⟨V1, hV1, hx1, hb1, hs1⟩ := alloc_step w 52 [.bool any, .bool no, .slice a n c]
  obtain ⟨V, hV, hxV, hbV, hsV⟩ := alloc_step V1 62 [.pointer po]
  rw [hs1] at hxV
  have hx2 := hx1.bel hbV
  have y2 : V.cell? ⟨w.heap.size, 2, none⟩ = some (.slice a n c) := hx2.at 2
  have HV1 := Lib.hid hV1
  have HVN := Lib.hid hV
  have HXV := Lib.hid hxV
  have HBV := Lib.hid (hb1.trans hbV)
  clear hE hsc hn hn2 hbk hps hR hV hxV hbV hsV hV1 hx1 hb1 hs1 hx2
  go_enter Tryz.func100, Tryz.ntmps100
  go_upto_region 1 with fail
  rw [show w.alloc (.cells #[.bool any, .bool no, .slice a n c] 52) = V1 from HV1.out, show V1.alloc (.cells #[.pointer po] 62) = V from HVN.out]
  clear HVN HV1
  go_wp2_with fail
  refine (HC.out V _ HBV.out HXV.out).mono ?_
  rintro e w1 ⟨rfl, hb1⟩
  go_wp2_with fail
  go_ret
  exact ⟨rfl, HBV.out.trans hb1⟩
end Go.Proofs.YtbcdbefogfmhfaaGreatDoor

namespace Go.Proofs.YtbcdbefogfmhfaaGreatDoor
open Go.RowKit Go.Maps

theorem name_cases {m : Md} {x : ByteArray} {y1 y2 : Nat} (h : (atT m.things x).getD (0, 0) = (y1, y2)) :
    (y1 = 0 ∧ nameM m x = m.nm) ∨ (y1 = 1 ∧ ∃ i, m.ins[y2]? = some i ∧ nameM m x = i.nm) ∨ (y1 = 2 ∧ ∃ i, m.kns[y2]? = some i ∧ nameM m x = i.nm) ∨ (y1 = 3 ∧ ∃ i, m.des[y2]? = some i ∧ nameM m x = i.nm) := by
  cases hat : atT m.things x with
  | none =>
    rw [hat] at h
    cases h
    exact .inl ⟨rfl, by unfold nameM; rw [hat]⟩
  | some y =>
    rw [hat] at h
    have hy : y = (y1, y2) := h
    subst hy
    rcases at_kind hat with ⟨rfl, rfl, _⟩ | ⟨rfl, hi⟩ | ⟨rfl, hi⟩ | ⟨rfl, hi⟩
    · exact .inl ⟨rfl, by unfold nameM; rw [hat]; rfl⟩
    · rw [List.getElem?_map] at hi
      obtain ⟨i, hi, _⟩ := Option.map_eq_some_iff.1 hi
      exact .inr (.inl ⟨rfl, i, hi, by unfold nameM; rw [hat]; simp [hi]⟩)
    · rw [List.getElem?_map] at hi
      obtain ⟨i, hi, _⟩ := Option.map_eq_some_iff.1 hi
      exact .inr (.inr (.inl ⟨rfl, i, hi, by unfold nameM; rw [hat]; simp [hi]⟩))
    · rw [List.getElem?_map] at hi
      obtain ⟨i, hi, _⟩ := Option.map_eq_some_iff.1 hi
      exact .inr (.inr (.inr ⟨rfl, i, hi, by unfold nameM; rw [hat]; simp [hi]⟩))
set_option maxRecDepth 100000 in
set_option maxHeartbeats 8000000 in
theorem name_c {u W : World} {cb bb tb : Nat} {m : Md} {q : MdQ} (h : CkS u cb bb tb m q W) (x : ByteArray) (hx : x.size ≤ 1073741824) (hbk : m.bulk ≤ 1048576) :
    Calls Tryz.prog 67 #[.pointer (some ⟨cb, 0, none⟩), .string x] W (RetBel (.string (nameM m x)) W) := by
  have c7 : W.cell? ⟨cb, 7, none⟩ = some (.map (some bb)) := h.bc.at 7
  have hlk := by_look h.by' (s := x) (by unfold maxLen; omega)
  obtain ⟨y, hy⟩ : ∃ y, (atT m.things x).getD (0, 0) = y := ⟨_, rfl⟩
  obtain ⟨y1, y2⟩ := y
  rw [hy] at hlk
  unfold thgV at hlk
  dsimp only at hlk
  obtain ⟨V, hV, hxV, hbV, hsV⟩ := alloc_step W 90 [.int .i64 y1, .int .i64 y2]
  obtain ⟨ib, hib⟩ : ∃ x, W.heap.size = x := ⟨_, rfl⟩
  rw [hib] at hxV
  have z0 : V.cell? ⟨ib, 0, none⟩ = some (.int .i64 y1) := hxV.at 0
  have z1 : V.cell? ⟨ib, 1, none⟩ = some (.int .i64 y2) := hxV.at 1
  have HSV := Lib.hid (h.go hbV)
  have HVN := Lib.hid hV
  have HIB := Lib.hid hib
  have HBV := Lib.hid hbV
  have HY := Lib.hid hy
  have HBK := Lib.hid hbk
  obtain ⟨NM, hNM⟩ : ∃ N, nameM m x = N := ⟨_, rfl⟩
  have HNM := Lib.hid hNM
  rw [hNM]
  clear h hy hV hxV hbV hsV hib hbk hNM
  go_enter Tryz.func67, Tryz.ntmps67
  go_upto_region 3 with fail
  rw [show W.alloc (.cells #[.int .i64 y1, .int .i64 y2] 90) = V from HVN.out, HIB.out]
  clear HVN hlk c7
  rcases name_cases HY.out with ⟨h0, hnm⟩ | ⟨h0, hr⟩ | ⟨h0, hr⟩ | ⟨h0, hr⟩
  · have e1 : ((y1 : Int) == 1) = false := by rw [h0]; rfl
    have e2 : ((y1 : Int) == 2) = false := by rw [h0]; rfl
    have e3 : ((y1 : Int) == 3) = false := by rw [h0]; rfl
    have c1 : V.cell? ⟨cb, 1, none⟩ = some (.string m.nm) := HSV.out.bc.at 1
    have HNM2 : Hid (m.nm = NM) := Lib.hid (hnm.symm.trans HNM.out)
    clear hnm h0
    go_wp2_with fail
    go_ret
    exact ⟨by rw [← HNM2.out]; rfl, HBV.out⟩
  · obtain ⟨i, hi, hnm⟩ := hr
    have e1 : ((y1 : Int) == 1) = true := by rw [h0]; rfl
    have e2 : ((y1 : Int) == 2) = false := by rw [h0]; rfl
    have e3 : ((y1 : Int) == 3) = false := by rw [h0]; rfl
    have HNM2 : Hid (i.nm = NM) := Lib.hid (hnm.symm.trans HNM.out)
    obtain ⟨a, ha⟩ : ∃ a, q.na = a := ⟨_, rfl⟩
    obtain ⟨n, hn⟩ : ∃ a, q.nm = a := ⟨_, rfl⟩
    obtain ⟨c, hc⟩ : ∃ a, q.nc = a := ⟨_, rfl⟩
    have k4 : V.cell? ⟨cb, 4, none⟩ = some (.slice a n c) := by rw [← ha, ← hn, ← hc]; exact HSV.out.bc.at 4
    have hyn : y2 < n := by rw [← hn, ← HSV.out.at'.ln]; exact (List.getElem?_eq_some_iff.1 hi).1
    have hyi : (y2 : Int) < n := by omega
    obtain ⟨b, off, rfl, hcl⟩ := (ha ▸ HSV.out.at'.ins : InpsAt u a m.ins) y2 i hi
    have g1 := (hcl.bel HSV.out.bel).get 1 rfl
    clear ha hn hc hi hnm h0 hcl
    go_upto_region 4 with fail
    refine wp_region_held_drew (S := fun w' => Bel V w') (by kernel_rfl) (by (repeat (first | exact Bel.refl _ | assumption | refine Bel.to_drewN ?_ _ | refine Bel.to_drew ?_ | refine Bel.to_setCell ?_ (by first | exact Nat.le_refl _ | (simp; done) | (simp; omega) | omega) _ | refine Bel.to_alloc ?_ _ | refine Bel.trans ?_ (by assumption)))) (fun hHeld => ?_)
    refine tk 0 (v := ?_) ?_ ?_
    rotate_left 1
    · first
        | (refine Or.inl ⟨by rfl, ?_⟩; intro w9 hSw; have e9_0 := Bel.keep hSw k4; have e9_1 := Bel.keep hSw z1; have e9_2 := Bel.keep hSw g1; go_simp; (try with_reducible rfl); done)
        | (refine Or.inr ⟨by rfl, ?_⟩; rfl)
    simp only [List.getElem_toArray, List.getElem_cons_zero, Act.put, List.setIfInBounds_toArray, List.set_cons_zero, List.set_cons_succ]
    refine tk 1 (v := ?_) ?_ ?_
    rotate_left 1
    · first
        | (refine Or.inl ⟨by rfl, ?_⟩; intro w9 hSw; have e9_0 := Bel.keep hSw k4; have e9_1 := Bel.keep hSw z1; have e9_2 := Bel.keep hSw g1; go_simp; (try with_reducible rfl); done)
        | (refine Or.inr ⟨by rfl, ?_⟩; rfl)
    simp only [List.getElem_toArray, List.getElem_cons_succ, List.getElem_cons_zero, Act.put, List.setIfInBounds_toArray, List.set_cons_zero, List.set_cons_succ]
    refine tk 2 (v := ?_) ?_ ?_
    rotate_left 1
    · first
        | (refine Or.inl ⟨by rfl, ?_⟩; intro w9 hSw; have e9_0 := Bel.keep hSw k4; have e9_1 := Bel.keep hSw z1; have e9_2 := Bel.keep hSw g1; go_simp; (try with_reducible rfl); done)
        | (refine Or.inr ⟨by rfl, ?_⟩; rfl)
    simp only [List.getElem_toArray, List.getElem_cons_succ, List.getElem_cons_zero, Act.put, List.setIfInBounds_toArray, List.set_cons_zero, List.set_cons_succ]
    refine tk 3 (v := ?_) ?_ ?_
    rotate_left 1
    · first
        | (refine Or.inl ⟨by rfl, ?_⟩; intro w9 hSw; have e9_0 := Bel.keep hSw k4; have e9_1 := Bel.keep hSw z1; have e9_2 := Bel.keep hSw g1; go_simp; (try with_reducible rfl); done)
        | (refine Or.inr ⟨by rfl, ?_⟩; rfl)
    simp only [List.getElem_toArray, List.getElem_cons_succ, List.getElem_cons_zero, Act.put, List.setIfInBounds_toArray, List.set_cons_zero, List.set_cons_succ]
    refine tk 4 (v := ?_) ?_ ?_
    rotate_left 1
    · first
        | (refine Or.inl ⟨by rfl, ?_⟩; intro w9 hSw; have e9_0 := Bel.keep hSw k4; have e9_1 := Bel.keep hSw z1; have e9_2 := Bel.keep hSw g1; go_simp; (try with_reducible rfl); done)
        | (refine Or.inr ⟨by rfl, ?_⟩; rfl)
    simp only [List.getElem_toArray, List.getElem_cons_succ, List.getElem_cons_zero, Act.put, List.setIfInBounds_toArray, List.set_cons_zero, List.set_cons_succ]
    refine tk 5 (v := ?_) ?_ ?_
    rotate_left 1
    · first
        | (refine Or.inl ⟨by rfl, ?_⟩; intro w9 hSw; have e9_0 := Bel.keep hSw k4; have e9_1 := Bel.keep hSw z1; have e9_2 := Bel.keep hSw g1; go_simp; (try with_reducible rfl); done)
        | (refine Or.inr ⟨by rfl, ?_⟩; rfl)
    simp only [List.getElem_toArray, List.getElem_cons_succ, List.getElem_cons_zero, Act.put, List.setIfInBounds_toArray, List.set_cons_zero, List.set_cons_succ]
    refine tk 6 (v := ?_) ?_ ?_
    rotate_left 1
    · first
        | (refine Or.inl ⟨by rfl, ?_⟩; intro w9 hSw; have e9_0 := Bel.keep hSw k4; have e9_1 := Bel.keep hSw z1; have e9_2 := Bel.keep hSw g1; go_simp; (try with_reducible rfl); done)
        | (refine Or.inr ⟨by rfl, ?_⟩; rfl)
    simp only [List.getElem_toArray, List.getElem_cons_succ, List.getElem_cons_zero, Act.put, List.setIfInBounds_toArray, List.set_cons_zero, List.set_cons_succ]
    refine tk 7 (v := ?_) ?_ ?_
    rotate_left 1
    · first
        | (refine Or.inl ⟨by rfl, ?_⟩; intro w9 hSw; have e9_0 := Bel.keep hSw k4; have e9_1 := Bel.keep hSw z1; have e9_2 := Bel.keep hSw g1; go_simp; (try with_reducible rfl); done)
        | (refine Or.inr ⟨by rfl, ?_⟩; rfl)
    simp only [List.getElem_toArray, List.getElem_cons_succ, List.getElem_cons_zero, Act.put, List.setIfInBounds_toArray, List.set_cons_zero, List.set_cons_succ]
    refine tk 8 (v := ?_) ?_ ?_
    rotate_left 1
    · first
        | (refine Or.inl ⟨by rfl, ?_⟩; intro w9 hSw; have e9_0 := Bel.keep hSw k4; have e9_1 := Bel.keep hSw z1; have e9_2 := Bel.keep hSw g1; go_simp; (try with_reducible rfl); done)
        | (refine Or.inr ⟨by rfl, ?_⟩; rfl)
    simp only [List.getElem_toArray, List.getElem_cons_succ, List.getElem_cons_zero, Act.put, List.setIfInBounds_toArray, List.set_cons_zero, List.set_cons_succ]
    refine tk 9 (v := ?_) ?_ ?_
    rotate_left 1
    · first
        | (refine Or.inl ⟨by rfl, ?_⟩; intro w9 hSw; have e9_0 := Bel.keep hSw k4; have e9_1 := Bel.keep hSw z1; have e9_2 := Bel.keep hSw g1; go_simp; (try with_reducible rfl); done)
        | (refine Or.inr ⟨by rfl, ?_⟩; rfl)
    simp only [List.getElem_toArray, List.getElem_cons_succ, List.getElem_cons_zero, Act.put, List.setIfInBounds_toArray, List.set_cons_zero, List.set_cons_succ]
    refine tk 10 (v := ?_) ?_ ?_
    rotate_left 1
    · first
        | (refine Or.inl ⟨by rfl, ?_⟩; intro w9 hSw; have e9_0 := Bel.keep hSw k4; have e9_1 := Bel.keep hSw z1; have e9_2 := Bel.keep hSw g1; go_simp; (try with_reducible rfl); done)
        | (refine Or.inr ⟨by rfl, ?_⟩; rfl)
    simp only [List.getElem_toArray, List.getElem_cons_succ, List.getElem_cons_zero, Act.put, List.setIfInBounds_toArray, List.set_cons_zero, List.set_cons_succ]
    refine wpAnyH_done (by kernel_rfl) ?_ _
    clear hHeld
    go_wp2_with fail
    go_ret
    exact ⟨by rw [← HNM2.out]; rfl, HBV.out.trans (Bel.drew V)⟩
  · obtain ⟨i, hi, hnm⟩ := hr
    have e1 : ((y1 : Int) == 1) = false := by rw [h0]; rfl
    have e2 : ((y1 : Int) == 2) = true := by rw [h0]; rfl
    have e3 : ((y1 : Int) == 3) = false := by rw [h0]; rfl
    have HNM2 : Hid (i.nm = NM) := Lib.hid (hnm.symm.trans HNM.out)
    obtain ⟨a, ha⟩ : ∃ a, q.ka = a := ⟨_, rfl⟩
    obtain ⟨n, hn⟩ : ∃ a, q.km = a := ⟨_, rfl⟩
    obtain ⟨c, hc⟩ : ∃ a, q.kc = a := ⟨_, rfl⟩
    have k4 : V.cell? ⟨cb, 5, none⟩ = some (.slice a n c) := by rw [← ha, ← hn, ← hc]; exact HSV.out.bc.at 5
    have hyn : y2 < n := by rw [← hn, ← HSV.out.at'.lk]; exact (List.getElem?_eq_some_iff.1 hi).1
    have hyi : (y2 : Int) < n := by omega
    obtain ⟨b, off, rfl, vp, vk, qq, hcl, _⟩ := (ha ▸ HSV.out.at'.kns : KnsAt u a m.kns) y2 i hi
    have g1 := (hcl.bel HSV.out.bel).get 1 rfl
    clear ha hn hc hi hnm h0 hcl
    go_upto_region 6 with fail
    refine wp_region_held_drew (S := fun w' => Bel V w') (by kernel_rfl) (by (repeat (first | exact Bel.refl _ | assumption | refine Bel.to_drewN ?_ _ | refine Bel.to_drew ?_ | refine Bel.to_setCell ?_ (by first | exact Nat.le_refl _ | (simp; done) | (simp; omega) | omega) _ | refine Bel.to_alloc ?_ _ | refine Bel.trans ?_ (by assumption)))) (fun hHeld => ?_)
    refine tk 0 (v := ?_) ?_ ?_
    rotate_left 1
    · first
        | (refine Or.inl ⟨by rfl, ?_⟩; intro w9 hSw; have e9_0 := Bel.keep hSw k4; have e9_1 := Bel.keep hSw z1; have e9_2 := Bel.keep hSw g1; go_simp; (try with_reducible rfl); done)
        | (refine Or.inr ⟨by rfl, ?_⟩; rfl)
    simp only [List.getElem_toArray, List.getElem_cons_zero, Act.put, List.setIfInBounds_toArray, List.set_cons_zero, List.set_cons_succ]
    refine tk 1 (v := ?_) ?_ ?_
    rotate_left 1
    · first
        | (refine Or.inl ⟨by rfl, ?_⟩; intro w9 hSw; have e9_0 := Bel.keep hSw k4; have e9_1 := Bel.keep hSw z1; have e9_2 := Bel.keep hSw g1; go_simp; (try with_reducible rfl); done)
        | (refine Or.inr ⟨by rfl, ?_⟩; rfl)
    simp only [List.getElem_toArray, List.getElem_cons_succ, List.getElem_cons_zero, Act.put, List.setIfInBounds_toArray, List.set_cons_zero, List.set_cons_succ]
    refine tk 2 (v := ?_) ?_ ?_
    rotate_left 1
    · first
        | (refine Or.inl ⟨by rfl, ?_⟩; intro w9 hSw; have e9_0 := Bel.keep hSw k4; have e9_1 := Bel.keep hSw z1; have e9_2 := Bel.keep hSw g1; go_simp; (try with_reducible rfl); done)
        | (refine Or.inr ⟨by rfl, ?_⟩; rfl)
    simp only [List.getElem_toArray, List.getElem_cons_succ, List.getElem_cons_zero, Act.put, List.setIfInBounds_toArray, List.set_cons_zero, List.set_cons_succ]
    refine tk 3 (v := ?_) ?_ ?_
    rotate_left 1
    · first
        | (refine Or.inl ⟨by rfl, ?_⟩; intro w9 hSw; have e9_0 := Bel.keep hSw k4; have e9_1 := Bel.keep hSw z1; have e9_2 := Bel.keep hSw g1; go_simp; (try with_reducible rfl); done)
        | (refine Or.inr ⟨by rfl, ?_⟩; rfl)
    simp only [List.getElem_toArray, List.getElem_cons_succ, List.getElem_cons_zero, Act.put, List.setIfInBounds_toArray, List.set_cons_zero, List.set_cons_succ]
    refine tk 4 (v := ?_) ?_ ?_
    rotate_left 1
    · first
        | (refine Or.inl ⟨by rfl, ?_⟩; intro w9 hSw; have e9_0 := Bel.keep hSw k4; have e9_1 := Bel.keep hSw z1; have e9_2 := Bel.keep hSw g1; go_simp; (try with_reducible rfl); done)
        | (refine Or.inr ⟨by rfl, ?_⟩; rfl)
    simp only [List.getElem_toArray, List.getElem_cons_succ, List.getElem_cons_zero, Act.put, List.setIfInBounds_toArray, List.set_cons_zero, List.set_cons_succ]
    refine tk 5 (v := ?_) ?_ ?_
    rotate_left 1
    · first
        | (refine Or.inl ⟨by rfl, ?_⟩; intro w9 hSw; have e9_0 := Bel.keep hSw k4; have e9_1 := Bel.keep hSw z1; have e9_2 := Bel.keep hSw g1; go_simp; (try with_reducible rfl); done)
        | (refine Or.inr ⟨by rfl, ?_⟩; rfl)
    simp only [List.getElem_toArray, List.getElem_cons_succ, List.getElem_cons_zero, Act.put, List.setIfInBounds_toArray, List.set_cons_zero, List.set_cons_succ]
    refine tk 6 (v := ?_) ?_ ?_
    rotate_left 1
    · first
        | (refine Or.inl ⟨by rfl, ?_⟩; intro w9 hSw; have e9_0 := Bel.keep hSw k4; have e9_1 := Bel.keep hSw z1; have e9_2 := Bel.keep hSw g1; go_simp; (try with_reducible rfl); done)
        | (refine Or.inr ⟨by rfl, ?_⟩; rfl)
    simp only [List.getElem_toArray, List.getElem_cons_succ, List.getElem_cons_zero, Act.put, List.setIfInBounds_toArray, List.set_cons_zero, List.set_cons_succ]
    refine tk 7 (v := ?_) ?_ ?_
    rotate_left 1
    · first
        | (refine Or.inl ⟨by rfl, ?_⟩; intro w9 hSw; have e9_0 := Bel.keep hSw k4; have e9_1 := Bel.keep hSw z1; have e9_2 := Bel.keep hSw g1; go_simp; (try with_reducible rfl); done)
        | (refine Or.inr ⟨by rfl, ?_⟩; rfl)
    simp only [List.getElem_toArray, List.getElem_cons_succ, List.getElem_cons_zero, Act.put, List.setIfInBounds_toArray, List.set_cons_zero, List.set_cons_succ]
    refine tk 8 (v := ?_) ?_ ?_
    rotate_left 1
    · first
        | (refine Or.inl ⟨by rfl, ?_⟩; intro w9 hSw; have e9_0 := Bel.keep hSw k4; have e9_1 := Bel.keep hSw z1; have e9_2 := Bel.keep hSw g1; go_simp; (try with_reducible rfl); done)
        | (refine Or.inr ⟨by rfl, ?_⟩; rfl)
    simp only [List.getElem_toArray, List.getElem_cons_succ, List.getElem_cons_zero, Act.put, List.setIfInBounds_toArray, List.set_cons_zero, List.set_cons_succ]
    refine tk 9 (v := ?_) ?_ ?_
    rotate_left 1
    · first
        | (refine Or.inl ⟨by rfl, ?_⟩; intro w9 hSw; have e9_0 := Bel.keep hSw k4; have e9_1 := Bel.keep hSw z1; have e9_2 := Bel.keep hSw g1; go_simp; (try with_reducible rfl); done)
        | (refine Or.inr ⟨by rfl, ?_⟩; rfl)
    simp only [List.getElem_toArray, List.getElem_cons_succ, List.getElem_cons_zero, Act.put, List.setIfInBounds_toArray, List.set_cons_zero, List.set_cons_succ]
    refine tk 10 (v := ?_) ?_ ?_
    rotate_left 1
    · first
        | (refine Or.inl ⟨by rfl, ?_⟩; intro w9 hSw; have e9_0 := Bel.keep hSw k4; have e9_1 := Bel.keep hSw z1; have e9_2 := Bel.keep hSw g1; go_simp; (try with_reducible rfl); done)
        | (refine Or.inr ⟨by rfl, ?_⟩; rfl)
    simp only [List.getElem_toArray, List.getElem_cons_succ, List.getElem_cons_zero, Act.put, List.setIfInBounds_toArray, List.set_cons_zero, List.set_cons_succ]
    refine wpAnyH_done (by kernel_rfl) ?_ _
    clear hHeld
    go_wp2_with fail
    go_ret
    exact ⟨by rw [← HNM2.out]; rfl, HBV.out.trans (Bel.drew V)⟩
  · obtain ⟨i, hi, hnm⟩ := hr
    have e1 : ((y1 : Int) == 1) = false := by rw [h0]; rfl
    have e2 : ((y1 : Int) == 2) = false := by rw [h0]; rfl
    have e3 : ((y1 : Int) == 3) = true := by rw [h0]; rfl
    have HNM2 : Hid (i.nm = NM) := Lib.hid (hnm.symm.trans HNM.out)
    obtain ⟨a, ha⟩ : ∃ a, q.da = a := ⟨_, rfl⟩
    obtain ⟨n, hn⟩ : ∃ a, q.dm = a := ⟨_, rfl⟩
    obtain ⟨c, hc⟩ : ∃ a, q.dc = a := ⟨_, rfl⟩
    have k4 : V.cell? ⟨cb, 6, none⟩ = some (.slice a n c) := by rw [← ha, ← hn, ← hc]; exact HSV.out.bc.at 6
    have hyn : y2 < n := by rw [← hn, ← HSV.out.at'.ld]; exact (List.getElem?_eq_some_iff.1 hi).1
    have hyi : (y2 : Int) < n := by omega
    obtain ⟨b, off, rfl, vp, vk, qq, hcl, _⟩ := (ha ▸ HSV.out.at'.des : DesAt u a m.des) y2 i hi
    have g1 := (hcl.bel HSV.out.bel).get 1 rfl
    clear ha hn hc hi hnm h0 hcl
    go_upto_region 8 with fail
    refine wp_region_held_drew (S := fun w' => Bel V w') (by kernel_rfl) (by (repeat (first | exact Bel.refl _ | assumption | refine Bel.to_drewN ?_ _ | refine Bel.to_drew ?_ | refine Bel.to_setCell ?_ (by first | exact Nat.le_refl _ | (simp; done) | (simp; omega) | omega) _ | refine Bel.to_alloc ?_ _ | refine Bel.trans ?_ (by assumption)))) (fun hHeld => ?_)
    refine tk 0 (v := ?_) ?_ ?_
    rotate_left 1
    · first
        | (refine Or.inl ⟨by rfl, ?_⟩; intro w9 hSw; have e9_0 := Bel.keep hSw k4; have e9_1 := Bel.keep hSw z1; have e9_2 := Bel.keep hSw g1; go_simp; (try with_reducible rfl); done)
        | (refine Or.inr ⟨by rfl, ?_⟩; rfl)
    simp only [List.getElem_toArray, List.getElem_cons_zero, Act.put, List.setIfInBounds_toArray, List.set_cons_zero, List.set_cons_succ]
    refine tk 1 (v := ?_) ?_ ?_
    rotate_left 1
    · first
        | (refine Or.inl ⟨by rfl, ?_⟩; intro w9 hSw; have e9_0 := Bel.keep hSw k4; have e9_1 := Bel.keep hSw z1; have e9_2 := Bel.keep hSw g1; go_simp; (try with_reducible rfl); done)
        | (refine Or.inr ⟨by rfl, ?_⟩; rfl)
    simp only [List.getElem_toArray, List.getElem_cons_succ, List.getElem_cons_zero, Act.put, List.setIfInBounds_toArray, List.set_cons_zero, List.set_cons_succ]
    refine tk 2 (v := ?_) ?_ ?_
    rotate_left 1
    · first
        | (refine Or.inl ⟨by rfl, ?_⟩; intro w9 hSw; have e9_0 := Bel.keep hSw k4; have e9_1 := Bel.keep hSw z1; have e9_2 := Bel.keep hSw g1; go_simp; (try with_reducible rfl); done)
        | (refine Or.inr ⟨by rfl, ?_⟩; rfl)
    simp only [List.getElem_toArray, List.getElem_cons_succ, List.getElem_cons_zero, Act.put, List.setIfInBounds_toArray, List.set_cons_zero, List.set_cons_succ]
    refine tk 3 (v := ?_) ?_ ?_
    rotate_left 1
    · first
        | (refine Or.inl ⟨by rfl, ?_⟩; intro w9 hSw; have e9_0 := Bel.keep hSw k4; have e9_1 := Bel.keep hSw z1; have e9_2 := Bel.keep hSw g1; go_simp; (try with_reducible rfl); done)
        | (refine Or.inr ⟨by rfl, ?_⟩; rfl)
    simp only [List.getElem_toArray, List.getElem_cons_succ, List.getElem_cons_zero, Act.put, List.setIfInBounds_toArray, List.set_cons_zero, List.set_cons_succ]
    refine tk 4 (v := ?_) ?_ ?_
    rotate_left 1
    · first
        | (refine Or.inl ⟨by rfl, ?_⟩; intro w9 hSw; have e9_0 := Bel.keep hSw k4; have e9_1 := Bel.keep hSw z1; have e9_2 := Bel.keep hSw g1; go_simp; (try with_reducible rfl); done)
        | (refine Or.inr ⟨by rfl, ?_⟩; rfl)
    simp only [List.getElem_toArray, List.getElem_cons_succ, List.getElem_cons_zero, Act.put, List.setIfInBounds_toArray, List.set_cons_zero, List.set_cons_succ]
    refine tk 5 (v := ?_) ?_ ?_
    rotate_left 1
    · first
        | (refine Or.inl ⟨by rfl, ?_⟩; intro w9 hSw; have e9_0 := Bel.keep hSw k4; have e9_1 := Bel.keep hSw z1; have e9_2 := Bel.keep hSw g1; go_simp; (try with_reducible rfl); done)
        | (refine Or.inr ⟨by rfl, ?_⟩; rfl)
    simp only [List.getElem_toArray, List.getElem_cons_succ, List.getElem_cons_zero, Act.put, List.setIfInBounds_toArray, List.set_cons_zero, List.set_cons_succ]
    refine tk 6 (v := ?_) ?_ ?_
    rotate_left 1
    · first
        | (refine Or.inl ⟨by rfl, ?_⟩; intro w9 hSw; have e9_0 := Bel.keep hSw k4; have e9_1 := Bel.keep hSw z1; have e9_2 := Bel.keep hSw g1; go_simp; (try with_reducible rfl); done)
        | (refine Or.inr ⟨by rfl, ?_⟩; rfl)
    simp only [List.getElem_toArray, List.getElem_cons_succ, List.getElem_cons_zero, Act.put, List.setIfInBounds_toArray, List.set_cons_zero, List.set_cons_succ]
    refine tk 7 (v := ?_) ?_ ?_
    rotate_left 1
    · first
        | (refine Or.inl ⟨by rfl, ?_⟩; intro w9 hSw; have e9_0 := Bel.keep hSw k4; have e9_1 := Bel.keep hSw z1; have e9_2 := Bel.keep hSw g1; go_simp; (try with_reducible rfl); done)
        | (refine Or.inr ⟨by rfl, ?_⟩; rfl)
    simp only [List.getElem_toArray, List.getElem_cons_succ, List.getElem_cons_zero, Act.put, List.setIfInBounds_toArray, List.set_cons_zero, List.set_cons_succ]
    refine tk 8 (v := ?_) ?_ ?_
    rotate_left 1
    · first
        | (refine Or.inl ⟨by rfl, ?_⟩; intro w9 hSw; have e9_0 := Bel.keep hSw k4; have e9_1 := Bel.keep hSw z1; have e9_2 := Bel.keep hSw g1; go_simp; (try with_reducible rfl); done)
        | (refine Or.inr ⟨by rfl, ?_⟩; rfl)
    simp only [List.getElem_toArray, List.getElem_cons_succ, List.getElem_cons_zero, Act.put, List.setIfInBounds_toArray, List.set_cons_zero, List.set_cons_succ]
    refine tk 9 (v := ?_) ?_ ?_
    rotate_left 1
    · first
        | (refine Or.inl ⟨by rfl, ?_⟩; intro w9 hSw; have e9_0 := Bel.keep hSw k4; have e9_1 := Bel.keep hSw z1; have e9_2 := Bel.keep hSw g1; go_simp; (try with_reducible rfl); done)
        | (refine Or.inr ⟨by rfl, ?_⟩; rfl)
    simp only [List.getElem_toArray, List.getElem_cons_succ, List.getElem_cons_zero, Act.put, List.setIfInBounds_toArray, List.set_cons_zero, List.set_cons_succ]
    refine tk 10 (v := ?_) ?_ ?_
    rotate_left 1
    · first
        | (refine Or.inl ⟨by rfl, ?_⟩; intro w9 hSw; have e9_0 := Bel.keep hSw k4; have e9_1 := Bel.keep hSw z1; have e9_2 := Bel.keep hSw g1; go_simp; (try with_reducible rfl); done)
        | (refine Or.inr ⟨by rfl, ?_⟩; rfl)
    simp only [List.getElem_toArray, List.getElem_cons_succ, List.getElem_cons_zero, Act.put, List.setIfInBounds_toArray, List.set_cons_zero, List.set_cons_succ]
    refine wpAnyH_done (by kernel_rfl) ?_ _
    clear hHeld
    go_wp2_with fail
    go_ret
    exact ⟨by rw [← HNM2.out]; rfl, HBV.out.trans (Bel.drew V)⟩
end Go.Proofs.YtbcdbefogfmhfaaGreatDoor

namespace Go.Proofs.YtbcdbefogfmhfaaGreatDoor
open Go.RowKit Go.Maps Go.Sort Go.Shelf

/-- A row of texts of the call's own. -/
def OwnT (B : Nat) (l : List ByteArray) (W : World) (v : Value) : Prop := W.ownsRow B 9 1 v l.length (strsV l)
def RetOwnT (l : List ByteArray) (w : World) (e : Ending) (w' : World) : Prop := ∃ a n c, e = .returned (.slice a n c) ∧ l.length = n ∧ OwnT w.heap.size l w' (.slice a n c) ∧ Bel w w'
theorem OwnT.mk {B n : Nat} {l : List ByteArray} {W : World} {v : Value} (h : W.ownsRow B 9 1 v n (strsV l)) (hn : l.length = n) : OwnT B l W v := by
  subst hn
  exact h
theorem OwnT.get {B n : Nat} {l : List ByteArray} {W : World} {v : Value} (h : OwnT B l W v) (hn : l.length = n) : W.ownsRow B 9 1 v n (strsV l) := by
  subst hn
  exact h
theorem own_sub {B C m n : Nat} {e : TypeId} {W : World} {v : Value} {xs : List Value} (hb : B ≤ C) (h : W.ownsRow C e m v n xs) : W.ownsRow B e m v n xs := ⟨h.1, h.2.imp id (by rintro ⟨g, cap, cur, h1, h2, h3⟩; exact ⟨g, cap, cur, h1, by omega, h3⟩)⟩
theorem RetWith.of {r : Option (List ByteArray) × Nat} {w w1 w' : World} {e : Ending} (h : RetWith r w1 e w') (hb : Bel w w1) : RetWith r w e w' := ⟨hb.trans h.1, h.2⟩
theorem strsV_one (l : List ByteArray) : ∀ y ∈ strsV l, y.oneCell' = true := fun y hy => by
  unfold strsV at hy
  obtain ⟨x, _, rfl⟩ := List.mem_map.1 hy
  rfl
set_option maxRecDepth 100000 in
set_option maxHeartbeats 8000000 in
theorem cloneS_c (ao : Option Addr) (n cap : Nat) (l : List ByteArray) (w : World) (hl : l.length = n) (hat : NamesAt w ao l) (hn : n ≤ 4294967296) :
    Calls Tryz.prog 66 #[.slice ao n cap] w (RetOwnT l w) := by
  have eqn : ∀ (w : World) (a : Option Addr) (n c n' c' : Nat), (binOp .eql 35 (.slice a n c) (.slice none n' c')).run Tryz.prog w = .ok (.bool a.isNone) w := fun w a n c n' c' => Lib.run_eql_slice_nil w _ _ a n c n' c' Tryz.underlying35
  have HAT := Lib.hid hat
  have HL := Lib.hid hl
  clear hat hl
  cases ao with
  | none =>
    have hz : n = 0 := by
      cases hnews : l with
      | nil => have := HL.out; rw [hnews] at this; exact this.symm
      | cons y r => obtain ⟨b, off, h, _⟩ := HAT.out 0 y (by rw [hnews]; rfl); cases h
    subst hz
    have hnil : l = [] := List.length_eq_zero_iff.1 HL.out
    subst hnil
    go_enter Tryz.func66, Tryz.ntmps66
    go_wp2_with fail
    go_ret
    exact ⟨_, _, _, rfl, rfl, OwnT.mk (World.ownsRow_nil _ _ _ _) rfl, Bel.refl _⟩
  | some ad =>
    have eq2 : ∀ (w : World) (n c n' c' : Nat), (binOp .eql 35 (.slice (some ad) n c) (.slice none n' c')).run Tryz.prog w = .ok (.bool false) w := fun w n c n' c' => eqn w (some ad) n c n' c'
    clear eqn
    go_enter Tryz.func66, Tryz.ntmps66
    go_wp2_with (at_builtin; refine wpL_appendG2 rfl _ _ 35 rfl w.heap.size (by simp only [World.size_alloc]; omega) 9 (.string ⟨#[]⟩) 1 16 Tryz.underlying35 info_str4 rfl (by decide) (by decide) _ _ _ rfl (World.ownsRow_made w #[] 0 (Nat.le_refl _) (Nat.zero_le _) rfl) (some ad) n cap (strsV l) rfl (by rw [strsV_length, HL.out, Nat.mul_one]) (news_names (HAT.out.bel ((Bel.refl _).to_alloc _))) (strsV_one l) (by omega) ?_; intro v' w1 hown hgrow)
    obtain ⟨ra, rc, rfl, _⟩ := own_wh hown
    go_wp2_with fail
    go_ret
    exact ⟨ra, _, rc, rfl, by have := HL.out; omega, OwnT.mk (by simpa using hown) (by have := HL.out; omega), ((Below.refl _ w).alloc (Nat.le_refl _) _).grown hgrow (by simp) (by intro k hk; simp [Act.eval, Value.ownBlock] at hk; omega)⟩
set_option maxRecDepth 100000 in
set_option maxHeartbeats 8000000 in
theorem concatN_c (a1 a2 : Option Addr) (n1 c1 n2 c2 : Nat) (l1 l2 : List ByteArray) (xb t : Nat) (w : World) (hb : Blk w xb t [.slice a1 n1 c1, .slice a2 n2 c2]) (h1 : l1.length = n1) (h2 : l2.length = n2) (hn1 : n1 ≤ 1073741824) (hn2 : n2 ≤ 1073741824)
    (hr1 : NamesAt w a1 l1) (hr2 : NamesAt w a2 l2) :
    Calls Tryz.prog 39 #[.slice (some ⟨xb, 0, none⟩) 2 2] w (RetOwnT (l1 ++ l2) w) := by
  have HB := Lib.hid hb
  have H1 := Lib.hid h1
  have H2 := Lib.hid h2
  have HR1 := Lib.hid hr1
  have HR2 := Lib.hid hr2
  have HG := Lib.hid (fun W => grow_nil (n1 + n2) W (by omega))
  clear hb h1 h2 hr1 hr2
  go_enter Tryz.func39, Tryz.ntmps39
  go_wp2_with fail
  go_loopw [3, 11] (fun s i wr => ∃ j : Nat, j ≤ 2 ∧ i = .int .i64 j ∧ s = .int .i64 (lenTwo n1 n2 j) ∧ Bel w wr) (fun _ i _ => 2 - (intOf i).toNat)
  case atStart => exact ⟨0, by omega, rfl, rfl, Bel.refl _⟩
  case round =>
    obtain ⟨j, hj, rfl, rfl, hbel⟩ := hrel
    have t0 := (HB.out.bel hbel).at 0
    have t1 := (HB.out.bel hbel).at 1
    have HBL := Lib.hid hbel
    clear hbel
    by_cases hlt : j < 2
    · have hcase : j = 0 ∨ j = 1 := by omega
      rcases hcase with rfl | rfl
      · have hl : lenTwo n1 n2 0 = 0 := rfl
        have hl1 : lenTwo n1 n2 1 = n1 := rfl
        rw [hl]
        have HL1 := Lib.hid hl1
        clear hl hl1 hlt hj
        go_wp2_with fail
        exact ⟨⟨1, by omega, rfl, by rw [HL1.out], HBL.out⟩, by simp [intOf]⟩
      · have hl : lenTwo n1 n2 1 = n1 := rfl
        have hl1 : lenTwo n1 n2 2 = n1 + n2 := rfl
        rw [hl]
        have HL1 := Lib.hid hl1
        clear hl hl1 hlt hj
        go_wp2_with fail
        exact ⟨⟨2, by omega, rfl, by rw [HL1.out]; exact int_eq (by omega), HBL.out⟩, by simp [intOf]⟩
    · obtain rfl : j = 2 := by omega
      have hl : lenTwo n1 n2 2 = n1 + n2 := rfl
      rw [hl]
      clear hl hlt hj t0 t1
      have hcast : ((n1 + n2 : Nat) : Int) = (n1 : Int) + n2 := by omega
      obtain ⟨m, hm⟩ : ∃ m, n1 + n2 = m := ⟨_, rfl⟩
      rw [hm] at HG ⊢
      have hm2 : m ≤ 2147483648 := by omega
      have HM := Lib.hid hm
      clear hm hcast
      go_wp2_with fail
      refine (HG.out wr).mono ?_
      rintro e2 w2 ⟨ga, gc, rfl, hown, hb2⟩
      have HO := Lib.hid hown
      have HB2 := Lib.hid (HBL.out.trans hb2)
      obtain ⟨wo, hwo⟩ : ∃ W, W = wr := ⟨_, rfl⟩
      subst hwo
      have HWS := Lib.hid HBL.out.size
      have L2 := Lib.hid hb2
      clear hown hb2
      go_wp2_with fail
      go_loopw [6, 27] (fun s i wr => ∃ j : Nat, j ≤ 2 ∧ i = .int .i64 j ∧ wr.ownsRow wo.heap.size 9 1 s (lenTwo n1 n2 j) (strsV (appTwo l1 l2 j)) ∧ Bel wo wr) (fun _ i _ => 2 - (intOf i).toNat)
      case atStart => exact ⟨0, by omega, rfl, HO.out, L2.out⟩
      case round =>
        obtain ⟨j, hj, rfl, hown, hbel⟩ := hrel
        have hbw := HBL.out.trans hbel
        have t0 := (HB.out.bel hbw).at 0
        have t1 := (HB.out.bel hbw).at 1
        have HBW := Lib.hid hbw
        have HBO := Lib.hid hbel
        clear hbel hbw
        by_cases hlt : j < 2
        · have hcase : j = 0 ∨ j = 1 := by omega
          rcases hcase with rfl | rfl
          · have hown0 : wr.ownsRow wo.heap.size 9 1 u6 0 [] := hown
            have hrow := news_names (HR1.out.bel HBW.out)
            have hln := H1.out
            clear hlt hj hown
            go_wp2_with (at_builtin; refine wpL_appendG2 rfl _ _ 35 rfl wo.heap.size (HBO.out.size) 9 (.string ⟨#[]⟩) 1 16 Tryz.underlying35 info_str4 rfl (by decide) (by decide) _ 0 [] rfl hown0 a1 n1 c1 (strsV l1) rfl (by rw [strsV_length, hln, Nat.mul_one]) hrow (strsV_one l1) (by omega) ?_; intro v' w3 hown3 hg3)
            refine ⟨⟨1, by omega, rfl, ?_, Below.grown HBO.out hg3 HBO.out.size (fun k hk => (hown0.lt k hk).1)⟩, by simp [intOf]⟩
            rw [Nat.zero_add, List.nil_append] at hown3
            exact hown3
          · have hown0 : wr.ownsRow wo.heap.size 9 1 u6 n1 (strsV l1) := hown
            have hrow := news_names (HR2.out.bel HBW.out)
            have hln := H2.out
            clear hlt hj hown
            go_wp2_with (at_builtin; refine wpL_appendG2 rfl _ _ 35 rfl wo.heap.size (HBO.out.size) 9 (.string ⟨#[]⟩) 1 16 Tryz.underlying35 info_str4 rfl (by decide) (by decide) _ n1 (strsV l1) rfl hown0 a2 n2 c2 (strsV l2) rfl (by rw [strsV_length, hln, Nat.mul_one]) hrow (strsV_one l2) (by omega) ?_; intro v' w3 hown3 hg3)
            refine ⟨⟨2, by omega, rfl, ?_, Below.grown HBO.out hg3 HBO.out.size (fun k hk => (hown0.lt k hk).1)⟩, by simp [intOf]⟩
            have e : strsV (appTwo l1 l2 2) = strsV l1 ++ strsV l2 := by unfold appTwo strsV; simp
            rw [e]
            exact hown3
        · obtain rfl : j = 2 := by omega
          have e : appTwo l1 l2 2 = l1 ++ l2 := rfl
          rw [e] at hown
          have hlen : (l1 ++ l2).length = lenTwo n1 n2 2 := by rw [List.length_append, H1.out, H2.out]; rfl
          obtain ⟨ra, rc, rfl, _⟩ := own_wh hown
          have HROW := Lib.hid (OwnT.mk (own_sub HWS.out hown) hlen)
          have HLEN := Lib.hid hlen
          clear hlt hj t0 t1 hown e hlen
          go_wp2_with fail
          go_ret
          exact ⟨ra, _, rc, rfl, HLEN.out, HROW.out, HBW.out⟩
theorem OwnT.names {B : Nat} {l : List ByteArray} {W : World} {a : Option Addr} {n c : Nat} (h : OwnT B l W (.slice a n c)) : NamesAt W a l := fun j x hx => by
  obtain ⟨a', c', h1, _, h3⟩ := own_wh h
  injection h1 with h4 _ _
  obtain ⟨g, h5, h6⟩ := h3 j (.string x) (by unfold strsV; rw [List.getElem?_map, hx]; rfl)
  exact ⟨g, 0, h4.trans h5, by rw [Nat.zero_add]; exact h6⟩
theorem nameM_le (m : Md) (x : ByteArray) : (nameM m x).size ≤ m.bulk := by
  have h0 : m.nm.size ≤ m.bulk := by unfold Md.bulk; omega
  obtain ⟨y, hy⟩ : ∃ y, (atT m.things x).getD (0, 0) = y := ⟨_, rfl⟩
  obtain ⟨y1, y2⟩ := y
  rcases name_cases hy with ⟨_, h⟩ | ⟨_, i, hi, h⟩ | ⟨_, i, hi, h⟩ | ⟨_, i, hi, h⟩
  · rw [h]; exact h0
  · rw [h]; have := Md.bulk_ins (List.mem_of_getElem? hi); unfold Inp.bulk at this; omega
  · rw [h]; have := Md.bulk_kns (List.mem_of_getElem? hi); unfold Kn.bulk at this; omega
  · rw [h]; have := Md.bulk_des (List.mem_of_getElem? hi); unfold De.bulk at this; omega
set_option maxRecDepth 100000 in
set_option maxHeartbeats 8000000 in
theorem scope_c {u W : World} {cb bb tb : Nat} {m : Md} {q : MdQ} (h : CkS u cb bb tb m q W) (hE : Env u) (hbk : m.bulk ≤ 1048576) (ps ids : List ByteArray) (pa ia : Option Addr) (pn pc im ic : Nat)
    (hpl : ps.length = pn) (hpn : pn ≤ 1048576) (hps : NamesAt W pa ps) (hpx : ∀ x ∈ ps, x.size ≤ 1048576) (hil : ids.length = im) (him : im ≤ 2097152) (his : NamesAt W ia ids) (hix : ∀ x ∈ ids, x.size ≤ 1048576) :
    Calls Tryz.prog 38 #[.pointer (some ⟨cb, 0, none⟩), .slice pa pn pc, .slice ia im ic] W (RetWith (withS [] (ps ++ ids.map (nameM m))) W) := by
  obtain ⟨R, hR⟩ : ∃ R, RetWith (withS [] (ps ++ ids.map (nameM m))) W = R := ⟨_, rfl⟩
  rw [hR]
  have HR := Lib.hid hR
  have HS := Lib.hid h
  have HE := Lib.hid hE
  have HBK := Lib.hid hbk
  have HPL := Lib.hid hpl
  have HPX := Lib.hid hpx
  have HIL := Lib.hid hil
  have HIS := Lib.hid his
  have HIX := Lib.hid hix
  have HCL := Lib.hid (cloneS_c pa pn pc ps W hpl hps (by omega))
  clear hR h hE hbk hpl hps hpx hil his hix
  go_enter Tryz.func38, Tryz.ntmps38
  go_wp2_with fail
  refine HCL.out.mono ?_
  rintro e1 w1 ⟨ca, cn, cc, rfl, hcn, hown, hb1⟩
  obtain rfl : pn = cn := HPL.out.symm.trans hcn
  have HO1 := Lib.hid hown
  have HB1 := Lib.hid hb1
  clear hcn hown hb1 HCL
  go_wp2_with fail
  go_loopw [8, 15] (fun o i wr => ∃ (j sn : Nat) (oa : Option Addr) (oc : Nat), i = .int .i64 j ∧ o = .slice oa sn oc ∧ j ≤ im ∧ Hid ((ps ++ (ids.take j).map (nameM m)).length = sn ∧ OwnT W.heap.size (ps ++ (ids.take j).map (nameM m)) wr (.slice oa sn oc)) ∧ Hid (Bel W wr)) (fun _ i _ => im - (intOf i).toNat)
  case atStart => exact ⟨0, pn, ca, cc, rfl, rfl, Nat.zero_le _, Lib.hid (by rw [List.take_zero, List.map_nil, List.append_nil]; exact ⟨HPL.out, HO1.out⟩), HB1⟩
  case round =>
    obtain ⟨j, sn, oa, oc, rfl, rfl, hj, HOW, HB⟩ := hrel
    have hsn : sn ≤ 3145728 := by
      have h1 := HOW.out.1
      rw [List.length_append, List.length_map, List.length_take, HPL.out] at h1
      omega
    by_cases hjn : j < im
    · as_aux_lemma =>
      have hji : (j : Int) < im := by omega
      obtain ⟨x, hx⟩ : ∃ x, ids[j]? = some x := ⟨_, List.getElem?_eq_getElem (by have := HIL.out; omega)⟩
      obtain ⟨b, off, rfl, g0⟩ := HIS.out j x hx
      have f0 := HB.out.keep g0
      have HN := Lib.hid (name_c (HS.out.go HB.out) x (by have := HIX.out x (List.mem_of_getElem? hx); omega) HBK.out)
      have hst : ps ++ (ids.take (j + 1)).map (nameM m) = (ps ++ (ids.take j).map (nameM m)) ++ [nameM m x] := by rw [List.take_add_one, hx, Option.toList, List.map_append, List.append_assoc]; rfl
      have HX : Hid ((ps ++ (ids.take (j + 1)).map (nameM m)).length = sn + 1 ∧ strsV (ps ++ (ids.take (j + 1)).map (nameM m)) = strsV (ps ++ (ids.take j).map (nameM m)) ++ [.string (nameM m x)]) := Lib.hid (by exact ⟨by rw [hst, List.length_append, HOW.out.1]; rfl, by rw [hst]; unfold strsV; rw [List.map_append]; rfl⟩)
      obtain ⟨nx, hnx⟩ : ∃ nx, nameM m x = nx := ⟨_, rfl⟩
      rw [hnx] at HN HX
      clear hx g0 hst hnx
      go_wp2_with fail
      refine HN.out.mono ?_
      rintro e2 w2 ⟨rfl, hb2⟩
      have HOW1 : Hid (w2.ownsRow W.heap.size 9 1 (.slice oa sn oc) sn (strsV (ps ++ (ids.take j).map (nameM m)))) := Lib.hid (own_bel (HOW.out.2.get HOW.out.1) hb2)
      have HB2 := Lib.hid (HB.out.trans hb2)
      clear hb2 HN HOW
      go_wp2_with (at_builtin; refine wpL_append1 rfl _ _ 35 rfl W 9 (.string ⟨#[]⟩) 1 16 Tryz.underlying35 info_str4 rfl (by decide) (by decide) _ sn _ rfl (HOW1.out.alloc _) ⟨w2.heap.size, 0, none⟩ 1 [.string nx] rfl rfl (cell_one_new _ _ _) (by simp [Value.oneCell']) (by omega) (HB2.out.to_alloc _) ?_; intro g cap w4 hown4 hb4 _; have HOW4 : Hid ((ps ++ (ids.take (j + 1)).map (nameM m)).length = sn + 1 ∧ OwnT W.heap.size (ps ++ (ids.take (j + 1)).map (nameM m)) w4 (.slice (some ⟨g, 0, none⟩) (sn + 1) cap)) := Lib.hid ⟨HX.out.1, OwnT.mk (by rw [HX.out.2]; exact hown4) HX.out.1⟩; have HB4 := Lib.hid hb4; clear hown4 hb4)
      exact ⟨⟨j + 1, sn + 1, _, _, by go_num, rfl, by omega, HOW4, HB4⟩, by simp [intOf]; omega⟩
    · as_aux_lemma =>
      have hji : ¬ (j : Int) < im := by omega
      have HN : Hid (Calls Tryz.prog 68 #[.slice oa sn oc] wr (RetWith (withS [] (ps ++ ids.map (nameM m))) wr)) := Lib.hid (by
        have h1 := HOW.out
        rw [List.take_of_length_le (by have := HIL.out; omega)] at h1
        refine new_c (.slice oa sn oc) _ wr (HE.out.bel (HS.out.bel.trans HB.out)) (own_row h1.2) (by omega) (fun x hx => ?_)
        rcases List.mem_append.1 hx with hx | hx
        · have := HPX.out x hx; omega
        · obtain ⟨y, _, rfl⟩ := List.mem_map.1 hx
          have := nameM_le m y
          have := HBK.out
          omega)
      clear HOW
      go_wp2_with fail
      refine HN.out.mono ?_
      intro e2 w2 hr
      have HQ : Hid (R e2 w2) := Lib.hid (by rw [← HR.out]; exact hr.of HB.out)
      obtain ⟨⟨r1, r2⟩, hw⟩ : ∃ r, withS [] (ps ++ ids.map (nameM m)) = r := ⟨_, rfl⟩
      rw [hw] at hr
      cases r1 with
      | none =>
        have he : e2 = .returned (.tuple #[.pointer none, .int .i64 r2]) := hr.2
        subst he
        clear hr hw HN
        go_wp2_with fail
        exact HQ.out
      | some N =>
        have he : ∃ p, e2 = .returned (.tuple #[p, .int .i64 0]) ∧ ScopeIs w2 p N := hr.2
        obtain ⟨p, rfl, hp⟩ := he
        obtain ⟨po, rfl⟩ := scope_ptr hp
        clear hr hw HN hp
        go_wp2_with fail
        exact HQ.out
end Go.Proofs.YtbcdbefogfmhfaaGreatDoor
