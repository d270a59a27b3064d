/-
  expr: the walks of the document's Depth, Count, Bytes.
  expr (plain): of an expression that is right: its names, those that it needs, those that come into scope.
  expr (plain): the document's names in scope.
  expr: the walks of slices.Equal at texts, of slices.EqualFunc at expressions, of Same.
  expr's laws: trees that are made; 'same'; which expressions are more than are looked at.
-/
import Derived.Test.YtbcdbefogfmhfaaGreatDoorEXA
import Derived.Test.YtbcdbefogfmhfaaGreatDoorEXB
import Derived.BigQuiet
import Derived.Deep.QuietTactic
import Derived.Deep.DeepCutAuto
namespace Go.Proofs.YtbcdbefogfmhfaaGreatDoor
open Go.RowKit
/-- How many bytes texts have. -/
def bE (e : Ex) : Nat := e.bulk - cE e
def bsE (l : List Ex) : Nat := Ex.bulk.bulks l - csE l
def namesB (ns : List ByteArray) : Nat := (ns.map fun x => x.size + 1).sum
theorem bE_eq (e : Ex) : bE e = e.s.size + namesB e.ns + bsE e.l := by
  unfold bE bsE namesB
  have h1 := bulk_eq e
  have h2 := cE_eq e
  have h3 := csE_bulk e.l
  omega
theorem bsE_take (l : List Ex) (i : Nat) (x : Ex) (h : l[i]? = some x) : bsE (l.take (i + 1)) = bsE (l.take i) + bE x := by
  unfold bsE bE
  have h1 := csE_take l i x h
  have h2 : ∀ (l : List Ex) (i : Nat), l[i]? = some x → Ex.bulk.bulks (l.take (i + 1)) = Ex.bulk.bulks (l.take i) + x.bulk := by
    intro l
    induction l with
    | nil => intro i h; cases h
    | cons y r ih =>
      intro i h
      cases i with
      | zero =>
        cases h
        rw [List.take_succ_cons, List.take_zero, List.take_zero]
        unfold Ex.bulk.bulks Ex.bulk.bulks
        omega
      | succ i =>
        rw [List.take_succ_cons, List.take_succ_cons]
        unfold Ex.bulk.bulks
        rw [ih i h]
        omega
  have h3 := h2 l i h
  have h4 := csE_bulk (l.take i)
  have h5 := cE_bulk x
  omega
theorem namesB_take (ns : List ByteArray) (j : Nat) (x : ByteArray) (h : ns[j]? = some x) : namesB (ns.take (j + 1)) = namesB (ns.take j) + (1 + x.size) := by
  obtain ⟨hj, hx⟩ := List.getElem?_eq_some_iff.1 h
  unfold namesB
  rw [List.take_succ_eq_append_getElem hj, hx, List.map_append, List.sum_append]
  simp; omega
theorem namesB_le (ns : List ByteArray) (j : Nat) : namesB (ns.take j) ≤ namesB ns := by
  unfold namesB
  conv => rhs; rw [← List.take_append_drop j ns]
  rw [List.map_append, List.sum_append]; omega
theorem bsE_le (l : List Ex) (j : Nat) : bsE (l.take j) ≤ Ex.bulk.bulks l := by
  unfold bsE
  have := bulks_take l j
  omega
theorem csE_le (l : List Ex) (j : Nat) : csE (l.take j) ≤ Ex.bulk.bulks l := Nat.le_trans (csE_bulk _) (bulks_take l j)
def RetNat (P : Nat → Prop) (w : World) (e : Ending) (w' : World) : Prop := ∃ n : Nat, e = .returned (.int .i64 n) ∧ P n ∧ Bel w w'
theorem csE_mono (l : List Ex) (j : Nat) : csE (l.take j) ≤ csE l := by
  by_cases h : j < l.length
  · have : ∀ (d j : Nat), j + d ≤ l.length → csE (l.take j) ≤ csE (l.take (j + d)) := by
      intro d
      induction d with
      | zero => intro j _; exact Nat.le_refl _
      | succ d ih =>
        intro j hj
        have h1 := csE_take l (j + d) _ (List.getElem?_eq_getElem (by omega))
        have h2 := ih j (by omega)
        rw [← Nat.add_assoc, h1]; omega
    have h2 := this (l.length - j) j (by omega)
    rwa [show j + (l.length - j) = l.length from by omega, List.take_length] at h2
  · rw [List.take_of_length_le (by omega)]; exact Nat.le_refl _
theorem bsE_mono (l : List Ex) (j : Nat) : bsE (l.take j) ≤ bsE l := by
  by_cases h : j < l.length
  · have : ∀ (d j : Nat), j + d ≤ l.length → bsE (l.take j) ≤ bsE (l.take (j + d)) := by
      intro d
      induction d with
      | zero => intro j _; exact Nat.le_refl _
      | succ d ih =>
        intro j hj
        have h1 := bsE_take l (j + d) _ (List.getElem?_eq_getElem (by omega))
        have h2 := ih j (by omega)
        rw [← Nat.add_assoc, h1]; omega
    have h2 := this (l.length - j) j (by omega)
    rwa [show j + (l.length - j) = l.length from by omega, List.take_length] at h2
  · rw [List.take_of_length_le (by omega)]; exact Nat.le_refl _
theorem bE_bulk (e : Ex) : bE e ≤ e.bulk := by unfold bE; omega
set_option maxRecDepth 100000 in
set_option maxHeartbeats 4000000 in
theorem rcount_c : ∀ (n : Nat) (e : Ex), e.bulk ≤ n → n ≤ 1073741824 → ∀ (vn vl : Value) (w : World) (t : Int), 0 ≤ t → t ≤ 1099511627776 → ExAt w e vn vl →
    Calls Tryz.prog 119 #[.agg #[.int .i64 e.k, .string e.s, vn, vl], .int .i64 t] w (RetNat (fun c => c ≤ cE e ∧ (c = cE e ∨ t < c)) w) := by
  intro n
  induction n with
  | zero => intro e he; exfalso; have := bulk_eq e; omega
  | succ n ih =>
    intro e he hn vn vl w t ht1 ht2 hat
    obtain ⟨na, la, nn, nc, m, lc, rfl, rfl, hnn, hm, hnc, hlc, hnb, hmb, hns, hps⟩ := hat.opened
    have PS := Lib.hid hps
    have NS := Lib.hid hns
    have HM := Lib.hid hm
    have HNN := Lib.hid hnn
    have HD := Lib.hid (cE_eq e)
    have HLE := Lib.hid (fun j => csE_le e.l j)
    have HBP := Lib.hid (bulk_parts e)
    have HBE := Lib.hid (bulk_eq e)
    have HNL := Lib.hid (fun j => namesB_le e.ns j)
    have HIH : Hid (∀ (x : Ex), x.bulk < e.bulk → ∀ xn xl W T, 0 ≤ T → T ≤ 1099511627776 → ExAt W x xn xl → Calls Tryz.prog 119 #[.agg #[.int .i64 x.k, .string x.s, xn, xl], .int .i64 T] W (RetNat (fun c => c ≤ cE x ∧ (c = cE x ∨ T < c)) W)) := Lib.hid fun x hx xn xl W T h1 h2 h3 => ih x (by omega) (by omega) xn xl W T h1 h2 h3
    have hm2 : m ≤ 1073741824 := by omega
    have hn2 : nn ≤ 1073741824 := by omega
    have hs2 : e.s.size ≤ 1073741824 := by have := bulk_s e; omega
    clear ih hps hm hnn hns hat
    go_enter Tryz.func119, Tryz.ntmps119
    go_wp2_with fail
    have t0 := Blk.new w 38 [.int .i64 e.k, .string e.s, .slice na nn nc, .slice la m lc]
    have hb0 : Bel w (w.alloc (.cells #[.int .i64 e.k, .string e.s, .slice na nn nc, .slice la m lc] 38)) := Bel.alloc _ _
    obtain ⟨W0, hW0⟩ : ∃ W0, w.alloc (.cells #[.int .i64 e.k, .string e.s, .slice na nn nc, .slice la m lc] 38) = W0 := ⟨_, rfl⟩
    rw [show w.alloc (.cells [Value.int .i64 e.k, .string e.s, .slice na nn nc, .slice la m lc].toArray 38) = W0 from hW0] at t0
    rw [hW0] at hb0 ⊢
    have T0 := Lib.hid t0
    have B0 := Lib.hid hb0
    clear t0 hb0 hW0
    go_loopw [5, 6] (fun d i wr => ∃ j q : Nat, j ≤ m ∧ i = .int .i64 j ∧ d = .int .i64 q ∧ (q ≤ csE (e.l.take j) + 1 ∧ (q = csE (e.l.take j) + 1 ∨ t < q)) ∧ Bel W0 wr) (fun _ i _ => m - (intOf i).toNat)
    case atStart => exact ⟨0, 1, Nat.zero_le _, rfl, rfl, by rw [List.take_zero]; unfold csE; omega, Bel.refl _⟩
    case round =>
      obtain ⟨j, q, hj, rfl, rfl, hq, hbel⟩ := hrel
      have c3 : wr.cell? ⟨w.heap.size, 3, none⟩ = some (.slice la m lc) := (T0.out.bel hbel).at 3
      have hqt : q ≤ 1073741824 + 1 := by have := hq.1; have := HLE.out j; have := HBP.out; have := HBE.out; omega
      have HQ := Lib.hid hq
      have HB := Lib.hid hbel
      clear hq hbel
      by_cases hlt : j < m
      · have hlti : (j : Int) < m := by omega
        by_cases ht0 : (q : Int) ≤ t
        · obtain ⟨x, hx⟩ : ∃ x, e.l[j]? = some x := ⟨_, List.getElem?_eq_getElem (by have := HM.out; omega)⟩
          obtain ⟨b, off, xna, xnn, xnc, xla, xln, xlc, rfl, g0, g1, g2, g3, hxa⟩ := PS.out j x hx
          have hxb := bulk_part hx
          have f0 := (B0.out.trans HB.out).keep g0
          have f1 := (B0.out.trans HB.out).keep g1
          have f2 := (B0.out.trans HB.out).keep g2
          have f3 := (B0.out.trans HB.out).keep g3
          have HC := Lib.hid (HIH.out x hxb (.slice xna xnn xnc) (.slice xla xln xlc) wr (t - q) (by omega) (by omega) (ExAt.bel (B0.out.trans HB.out) x hxa))
          have HT := Lib.hid (csE_take e.l j x hx)
          have HX := Lib.hid (cE_bulk x)
          have HXB := Lib.hid hxb
          clear g0 g1 g2 g3 hxa hxb hx
          go_wp2_with fail
          refine HC.out.mono ?_
          rintro e2 w2 ⟨d, rfl, hd, hb2⟩
          have hdt : d ≤ 1073741824 := by have := hd.1; have := HX.out; have := HXB.out; omega
          have HDD := Lib.hid hd
          clear hd
          go_wp2_with fail
          exact ⟨⟨j + 1, q + d, by omega, by go_num, by go_num, by rw [HT.out]; have := HDD.out; have := HQ.out; omega, HB.out.trans hb2⟩, by simp [intOf]; omega⟩
        · have ht3 : t < (q : Int) := by omega
          go_wp2_with fail
          go_ret
          exact ⟨q, rfl, by have := HQ.out; have h5 := HD.out; have : csE (e.l.take j) ≤ csE e.l := csE_mono e.l j; omega, B0.out.trans HB.out⟩
      · obtain rfl : j = m := by omega
        have hfin := HQ.out
        rw [List.take_of_length_le (by rw [HM.out]; exact Nat.le_refl _)] at hfin
        have HF := Lib.hid hfin
        clear hfin
        go_wp2_with fail
        go_ret
        exact ⟨q, rfl, by have := HF.out; have := HD.out; omega, B0.out.trans HB.out⟩
set_option maxRecDepth 100000 in
set_option maxHeartbeats 4000000 in
theorem rbytes_c : ∀ (n : Nat) (e : Ex), e.bulk ≤ n → n ≤ 1073741824 → ∀ (vn vl : Value) (w : World) (t : Int), 0 ≤ t → t ≤ 1099511627776 → ExAt w e vn vl →
    Calls Tryz.prog 120 #[.agg #[.int .i64 e.k, .string e.s, vn, vl], .int .i64 t] w (RetNat (fun c => c ≤ bE e ∧ (c = bE e ∨ t < c)) w) := by
  intro n
  induction n with
  | zero => intro e he; exfalso; have := bulk_eq e; omega
  | succ n ih =>
    intro e he hn vn vl w t ht1 ht2 hat
    obtain ⟨na, la, nn, nc, m, lc, rfl, rfl, hnn, hm, hnc, hlc, hnb, hmb, hns, hps⟩ := hat.opened
    have PS := Lib.hid hps
    have NS := Lib.hid hns
    have HM := Lib.hid hm
    have HNN := Lib.hid hnn
    have HD := Lib.hid (bE_eq e)
    have HLE := Lib.hid (fun j => bsE_le e.l j)
    have HBP := Lib.hid (bulk_parts e)
    have HBE := Lib.hid (bulk_eq e)
    have HNL := Lib.hid (fun j => namesB_le e.ns j)
    have HIH : Hid (∀ (x : Ex), x.bulk < e.bulk → ∀ xn xl W T, 0 ≤ T → T ≤ 1099511627776 → ExAt W x xn xl → Calls Tryz.prog 120 #[.agg #[.int .i64 x.k, .string x.s, xn, xl], .int .i64 T] W (RetNat (fun c => c ≤ bE x ∧ (c = bE x ∨ T < c)) W)) := Lib.hid fun x hx xn xl W T h1 h2 h3 => ih x (by omega) (by omega) xn xl W T h1 h2 h3
    have hm2 : m ≤ 1073741824 := by omega
    have hn2 : nn ≤ 1073741824 := by omega
    have hs2 : e.s.size ≤ 1073741824 := by have := bulk_s e; omega
    clear ih hps hm hnn hns hat
    go_enter Tryz.func120, Tryz.ntmps120
    go_wp2_with fail
    have t0 := Blk.new w 38 [.int .i64 e.k, .string e.s, .slice na nn nc, .slice la m lc]
    have hb0 : Bel w (w.alloc (.cells #[.int .i64 e.k, .string e.s, .slice na nn nc, .slice la m lc] 38)) := Bel.alloc _ _
    obtain ⟨W0, hW0⟩ : ∃ W0, w.alloc (.cells #[.int .i64 e.k, .string e.s, .slice na nn nc, .slice la m lc] 38) = W0 := ⟨_, rfl⟩
    rw [show w.alloc (.cells [Value.int .i64 e.k, .string e.s, .slice na nn nc, .slice la m lc].toArray 38) = W0 from hW0] at t0
    rw [hW0] at hb0 ⊢
    have T0 := Lib.hid t0
    have B0 := Lib.hid hb0
    clear t0 hb0 hW0
    go_loopw [5, 6] (fun d i wr => ∃ j q : Nat, j ≤ nn ∧ i = .int .i64 j ∧ d = .int .i64 q ∧ q = e.s.size + namesB (e.ns.take j) ∧ Bel W0 wr) (fun _ i _ => nn - (intOf i).toNat)
    case atStart => exact ⟨0, e.s.size, Nat.zero_le _, rfl, rfl, by rw [List.take_zero]; rfl, Bel.refl _⟩
    case round =>
     obtain ⟨j, q, hj, rfl, rfl, hq, hbel⟩ := hrel
     have c2 : wr.cell? ⟨w.heap.size, 2, none⟩ = some (.slice na nn nc) := (T0.out.bel hbel).at 2
     have hqt : q ≤ 1073741824 + 1 := by have := HNL.out j; have := HBE.out; unfold namesB at *; omega
     by_cases hlt : j < nn
     · have hlti : (j : Int) < nn := by omega
       obtain ⟨x, hx⟩ : ∃ x, e.ns[j]? = some x := ⟨_, List.getElem?_eq_getElem (by have := HNN.out; omega)⟩
       obtain ⟨b, off, rfl, g0⟩ := NS.out j x hx
       have f0 := (B0.out.trans hbel).keep g0
       have HT := Lib.hid (namesB_take e.ns j x hx)
       have hx2 : x.size ≤ 1073741824 := by have := bulk_name (List.mem_of_getElem? hx); omega
       have HQ := Lib.hid hq
       clear hq g0 hx
       go_wp2_with fail
       exact ⟨⟨j + 1, q + (1 + x.size), by omega, by go_num, by go_num, by rw [HT.out]; have := HQ.out; omega, hbel⟩, by simp [intOf]; omega⟩
     obtain rfl : j = nn := by omega
     rw [List.take_of_length_le (by rw [HNN.out]; exact Nat.le_refl _)] at hq
     have HQ0 := Lib.hid hq
     have HBN := Lib.hid hbel
     clear hq hbel
     go_wp2_with fail
     go_loopw [5, 7] (fun d i wr => ∃ j q : Nat, j ≤ m ∧ i = .int .i64 j ∧ d = .int .i64 q ∧ (q ≤ e.s.size + namesB e.ns + bsE (e.l.take j) ∧ (q = e.s.size + namesB e.ns + bsE (e.l.take j) ∨ t < q)) ∧ Bel W0 wr) (fun _ i _ => m - (intOf i).toNat)
     case atStart => exact ⟨0, q, Nat.zero_le _, rfl, rfl, by rw [List.take_zero]; have := HQ0.out; unfold bsE Ex.bulk.bulks csE; omega, HBN.out⟩
     case round =>
       obtain ⟨j, q, hj, rfl, rfl, hq, hbel⟩ := hrel
       have c3 : wr.cell? ⟨w.heap.size, 3, none⟩ = some (.slice la m lc) := (T0.out.bel hbel).at 3
       have hqt : q ≤ 1073741824 + 1073741824 := by have := hq.1; have := HLE.out j; have := HBP.out; have := HBE.out; unfold namesB at *; omega
       have HQ := Lib.hid hq
       have HB := Lib.hid hbel
       clear hq hbel
       by_cases hlt : j < m
       · have hlti : (j : Int) < m := by omega
         by_cases ht0 : (q : Int) ≤ t
         · obtain ⟨x, hx⟩ : ∃ x, e.l[j]? = some x := ⟨_, List.getElem?_eq_getElem (by have := HM.out; omega)⟩
           obtain ⟨b, off, xna, xnn, xnc, xla, xln, xlc, rfl, g0, g1, g2, g3, hxa⟩ := PS.out j x hx
           have hxb := bulk_part hx
           have f0 := (B0.out.trans HB.out).keep g0
           have f1 := (B0.out.trans HB.out).keep g1
           have f2 := (B0.out.trans HB.out).keep g2
           have f3 := (B0.out.trans HB.out).keep g3
           have HC := Lib.hid (HIH.out x hxb (.slice xna xnn xnc) (.slice xla xln xlc) wr (t - q) (by omega) (by omega) (ExAt.bel (B0.out.trans HB.out) x hxa))
           have HT := Lib.hid (bsE_take e.l j x hx)
           have HX := Lib.hid (bE_bulk x)
           have HXB := Lib.hid hxb
           clear g0 g1 g2 g3 hxa hxb hx
           go_wp2_with fail
           refine HC.out.mono ?_
           rintro e2 w2 ⟨d, rfl, hd, hb2⟩
           have hdt : d ≤ 1073741824 := by have := hd.1; have := HX.out; have := HXB.out; omega
           have HDD := Lib.hid hd
           clear hd
           go_wp2_with fail
           exact ⟨⟨j + 1, q + d, by omega, by go_num, by go_num, by rw [HT.out]; have := HDD.out; have := HQ.out; omega, HB.out.trans hb2⟩, by simp [intOf]; omega⟩
         · have ht3 : t < (q : Int) := by omega
           go_wp2_with fail
           go_ret
           exact ⟨q, rfl, by have := HQ.out; have h5 := HD.out; have : bsE (e.l.take j) ≤ bsE e.l := bsE_mono e.l j; omega, B0.out.trans HB.out⟩
       · obtain rfl : j = m := by omega
         have hfin := HQ.out
         rw [List.take_of_length_le (by rw [HM.out]; exact Nat.le_refl _)] at hfin
         have HF := Lib.hid hfin
         clear hfin
         go_wp2_with fail
         go_ret
         exact ⟨q, rfl, by have := HF.out; have := HD.out; omega, B0.out.trans HB.out⟩
end Go.Proofs.YtbcdbefogfmhfaaGreatDoor

namespace Go.Proofs.YtbcdbefogfmhfaaGreatDoor
open Go.RowKit
theorem checksE_zero (b : Bool) : ∀ (l : List Ex) (i : Nat), checksE b i l = 0 → ∀ (j : Nat) (x : Ex), l[j]? = some x → checkE x (b && i + j == 1) = 0
  | [], _, _, j, x, h => by cases h
  | y :: r, i, hc, j, x, h => by
    unfold checksE at hc
    by_cases h0 : checkE y (b && i == 1) = 0
    · rw [if_pos h0] at hc
      cases j with
      | zero => cases h; exact h0
      | succ j =>
        have := checksE_zero b r (i + 1) hc j x h
        rwa [show i + 1 + j = i + (j + 1) from by omega] at this
    · rw [if_neg h0] at hc
      exact absurd hc h0
/-- Right, as a test or not. -/
def OkE (e : Ex) : Prop := ∃ t, checkE e t = 0
theorem OkE.own {e : Ex} (h : OkE e) : ∃ t, ownK e.k e.s e.ns e.l.length t = 0 := by
  obtain ⟨t, h⟩ := h
  rw [checkE_eq] at h
  refine ⟨t, ?_⟩
  split at h
  · assumption
  · exact h
theorem checkE_part {e : Ex} {t : Bool} (h : checkE e t = 0) {i : Nat} {x : Ex} (hx : e.l[i]? = some x) : checkE x (decide (e.k = 7) && i == 1) = 0 := by
  rw [checkE_eq] at h
  split at h
  · have := checksE_zero _ _ _ h i x hx
    rwa [Nat.zero_add] at this
  · exact absurd h (by assumption)
theorem OkE.part {e : Ex} (h : OkE e) {i : Nat} {x : Ex} (hx : e.l[i]? = some x) : OkE x := by
  obtain ⟨t, h⟩ := h
  exact ⟨_, checkE_part h hx⟩
theorem own_names {k : Int} {s : ByteArray} {ns : List ByteArray} {n : Nat} {t : Bool} (h : ownK k s ns n t = 0) : (namedK k = true → rightS s = true) ∧ (∀ x ∈ ns, rightS x = true) ∧ ns.Nodup := by
  unfold ownK at h
  split at h
  · cases h
  · split at h
    · cases h
    · split at h
      · cases h
      · rename_i h3
        split at h
        · cases h
        · rename_i h4
          simp only [Bool.or_eq_true, Bool.and_eq_true, Bool.not_eq_true', List.any_eq_true, not_or, not_and, not_exists, Bool.not_eq_false] at h3
          exact ⟨fun hn => h3.1 hn, fun x hx => h3.2 x hx, Decidable.not_not.1 h4⟩
theorem named_of {k : Int} (h : k = 3 ∨ k = 8 ∨ k = 12 ∨ k = 13 ∨ k = 14) : namedK k = true := by unfold namedK; simpa using h
theorem right_item : rightS ⟨#[105, 116, 101, 109]⟩ = true := by decide +kernel
/-- What is given to a part. -/
theorem mem_given {k : Int} {s : ByteArray} {ns : List ByteArray} {i : Nat} {x : ByteArray} (h : x ∈ givenK k s ns i) : x ∈ ns ∨ (x = s ∧ (k = 12 ∨ k = 13 ∨ k = 14)) ∨ x = ⟨#[105, 116, 101, 109]⟩ := by
  unfold givenK at h
  split at h
  · exact .inl h
  · split at h
    · exact .inl (List.mem_of_mem_take h)
    · split at h
      · cases h
      · split at h
        · exact .inr (.inr (List.mem_singleton.1 h))
        · split at h
          · rename_i h5; exact .inr (.inl ⟨List.mem_singleton.1 h, h5⟩)
          · cases h
theorem OkE.given {e : Ex} (h : OkE e) (i : Nat) : ∀ x ∈ givenK e.k e.s e.ns i, rightS x = true := fun x hx => by
  obtain ⟨t, ho⟩ := h.own
  have hn := own_names ho
  rcases mem_given hx with h1 | ⟨rfl, h1⟩ | rfl
  · exact hn.2.1 x h1
  · exact hn.1 (named_of (by omega))
  · exact right_item
end Go.Proofs.YtbcdbefogfmhfaaGreatDoor

namespace Go.Proofs.YtbcdbefogfmhfaaGreatDoor
open Go.RowKit
theorem addS_uniq (a b : List ByteArray) : addS (uniqS a) (uniqS b) = uniqS (a ++ b) :=
  srt_ext (srt_addS _ (srt_uniqS a)) (srt_uniqS _) fun x => by rw [mem_addS, mem_uniqS, mem_uniqS, mem_uniqS, List.mem_append]
end Go.Proofs.YtbcdbefogfmhfaaGreatDoor

namespace Go.Proofs.YtbcdbefogfmhfaaGreatDoor
open Go.RowKit
theorem names_eq {l1 l2 : List ByteArray} {n : Nat} (h1 : l1.length = n) (h2 : l2.length = n) (h : l1.take n = l2.take n) : l1 = l2 := by
  rwa [List.take_of_length_le (by omega), List.take_of_length_le (by omega)] at h
theorem take_eq_snoc {l1 l2 : List ByteArray} {k : Nat} {x : ByteArray} (h : l1.take k = l2.take k) (h1 : l1[k]? = some x) (h2 : l2[k]? = some x) : l1.take (k + 1) = l2.take (k + 1) := by
  rw [List.take_add_one, List.take_add_one, h, h1, h2]
set_option maxRecDepth 100000 in
set_option maxHeartbeats 1000000 in
theorem equal_c (l1 l2 : List ByteArray) (a1 a2 : Option Addr) (n1 c1 n2 c2 : Nat) (w : World) (h1 : l1.length = n1) (h2 : l2.length = n2) (hn1 : n1 ≤ 1073741824) (hn2 : n2 ≤ 1073741824) (hs1 : NamesAt w a1 l1) (hs2 : NamesAt w a2 l2) :
    Calls Tryz.prog 29 #[.slice a1 n1 c1, .slice a2 n2 c2] w (RetBel (.bool (decide (l1 = l2))) w) := by
  have H1 := Lib.hid h1
  have H2 := Lib.hid h2
  have S1 := Lib.hid hs1
  have S2 := Lib.hid hs2
  obtain ⟨R, hR⟩ : ∃ R, decide (l1 = l2) = R := ⟨_, rfl⟩
  rw [hR]
  have HR := Lib.hid hR
  clear hR h1 h2 hs1 hs2
  by_cases he : n1 = n2
  · subst he
    go_enter Tryz.func29, Tryz.ntmps29
    go_wp2_with fail
    go_loopw [13] (fun i wr => ∃ k : Nat, k ≤ n1 ∧ i = .int .i64 k ∧ Bel w wr ∧ l1.take k = l2.take k) (fun i _ => n1 - (intOf i).toNat)
    case atStart => exact ⟨0, Nat.zero_le _, rfl, Bel.refl _, by simp⟩
    case round =>
      obtain ⟨k, hk, rfl, hbel, htk⟩ := hrel
      by_cases hkn : k < n1
      · have hki : (k : Int) < n1 := by omega
        obtain ⟨x, hx⟩ : ∃ x, l1[k]? = some x := ⟨_, List.getElem?_eq_getElem (by have := H1.out; omega)⟩
        obtain ⟨y, hy⟩ : ∃ y, l2[k]? = some y := ⟨_, List.getElem?_eq_getElem (by have := H2.out; omega)⟩
        obtain ⟨b1, o1, rfl, hc1⟩ := S1.out k x hx
        obtain ⟨b2, o2, rfl, hc2⟩ := S2.out k y hy
        have d1 := hbel.keep hc1
        have d2 := hbel.keep hc2
        have HX := Lib.hid hx
        have HY := Lib.hid hy
        have HT := Lib.hid htk
        clear hx hy htk hc1 hc2
        go_wp2_with fail
        go_quiet (fail)
        go_wp2_with fail
        · have hxy : (!x.toList == y.toList) = true := by assumption
          go_ret
          have hr : R = false := by
            rw [← HR.out]
            refine decide_eq_false (fun h => ?_)
            subst h
            have h2 := HX.out.symm.trans HY.out
            injection h2 with h2
            rw [h2] at hxy
            simp at hxy
          exact ⟨ret_bool hr.symm, hbel.to_drewN nq⟩
        · have hxy : (!x.toList == y.toList) = false := by assumption
          have h2 : x = y := toList_eq (by simpa using hxy)
          exact ⟨⟨k + 1, by omega, by go_num, hbel.to_drewN nq, take_eq_snoc HT.out HX.out (by rw [h2]; exact HY.out)⟩, by simp [intOf]; omega⟩
      · obtain rfl : k = n1 := by omega
        have hr : R = true := by
          rw [← HR.out]
          exact decide_eq_true (names_eq H1.out H2.out htk)
        subst hr
        clear HR htk
        go_wp2_with fail
        go_ret
        exact ⟨rfl, hbel⟩
  · have hf : R = false := by
      rw [← HR.out]
      simp
      intro e
      rw [e] at H1
      have := H1.out
      have := H2.out
      omega
    subst hf
    have e1 : ((n1 : Int) == n2) = false := by simp; omega
    have e2 : ((n1 : Int) != n2) = true := by simp; omega
    clear he
    go_enter Tryz.func29, Tryz.ntmps29
    go_wp2_with fail
    go_ret
    exact ⟨rfl, by (repeat (first | exact Bel.refl _ | assumption | refine Bel.to_drewN ?_ _ | refine Bel.to_drew ?_ | refine Bel.to_setCell ?_ (by first | exact Nat.le_refl _ | (simp; done) | (simp; omega) | omega) _ | refine Bel.to_alloc ?_ _ | refine Bel.trans ?_ (by assumption)))⟩
theorem samesE_drop (a b : List Ex) (i : Nat) (x y : Ex) (h1 : a[i]? = some x) (h2 : b[i]? = some y) : samesE (a.drop i) (b.drop i) = (sameE x y && samesE (a.drop (i + 1)) (b.drop (i + 1))) := by
  obtain ⟨hi, hx⟩ := List.getElem?_eq_some_iff.1 h1
  obtain ⟨hj, hy⟩ := List.getElem?_eq_some_iff.1 h2
  rw [List.drop_eq_getElem_cons hi, hx, List.drop_eq_getElem_cons hj, hy]
  conv => lhs; unfold samesE
theorem samesE_len : ∀ a b : List Ex, a.length ≠ b.length → samesE a b = false
  | [], [], h => absurd rfl h
  | [], _ :: _, _ => by unfold samesE; rfl
  | _ :: _, [], _ => by unfold samesE; rfl
  | x :: a, y :: b, h => by
    unfold samesE
    rw [samesE_len a b (by simpa using h), Bool.and_false]
set_option maxRecDepth 100000 in
set_option maxHeartbeats 2000000 in
theorem equalX_c (l1 l2 : List Ex) (a1 a2 : Option Addr) (n1 c1 n2 c2 : Nat) (w : World) (h1 : l1.length = n1) (h2 : l2.length = n2) (hn1 : n1 ≤ 1073741824) (hn2 : n2 ≤ 1073741824) (hs1 : PartsAt w a1 l1) (hs2 : PartsAt w a2 l2)
    (hcall : ∀ x ∈ l1, ∀ y xn xl yn yl wr, Bel w wr → y ∈ l2 → ExAt wr x xn xl → ExAt wr y yn yl → Calls Tryz.prog 55 #[.agg #[.int .i64 x.k, .string x.s, xn, xl], .agg #[.int .i64 y.k, .string y.s, yn, yl]] wr (RetBel (.bool (sameE x y)) wr)) :
    Calls Tryz.prog 54 #[.slice a1 n1 c1, .slice a2 n2 c2, .func (.func 55) #[] #[]] w (RetBel (.bool (samesE l1 l2)) w) := by
  have H1 := Lib.hid h1
  have H2 := Lib.hid h2
  have S1 := Lib.hid hs1
  have S2 := Lib.hid hs2
  have HCALL := Lib.hid hcall
  have hen := fun args w1 => enters_of Tryz.func55 (by kernel_rfl) rfl args w1
  obtain ⟨R, hR⟩ : ∃ R, samesE l1 l2 = R := ⟨_, rfl⟩
  rw [hR]
  have HR := Lib.hid hR
  clear hR h1 h2 hs1 hs2 hcall
  by_cases he : n1 = n2
  · subst he
    go_enter Tryz.func54, Tryz.ntmps54
    go_wp2_with fail
    go_loopw [17] (fun i wr => ∃ k : Nat, k ≤ n1 ∧ i = .int .i64 k ∧ Bel w wr ∧ samesE (l1.drop k) (l2.drop k) = R) (fun i _ => n1 - (intOf i).toNat)
    case atStart => exact ⟨0, Nat.zero_le _, rfl, Bel.refl _, HR.out⟩
    case round =>
      obtain ⟨k, hk, rfl, hbel, htk⟩ := hrel
      by_cases hkn : k < n1
      · have hki : (k : Int) < n1 := by omega
        obtain ⟨x, hx⟩ : ∃ x, l1[k]? = some x := ⟨_, List.getElem?_eq_getElem (by have := H1.out; omega)⟩
        obtain ⟨y, hy⟩ : ∃ y, l2[k]? = some y := ⟨_, List.getElem?_eq_getElem (by have := H2.out; omega)⟩
        obtain ⟨b1, o1, xna, xnn, xnc, xla, xln, xlc, rfl, g0, g1, g2, g3, hxa⟩ := S1.out k x hx
        obtain ⟨b2, o2, yna, ynn, ync, yla, yln, ylc, rfl, g4, g5, g6, g7, hya⟩ := S2.out k y hy
        have f0 := hbel.keep g0
        have f1 := hbel.keep g1
        have f2 := hbel.keep g2
        have f3 := hbel.keep g3
        have f4 := (hbel.to_alloc (.cells #[.int .i64 x.k, .string x.s, .slice xna xnn xnc, .slice xla xln xlc] 38)).keep g4
        have f5 := (hbel.to_alloc (.cells #[.int .i64 x.k, .string x.s, .slice xna xnn xnc, .slice xla xln xlc] 38)).keep g5
        have f6 := (hbel.to_alloc (.cells #[.int .i64 x.k, .string x.s, .slice xna xnn xnc, .slice xla xln xlc] 38)).keep g6
        have f7 := (hbel.to_alloc (.cells #[.int .i64 x.k, .string x.s, .slice xna xnn xnc, .slice xla xln xlc] 38)).keep g7
        have hc := fun W (hb : Bel wr W) => HCALL.out x (List.mem_of_getElem? hx) y (.slice xna xnn xnc) (.slice xla xln xlc) (.slice yna ynn ync) (.slice yla yln ylc) W (hbel.trans hb) (List.mem_of_getElem? hy) (ExAt.bel (hbel.trans hb) x hxa) (ExAt.bel (hbel.trans hb) y hya)
        rw [samesE_drop l1 l2 k x y hx hy] at htk
        obtain ⟨S, hS⟩ : ∃ S, sameE x y = S := ⟨_, rfl⟩
        rw [hS] at hc htk
        have HC := Lib.hid hc
        have HT := Lib.hid htk
        have HB := Lib.hid hbel
        clear g0 g1 g2 g3 g4 g5 g6 g7 hxa hya hc htk hS hx hy hbel
        cases S with
        | true =>
          go_wp2_with ((with_reducible refine (HC.out _ ((Bel.alloc _ _).trans (Bel.alloc _ _))).mono ?_); rintro e w1 ⟨rfl, hb1⟩)
          exact ⟨⟨k + 1, by omega, by go_num, HB.out.trans (((Bel.alloc _ _).trans (Bel.alloc _ _)).trans (by assumption)), by simpa using HT.out⟩, by simp [intOf]; omega⟩
        | false =>
          go_wp2_with ((with_reducible refine (HC.out _ ((Bel.alloc _ _).trans (Bel.alloc _ _))).mono ?_); rintro e w1 ⟨rfl, hb1⟩)
          go_ret
          exact ⟨ret_bool (by simpa using HT.out), HB.out.trans (((Bel.alloc _ _).trans (Bel.alloc _ _)).trans (by assumption))⟩
      · obtain rfl : k = n1 := by omega
        have hr : R = true := by
          rw [← htk, List.drop_of_length_le (by have := H1.out; omega), List.drop_of_length_le (by have := H2.out; omega)]
          unfold samesE
          rfl
        subst hr
        clear HR htk
        go_wp2_with fail
        go_ret
        exact ⟨rfl, hbel⟩
  · have hf : R = false := by
      rw [← HR.out]
      exact samesE_len l1 l2 (by rw [H1.out, H2.out]; exact he)
    subst hf
    have e1 : ((n1 : Int) == n2) = false := by simp; omega
    have e2 : ((n1 : Int) != n2) = true := by simp; omega
    clear he
    go_enter Tryz.func54, Tryz.ntmps54
    go_wp2_with fail
    go_ret
    exact ⟨rfl, by (repeat (first | exact Bel.refl _ | assumption | refine Bel.to_drewN ?_ _ | refine Bel.to_drew ?_ | refine Bel.to_setCell ?_ (by first | exact Nat.le_refl _ | (simp; done) | (simp; omega) | omega) _ | refine Bel.to_alloc ?_ _ | refine Bel.trans ?_ (by assumption)))⟩
set_option maxRecDepth 100000 in
set_option maxHeartbeats 4000000 in
theorem same_e : ∀ (n : Nat) (a : Ex), a.bulk ≤ n → n ≤ 1073741824 → ∀ (b : Ex) (an al bn bl : Value) (w : World), b.bulk ≤ 1073741824 → ExAt w a an al → ExAt w b bn bl →
    Calls Tryz.prog 55 #[.agg #[.int .i64 a.k, .string a.s, an, al], .agg #[.int .i64 b.k, .string b.s, bn, bl]] w (RetBel (.bool (sameE a b)) w) := by
  intro n
  induction n with
  | zero => intro e he; exfalso; have := bulk_eq e; omega
  | succ n ih =>
    intro a ha hn b an al bn bl w hb hat1 hat2
    have HAT1 := Lib.hid hat1
    have HAT2 := Lib.hid hat2
    obtain ⟨na, la, nn, nc, m, lc, rfl, rfl, hnn, hm, hnc, hlc, hnb, hmb, hns, hps⟩ := hat1.opened
    obtain ⟨na', la', nn', nc', m', lc', rfl, rfl, hnn', hm', hnc', hlc', hnb', hmb', hns', hps'⟩ := hat2.opened
    have HEQ := Lib.hid (fun W (hbW : Bel w W) => equal_c a.ns b.ns na na' nn nc nn' nc' W hnn hnn' (by omega) (by omega) (hns.bel hbW) (hns'.bel hbW))
    have HEF := Lib.hid (fun W (hbW : Bel w W) => equalX_c a.l b.l la la' m lc m' lc' W hm hm' (by omega) (by omega) (hps.bel hbW) (hps'.bel hbW) (fun x hx y xn xl yn yl wr _ hy hx2 hy2 => by
      obtain ⟨i, hi⟩ := List.getElem?_of_mem hx
      obtain ⟨j, hj⟩ := List.getElem?_of_mem hy
      have h1 := bulk_part hi
      have h2 := bulk_part hj
      exact ih x (by omega) (by omega) y _ _ _ _ wr (by omega) hx2 hy2))
    have hR : sameE a b = ((a.k == b.k) && ((a.s.toList == b.s.toList) && (decide (a.ns = b.ns) && samesE a.l b.l))) := by
      obtain ⟨k, s, ns, l⟩ := a
      obtain ⟨k', s', ns', l'⟩ := b
      unfold sameE
      show (decide (k = k') && decide (s = s') && decide (ns = ns') && samesE l l') = ((k == k') && ((s.toList == s'.toList) && (decide (ns = ns') && samesE l l')))
      rw [Bool.and_assoc, Bool.and_assoc]
      have h1 : decide (k = k') = (k == k') := rfl
      have h2 : decide (s = s') = (s.toList == s'.toList) := by
        rw [Bool.eq_iff_iff]
        simp only [decide_eq_true_eq, beq_iff_eq]
        exact ⟨fun h => by rw [h], fun h => toList_eq (by simp [h])⟩
      rw [h1, h2]
    obtain ⟨k1, hk1⟩ : ∃ k, a.k = k := ⟨_, rfl⟩
    obtain ⟨k2, hk2⟩ : ∃ k, b.k = k := ⟨_, rfl⟩
    obtain ⟨s1, hs1⟩ : ∃ k, a.s = k := ⟨_, rfl⟩
    obtain ⟨s2, hs2⟩ : ∃ k, b.s = k := ⟨_, rfl⟩
    obtain ⟨q3, hq3⟩ : ∃ q, decide (a.ns = b.ns) = q := ⟨_, rfl⟩
    obtain ⟨q4, hq4⟩ : ∃ q, samesE a.l b.l = q := ⟨_, rfl⟩
    rw [hR]
    rw [hk1, hk2, hs1, hs2, hq3, hq4]
    rw [hq3] at HEQ
    rw [hq4] at HEF
    obtain ⟨q1, hq1⟩ : ∃ q, (k1 == k2) = q := ⟨_, rfl⟩
    obtain ⟨q2, hq2⟩ : ∃ q, (s1.toList == s2.toList) = q := ⟨_, rfl⟩
    rw [hq1, hq2]
    clear ih hps hm hnn hns hat1 hat2 hps' hm' hnn' hns' hR hk1 hk2 hs1 hs2 hq3 hq4
    cases q1 with
    | false =>
      go_enter Tryz.func55, Tryz.ntmps55
      go_wp2_with fail
      go_ret
      exact ⟨rfl, by (repeat (first | exact Bel.refl _ | assumption | refine Bel.to_drewN ?_ _ | refine Bel.to_drew ?_ | refine Bel.to_setCell ?_ (by first | exact Nat.le_refl _ | (simp; done) | (simp; omega) | omega) _ | refine Bel.to_alloc ?_ _ | refine Bel.trans ?_ (by assumption)))⟩
    | true =>
    cases q2 with
    | false =>
      go_enter Tryz.func55, Tryz.ntmps55
      go_wp2_with fail
      go_ret
      exact ⟨rfl, by (repeat (first | exact Bel.refl _ | assumption | refine Bel.to_drewN ?_ _ | refine Bel.to_drew ?_ | refine Bel.to_setCell ?_ (by first | exact Nat.le_refl _ | (simp; done) | (simp; omega) | omega) _ | refine Bel.to_alloc ?_ _ | refine Bel.trans ?_ (by assumption)))⟩
    | true =>
    cases q3 with
    | false =>
      go_enter Tryz.func55, Tryz.ntmps55
      go_wp2_with (go_at_call 29; refine (HEQ.out _ ((Bel.alloc _ _).trans (Bel.alloc _ _))).mono ?_; rintro e1 w1 ⟨rfl, hb1⟩)
      go_ret
      exact ⟨rfl, ((Bel.alloc _ _).trans (Bel.alloc _ _)).trans (by assumption)⟩
    | true =>
      go_enter Tryz.func55, Tryz.ntmps55
      go_wp2_with fail
      refine (HEQ.out _ ((Bel.alloc _ _).trans (Bel.alloc _ _))).mono ?_
      rintro e1 w1 ⟨rfl, hb1⟩
      have ta := ((Blk.new w 38 [.int .i64 k1, .string s1, .slice na nn nc, .slice la m lc]).bel ((Bel.alloc _ (.cells #[.int .i64 k2, .string s2, .slice na' nn' nc', .slice la' m' lc'] 38)).trans hb1))
      have tb := (Blk.new (w.alloc (.cells #[.int .i64 k1, .string s1, .slice na nn nc, .slice la m lc] 38)) 38 [.int .i64 k2, .string s2, .slice na' nn' nc', .slice la' m' lc']).bel hb1
      rw [World.size_alloc] at tb
      have z1 := ta.at 3
      have z2 := tb.at 3
      have HB1 := Lib.hid (((Bel.alloc _ _).trans (Bel.alloc _ _)).trans hb1)
      clear hb1 ta tb
      go_wp2_with (go_at_call 54; refine (HEF.out _ HB1.out).mono ?_; rintro e2 w2 ⟨rfl, hb2⟩)
      go_ret
      exact ⟨rfl, HB1.out.trans (by assumption)⟩
end Go.Proofs.YtbcdbefogfmhfaaGreatDoor

namespace Go.Proofs.YtbcdbefogfmhfaaGreatDoor
open Go.RowKit
theorem rowE_nil (W : World) : RowE W (.slice none 0 0) (strsV []) := ⟨none, 0, rfl, Nat.le_refl _, .inl rfl⟩
theorem exAt_leaf (W : World) (k : Int) (s : ByteArray) (hk : (Lit.int .i64 k).wf = true) : ExAt W (.mk k s [] []) (.slice none 0 0) (.slice none 0 0) := by
  unfold ExAt
  exact ⟨rowE_nil W, hk, none, 0, rfl, Nat.le_refl _, .inl rfl⟩
theorem exs_one {W : World} {b t : Nat} {e : Ex} {n l : Value} {cs : List Value} (hb : Blk W b t cs) (hcs : cs = [.int .i64 e.k, .string e.s, n, l]) (h : ExAt W e n l) : ExsAt W b 0 [e] := by
  subst hcs
  obtain ⟨k, s, ns, ll⟩ := e
  unfold ExsAt ExsAt
  exact ⟨⟨n, l, hb.at 0, hb.at 1, hb.at 2, hb.at 3, h⟩, trivial⟩
theorem names_of_row0 {W : World} {a : Option Addr} {n c : Nat} {l : List ByteArray} (h : RowAt0 W (.slice a n c) (strsV l)) : l.length = n ∧ n ≤ c ∧ NamesAt W a l := by
  rcases h with ⟨h1, h2⟩ | ⟨b, off, cap, h1, h2, h3, h4⟩
  · injection h1 with h3 h4 h5
    subst h3 h4 h5
    have : l = [] := by cases l with
      | nil => rfl
      | cons a l => simp [strsV] at h2
    subst this
    exact ⟨rfl, Nat.le_refl _, fun j x hx => by simp at hx⟩
  · injection h1 with h5 h6 h7
    subst h5 h6 h7
    rw [strsV_length] at h2 ⊢
    refine ⟨rfl, h2, fun j x hx => ⟨b, off, rfl, ?_⟩⟩
    obtain ⟨hj, hxx⟩ := List.getElem?_eq_some_iff.1 hx
    rw [h4 j (by rw [strsV_length]; exact hj)]
    simp [strsV, hxx]
end Go.Proofs.YtbcdbefogfmhfaaGreatDoor
