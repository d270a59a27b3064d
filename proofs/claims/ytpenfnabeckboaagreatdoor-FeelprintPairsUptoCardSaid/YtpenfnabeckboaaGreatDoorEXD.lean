/-
  expr: the walks of the document's Depth, Count, Bytes.
  expr (plain): of an expression that is right: its names, those that it needs, those that come into scope.
  expr (plain): the document's names in scope.
  expr: the walks of slices.Equal at texts, of slices.EqualFunc at expressions, of Same.
  expr's laws: trees that are made; 'same'; which expressions are more than are looked at.
-/
import Derived.Test.YtpenfnabeckboaaGreatDoorEXA
import Derived.Test.YtpenfnabeckboaaGreatDoorEXB
import Derived.BigQuiet
import Derived.Deep.QuietTactic
import Derived.Deep.DeepCutAuto
namespace Go.Proofs.YtpenfnabeckboaaGreatDoor
open Go.RowKit
/-- How many bytes texts have. -/
def bE (e : Ex) : Nat := e.bulk - cE e
def bsE (l : List Ex) : Nat := Ex.bulk.bulks l - csE l
def namesB (ns : List ByteArray) : Nat := (ns.map fun x => x.size + 1).sum
theorem bE_eq (e : Ex) : bE e = e.s.size + namesB e.ns + bsE e.l := by
  unfold bE bsE namesB
  have h1 := bulk_eq e
  have h2 := cE_eq e
  have h3 := csE_bulk e.l
  omega
theorem bsE_take (l : List Ex) (i : Nat) (x : Ex) (h : l[i]? = some x) : bsE (l.take (i + 1)) = bsE (l.take i) + bE x := by
  unfold bsE bE
  have h1 := csE_take l i x h
  have h2 : ∀ (l : List Ex) (i : Nat), l[i]? = some x → Ex.bulk.bulks (l.take (i + 1)) = Ex.bulk.bulks (l.take i) + x.bulk := by
    intro l
    induction l with
    | nil => intro i h; cases h
    | cons y r ih =>
      intro i h
      cases i with
      | zero =>
        cases h
        rw [List.take_succ_cons, List.take_zero, List.take_zero]
        unfold Ex.bulk.bulks Ex.bulk.bulks
        omega
      | succ i =>
        rw [List.take_succ_cons, List.take_succ_cons]
        unfold Ex.bulk.bulks
        rw [ih i h]
        omega
  have h3 := h2 l i h
  have h4 := csE_bulk (l.take i)
  have h5 := cE_bulk x
  omega
theorem namesB_take (ns : List ByteArray) (j : Nat) (x : ByteArray) (h : ns[j]? = some x) : namesB (ns.take (j + 1)) = namesB (ns.take j) + (1 + x.size) := by
  obtain ⟨hj, hx⟩ := List.getElem?_eq_some_iff.1 h
  unfold namesB
  rw [List.take_succ_eq_append_getElem hj, hx, List.map_append, List.sum_append]
  simp; omega
theorem namesB_le (ns : List ByteArray) (j : Nat) : namesB (ns.take j) ≤ namesB ns := by
  unfold namesB
  conv => rhs; rw [← List.take_append_drop j ns]
  rw [List.map_append, List.sum_append]; omega
theorem bsE_le (l : List Ex) (j : Nat) : bsE (l.take j) ≤ Ex.bulk.bulks l := by
  unfold bsE
  have := bulks_take l j
  omega
theorem csE_le (l : List Ex) (j : Nat) : csE (l.take j) ≤ Ex.bulk.bulks l := Nat.le_trans (csE_bulk _) (bulks_take l j)
def RetNat (P : Nat → Prop) (w : World) (e : Ending) (w' : World) : Prop := ∃ n : Nat, e = .returned (.int .i64 n) ∧ P n ∧ Bel w w'
set_option maxRecDepth 100000 in
set_option maxHeartbeats 4000000 in
theorem rdepth_c : ∀ (n : Nat) (e : Ex), e.bulk ≤ n → n ≤ 1073741824 → ∀ (vn vl : Value) (w : World) (t : Int), 0 ≤ t → t ≤ 1099511627776 → ExAt w e vn vl →
    Calls Tryz.prog 24 #[.agg #[.int .i64 e.k, .string e.s, vn, vl], .int .i64 t] w (RetNat (fun d => d = min (dE e) (t.toNat + 1)) w) := by
  intro n
  induction n with
  | zero => intro e he; exfalso; have := bulk_eq e; omega
  | succ n ih =>
    intro e he hn vn vl w t ht1 ht2 hat
    obtain ⟨na, la, nn, nc, m, lc, rfl, rfl, hnn, hm, hnc, hlc, hnb, hmb, hns, hps⟩ := hat.opened
    have PS := Lib.hid hps
    have HM := Lib.hid hm
    have HD := Lib.hid (dE_eq e)
    have HIH : Hid (∀ (x : Ex), x.bulk < e.bulk → ∀ xn xl W T, 0 ≤ T → T ≤ 1099511627776 → ExAt W x xn xl → Calls Tryz.prog 24 #[.agg #[.int .i64 x.k, .string x.s, xn, xl], .int .i64 T] W (RetNat (fun d => d = min (dE x) (T.toNat + 1)) W)) := Lib.hid fun x hx xn xl W T h1 h2 h3 => ih x (by omega) (by omega) xn xl W T h1 h2 h3
    have hm2 : m ≤ 1073741824 := by omega
    clear ih hps hm hnn hns hat
    go_enter Tryz.func24, Tryz.ntmps24
    go_wp2_with fail
    have t0 := Blk.new w 25 [.int .i64 e.k, .string e.s, .slice na nn nc, .slice la m lc]
    have hb0 : Bel w (w.alloc (.cells #[.int .i64 e.k, .string e.s, .slice na nn nc, .slice la m lc] 25)) := Bel.alloc _ _
    obtain ⟨W0, hW0⟩ : ∃ W0, w.alloc (.cells #[.int .i64 e.k, .string e.s, .slice na nn nc, .slice la m lc] 25) = W0 := ⟨_, rfl⟩
    rw [show w.alloc (.cells [Value.int .i64 e.k, .string e.s, .slice na nn nc, .slice la m lc].toArray 25) = W0 from hW0] at t0
    rw [hW0] at hb0 ⊢
    have T0 := Lib.hid t0
    have B0 := Lib.hid hb0
    clear t0 hb0 hW0
    go_loopw [5, 6] (fun d i wr => ∃ j q : Nat, j ≤ m ∧ i = .int .i64 j ∧ d = .int .i64 q ∧ q = min (dsE (e.l.take j)) t.toNat ∧ Bel W0 wr) (fun _ i _ => m - (intOf i).toNat)
    case atStart => exact ⟨0, 0, Nat.zero_le _, rfl, rfl, by rw [List.take_zero]; unfold dsE; omega, Bel.refl _⟩
    case round =>
      obtain ⟨j, q, hj, rfl, rfl, hq, hbel⟩ := hrel
      have c3 : wr.cell? ⟨w.heap.size, 3, none⟩ = some (.slice la m lc) := (T0.out.bel hbel).at 3
      have hqt : (q : Int) ≤ t := by omega
      have HQ := Lib.hid hq
      have HB := Lib.hid hbel
      clear hq hbel
      by_cases hlt : j < m
      · have hlti : (j : Int) < m := by omega
        by_cases ht0 : 0 < t
        · obtain ⟨x, hx⟩ : ∃ x, e.l[j]? = some x := ⟨_, List.getElem?_eq_getElem (by have := HM.out; omega)⟩
          obtain ⟨b, off, xna, xnn, xnc, xla, xln, xlc, rfl, g0, g1, g2, g3, hxa⟩ := PS.out j x hx
          have hxb := bulk_part hx
          have f0 := (B0.out.trans HB.out).keep g0
          have f1 := (B0.out.trans HB.out).keep g1
          have f2 := (B0.out.trans HB.out).keep g2
          have f3 := (B0.out.trans HB.out).keep g3
          have HC := Lib.hid (HIH.out x hxb (.slice xna xnn xnc) (.slice xla xln xlc) wr (t - 1) (by omega) (by omega) (ExAt.bel (B0.out.trans HB.out) x hxa))
          have HT := Lib.hid (dsE_take e.l j x hx)
          clear g0 g1 g2 g3 hxa hxb hx
          go_wp2_with fail
          refine HC.out.mono ?_
          rintro e2 w2 ⟨d, rfl, hd, hb2⟩
          have HDD := Lib.hid hd
          have hdt : (d : Int) ≤ t := by omega
          clear hd
          go_wp2_with fail
          · exact ⟨⟨j + 1, d, by omega, by go_num, rfl, by rw [HT.out]; have := HDD.out; have := HQ.out; omega, HB.out.trans hb2⟩, by simp [intOf]; omega⟩
          · exact ⟨⟨j + 1, q, by omega, by go_num, rfl, by rw [HT.out]; have := HDD.out; have := HQ.out; omega, HB.out.trans hb2⟩, by simp [intOf]; omega⟩
        · have ht3 : t ≤ 0 := by omega
          go_wp2_with fail
          go_ret
          exact ⟨q + 1, ret_int (by omega), by have := HQ.out; have := HD.out; omega, B0.out.trans HB.out⟩
      · obtain rfl : j = m := by omega
        have hfin := HQ.out
        rw [List.take_of_length_le (by rw [HM.out]; exact Nat.le_refl _)] at hfin
        have HF := Lib.hid hfin
        clear hfin
        go_wp2_with fail
        go_ret
        exact ⟨q + 1, ret_int (by omega), by have := HF.out; have := HD.out; omega, B0.out.trans HB.out⟩
theorem csE_mono (l : List Ex) (j : Nat) : csE (l.take j) ≤ csE l := by
  by_cases h : j < l.length
  · have : ∀ (d j : Nat), j + d ≤ l.length → csE (l.take j) ≤ csE (l.take (j + d)) := by
      intro d
      induction d with
      | zero => intro j _; exact Nat.le_refl _
      | succ d ih =>
        intro j hj
        have h1 := csE_take l (j + d) _ (List.getElem?_eq_getElem (by omega))
        have h2 := ih j (by omega)
        rw [← Nat.add_assoc, h1]; omega
    have h2 := this (l.length - j) j (by omega)
    rwa [show j + (l.length - j) = l.length from by omega, List.take_length] at h2
  · rw [List.take_of_length_le (by omega)]; exact Nat.le_refl _
theorem bsE_mono (l : List Ex) (j : Nat) : bsE (l.take j) ≤ bsE l := by
  by_cases h : j < l.length
  · have : ∀ (d j : Nat), j + d ≤ l.length → bsE (l.take j) ≤ bsE (l.take (j + d)) := by
      intro d
      induction d with
      | zero => intro j _; exact Nat.le_refl _
      | succ d ih =>
        intro j hj
        have h1 := bsE_take l (j + d) _ (List.getElem?_eq_getElem (by omega))
        have h2 := ih j (by omega)
        rw [← Nat.add_assoc, h1]; omega
    have h2 := this (l.length - j) j (by omega)
    rwa [show j + (l.length - j) = l.length from by omega, List.take_length] at h2
  · rw [List.take_of_length_le (by omega)]; exact Nat.le_refl _
theorem bE_bulk (e : Ex) : bE e ≤ e.bulk := by unfold bE; omega
set_option maxRecDepth 100000 in
set_option maxHeartbeats 4000000 in
theorem rcount_c : ∀ (n : Nat) (e : Ex), e.bulk ≤ n → n ≤ 1073741824 → ∀ (vn vl : Value) (w : World) (t : Int), 0 ≤ t → t ≤ 1099511627776 → ExAt w e vn vl →
    Calls Tryz.prog 22 #[.agg #[.int .i64 e.k, .string e.s, vn, vl], .int .i64 t] w (RetNat (fun c => c ≤ cE e ∧ (c = cE e ∨ t < c)) w) := by
  intro n
  induction n with
  | zero => intro e he; exfalso; have := bulk_eq e; omega
  | succ n ih =>
    intro e he hn vn vl w t ht1 ht2 hat
    obtain ⟨na, la, nn, nc, m, lc, rfl, rfl, hnn, hm, hnc, hlc, hnb, hmb, hns, hps⟩ := hat.opened
    have PS := Lib.hid hps
    have NS := Lib.hid hns
    have HM := Lib.hid hm
    have HNN := Lib.hid hnn
    have HD := Lib.hid (cE_eq e)
    have HLE := Lib.hid (fun j => csE_le e.l j)
    have HBP := Lib.hid (bulk_parts e)
    have HBE := Lib.hid (bulk_eq e)
    have HNL := Lib.hid (fun j => namesB_le e.ns j)
    have HIH : Hid (∀ (x : Ex), x.bulk < e.bulk → ∀ xn xl W T, 0 ≤ T → T ≤ 1099511627776 → ExAt W x xn xl → Calls Tryz.prog 22 #[.agg #[.int .i64 x.k, .string x.s, xn, xl], .int .i64 T] W (RetNat (fun c => c ≤ cE x ∧ (c = cE x ∨ T < c)) W)) := Lib.hid fun x hx xn xl W T h1 h2 h3 => ih x (by omega) (by omega) xn xl W T h1 h2 h3
    have hm2 : m ≤ 1073741824 := by omega
    have hn2 : nn ≤ 1073741824 := by omega
    have hs2 : e.s.size ≤ 1073741824 := by have := bulk_s e; omega
    clear ih hps hm hnn hns hat
    go_enter Tryz.func22, Tryz.ntmps22
    go_wp2_with fail
    have t0 := Blk.new w 25 [.int .i64 e.k, .string e.s, .slice na nn nc, .slice la m lc]
    have hb0 : Bel w (w.alloc (.cells #[.int .i64 e.k, .string e.s, .slice na nn nc, .slice la m lc] 25)) := Bel.alloc _ _
    obtain ⟨W0, hW0⟩ : ∃ W0, w.alloc (.cells #[.int .i64 e.k, .string e.s, .slice na nn nc, .slice la m lc] 25) = W0 := ⟨_, rfl⟩
    rw [show w.alloc (.cells [Value.int .i64 e.k, .string e.s, .slice na nn nc, .slice la m lc].toArray 25) = W0 from hW0] at t0
    rw [hW0] at hb0 ⊢
    have T0 := Lib.hid t0
    have B0 := Lib.hid hb0
    clear t0 hb0 hW0
    go_loopw [5, 6] (fun d i wr => ∃ j q : Nat, j ≤ m ∧ i = .int .i64 j ∧ d = .int .i64 q ∧ (q ≤ csE (e.l.take j) + 1 ∧ (q = csE (e.l.take j) + 1 ∨ t < q)) ∧ Bel W0 wr) (fun _ i _ => m - (intOf i).toNat)
    case atStart => exact ⟨0, 1, Nat.zero_le _, rfl, rfl, by rw [List.take_zero]; unfold csE; omega, Bel.refl _⟩
    case round =>
      obtain ⟨j, q, hj, rfl, rfl, hq, hbel⟩ := hrel
      have c3 : wr.cell? ⟨w.heap.size, 3, none⟩ = some (.slice la m lc) := (T0.out.bel hbel).at 3
      have hqt : q ≤ 1073741824 + 1 := by have := hq.1; have := HLE.out j; have := HBP.out; have := HBE.out; omega
      have HQ := Lib.hid hq
      have HB := Lib.hid hbel
      clear hq hbel
      by_cases hlt : j < m
      · have hlti : (j : Int) < m := by omega
        by_cases ht0 : (q : Int) ≤ t
        · obtain ⟨x, hx⟩ : ∃ x, e.l[j]? = some x := ⟨_, List.getElem?_eq_getElem (by have := HM.out; omega)⟩
          obtain ⟨b, off, xna, xnn, xnc, xla, xln, xlc, rfl, g0, g1, g2, g3, hxa⟩ := PS.out j x hx
          have hxb := bulk_part hx
          have f0 := (B0.out.trans HB.out).keep g0
          have f1 := (B0.out.trans HB.out).keep g1
          have f2 := (B0.out.trans HB.out).keep g2
          have f3 := (B0.out.trans HB.out).keep g3
          have HC := Lib.hid (HIH.out x hxb (.slice xna xnn xnc) (.slice xla xln xlc) wr (t - q) (by omega) (by omega) (ExAt.bel (B0.out.trans HB.out) x hxa))
          have HT := Lib.hid (csE_take e.l j x hx)
          have HX := Lib.hid (cE_bulk x)
          have HXB := Lib.hid hxb
          clear g0 g1 g2 g3 hxa hxb hx
          go_wp2_with fail
          refine HC.out.mono ?_
          rintro e2 w2 ⟨d, rfl, hd, hb2⟩
          have hdt : d ≤ 1073741824 := by have := hd.1; have := HX.out; have := HXB.out; omega
          have HDD := Lib.hid hd
          clear hd
          go_wp2_with fail
          exact ⟨⟨j + 1, q + d, by omega, by go_num, by go_num, by rw [HT.out]; have := HDD.out; have := HQ.out; omega, HB.out.trans hb2⟩, by simp [intOf]; omega⟩
        · have ht3 : t < (q : Int) := by omega
          go_wp2_with fail
          go_ret
          exact ⟨q, rfl, by have := HQ.out; have h5 := HD.out; have : csE (e.l.take j) ≤ csE e.l := csE_mono e.l j; omega, B0.out.trans HB.out⟩
      · obtain rfl : j = m := by omega
        have hfin := HQ.out
        rw [List.take_of_length_le (by rw [HM.out]; exact Nat.le_refl _)] at hfin
        have HF := Lib.hid hfin
        clear hfin
        go_wp2_with fail
        go_ret
        exact ⟨q, rfl, by have := HF.out; have := HD.out; omega, B0.out.trans HB.out⟩
set_option maxRecDepth 100000 in
set_option maxHeartbeats 4000000 in
theorem rbytes_c : ∀ (n : Nat) (e : Ex), e.bulk ≤ n → n ≤ 1073741824 → ∀ (vn vl : Value) (w : World) (t : Int), 0 ≤ t → t ≤ 1099511627776 → ExAt w e vn vl →
    Calls Tryz.prog 23 #[.agg #[.int .i64 e.k, .string e.s, vn, vl], .int .i64 t] w (RetNat (fun c => c ≤ bE e ∧ (c = bE e ∨ t < c)) w) := by
  intro n
  induction n with
  | zero => intro e he; exfalso; have := bulk_eq e; omega
  | succ n ih =>
    intro e he hn vn vl w t ht1 ht2 hat
    obtain ⟨na, la, nn, nc, m, lc, rfl, rfl, hnn, hm, hnc, hlc, hnb, hmb, hns, hps⟩ := hat.opened
    have PS := Lib.hid hps
    have NS := Lib.hid hns
    have HM := Lib.hid hm
    have HNN := Lib.hid hnn
    have HD := Lib.hid (bE_eq e)
    have HLE := Lib.hid (fun j => bsE_le e.l j)
    have HBP := Lib.hid (bulk_parts e)
    have HBE := Lib.hid (bulk_eq e)
    have HNL := Lib.hid (fun j => namesB_le e.ns j)
    have HIH : Hid (∀ (x : Ex), x.bulk < e.bulk → ∀ xn xl W T, 0 ≤ T → T ≤ 1099511627776 → ExAt W x xn xl → Calls Tryz.prog 23 #[.agg #[.int .i64 x.k, .string x.s, xn, xl], .int .i64 T] W (RetNat (fun c => c ≤ bE x ∧ (c = bE x ∨ T < c)) W)) := Lib.hid fun x hx xn xl W T h1 h2 h3 => ih x (by omega) (by omega) xn xl W T h1 h2 h3
    have hm2 : m ≤ 1073741824 := by omega
    have hn2 : nn ≤ 1073741824 := by omega
    have hs2 : e.s.size ≤ 1073741824 := by have := bulk_s e; omega
    clear ih hps hm hnn hns hat
    go_enter Tryz.func23, Tryz.ntmps23
    go_wp2_with fail
    have t0 := Blk.new w 25 [.int .i64 e.k, .string e.s, .slice na nn nc, .slice la m lc]
    have hb0 : Bel w (w.alloc (.cells #[.int .i64 e.k, .string e.s, .slice na nn nc, .slice la m lc] 25)) := Bel.alloc _ _
    obtain ⟨W0, hW0⟩ : ∃ W0, w.alloc (.cells #[.int .i64 e.k, .string e.s, .slice na nn nc, .slice la m lc] 25) = W0 := ⟨_, rfl⟩
    rw [show w.alloc (.cells [Value.int .i64 e.k, .string e.s, .slice na nn nc, .slice la m lc].toArray 25) = W0 from hW0] at t0
    rw [hW0] at hb0 ⊢
    have T0 := Lib.hid t0
    have B0 := Lib.hid hb0
    clear t0 hb0 hW0
    go_loopw [5, 6] (fun d i wr => ∃ j q : Nat, j ≤ nn ∧ i = .int .i64 j ∧ d = .int .i64 q ∧ q = e.s.size + namesB (e.ns.take j) ∧ Bel W0 wr) (fun _ i _ => nn - (intOf i).toNat)
    case atStart => exact ⟨0, e.s.size, Nat.zero_le _, rfl, rfl, by rw [List.take_zero]; rfl, Bel.refl _⟩
    case round =>
     obtain ⟨j, q, hj, rfl, rfl, hq, hbel⟩ := hrel
     have c2 : wr.cell? ⟨w.heap.size, 2, none⟩ = some (.slice na nn nc) := (T0.out.bel hbel).at 2
     have hqt : q ≤ 1073741824 + 1 := by have := HNL.out j; have := HBE.out; unfold namesB at *; omega
     by_cases hlt : j < nn
     · have hlti : (j : Int) < nn := by omega
       obtain ⟨x, hx⟩ : ∃ x, e.ns[j]? = some x := ⟨_, List.getElem?_eq_getElem (by have := HNN.out; omega)⟩
       obtain ⟨b, off, rfl, g0⟩ := NS.out j x hx
       have f0 := (B0.out.trans hbel).keep g0
       have HT := Lib.hid (namesB_take e.ns j x hx)
       have hx2 : x.size ≤ 1073741824 := by have := bulk_name (List.mem_of_getElem? hx); omega
       have HQ := Lib.hid hq
       clear hq g0 hx
       go_wp2_with fail
       exact ⟨⟨j + 1, q + (1 + x.size), by omega, by go_num, by go_num, by rw [HT.out]; have := HQ.out; omega, hbel⟩, by simp [intOf]; omega⟩
     obtain rfl : j = nn := by omega
     rw [List.take_of_length_le (by rw [HNN.out]; exact Nat.le_refl _)] at hq
     have HQ0 := Lib.hid hq
     have HBN := Lib.hid hbel
     clear hq hbel
     go_wp2_with fail
     go_loopw [5, 7] (fun d i wr => ∃ j q : Nat, j ≤ m ∧ i = .int .i64 j ∧ d = .int .i64 q ∧ (q ≤ e.s.size + namesB e.ns + bsE (e.l.take j) ∧ (q = e.s.size + namesB e.ns + bsE (e.l.take j) ∨ t < q)) ∧ Bel W0 wr) (fun _ i _ => m - (intOf i).toNat)
     case atStart => exact ⟨0, q, Nat.zero_le _, rfl, rfl, by rw [List.take_zero]; have := HQ0.out; unfold bsE Ex.bulk.bulks csE; omega, HBN.out⟩
     case round =>
       obtain ⟨j, q, hj, rfl, rfl, hq, hbel⟩ := hrel
       have c3 : wr.cell? ⟨w.heap.size, 3, none⟩ = some (.slice la m lc) := (T0.out.bel hbel).at 3
       have hqt : q ≤ 1073741824 + 1073741824 := by have := hq.1; have := HLE.out j; have := HBP.out; have := HBE.out; unfold namesB at *; omega
       have HQ := Lib.hid hq
       have HB := Lib.hid hbel
       clear hq hbel
       by_cases hlt : j < m
       · have hlti : (j : Int) < m := by omega
         by_cases ht0 : (q : Int) ≤ t
         · obtain ⟨x, hx⟩ : ∃ x, e.l[j]? = some x := ⟨_, List.getElem?_eq_getElem (by have := HM.out; omega)⟩
           obtain ⟨b, off, xna, xnn, xnc, xla, xln, xlc, rfl, g0, g1, g2, g3, hxa⟩ := PS.out j x hx
           have hxb := bulk_part hx
           have f0 := (B0.out.trans HB.out).keep g0
           have f1 := (B0.out.trans HB.out).keep g1
           have f2 := (B0.out.trans HB.out).keep g2
           have f3 := (B0.out.trans HB.out).keep g3
           have HC := Lib.hid (HIH.out x hxb (.slice xna xnn xnc) (.slice xla xln xlc) wr (t - q) (by omega) (by omega) (ExAt.bel (B0.out.trans HB.out) x hxa))
           have HT := Lib.hid (bsE_take e.l j x hx)
           have HX := Lib.hid (bE_bulk x)
           have HXB := Lib.hid hxb
           clear g0 g1 g2 g3 hxa hxb hx
           go_wp2_with fail
           refine HC.out.mono ?_
           rintro e2 w2 ⟨d, rfl, hd, hb2⟩
           have hdt : d ≤ 1073741824 := by have := hd.1; have := HX.out; have := HXB.out; omega
           have HDD := Lib.hid hd
           clear hd
           go_wp2_with fail
           exact ⟨⟨j + 1, q + d, by omega, by go_num, by go_num, by rw [HT.out]; have := HDD.out; have := HQ.out; omega, HB.out.trans hb2⟩, by simp [intOf]; omega⟩
         · have ht3 : t < (q : Int) := by omega
           go_wp2_with fail
           go_ret
           exact ⟨q, rfl, by have := HQ.out; have h5 := HD.out; have : bsE (e.l.take j) ≤ bsE e.l := bsE_mono e.l j; omega, B0.out.trans HB.out⟩
       · obtain rfl : j = m := by omega
         have hfin := HQ.out
         rw [List.take_of_length_le (by rw [HM.out]; exact Nat.le_refl _)] at hfin
         have HF := Lib.hid hfin
         clear hfin
         go_wp2_with fail
         go_ret
         exact ⟨q, rfl, by have := HF.out; have := HD.out; omega, B0.out.trans HB.out⟩
end Go.Proofs.YtpenfnabeckboaaGreatDoor

namespace Go.Proofs.YtpenfnabeckboaaGreatDoor
open Go.RowKit
theorem checksE_zero (b : Bool) : ∀ (l : List Ex) (i : Nat), checksE b i l = 0 → ∀ (j : Nat) (x : Ex), l[j]? = some x → checkE x (b && i + j == 1) = 0
  | [], _, _, j, x, h => by cases h
  | y :: r, i, hc, j, x, h => by
    unfold checksE at hc
    by_cases h0 : checkE y (b && i == 1) = 0
    · rw [if_pos h0] at hc
      cases j with
      | zero => cases h; exact h0
      | succ j =>
        have := checksE_zero b r (i + 1) hc j x h
        rwa [show i + 1 + j = i + (j + 1) from by omega] at this
    · rw [if_neg h0] at hc
      exact absurd hc h0
/-- Right, as a test or not. -/
def OkE (e : Ex) : Prop := ∃ t, checkE e t = 0
theorem OkE.own {e : Ex} (h : OkE e) : ∃ t, ownK e.k e.s e.ns e.l.length t = 0 := by
  obtain ⟨t, h⟩ := h
  rw [checkE_eq] at h
  refine ⟨t, ?_⟩
  split at h
  · assumption
  · exact h
theorem checkE_part {e : Ex} {t : Bool} (h : checkE e t = 0) {i : Nat} {x : Ex} (hx : e.l[i]? = some x) : checkE x (decide (e.k = 7) && i == 1) = 0 := by
  rw [checkE_eq] at h
  split at h
  · have := checksE_zero _ _ _ h i x hx
    rwa [Nat.zero_add] at this
  · exact absurd h (by assumption)
theorem OkE.part {e : Ex} (h : OkE e) {i : Nat} {x : Ex} (hx : e.l[i]? = some x) : OkE x := by
  obtain ⟨t, h⟩ := h
  exact ⟨_, checkE_part h hx⟩
theorem own_kind {k : Int} {s : ByteArray} {ns : List ByteArray} {n : Nat} {t : Bool} (h : ownK k s ns n t = 0) : 0 ≤ k ∧ k ≤ 19 := by
  unfold ownK at h
  split at h
  · cases h
  · rename_i h1; exact Decidable.not_not.1 h1
theorem own_form {k : Int} {s : ByteArray} {ns : List ByteArray} {n : Nat} {t : Bool} (h : ownK k s ns n t = 0) : formE k s ns.length n t = true := by
  unfold ownK at h
  split at h
  · cases h
  · split at h
    · cases h
    · rename_i h2; simpa using h2
theorem own_names {k : Int} {s : ByteArray} {ns : List ByteArray} {n : Nat} {t : Bool} (h : ownK k s ns n t = 0) : (namedK k = true → rightS s = true) ∧ (∀ x ∈ ns, rightS x = true) ∧ ns.Nodup := by
  unfold ownK at h
  split at h
  · cases h
  · split at h
    · cases h
    · split at h
      · cases h
      · rename_i h3
        split at h
        · cases h
        · rename_i h4
          simp only [Bool.or_eq_true, Bool.and_eq_true, Bool.not_eq_true', List.any_eq_true, not_or, not_and, not_exists, Bool.not_eq_false] at h3
          exact ⟨fun hn => h3.1 hn, fun x hx => h3.2 x hx, Decidable.not_not.1 h4⟩
end Go.Proofs.YtpenfnabeckboaaGreatDoor

namespace Go.Proofs.YtpenfnabeckboaaGreatDoor
open Go.RowKit
theorem names_of_row0 {W : World} {a : Option Addr} {n c : Nat} {l : List ByteArray} (h : RowAt0 W (.slice a n c) (strsV l)) : l.length = n ∧ n ≤ c ∧ NamesAt W a l := by
  rcases h with ⟨h1, h2⟩ | ⟨b, off, cap, h1, h2, h3, h4⟩
  · injection h1 with h3 h4 h5
    subst h3 h4 h5
    have : l = [] := by cases l with
      | nil => rfl
      | cons a l => simp [strsV] at h2
    subst this
    exact ⟨rfl, Nat.le_refl _, fun j x hx => by simp at hx⟩
  · injection h1 with h5 h6 h7
    subst h5 h6 h7
    rw [strsV_length] at h2 ⊢
    refine ⟨rfl, h2, fun j x hx => ⟨b, off, rfl, ?_⟩⟩
    obtain ⟨hj, hxx⟩ := List.getElem?_eq_some_iff.1 hx
    rw [h4 j (by rw [strsV_length]; exact hj)]
    simp [strsV, hxx]
/-- Is it more than is looked at? -/
def greatE (e : Ex) : Bool := decide (1500 < cE e) || decide (8000 < bE e)
/-- 1 or 0. -/
def oneIf (b : Bool) : Int := if b = true then 1 else 0
set_option maxRecDepth 100000 in
set_option maxHeartbeats 2000000 in
theorem egreat_c (l : List Ex) (a : Option Addr) (n c : Nat) (w : World) (hn : l.length = n) (hn2 : n ≤ 1073741824) (hps : PartsAt w a l) (hbk : ∀ x ∈ l, x.bulk ≤ 1073741824) :
    Calls Tryz.prog 8 #[.slice a n c] w (RetBel (.int .i64 (oneIf (l.any greatE))) w) := by
  have HN := Lib.hid hn
  have PS := Lib.hid hps
  have HBK := Lib.hid hbk
  obtain ⟨R, hR⟩ : ∃ R, l.any greatE = R := ⟨_, rfl⟩
  rw [hR]
  have HR := Lib.hid hR
  clear hn hps hbk hR
  go_enter Tryz.func8, Tryz.ntmps8
  go_wp2_with fail
  go_loopw [7] (fun i wr => ∃ k : Nat, k ≤ n ∧ i = .int .i64 k ∧ Bel w wr ∧ (l.drop k).any greatE = R) (fun i _ => n - (intOf i).toNat)
  case atStart => exact ⟨0, Nat.zero_le _, rfl, Bel.refl _, HR.out⟩
  case round =>
    obtain ⟨k, hk, rfl, hbel, hd⟩ := hrel
    by_cases hkn : k < n
    · have hki : (k : Int) < n := by omega
      obtain ⟨x, hx⟩ : ∃ x, l[k]? = some x := ⟨_, List.getElem?_eq_getElem (by have := HN.out; omega)⟩
      obtain ⟨b, off, xna, xnn, xnc, xla, xln, xlc, rfl, g0, g1, g2, g3, hxa⟩ := PS.out k x hx
      have f0 := hbel.keep g0
      have f1 := hbel.keep g1
      have f2 := hbel.keep g2
      have f3 := hbel.keep g3
      have hxb := HBK.out x (List.mem_of_getElem? hx)
      have HC := Lib.hid (fun W (hb : Bel wr W) => rcount_c x.bulk x (Nat.le_refl _) hxb (.slice xna xnn xnc) (.slice xla xln xlc) W 1500 (by omega) (by omega) (ExAt.bel (hbel.trans hb) x hxa))
      have HY := Lib.hid (fun W (hb : Bel wr W) => rbytes_c x.bulk x (Nat.le_refl _) hxb (.slice xna xnn xnc) (.slice xla xln xlc) W 8000 (by omega) (by omega) (ExAt.bel (hbel.trans hb) x hxa))
      obtain ⟨hi, hxx⟩ := List.getElem?_eq_some_iff.1 hx
      rw [List.drop_eq_getElem_cons hi, hxx, List.any_cons] at hd
      have HD := Lib.hid hd
      have HB := Lib.hid hbel
      clear hd hbel hx hxx hi g0 g1 g2 g3 hxa hxb
      go_wp2_with fail
      refine (HC.out _ (Bel.alloc _ _)).mono ?_
      rintro e1 w1 ⟨cn, rfl, ⟨hc1, hc2⟩, hb1⟩
      have y0 := (Blk.new wr 25 [.int .i64 x.k, .string x.s, .slice xna xnn xnc, .slice xla xln xlc]).bel hb1
      have z0 := y0.at 0
      have z1 := y0.at 1
      have z2 := y0.at 2
      have z3 := y0.at 3
      have HB1 := Lib.hid ((Bel.alloc _ _).trans hb1)
      have HG := Lib.hid (show (cE x ≤ 1500 ∧ cn ≤ 1500) ∨ (1500 < cE x ∧ 1500 < cn) by omega)
      clear hb1 y0 f0 f1 f2 f3 HC hc1 hc2
      by_cases hcn : 1500 < cn
      · have hci : (1500 : Int) < cn := by omega
        have hr : R = true := by
          rw [← HD.out]
          unfold greatE
          have := HG.out
          rw [decide_eq_true (show 1500 < cE x by omega)]
          simp
        have HRT := Lib.hid hr
        clear hcn hr
        go_wp2_with fail
        go_ret
        exact ⟨ret_int (by rw [HRT.out]; rfl), HB.out.trans HB1.out⟩
      · have hci : ¬ (1500 : Int) < cn := by omega
        have HCL : Hid (cE x ≤ 1500) := Lib.hid (by have := HG.out; omega)
        clear hcn HG
        go_wp2_with fail
        refine (HY.out _ HB1.out).mono ?_
        rintro e2 w2 ⟨dn, rfl, ⟨hd1, hd2⟩, hb2⟩
        have HG := Lib.hid (show (bE x ≤ 8000 ∧ dn ≤ 8000) ∨ (8000 < bE x ∧ 8000 < dn) by omega)
        clear hd1 hd2 HY z0 z1 z2 z3
        by_cases hdn : 8000 < dn
        · have hdi : (8000 : Int) < dn := by omega
          have hr : R = true := by
            rw [← HD.out]
            unfold greatE
            have := HG.out
            rw [decide_eq_true (show 8000 < bE x by omega)]
            simp
          have HRT := Lib.hid hr
          clear hdn hr
          go_wp2_with fail
          go_ret
          exact ⟨ret_int (by rw [HRT.out]; rfl), HB.out.trans (HB1.out.trans hb2)⟩
        · have hdi : ¬ (8000 : Int) < dn := by omega
          have hr : greatE x = false := by
            unfold greatE
            have := HG.out
            have := HCL.out
            rw [decide_eq_false (by omega), decide_eq_false (by omega)]
            rfl
          have HD2 : Hid ((l.drop (k + 1)).any greatE = R) := Lib.hid (by have := HD.out; rwa [hr, Bool.false_or] at this)
          clear hdn hr
          go_wp2_with fail
          exact ⟨⟨k + 1, by omega, by go_num, HB.out.trans (HB1.out.trans hb2), HD2.out⟩, by simp [intOf]; omega⟩
    · obtain rfl : k = n := by omega
      rw [List.drop_of_length_le (by have := HN.out; omega)] at hd
      have hr : R = false := by rw [← hd]; rfl
      subst hr
      clear HR hd
      go_wp2_with fail
      go_ret
      exact ⟨rfl, hbel⟩
end Go.Proofs.YtpenfnabeckboaaGreatDoor
