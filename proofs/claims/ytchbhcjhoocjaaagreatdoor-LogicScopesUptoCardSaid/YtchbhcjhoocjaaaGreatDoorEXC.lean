/-
  expr: what Free keeps: how often names are bound, which are found; how much is written.
  expr: the walk of find.
  expr: the walk of Free.
  expr: the walk of Scoped.
-/
import Derived.Test.YtchbhcjhoocjaaaGreatDoorEXB
import Derived.Maps.OwnSet
import Derived.Maps.OwnOps
import Derived.Sort.KeysCollected
import Derived.StringKeys
import Derived.Deep.DeepCutAuto
import Derived.BigQuiet
import Derived.Deep.QuietTactic
import Derived.Test.YtchbhcjhoocjaaaGreatDoorSPA
import Derived.Maps.RangeWalk
import Derived.Carry
namespace Go.Proofs.YtchbhcjhoocjaaaGreatDoor
open Go.RowKit Go.Maps

mutual
/-- How many stores there are at most. -/
def costE : Ex → Nat
  | .mk _ _ ns l => costsE (ns.length + 1) l + 1
def costsE (c : Nat) : List Ex → Nat
  | [] => 0
  | x :: r => 2 * c + costE x + costsE c r
end
theorem costE_eq (e : Ex) : costE e = costsE (e.ns.length + 1) e.l + 1 := by obtain ⟨k, s, ns, l⟩ := e; unfold costE; rfl
theorem costsE_drop (c : Nat) (l : List Ex) (i : Nat) (x : Ex) (h : l[i]? = some x) : costsE c (l.drop i) = 2 * c + costE x + costsE c (l.drop (i + 1)) := by
  obtain ⟨hi, hx⟩ := List.getElem?_eq_some_iff.1 h
  rw [List.drop_eq_getElem_cons hi, hx]
  conv => lhs; unfold costsE
theorem cost_arith (c m S B C : Nat) (hC : C ≤ 2 * c * m + S * S) (hm : m ≤ S) (hB : c + S ≤ B) (hc : 1 ≤ c) : C + 1 ≤ B * B := by
  have h1 : (c + S) * (c + S) ≤ B * B := Nat.mul_le_mul hB hB
  have h2 : 2 * c * m ≤ 2 * c * S := Nat.mul_le_mul_left _ hm
  have h3 : (c + S) * (c + S) = c * c + 2 * c * S + S * S := by
    rw [Nat.add_mul, Nat.mul_add, Nat.mul_add, Nat.mul_comm S c, Nat.mul_assoc 2 c S]; omega
  have h4 : 1 ≤ c * c := Nat.mul_pos hc hc
  omega
theorem cost_arith2 (c m b S x r : Nat) (h1 : x ≤ b * b) (h2 : r ≤ 2 * c * m + S * S) : 2 * c + x + r ≤ 2 * c * (m + 1) + (b + S) * (b + S) := by
  have h3 : 2 * c * (m + 1) = 2 * c * m + 2 * c := by rw [Nat.mul_add, Nat.mul_one]
  have h4 : (b + S) * (b + S) = b * b + b * S + (S * b + S * S) := by rw [Nat.add_mul, Nat.mul_add, Nat.mul_add]
  omega
mutual
theorem costE_le : ∀ e : Ex, costE e ≤ e.bulk * e.bulk
  | .mk k s ns l => by
    have h := costsE_le (ns.length + 1) l
    have h1 := len_names ns
    unfold costE Ex.bulk
    exact cost_arith _ _ _ _ _ h (bulks_len l) (by omega) (by omega)
theorem costsE_le (c : Nat) : ∀ l : List Ex, costsE c l ≤ 2 * c * l.length + Ex.bulk.bulks l * Ex.bulk.bulks l
  | [] => Nat.zero_le _
  | x :: r => by
    unfold costsE Ex.bulk.bulks
    rw [List.length_cons]
    exact cost_arith2 _ _ _ _ _ _ (costE_le x) (costsE_le c r)
end
theorem given_mem {k : Int} {s : ByteArray} {ns : List ByteArray} {i : Nat} {x : ByteArray} (h : x ∈ givenK k s ns i) : x ∈ ns ∨ x = s ∨ x = ⟨#[105, 116, 101, 109]⟩ := by
  unfold givenK at h
  split at h
  · exact .inl h
  · split at h
    · exact .inl (List.mem_of_mem_take h)
    · split at h
      · cases h
      · split at h
        · exact .inr (.inr (List.mem_singleton.1 h))
        · split at h
          · exact .inr (.inl (List.mem_singleton.1 h))
          · cases h
theorem given_le (k : Int) (s : ByteArray) (ns : List ByteArray) (i : Nat) : (givenK k s ns i).length ≤ ns.length + 1 := by
  unfold givenK
  split
  · omega
  · split
    · rw [List.length_take]; omega
    · split
      · simp
      · split
        · simp
        · split <;> simp

/-- A name as a map's key. -/
def keyS (s : ByteArray) : Lit := .string s.data.toList
theorem keyS_ne {a b : ByteArray} (h : a ≠ b) : keyS a ≠ keyS b := fun e => h (data_ext (by unfold keyS at e; injection e))
theorem keyS_of {s : ByteArray} (h : s.size ≤ maxLen) : keyOf Tryz.prog 9 (.string s) = some (keyS s) := Go.WideMaps.keyOf_string_mk Tryz.underlying9 h
/-- How often a name stands there. -/
def cnt (s : ByteArray) (B : List ByteArray) : Nat := B.countP fun x => decide (x = s)
theorem cnt_zero (s : ByteArray) (B : List ByteArray) : cnt s B = 0 ↔ s ∉ B := by
  unfold cnt
  rw [List.countP_eq_zero]
  constructor
  · intro h hs; exact absurd (h s hs) (by simp)
  · intro h x hx; simp; rintro rfl; exact h hx
theorem cnt_le (s : ByteArray) (B : List ByteArray) : cnt s B ≤ B.length := List.countP_le_length
/-- How often each name is bound. -/
def CntD (D : DataW Unit) (B : List ByteArray) : Prop := IsMap D ∧ ∀ s : ByteArray, D.atKey (keyS s) (.lit (.int .i64 0)) = .lit (.int .i64 (cnt s B))
theorem CntD.start : CntD (.map []) [] := ⟨isMap_empty, fun _ => rfl⟩
theorem CntD.at {D : DataW Unit} {B : List ByteArray} (h : CntD D B) {s : ByteArray} {c : Int} (hat : D.atKey (keyS s) (.lit (.int .i64 0)) = .lit (.int .i64 c)) : c = cnt s B := by
  rw [h.2 s] at hat
  simp at hat
  exact hat.symm
theorem CntD.put {D : DataW Unit} {B B' : List ByteArray} (h : CntD D B) (s : ByteArray) {c : Int} (hc : c = cnt s B') (ho : ∀ x, x ≠ s → cnt x B' = cnt x B) : CntD (D.put (keyS s) (.lit (.int .i64 c))) B' := by
  refine ⟨h.1.put _ _, fun x => ?_⟩
  by_cases hx : x = s
  · subst hx
    rw [atKey_put_same h.1 (by trivial), hc]
  · rw [atKey_put_other (keyS_ne hx), h.2 x, ho x hx]
theorem CntD.del {D : DataW Unit} {B : List ByteArray} (h : CntD D B) (s : ByteArray) (h0 : cnt s B = 0) : CntD (D.del (keyS s)) B := by
  refine ⟨h.1.del _, fun x => ?_⟩
  by_cases hx : x = s
  · subst hx
    rw [atKey_del_same, h0]
    rfl
  · rw [atKey_del_other (keyS_ne hx), h.2 x]
/-- Which names are found. -/
def HasD (D : DataW Unit) (F : List ByteArray) : Prop := IsMap D ∧ ∀ s : ByteArray, Maps.has D (keyS s) = decide (s ∈ F)
theorem HasD.start : HasD (.map []) [] := ⟨isMap_empty, fun _ => by simp [Maps.has]⟩
theorem HasD.put {D : DataW Unit} {F : List ByteArray} (h : HasD D F) (s : ByteArray) (d : DataW Unit) : HasD (D.put (keyS s) d) (F ++ [s]) := by
  refine ⟨h.1.put _ _, fun x => ?_⟩
  by_cases hx : x = s
  · subst hx
    rw [has_put_same h.1 (by trivial)]
    simp
  · rw [has_put_other (keyS_ne hx), h.2 x]
    simp [hx]

/-- Nothing but two blocks has turned. -/
structure But (p q : Nat) (w w' : World) : Prop where
  os : w'.os = w.os
  tape : w'.tape = w.tape
  output : w'.output = w.output
  size : w.heap.size ≤ w'.heap.size
  block : ∀ k, k < w.heap.size → k ≠ p → k ≠ q → w'.heap[k]? = w.heap[k]?
theorem But.refl (p q : Nat) (w : World) : But p q w w := ⟨rfl, rfl, rfl, Nat.le_refl _, fun _ _ _ _ => rfl⟩
theorem But.trans {p q : Nat} {a b c : World} (h : But p q a b) (k : But p q b c) : But p q a c :=
  ⟨k.os.trans h.os, k.tape.trans h.tape, k.output.trans h.output, Nat.le_trans h.size k.size, fun i hi h1 h2 => (k.block i (Nat.lt_of_lt_of_le hi h.size) h1 h2).trans (h.block i hi h1 h2)⟩
theorem Bel.but {w w' : World} (h : Bel w w') (p q : Nat) : But p q w w' := ⟨Below.os h, Below.tape h, Below.output h, Bel.size h, fun _ hk _ _ => h.block hk⟩
theorem But.of_p {p q : Nat} {w w' : World} (h : w.grownBy w' (some p)) : But p q w w' := ⟨h.os, h.tape, h.output, h.size, fun k hk h1 _ => h.block k hk (fun e => h1 (Option.some.inj e))⟩
theorem But.of_q {p q : Nat} {w w' : World} (h : w.grownBy w' (some q)) : But p q w w' := ⟨h.os, h.tape, h.output, h.size, fun k hk _ h2 => h.block k hk (fun e => h2 (Option.some.inj e))⟩
theorem But.keep {p q : Nat} {w w' : World} (h : But p q w w') {b o : Nat} {v : Value} (hc : w.cell? ⟨b, o, none⟩ = some v) (h1 : b ≠ p) (h2 : b ≠ q) : w'.cell? ⟨b, o, none⟩ = some v := by
  rw [← hc]
  exact World.cell?_of_block (w := w) (a := ⟨b, o, none⟩) (h.block b (cell_lt hc) h1 h2)
theorem But.bel {p q : Nat} {u w w' : World} (h : But p q w w') (hb : Bel u w) (h1 : u.heap.size ≤ p) (h2 : u.heap.size ≤ q) : Bel u w' :=
  ⟨h.os.trans (Below.os hb), h.tape.trans (Below.tape hb), h.output.trans (Below.output hb), Nat.le_trans hb.size h.size, fun k hk => (h.block k (Nat.lt_of_lt_of_le hk hb.size) (by omega) (by omega)).trans (hb.block hk)⟩

/-- What a finder holds: two maps. -/
structure FindW (u W : World) (po bb bf : Nat) (B F : List ByteArray) (n : Nat) : Prop where
  bel : Bel u W
  lb : u.heap.size ≤ bb
  lf : u.heap.size ≤ bf
  nbf : bb ≠ bf
  nbo : po ≠ bb
  nfo : po ≠ bf
  c0 : W.cell? ⟨po, 0, none⟩ = some (.map (some bb))
  c1 : W.cell? ⟨po, 1, none⟩ = some (.map (some bf))
  bound : ∃ D, W.ownsMap Tryz.prog 9 (plainElem Tryz.prog 3) bb n D ∧ CntD D B
  found : ∃ D, W.ownsMap Tryz.prog 9 (plainElem Tryz.prog 4) bf n D ∧ HasD D F
  len : B.length ≤ n
theorem FindW.mono {u W : World} {po bb bf : Nat} {B F : List ByteArray} {n n' : Nat} (h : FindW u W po bb bf B F n) (hn : n ≤ n') : FindW u W po bb bf B F n' := by
  obtain ⟨h1, h2, h3, h4, h5, h6, h7, h8, ⟨D, h9, h10⟩, ⟨D', h11, h12⟩, h13⟩ := h
  exact ⟨h1, h2, h3, h4, h5, h6, h7, h8, ⟨D, h9.mono hn, h10⟩, ⟨D', h11.mono hn, h12⟩, Nat.le_trans h13 hn⟩
theorem own_kept {P : Program} {k : TypeId} {R : Value → Option (DataW Unit × List MemPlace)} {w w' : World} {b n : Nat} {D : DataW Unit} (h : w.ownsMap P k R b n D) (hb : w'.heap[b]? = w.heap[b]?) : w'.ownsMap P k R b n D := by
  obtain ⟨es, c, h1, h2⟩ := h
  exact ⟨es, c, hb.trans h1, h2⟩
theorem FindW.to {u W W' : World} {po bb bf : Nat} {B F : List ByteArray} {n : Nat} (h : FindW u W po bb bf B F n) (hb : Bel W W') : FindW u W' po bb bf B F n := by
  obtain ⟨h1, h2, h3, h4, h5, h6, h7, h8, ⟨D, h9, h10⟩, ⟨D', h11, h12⟩, h13⟩ := h
  exact ⟨h1.trans hb, h2, h3, h4, h5, h6, hb.keep h7, hb.keep h8, ⟨D, own_mapBel h9 hb, h10⟩, ⟨D', own_mapBel h11 hb, h12⟩, h13⟩
theorem FindW.inb {u W W' : World} {po bb bf : Nat} {B B' F : List ByteArray} {n m : Nat} (h : FindW u W po bb bf B F n) {D : DataW Unit} (hown : W'.ownsMap Tryz.prog 9 (plainElem Tryz.prog 3) bb m D) (hD : CntD D B') (hg : W.grownBy W' (some bb)) (hm : n ≤ m) (hl : B'.length ≤ m) : FindW u W' po bb bf B' F m := by
  have hbut : But bb bf W W' := But.of_p hg
  obtain ⟨h1, h2, h3, h4, h5, h6, h7, h8, _, ⟨D', h11, h12⟩, _⟩ := h
  exact ⟨hbut.bel h1 h2 h3, h2, h3, h4, h5, h6, hbut.keep h7 h5 h6, hbut.keep h8 h5 h6, ⟨D, hown, hD⟩, ⟨D', (own_kept h11 (hg.block bf h11.lt (fun e => h4 (Option.some.inj e).symm))).mono hm, h12⟩, hl⟩
theorem FindW.inf {u W W' : World} {po bb bf : Nat} {B F F' : List ByteArray} {n : Nat} (h : FindW u W po bb bf B F n) {D : DataW Unit} (hown : W'.ownsMap Tryz.prog 9 (plainElem Tryz.prog 4) bf (n + 1) D) (hD : HasD D F') (hg : W.grownBy W' (some bf)) : FindW u W' po bb bf B F' (n + 1) := by
  have hbut : But bb bf W W' := But.of_q hg
  obtain ⟨h1, h2, h3, h4, h5, h6, h7, h8, ⟨D', h11, h12⟩, _, h13⟩ := h
  exact ⟨hbut.bel h1 h2 h3, h2, h3, h4, h5, h6, hbut.keep h7 h5 h6, hbut.keep h8 h5 h6, ⟨D', (own_kept h11 (hg.block bb h11.lt (fun e => h4 (Option.some.inj e)))).mono (Nat.le_succ _), h12⟩, ⟨D, hown, hD⟩, Nat.le_succ_of_le h13⟩
end Go.Proofs.YtchbhcjhoocjaaaGreatDoor

namespace Go.Proofs.YtchbhcjhoocjaaaGreatDoor
open Go.RowKit Go.Maps

theorem own_cell_ne {P : Program} {k : TypeId} {R : Value → Option (DataW Unit × List MemPlace)} {w : World} {b n : Nat} {D : DataW Unit} (h : w.ownsMap P k R b n D) {c o : Nat} {v : Value} (hc : w.cell? ⟨c, o, none⟩ = some v) : c ≠ b := by
  obtain ⟨es, ck, hh, _⟩ := h
  rintro rfl
  simp [World.cell?, hh] at hc
theorem FindW.keep {u W W' : World} {po bb bf : Nat} {B F : List ByteArray} {n : Nat} (h : FindW u W po bb bf B F n) (hb : But bb bf W W') {c o : Nat} {v : Value} (hc : W.cell? ⟨c, o, none⟩ = some v) : W'.cell? ⟨c, o, none⟩ = some v := by
  obtain ⟨D, h1, _⟩ := h.bound
  obtain ⟨D', h2, _⟩ := h.found
  exact hb.keep hc (own_cell_ne h1 hc) (own_cell_ne h2 hc)
theorem FindW.names {u W W' : World} {po bb bf : Nat} {B F : List ByteArray} {n : Nat} (h : FindW u W po bb bf B F n) (hb : But bb bf W W') {a : Option Addr} {l : List ByteArray} (hn : NamesAt W a l) : NamesAt W' a l := fun j x hx => by
  obtain ⟨b, off, h1, h2⟩ := hn j x hx
  exact ⟨b, off, h1, h.keep hb h2⟩
theorem Blk.but {u W W' : World} {po bb bf : Nat} {B F : List ByteArray} {n : Nat} {b t : Nat} {l : List Value} (ht : Blk W b t l) (h : FindW u W po bb bf B F n) (hb : But bb bf W W') : Blk W' b t l := by
  obtain ⟨D, ⟨es, ck, h1, _⟩, _⟩ := h.bound
  obtain ⟨D', ⟨es', ck', h2, _⟩, _⟩ := h.found
  unfold Blk at ht ⊢
  rw [← ht]
  exact hb.block b (Array.getElem?_eq_some_iff.1 ht).1 (by rintro rfl; rw [h1] at ht; cases ht) (by rintro rfl; rw [h2] at ht; cases ht)
/-- What find is to answer. -/
def RetFind (u : World) (po bb bf : Nat) (B F : List ByteArray) (n : Nat) (w : World) (e : Ending) (w' : World) : Prop := e = .returned (.tuple #[]) ∧ (∃ n', n' ≤ n ∧ FindW u w' po bb bf B F n') ∧ But bb bf w w'
theorem lawS : Keyed Tryz.prog 9 := string_keyed Tryz.underlying9
theorem find_look {u W : World} {po bb bf : Nat} {B F : List ByteArray} {n : Nat} (h : FindW u W po bb bf B F n) {s : ByteArray} (hs : s.size ≤ maxLen) {c : Int} (hc : (cnt s B : Int) = c) :
    (Instr.lookup 116 (.map (some bb)) (.string s) false).run Tryz.prog W = .ok (.int .i64 c) W := by
  obtain ⟨D, h1, h2⟩ := h.bound
  have hz : (zeroValue 3).run Tryz.prog W = .ok (.int .i64 0) W := by kernel_rfl
  obtain ⟨v, hrun, hat, _⟩ := h1.lookup_int lawS Tryz.underlying116 Tryz.underlying3 hz (keyS_of hs)
  rw [h2.at hat, hc] at hrun
  exact hrun
theorem find_put {u W : World} {po bb bf : Nat} {B F : List ByteArray} {n : Nat} (h : FindW u W po bb bf B F n) (hn : n < 4611686018427387904) {s : ByteArray} (hs : s.size ≤ maxLen) {B' : List ByteArray} {c : Int} (hc : c = cnt s B') (hl : B'.length ≤ n + 1) (ho : ∀ x, x ≠ s → cnt x B' = cnt x B) :
    ∃ W', (Instr.mapUpdate 116 (.map (some bb)) (.string s) (.int .i64 c)).run Tryz.prog W = .ok () W' ∧ FindW u W' po bb bf B' F (n + 1) ∧ But bb bf W W' := by
  obtain ⟨D, h1, h2⟩ := h.bound
  have hcw : (Lit.int .i64 c).wf = true := WalkArith.wf_i64 (by have := cnt_le s B'; omega)
  obtain ⟨W', hrun, hown, hg⟩ := h1.update lawS Tryz.underlying116 (by unfold maxLen; omega) (keyS_of hs) (plainElem_int Tryz.underlying3 hcw)
  exact ⟨W', hrun, h.inb hown (h2.put s hc ho) hg (Nat.le_succ _) hl, But.of_p hg⟩
theorem find_mark {u W : World} {po bb bf : Nat} {B F : List ByteArray} {n : Nat} (h : FindW u W po bb bf B F n) (hn : n < 4611686018427387904) {s : ByteArray} (hs : s.size ≤ maxLen) :
    ∃ W', (Instr.mapUpdate 63 (.map (some bf)) (.string s) (.bool true)).run Tryz.prog W = .ok () W' ∧ FindW u W' po bb bf B (F ++ [s]) (n + 1) ∧ But bb bf W W' := by
  obtain ⟨D, h1, h2⟩ := h.found
  obtain ⟨W', hrun, hown, hg⟩ := h1.update lawS Tryz.underlying63 (by unfold maxLen; omega) (keyS_of hs) (plainElem_bool Tryz.underlying4 true)
  exact ⟨W', hrun, h.inf hown (h2.put s _) hg, But.of_q hg⟩
theorem count_take {G B : List ByteArray} {t : Nat} {x : ByteArray} (hx : G[t]? = some x) : (cnt x (G.take (t + 1) ++ B) = cnt x (G.take t ++ B) + 1) ∧ ∀ y, y ≠ x → cnt y (G.take (t + 1) ++ B) = cnt y (G.take t ++ B) := by
  rw [List.take_add_one, hx]
  unfold cnt
  simp only [Option.toList, List.countP_append, List.countP_cons, List.countP_nil]
  refine ⟨by simp; omega, fun y hy => ?_⟩
  rw [if_neg (by simpa using fun e => hy e.symm)]
  rfl
theorem count_drop {G B : List ByteArray} {t : Nat} {x : ByteArray} (hx : G[t]? = some x) : (cnt x (G.drop t ++ B) = cnt x (G.drop (t + 1) ++ B) + 1) ∧ ∀ y, y ≠ x → cnt y (G.drop (t + 1) ++ B) = cnt y (G.drop t ++ B) := by
  obtain ⟨hi, hxx⟩ := List.getElem?_eq_some_iff.1 hx
  rw [List.drop_eq_getElem_cons hi, hxx, List.cons_append]
  unfold cnt
  simp only [List.countP_cons]
  refine ⟨by simp, fun y hy => ?_⟩
  rw [if_neg (by simpa using fun e => hy e.symm)]; rfl

set_option maxRecDepth 100000 in
set_option maxHeartbeats 8000000 in
theorem find_e (u : World) (po bb bf : Nat) : ∀ (n : Nat) (e : Ex), e.bulk ≤ n → n ≤ 1073741824 → ∀ (vn vl : Value) (B F : List ByteArray) (q : Nat) (w : World), FindW u w po bb bf B F q → q + costE e ≤ 4611686018427387900 → ExAt u e vn vl →
    Calls Tryz.prog 98 #[.pointer (some ⟨po, 0, none⟩), .agg #[.int .i64 e.k, .string e.s, vn, vl]] w (RetFind u po bb bf B (F ++ freeE e B) (q + costE e) w) := by
  intro n
  induction n with
  | zero => intro e he; exfalso; have := bulk_eq e; omega
  | succ n ih =>
    intro e he hn vn vl B F q w hF hq hat
    have HAT := Lib.hid hat
    obtain ⟨na, la, nn, nc, m, lc, rfl, rfl, hnn, hm, hnc, hlc, hnb, hmb, hns, hps⟩ := hat.opened
    have HG := Lib.hid (fun (i : Nat) W (hb : Bel u W) (hi : i ≤ 1073741824) => given_c e _ _ i W (by omega) hi (ExAt.bel hb e HAT.out))
    have PS := Lib.hid hps
    have HM := Lib.hid hm
    have HNN := Lib.hid hnn
    have HIH : Hid (∀ (x : Ex), x.bulk < e.bulk → ∀ xn xl B' F' q' W, FindW u W po bb bf B' F' q' → q' + costE x ≤ 4611686018427387900 → ExAt u x xn xl → Calls Tryz.prog 98 #[.pointer (some ⟨po, 0, none⟩), .agg #[.int .i64 x.k, .string x.s, xn, xl]] W (RetFind u po bb bf B' (F' ++ freeE x B') (q' + costE x) W)) := Lib.hid fun x hx xn xl B' F' q' W h1 h2 h3 => ih x (by omega) (by omega) xn xl B' F' q' W h1 h2 h3
    have hm2 : m ≤ 1073741824 := by omega
    have hss : e.s.size ≤ maxLen := by have := bulk_s e; unfold maxLen; omega
    obtain ⟨NT, hNT⟩ : ∃ NT, q + costE e = NT := ⟨_, rfl⟩
    obtain ⟨FT, hFT⟩ : ∃ FT, F ++ freeE e B = FT := ⟨_, rfl⟩
    rw [hNT] at hq ⊢
    rw [hFT]
    rw [freeE_eq] at hFT
    rw [costE_eq] at hNT
    obtain ⟨k, hk⟩ : ∃ k, e.k = k := ⟨_, rfl⟩
    rw [hk] at HG hFT ⊢
    obtain ⟨b3, hb3⟩ : ∃ b, (k == 3) = b := ⟨_, rfl⟩
    obtain ⟨cn, hcn⟩ : ∃ c, cnt e.s B = c := ⟨_, rfl⟩
    obtain ⟨z, hz⟩ : ∃ z, ((cn : Int) == 0) = z := ⟨_, rfl⟩
    obtain ⟨W0, hW0⟩ : ∃ W0, w.alloc (.cells #[.int .i64 k, .string e.s, .slice na nn nc, .slice la m lc] 26) = W0 := ⟨_, rfl⟩
    have hb0 : Bel w W0 := by rw [← hW0]; exact Bel.alloc _ _
    have t0 := Blk.new w 26 [.int .i64 k, .string e.s, .slice na nn nc, .slice la m lc]
    have hF0 := hF.to hb0
    have hlook := fun n => find_look (hF0.to (Bel.drewN _ n)) hss (c := cn) (by rw [hcn])
    have hp0 := hF0.c0
    have hp1 := hF0.c1
    have HF0 := Lib.hid hF0
    have HB0 := Lib.hid hb0
    have HFT : Hid (F ++ ((if (b3 && z) = true then [e.s] else []) ++ freesE k e.s e.ns 0 e.l B) = FT) := Lib.hid (by
      rw [← hFT]
      have : (k = 3 ∧ e.s ∉ B) ↔ (b3 && z) = true := by
        rw [← cnt_zero, hcn, ← hb3, ← hz]
        simp
      simp only [this])
    clear ih hps hm hnn hns hat hF hF0 hb0 hFT hk hcn
    subst hW0
    have HNT := Lib.hid hNT
    clear hNT
    have t0 : Blk (w.alloc (.cells #[.int .i64 k, .string e.s, .slice na nn nc, .slice la m lc] 26)) w.heap.size 26 [.int .i64 k, .string e.s, .slice na nn nc, .slice la m lc] := t0
    have T0 := Lib.hid t0
    clear t0
    go_enter Tryz.func98, Tryz.ntmps98
    go_upto_region 1 with fail
    go_cut [23] (fun v wx => v = .bool (b3 && z) ∧ Bel (w.alloc (.cells #[.int .i64 k, .string e.s, .slice na nn nc, .slice la m lc] 26)) wx)
    case first =>
      cases b3 with
      | false =>
        go_quiet (fail)
        go_wp2_with fail
        go_meet
        exact ⟨bool_eq (by simp), Bel.drewN _ _⟩
      | true =>
        go_quiet (fail)
        go_wp2_with fail
        go_meet
        exact ⟨bool_eq (by simp), Bel.drewN _ _⟩
    case rest =>
    obtain ⟨rfl, hb1⟩ := hcut
    have hF1 := HF0.out.to hb1
    have t1 := T0.out.bel hb1
    have B01 := Lib.hid (HB0.out.trans hb1)
    generalize wc = W1 at hF1 t1 hb1 B01 ⊢
    clear hb1 hlook hp0 hp1
    obtain ⟨Q, hQ⟩ : ∃ Q, (b3 && z) = Q := ⟨_, rfl⟩
    rw [hQ] at HFT ⊢
    clear hQ hb3 hz
    go_upto_if 23 with fail
    go_cut [] (fun wx => ∃ q1 F1, FindW u wx po bb bf B F1 q1 ∧ q1 ≤ q + 1 ∧ F1 ++ freesE k e.s e.ns 0 e.l B = FT ∧ But bb bf w wx ∧ Blk wx w.heap.size 26 [.int .i64 k, .string e.s, .slice na nn nc, .slice la m lc])
    case first =>
      cases Q with
      | false =>
        go_wp2_with fail
        go_meet
        exact ⟨q, F, hF1, by omega, by have := HFT.out; simpa using this, B01.out.but _ _, t1⟩
      | true =>
        have c1 := t1.at 1
        have p1 := hF1.c1
        obtain ⟨W2, hmark, hF2, hB2⟩ := find_mark (hF1.to (Bel.drew _)) (by have := HNT.out; omega) hss
        have HF1 := Lib.hid hF1
        have HF2 := Lib.hid hF2
        have HB2 := Lib.hid hB2
        have HT1 := Lib.hid t1
        clear hF1 hF2 hB2 t1
        go_wp2_with fail
        go_region
        all_goals
          go_wp2_with fail
          go_meet
          exact ⟨q + 1, F ++ [e.s], HF2.out, Nat.le_refl _, by have := HFT.out; simpa using this, (B01.out.but _ _).trans (((Bel.drew _).but _ _).trans HB2.out), HT1.out.but HF1.out (((Bel.drew _).but _ _).trans HB2.out)⟩
    case rest =>
    obtain ⟨q1, F1, hF1, hq1, hFr, hB1, t1⟩ := hcut
    generalize wc = W1 at hF1 t1 hB1 ⊢
    have HB1 := Lib.hid hB1
    have HFW := Lib.hid hF1
    have HFR := Lib.hid hFr
    have HQ1 := Lib.hid hq1
    have T1 := Lib.hid t1
    have c3 := t1.at 3
    clear B01 HFT T0 HF0 HB0 hB1 hF1 hFr hq1 t1
    go_wp2_with fail
    go_loopw [33] (fun i wr => ∃ j : Nat, j ≤ m ∧ i = .int .i64 j ∧ But bb bf W1 wr ∧ ∃ qj Fj, FindW u wr po bb bf B Fj qj ∧ qj + costsE (e.ns.length + 1) (e.l.drop j) ≤ NT ∧ Fj ++ freesE k e.s e.ns j (e.l.drop j) B = FT) (fun i _ => m - (intOf i).toNat)
    case atStart => exact ⟨0, Nat.zero_le _, rfl, But.refl _ _ _, q1, F1, HFW.out, by have := HQ1.out; have := HNT.out; simp only [List.drop_zero]; omega, HFR.out⟩
    case round =>
      obtain ⟨j, hj, rfl, hbut, qj, Fj, hFj, hqj, hFFj⟩ := hrel
      by_cases hlt : j < m
      · have hlti : (j : Int) < m := by omega
        obtain ⟨x, hx⟩ : ∃ x, e.l[j]? = some x := ⟨_, List.getElem?_eq_getElem (by have := HM.out; omega)⟩
        obtain ⟨b, off, xna, xnn, xnc, xla, xln, xlc, rfl, g0, g1, g2, g3, hxa⟩ := PS.out j x hx
        have f0 := hFj.bel.keep g0
        have f1 := hFj.bel.keep g1
        have f2 := hFj.bel.keep g2
        have f3 := hFj.bel.keep g3
        have d0 := HFW.out.keep hbut (T1.out.at 0)
        have d1 := HFW.out.keep hbut (T1.out.at 1)
        have d2 := HFW.out.keep hbut (T1.out.at 2)
        have d3 := HFW.out.keep hbut (T1.out.at 3)
        have hwl : w.heap.size < wr.heap.size := cell_lt d0
        rw [costsE_drop _ e.l j x hx] at hqj
        rw [freesE_drop k e.s e.ns e.l B j x hx] at hFFj
        have hgl := given_le k e.s e.ns j
        obtain ⟨G, hG⟩ : ∃ G, givenK k e.s e.ns j = G := ⟨_, rfl⟩
        have HGJ : Hid (∀ W, Bel u W → Calls Tryz.prog 85 #[.agg #[.int .i64 k, .string e.s, .slice na nn nc, .slice (some ⟨b, off, none⟩) m lc], .int .i64 j] W (RetNames G W)) := Lib.hid fun W hW => by have := HG.out j W hW (by omega); rwa [hG] at this
        rw [hG] at hgl hFFj
        have HGS : Hid (∀ y ∈ G, y.size ≤ maxLen) := Lib.hid fun y hy => by
          rw [← hG] at hy
          unfold maxLen
          rcases given_mem hy with h | h | h
          · have := bulk_name h; omega
          · subst h; have := bulk_s e; omega
          · subst h; decide
        have HXA := Lib.hid hxa
        have HXB := Lib.hid (bulk_part hx)
        have HFJ := Lib.hid hFj
        have HBJ := Lib.hid hbut
        have HQJ := Lib.hid hqj
        have HFF := Lib.hid hFFj
        have HGL := Lib.hid hgl
        clear g0 g1 g2 g3 hxa hx hFj hbut hqj hFFj hgl hG
        go_wp2_with fail
        refine (HGJ.out _ (HFJ.out.bel.to_alloc _)).mono ?_
        rintro e1 w1 ⟨ga, gn, gc, rfl, hgn, hgc, hgs, hb1⟩
        have y0 := (Blk.new wr 26 [.int .i64 x.k, .string x.s, .slice xna xnn xnc, .slice xla xln xlc]).bel hb1
        have hbw := (Bel.alloc wr (.cells #[.int .i64 x.k, .string x.s, .slice xna xnn xnc, .slice xla xln xlc] 26)).trans hb1
        have hF1 := HFJ.out.to hbw
        have HF1 := Lib.hid hF1
        have HB1J := Lib.hid (HBJ.out.trans (hbw.but _ _))
        have HGN := Lib.hid hgn
        have HGSS := Lib.hid hgs
        have Y0 := Lib.hid y0
        have hq4 : gn ≤ 1073741825 := by have := HGL.out; have := HNN.out; omega
        clear hb1 y0 hbw hF1 hgn hgs HFJ HBJ HGJ f0 f1 f2 f3 d0 d1 d2 d3
        go_wp2_with fail
        go_loopw [43] (fun i wx => ∃ t : Nat, t ≤ gn ∧ i = .int .i64 t ∧ But bb bf w1 wx ∧ ∃ qt, qt ≤ qj + t ∧ FindW u wx po bb bf (G.take t ++ B) Fj qt) (fun i _ => gn - (intOf i).toNat)
        case atStart => exact ⟨0, Nat.zero_le _, rfl, But.refl _ _ _, qj, by omega, by simpa using HF1.out⟩
        case round =>
          obtain ⟨t, ht, rfl, hbt, qt, hqt, hFt⟩ := hrel
          by_cases htl : t < gn
          · have hti : (t : Int) < gn := by omega
            obtain ⟨s, hs⟩ : ∃ s, G[t]? = some s := ⟨_, List.getElem?_eq_getElem (by have := HGN.out; omega)⟩
            obtain ⟨sb, so, rfl, hsc⟩ := HF1.out.names hbt HGSS.out t s hs
            have hsz : s.size ≤ maxLen := HGS.out s (List.mem_of_getElem? hs)
            obtain ⟨hc1, hc2⟩ := count_take (B := B) hs
            obtain ⟨cn, hcn⟩ : ∃ c, cnt s (G.take t ++ B) = c := ⟨_, rfl⟩
            have hqb : qt < 4611686018427387904 := by have := HQJ.out; have := HGL.out; have := HGN.out; omega
            have hcb : cn ≤ 4611686018427387904 := by have := cnt_le s (G.take t ++ B); have := hFt.len; omega
            have hlook := find_look hFt hsz (c := cn) (by rw [hcn])
            have hp0 := hFt.c0
            obtain ⟨W2, hput, hF2, hB2⟩ := find_put hFt hqb hsz (B' := G.take (t + 1) ++ B) (c := (cn : Int) + 1) (by rw [hc1, hcn]; rfl) (by have := hFt.len; simp only [List.length_append, List.length_take] at this ⊢; omega) hc2
            have HF2 := Lib.hid hF2
            have HB2 := Lib.hid (hbt.trans hB2)
            clear hF2 hB2 hFt hbt hs hc1 hc2 hcn hqb
            go_wp2_with fail
            exact ⟨⟨t + 1, by omega, by go_num, HB2.out, qt + 1, by omega, HF2.out⟩, by simp [intOf]; omega⟩
          · obtain rfl : gn = t := by omega
            rw [List.take_of_length_le (by have := HGN.out; omega)] at hFt
            have x0 := HF1.out.keep hbt (Y0.out.at 0)
            have x1 := HF1.out.keep hbt (Y0.out.at 1)
            have x2 := HF1.out.keep hbt (Y0.out.at 2)
            have x3 := HF1.out.keep hbt (Y0.out.at 3)
            have hf := HIH.out x HXB.out (.slice xna xnn xnc) (.slice xla xln xlc) (G ++ B) Fj qt _ hFt (by have := HQJ.out; have := HGL.out; have := HGN.out; omega) HXA.out
            have HFI := Lib.hid hf
            have HGS2 := Lib.hid (HF1.out.names hbt HGSS.out)
            have HBT := Lib.hid (HB1J.out.trans hbt)
            have HFT2 := Lib.hid hFt
            clear hFt hf hbt Y0 HB1J HF1 HGSS
            go_wp2_with fail
            refine HFI.out.mono ?_
            rintro e2 w2 ⟨rfl, ⟨q2, hq2, hF2⟩, hB2⟩
            have HF2 := Lib.hid hF2
            have HB2 := Lib.hid (HBT.out.trans hB2)
            have HGS3 := Lib.hid (HFT2.out.names hB2 HGS2.out)
            clear hF2 hB2 HBT HGS2 HFI HFT2 x0 x1 x2 x3
            go_wp2_with fail
            go_loopw [60] (fun i wx => ∃ t : Nat, t ≤ gn ∧ i = .int .i64 t ∧ But bb bf w2 wx ∧ ∃ qt, qt ≤ q2 + t ∧ FindW u wx po bb bf (G.drop t ++ B) (Fj ++ freeE x (G ++ B)) qt) (fun i _ => gn - (intOf i).toNat)
            case atStart => exact ⟨0, Nat.zero_le _, rfl, But.refl _ _ _, q2, by omega, HF2.out⟩
            case round =>
              obtain ⟨t, ht, rfl, hbt, qt, hqt, hFt⟩ := hrel
              by_cases htl : t < gn
              · have hti : (t : Int) < gn := by omega
                obtain ⟨s, hs⟩ : ∃ s, G[t]? = some s := ⟨_, List.getElem?_eq_getElem (by have := HGN.out; omega)⟩
                obtain ⟨sb, so, rfl, hsc⟩ := HF2.out.names hbt HGS3.out t s hs
                have hsz : s.size ≤ maxLen := HGS.out s (List.mem_of_getElem? hs)
                obtain ⟨hc1, hc2⟩ := count_drop (B := B) hs
                obtain ⟨cn, hcn⟩ : ∃ c, cnt s (G.drop (t + 1) ++ B) = c := ⟨_, rfl⟩
                have hqb : qt < 4611686018427387904 := by have := HQJ.out; have := HGL.out; have := HGN.out; omega
                have hcb : cn + 1 ≤ 4611686018427387904 := by have := cnt_le s (G.drop t ++ B); have := hFt.len; omega
                have hp0 := hFt.c0
                have hlen1 : (G.drop (t + 1) ++ B).length ≤ qt + 1 := by have := hFt.len; simp only [List.length_append, List.length_drop] at this ⊢; omega
                by_cases hz : cn = 0
                · subst hz
                  have hlook := find_look hFt hsz (c := 1) (by rw [hc1, hcn]; rfl)
                  obtain ⟨W2, hput, hF2, hB2⟩ := find_put hFt hqb hsz (B' := G.drop (t + 1) ++ B) (c := 0) (by rw [hcn]; rfl) hlen1 hc2
                  have hlook2 := find_look hF2 hsz (c := 0) (by rw [hcn]; rfl)
                  have hp2 := hF2.c0
                  obtain ⟨D, hown, hD⟩ := hF2.bound
                  have hkey := keyS_of hsz
                  have HD := Lib.hid (hD.del s hcn)
                  have HF2' := Lib.hid hF2
                  have HB2' := Lib.hid (hbt.trans hB2)
                  clear hF2 hB2 hFt hbt hs hc1 hc2 hcn hqb hD
                  go_wp2_with (first | (at_delete; refine wpList_delete_own _ rfl _ _ 116 9 rfl 3 lawS Tryz.underlying116 _ bb (qt + 1) D rfl hown _ _ rfl hkey ?_; intro w3 hown3 hturn3))
                  exact ⟨⟨t + 1, by omega, by go_num, HB2'.out.trans (But.of_p hturn3.grown), qt + 1, by omega, HF2'.out.inb hown3 HD.out hturn3.grown (Nat.le_refl _) hlen1⟩, by simp [intOf]; omega⟩
                · have hlook := find_look hFt hsz (c := (cn : Int) + 1) (by rw [hc1, hcn]; rfl)
                  obtain ⟨W2, hput, hF2, hB2⟩ := find_put hFt hqb hsz (B' := G.drop (t + 1) ++ B) (c := (cn : Int)) (by rw [hcn]) hlen1 hc2
                  have hlook2 := find_look hF2 hsz (c := (cn : Int)) (by rw [hcn])
                  have hp2 := hF2.c0
                  have HF2' := Lib.hid hF2
                  have HB2' := Lib.hid (hbt.trans hB2)
                  clear hF2 hB2 hFt hbt hs hc1 hc2 hcn hqb
                  have hz2 : ((cn : Int) == 0) = false := by simpa using hz
                  clear hz
                  go_wp2_with fail
                  exact ⟨⟨t + 1, by omega, by go_num, HB2'.out, qt + 1, by omega, HF2'.out⟩, by simp [intOf]; omega⟩
              · obtain rfl : gn = t := by omega
                rw [List.drop_of_length_le (by have := HGN.out; omega), List.nil_append] at hFt
                have HFT3 := Lib.hid hFt
                have HBT3 := Lib.hid (HB2.out.trans hbt)
                clear hFt hbt
                go_wp2_with fail
                exact ⟨⟨j + 1, by omega, by go_num, HBT3.out, qt, _, HFT3.out, by have := HQJ.out; have := HGL.out; have := HGN.out; omega, by rw [← HFF.out, List.append_assoc]⟩, by simp [intOf]; omega⟩
      · obtain rfl : j = m := by omega
        rw [freesE_end _ _ _ _ _ _ (by have := HM.out; omega)] at hFFj
        rw [List.append_nil] at hFFj
        subst hFFj
        clear HFR
        go_wp2_with fail
        go_end0
        exact ⟨rfl, ⟨qj, by omega, hFj⟩, HB1.out.trans hbut⟩
end Go.Proofs.YtchbhcjhoocjaaaGreatDoor

namespace Go.Proofs.YtchbhcjhoocjaaaGreatDoor
open Go.RowKit Go.Maps

/-- What is returned is a slice of texts, nil where there are none. -/
def RetRow0 (l : List ByteArray) (w : World) (e : Ending) (w' : World) : Prop := ∃ a n c, e = .returned (.slice a n c) ∧ l.length = n ∧ RowAt0 w' (.slice a n c) (strsV l) ∧ Bel w w'
theorem collected_uniq {D : DataW Unit} {F : List ByteArray} {left : Lit → Bool} {ss : List (List UInt8)} (h : Collected D left ss) (hl : ∀ kl, left kl = false) (hD : HasD D F) : bsL (sortL ss) = uniqS F := by
  have hm : ∀ x : ByteArray, x ∈ bsL (sortL ss) ↔ x ∈ F := fun x => by
    have h1 := h.2 x.data.toList
    rw [hl] at h1
    have h2 := hD.2 x
    unfold keyS at h2
    rw [h2] at h1
    simp only [decide_eq_true_eq, and_true] at h1
    rw [← h1]
    unfold bsL
    rw [List.mem_map]
    constructor
    · rintro ⟨y, hy, rfl⟩
      exact (mem_sortL _ _).1 hy
    · intro hx
      exact ⟨x.data.toList, (mem_sortL _ _).2 hx, by cases x; rfl⟩
  refine srt_ext ?_ (srt_uniqS F) fun x => by rw [hm, mem_uniqS]
  have hp := sortL_le ss
  have hn : (sortL ss).Nodup := ((List.mergeSort_perm ss _).nodup_iff).2 h.1
  unfold Srt bsL
  refine List.pairwise_map.2 ?_
  refine (hp.and hn).imp fun ⟨h1, h2⟩ => ?_
  unfold ltB
  simpa using lt_of_leL h1 h2
theorem info_str4 : (Tryz.prog.info? 9).map (fun i => (i.zero, i.size, i.bytes)) = some (some (.string ⟨#[]⟩), 1, 16) := by kernel_rfl
theorem collected_len {D : DataW Unit} {F : List ByteArray} {left : Lit → Bool} {ss : List (List UInt8)} (h : Collected D left ss) (hD : HasD D F) : ss.length ≤ F.length := by
  have := len_le_of_mem (F.map (·.data.toList)) ss h.1 fun x hx => by
    have h1 := ((h.2 x).1 hx).1
    have h2 := hD.2 ⟨x.toArray⟩
    unfold keyS at h2
    rw [h1] at h2
    exact List.mem_map.2 ⟨_, of_decide_eq_true h2.symm, rfl⟩
  rwa [List.length_map] at this
mutual
theorem free_len : ∀ (e : Ex) (B : List ByteArray), (freeE e B).length ≤ cE e
  | .mk k s ns l, B => by
    have := frees_len k s ns 0 l B
    unfold freeE cE
    rw [List.length_append]
    split <;> simp <;> omega
theorem frees_len (k : Int) (s : ByteArray) (ns : List ByteArray) : ∀ (i : Nat) (l : List Ex) (B : List ByteArray), (freesE k s ns i l B).length ≤ csE l
  | _, [], _ => by unfold freesE; simp
  | i, x :: r, B => by
    have h1 := free_len x (givenK k s ns i ++ B)
    have h2 := frees_len k s ns (i + 1) r B
    unfold freesE csE
    rw [List.length_append]
    omega
end
theorem own_size {P : Program} {k : TypeId} {R : Value → Option (DataW Unit × List MemPlace)} {w : World} {b n : Nat} {D : DataW Unit} (h : w.ownsMap P k R b n D) : Maps.size D ≤ n := by
  obtain ⟨es, ck, _, _, hs, rfl⟩ := h
  rw [size_eq, length_sorted, List.length_map, Array.length_toList]
  exact hs
theorem bsL_length (l : List (List UInt8)) : (bsL l).length = l.length := by simp [bsL]
theorem bsL_data (l : List (List UInt8)) : (bsL l).map (·.data.toList) = l := by
  unfold bsL
  rw [List.map_map]
  simp [Function.comp_def]
set_option maxRecDepth 100000 in
set_option maxHeartbeats 8000000 in
theorem free_c (e : Ex) (vn vl : Value) (w : World) (hb : e.bulk ≤ 1048576) (hat : ExAt w e vn vl) :
    Calls Tryz.prog 73 #[.agg #[.int .i64 e.k, .string e.s, vn, vl]] w (RetRow0 (uniqS (freeE e [])) w) := by
  have HAT := Lib.hid hat
  obtain ⟨na, la, nn, nc, m, lc, rfl, rfl, _, _, _, _, _, _, _, _⟩ := hat.opened
  have hcost := costE_le e
  have hcost2 : e.bulk * e.bulk ≤ 1048576 * 1048576 := Nat.mul_le_mul hb hb
  have hfl := free_len e []
  have hcb := cE_bulk e
  obtain ⟨FT, hFT⟩ : ∃ FT, freeE e [] = FT := ⟨_, rfl⟩
  have HFI := Lib.hid (fun W po bb bf (hF : FindW w W po bb bf [] [] 0) => find_e w po bb bf e.bulk e (Nat.le_refl _) (by omega) _ _ [] [] 0 W hF (by omega) HAT.out)
  rw [hFT] at HFI hfl ⊢
  rw [List.nil_append, Nat.zero_add] at HFI
  obtain ⟨C, hC⟩ : ∃ C, costE e = C := ⟨_, rfl⟩
  rw [hC] at HFI hcost
  have hC2 : C ≤ 1099511627776 := by omega
  clear hat hC hcost hcost2 hFT
  have hmm := @run_makeMap Tryz.prog
  go_enter Tryz.func73, Tryz.ntmps73
  go_wp2_with fail
  have hb4 : Bel w ((((w.alloc (.cells #[.int .i64 e.k, .string e.s, .slice na nn nc, .slice la m lc] 26)).alloc (.map #[] 0)).alloc (.map #[] 0)).alloc (.cells #[.map (some (w.heap.size + 1)), .map (some (w.heap.size + 1 + 1))] 118)) := (((Bel.alloc _ _).trans (Bel.alloc _ _)).trans (Bel.alloc _ _)).trans (Bel.alloc _ _)
  have ho1 := (((w.alloc (.cells #[.int .i64 e.k, .string e.s, .slice na nn nc, .slice la m lc] 26)).ownsMap_made Tryz.prog 9 (plainElem (H := Unit) Tryz.prog 3)).alloc (.map #[] 0)).alloc (.cells #[.map (some (w.heap.size + 1)), .map (some (w.heap.size + 1 + 1))] 118)
  have ho2 := (((w.alloc (.cells #[.int .i64 e.k, .string e.s, .slice na nn nc, .slice la m lc] 26)).alloc (.map #[] 0)).ownsMap_made Tryz.prog 9 (plainElem (H := Unit) Tryz.prog 4)).alloc (.cells #[.map (some (w.heap.size + 1)), .map (some (w.heap.size + 1 + 1))] 118)
  have t4 := Blk.new (((w.alloc (.cells #[.int .i64 e.k, .string e.s, .slice na nn nc, .slice la m lc] 26)).alloc (.map #[] 0)).alloc (.map #[] 0)) 118 [.map (some (w.heap.size + 1)), .map (some (w.heap.size + 1 + 1))]
  simp only [World.size_alloc] at ho1 ho2 t4
  have hF : FindW w _ (w.heap.size + 1 + 1 + 1) (w.heap.size + 1) (w.heap.size + 1 + 1) [] [] 0 := ⟨hb4, by omega, by omega, by omega, by omega, by omega, t4.at 0, t4.at 1, ⟨_, ho1, CntD.start⟩, ⟨_, ho2, HasD.start⟩, by simp⟩
  refine (HFI.out _ _ _ _ hF).mono ?_
  rintro e1 w1 ⟨rfl, ⟨n1, hn1, hF1⟩, _⟩
  obtain ⟨D, hown, hD⟩ := hF1.found
  have hsz := own_size hown
  have hp1 := hF1.c1
  have hlt := hown.lt
  have HD := Lib.hid hD
  have HB1 := Lib.hid hF1.bel
  clear hF hb4 ho1 ho2 t4 hF1 hD HFI
  go_wp2_with (first | (at_range; refine wpList_range_own _ rfl _ 63 rfl 9 4 lawS Tryz.underlying63 (plainElem (H := Unit) Tryz.prog 4) (w.heap.size + 1 + 1) n1 D rfl hown ?_; intro w2 hrg0 hg0 hs0))
  go_frame
  have HO := Lib.hid hown
  have HS0 := Lib.hid hs0
  clear hs0 hown
  go_loopw [4] (fun v wr => ∃ (left : Lit → Bool) (cn : Nat) (ss : List (List UInt8)), wr.ranges Tryz.prog 9 (plainElem (H := Unit) Tryz.prog 4) (w.heap.size + 1 + 1) w1.heap.size n1 D left cn ∧ ss.length + cn ≤ Maps.size D ∧
      wr.ownsRow w1.heap.size 9 1 v ss.length (ss.map encStr) ∧ Collected D left ss ∧ Bel w1 wr)
    (fun _ wr => wr.rangeLeft (w.heap.size + 1 + 1) w1.heap.size)
  case atStart => exact ⟨_, _, [], hrg0, by simp, ⟨by simp, .inl ⟨rfl, rfl⟩⟩, Collected.start D, Below.grown (Bel.refl w1) hg0 (Nat.le_refl _) (fun j hj => by cases hj)⟩
  case round =>
    obtain ⟨left, cn, ss, hrg, hcs, hrow, hC, hbel⟩ := hrel
    have hssl : ss.length ≤ 1048576 := by have := collected_len hC HD.out; omega
    go_wp2_with (first
      | (at_next; refine wpList_next_ranges _ rfl _ rfl 9 lawS (plainElem (H := Unit) Tryz.prog 4) encStr (fun u : Value => u) (fun key kl hk => by obtain ⟨x, hx, _⟩ := Maps.keyOf_str Tryz.underlying9 hk; exact ⟨x, hx⟩) (fun v y hv => ⟨v, rfl⟩) (w.heap.size + 1 + 1) w1.heap.size n1 _ _ _ rfl hrg ?_ ?_))
    · intro hc0 hl0
      have hrow2 := hrow
      rw [← strsV_bsL, ← bsL_length ss] at hrow2
      have HS := Lib.hid (sort_c w1 _ (bsL ss) wr hrow2 (by rw [bsL_length]; omega) hbel)
      have HU := Lib.hid (collected_uniq hC hl0 HD.out)
      clear hrow hrow2 hrg hC hl0
      go_wp2_with fail
      refine HS.out.mono ?_
      rintro e3 w3 ⟨rfl, hown3, hb3⟩
      have HOW := Lib.hid (own_row hown3)
      clear hown3
      go_wp2_with fail
      go_ret
      have h := HOW.out
      rw [bsL_data, HU.out] at h
      obtain ⟨a, c, hv, _⟩ := row0_form h (uniqS FT).length (strsV_length _)
      exact ⟨a, _, c, by rw [hv]; rfl, rfl, by rw [← hv]; exact h, HB1.out.trans hb3⟩
    · intro x c kl yd yp w3 cn2 hkey hlk hv hat hrg2 hlt2 hg2 hs2 hen
      obtain ⟨x', ex, rfl, _⟩ := Maps.keyOf_str Tryz.underlying9 hkey
      obtain rfl : x = x' := encStr_inj ex
      have hrow2 := hrow.kept hg2 (Or.inr (row_ne_iter hrow hrg).symm)
      clear hs2
      go_wp2_with (at_builtin; refine wpL_append1k rfl _ _ 23 rfl w1.heap.size (by have := hbel.size; have := hg2.size; simp only [World.size_alloc]; omega) 9 (.string ⟨#[]⟩) 1 16 Tryz.underlying23 info_str4 rfl (by decide) (by decide) _ ss.length (ss.map encStr) rfl (hrow2.alloc _) ⟨w3.heap.size, 0, none⟩ 1 [encStr x] rfl rfl (cell_one_new _ _ _) (by simp [Value.oneCell', encStr]) (by omega) ?_; intro g cap w4 hown4 hg4)
      have hrg4 := (hrg2.alloc _).kept hg4 (row_ne_low hrow2 hlt) (row_ne_iter hrow2 hrg2)
      refine ⟨⟨_, cn2, ss ++ [x], hrg4, by simp; omega, by simpa using hown4, hC.step hlk hat, ?_⟩, by rw [hrg4.left_eq, hrg.left_eq]; exact hlt2⟩
      exact ((Bel.to_alloc (show Bel w1 w3 from hbel.grown hg2 hbel.size (fun j hj => by cases hj; exact Nat.le_refl _)) _) : Below _ _ _).grown hg4 (by have := hbel.size; have := hg2.size; simp; omega) (fun j hj => (hrow2.lt j hj).1)
end Go.Proofs.YtchbhcjhoocjaaaGreatDoor

namespace Go.Proofs.YtchbhcjhoocjaaaGreatDoor
open Go.RowKit Go.Maps

theorem withS_err {N l : List ByteArray} {r : Option (List ByteArray) × Nat} (h : withS N l = r) : (∃ M, r = (some M, 0)) ∨ (∃ c, r = (none, c) ∧ c ≠ 0) := by
  subst h
  unfold withS
  split
  · exact .inr ⟨6, rfl, by decide⟩
  · split
    · exact .inr ⟨19, rfl, by decide⟩
    · exact .inl ⟨_, rfl⟩
theorem given_size {e : Ex} {i : Nat} (hb : e.bulk ≤ 1073741824) : ∀ x ∈ givenK e.k e.s e.ns i, x.size ≤ 4294967280 := fun x hx => by
  rcases given_mem hx with h | h | h
  · have := bulk_name h; omega
  · subst h; have := bulk_s e; omega
  · subst h; decide
theorem given_len {e : Ex} {i : Nat} (hb : e.bulk ≤ 1073741824) : (givenK e.k e.s e.ns i).length ≤ 1073741824 := by
  have h1 := len_names e.ns
  have h2 := bulk_eq e
  unfold givenK
  split
  · omega
  · split
    · rw [List.length_take]; omega
    · split
      · simp
      · split
        · simp
        · split <;> simp

set_option maxRecDepth 100000 in
set_option maxHeartbeats 8000000 in
theorem scoped_e : ∀ (n : Nat) (e : Ex), e.bulk ≤ n → n ≤ 1073741824 → ∀ (vn vl v : Value) (N : List ByteArray) (w : World), EnvX w → ScopeIs w v N → ExAt w e vn vl →
    Calls Tryz.prog 48 #[.agg #[.int .i64 e.k, .string e.s, vn, vl], v] w (RetBel (.int .i64 (scopedE e N)) w) := by
  intro n
  induction n with
  | zero => intro e he; exfalso; have := bulk_eq e; omega
  | succ n ih =>
    intro e he hn vn vl v N w hE hsc hat
    have HAT := Lib.hid hat
    obtain ⟨po, rfl⟩ := scope_ptr hsc
    obtain ⟨na, la, nn, nc, m, lc, rfl, rfl, hnn, hm, hnc, hlc, hnb, hmb, hns, hps⟩ := hat.opened
    have HG := Lib.hid (fun (i : Nat) W (hb : Bel w W) (hi : i ≤ 1073741824) => given_c e _ _ i W (by omega) hi (ExAt.bel hb e HAT.out))
    have HW := Lib.hid (fun (i : Nat) W (hb : Bel w W) sl (hv : RowAt0 W sl (strsV (givenK e.k e.s e.ns i))) => with_c (.pointer po) N sl _ W (hE.1.bel hb) (hsc.bel hb) hv (by have := given_len (e := e) (i := i) (by omega); omega) (given_size (by omega)))
    have HH := Lib.hid (fun W (hb : Bel w W) => has_c (.pointer po) N e.s W (hsc.bel hb))
    have PS := Lib.hid hps
    have HM := Lib.hid hm
    have HE := Lib.hid hE
    have HS := Lib.hid hsc
    have HIH : Hid (∀ (x : Ex), x.bulk < e.bulk → ∀ xn xl u M W, EnvX W → ScopeIs W u M → ExAt W x xn xl → Calls Tryz.prog 48 #[.agg #[.int .i64 x.k, .string x.s, xn, xl], u] W (RetBel (.int .i64 (scopedE x M)) W)) := Lib.hid fun x hx xn xl u M W h1 h2 h3 => ih x (by omega) (by omega) xn xl u M W h1 h2 h3
    have hm2 : m ≤ 1073741824 := by omega
    obtain ⟨R, hR⟩ : ∃ R, scopedE e N = R := ⟨_, rfl⟩
    rw [hR]
    rw [scopedE_eq] at hR
    obtain ⟨k, hk⟩ : ∃ k, e.k = k := ⟨_, rfl⟩
    obtain ⟨b3, hb3⟩ : ∃ b, (k == 3) = b := ⟨_, rfl⟩
    rw [hk] at HG HW hR ⊢
    obtain ⟨F, hF⟩ : ∃ F, decide (e.s ∈ N) = F := ⟨_, rfl⟩
    rw [hF] at HH
    rw [show (if k = 3 ∧ e.s ∉ N then 13 else scopedsE k e.s e.ns 0 e.l N) = if (b3 && !F) = true then 13 else scopedsE k e.s e.ns 0 e.l N from by rw [← hb3, ← hF]; simp] at hR
    have HRR := Lib.hid hR
    clear ih hps hm hnn hns hat hE hR hsc hF hk
    go_enter Tryz.func48, Tryz.ntmps48
    go_upto_region 1 with fail
    have t0 := Blk.new w 26 [.int .i64 k, .string e.s, .slice na nn nc, .slice la m lc]
    have hb0 : Bel w (w.alloc (.cells #[.int .i64 k, .string e.s, .slice na nn nc, .slice la m lc] 26)) := Bel.alloc _ _
    go_cut [21] (fun v wx => v = .bool (b3 && !F) ∧ Bel (w.alloc (.cells #[.int .i64 k, .string e.s, .slice na nn nc, .slice la m lc] 26)) wx)
    case first =>
      cases b3 with
      | false =>
        go_wp2_with fail
        go_meet
        exact ⟨bool_eq (by simp), Bel.refl _⟩
      | true =>
        go_wp2_with fail
        refine (HH.out _ hb0).mono ?_
        rintro e1 w1 ⟨rfl, hb1⟩
        go_wp2_with fail
        go_meet
        exact ⟨bool_eq (by simp), hb1⟩
    case rest =>
    obtain ⟨rfl, hb1⟩ := hcut
    have t1 := t0.bel hb1
    have hbw := hb0.trans hb1
    generalize wc = w1 at t1 hbw ⊢
    have HB1 := Lib.hid hbw
    have T1 := Lib.hid t1
    have c3 := t1.at 3
    obtain ⟨Q, hQ⟩ : ∃ Q, (b3 && !F) = Q := ⟨_, rfl⟩
    rw [hQ] at HRR ⊢
    clear hQ hb3 t0 hb0 hb1 t1 hbw HH
    cases Q with
    | true =>
      have hf : R = 13 := by have := HRR.out; simp at this; exact this.symm
      have HFF := Lib.hid hf
      clear hf
      go_wp2_with fail
      go_ret
      exact ⟨ret_int (by rw [HFF.out]; rfl), HB1.out⟩
    | false =>
    have HR2 : Hid (scopedsE k e.s e.ns 0 e.l N = R) := Lib.hid (by have := HRR.out; simpa using this)
    clear HRR
    go_wp2_with fail
    go_loopw [25] (fun i wr => ∃ j : Nat, j ≤ m ∧ i = .int .i64 j ∧ Bel w1 wr ∧ scopedsE k e.s e.ns j (e.l.drop j) N = R) (fun i _ => m - (intOf i).toNat)
    case atStart => exact ⟨0, Nat.zero_le _, rfl, Bel.refl _, HR2.out⟩
    case round =>
      obtain ⟨j, hj, rfl, hbel, hck⟩ := hrel
      by_cases hlt : j < m
      · have hlti : (j : Int) < m := by omega
        obtain ⟨x, hx⟩ : ∃ x, e.l[j]? = some x := ⟨_, List.getElem?_eq_getElem (by have := HM.out; omega)⟩
        obtain ⟨b, off, xna, xnn, xnc, xla, xln, xlc, rfl, g0, g1, g2, g3, hxa⟩ := PS.out j x hx
        have hbw := HB1.out.trans hbel
        have f0 := hbw.keep g0
        have f1 := hbw.keep g1
        have f2 := hbw.keep g2
        have f3 := hbw.keep g3
        have d0 := hbel.keep (T1.out.at 0)
        have d1 := hbel.keep (T1.out.at 1)
        have d2 := hbel.keep (T1.out.at 2)
        have d3 := hbel.keep c3
        have hwl : w.heap.size < wr.heap.size := cell_lt d0
        rw [scopedsE_drop k e.s e.ns e.l N j x hx] at hck
        have HGJ : Hid (∀ W, Bel w W → Calls Tryz.prog 85 #[.agg #[.int .i64 k, .string e.s, .slice na nn nc, .slice (some ⟨b, off, none⟩) m lc], .int .i64 j] W (RetNames (givenK k e.s e.ns j) W)) := Lib.hid fun W hW => HG.out j W hW (by omega)
        have HWJ : Hid (∀ W (hb : Bel w W) sl (hv : RowAt0 W sl (strsV (givenK k e.s e.ns j))), Calls Tryz.prog 24 #[.pointer po, sl] W (RetWith (withS N (givenK k e.s e.ns j)) W)) := Lib.hid fun W hb sl hv => HW.out j W hb sl hv
        obtain ⟨G, hG⟩ : ∃ G, givenK k e.s e.ns j = G := ⟨_, rfl⟩
        rw [hG] at HGJ HWJ hck
        have HXC : Hid (∀ W u M, Bel w W → ScopeIs W u M → Calls Tryz.prog 48 #[.agg #[.int .i64 x.k, .string x.s, .slice xna xnn xnc, .slice xla xln xlc], u] W (RetBel (.int .i64 (scopedE x M)) W)) := Lib.hid fun W u M hb hs => HIH.out x (bulk_part hx) _ _ u M W (HE.out.bel hb) hs (ExAt.bel hb x hxa)
        have HCK := Lib.hid hck
        have HBW := Lib.hid hbw
        have HBL := Lib.hid hbel
        clear g0 g1 g2 g3 hxa hx hbel hck hbw hG HR2
        go_wp2_with fail
        refine (HGJ.out _ (HBW.out.to_alloc _)).mono ?_
        rintro e2 w2 ⟨ga, gn, gc, rfl, hgn, hgc, hgs, hb2⟩
        have y0 := (Blk.new wr 26 [.int .i64 x.k, .string x.s, .slice xna xnn xnc, .slice xla xln xlc]).bel hb2
        have HB2 := Lib.hid (HBW.out.trans ((Bel.alloc _ _).trans hb2))
        have HBL2 := Lib.hid (HBL.out.trans ((Bel.alloc _ _).trans hb2))
        have HRW := Lib.hid (hgs.row hgn hgc)
        have HGN := Lib.hid hgn
        have Y0 := Lib.hid y0
        clear hgn hgs hb2 y0 f0 f1 f2 f3 d0 d1 d2 d3 HGJ
        by_cases hz : gn = 0
        · subst hz
          have hG0 : G = [] := List.eq_nil_of_length_eq_zero HGN.out
          have hck := HCK.out
          unfold innerS at hck
          rw [if_pos hG0] at hck
          replace hck : (if scopedE x N = 0 then scopedsE k e.s e.ns (j + 1) (e.l.drop (j + 1)) N else scopedE x N) = R := hck
          have HX := Lib.hid (HXC.out w2 (.pointer po) N HB2.out (HS.out.bel HB2.out))
          obtain ⟨c, hc⟩ : ∃ c, scopedE x N = c := ⟨_, rfl⟩
          rw [hc] at HX hck
          have HCK2 := Lib.hid hck
          have z0 := Y0.out.at 0
          have z1 := Y0.out.at 1
          have z2 := Y0.out.at 2
          have z3 := Y0.out.at 3
          clear hck hc HCK HXC HWJ hG0
          go_wp2_with fail
          refine HX.out.mono ?_
          rintro e3 w3 ⟨rfl, hb3⟩
          have HB3 := Lib.hid hb3
          clear hb3 z0 z1 z2 z3 HX
          by_cases hc0 : c = 0
          · subst hc0
            go_wp2_with fail
            exact ⟨⟨j + 1, by omega, by go_num, HBL2.out.trans HB3.out, by have := HCK2.out; simpa using this⟩, by simp [intOf]; omega⟩
          · have hc2 : ((c : Int) == 0) = false := by simpa using hc0
            have hc3 : ((c : Int) != 0) = true := by simpa using hc0
            have HF : Hid (c = R) := Lib.hid (by have := HCK2.out; rwa [if_neg hc0] at this)
            clear hc0 HCK2
            go_wp2_with fail
            go_ret
            exact ⟨ret_int (by rw [HF.out]), HB2.out.trans HB3.out⟩
        · have hG0 : G ≠ [] := fun h => hz (by rw [← HGN.out, h]; rfl)
          have hzi : (0 : Int) < gn := by omega
          have hck := HCK.out
          unfold innerS at hck
          rw [if_neg hG0] at hck
          have HWW := HWJ.out w2 HB2.out _ (HRW.out.to0 (fun h => hG0 (by simpa [strsV] using h)))
          rcases withS_err (N := N) (l := G) (r := withS N G) rfl with ⟨M, hM⟩ | ⟨c, hM, hcz⟩
          · rw [hM] at hck HWW
            replace hck : (if scopedE x M = 0 then scopedsE k e.s e.ns (j + 1) (e.l.drop (j + 1)) N else scopedE x M) = R := hck
            have HX := Lib.hid (fun W u hb hs => HXC.out W u M hb hs)
            obtain ⟨c, hc⟩ : ∃ c, scopedE x M = c := ⟨_, rfl⟩
            rw [hc] at HX hck
            have HCK2 := Lib.hid hck
            have HW3 := Lib.hid HWW
            clear hck hc HCK HXC HWJ hG0 HWW hM hz
            go_wp2_with fail
            refine HW3.out.mono ?_
            rintro e3 w3 ⟨hb3, p, rfl, hsp⟩
            obtain ⟨pp, rfl⟩ := scope_ptr hsp
            have z0 := hb3.keep (Y0.out.at 0)
            have z1 := hb3.keep (Y0.out.at 1)
            have z2 := hb3.keep (Y0.out.at 2)
            have z3 := hb3.keep (Y0.out.at 3)
            have HX2 := Lib.hid (HX.out w3 _ (HB2.out.trans hb3) hsp)
            have HB3 := Lib.hid hb3
            clear hb3 hsp HX HW3
            go_wp2_with fail
            refine HX2.out.mono ?_
            rintro e4 w4 ⟨rfl, hb4⟩
            have HB4 := Lib.hid (HB3.out.trans hb4)
            clear hb4 z0 z1 z2 z3 HX2
            by_cases hc0 : c = 0
            · subst hc0
              go_wp2_with fail
              exact ⟨⟨j + 1, by omega, by go_num, HBL2.out.trans HB4.out, by have := HCK2.out; simpa using this⟩, by simp [intOf]; omega⟩
            · have hc2 : ((c : Int) == 0) = false := by simpa using hc0
              have hc3 : ((c : Int) != 0) = true := by simpa using hc0
              have HF : Hid (c = R) := Lib.hid (by have := HCK2.out; rwa [if_neg hc0] at this)
              clear hc0 HCK2
              go_wp2_with fail
              go_ret
              exact ⟨ret_int (by rw [HF.out]), HB2.out.trans HB4.out⟩
          · rw [hM] at hck HWW
            have HF : Hid (c = R) := Lib.hid hck
            have HW3 := Lib.hid HWW
            have hc2 : ((c : Int) == 0) = false := by simpa using hcz
            have hc3 : ((c : Int) != 0) = true := by simpa using hcz
            clear hck HCK HXC HWJ hG0 HWW hM hz hcz
            go_wp2_with fail
            refine HW3.out.mono ?_
            rintro e3 w3 ⟨hb3, rfl⟩
            go_wp2_with fail
            go_ret
            exact ⟨ret_int (by rw [HF.out]), HB2.out.trans hb3⟩
      · obtain rfl : j = m := by omega
        rw [scopedsE_end _ _ _ _ _ _ (by have := HM.out; omega)] at hck
        subst hck
        clear HR2
        go_wp2_with fail
        go_ret
        exact ⟨rfl, HB1.out.trans hbel⟩
end Go.Proofs.YtchbhcjhoocjaaaGreatDoor
