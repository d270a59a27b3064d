/-
  expr: what Free keeps: how often names are bound, which are found; how much is written.
  expr: the walk of find.
  expr: the walk of Free.
  expr: the walk of Scoped.
-/
import Derived.Test.YtpenfnabeckboaaGreatDoorEXB
import Derived.Maps.OwnSet
import Derived.Maps.OwnOps
import Derived.Sort.KeysCollected
import Derived.StringKeys
import Derived.Deep.DeepCutAuto
import Derived.BigQuiet
import Derived.Deep.QuietTactic
import Derived.Test.YtpenfnabeckboaaGreatDoorSPA
import Derived.Maps.RangeWalk
import Derived.Carry
namespace Go.Proofs.YtpenfnabeckboaaGreatDoor
open Go.RowKit Go.Maps
/-- A name as a map's key. -/
def keyS (s : ByteArray) : Lit := .string s.data.toList
theorem keyS_ne {a b : ByteArray} (h : a ≠ b) : keyS a ≠ keyS b := fun e => h (data_ext (by unfold keyS at e; injection e))
theorem keyS_of {s : ByteArray} (h : s.size ≤ maxLen) : keyOf Tryz.prog 9 (.string s) = some (keyS s) := Go.WideMaps.keyOf_string_mk Tryz.underlying9 h
/-- How often a name stands there. -/
def cnt (s : ByteArray) (B : List ByteArray) : Nat := B.countP fun x => decide (x = s)
/-- How often each name is bound. -/
def CntD (D : DataW Unit) (B : List ByteArray) : Prop := IsMap D ∧ ∀ s : ByteArray, D.atKey (keyS s) (.lit (.int .i64 0)) = .lit (.int .i64 (cnt s B))
theorem CntD.at {D : DataW Unit} {B : List ByteArray} (h : CntD D B) {s : ByteArray} {c : Int} (hat : D.atKey (keyS s) (.lit (.int .i64 0)) = .lit (.int .i64 c)) : c = cnt s B := by
  rw [h.2 s] at hat
  simp at hat
  exact hat.symm
theorem CntD.put {D : DataW Unit} {B B' : List ByteArray} (h : CntD D B) (s : ByteArray) {c : Int} (hc : c = cnt s B') (ho : ∀ x, x ≠ s → cnt x B' = cnt x B) : CntD (D.put (keyS s) (.lit (.int .i64 c))) B' := by
  refine ⟨h.1.put _ _, fun x => ?_⟩
  by_cases hx : x = s
  · subst hx
    rw [atKey_put_same h.1 (by trivial), hc]
  · rw [atKey_put_other (keyS_ne hx), h.2 x, ho x hx]
/-- Which names are found. -/
def HasD (D : DataW Unit) (F : List ByteArray) : Prop := IsMap D ∧ ∀ s : ByteArray, Maps.has D (keyS s) = decide (s ∈ F)
theorem HasD.put {D : DataW Unit} {F : List ByteArray} (h : HasD D F) (s : ByteArray) (d : DataW Unit) : HasD (D.put (keyS s) d) (F ++ [s]) := by
  refine ⟨h.1.put _ _, fun x => ?_⟩
  by_cases hx : x = s
  · subst hx
    rw [has_put_same h.1 (by trivial)]
    simp
  · rw [has_put_other (keyS_ne hx), h.2 x]
    simp [hx]
/-- Nothing but two blocks has turned. -/
structure But (p q : Nat) (w w' : World) : Prop where
  os : w'.os = w.os
  tape : w'.tape = w.tape
  output : w'.output = w.output
  size : w.heap.size ≤ w'.heap.size
  block : ∀ k, k < w.heap.size → k ≠ p → k ≠ q → w'.heap[k]? = w.heap[k]?
theorem But.refl (p q : Nat) (w : World) : But p q w w := ⟨rfl, rfl, rfl, Nat.le_refl _, fun _ _ _ _ => rfl⟩
theorem But.trans {p q : Nat} {a b c : World} (h : But p q a b) (k : But p q b c) : But p q a c :=
  ⟨k.os.trans h.os, k.tape.trans h.tape, k.output.trans h.output, Nat.le_trans h.size k.size, fun i hi h1 h2 => (k.block i (Nat.lt_of_lt_of_le hi h.size) h1 h2).trans (h.block i hi h1 h2)⟩
theorem Bel.but {w w' : World} (h : Bel w w') (p q : Nat) : But p q w w' := ⟨Below.os h, Below.tape h, Below.output h, Bel.size h, fun _ hk _ _ => h.block hk⟩
theorem But.keep {p q : Nat} {w w' : World} (h : But p q w w') {b o : Nat} {v : Value} (hc : w.cell? ⟨b, o, none⟩ = some v) (h1 : b ≠ p) (h2 : b ≠ q) : w'.cell? ⟨b, o, none⟩ = some v := by
  rw [← hc]
  exact World.cell?_of_block (w := w) (a := ⟨b, o, none⟩) (h.block b (cell_lt hc) h1 h2)
theorem But.bel {p q : Nat} {u w w' : World} (h : But p q w w') (hb : Bel u w) (h1 : u.heap.size ≤ p) (h2 : u.heap.size ≤ q) : Bel u w' :=
  ⟨h.os.trans (Below.os hb), h.tape.trans (Below.tape hb), h.output.trans (Below.output hb), Nat.le_trans hb.size h.size, fun k hk => (h.block k (Nat.lt_of_lt_of_le hk hb.size) (by omega) (by omega)).trans (hb.block hk)⟩
/-- What a finder holds: two maps. -/
structure FindW (u W : World) (po bb bf : Nat) (B F : List ByteArray) (n : Nat) : Prop where
  bel : Bel u W
  lb : u.heap.size ≤ bb
  lf : u.heap.size ≤ bf
  nbf : bb ≠ bf
  nbo : po ≠ bb
  nfo : po ≠ bf
  c0 : W.cell? ⟨po, 0, none⟩ = some (.map (some bb))
  c1 : W.cell? ⟨po, 1, none⟩ = some (.map (some bf))
  bound : ∃ D, W.ownsMap Tryz.prog 9 (plainElem Tryz.prog 3) bb n D ∧ CntD D B
  found : ∃ D, W.ownsMap Tryz.prog 9 (plainElem Tryz.prog 4) bf n D ∧ HasD D F
  len : B.length ≤ n
theorem FindW.mono {u W : World} {po bb bf : Nat} {B F : List ByteArray} {n n' : Nat} (h : FindW u W po bb bf B F n) (hn : n ≤ n') : FindW u W po bb bf B F n' := by
  obtain ⟨h1, h2, h3, h4, h5, h6, h7, h8, ⟨D, h9, h10⟩, ⟨D', h11, h12⟩, h13⟩ := h
  exact ⟨h1, h2, h3, h4, h5, h6, h7, h8, ⟨D, h9.mono hn, h10⟩, ⟨D', h11.mono hn, h12⟩, Nat.le_trans h13 hn⟩
theorem FindW.to {u W W' : World} {po bb bf : Nat} {B F : List ByteArray} {n : Nat} (h : FindW u W po bb bf B F n) (hb : Bel W W') : FindW u W' po bb bf B F n := by
  obtain ⟨h1, h2, h3, h4, h5, h6, h7, h8, ⟨D, h9, h10⟩, ⟨D', h11, h12⟩, h13⟩ := h
  exact ⟨h1.trans hb, h2, h3, h4, h5, h6, hb.keep h7, hb.keep h8, ⟨D, own_mapBel h9 hb, h10⟩, ⟨D', own_mapBel h11 hb, h12⟩, h13⟩
end Go.Proofs.YtpenfnabeckboaaGreatDoor

namespace Go.Proofs.YtpenfnabeckboaaGreatDoor
open Go.RowKit Go.Maps
theorem own_cell_ne {P : Program} {k : TypeId} {R : Value → Option (DataW Unit × List MemPlace)} {w : World} {b n : Nat} {D : DataW Unit} (h : w.ownsMap P k R b n D) {c o : Nat} {v : Value} (hc : w.cell? ⟨c, o, none⟩ = some v) : c ≠ b := by
  obtain ⟨es, ck, hh, _⟩ := h
  rintro rfl
  simp [World.cell?, hh] at hc
theorem FindW.keep {u W W' : World} {po bb bf : Nat} {B F : List ByteArray} {n : Nat} (h : FindW u W po bb bf B F n) (hb : But bb bf W W') {c o : Nat} {v : Value} (hc : W.cell? ⟨c, o, none⟩ = some v) : W'.cell? ⟨c, o, none⟩ = some v := by
  obtain ⟨D, h1, _⟩ := h.bound
  obtain ⟨D', h2, _⟩ := h.found
  exact hb.keep hc (own_cell_ne h1 hc) (own_cell_ne h2 hc)
theorem FindW.names {u W W' : World} {po bb bf : Nat} {B F : List ByteArray} {n : Nat} (h : FindW u W po bb bf B F n) (hb : But bb bf W W') {a : Option Addr} {l : List ByteArray} (hn : NamesAt W a l) : NamesAt W' a l := fun j x hx => by
  obtain ⟨b, off, h1, h2⟩ := hn j x hx
  exact ⟨b, off, h1, h.keep hb h2⟩
theorem Blk.but {u W W' : World} {po bb bf : Nat} {B F : List ByteArray} {n : Nat} {b t : Nat} {l : List Value} (ht : Blk W b t l) (h : FindW u W po bb bf B F n) (hb : But bb bf W W') : Blk W' b t l := by
  obtain ⟨D, ⟨es, ck, h1, _⟩, _⟩ := h.bound
  obtain ⟨D', ⟨es', ck', h2, _⟩, _⟩ := h.found
  unfold Blk at ht ⊢
  rw [← ht]
  exact hb.block b (Array.getElem?_eq_some_iff.1 ht).1 (by rintro rfl; rw [h1] at ht; cases ht) (by rintro rfl; rw [h2] at ht; cases ht)
theorem lawS : Keyed Tryz.prog 9 := string_keyed Tryz.underlying9
end Go.Proofs.YtpenfnabeckboaaGreatDoor
