/-
  slices.Values at strings: the iterator, for every loop body that keeps the slice's block.
-/
import Derived.RangeFuncWrites
import Derived.RangeFuncNested
import Derived.RangeFuncBound
import Derived.RangeFuncCalls
import Derived.RangeFuncLeaves
import Derived.Shelf.Abstract
import Derived.Shelf.RegionOpen
import Derived.WalkKit
import Derived.OwnWalkIn
import Derived.TacticsInMore
import Derived.LoopNIn
import Derived.LoopIn
import Derived.Maps.OwnIn
import Derived.Test.YtjnaikojoemkaaaDoorU
import Derived.Test.YtjnaikojoemkaaaDoorProg
namespace Go.Proofs.YtjnaikojoemkaaaDoor
open Go.RowKit Go.Shelf
attribute [local go_sem] Oper.semAt_some

/-- A text that is no longer than any may be. -/
abbrev Str := { s : ByteArray // s.size ≤ maxLen }
/-- Block b is as it was. -/
def KeepB (b : Nat) (W W' : World) : Prop := W'.heap[b]? = W.heap[b]?
theorem KeepB.refl (b : Nat) (W : World) : KeepB b W W := rfl
theorem KeepB.trans {b : Nat} {A B C : World} (h : KeepB b A B) (k : KeepB b B C) : KeepB b A C := Eq.trans k h
theorem KeepB.cell {b o : Nat} {A B : World} (h : KeepB b A B) : B.cell? ⟨b, o, none⟩ = A.cell? ⟨b, o, none⟩ := World.cell?_of_block (w := A) (a := ⟨b, o, none⟩) h
theorem KeepB.putObj {b : Nat} (n : Nat) (hb : b < n) (W : World) (l : Nat) (o o' : Obj) (hl : n ≤ l) (_ : W.heap[l]? = some o) (_ : o.isCells = false) (_ : o.isWalk = false) : KeepB b W (W.putObj l o') :=
  World.putObj_heap_other (by omega)
def upto (f : Nat → Str) (k : Nat) : List Str := (List.range k).map f
theorem upto_length (f : Nat → Str) (k : Nat) : (upto f k).length = k := by simp [upto]
theorem upto_succ (f : Nat → Str) (k : Nat) : upto f (k + 1) = upto f k ++ [f k] := by simp [upto, List.range_succ]

set_option maxRecDepth 100000 in
set_option maxHeartbeats 1000000 in
theorem values1_in (F : Fence) (n : Nat) (h7 : F.fn 62) (hro : F.round = none) (hn : 1 ≤ n) (l Bs b off len cap : Nat) (f : Nat → Str) (hreach : len * 16 ≤ 140737488351232) (J Jx : List Str → World → Prop)
    (hY : ∀ pre x W, J pre W → pre.length < len → YieldAt F (n - 1) Tryd.prog l #[.string x.1] W fun e W' =>
      (e = .returned (.bool true) ∧ J (pre ++ [x]) W' ∧ KeepB b W W') ∨ (e = .returned (.bool false) ∧ Jx (pre ++ [x]) W'))
    (W : World) (hBs : W.cell? ⟨Bs, 0, none⟩ = some (.slice (some ⟨b, off, none⟩) len cap)) (hc : ∀ j, j < len → W.cell? ⟨b, off + j, none⟩ = some (.string (f j).1)) (h0 : J [] W) :
    CallsIn F n Tryd.prog 62 #[.func (.yield l) #[] #[], .pointer (some ⟨Bs, 0, none⟩)] W fun e W' => (∃ v, e = .returned v) ∧
      ((∃ ys, ys = upto f len ∧ J ys W') ∨ (∃ pre, (∃ k, k ≤ len ∧ pre = upto f k) ∧ Jx pre W')) := by
  refine callsIn_of_wp Tryd.func62 rfl h7 ?_ hro
  simp only [Tryd.ntmps62, List.size_toArray, List.length_cons, List.length_nil, Nat.reduceAdd, Nat.reduceSub, Array.replicate_succ, Array.replicate_zero, List.push_toArray, List.append_toArray, List.nil_append, List.cons_append]
  gi_wp2
  gi_loopw [7] (fun i wr => ∃ k : Nat, k ≤ len ∧ i = .int .i64 k ∧ J (upto f k) wr ∧ KeepB b W wr)
    (fun i _ => len - (intOf i).toNat)
  case atStart => exact ⟨0, Nat.zero_le _, rfl, h0, KeepB.refl _ _⟩
  case round =>
    obtain ⟨k, hk, rfl, hJs, hnx⟩ := hrel
    have hcx : k < len → wr.cell? ⟨b, off + k, none⟩ = some (.string (f k).1) := fun h => hnx.cell.trans (hc k h)
    by_cases hlt : k < len
    · obtain ⟨fn, tmps, assign, body, hy, hR⟩ := hY _ (f k) wr hJs (by rw [upto_length]; exact hlt)
      have hcx' := hcx hlt
      gi_wp2
      refine hR.mono ?_
      rintro e W3 (⟨rfl, hJ3, hk3⟩ | ⟨rfl, hJx3⟩)
      · gi_wp2
        go_roundw
        case rel => exact ⟨k + 1, by omega, by simp, by rw [upto_succ]; exact hJ3, hnx.trans hk3⟩
        case measure => simp [intOf]; omega
      · gi_wp2
        refine bodyPost_ret (results_none rfl _ _ _) rfl ?_
        exact ⟨⟨_, rfl⟩, .inr ⟨_, ⟨k + 1, by omega, (upto_succ _ _).symm⟩, hJx3⟩⟩
    · obtain rfl : k = len := by omega
      gi_wp2
      go_end0
      exact ⟨⟨_, rfl⟩, .inl ⟨_, rfl, hJs⟩⟩

set_option maxHeartbeats 1000000 in
theorem values_in (F : Fence) (n : Nat) (h5 : F.fn 51) (hro : F.round = none) (a : Option Addr) (len cap : Nat) (w : World) :
    CallsIn F n Tryd.prog 51 #[.slice a len cap] w fun e w' => e = .returned (.func (.func 62) #[] #[.pointer (some ⟨w.heap.size, 0, none⟩)]) ∧ w' = w.alloc (.cells #[.slice a len cap] 93) := by
  refine callsIn_of_wp Tryd.func51 rfl h5 ?_ hro
  simp only [Tryd.ntmps51, List.size_toArray, List.length_cons, List.length_nil, Nat.reduceAdd, Nat.reduceSub, Array.replicate_succ, Array.replicate_zero, List.push_toArray, List.append_toArray, List.nil_append, List.cons_append]
  gi_wp2
  go_ret
  exact ⟨rfl, rfl⟩

theorem upto_prefix (f : Nat → Str) {k len : Nat} (h : k ≤ len) : upto f k <+: upto f len := by
  unfold upto
  obtain ⟨d, rfl⟩ : ∃ d, len = k + d := ⟨len - k, by omega⟩
  rw [List.range_add, List.map_append]
  exact List.prefix_append _ _

/-- slices.Values(s), s not nil: all of its texts, in order; or a prefix of them. -/
theorem values_stops (F : Fence) (n : Nat) (h7 : F.fn 62) (hro : F.round = none) (hn : 1 ≤ n) (Bs b off len cap : Nat) (f : Nat → Str) (hreach : len * 16 ≤ 140737488351232) (w : World) (hBs : Bs < w.heap.size) (hb : b < w.heap.size)
    (hc : w.cell? ⟨Bs, 0, none⟩ = some (.slice (some ⟨b, off, none⟩) len cap)) (hcs : ∀ j, j < len → w.cell? ⟨b, off + j, none⟩ = some (.string (f j).1)) :
    SeqStopsK F n Tryd.prog 62 #[.pointer (some ⟨Bs, 0, none⟩)] (fun x : Str => #[Value.string x.1]) (KeepB b) (fun ys => ys = upto f len) (fun pre => pre <+: upto f len) len w := fun l J Jx W hW _ _ hY h0 => by
  have hc' := (hW.cell (p := ⟨Bs, 0, none⟩) hBs).trans hc
  have hcs' : ∀ j, j < len → W.cell? ⟨b, off + j, none⟩ = some (.string (f j).1) := fun j hj => (hW.cell (p := ⟨b, off + j, none⟩) hb).trans (hcs j hj)
  refine (values1_in F n h7 hro hn l Bs b off len cap f hreach J Jx hY W hc' hcs' h0).mono ?_
  rintro e W' ⟨he, ⟨ys, rfl, hj⟩ | ⟨pre, ⟨k, hk, rfl⟩, hj⟩⟩
  · exact ⟨he, .inl ⟨_, rfl, hj⟩⟩
  · exact ⟨he, .inr ⟨_, upto_prefix f hk, hj⟩⟩
end Go.Proofs.YtjnaikojoemkaaaDoor
