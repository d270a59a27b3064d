/-
  slices.Values at strings: the iterator, for every loop body that keeps the slice's block.
  The keywords: names.All, names.keywords, names.Keyword.
  The walks of names.Keyword, Word, Words, Right.
  The walks of slices.IndexFunc and ContainsFunc at strings, names.Words, names.Right.
  The walk of the law's own 'same': are two lists the same texts?
  The walks of the document's answer for names: All, Keyword, Word.
  The walk of the document's answer for names: Words.
-/
import Derived.RangeFuncWrites
import Derived.RangeFuncNested
import Derived.RangeFuncBound
import Derived.RangeFuncCalls
import Derived.RangeFuncLeaves
import Derived.Shelf.Abstract
import Derived.Shelf.RegionOpen
import Derived.WalkKit
import Derived.OwnWalkIn
import Derived.TacticsInMore
import Derived.LoopNIn
import Derived.LoopIn
import Derived.Maps.OwnIn
import Derived.Test.YtbcdbefogfmhfaaGreatDoorMB
import Derived.Test.YtbcdbefogfmhfaaGreatDoorProg
import Derived.Maps.OwnSet
import Derived.Test.YtbcdbefogfmhfaaGreatDoorMC
import Derived.Maps.OwnOps
import Derived.Test.YtbcdbefogfmhfaaGreatDoorMR
import Derived.Test.YtbcdbefogfmhfaaGreatDoorShelf
import Derived.Deep.QuietTactic
import Derived.BigQuiet
import Derived.RegionTactic
import Derived.IntWalk
import Derived.ChangeAlike
import Derived.Laws.OwnMore
namespace Go.Proofs.YtbcdbefogfmhfaaGreatDoor
open Go.RowKit Go.Shelf
attribute [local go_sem] Oper.semAt_some
/-- A text that is no longer than any may be. -/
abbrev Str := { s : ByteArray // s.size ≤ maxLen }
/-- Block b is as it was. -/
def KeepB (b : Nat) (W W' : World) : Prop := W'.heap[b]? = W.heap[b]?
theorem KeepB.refl (b : Nat) (W : World) : KeepB b W W := rfl
theorem KeepB.trans {b : Nat} {A B C : World} (h : KeepB b A B) (k : KeepB b B C) : KeepB b A C := Eq.trans k h
theorem KeepB.cell {b o : Nat} {A B : World} (h : KeepB b A B) : B.cell? ⟨b, o, none⟩ = A.cell? ⟨b, o, none⟩ := World.cell?_of_block (w := A) (a := ⟨b, o, none⟩) h
theorem KeepB.putObj {b : Nat} (n : Nat) (hb : b < n) (W : World) (l : Nat) (o o' : Obj) (hl : n ≤ l) (_ : W.heap[l]? = some o) (_ : o.isCells = false) (_ : o.isWalk = false) : KeepB b W (W.putObj l o') :=
  World.putObj_heap_other (by omega)
def upto (f : Nat → Str) (k : Nat) : List Str := (List.range k).map f
theorem upto_length (f : Nat → Str) (k : Nat) : (upto f k).length = k := by simp [upto]
theorem upto_succ (f : Nat → Str) (k : Nat) : upto f (k + 1) = upto f k ++ [f k] := by simp [upto, List.range_succ]
set_option maxRecDepth 100000 in
set_option maxHeartbeats 1000000 in
theorem values1_in (F : Fence) (n : Nat) (h7 : F.fn 117) (hro : F.round = none) (hn : 1 ≤ n) (l Bs b off len cap : Nat) (f : Nat → Str) (hreach : len * 16 ≤ 140737488351232) (J Jx : List Str → World → Prop)
    (hY : ∀ pre x W, J pre W → pre.length < len → YieldAt F (n - 1) Tryz.prog l #[.string x.1] W fun e W' =>
      (e = .returned (.bool true) ∧ J (pre ++ [x]) W' ∧ KeepB b W W') ∨ (e = .returned (.bool false) ∧ Jx (pre ++ [x]) W'))
    (W : World) (hBs : W.cell? ⟨Bs, 0, none⟩ = some (.slice (some ⟨b, off, none⟩) len cap)) (hc : ∀ j, j < len → W.cell? ⟨b, off + j, none⟩ = some (.string (f j).1)) (h0 : J [] W) :
    CallsIn F n Tryz.prog 117 #[.func (.yield l) #[] #[], .pointer (some ⟨Bs, 0, none⟩)] W fun e W' => (∃ v, e = .returned v) ∧
      ((∃ ys, ys = upto f len ∧ J ys W') ∨ (∃ pre, (∃ k, k ≤ len ∧ pre = upto f k) ∧ Jx pre W')) := by
  refine callsIn_of_wp Tryz.func117 rfl h7 ?_ hro
  simp only [Tryz.ntmps117, List.size_toArray, List.length_cons, List.length_nil, Nat.reduceAdd, Nat.reduceSub, Array.replicate_succ, Array.replicate_zero, List.push_toArray, List.append_toArray, List.nil_append, List.cons_append]
  gi_wp2
  gi_loopw [7] (fun i wr => ∃ k : Nat, k ≤ len ∧ i = .int .i64 k ∧ J (upto f k) wr ∧ KeepB b W wr)
    (fun i _ => len - (intOf i).toNat)
  case atStart => exact ⟨0, Nat.zero_le _, rfl, h0, KeepB.refl _ _⟩
  case round =>
    obtain ⟨k, hk, rfl, hJs, hnx⟩ := hrel
    have hcx : k < len → wr.cell? ⟨b, off + k, none⟩ = some (.string (f k).1) := fun h => hnx.cell.trans (hc k h)
    by_cases hlt : k < len
    · obtain ⟨fn, tmps, assign, body, hy, hR⟩ := hY _ (f k) wr hJs (by rw [upto_length]; exact hlt)
      have hcx' := hcx hlt
      gi_wp2
      refine hR.mono ?_
      rintro e W3 (⟨rfl, hJ3, hk3⟩ | ⟨rfl, hJx3⟩)
      · gi_wp2
        go_roundw
        case rel => exact ⟨k + 1, by omega, by simp, by rw [upto_succ]; exact hJ3, hnx.trans hk3⟩
        case measure => simp [intOf]; omega
      · gi_wp2
        refine bodyPost_ret (results_none rfl _ _ _) rfl ?_
        exact ⟨⟨_, rfl⟩, .inr ⟨_, ⟨k + 1, by omega, (upto_succ _ _).symm⟩, hJx3⟩⟩
    · obtain rfl : k = len := by omega
      gi_wp2
      go_end0
      exact ⟨⟨_, rfl⟩, .inl ⟨_, rfl, hJs⟩⟩
set_option maxHeartbeats 1000000 in
theorem values_in (F : Fence) (n : Nat) (h5 : F.fn 87) (hro : F.round = none) (a : Option Addr) (len cap : Nat) (w : World) :
    CallsIn F n Tryz.prog 87 #[.slice a len cap] w fun e w' => e = .returned (.func (.func 117) #[] #[.pointer (some ⟨w.heap.size, 0, none⟩)]) ∧ w' = w.alloc (.cells #[.slice a len cap] 35) := by
  refine callsIn_of_wp Tryz.func87 rfl h5 ?_ hro
  simp only [Tryz.ntmps87, List.size_toArray, List.length_cons, List.length_nil, Nat.reduceAdd, Nat.reduceSub, Array.replicate_succ, Array.replicate_zero, List.push_toArray, List.append_toArray, List.nil_append, List.cons_append]
  gi_wp2
  go_ret
  exact ⟨rfl, rfl⟩
theorem upto_prefix (f : Nat → Str) {k len : Nat} (h : k ≤ len) : upto f k <+: upto f len := by
  unfold upto
  obtain ⟨d, rfl⟩ : ∃ d, len = k + d := ⟨len - k, by omega⟩
  rw [List.range_add, List.map_append]
  exact List.prefix_append _ _
/-- slices.Values(s), s not nil: all of its texts, in order; or a prefix of them. -/
theorem values_stops (F : Fence) (n : Nat) (h7 : F.fn 117) (hro : F.round = none) (hn : 1 ≤ n) (Bs b off len cap : Nat) (f : Nat → Str) (hreach : len * 16 ≤ 140737488351232) (w : World) (hBs : Bs < w.heap.size) (hb : b < w.heap.size)
    (hc : w.cell? ⟨Bs, 0, none⟩ = some (.slice (some ⟨b, off, none⟩) len cap)) (hcs : ∀ j, j < len → w.cell? ⟨b, off + j, none⟩ = some (.string (f j).1)) :
    SeqStopsK F n Tryz.prog 117 #[.pointer (some ⟨Bs, 0, none⟩)] (fun x : Str => #[Value.string x.1]) (KeepB b) (fun ys => ys = upto f len) (fun pre => pre <+: upto f len) len w := fun l J Jx W hW _ _ hY h0 => by
  have hc' := (hW.cell (p := ⟨Bs, 0, none⟩) hBs).trans hc
  have hcs' : ∀ j, j < len → W.cell? ⟨b, off + j, none⟩ = some (.string (f j).1) := fun j hj => (hW.cell (p := ⟨b, off + j, none⟩) hb).trans (hcs j hj)
  refine (values1_in F n h7 hro hn l Bs b off len cap f hreach J Jx hY W hc' hcs' h0).mono ?_
  rintro e W' ⟨he, ⟨ys, rfl, hj⟩ | ⟨pre, ⟨k, hk, rfl⟩, hj⟩⟩
  · exact ⟨he, .inl ⟨_, rfl, hj⟩⟩
  · exact ⟨he, .inr ⟨_, upto_prefix f hk, hj⟩⟩
end Go.Proofs.YtbcdbefogfmhfaaGreatDoor

namespace Go.Proofs.YtbcdbefogfmhfaaGreatDoor
open Go.RowKit Go.Shelf Go.Maps
attribute [local go_sem] Oper.semAt_some
/-- The keywords' bytes, in order. -/
def kwL : List (List UInt8) := [[97, 110, 100], [98, 101, 116, 119, 101, 101, 110], [101, 108, 115, 101], [101, 118, 101, 114, 121], [102, 97, 108, 115, 101], [102, 111, 114], [102, 117, 110, 99, 116, 105, 111, 110], [105, 102], [105, 110], [110, 111, 116], [110, 117, 108, 108], [111, 114], [114, 101, 116, 117, 114, 110], [115, 97, 116, 105, 115, 102, 105, 101, 115], [115, 111, 109, 101], [116, 104, 101, 110], [116, 114, 117, 101]]
def kwB (l : List UInt8) : ByteArray := ⟨l.toArray⟩
def kwV : List Value := kwL.map fun l => Value.string (kwB l)
def kwF (j : Nat) : Str := ⟨kwB (kwL.getD j []), by
  have : ∀ j, (kwL.getD j []).length ≤ 9 := fun j => by
    by_cases h : j < 17
    · exact (by decide : ∀ j : Fin 17, (kwL.getD j.1 []).length ≤ 9) ⟨j, h⟩
    · have h2 : kwL[j]? = none := List.getElem?_eq_none (by have : kwL.length = 17 := rfl; omega)
      simp [List.getD, h2]
  have h2 := this j
  show (kwL.getD j []).toArray.size ≤ maxLen
  rw [List.size_toArray]
  unfold maxLen; omega⟩
/-- Is it a keyword? -/
def isKw (s : ByteArray) : Bool := kwL.any fun l => l == s.data.toList
set_option maxRecDepth 100000 in
set_option maxHeartbeats 1000000 in
theorem all_in (n : Nat) (h1 : 1 ≤ n) (w : World) :
    CallsIn Fence.wide n Tryz.prog 192 #[] w fun e w' => e = .returned (.func (.func 117) #[] #[.pointer (some ⟨w.heap.size + 1, 0, none⟩)]) ∧ w' = (w.alloc (.cells kwV.toArray 9)).alloc (.cells #[.slice (some ⟨w.heap.size, 0, none⟩) 17 17] 35) := by
  refine callsIn_of_wp Tryz.func192 rfl trivial ?_ rfl
  simp only [Tryz.ntmps192, List.size_toArray, List.length_nil, Nat.reduceSub, Array.replicate_succ, Array.replicate_zero, List.push_toArray, List.append_toArray, List.nil_append, List.cons_append]
  gi_wp2_with (refine ⟨trivial, ?_⟩; gi_at_call 87; refine (values_in Fence.wide _ trivial rfl _ _ _ _).mono ?_; rintro e w' ⟨rfl, rfl⟩)
  go_ret
  exact ⟨by simp, by simp [kwV, kwL, kwB]⟩
theorem cell_alloc_old (w : World) (o : Obj) (b k : Nat) (h : b < w.heap.size) : (w.alloc o).cell? ⟨b, k, none⟩ = w.cell? ⟨b, k, none⟩ := World.cell?_of_block (w := w) (a := ⟨b, k, none⟩) (Below.heap_alloc _ _ _ h)
theorem cell_new_row (w : World) (l : List Value) (t : TypeId) (j : Nat) (h : 0 + j < l.length) : (w.alloc (.cells l.toArray t)).cell? ⟨w.heap.size, 0 + j, none⟩ = some (l[0 + j]) := by
  simp only [World.cell?, World.alloc_heap_new]
  simp
theorem kwV_at (j : Nat) (hj : j < 17) : some (kwV[0 + j]'(by simp [kwV, kwL]; exact hj)) = some (Value.string (kwF j).1) := by
  have h : j < kwL.length := hj
  simp only [kwV, List.getElem_map, kwF, List.getD, Nat.zero_add, List.getElem?_eq_getElem h, Option.getD_some]
def trueElem {H : Type} : Value → Option (DataW H × List MemPlace)
  | .bool true => some (.lit (.bool true), [])
  | _ => none
def kwD {H : Type} (xs : List Str) : DataW H := setOf (.lit (.bool true)) (xs.map fun x => Lit.string x.1.data.toList)
theorem kwD_snoc {H : Type} (pre : List Str) (x : Str) : kwD (H := H) (pre ++ [x]) = (kwD pre).put (.string x.1.data.toList) (.lit (.bool true)) := by simp [kwD, setOf_snoc]
set_option maxRecDepth 100000 in
set_option maxHeartbeats 2000000 in
theorem keywords_in (n : Nat) (hn : 4 ≤ n) (w : World) :
    CallsIn Fence.wide n Tryz.prog 176 #[] w fun e W' => e = .returned (.map (some w.heap.size)) ∧ W'.ownsMap Tryz.prog 9 (trueElem (H := Unit)) w.heap.size 17 (kwD (upto kwF 17)) ∧ Below w.heap.size w W' := by
  have h1 : 1 ≤ n := by omega
  have hmm := @run_makeMap Tryz.prog
  refine callsIn_of_wp_marks Tryz.func176 rfl trivial ?_ rfl
  simp only [Tryz.ntmps176, List.size_toArray, List.length_nil, Nat.reduceSub, Array.replicate_succ, Array.replicate_zero, List.push_toArray, List.append_toArray, List.nil_append, List.cons_append]
  gi_wp2_with (refine ⟨trivial, ?_⟩; gi_at_call 192; refine (all_in (n - 1) (by omega) _).mono ?_; rintro e w' ⟨rfl, rfl⟩)
  have hm0 := World.ownsMap_made w Tryz.prog 9 (trueElem (H := Unit))
  have cS := (Boxed.new (w.alloc (.map #[] 0)) 228 (.map (some w.heap.size)))
  have bS := (cS.alloc (.cells kwV.toArray 9)).alloc (.cells #[.slice (some ⟨w.heap.size + 2, 0, none⟩) 17 17] 35)
  have hB0 : Below w.heap.size w (((w.alloc (.map #[] 0)).alloc (.cells #[.map (some w.heap.size)] 228)).alloc (.cells kwV.toArray 9)) := (((Below.refl _ w).alloc (Nat.le_refl _) _).alloc (by simp) _).alloc (by simp; omega) _
  have hB1 := hB0.alloc (by simp; omega) (.cells #[.slice (some ⟨w.heap.size + 2, 0, none⟩) 17 17] 35)
  have bN := Boxed.new (((w.alloc (.map #[] 0)).alloc (.cells #[.map (some w.heap.size)] 228)).alloc (.cells kwV.toArray 9)) 35 (.slice (some ⟨w.heap.size + 2, 0, none⟩) 17 17)
  simp only [World.size_alloc] at cS bN bS
  obtain ⟨W0, hW0⟩ : ∃ W0, ((((w.alloc (.map #[] 0)).alloc (.cells #[.map (some w.heap.size)] 228)).alloc (.cells kwV.toArray 9)).alloc (.cells #[.slice (some ⟨w.heap.size + 2, 0, none⟩) 17 17] 35)) = W0 := ⟨_, rfl⟩
  have hsz : W0.heap.size = w.heap.size + 4 := by rw [← hW0]; simp
  have hrow : ∀ j, j < 17 → W0.cell? ⟨w.heap.size + 2, 0 + j, none⟩ = some (.string (kwF j).1) := fun j hj => by
    rw [← hW0, cell_alloc_old _ _ _ _ (by simp), show w.heap.size + 2 = ((w.alloc (.map #[] 0)).alloc (.cells #[.map (some w.heap.size)] 228)).heap.size from by simp]
    rw [cell_new_row _ _ _ _ (by simp [kwV, kwL]; exact hj)]
    exact kwV_at j hj
  have hm1 : W0.ownsMap Tryz.prog 9 (trueElem (H := Unit)) w.heap.size 0 (.map []) := by rw [← hW0]; exact ((hm0.alloc _).alloc _).alloc _
  rw [hW0] at hB1 bN bS
  have e2 : w.heap.size + 1 + 1 = w.heap.size + 2 := rfl
  have e3 : w.heap.size + 1 + 1 + 1 = w.heap.size + 3 := rfl
  simp only [e2, e3] at *
  rw [hW0]
  refine wpIn_rangeFunc_ownG rfl h1 (gf := 117) (lb := #[.pointer (some ⟨w.heap.size + 3, 0, none⟩)]) rfl trivial (enters_of Tryz.func117 (by kernel_rfl) rfl)
    (values_stops Fence.wide (n - 1) trivial rfl (by omega) (w.heap.size + 3) (w.heap.size + 2) 0 17 17 kwF (by omega) W0 (by omega) (by omega) bN.cell hrow) KeepB.trans (KeepB.putObj W0.heap.size (by omega)) (Below.refl _ _) (fun _ => rfl)
    (fun pre W => (Boxed W (w.heap.size + 1) 228 (.map (some w.heap.size)) ∧ W.ownsMap Tryz.prog 9 (trueElem (H := Unit)) w.heap.size pre.length (kwD pre) ∧ W0.heap.size ≤ W.heap.size) ∧ Below w.heap.size w W)
    (fun _ _ _ => False)
    (OwnFrom.and (fun s A B row hs hg hr => ⟨hs.1.kept hg (fun e => by have := (hr _ e.symm).1; omega), hs.2.1.kept hg (fun e => by have := (hr _ e.symm).1; omega), Nat.le_trans hs.2.2 hg.size⟩) (ownFrom_below (Nat.le_refl _) (by omega)))
    (fun _ _ _ _ _ hs _ _ => hs)
    ⟨⟨bS, hm1, Nat.le_refl _⟩, hB1⟩
    (fun x => { tmps := #[.map none, .pointer (some ⟨w.heap.size + 1, 0, none⟩), .string x.1, .map (some w.heap.size), .func (.func 117) #[] #[.pointer (some ⟨w.heap.size + 3, 0, none⟩)], .string x.1, undef, undef, undef], defers := [] }) ?assign ?body ?done ?stop
  case assign =>
    intro l x W K hK
    gi_wp2
    exact hK
  case body =>
    rintro l pre x W ⟨⟨hc, hown, hge⟩, hB⟩ hlt
    have hcc := hc.cell
    gi_wp2_with (gi_at_mapUpdate; refine wpListIn_mapUpdate_own _ rfl _ _ _ 228 rfl 9 4 (Maps.string_keyed Tryz.underlying9) Tryz.underlying228 (trueElem (H := Unit)) w.heap.size pre.length (kwD pre) rfl hown (by unfold maxLen; omega) _ _ _ rfl rfl (Go.WideMaps.keyOf_string_mk Tryz.underlying9 x.2) (.lit (.bool true)) [] rfl ?_; intro w1 hown1 hgrow1)
    obtain ⟨es, ck, hh, _⟩ := hown
    exact ⟨KeepsFrom.of_grownBy hgrow1 (fun j e => by cases e; omega), hgrow1.block _ (by omega) (by simp),
      ⟨hc.kept hgrow1 (fun e => by injection e with e; omega), by rw [kwD_snoc, List.length_append]; exact hown1, Nat.le_trans hge hgrow1.size⟩, hB.grown hgrow1 hB.size (fun k e => by cases e; exact Nat.le_refl _)⟩
  case done =>
    rintro D ys W hD rfl ⟨⟨hc, hown, _⟩, hB⟩ hK
    have hcc := hc.cell
    gi_wp2
    refine ⟨by simp, .inl ⟨_, _, rfl, run_takeDeferred hK, ?_⟩⟩
    exact ⟨_, results_tmp rfl _ _ _, rfl, hown.kept (grownBy_putObj' _ D _) (fun e => by cases e; omega), hB.trans (belowK_b (w := w) (Nat.le_refl _) W D _ _ (by omega) hK rfl rfl)⟩
  case stop =>
    rintro D c pre W _ _ h _
    exact h.elim
end Go.Proofs.YtbcdbefogfmhfaaGreatDoor

namespace Go.Proofs.YtbcdbefogfmhfaaGreatDoor
open Go.RowKit Go.Maps
theorem look_true {P : Program} {w : World} {t k e : TypeId} {b n : Nat} {D : DataW Unit} (h : w.ownsMap P k (trueElem (H := Unit)) b n D) (K : Keyed P k) (ht : P.underlying t = some (.map k e)) (hz : (zeroValue e).run P w = .ok (.bool false) w)
    {key : Value} {kl : Lit} (hkey : keyOf P k key = some kl) : (Instr.lookup t (.map (some b)) key false).run P w = .ok (.bool (Maps.has D kl)) w := by
  obtain ⟨es, clock, hb, F, _, rfl⟩ := h
  rcases Maps.fit_look false K ht hz hb F hkey with ⟨hrun, _, hat⟩ | ⟨e0, y, _, _, hrun, hRv, hat, _⟩
  · rw [Maps.has_false_of_atKey hat]; exact hrun
  · rw [Maps.has_true_of_atKey hat]
    have hv : e0.val = .bool true := by
      unfold trueElem at hRv
      split at hRv
      · assumption
      · cases hRv
    rw [hv] at hrun
    exact hrun
theorem kwD_has (s : ByteArray) : Maps.has (kwD (H := Unit) (upto kwF 17)) (.string s.data.toList) = isKw s := by
  unfold kwD
  rw [has_setOf _ _ _ (by intro x hx; obtain ⟨y, _, rfl⟩ := List.mem_map.1 hx; trivial)]
  unfold isKw
  rw [List.any_map]
  have : upto kwF 17 = (List.range 17).map kwF := rfl
  rw [this, List.any_map]
  show (List.range 17).any (fun j => (kwF j).1.data.toList == s.data.toList) = _
  have h2 : (List.range 17).any (fun j => (kwF j).1.data.toList == s.data.toList) = ((List.range 17).map fun j => (kwF j).1.data.toList).any (fun l => l == s.data.toList) := by rw [List.any_map]; rfl
  rw [h2]
  rfl
theorem zero_bool (w : World) : (zeroValue 4).run Tryz.prog w = .ok (.bool false) w := by kernel_rfl
set_option maxHeartbeats 400000 in
theorem keyword_c (s : ByteArray) (hs : s.size ≤ 4294967280) (w : World) :
    Calls Tryz.prog 156 #[.string s] w fun e w' => e = .returned (.bool (isKw s)) ∧ Bel w w' := by
  have hk := fun w1 => callsIn_wide.1 (keywords_in 4 (Nat.le_refl _) w1)
  have HK := Lib.hid hk
  clear hk
  have hsl : s.size ≤ maxLen := by unfold maxLen; omega
  go_enter Tryz.func156, Tryz.ntmps156
  go_wp2_with (first
    | (go_at_call 176; refine (HK.out _).mono ?_; rintro e w1 ⟨rfl, hown, hb⟩; have hrun := look_true hown (string_keyed Tryz.underlying9) (t := 228) (e := 4) Tryz.underlying228 (zero_bool w1) (Go.WideMaps.keyOf_string_mk Tryz.underlying9 hsl); rw [kwD_has] at hrun))
  go_ret
  exact ⟨rfl, by assumption⟩
/-- Is it a word that is no keyword? -/
def wordS (s : ByteArray) : Bool := madeS firstC nextC s && !isKw s
set_option maxHeartbeats 400000 in
theorem word_c (s : ByteArray) (hs : s.size ≤ 4294967280) (w : World) (hE : Env w) :
    Calls Tryz.prog 137 #[.string s] w fun e w' => e = .returned (.bool (wordS s)) ∧ Bel w w' := by
  have hm := made_c s hs _ _ _ _ w hE fine_of_next asks_first asks_next fine_of_first
  unfold wordS
  obtain ⟨A, hA⟩ : ∃ A, madeS firstC nextC s = A := ⟨_, rfl⟩
  rw [hA] at hm ⊢
  have HM := Lib.hid hm
  clear hm hA
  cases A
  · show Calls _ _ _ _ fun e w' => e = .returned (.bool false) ∧ Bel w w'
    go_enter Tryz.func137, Tryz.ntmps137
    go_wp2_with (go_at_call 141; refine HM.out.mono ?_; rintro e w1 ⟨rfl, hb⟩)
    go_ret
    exact ⟨rfl, by assumption⟩
  · show Calls _ _ _ _ fun e w' => e = .returned (.bool (!isKw s)) ∧ Bel w w'
    go_enter Tryz.func137, Tryz.ntmps137
    go_wp2_with (first
      | (go_at_call 141; refine HM.out.mono ?_; rintro e w1 ⟨rfl, hb⟩)
      | (go_at_call 156; refine (keyword_c s hs _).mono ?_; rintro e w2 ⟨rfl, hb2⟩))
    all_goals go_ret
    exact ⟨rfl, (by assumption : Bel w w1).trans (by assumption)⟩
set_option maxHeartbeats 400000 in
theorem notword_c (s : ByteArray) (hs : s.size ≤ 4294967280) (w : World) (hE : Env w) :
    Calls Tryz.prog 136 #[.string s] w fun e w' => e = .returned (.bool (!wordS s)) ∧ Bel w w' := by
  go_enter Tryz.func136, Tryz.ntmps136
  go_wp2_with (go_at_call 137; refine (word_c s hs _ hE).mono ?_; rintro e w1 ⟨rfl, hb⟩)
  go_ret
  exact ⟨rfl, by assumption⟩
end Go.Proofs.YtbcdbefogfmhfaaGreatDoor

namespace Go.Proofs.YtbcdbefogfmhfaaGreatDoor
open Go.RowKit
def strsV (ss : List ByteArray) : List Value := ss.map Value.string
theorem strsV_length (ss : List ByteArray) : (strsV ss).length = ss.length := by simp [strsV]
/-- The place of the first one; -1: there is none. -/
def idxF (p : ByteArray → Bool) : Nat → List ByteArray → Int
  | _, [] => -1
  | k, x :: l => if p x = true then k else idxF p (k + 1) l
theorem idxF_any (p : ByteArray → Bool) : ∀ (l : List ByteArray) (k : Nat), decide (0 ≤ idxF p k l) = l.any p
  | [], _ => rfl
  | x :: l, k => by
    unfold idxF
    by_cases h : p x = true
    · rw [if_pos h]; simp [h]
    · rw [if_neg h, idxF_any p l (k + 1)]; simp [h]
/-- A function value that answers a bool of a text, whatever it lays. -/
structure AsksS (h : Nat) (r : ByteArray → Bool) (ok : ByteArray → Prop) : Prop where
  enters : ∀ args w, (callFunc h args).run Tryz.prog w = .ok (.enter h args) w
  calls : ∀ s w, ok s → Env w → Calls Tryz.prog h #[.string s] w fun e w' => e = .returned (.bool (r s)) ∧ Bel w w'
set_option maxHeartbeats 1000000 in
theorem indexFunc_c (v : Value) (ss : List ByteArray) (h : Nat) (r : ByteArray → Bool) (ok : ByteArray → Prop) (ha : AsksS h r ok) (w : World) (hE : Env w) (hok : ∀ s ∈ ss, ok s) (hv : RowE w v (strsV ss)) (hl : ss.length ≤ 4294967290) :
    Calls Tryz.prog 131 #[v, .func (.func h) #[] #[]] w fun e w' => e = .returned (.int .i64 (idxF r 0 ss)) ∧ Bel w w' := by
  obtain ⟨a, cap, rfl, hcap, hz⟩ := hv
  obtain ⟨R, hR⟩ : ∃ R, idxF r 0 ss = R := ⟨_, rfl⟩
  obtain ⟨n, hn⟩ : ∃ n, (strsV ss).length = n := ⟨_, rfl⟩
  have hn2 : n ≤ 4294967290 := by rw [← hn, strsV_length]; exact hl
  rw [hn] at hcap ⊢
  rw [hR]
  have HR := Lib.hid hR
  have HN := Lib.hid hn
  have HZ := Lib.hid hz
  have HOK := Lib.hid hok
  have hen := ha.enters
  clear hR hn hz hok hl
  go_enter Tryz.func131, Tryz.ntmps131
  go_wp2_with fail
  go_loopw [8] (fun i wr => ∃ k : Nat, k ≤ n ∧ i = .int .i64 k ∧ Bel w wr ∧ idxF r k (ss.drop k) = R) (fun i _ => n - (intOf i).toNat)
  case atStart => exact ⟨0, Nat.zero_le _, rfl, Bel.refl _, HR.out⟩
  case round =>
    obtain ⟨k, hk, rfl, hbel, hix⟩ := hrel
    by_cases hkn : k < n
    · have hks : k < ss.length := by have := HN.out; rw [strsV_length] at this; omega
      rcases HZ.out with h0 | ⟨b, off, rfl, hlt, hc⟩
      · have := HN.out; rw [h0] at this; simp at this; omega
      have hcell := hc k (by rw [HN.out]; exact hkn)
      have hd := List.drop_eq_getElem_cons hks
      rw [hd] at hix
      have hmem : ss[k] ∈ ss := List.getElem_mem hks
      have hoks := HOK.out _ hmem
      obtain ⟨x, hx⟩ : ∃ x, ss[k] = x := ⟨_, rfl⟩
      have hcell2 : wr.cell? ⟨b, off + k, none⟩ = some (.string x) := by
        rw [hbel.cell hlt, hcell, ← hx]; simp [strsV]
      rw [hx] at hix hoks
      have HIX := Lib.hid hix
      have hE2 := hE.bel hbel
      have hcall := ha.calls x wr hoks hE2
      obtain ⟨F, hF⟩ : ∃ F, r x = F := ⟨_, rfl⟩
      rw [hF] at hcall
      have HCALL := Lib.hid hcall
      have HF := Lib.hid hF
      clear hcell hc hd hix hmem hx hcall hF
      cases F
      · go_wp2_with ((with_reducible refine HCALL.out.mono ?_); rintro e w1 ⟨rfl, hb1⟩)
        refine ⟨⟨k + 1, by omega, by go_num, hbel.trans (by assumption), ?_⟩, by simp [intOf]; omega⟩
        have := HIX.out
        rw [idxF, if_neg (by rw [HF.out]; simp)] at this
        exact this
      · go_wp2_with ((with_reducible refine HCALL.out.mono ?_); rintro e w1 ⟨rfl, hb1⟩)
        go_ret
        have := HIX.out
        rw [idxF, if_pos HF.out] at this
        exact ⟨ret_int this, hbel.trans (by assumption)⟩
    · obtain rfl : k = n := by omega
      go_wp2_with fail
      go_ret
      rw [List.drop_of_length_le (by have := HN.out; rw [strsV_length] at this; omega)] at hix
      exact ⟨ret_int hix, hbel⟩
set_option maxHeartbeats 400000 in
theorem containsFunc_c (v : Value) (ss : List ByteArray) (h : Nat) (r : ByteArray → Bool) (ok : ByteArray → Prop) (ha : AsksS h r ok) (w : World) (hE : Env w) (hok : ∀ s ∈ ss, ok s) (hv : RowE w v (strsV ss)) (hl : ss.length ≤ 4294967290) :
    Calls Tryz.prog 111 #[v, .func (.func h) #[] #[]] w fun e w' => e = .returned (.bool (ss.any r)) ∧ Bel w w' := by
  have hi := indexFunc_c v ss h r ok ha w hE hok hv hl
  have hany := idxF_any r ss 0
  obtain ⟨R, hR⟩ : ∃ R, idxF r 0 ss = R := ⟨_, rfl⟩
  rw [hR] at hi hany
  rw [← hany]
  have HI := Lib.hid hi
  clear hi hany hR
  go_enter Tryz.func111, Tryz.ntmps111
  go_wp2_with (go_at_call 131; refine HI.out.mono ?_; rintro e w1 ⟨rfl, hb⟩)
  go_ret
  exact ⟨rfl, by assumption⟩
/-- A name's words: its parts between blanks, each a word; none: it is no name. -/
def partsS (s : ByteArray) : List ByteArray := Lib.splitB ⟨#[32]⟩ 0 (Lib.countB s ⟨#[32]⟩) s
def wordsS (s : ByteArray) : Option (List ByteArray) := if (partsS s).all wordS then some (partsS s) else none
theorem parts_length (s : ByteArray) : (partsS s).length = Lib.countB s ⟨#[32]⟩ + 1 := Lib.splitB_all _ (by decide) _ _ _ rfl
theorem splitB_size (sep : ByteArray) : ∀ (k : Nat) (s x : ByteArray), x ∈ Lib.splitB sep 0 k s → x.size ≤ s.size
  | 0, s, x, h => by rw [Lib.splitB_zero] at h; simp at h; subst h; exact Nat.le_refl _
  | k + 1, s, x, h => by
    rcases Lib.indexB_cases s sep with hix | ⟨i, hix, _⟩
    · rw [Lib.splitB_miss _ _ _ _ hix] at h; simp at h; subst h; exact Nat.le_refl _
    · rw [Lib.splitB_hit _ _ _ _ i hix] at h
      rcases List.mem_cons.1 h with rfl | h
      · simp; omega
      · have := splitB_size sep k _ x h
        simp at this; omega
theorem parts_size (s x : ByteArray) (h : x ∈ partsS s) : x.size ≤ s.size := splitB_size _ _ s x h
theorem count_le (s : ByteArray) : Lib.countB s ⟨#[32]⟩ ≤ s.size := Lib.countB_le _ (by decide) _ _ (Nat.le_refl _)
/-- What Words answers. -/
def RetW (r : Option (List ByteArray)) (w : World) (e : Ending) (w' : World) : Prop :=
  Bel w w' ∧ match r with
  | none => e = .returned (.tuple #[.slice none 0 0, .bool false])
  | some l => ∃ v, e = .returned (.tuple #[v, .bool true]) ∧ RowAt w' v (strsV l)
theorem asks_notword : AsksS 136 (fun s => !wordS s) (fun s => s.size ≤ 4294967280) := ⟨enters_of Tryz.func136 (by kernel_rfl) rfl, fun s w h hE => notword_c s h w hE⟩
set_option maxHeartbeats 1000000 in
theorem words_c (s : ByteArray) (hs : s.size ≤ 4294967280) (w : World) (hE : Env w) :
    Calls Tryz.prog 114 #[.string s] w (RetW (wordsS s) w) := by
  have hlen := parts_length s
  have hcl := count_le s
  obtain ⟨m, hm⟩ := hE.2
  have hsp := Tryz.strings_Split s ⟨#[32]⟩ m w (by omega) hm (by decide)
  rw [show Lib.splitB ⟨#[32]⟩ 0 (Lib.countB s ⟨#[32]⟩) s = partsS s from rfl, ← hlen] at hsp
  have hrow := row_new w (strsV (partsS s)) 9
  rw [strsV_length] at hrow
  have hsz : ∀ x ∈ partsS s, x.size ≤ 4294967280 := fun x hx => Nat.le_trans (parts_size s x hx) hs
  unfold wordsS
  obtain ⟨ps, hps⟩ : ∃ ps, partsS s = ps := ⟨_, rfl⟩
  rw [hps] at hsp hrow hsz hlen ⊢
  obtain ⟨W1, hW1⟩ : ∃ W1, w.alloc (.cells (strsV ps).toArray 9) = W1 := ⟨_, rfl⟩
  have hb1 : Bel w W1 := by rw [← hW1]; exact Bel.alloc _ _
  rw [hW1] at hrow
  have hcf := containsFunc_c _ ps _ _ _ asks_notword W1 (hE.bel hb1) hsz (RowAt0.toE (.inr hrow)) (by omega)
  have hsp2 : Calls Tryz.prog 135 #[.string s, .string ⟨#[32]⟩] w fun e w' => e = .returned (.slice (some ⟨w.heap.size, 0, none⟩) ps.length ps.length) ∧ W1 = w' :=
    hsp.mono fun e w' ⟨he, hw⟩ => ⟨he, by rw [hw, ← hW1]; rfl⟩
  have hany : ps.any (fun x => !wordS x) = !ps.all wordS := by rw [List.all_eq_not_any_not]; simp
  rw [hany] at hcf
  have HSP := Lib.hid hsp2
  have HCF := Lib.hid hcf
  have HROW := Lib.hid hrow
  clear hsp hsp2 hcf hrow hany hm hW1 hlen hcl hps hsz
  obtain ⟨A, hA⟩ : ∃ A, ps.all wordS = A := ⟨_, rfl⟩
  rw [hA] at HCF ⊢
  clear hA
  cases A
  · show Calls _ _ _ _ (RetW none w)
    go_enter Tryz.func114, Tryz.ntmps114
    go_wp2_with (first
      | (go_at_call 135; refine HSP.out.mono ?_; rintro e w1 ⟨rfl, rfl⟩)
      | (go_at_call 111; refine HCF.out.mono ?_; rintro e w2 ⟨rfl, hb2⟩))
    go_ret2
    exact ⟨hb1.trans (by assumption), rfl⟩
  · show Calls _ _ _ _ (RetW (some ps) w)
    go_enter Tryz.func114, Tryz.ntmps114
    go_wp2_with (first
      | (go_at_call 135; refine HSP.out.mono ?_; rintro e w1 ⟨rfl, rfl⟩)
      | (go_at_call 111; refine HCF.out.mono ?_; rintro e w2 ⟨rfl, hb2⟩))
    go_ret2
    exact ⟨hb1.trans (by assumption), _, rfl, HROW.out.bel (by assumption)⟩
end Go.Proofs.YtbcdbefogfmhfaaGreatDoor

namespace Go.Proofs.YtbcdbefogfmhfaaGreatDoor
open Go.RowKit
theorem row0_form {W : World} {v : Value} {xs : List Value} (h : RowAt0 W v xs) (n : Nat) (hn : xs.length = n) : ∃ ao cap, v = .slice ao n cap ∧ (0 < n → ∃ b off, ao = some ⟨b, off, none⟩ ∧ b < W.heap.size ∧ n ≤ cap ∧ ∀ j, j < n → W.cell? ⟨b, off + j, none⟩ = xs[j]?) := by
  rcases h with ⟨rfl, rfl⟩ | ⟨b, off, cap, rfl, hcap, hlt, hc⟩
  · exact ⟨none, 0, by rw [← hn]; rfl, fun h => by simp at hn; omega⟩
  · exact ⟨_, cap, by rw [hn], fun _ => ⟨b, off, rfl, hlt, by omega, fun j hj => by rw [hc j (by omega), List.getElem?_eq_getElem]⟩⟩
theorem toList_eq {x y : ByteArray} (h : (x.toList == y.toList) = true) : x = y := by
  rw [beq_iff_eq, Lib.toList_data, Lib.toList_data] at h
  exact ByteArray.ext (Array.ext' h)
theorem toList_ne {x y : ByteArray} (h : (x.toList == y.toList) = false) : x ≠ y := by
  rintro rfl; simp at h
def RetBel (v : Value) (w : World) (e : Ending) (w' : World) : Prop := e = .returned v ∧ Bel w w'
end Go.Proofs.YtbcdbefogfmhfaaGreatDoor

namespace Go.Proofs.YtbcdbefogfmhfaaGreatDoor
open Go.RowKit
/-- The parts between blanks. -/
def cutL : List UInt8 → ByteArray → List ByteArray
  | [], x => [x]
  | c :: l, x => if c = 32 then x :: cutL l ⟨#[]⟩ else cutL l (x ++ ⟨#[c]⟩)
def rpartsS (s : ByteArray) : List ByteArray := cutL s.data.toList ⟨#[]⟩
end Go.Proofs.YtbcdbefogfmhfaaGreatDoor
