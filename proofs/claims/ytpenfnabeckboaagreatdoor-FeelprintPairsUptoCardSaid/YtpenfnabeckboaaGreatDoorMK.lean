/-
  slices.Values at strings: the iterator, for every loop body that keeps the slice's block.
  The keywords: names.All, names.keywords, names.Keyword.
  The walks of names.Keyword, Word, Words, Right.
  The walks of slices.IndexFunc and ContainsFunc at strings, names.Words, names.Right.
  The walk of the law's own 'same': are two lists the same texts?
  The walks of the document's answer for names: All, Keyword, Word.
  The walk of the document's answer for names: Words.
-/
import Derived.RangeFuncWrites
import Derived.RangeFuncNested
import Derived.RangeFuncBound
import Derived.RangeFuncCalls
import Derived.RangeFuncLeaves
import Derived.Shelf.Abstract
import Derived.Shelf.RegionOpen
import Derived.WalkKit
import Derived.OwnWalkIn
import Derived.TacticsInMore
import Derived.LoopNIn
import Derived.LoopIn
import Derived.Maps.OwnIn
import Derived.Test.YtpenfnabeckboaaGreatDoorMB
import Derived.Test.YtpenfnabeckboaaGreatDoorProg
import Derived.Maps.OwnSet
import Derived.Test.YtpenfnabeckboaaGreatDoorMC
import Derived.Maps.OwnOps
import Derived.Test.YtpenfnabeckboaaGreatDoorMR
import Derived.Test.YtpenfnabeckboaaGreatDoorShelf
import Derived.Deep.QuietTactic
import Derived.BigQuiet
import Derived.RegionTactic
import Derived.IntWalk
import Derived.ChangeAlike
import Derived.Laws.OwnMore
namespace Go.Proofs.YtpenfnabeckboaaGreatDoor
open Go.RowKit Go.Shelf
attribute [local go_sem] Oper.semAt_some
/-- A text that is no longer than any may be. -/
abbrev Str := { s : ByteArray // s.size ≤ maxLen }
/-- Block b is as it was. -/
def KeepB (b : Nat) (W W' : World) : Prop := W'.heap[b]? = W.heap[b]?
theorem KeepB.refl (b : Nat) (W : World) : KeepB b W W := rfl
theorem KeepB.trans {b : Nat} {A B C : World} (h : KeepB b A B) (k : KeepB b B C) : KeepB b A C := Eq.trans k h
theorem KeepB.cell {b o : Nat} {A B : World} (h : KeepB b A B) : B.cell? ⟨b, o, none⟩ = A.cell? ⟨b, o, none⟩ := World.cell?_of_block (w := A) (a := ⟨b, o, none⟩) h
theorem KeepB.putObj {b : Nat} (n : Nat) (hb : b < n) (W : World) (l : Nat) (o o' : Obj) (hl : n ≤ l) (_ : W.heap[l]? = some o) (_ : o.isCells = false) (_ : o.isWalk = false) : KeepB b W (W.putObj l o') :=
  World.putObj_heap_other (by omega)
def upto (f : Nat → Str) (k : Nat) : List Str := (List.range k).map f
theorem upto_length (f : Nat → Str) (k : Nat) : (upto f k).length = k := by simp [upto]
theorem upto_succ (f : Nat → Str) (k : Nat) : upto f (k + 1) = upto f k ++ [f k] := by simp [upto, List.range_succ]
set_option maxRecDepth 100000 in
set_option maxHeartbeats 1000000 in
theorem values1_in (F : Fence) (n : Nat) (h7 : F.fn 145) (hro : F.round = none) (hn : 1 ≤ n) (l Bs b off len cap : Nat) (f : Nat → Str) (hreach : len * 16 ≤ 140737488351232) (J Jx : List Str → World → Prop)
    (hY : ∀ pre x W, J pre W → pre.length < len → YieldAt F (n - 1) Tryz.prog l #[.string x.1] W fun e W' =>
      (e = .returned (.bool true) ∧ J (pre ++ [x]) W' ∧ KeepB b W W') ∨ (e = .returned (.bool false) ∧ Jx (pre ++ [x]) W'))
    (W : World) (hBs : W.cell? ⟨Bs, 0, none⟩ = some (.slice (some ⟨b, off, none⟩) len cap)) (hc : ∀ j, j < len → W.cell? ⟨b, off + j, none⟩ = some (.string (f j).1)) (h0 : J [] W) :
    CallsIn F n Tryz.prog 145 #[.func (.yield l) #[] #[], .pointer (some ⟨Bs, 0, none⟩)] W fun e W' => (∃ v, e = .returned v) ∧
      ((∃ ys, ys = upto f len ∧ J ys W') ∨ (∃ pre, (∃ k, k ≤ len ∧ pre = upto f k) ∧ Jx pre W')) := by
  refine callsIn_of_wp Tryz.func145 rfl h7 ?_ hro
  simp only [Tryz.ntmps145, List.size_toArray, List.length_cons, List.length_nil, Nat.reduceAdd, Nat.reduceSub, Array.replicate_succ, Array.replicate_zero, List.push_toArray, List.append_toArray, List.nil_append, List.cons_append]
  gi_wp2
  gi_loopw [7] (fun i wr => ∃ k : Nat, k ≤ len ∧ i = .int .i64 k ∧ J (upto f k) wr ∧ KeepB b W wr)
    (fun i _ => len - (intOf i).toNat)
  case atStart => exact ⟨0, Nat.zero_le _, rfl, h0, KeepB.refl _ _⟩
  case round =>
    obtain ⟨k, hk, rfl, hJs, hnx⟩ := hrel
    have hcx : k < len → wr.cell? ⟨b, off + k, none⟩ = some (.string (f k).1) := fun h => hnx.cell.trans (hc k h)
    by_cases hlt : k < len
    · obtain ⟨fn, tmps, assign, body, hy, hR⟩ := hY _ (f k) wr hJs (by rw [upto_length]; exact hlt)
      have hcx' := hcx hlt
      gi_wp2
      refine hR.mono ?_
      rintro e W3 (⟨rfl, hJ3, hk3⟩ | ⟨rfl, hJx3⟩)
      · gi_wp2
        go_roundw
        case rel => exact ⟨k + 1, by omega, by simp, by rw [upto_succ]; exact hJ3, hnx.trans hk3⟩
        case measure => simp [intOf]; omega
      · gi_wp2
        refine bodyPost_ret (results_none rfl _ _ _) rfl ?_
        exact ⟨⟨_, rfl⟩, .inr ⟨_, ⟨k + 1, by omega, (upto_succ _ _).symm⟩, hJx3⟩⟩
    · obtain rfl : k = len := by omega
      gi_wp2
      go_end0
      exact ⟨⟨_, rfl⟩, .inl ⟨_, rfl, hJs⟩⟩
set_option maxHeartbeats 1000000 in
theorem values_in (F : Fence) (n : Nat) (h5 : F.fn 121) (hro : F.round = none) (a : Option Addr) (len cap : Nat) (w : World) :
    CallsIn F n Tryz.prog 121 #[.slice a len cap] w fun e w' => e = .returned (.func (.func 145) #[] #[.pointer (some ⟨w.heap.size, 0, none⟩)]) ∧ w' = w.alloc (.cells #[.slice a len cap] 22) := by
  refine callsIn_of_wp Tryz.func121 rfl h5 ?_ hro
  simp only [Tryz.ntmps121, List.size_toArray, List.length_cons, List.length_nil, Nat.reduceAdd, Nat.reduceSub, Array.replicate_succ, Array.replicate_zero, List.push_toArray, List.append_toArray, List.nil_append, List.cons_append]
  gi_wp2
  go_ret
  exact ⟨rfl, rfl⟩
theorem upto_prefix (f : Nat → Str) {k len : Nat} (h : k ≤ len) : upto f k <+: upto f len := by
  unfold upto
  obtain ⟨d, rfl⟩ : ∃ d, len = k + d := ⟨len - k, by omega⟩
  rw [List.range_add, List.map_append]
  exact List.prefix_append _ _
/-- slices.Values(s), s not nil: all of its texts, in order; or a prefix of them. -/
theorem values_stops (F : Fence) (n : Nat) (h7 : F.fn 145) (hro : F.round = none) (hn : 1 ≤ n) (Bs b off len cap : Nat) (f : Nat → Str) (hreach : len * 16 ≤ 140737488351232) (w : World) (hBs : Bs < w.heap.size) (hb : b < w.heap.size)
    (hc : w.cell? ⟨Bs, 0, none⟩ = some (.slice (some ⟨b, off, none⟩) len cap)) (hcs : ∀ j, j < len → w.cell? ⟨b, off + j, none⟩ = some (.string (f j).1)) :
    SeqStopsK F n Tryz.prog 145 #[.pointer (some ⟨Bs, 0, none⟩)] (fun x : Str => #[Value.string x.1]) (KeepB b) (fun ys => ys = upto f len) (fun pre => pre <+: upto f len) len w := fun l J Jx W hW _ _ hY h0 => by
  have hc' := (hW.cell (p := ⟨Bs, 0, none⟩) hBs).trans hc
  have hcs' : ∀ j, j < len → W.cell? ⟨b, off + j, none⟩ = some (.string (f j).1) := fun j hj => (hW.cell (p := ⟨b, off + j, none⟩) hb).trans (hcs j hj)
  refine (values1_in F n h7 hro hn l Bs b off len cap f hreach J Jx hY W hc' hcs' h0).mono ?_
  rintro e W' ⟨he, ⟨ys, rfl, hj⟩ | ⟨pre, ⟨k, hk, rfl⟩, hj⟩⟩
  · exact ⟨he, .inl ⟨_, rfl, hj⟩⟩
  · exact ⟨he, .inr ⟨_, upto_prefix f hk, hj⟩⟩
end Go.Proofs.YtpenfnabeckboaaGreatDoor

namespace Go.Proofs.YtpenfnabeckboaaGreatDoor
open Go.RowKit Go.Shelf Go.Maps
attribute [local go_sem] Oper.semAt_some
/-- The keywords' bytes, in order. -/
def kwL : List (List UInt8) := [[97, 110, 100], [98, 101, 116, 119, 101, 101, 110], [101, 108, 115, 101], [101, 118, 101, 114, 121], [102, 97, 108, 115, 101], [102, 111, 114], [102, 117, 110, 99, 116, 105, 111, 110], [105, 102], [105, 110], [110, 111, 116], [110, 117, 108, 108], [111, 114], [114, 101, 116, 117, 114, 110], [115, 97, 116, 105, 115, 102, 105, 101, 115], [115, 111, 109, 101], [116, 104, 101, 110], [116, 114, 117, 101]]
def kwB (l : List UInt8) : ByteArray := ⟨l.toArray⟩
def kwV : List Value := kwL.map fun l => Value.string (kwB l)
def kwF (j : Nat) : Str := ⟨kwB (kwL.getD j []), by
  have : ∀ j, (kwL.getD j []).length ≤ 9 := fun j => by
    by_cases h : j < 17
    · exact (by decide : ∀ j : Fin 17, (kwL.getD j.1 []).length ≤ 9) ⟨j, h⟩
    · have h2 : kwL[j]? = none := List.getElem?_eq_none (by have : kwL.length = 17 := rfl; omega)
      simp [List.getD, h2]
  have h2 := this j
  show (kwL.getD j []).toArray.size ≤ maxLen
  rw [List.size_toArray]
  unfold maxLen; omega⟩
/-- Is it a keyword? -/
def isKw (s : ByteArray) : Bool := kwL.any fun l => l == s.data.toList
set_option maxRecDepth 100000 in
set_option maxHeartbeats 1000000 in
theorem all_in (n : Nat) (h1 : 1 ≤ n) (w : World) :
    CallsIn Fence.wide n Tryz.prog 100 #[] w fun e w' => e = .returned (.func (.func 145) #[] #[.pointer (some ⟨w.heap.size + 1, 0, none⟩)]) ∧ w' = (w.alloc (.cells kwV.toArray 9)).alloc (.cells #[.slice (some ⟨w.heap.size, 0, none⟩) 17 17] 22) := by
  refine callsIn_of_wp Tryz.func100 rfl trivial ?_ rfl
  simp only [Tryz.ntmps100, List.size_toArray, List.length_nil, Nat.reduceSub, Array.replicate_succ, Array.replicate_zero, List.push_toArray, List.append_toArray, List.nil_append, List.cons_append]
  gi_wp2_with (refine ⟨trivial, ?_⟩; gi_at_call 121; refine (values_in Fence.wide _ trivial rfl _ _ _ _).mono ?_; rintro e w' ⟨rfl, rfl⟩)
  go_ret
  exact ⟨by simp, by simp [kwV, kwL, kwB]⟩
theorem cell_alloc_old (w : World) (o : Obj) (b k : Nat) (h : b < w.heap.size) : (w.alloc o).cell? ⟨b, k, none⟩ = w.cell? ⟨b, k, none⟩ := World.cell?_of_block (w := w) (a := ⟨b, k, none⟩) (Below.heap_alloc _ _ _ h)
theorem cell_new_row (w : World) (l : List Value) (t : TypeId) (j : Nat) (h : 0 + j < l.length) : (w.alloc (.cells l.toArray t)).cell? ⟨w.heap.size, 0 + j, none⟩ = some (l[0 + j]) := by
  simp only [World.cell?, World.alloc_heap_new]
  simp
theorem kwV_at (j : Nat) (hj : j < 17) : some (kwV[0 + j]'(by simp [kwV, kwL]; exact hj)) = some (Value.string (kwF j).1) := by
  have h : j < kwL.length := hj
  simp only [kwV, List.getElem_map, kwF, List.getD, Nat.zero_add, List.getElem?_eq_getElem h, Option.getD_some]
def trueElem {H : Type} : Value → Option (DataW H × List MemPlace)
  | .bool true => some (.lit (.bool true), [])
  | _ => none
def kwD {H : Type} (xs : List Str) : DataW H := setOf (.lit (.bool true)) (xs.map fun x => Lit.string x.1.data.toList)
theorem kwD_snoc {H : Type} (pre : List Str) (x : Str) : kwD (H := H) (pre ++ [x]) = (kwD pre).put (.string x.1.data.toList) (.lit (.bool true)) := by simp [kwD, setOf_snoc]
set_option maxRecDepth 100000 in
set_option maxHeartbeats 2000000 in
theorem keywords_in (n : Nat) (hn : 4 ≤ n) (w : World) :
    CallsIn Fence.wide n Tryz.prog 75 #[] w fun e W' => e = .returned (.map (some w.heap.size)) ∧ W'.ownsMap Tryz.prog 9 (trueElem (H := Unit)) w.heap.size 17 (kwD (upto kwF 17)) ∧ Below w.heap.size w W' := by
  have h1 : 1 ≤ n := by omega
  have hmm := @run_makeMap Tryz.prog
  refine callsIn_of_wp_marks Tryz.func75 rfl trivial ?_ rfl
  simp only [Tryz.ntmps75, List.size_toArray, List.length_nil, Nat.reduceSub, Array.replicate_succ, Array.replicate_zero, List.push_toArray, List.append_toArray, List.nil_append, List.cons_append]
  gi_wp2_with (refine ⟨trivial, ?_⟩; gi_at_call 100; refine (all_in (n - 1) (by omega) _).mono ?_; rintro e w' ⟨rfl, rfl⟩)
  have hm0 := World.ownsMap_made w Tryz.prog 9 (trueElem (H := Unit))
  have cS := (Boxed.new (w.alloc (.map #[] 0)) 90 (.map (some w.heap.size)))
  have bS := (cS.alloc (.cells kwV.toArray 9)).alloc (.cells #[.slice (some ⟨w.heap.size + 2, 0, none⟩) 17 17] 22)
  have hB0 : Below w.heap.size w (((w.alloc (.map #[] 0)).alloc (.cells #[.map (some w.heap.size)] 90)).alloc (.cells kwV.toArray 9)) := (((Below.refl _ w).alloc (Nat.le_refl _) _).alloc (by simp) _).alloc (by simp; omega) _
  have hB1 := hB0.alloc (by simp; omega) (.cells #[.slice (some ⟨w.heap.size + 2, 0, none⟩) 17 17] 22)
  have bN := Boxed.new (((w.alloc (.map #[] 0)).alloc (.cells #[.map (some w.heap.size)] 90)).alloc (.cells kwV.toArray 9)) 22 (.slice (some ⟨w.heap.size + 2, 0, none⟩) 17 17)
  simp only [World.size_alloc] at cS bN bS
  obtain ⟨W0, hW0⟩ : ∃ W0, ((((w.alloc (.map #[] 0)).alloc (.cells #[.map (some w.heap.size)] 90)).alloc (.cells kwV.toArray 9)).alloc (.cells #[.slice (some ⟨w.heap.size + 2, 0, none⟩) 17 17] 22)) = W0 := ⟨_, rfl⟩
  have hsz : W0.heap.size = w.heap.size + 4 := by rw [← hW0]; simp
  have hrow : ∀ j, j < 17 → W0.cell? ⟨w.heap.size + 2, 0 + j, none⟩ = some (.string (kwF j).1) := fun j hj => by
    rw [← hW0, cell_alloc_old _ _ _ _ (by simp), show w.heap.size + 2 = ((w.alloc (.map #[] 0)).alloc (.cells #[.map (some w.heap.size)] 90)).heap.size from by simp]
    rw [cell_new_row _ _ _ _ (by simp [kwV, kwL]; exact hj)]
    exact kwV_at j hj
  have hm1 : W0.ownsMap Tryz.prog 9 (trueElem (H := Unit)) w.heap.size 0 (.map []) := by rw [← hW0]; exact ((hm0.alloc _).alloc _).alloc _
  rw [hW0] at hB1 bN bS
  have e2 : w.heap.size + 1 + 1 = w.heap.size + 2 := rfl
  have e3 : w.heap.size + 1 + 1 + 1 = w.heap.size + 3 := rfl
  simp only [e2, e3] at *
  rw [hW0]
  refine wpIn_rangeFunc_ownG rfl h1 (gf := 145) (lb := #[.pointer (some ⟨w.heap.size + 3, 0, none⟩)]) rfl trivial (enters_of Tryz.func145 (by kernel_rfl) rfl)
    (values_stops Fence.wide (n - 1) trivial rfl (by omega) (w.heap.size + 3) (w.heap.size + 2) 0 17 17 kwF (by omega) W0 (by omega) (by omega) bN.cell hrow) KeepB.trans (KeepB.putObj W0.heap.size (by omega)) (Below.refl _ _) (fun _ => rfl)
    (fun pre W => (Boxed W (w.heap.size + 1) 90 (.map (some w.heap.size)) ∧ W.ownsMap Tryz.prog 9 (trueElem (H := Unit)) w.heap.size pre.length (kwD pre) ∧ W0.heap.size ≤ W.heap.size) ∧ Below w.heap.size w W)
    (fun _ _ _ => False)
    (OwnFrom.and (fun s A B row hs hg hr => ⟨hs.1.kept hg (fun e => by have := (hr _ e.symm).1; omega), hs.2.1.kept hg (fun e => by have := (hr _ e.symm).1; omega), Nat.le_trans hs.2.2 hg.size⟩) (ownFrom_below (Nat.le_refl _) (by omega)))
    (fun _ _ _ _ _ hs _ _ => hs)
    ⟨⟨bS, hm1, Nat.le_refl _⟩, hB1⟩
    (fun x => { tmps := #[.map none, .pointer (some ⟨w.heap.size + 1, 0, none⟩), .string x.1, .map (some w.heap.size), .func (.func 145) #[] #[.pointer (some ⟨w.heap.size + 3, 0, none⟩)], .string x.1, undef, undef, undef], defers := [] }) ?assign ?body ?done ?stop
  case assign =>
    intro l x W K hK
    gi_wp2
    exact hK
  case body =>
    rintro l pre x W ⟨⟨hc, hown, hge⟩, hB⟩ hlt
    have hcc := hc.cell
    gi_wp2_with (gi_at_mapUpdate; refine wpListIn_mapUpdate_own _ rfl _ _ _ 90 rfl 9 4 (Maps.string_keyed Tryz.underlying9) Tryz.underlying90 (trueElem (H := Unit)) w.heap.size pre.length (kwD pre) rfl hown (by unfold maxLen; omega) _ _ _ rfl rfl (Go.WideMaps.keyOf_string_mk Tryz.underlying9 x.2) (.lit (.bool true)) [] rfl ?_; intro w1 hown1 hgrow1)
    obtain ⟨es, ck, hh, _⟩ := hown
    exact ⟨KeepsFrom.of_grownBy hgrow1 (fun j e => by cases e; omega), hgrow1.block _ (by omega) (by simp),
      ⟨hc.kept hgrow1 (fun e => by injection e with e; omega), by rw [kwD_snoc, List.length_append]; exact hown1, Nat.le_trans hge hgrow1.size⟩, hB.grown hgrow1 hB.size (fun k e => by cases e; exact Nat.le_refl _)⟩
  case done =>
    rintro D ys W hD rfl ⟨⟨hc, hown, _⟩, hB⟩ hK
    have hcc := hc.cell
    gi_wp2
    refine ⟨by simp, .inl ⟨_, _, rfl, run_takeDeferred hK, ?_⟩⟩
    exact ⟨_, results_tmp rfl _ _ _, rfl, hown.kept (grownBy_putObj' _ D _) (fun e => by cases e; omega), hB.trans (belowK_b (w := w) (Nat.le_refl _) W D _ _ (by omega) hK rfl rfl)⟩
  case stop =>
    rintro D c pre W _ _ h _
    exact h.elim
end Go.Proofs.YtpenfnabeckboaaGreatDoor

namespace Go.Proofs.YtpenfnabeckboaaGreatDoor
open Go.RowKit Go.Maps
theorem look_true {P : Program} {w : World} {t k e : TypeId} {b n : Nat} {D : DataW Unit} (h : w.ownsMap P k (trueElem (H := Unit)) b n D) (K : Keyed P k) (ht : P.underlying t = some (.map k e)) (hz : (zeroValue e).run P w = .ok (.bool false) w)
    {key : Value} {kl : Lit} (hkey : keyOf P k key = some kl) : (Instr.lookup t (.map (some b)) key false).run P w = .ok (.bool (Maps.has D kl)) w := by
  obtain ⟨es, clock, hb, F, _, rfl⟩ := h
  rcases Maps.fit_look false K ht hz hb F hkey with ⟨hrun, _, hat⟩ | ⟨e0, y, _, _, hrun, hRv, hat, _⟩
  · rw [Maps.has_false_of_atKey hat]; exact hrun
  · rw [Maps.has_true_of_atKey hat]
    have hv : e0.val = .bool true := by
      unfold trueElem at hRv
      split at hRv
      · assumption
      · cases hRv
    rw [hv] at hrun
    exact hrun
theorem kwD_has (s : ByteArray) : Maps.has (kwD (H := Unit) (upto kwF 17)) (.string s.data.toList) = isKw s := by
  unfold kwD
  rw [has_setOf _ _ _ (by intro x hx; obtain ⟨y, _, rfl⟩ := List.mem_map.1 hx; trivial)]
  unfold isKw
  rw [List.any_map]
  have : upto kwF 17 = (List.range 17).map kwF := rfl
  rw [this, List.any_map]
  show (List.range 17).any (fun j => (kwF j).1.data.toList == s.data.toList) = _
  have h2 : (List.range 17).any (fun j => (kwF j).1.data.toList == s.data.toList) = ((List.range 17).map fun j => (kwF j).1.data.toList).any (fun l => l == s.data.toList) := by rw [List.any_map]; rfl
  rw [h2]
  rfl
theorem zero_bool (w : World) : (zeroValue 4).run Tryz.prog w = .ok (.bool false) w := by kernel_rfl
set_option maxHeartbeats 400000 in
theorem keyword_c (s : ByteArray) (hs : s.size ≤ 4294967280) (w : World) :
    Calls Tryz.prog 42 #[.string s] w fun e w' => e = .returned (.bool (isKw s)) ∧ Bel w w' := by
  have hk := fun w1 => callsIn_wide.1 (keywords_in 4 (Nat.le_refl _) w1)
  have HK := Lib.hid hk
  clear hk
  have hsl : s.size ≤ maxLen := by unfold maxLen; omega
  go_enter Tryz.func42, Tryz.ntmps42
  go_wp2_with (first
    | (go_at_call 75; refine (HK.out _).mono ?_; rintro e w1 ⟨rfl, hown, hb⟩; have hrun := look_true hown (string_keyed Tryz.underlying9) (t := 90) (e := 4) Tryz.underlying90 (zero_bool w1) (Go.WideMaps.keyOf_string_mk Tryz.underlying9 hsl); rw [kwD_has] at hrun))
  go_ret
  exact ⟨rfl, by assumption⟩
/-- Is it a word that is no keyword? -/
def wordS (s : ByteArray) : Bool := madeS firstC nextC s && !isKw s
set_option maxHeartbeats 400000 in
theorem word_c (s : ByteArray) (hs : s.size ≤ 4294967280) (w : World) (hE : Env w) :
    Calls Tryz.prog 166 #[.string s] w fun e w' => e = .returned (.bool (wordS s)) ∧ Bel w w' := by
  have hm := made_c s hs _ _ _ _ w hE fine_of_next asks_first asks_next fine_of_first
  unfold wordS
  obtain ⟨A, hA⟩ : ∃ A, madeS firstC nextC s = A := ⟨_, rfl⟩
  rw [hA] at hm ⊢
  have HM := Lib.hid hm
  clear hm hA
  cases A
  · show Calls _ _ _ _ fun e w' => e = .returned (.bool false) ∧ Bel w w'
    go_enter Tryz.func166, Tryz.ntmps166
    go_wp2_with (go_at_call 183; refine HM.out.mono ?_; rintro e w1 ⟨rfl, hb⟩)
    go_ret
    exact ⟨rfl, by assumption⟩
  · show Calls _ _ _ _ fun e w' => e = .returned (.bool (!isKw s)) ∧ Bel w w'
    go_enter Tryz.func166, Tryz.ntmps166
    go_wp2_with (first
      | (go_at_call 183; refine HM.out.mono ?_; rintro e w1 ⟨rfl, hb⟩)
      | (go_at_call 42; refine (keyword_c s hs _).mono ?_; rintro e w2 ⟨rfl, hb2⟩))
    all_goals go_ret
    exact ⟨rfl, (by assumption : Bel w w1).trans (by assumption)⟩
set_option maxHeartbeats 400000 in
theorem notword_c (s : ByteArray) (hs : s.size ≤ 4294967280) (w : World) (hE : Env w) :
    Calls Tryz.prog 165 #[.string s] w fun e w' => e = .returned (.bool (!wordS s)) ∧ Bel w w' := by
  go_enter Tryz.func165, Tryz.ntmps165
  go_wp2_with (go_at_call 166; refine (word_c s hs _ hE).mono ?_; rintro e w1 ⟨rfl, hb⟩)
  go_ret
  exact ⟨rfl, by assumption⟩
end Go.Proofs.YtpenfnabeckboaaGreatDoor

namespace Go.Proofs.YtpenfnabeckboaaGreatDoor
open Go.RowKit
def strsV (ss : List ByteArray) : List Value := ss.map Value.string
theorem strsV_length (ss : List ByteArray) : (strsV ss).length = ss.length := by simp [strsV]
/-- The place of the first one; -1: there is none. -/
def idxF (p : ByteArray → Bool) : Nat → List ByteArray → Int
  | _, [] => -1
  | k, x :: l => if p x = true then k else idxF p (k + 1) l
theorem idxF_any (p : ByteArray → Bool) : ∀ (l : List ByteArray) (k : Nat), decide (0 ≤ idxF p k l) = l.any p
  | [], _ => rfl
  | x :: l, k => by
    unfold idxF
    by_cases h : p x = true
    · rw [if_pos h]; simp [h]
    · rw [if_neg h, idxF_any p l (k + 1)]; simp [h]
/-- A function value that answers a bool of a text, whatever it lays. -/
structure AsksS (h : Nat) (r : ByteArray → Bool) (ok : ByteArray → Prop) : Prop where
  enters : ∀ args w, (callFunc h args).run Tryz.prog w = .ok (.enter h args) w
  calls : ∀ s w, ok s → Env w → Calls Tryz.prog h #[.string s] w fun e w' => e = .returned (.bool (r s)) ∧ Bel w w'
set_option maxHeartbeats 1000000 in
theorem indexFunc_c (v : Value) (ss : List ByteArray) (h : Nat) (r : ByteArray → Bool) (ok : ByteArray → Prop) (ha : AsksS h r ok) (w : World) (hE : Env w) (hok : ∀ s ∈ ss, ok s) (hv : RowE w v (strsV ss)) (hl : ss.length ≤ 4294967290) :
    Calls Tryz.prog 142 #[v, .func (.func h) #[] #[]] w fun e w' => e = .returned (.int .i64 (idxF r 0 ss)) ∧ Bel w w' := by
  obtain ⟨a, cap, rfl, hcap, hz⟩ := hv
  obtain ⟨R, hR⟩ : ∃ R, idxF r 0 ss = R := ⟨_, rfl⟩
  obtain ⟨n, hn⟩ : ∃ n, (strsV ss).length = n := ⟨_, rfl⟩
  have hn2 : n ≤ 4294967290 := by rw [← hn, strsV_length]; exact hl
  rw [hn] at hcap ⊢
  rw [hR]
  have HR := Lib.hid hR
  have HN := Lib.hid hn
  have HZ := Lib.hid hz
  have HOK := Lib.hid hok
  have hen := ha.enters
  clear hR hn hz hok hl
  go_enter Tryz.func142, Tryz.ntmps142
  go_wp2_with fail
  go_loopw [8] (fun i wr => ∃ k : Nat, k ≤ n ∧ i = .int .i64 k ∧ Bel w wr ∧ idxF r k (ss.drop k) = R) (fun i _ => n - (intOf i).toNat)
  case atStart => exact ⟨0, Nat.zero_le _, rfl, Bel.refl _, HR.out⟩
  case round =>
    obtain ⟨k, hk, rfl, hbel, hix⟩ := hrel
    by_cases hkn : k < n
    · have hks : k < ss.length := by have := HN.out; rw [strsV_length] at this; omega
      rcases HZ.out with h0 | ⟨b, off, rfl, hlt, hc⟩
      · have := HN.out; rw [h0] at this; simp at this; omega
      have hcell := hc k (by rw [HN.out]; exact hkn)
      have hd := List.drop_eq_getElem_cons hks
      rw [hd] at hix
      have hmem : ss[k] ∈ ss := List.getElem_mem hks
      have hoks := HOK.out _ hmem
      obtain ⟨x, hx⟩ : ∃ x, ss[k] = x := ⟨_, rfl⟩
      have hcell2 : wr.cell? ⟨b, off + k, none⟩ = some (.string x) := by
        rw [hbel.cell hlt, hcell, ← hx]; simp [strsV]
      rw [hx] at hix hoks
      have HIX := Lib.hid hix
      have hE2 := hE.bel hbel
      have hcall := ha.calls x wr hoks hE2
      obtain ⟨F, hF⟩ : ∃ F, r x = F := ⟨_, rfl⟩
      rw [hF] at hcall
      have HCALL := Lib.hid hcall
      have HF := Lib.hid hF
      clear hcell hc hd hix hmem hx hcall hF
      cases F
      · go_wp2_with ((with_reducible refine HCALL.out.mono ?_); rintro e w1 ⟨rfl, hb1⟩)
        refine ⟨⟨k + 1, by omega, by go_num, hbel.trans (by assumption), ?_⟩, by simp [intOf]; omega⟩
        have := HIX.out
        rw [idxF, if_neg (by rw [HF.out]; simp)] at this
        exact this
      · go_wp2_with ((with_reducible refine HCALL.out.mono ?_); rintro e w1 ⟨rfl, hb1⟩)
        go_ret
        have := HIX.out
        rw [idxF, if_pos HF.out] at this
        exact ⟨ret_int this, hbel.trans (by assumption)⟩
    · obtain rfl : k = n := by omega
      go_wp2_with fail
      go_ret
      rw [List.drop_of_length_le (by have := HN.out; rw [strsV_length] at this; omega)] at hix
      exact ⟨ret_int hix, hbel⟩
set_option maxHeartbeats 400000 in
theorem containsFunc_c (v : Value) (ss : List ByteArray) (h : Nat) (r : ByteArray → Bool) (ok : ByteArray → Prop) (ha : AsksS h r ok) (w : World) (hE : Env w) (hok : ∀ s ∈ ss, ok s) (hv : RowE w v (strsV ss)) (hl : ss.length ≤ 4294967290) :
    Calls Tryz.prog 117 #[v, .func (.func h) #[] #[]] w fun e w' => e = .returned (.bool (ss.any r)) ∧ Bel w w' := by
  have hi := indexFunc_c v ss h r ok ha w hE hok hv hl
  have hany := idxF_any r ss 0
  obtain ⟨R, hR⟩ : ∃ R, idxF r 0 ss = R := ⟨_, rfl⟩
  rw [hR] at hi hany
  rw [← hany]
  have HI := Lib.hid hi
  clear hi hany hR
  go_enter Tryz.func117, Tryz.ntmps117
  go_wp2_with (go_at_call 142; refine HI.out.mono ?_; rintro e w1 ⟨rfl, hb⟩)
  go_ret
  exact ⟨rfl, by assumption⟩
/-- A name's words: its parts between blanks, each a word; none: it is no name. -/
def partsS (s : ByteArray) : List ByteArray := Lib.splitB ⟨#[32]⟩ 0 (Lib.countB s ⟨#[32]⟩) s
def wordsS (s : ByteArray) : Option (List ByteArray) := if (partsS s).all wordS then some (partsS s) else none
theorem parts_length (s : ByteArray) : (partsS s).length = Lib.countB s ⟨#[32]⟩ + 1 := Lib.splitB_all _ (by decide) _ _ _ rfl
theorem splitB_size (sep : ByteArray) : ∀ (k : Nat) (s x : ByteArray), x ∈ Lib.splitB sep 0 k s → x.size ≤ s.size
  | 0, s, x, h => by rw [Lib.splitB_zero] at h; simp at h; subst h; exact Nat.le_refl _
  | k + 1, s, x, h => by
    rcases Lib.indexB_cases s sep with hix | ⟨i, hix, _⟩
    · rw [Lib.splitB_miss _ _ _ _ hix] at h; simp at h; subst h; exact Nat.le_refl _
    · rw [Lib.splitB_hit _ _ _ _ i hix] at h
      rcases List.mem_cons.1 h with rfl | h
      · simp; omega
      · have := splitB_size sep k _ x h
        simp at this; omega
theorem parts_size (s x : ByteArray) (h : x ∈ partsS s) : x.size ≤ s.size := splitB_size _ _ s x h
theorem count_le (s : ByteArray) : Lib.countB s ⟨#[32]⟩ ≤ s.size := Lib.countB_le _ (by decide) _ _ (Nat.le_refl _)
/-- What Words answers. -/
def RetW (r : Option (List ByteArray)) (w : World) (e : Ending) (w' : World) : Prop :=
  Bel w w' ∧ match r with
  | none => e = .returned (.tuple #[.slice none 0 0, .bool false])
  | some l => ∃ v, e = .returned (.tuple #[v, .bool true]) ∧ RowAt w' v (strsV l)
theorem asks_notword : AsksS 165 (fun s => !wordS s) (fun s => s.size ≤ 4294967280) := ⟨enters_of Tryz.func165 (by kernel_rfl) rfl, fun s w h hE => notword_c s h w hE⟩
set_option maxHeartbeats 1000000 in
theorem words_c (s : ByteArray) (hs : s.size ≤ 4294967280) (w : World) (hE : Env w) :
    Calls Tryz.prog 141 #[.string s] w (RetW (wordsS s) w) := by
  have hlen := parts_length s
  have hcl := count_le s
  obtain ⟨m, hm⟩ := hE.2
  have hsp := Tryz.strings_Split s ⟨#[32]⟩ m w (by omega) hm (by decide)
  rw [show Lib.splitB ⟨#[32]⟩ 0 (Lib.countB s ⟨#[32]⟩) s = partsS s from rfl, ← hlen] at hsp
  have hrow := row_new w (strsV (partsS s)) 9
  rw [strsV_length] at hrow
  have hsz : ∀ x ∈ partsS s, x.size ≤ 4294967280 := fun x hx => Nat.le_trans (parts_size s x hx) hs
  unfold wordsS
  obtain ⟨ps, hps⟩ : ∃ ps, partsS s = ps := ⟨_, rfl⟩
  rw [hps] at hsp hrow hsz hlen ⊢
  obtain ⟨W1, hW1⟩ : ∃ W1, w.alloc (.cells (strsV ps).toArray 9) = W1 := ⟨_, rfl⟩
  have hb1 : Bel w W1 := by rw [← hW1]; exact Bel.alloc _ _
  rw [hW1] at hrow
  have hcf := containsFunc_c _ ps _ _ _ asks_notword W1 (hE.bel hb1) hsz (RowAt0.toE (.inr hrow)) (by omega)
  have hsp2 : Calls Tryz.prog 164 #[.string s, .string ⟨#[32]⟩] w fun e w' => e = .returned (.slice (some ⟨w.heap.size, 0, none⟩) ps.length ps.length) ∧ W1 = w' :=
    hsp.mono fun e w' ⟨he, hw⟩ => ⟨he, by rw [hw, ← hW1]; rfl⟩
  have hany : ps.any (fun x => !wordS x) = !ps.all wordS := by rw [List.all_eq_not_any_not]; simp
  rw [hany] at hcf
  have HSP := Lib.hid hsp2
  have HCF := Lib.hid hcf
  have HROW := Lib.hid hrow
  clear hsp hsp2 hcf hrow hany hm hW1 hlen hcl hps hsz
  obtain ⟨A, hA⟩ : ∃ A, ps.all wordS = A := ⟨_, rfl⟩
  rw [hA] at HCF ⊢
  clear hA
  cases A
  · show Calls _ _ _ _ (RetW none w)
    go_enter Tryz.func141, Tryz.ntmps141
    go_wp2_with (first
      | (go_at_call 164; refine HSP.out.mono ?_; rintro e w1 ⟨rfl, rfl⟩)
      | (go_at_call 117; refine HCF.out.mono ?_; rintro e w2 ⟨rfl, hb2⟩))
    go_ret2
    exact ⟨hb1.trans (by assumption), rfl⟩
  · show Calls _ _ _ _ (RetW (some ps) w)
    go_enter Tryz.func141, Tryz.ntmps141
    go_wp2_with (first
      | (go_at_call 164; refine HSP.out.mono ?_; rintro e w1 ⟨rfl, rfl⟩)
      | (go_at_call 117; refine HCF.out.mono ?_; rintro e w2 ⟨rfl, hb2⟩))
    go_ret2
    exact ⟨hb1.trans (by assumption), _, rfl, HROW.out.bel (by assumption)⟩
end Go.Proofs.YtpenfnabeckboaaGreatDoor

namespace Go.Proofs.YtpenfnabeckboaaGreatDoor
open Go.RowKit
theorem row0_form {W : World} {v : Value} {xs : List Value} (h : RowAt0 W v xs) (n : Nat) (hn : xs.length = n) : ∃ ao cap, v = .slice ao n cap ∧ (0 < n → ∃ b off, ao = some ⟨b, off, none⟩ ∧ b < W.heap.size ∧ n ≤ cap ∧ ∀ j, j < n → W.cell? ⟨b, off + j, none⟩ = xs[j]?) := by
  rcases h with ⟨rfl, rfl⟩ | ⟨b, off, cap, rfl, hcap, hlt, hc⟩
  · exact ⟨none, 0, by rw [← hn]; rfl, fun h => by simp at hn; omega⟩
  · exact ⟨_, cap, by rw [hn], fun _ => ⟨b, off, rfl, hlt, by omega, fun j hj => by rw [hc j (by omega), List.getElem?_eq_getElem]⟩⟩
theorem toList_eq {x y : ByteArray} (h : (x.toList == y.toList) = true) : x = y := by
  rw [beq_iff_eq, Lib.toList_data, Lib.toList_data] at h
  exact ByteArray.ext (Array.ext' h)
theorem toList_ne {x y : ByteArray} (h : (x.toList == y.toList) = false) : x ≠ y := by
  rintro rfl; simp at h
def RetBel (v : Value) (w : World) (e : Ending) (w' : World) : Prop := e = .returned v ∧ Bel w w'
end Go.Proofs.YtpenfnabeckboaaGreatDoor

namespace Go.Proofs.YtpenfnabeckboaaGreatDoor
open Go.RowKit
def KS : List ByteArray := kwL.map kwB
theorem isKw_any (s : ByteArray) : isKw s = KS.any fun x => x.toList == s.toList := by
  unfold isKw KS
  rw [List.any_map]
  congr 1
  funext l
  show (l == s.data.toList) = ((kwB l).toList == s.toList)
  rw [Lib.toList_data, Lib.toList_data]
  rfl
set_option maxHeartbeats 400000 in
theorem rall_c (w : World) : Calls Tryz.prog 140 #[] w (RetRow (strsV KS) w) := by
  go_enter Tryz.func140, Tryz.ntmps140
  go_wp2_with fail
  go_ret
  exact ⟨_, rfl, rowAt_cast (row_new w (strsV KS) 9) rfl rfl, Bel.alloc _ _⟩
set_option maxHeartbeats 800000 in
theorem rkeyword_c (s : ByteArray) (w : World) :
    Calls Tryz.prog 113 #[.string s] w fun e w' => e = .returned (.bool (isKw s)) ∧ Bel w w' := by
  rw [isKw_any]
  obtain ⟨L, hL⟩ : ∃ L, KS = L := ⟨_, rfl⟩
  have hn : L.length = 17 := by rw [← hL]; rfl
  have hall := fun w1 => rall_c w1
  rw [hL] at hall ⊢
  obtain ⟨R, hR⟩ : ∃ R, (L.any fun x => x.toList == s.toList) = R := ⟨_, rfl⟩
  rw [hR]
  have HR := Lib.hid hR
  have HN := Lib.hid hn
  have HA := Lib.hid hall
  clear hR hn hall hL
  go_enter Tryz.func113, Tryz.ntmps113
  go_wp2_with (go_at_call 140; refine (HA.out _).mono ?_; rintro e w1 ⟨v, rfl, ⟨b, off, cap, rfl, hcap, hlt, hcl⟩, hb⟩; rw [strsV_length, HN.out] at hcap; rw [strsV_length, HN.out]; have HCL := Lib.hid hcl; clear hcl)
  go_loop [4] (fun i => ∃ j : Nat, j ≤ 17 ∧ i = .int .i64 j ∧ ((L.drop j).any fun x => x.toList == s.toList) = R) (fun i => 17 - (intOf i).toNat)
  case atStart => exact ⟨0, by omega, rfl, HR.out⟩
  case round =>
    obtain ⟨j, hj, rfl, hany⟩ := hrel
    by_cases hjn : j < 17
    · have hjl : j < L.length := by rw [HN.out]; exact hjn
      have hcell := HCL.out j (by rw [strsV_length]; exact hjl)
      rw [List.drop_eq_getElem_cons hjl] at hany
      obtain ⟨x, hx⟩ : ∃ x, L[j] = x := ⟨_, rfl⟩
      have hcell2 : w1.cell? ⟨b, off + j, none⟩ = some (.string x) := by
        rw [hcell, ← hx]; simp [strsV]
      rw [hx] at hany
      have HANY := Lib.hid hany
      clear hcell hany hx
      go_wp2_with fail
      · have h1 : (x.toList == s.toList) = true := by assumption
        go_ret
        refine retB_eq ?_ (by assumption)
        rw [← HANY.out, List.any_cons, h1]; rfl
      · have h1 : (x.toList == s.toList) = false := by assumption
        refine ⟨⟨j + 1, by omega, by go_num, ?_⟩, by simp [intOf]; omega⟩
        rw [← HANY.out, List.any_cons, h1]; rfl
    · obtain rfl : j = 17 := by omega
      go_wp2_with fail
      go_ret
      refine retB_eq ?_ (by assumption)
      rw [← hany, List.drop_of_length_le (by have := HN.out; omega)]
      rfl
/-- Is it a word that is no keyword? By the document. -/
def rwordS (s : ByteArray) : Bool := charsB firstC nextC s && !isKw s
set_option maxHeartbeats 1000000 in
theorem rword_c (s : ByteArray) (hs : s.size ≤ 4294967280) (w : World) :
    Calls Tryz.prog 84 #[.string s] w fun e w' => e = .returned (.bool (rwordS s)) ∧ Bel w w' := by
  have hc := chars_c s hs w
  have hkw := fun w1 => rkeyword_c s w1
  unfold rwordS charsB
  obtain ⟨K, hK⟩ : ∃ K, isKw s = K := ⟨_, rfl⟩
  rw [hK] at hkw ⊢
  have HK := Lib.hid hkw
  clear hK hkw
  rcases hr : charsS s with _ | ⟨_ | ⟨c, l⟩⟩
  · rw [hr] at hc
    have HC := Lib.hid hc
    clear hc hr
    show Calls _ _ _ _ fun e w' => e = .returned (.bool false) ∧ Bel w w'
    go_enter Tryz.func84, Tryz.ntmps84
    go_wp2_with (go_at_call 111; refine HC.out.mono ?_; rintro e w1 ⟨hb, rfl⟩)
    go_ret
    exact ⟨rfl, by assumption⟩
  · rw [hr] at hc
    have HC := Lib.hid hc
    clear hc hr
    show Calls _ _ _ _ fun e w' => e = .returned (.bool false) ∧ Bel w w'
    go_enter Tryz.func84, Tryz.ntmps84
    go_wp2_with (go_at_call 111; refine HC.out.mono ?_; rintro e w1 ⟨hb, v, rfl, ⟨rfl, _⟩ | ⟨b, off, cap, rfl, _⟩⟩)
    all_goals go_ret
    all_goals exact ⟨rfl, by assumption⟩
  · have hlen := charsS_length s _ hr
    rw [hr] at hc
    have HC := Lib.hid hc
    obtain ⟨L, hL⟩ : ∃ L, c :: l = L := ⟨_, rfl⟩
    obtain ⟨R, hR⟩ : ∃ R, (listS firstC nextC (c :: l) && !K) = R := ⟨_, rfl⟩
    show Calls _ _ _ _ fun e w' => e = .returned (.bool (listS firstC nextC (c :: l) && !K)) ∧ Bel w w'
    rw [hR]
    have HR := Lib.hid hR
    obtain ⟨n, hn⟩ : ∃ n, (i64s (c :: l)).length = n := ⟨_, rfl⟩
    have hn1 : n = l.length + 1 := by rw [← hn]; simp [i64s]
    have hn2 : n ≤ 4294967280 := by simp at hlen; omega
    have hn3 : (0 : Int) < n := by omega
    have hn4 : ((n : Int) == 0) = false := by simp; omega
    have HN := Lib.hid hn1
    have HNN := Lib.hid hn
    clear hc hr hL hR hlen hn1 hn L
    have hf := fun w1 => rfirst_c c w1
    obtain ⟨F, hF⟩ : ∃ F, firstC c = F := ⟨_, rfl⟩
    rw [hF] at hf
    have HF := Lib.hid hf
    have HFF := Lib.hid hF
    clear hf hF
    cases F
    · go_enter Tryz.func84, Tryz.ntmps84
      go_wp2_with (first
        | (go_at_call 111; refine HC.out.mono ?_; rintro e w1 ⟨hb, v, rfl, hv⟩; have hv2 := row_ne hv (by simp [i64s]); clear hv; obtain ⟨b, off, cap, rfl, hcap, hlt, hcl⟩ := hv2; rw [HNN.out] at hcap ⊢; have HCL := Lib.hid hcl; have hc0 : w1.cell? ⟨b, off, none⟩ = some (.int .i64 c) := hcl 0 (by simp [i64s]); clear hcl)
        | (go_at_call 112; refine (HF.out _).mono ?_; rintro e w' ⟨rfl, rfl⟩))
      go_ret
      refine retB_eq ?_ (by assumption)
      rw [← HR.out]
      show false = ((firstC c && _) && _)
      rw [HFF.out]; rfl
    · have hRl : (l.all nextC && !K) = R := by rw [← HR.out]; show _ = ((firstC c && _) && _); rw [HFF.out]; rfl
      have HRL := Lib.hid hRl
      clear hRl
      cases K
      · go_enter Tryz.func84, Tryz.ntmps84
        go_wp2_with (first
          | (go_at_call 111; refine HC.out.mono ?_; rintro e w1 ⟨hb, v, rfl, hv⟩; have hv2 := row_ne hv (by simp [i64s]); clear hv; obtain ⟨b, off, cap, rfl, hcap, hlt, hcl⟩ := hv2; rw [HNN.out] at hcap ⊢; have HCL := Lib.hid hcl; have hc0 : w1.cell? ⟨b, off, none⟩ = some (.int .i64 c) := hcl 0 (by simp [i64s]); clear hcl)
          | (go_at_call 112; refine (HF.out _).mono ?_; rintro e w' ⟨rfl, rfl⟩)
          | (go_at_call 113; refine (HK.out _).mono ?_; rintro e w2 ⟨rfl, hb2⟩))
        go_loop [5] (fun i => ∃ j : Nat, 1 ≤ j ∧ j ≤ n ∧ i = .int .i64 j ∧ ((l.drop (j - 1)).all nextC && !false) = R) (fun i => n - (intOf i).toNat)
        case atStart => exact ⟨1, Nat.le_refl _, by omega, rfl, HRL.out⟩
        case round =>
          obtain ⟨j, hj1, hj, rfl, hall⟩ := hrel
          by_cases hlt : j < n
          · have hjl : j - 1 < l.length := by have := HN.out; omega
            have hcell := HCL.out j (by simp [i64s]; omega)
            have hd := List.drop_eq_getElem_cons hjl
            rw [hd] at hall
            obtain ⟨x, hx⟩ : ∃ x, l[j - 1] = x := ⟨_, rfl⟩
            have hcell2 : w2.cell? ⟨b, off + j, none⟩ = some (.int .i64 x) := by
              rw [hb2.cell (by assumption), hcell, ← hx]
              obtain ⟨k, rfl⟩ : ∃ k, j = k + 1 := ⟨j - 1, by omega⟩
              simp [i64s]
            rw [hx, show j - 1 + 1 = j from by omega] at hall
            have HALL := Lib.hid hall
            clear hcell hd hall hx
            go_wp2_with (go_at_call 114; refine (rnext_c _ _).mono ?_; rintro e w' ⟨rfl, rfl⟩)
            · have hno : (!nextC x) = true := by assumption
              go_ret
              refine retB_eq ?_ (hb.trans hb2)
              rw [← HALL.out]
              simp at hno
              simp [hno]
            · have hno : (!nextC x) = false := by assumption
              refine ⟨⟨j + 1, by omega, by omega, by go_num, ?_⟩, by simp [intOf]; omega⟩
              rw [← HALL.out, show j + 1 - 1 = j from by omega]
              simp at hno
              simp [hno]
          · obtain rfl : j = n := by omega
            go_wp2_with fail
            go_ret
            refine retB_eq ?_ (hb.trans hb2)
            rw [← hall, List.drop_of_length_le (by have := HN.out; omega)]
            rfl
      · go_enter Tryz.func84, Tryz.ntmps84
        go_wp2_with (first
          | (go_at_call 111; refine HC.out.mono ?_; rintro e w1 ⟨hb, v, rfl, hv⟩; have hv2 := row_ne hv (by simp [i64s]); clear hv; obtain ⟨b, off, cap, rfl, hcap, hlt, hcl⟩ := hv2; rw [HNN.out] at hcap ⊢; have HCL := Lib.hid hcl; have hc0 : w1.cell? ⟨b, off, none⟩ = some (.int .i64 c) := hcl 0 (by simp [i64s]); clear hcl)
          | (go_at_call 112; refine (HF.out _).mono ?_; rintro e w' ⟨rfl, rfl⟩)
          | (go_at_call 113; refine (HK.out _).mono ?_; rintro e w2 ⟨rfl, hb2⟩))
        go_ret
        refine retB_eq ?_ ((by assumption : Bel w w1).trans (by assumption))
        rw [← HRL.out]; simp
end Go.Proofs.YtpenfnabeckboaaGreatDoor

namespace Go.Proofs.YtpenfnabeckboaaGreatDoor
open Go.RowKit
/-- The parts between blanks. -/
def cutL : List UInt8 → ByteArray → List ByteArray
  | [], x => [x]
  | c :: l, x => if c = 32 then x :: cutL l ⟨#[]⟩ else cutL l (x ++ ⟨#[c]⟩)
def rpartsS (s : ByteArray) : List ByteArray := cutL s.data.toList ⟨#[]⟩
def rwordsS (s : ByteArray) : Option (List ByteArray) := if (rpartsS s).all rwordS then some (rpartsS s) else none
def RetWT (R : List ByteArray) (T : Bool) (w : World) (e : Ending) (w' : World) : Prop := RetW (if T = true then some R else none) w e w'
theorem info_string : (Tryz.prog.info? 9).map (fun i => (i.zero, i.size, i.bytes)) = some (some (.string ⟨#[]⟩), 1, 16) := by kernel_rfl
theorem strsV_set (L : List ByteArray) (x y : ByteArray) : (strsV (L ++ [x])).set L.length (.string y) = strsV (L ++ [y]) := by
  unfold strsV
  rw [← List.map_set]
  simp
theorem byte_drop (s : ByteArray) (k : Nat) (h : k < s.size) : s.data.toList.drop k = s.get! k :: s.data.toList.drop (k + 1) := by
  have hl : k < s.data.toList.length := h
  rw [List.drop_eq_getElem_cons hl, get_bang s k h]
  simp
theorem byte_extract (s : ByteArray) (k : Nat) (h : k < s.size) : s.extract k (k + 1) = ⟨#[s.get! k]⟩ := by
  apply ByteArray.ext
  apply Array.ext'
  have hl : k < s.data.toList.length := h
  simp only [ByteArray.data_extract, Array.toList_extract, List.extract_eq_take_drop]
  rw [byte_drop s k h]
  simp
theorem cutL_size : ∀ (l : List UInt8) (x y : ByteArray), y ∈ cutL l x → y.size ≤ x.size + l.length
  | [], x, y, h => by simp [cutL] at h; subst h; simp
  | c :: l, x, y, h => by
    unfold cutL at h
    split at h
    · rcases List.mem_cons.1 h with rfl | h
      · simp
      · have := cutL_size l _ y h
        have h0 : (⟨#[]⟩ : ByteArray).size = 0 := rfl
        rw [List.length_cons]; omega
    · have := cutL_size l _ y h
      rw [ByteArray.size_append] at this
      have h0 : (⟨#[c]⟩ : ByteArray).size = 1 := rfl
      rw [List.length_cons]; omega
theorem rparts_size (s x : ByteArray) (h : x ∈ rpartsS s) : x.size ≤ s.size := by
  have := cutL_size _ _ x h
  have h0 : (⟨#[]⟩ : ByteArray).size = 0 := rfl
  have h1 : s.size = s.data.toList.length := rfl
  omega
set_option maxHeartbeats 1000000 in
theorem rwords_c (s : ByteArray) (hs : s.size ≤ 4294967200) (w : World) :
    Calls Tryz.prog 48 #[.string s] w (RetW (rwordsS s) w) := by
  unfold rwordsS
  obtain ⟨R, hR⟩ : ∃ R, rpartsS s = R := ⟨_, rfl⟩
  rw [hR]
  obtain ⟨T, hT⟩ : ∃ T, R.all rwordS = T := ⟨_, rfl⟩
  rw [hT]
  show Calls _ _ _ _ (RetWT R T w)
  have HR := Lib.hid hR
  have HT := Lib.hid hT
  clear hR hT
  go_enter Tryz.func48, Tryz.ntmps48
  go_wp2_with fail
  go_loopw [4, 5] (fun out i wr => ∃ (k m g cap : Nat) (L : List ByteArray) (x : ByteArray), k ≤ s.size ∧ i = .int .i64 k ∧ out = .slice (some ⟨g, 0, none⟩) m cap ∧ m = L.length + 1 ∧ wr.ownsRow w.heap.size 9 1 out m (strsV (L ++ [x])) ∧ Bel w wr ∧ L.length ≤ k ∧ x.size ≤ k ∧ L ++ cutL (s.data.toList.drop k) x = R) (fun _ i _ => s.size - (intOf i).toNat)
  case atStart => exact ⟨0, 1, _, _, [], ⟨#[]⟩, Nat.zero_le _, rfl, rfl, rfl, World.ownsRow_lit w #[.string ⟨#[]⟩] 1 (Nat.le_refl _) (by decide) rfl, Bel.alloc _ _, by simp, by decide, HR.out⟩
  case round =>
    obtain ⟨k, m, g, cap, L, x, hk, rfl, rfl, hm, hown, hbel, hL, hx, hcut⟩ := hrel
    by_cases hp : k < s.size
    · have hbd := byte_drop s k hp
      have hbe := byte_extract s k hp
      rw [hbd] at hcut
      have hby := byte_is s k hp 32 32 rfl (by omega)
      have hcell := hown.cellAt (m - 1) (by omega)
      have hxs : (strsV (L ++ [x]))[m - 1]? = some (.string x) := by rw [hm]; simp [strsV]
      rw [hxs] at hcell
      have hfr := hown.frozenAt (m - 1)
      have hst := fun u => hown.stored (m - 1) u
      rw [show m - 1 = L.length from by omega] at hst hcell hfr
      obtain ⟨j, hj⟩ : ∃ j, L.length = j := ⟨_, rfl⟩
      have hst2 : ∀ y, (wr.setCell ⟨g, j, none⟩ (.string y)).ownsRow w.heap.size 9 1 (.slice (some ⟨g, 0, none⟩) m cap) m (strsV (L ++ [y])) := by
        intro y; have := (hst (.string y)).1; rw [strsV_set, hj] at this; exact this
      rw [hj] at hcell hfr
      have hge : w.heap.size ≤ g := (hown.lt g rfl).1
      obtain ⟨c, hc⟩ : ∃ c, s.get! k = c := ⟨_, rfl⟩
      rw [hc] at hcut hby hbe
      have hxk : x.size + 1 ≤ 4294967200 := by omega
      have hesz : (s.extract k (k + 1)).size = 1 := by simp; omega
      have HC := Lib.hid hcut
      have HB := Lib.hid hby
      have HE := Lib.hid hbe
      have HST := Lib.hid hst2
      have HM := Lib.hid hm
      have HM2 : Hid (m = j + 1) := Lib.hid (by omega)
      have hm3 : m ≤ 4294967200 := by omega
      clear hbd hcut hby hbe hst hst2 hm hc hxs
      go_wp2_with (at_builtin; refine wpL_append1 rfl _ _ 22 rfl w 9 (.string ⟨#[]⟩) 1 16 Tryz.underlying22 info_string rfl (by decide) (by decide) _ m (strsV (L ++ [x])) rfl (hown.alloc _) ⟨wr.heap.size, 0, none⟩ 1 [.string ⟨#[]⟩] rfl rfl (cell_one_new _ _ _) (by simp [Value.oneCell']) (by omega) (hbel.to_alloc _) ?_; intro g2 cp w2 hown2 hb3 hb4)
      · have h1 : ((s[k].toNat : Int) == 32) = true := by assumption
        refine ⟨⟨k + 1, m + 1, g2, cp, L ++ [x], ⟨#[]⟩, by omega, by go_num, rfl, by simp; exact HM.out, by simpa [strsV] using hown2, hb3, by simp; omega, by show 0 ≤ _; omega, ?_⟩, by simp [intOf]; omega⟩
        rw [← HC.out]
        have hc32 : c = 32 := HB.out.1 h1
        rw [cutL, if_pos hc32]
        simp
      · have h1 : ((s[k].toNat : Int) == 32) = false := by assumption
        have hm2 := HM2.out
        have f1 : IntKind.i64.wrap ((m : Int) - 1) = (m : Int) - 1 := IntWalk.i64_in _ (by omega)
        have f2 : (0 : Int) ≤ (m : Int) - 1 := by omega
        have f3 : ((m : Int) - 1).toNat = j := by omega
        have f4 : (m : Int) - 1 < m := by omega
        have f5 : IntKind.i64.wrap ((k : Int) + 1) = (k : Int) + 1 := IntWalk.i64_in _ (by omega)
        have f6 : (0 : Int) ≤ (k : Int) + 1 := by omega
        have f7 : ((k : Int) + 1).toNat = k + 1 := by omega
        have f8 : (k : Int) + 1 ≤ s.size := by omega
        have f9 : (k : Int) ≤ (k : Int) + 1 := by omega
        have f10 : (x ++ s.extract k (k + 1)).size ≤ maxLen := by rw [ByteArray.size_append, hesz]; unfold maxLen; omega
        clear hm2
        go_region
        go_wp2_with fail
        refine ⟨⟨k + 1, m, g, cap, L, x ++ s.extract k (k + 1), by omega, by go_num, rfl, HM.out, HST.out _, ?_, by omega, by rw [ByteArray.size_append, hesz]; omega, ?_⟩, by simp [intOf]; omega⟩
        · exact (Bel.to_setCell hbel (p := ⟨g, j, none⟩) hge _).to_drew
        · rw [← HC.out, cutL, if_neg (fun h => by rw [HB.out.2 h] at h1; cases h1), HE.out]
    · obtain rfl : k = s.size := by omega
      obtain ⟨W1, rfl⟩ : ∃ W1, W1 = wr := ⟨_, rfl⟩
      have hdrop : s.data.toList.drop s.size = [] := List.drop_of_length_le (Nat.le_refl _)
      rw [hdrop] at hcut
      have hrow0 := own_row hown
      have hrow1 : RowAt W1 (.slice (some ⟨g, 0, none⟩) m cap) (strsV R) := by
        have : L ++ [x] = R := hcut
        rw [← this]
        exact row_ne hrow0 (by simp [strsV])
      have hmR : R.length = m := by
        have : L ++ [x] = R := hcut
        rw [← this, hm]; simp
      have hbnd : m ≤ 4294967240 := by omega
      have hsz : ∀ y ∈ R, y.size ≤ 4294967280 := by
        intro y hy
        have := HR.out
        subst this
        exact Nat.le_trans (rparts_size s y hy) (by omega)
      have HSZ := Lib.hid hsz
      have HMR := Lib.hid hmR
      have HROW := Lib.hid hrow1
      obtain ⟨b, off, cap', hve, _, hlt, hcl⟩ := hrow1
      have hve2 : b = g ∧ off = 0 := by
        injection hve with h1 h2 h3
        injection h1 with h1
        injection h1 with h1 h2
        exact ⟨h1.symm, h2.symm⟩
      obtain ⟨rfl, rfl⟩ := hve2
      have HCL := Lib.hid hcl
      clear hdrop hcut hrow0 hmR hsz hve hcl hm hown hL hx hp hk
      go_wp2_with fail
      go_loopw [6] (fun i wr => ∃ j : Nat, j ≤ m ∧ i = .int .i64 j ∧ Bel W1 wr ∧ (R.drop j).all rwordS = T) (fun i _ => m - (intOf i).toNat)
      case atStart => exact ⟨0, Nat.zero_le _, rfl, Bel.refl _, HT.out⟩
      case round =>
        obtain ⟨j, hj, rfl, hb2, hall⟩ := hrel
        by_cases hjm : j < m
        · have hjl : j < R.length := by rw [HMR.out]; exact hjm
          have hcell := HCL.out j (by rw [strsV_length]; exact hjl)
          have hmem := HSZ.out _ (List.getElem_mem hjl)
          rw [List.drop_eq_getElem_cons hjl] at hall
          obtain ⟨y, hy⟩ : ∃ y, R[j] = y := ⟨_, rfl⟩
          have hcell2 : wr.cell? ⟨b, j, none⟩ = some (.string y) := by
            rw [hb2.cell hlt, show j = 0 + j from by omega, hcell, ← hy]; simp [strsV]
          rw [hy] at hall hmem
          have HALL := Lib.hid hall
          have hw := fun w3 => rword_c y hmem w3
          obtain ⟨F, hF⟩ : ∃ F, rwordS y = F := ⟨_, rfl⟩
          rw [hF] at hw
          have HW := Lib.hid hw
          have HF := Lib.hid hF
          clear hcell hall hy hw hF
          cases F
          · go_wp2_with (go_at_call 84; refine (HW.out _).mono ?_; rintro e w3 ⟨rfl, hb3⟩)
            go_ret2
            have : T = false := by rw [← HALL.out, List.all_cons, HF.out]; rfl
            subst this
            exact ⟨(hbel.trans hb2).trans (by assumption), rfl⟩
          · go_wp2_with (go_at_call 84; refine (HW.out _).mono ?_; rintro e w3 ⟨rfl, hb3⟩)
            refine ⟨⟨j + 1, by omega, by go_num, hb2.trans (by assumption), ?_⟩, by simp [intOf]; omega⟩
            rw [← HALL.out, List.all_cons, HF.out]; rfl
        · obtain rfl : j = m := by omega
          go_wp2_with fail
          go_ret2
          have : T = true := by rw [← hall, List.drop_of_length_le (by rw [HMR.out]; exact Nat.le_refl _)]; rfl
          subst this
          exact ⟨hbel.trans hb2, _, rfl, HROW.out.bel hb2⟩
end Go.Proofs.YtpenfnabeckboaaGreatDoor
