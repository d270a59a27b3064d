/-
  The keywords: names.All, names.keywords, names.Keyword.
-/
import Derived.Test.YtjnaikojoemkaaaDoorL
import Derived.Maps.OwnSet
namespace Go.Proofs.YtjnaikojoemkaaaDoor
open Go.RowKit Go.Shelf Go.Maps
attribute [local go_sem] Oper.semAt_some

/-- The keywords' bytes, in order. -/
def kwL : List (List UInt8) := [[97, 110, 100], [98, 101, 116, 119, 101, 101, 110], [101, 108, 115, 101], [101, 118, 101, 114, 121], [102, 97, 108, 115, 101], [102, 111, 114], [102, 117, 110, 99, 116, 105, 111, 110], [105, 102], [105, 110], [110, 111, 116], [110, 117, 108, 108], [111, 114], [114, 101, 116, 117, 114, 110], [115, 97, 116, 105, 115, 102, 105, 101, 115], [115, 111, 109, 101], [116, 104, 101, 110], [116, 114, 117, 101]]
def kwB (l : List UInt8) : ByteArray := ⟨l.toArray⟩
def kwV : List Value := kwL.map fun l => Value.string (kwB l)
def kwF (j : Nat) : Str := ⟨kwB (kwL.getD j []), by
  have : ∀ j, (kwL.getD j []).length ≤ 9 := fun j => by
    by_cases h : j < 17
    · exact (by decide : ∀ j : Fin 17, (kwL.getD j.1 []).length ≤ 9) ⟨j, h⟩
    · have h2 : kwL[j]? = none := List.getElem?_eq_none (by have : kwL.length = 17 := rfl; omega)
      simp [List.getD, h2]
  have h2 := this j
  show (kwL.getD j []).toArray.size ≤ maxLen
  rw [List.size_toArray]
  unfold maxLen; omega⟩
/-- Is it a keyword? -/
def isKw (s : ByteArray) : Bool := kwL.any fun l => l == s.data.toList

set_option maxRecDepth 100000 in
set_option maxHeartbeats 1000000 in
theorem all_in (n : Nat) (h1 : 1 ≤ n) (w : World) :
    CallsIn Fence.wide n Tryd.prog 42 #[] w fun e w' => e = .returned (.func (.func 62) #[] #[.pointer (some ⟨w.heap.size + 1, 0, none⟩)]) ∧ w' = (w.alloc (.cells kwV.toArray 9)).alloc (.cells #[.slice (some ⟨w.heap.size, 0, none⟩) 17 17] 93) := by
  refine callsIn_of_wp Tryd.func42 rfl trivial ?_ rfl
  simp only [Tryd.ntmps42, List.size_toArray, List.length_nil, Nat.reduceSub, Array.replicate_succ, Array.replicate_zero, List.push_toArray, List.append_toArray, List.nil_append, List.cons_append]
  gi_wp2_with (refine ⟨trivial, ?_⟩; gi_at_call 51; refine (values_in Fence.wide _ trivial rfl _ _ _ _).mono ?_; rintro e w' ⟨rfl, rfl⟩)
  go_ret
  exact ⟨by simp, by simp [kwV, kwL, kwB]⟩

theorem cell_alloc_old (w : World) (o : Obj) (b k : Nat) (h : b < w.heap.size) : (w.alloc o).cell? ⟨b, k, none⟩ = w.cell? ⟨b, k, none⟩ := World.cell?_of_block (w := w) (a := ⟨b, k, none⟩) (Below.heap_alloc _ _ _ h)
theorem cell_new_row (w : World) (l : List Value) (t : TypeId) (j : Nat) (h : 0 + j < l.length) : (w.alloc (.cells l.toArray t)).cell? ⟨w.heap.size, 0 + j, none⟩ = some (l[0 + j]) := by
  simp only [World.cell?, World.alloc_heap_new]
  simp
theorem kwV_at (j : Nat) (hj : j < 17) : some (kwV[0 + j]'(by simp [kwV, kwL]; exact hj)) = some (Value.string (kwF j).1) := by
  have h : j < kwL.length := hj
  simp only [kwV, List.getElem_map, kwF, List.getD, Nat.zero_add, List.getElem?_eq_getElem h, Option.getD_some]
def trueElem {H : Type} : Value → Option (DataW H × List MemPlace)
  | .bool true => some (.lit (.bool true), [])
  | _ => none
def kwD {H : Type} (xs : List Str) : DataW H := setOf (.lit (.bool true)) (xs.map fun x => Lit.string x.1.data.toList)
theorem kwD_snoc {H : Type} (pre : List Str) (x : Str) : kwD (H := H) (pre ++ [x]) = (kwD pre).put (.string x.1.data.toList) (.lit (.bool true)) := by simp [kwD, setOf_snoc]

set_option maxRecDepth 100000 in
set_option maxHeartbeats 2000000 in
theorem keywords_in (n : Nat) (hn : 4 ≤ n) (w : World) :
    CallsIn Fence.wide n Tryd.prog 32 #[] w fun e W' => e = .returned (.map (some w.heap.size)) ∧ W'.ownsMap Tryd.prog 9 (trueElem (H := Unit)) w.heap.size 17 (kwD (upto kwF 17)) ∧ Below w.heap.size w W' := by
  have h1 : 1 ≤ n := by omega
  have hmm := @run_makeMap Tryd.prog
  refine callsIn_of_wp_marks Tryd.func32 rfl trivial ?_ rfl
  simp only [Tryd.ntmps32, List.size_toArray, List.length_nil, Nat.reduceSub, Array.replicate_succ, Array.replicate_zero, List.push_toArray, List.append_toArray, List.nil_append, List.cons_append]
  gi_wp2_with (refine ⟨trivial, ?_⟩; gi_at_call 42; refine (all_in (n - 1) (by omega) _).mono ?_; rintro e w' ⟨rfl, rfl⟩)
  have hm0 := World.ownsMap_made w Tryd.prog 9 (trueElem (H := Unit))
  have cS := (Boxed.new (w.alloc (.map #[] 0)) 61 (.map (some w.heap.size)))
  have bS := (cS.alloc (.cells kwV.toArray 9)).alloc (.cells #[.slice (some ⟨w.heap.size + 2, 0, none⟩) 17 17] 93)
  have hB0 : Below w.heap.size w (((w.alloc (.map #[] 0)).alloc (.cells #[.map (some w.heap.size)] 61)).alloc (.cells kwV.toArray 9)) := (((Below.refl _ w).alloc (Nat.le_refl _) _).alloc (by simp) _).alloc (by simp; omega) _
  have hB1 := hB0.alloc (by simp; omega) (.cells #[.slice (some ⟨w.heap.size + 2, 0, none⟩) 17 17] 93)
  have bN := Boxed.new (((w.alloc (.map #[] 0)).alloc (.cells #[.map (some w.heap.size)] 61)).alloc (.cells kwV.toArray 9)) 93 (.slice (some ⟨w.heap.size + 2, 0, none⟩) 17 17)
  simp only [World.size_alloc] at cS bN bS
  obtain ⟨W0, hW0⟩ : ∃ W0, ((((w.alloc (.map #[] 0)).alloc (.cells #[.map (some w.heap.size)] 61)).alloc (.cells kwV.toArray 9)).alloc (.cells #[.slice (some ⟨w.heap.size + 2, 0, none⟩) 17 17] 93)) = W0 := ⟨_, rfl⟩
  have hsz : W0.heap.size = w.heap.size + 4 := by rw [← hW0]; simp
  have hrow : ∀ j, j < 17 → W0.cell? ⟨w.heap.size + 2, 0 + j, none⟩ = some (.string (kwF j).1) := fun j hj => by
    rw [← hW0, cell_alloc_old _ _ _ _ (by simp), show w.heap.size + 2 = ((w.alloc (.map #[] 0)).alloc (.cells #[.map (some w.heap.size)] 61)).heap.size from by simp]
    rw [cell_new_row _ _ _ _ (by simp [kwV, kwL]; exact hj)]
    exact kwV_at j hj
  have hm1 : W0.ownsMap Tryd.prog 9 (trueElem (H := Unit)) w.heap.size 0 (.map []) := by rw [← hW0]; exact ((hm0.alloc _).alloc _).alloc _
  rw [hW0] at hB1 bN bS
  have e2 : w.heap.size + 1 + 1 = w.heap.size + 2 := rfl
  have e3 : w.heap.size + 1 + 1 + 1 = w.heap.size + 3 := rfl
  simp only [e2, e3] at *
  rw [hW0]
  refine wpIn_rangeFunc_ownG rfl h1 (gf := 62) (lb := #[.pointer (some ⟨w.heap.size + 3, 0, none⟩)]) rfl trivial (enters_of Tryd.func62 (by kernel_rfl) rfl)
    (values_stops Fence.wide (n - 1) trivial rfl (by omega) (w.heap.size + 3) (w.heap.size + 2) 0 17 17 kwF (by omega) W0 (by omega) (by omega) bN.cell hrow) KeepB.trans (KeepB.putObj W0.heap.size (by omega)) (Below.refl _ _) (fun _ => rfl)
    (fun pre W => (Boxed W (w.heap.size + 1) 61 (.map (some w.heap.size)) ∧ W.ownsMap Tryd.prog 9 (trueElem (H := Unit)) w.heap.size pre.length (kwD pre) ∧ W0.heap.size ≤ W.heap.size) ∧ Below w.heap.size w W)
    (fun _ _ _ => False)
    (OwnFrom.and (fun s A B row hs hg hr => ⟨hs.1.kept hg (fun e => by have := (hr _ e.symm).1; omega), hs.2.1.kept hg (fun e => by have := (hr _ e.symm).1; omega), Nat.le_trans hs.2.2 hg.size⟩) (ownFrom_below (Nat.le_refl _) (by omega)))
    (fun _ _ _ _ _ hs _ _ => hs)
    ⟨⟨bS, hm1, Nat.le_refl _⟩, hB1⟩
    (fun x => { tmps := #[.map none, .pointer (some ⟨w.heap.size + 1, 0, none⟩), .string x.1, .map (some w.heap.size), .func (.func 62) #[] #[.pointer (some ⟨w.heap.size + 3, 0, none⟩)], .string x.1, undef, undef, undef], defers := [] }) ?assign ?body ?done ?stop
  case assign =>
    intro l x W K hK
    gi_wp2
    exact hK
  case body =>
    rintro l pre x W ⟨⟨hc, hown, hge⟩, hB⟩ hlt
    have hcc := hc.cell
    gi_wp2_with (gi_at_mapUpdate; refine wpListIn_mapUpdate_own _ rfl _ _ _ 61 rfl 9 4 (Maps.string_keyed Tryd.underlying9) Tryd.underlying61 (trueElem (H := Unit)) w.heap.size pre.length (kwD pre) rfl hown (by unfold maxLen; omega) _ _ _ rfl rfl (Go.WideMaps.keyOf_string_mk Tryd.underlying9 x.2) (.lit (.bool true)) [] rfl ?_; intro w1 hown1 hgrow1)
    obtain ⟨es, ck, hh, _⟩ := hown
    exact ⟨KeepsFrom.of_grownBy hgrow1 (fun j e => by cases e; omega), hgrow1.block _ (by omega) (by simp),
      ⟨hc.kept hgrow1 (fun e => by injection e with e; omega), by rw [kwD_snoc, List.length_append]; exact hown1, Nat.le_trans hge hgrow1.size⟩, hB.grown hgrow1 hB.size (fun k e => by cases e; exact Nat.le_refl _)⟩
  case done =>
    rintro D ys W hD rfl ⟨⟨hc, hown, _⟩, hB⟩ hK
    have hcc := hc.cell
    gi_wp2
    refine ⟨by simp, .inl ⟨_, _, rfl, run_takeDeferred hK, ?_⟩⟩
    exact ⟨_, results_tmp rfl _ _ _, rfl, hown.kept (grownBy_putObj' _ D _) (fun e => by cases e; omega), hB.trans (belowK_b (w := w) (Nat.le_refl _) W D _ _ (by omega) hK rfl rfl)⟩
  case stop =>
    rintro D c pre W _ _ h _
    exact h.elim
end Go.Proofs.YtjnaikojoemkaaaDoor
