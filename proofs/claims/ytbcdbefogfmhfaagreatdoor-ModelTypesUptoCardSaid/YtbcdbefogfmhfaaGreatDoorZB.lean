/-
  What closes each row's frame: nothing that lay before the call has changed; the bound's parts.
-/
import Derived.Test.YtbcdbefogfmhfaaGreatDoorCards
import Derived.Test.YtbcdbefogfmhfaaGreatDoorTie
import Derived.Test.YtbcdbefogfmhfaaGreatDoorMC
import Derived.WalkKit
import Derived.ProofKit
import Derived.OpenShut
import Derived.Deep.DeepHandedRow
import Derived.Lib.LaidTab
import Derived.Lib.LaidU8
import Derived.Carry
import Derived.LaidSub
import Derived.LaidHandle
import Derived.SliceStrings
namespace Go.Proofs.YtbcdbefogfmhfaaGreatDoor
open Go.ChangeShapes Go.WideShapes Go.ChangeAt Go.RowKit Go.Shelf Go.Lib

set_option maxRecDepth 100000
theorem own : ownKnob Tryz.prog.godebug = none := by kernel_rfl
theorem laidOut : laidOutB Tryz.prog = true := by kernel_rfl
theorem trodAll_stays {P : Program} (hl : laidOutB P = true) {H : Type} {enc : TypeId × Value → H} {W W' : World} (hb : Bel W W') : ∀ (ts : List TypeId) {vs : List Value} {ds : List (DataW H)} {ps : List MemPlace}, (ts.all fun t => P.readableRec t && decide (t < P.types.size)) = true →
    DataW.TrodAll enc P W 0 (fun _ => true) true ts vs ds ps → (∀ x ∈ ps, x.block < W.heap.size) → DataW.TrodAll enc P W' 0 (fun b => decide (b < W.heap.size)) true ts vs ds ps := by
  intro ts
  induction ts with
  | nil =>
    intro vs ds ps _ h _
    obtain ⟨rfl, rfl, rfl⟩ := trodAll_nil h
    exact trodAll_mk0
  | cons t ts ih =>
    intro vs ds ps ht h hp
    obtain ⟨v, vs', d, ds', p, q, rfl, rfl, rfl, h0, h1⟩ := trodAll_cons h
    simp only [List.all_cons, Bool.and_eq_true, decide_eq_true_eq] at ht
    exact trodAll_cons_mk (Below.trod hl ht.1.1 ht.1.2 h0 hb (fun x hx => hp x (by simp [hx]))) (ih ht.2 h1 (fun x hx => hp x (by simp [hx])))
/-- The row's last step: true is handed back, all that lay before the call lies as it lay. -/
theorem post_stay {H : Type} {enc : TypeId × Value → H} {f : Func} {s : ChangeSpec} {W W' : World} {args : Array Value} {ds gs : List (DataW H)} {pa : List MemPlace}
    (hW : DataW.Whole enc Tryz.prog f.params.toList s.vars false W args.toList ds gs (pa ++ [])) (hA : DataW.TrodAll enc Tryz.prog W 0 (fun _ => true) true f.params.toList args.toList ds pa)
    (ht : (f.params.toList.all fun t => Tryz.prog.readableRec t && decide (t < Tryz.prog.types.size)) = true)
    (hr : f.resultTypes = #[4]) (hs : s.vars = []) (hsr : (s.fn H (ds ++ gs)).results = [.lit (.bool true)]) (hsa : (s.fn H (ds ++ gs)).args = ds) (hsv : (s.fn H (ds ++ gs)).vars = [])
    (hb : Bel W W') : s.post enc Tryz.prog f false true false false W args (.bool true) W' := by
  have hin : ∀ p ∈ pa ++ [], p.block < W.heap.size := fun p hp => hW.lt p hp
  refine ⟨ds, gs, pa ++ [], [], pa, [], hW, ?_, ?_, ?_, World.keptBut_mono (fun p hp => ⟨hp, Or.inr (List.mem_append.1 hp)⟩) (Below.frame hb (· ∈ pa ++ [])), fun h => by cases h⟩
  · rw [hr, hsr]
    exact trodAll_cons_mk (shut_bool Tryz.underlying4 _) trodAll_mk0
  · rw [hsa]
    exact trodAll_stays laidOut hb _ ht hA (fun x hx => hin x (by simp [hx]))
  · rw [hs, hsv]; rfl

/-! The bound. -/
theorem bulk_all {H : Type} {l : List (DataW H)} (hk : Rows.uptoSmall H l = true) : Rows.uptoBulkAll l ≤ 1048576 := by
  have h := of_decide_eq_true hk
  exact h
theorem bulk_cons {H : Type} (d : DataW H) (l : List (DataW H)) : Rows.uptoBulkAll (d :: l) = Rows.uptoBulk d + Rows.uptoBulkAll l := by simp [Rows.uptoBulkAll]
section
variable {H : Type} {enc : TypeId × Value → H} {w : World} {base : Nat} {spare : Nat → Bool} {held : Bool}
theorem shape_lt {w : World} {b : Nat} {x : TypeId × Nat} (h : w.shape? b = some x) : b < w.heap.size := by
  unfold World.shape? at h
  cases hh : w.heap[b]? with
  | none => rw [hh] at h; simp at h
  | some o => exact (Array.getElem?_eq_some_iff.1 hh).1
/-- A slice that came in lies at a plain place. -/
theorem okWide_slice2 {P : Program} {w : World} {r : Reach} {b0 : Nat} {t e : TypeId} {v : Value} (ht : P.underlying t = some (.slice e)) (h : Value.okWide P w r b0 t v) :
    v = .slice none 0 0 ∨ ∃ b off len cap, v = .slice (some ⟨b, off, none⟩) len cap ∧ b < w.heap.size := by
  simp only [Value.okWide, ht, Cell.okWide] at h
  cases v <;> simp_all [Cell.ok]
  rename_i a len cap
  cases a with
  | none => left; cases len <;> cases cap <;> simp_all
  | some a =>
    obtain ⟨b, off, spot⟩ := a
    simp only [World.has] at h
    obtain ⟨_, _, _, rfl, row, cells, h3, _⟩ := h
    exact .inr ⟨b, ⟨off, rfl⟩, shape_lt h3⟩
end
end Go.Proofs.YtbcdbefogfmhfaaGreatDoor
