/-
  A range over an iterator that ranges over another one itself: the caller's body collects into a box; the iterator is told what a round keeps.
-/
import Derived.Test.YtchbhcjhoocjaaaGreatDoorMK
import Derived.Test.YtchbhcjhoocjaaaGreatDoorMB
import Derived.RangeFuncBox
namespace Go.Proofs.YtchbhcjhoocjaaaGreatDoor
open Go.RowKit Go.Shelf

/-- Block k holds cells; it is neither the box nor the row of the slice in it. -/
def FreeOf (Bl : Nat) (T : TypeId) (W : World) (k : Nat) : Prop := (∃ cs t fr, W.heap[k]? = some (.cells cs t fr)) ∧ k ≠ Bl ∧ ∀ v, Boxed W Bl T v → some k ≠ v.ownBlock
/-- What a round keeps. -/
def KeepF (Bl : Nat) (T : TypeId) (W W' : World) : Prop := W.heap.size ≤ W'.heap.size ∧ ∀ k, FreeOf Bl T W k → W'.heap[k]? = W.heap[k]? ∧ FreeOf Bl T W' k
theorem KeepF.trans {Bl : Nat} {T : TypeId} {A B C : World} (h : KeepF Bl T A B) (k : KeepF Bl T B C) : KeepF Bl T A C :=
  ⟨Nat.le_trans h.1 k.1, fun i hi => by
    obtain ⟨h1, h2⟩ := h.2 i hi
    obtain ⟨k1, k2⟩ := k.2 i h2
    exact ⟨k1.trans h1, k2⟩⟩
theorem KeepF.putObj {Bl : Nat} {T : TypeId} {W : World} {l : Nat} {o : Obj} (o' : Obj) (hl : W.heap[l]? = some o) (ho : o.isCells = false) (hne : l ≠ Bl) : KeepF Bl T W (W.putObj l o') := by
  refine ⟨(grownBy_putObj' W l o').size, fun k hk => ?_⟩
  obtain ⟨⟨cs, t, fr, hc⟩, h2, h3⟩ := hk
  have hkl : k ≠ l := by
    rintro rfl
    rw [hc] at hl; cases hl; cases ho
  have e : (W.putObj l o').heap[k]? = W.heap[k]? := World.putObj_heap_other hkl
  refine ⟨e, ⟨cs, t, fr, e.trans hc⟩, h2, fun v hv => h3 v ?_⟩
  unfold Boxed at hv ⊢
  rwa [World.putObj_heap_other (fun e => hne e.symm)] at hv

/-- How a round's body is left. -/
def viaPost {α : Type} (Bl : Nat) (T : TypeId) (I : List α → World → Prop) (xs : List α) (W : World) : Exit → Act → World → Prop
  | .normal, _, W' => KeepsOthers W W' ∧ KeepF Bl T W W' ∧ I xs W'
  | _, _, _ => False
section
variable {F : Fence} {n : Nat} {P : Program} {w : World}
theorem wpIn_rangeFunc_via {α : Type} {g : Operand} {ps : Array Tmp} {assign body : Code} {Q : Exit → Act → World → Prop} {a : Act}
    (hro : F.round = none) (h1 : 1 ≤ n) {gf : Nat} {lb : Array Value} (hg : a.eval g = .func (.func gf) #[] lb) (hFg : F.fn gf) (eg : ∀ args w, (callFunc gf args).run P w = .ok (.enter gf args) w)
    {encs : α → Array Value} {S : List α → Prop} {N : Nat} (hps : ∀ x, (encs x).size = ps.size) (Bl : Nat) (T : TypeId) (hBl : Bl < w.heap.size)
    (I : List α → World → Prop) (hI : OwnFrom w.heap.size I) (h0 : I [] w) (a₁ : α → Act)
    (hassign : ∀ (l : Nat) (x : α) (W : World) (K : Act → World → Prop), K (a₁ x) W →
      assign.wpIn (F.inRound l) (n - 1 - 1) P (Exit.then K (fun _ _ _ => False)) { tmps := (ps.zip (encs x)).foldl (fun t (p, v) => t.setIfInBounds p v) a.tmps, defers := [] } W)
    (hbody : ∀ (l : Nat) (pre : List α) (x : α) (W : World), I pre W → pre.length < N → body.wpIn (F.inRound l) (n - 1 - 1) P (viaPost Bl T I (pre ++ [x]) W) (a₁ x) W)
    (hiter : ∀ (l D : Nat) (r : Loop) (W1 : World), w.heap.size ≤ l → w.heap.size ≤ D → Below w.heap.size w W1 → I [] W1 → W1.heap[l]? = some (.loop r) → W1.heap[D]? = some (.deferred (some [])) →
      (∀ (pre : List α) (x : α) (W : World), I pre W → W.heap[l]? = some (.loop r) → pre.length < N → YieldAt F (n - 1 - 1) P l (encs x) W fun e W' => e = .returned (.bool true) ∧ I (pre ++ [x]) W' ∧ KeepsOthers W W' ∧ KeepF Bl T W W') →
      CallsIn F (n - 1) P gf (#[.func (.yield l) #[] #[]] ++ lb) W1 fun e W' => (∃ v, e = .returned v) ∧ ∃ xs, S xs ∧ I xs W' ∧ W'.heap[l]? = some (.loop r) ∧ W'.heap[D]? = some (.deferred (some [])))
    (hdone : ∀ (D : Nat) (xs : List α) (W : World), w.heap.size ≤ D → S xs → I xs W → W.heap[D]? = some (.deferred (some [])) → Q .normal { a with defers := { target := .collected D, args := #[] } :: a.defers } W) :
    (Code.rangeFunc g ps assign body).wpIn F n P Q a w := by
  refine wpIn_rangeFunc ?_
  intro fn hfn
  rw [hro]
  obtain ⟨rec, hrec⟩ : ∃ rec : LoopState → Option Code → Loop, rec = fun st pe => { state := st, pending := pe, fn, tmps := a.tmps, params := ps, assign, body, defers := w.heap.size } := ⟨_, rfl⟩
  obtain ⟨W1, hW1⟩ : ∃ W1, (w.alloc (.deferred (some []))).alloc (.loop (rec .ready none)) = W1 := ⟨_, rfl⟩
  have hL1 : W1.heap[w.heap.size + 1]? = some (.loop (rec .ready none)) := by
    rw [← hW1]; have := World.alloc_heap_new (w.alloc (.deferred (some []))) (.loop (rec .ready none)); rwa [World.size_alloc] at this
  have hK1 : W1.heap[w.heap.size]? = some (.deferred (some [])) := by
    rw [← hW1]; exact (Below.heap_alloc _ _ _ (by simp)).trans (World.alloc_heap_new w _)
  have hI1 : I [] W1 := by rw [← hW1]; exact hI.alloc _ (hI.alloc _ h0)
  have hb1 : Below w.heap.size w W1 := by
    rw [← hW1]; exact ((Below.refl _ w).alloc (Nat.le_refl _) _).alloc (by simp) _
  refine ⟨w.heap.size + 1, [{ target := .collected w.heap.size, args := #[] }], W1, { target := .fn (.func gf) lb, args := #[.func (.yield (w.heap.size + 1)) #[] #[]] }, W1, gf,
    #[.func (.yield (w.heap.size + 1)) #[] #[]] ++ lb, W1, ?_, ?_, ?_, ?_, fun _ => h1, ?_⟩
  · rw [← hW1, hrec]; exact run_enterLoop_outer _ _ _ _ _
  · simp only [resolve, hg]
    simp [go_sem]
  · intro f' hf'; simp [Target.leads] at hf'; subst hf'; exact hFg
  · simp [invoke, go_sem, eg]
  · refine (hiter (w.heap.size + 1) w.heap.size (rec .ready none) W1 (by omega) (Nat.le_refl _) hb1 hI1 hL1 hK1 ?_).mono ?_
    · intro pre x W hi hl hlen
      have hlt : w.heap.size + 1 < W.heap.size := (Array.getElem?_eq_some_iff.1 hl).1
      have hy := run_yield (P := P) (args := encs x) hl (by rw [hrec]; exact hps x)
      rw [hrec] at hy
      refine ⟨fn, _, assign, body, hy, roundIn_of_wpIn hfn (hassign _ x W _ ⟨_, run_beginRound hl (by rw [hrec]), ?_⟩)⟩
      obtain ⟨W2, hW2⟩ : ∃ W2, W.putObj (w.heap.size + 1) (.loop { rec .ready none with state := .busy }) = W2 := ⟨_, rfl⟩
      have hl2 : W2.heap[w.heap.size + 1]? = some (.loop { rec .ready none with state := .busy }) := by rw [← hW2]; exact World.putObj_heap_same hlt
      have hi2 : I pre W2 := by rw [← hW2]; exact hI.putObj _ hi (by omega) hl rfl
      have hf2 : KeepF Bl T W W2 := by rw [← hW2]; exact KeepF.putObj _ hl rfl (by omega)
      have hk2 : ∀ k, k ≠ w.heap.size + 1 → W2.heap[k]? = W.heap[k]? := fun k hk => by rw [← hW2]; exact World.putObj_heap_other hk
      rw [hW2]
      refine wpIn_mono (hbody _ pre x _ hi2 hlen) ?_
      rintro e a3 W3 hp
      obtain ⟨rfl, hk3, hf3, hi3⟩ : e = .normal ∧ KeepsOthers W2 W3 ∧ KeepF Bl T W2 W3 ∧ I (pre ++ [x]) W3 := by
        cases e with
        | normal => exact ⟨rfl, hp⟩
        | _ => exact hp.elim
      have hl3 := hk3.same _ _ hl2 rfl
      have hr := run_endRound (P := P) none hl3
      rw [hrec] at hr
      refine ⟨_, _, hr, rfl, hI.putObj _ hi3 (by omega) hl3 rfl, ?_, (hf2.trans hf3).trans (KeepF.putObj _ hl3 rfl (by omega))⟩
      refine ⟨Nat.le_trans hf2.1 (Nat.le_trans hk3.size (grownBy_putObj' _ _ _).size), fun k o hko hoc => ?_⟩
      by_cases hkl : k = w.heap.size + 1
      · subst hkl
        rw [hl] at hko
        obtain rfl := Option.some.inj hko
        rw [World.putObj_heap_same (Array.getElem?_eq_some_iff.1 hl3).1, hrec]
        rfl
      · rw [World.putObj_heap_other hkl]
        exact hk3.same k o ((hk2 k hkl).trans hko) hoc
    · rintro e W2 ⟨⟨v, rfl⟩, xs, hS, hi, hl, hk⟩
      exact ⟨none, _, by have := run_endLoop (P := P) hl (by rw [hrec]; simp); rw [hrec] at this; exact this, hdone _ xs _ (Nat.le_refl _) hS (hI.putObj _ hi (by omega) hl rfl) ((World.putObj_heap_other (by omega)).trans hk)⟩
end
end Go.Proofs.YtchbhcjhoocjaaaGreatDoor
