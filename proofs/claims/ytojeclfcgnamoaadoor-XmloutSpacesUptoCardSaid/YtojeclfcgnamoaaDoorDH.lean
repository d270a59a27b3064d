/-
  A world with some of its blocks emptied: what a tree does not read.
-/
import Derived.Test.YtojeclfcgnamoaaDoorDA
namespace Go.Proofs.YtojeclfcgnamoaaDoor
open Go.RowKit

/-- The blocks of S are emptied. -/
def hole (W : World) (S : Nat → Bool) : World := { W with heap := W.heap.mapIdx fun k o => if S k = true then Obj.cells #[] 0 else o }
theorem hole_size (W : World) (S : Nat → Bool) : (hole W S).heap.size = W.heap.size := by simp [hole]
theorem hole_at (W : World) (S : Nat → Bool) (k : Nat) : (hole W S).heap[k]? = (W.heap[k]?).map fun o => if S k = true then Obj.cells #[] 0 else o := by simp [hole]
theorem hole_cell {W : World} {S : Nat → Bool} {p : Addr} {v : Value} (h : (hole W S).cell? p = some v) : W.cell? p = some v := by
  cases hS : S p.block with
  | true =>
    exfalso
    unfold World.cell? at h
    rw [hole_at, hS] at h
    cases hh : W.heap[p.block]? with
    | none => rw [hh] at h; simp at h
    | some o => rw [hh] at h; simp at h
  | false =>
    unfold World.cell? at h ⊢
    rw [hole_at, hS] at h
    cases hh : W.heap[p.block]? with
    | none => rw [hh] at h; simp at h
    | some o => rw [hh] at h; simpa using h
theorem hole_cell_of {W : World} {S : Nat → Bool} {p : Addr} (hS : S p.block = false) : (hole W S).cell? p = W.cell? p := by
  unfold World.cell?
  rw [hole_at, hS]
  cases hh : W.heap[p.block]? <;> simp
theorem hole_bel {W W' : World} (h : Bel W W') (S : Nat → Bool) : Bel (hole W S) (hole W' S) :=
  ⟨h.os, h.tape, h.output, by rw [hole_size, hole_size]; exact h.size, fun k hk => by
    rw [hole_size] at hk
    rw [hole_at, hole_at, h.block hk]⟩
theorem hole_set {W : World} {S : Nat → Bool} {p : Addr} (hS : S p.block = true) (v : Value) (k : Nat) : (hole (W.setCell p v) S).heap[k]? = (hole W S).heap[k]? := by
  rw [hole_at, hole_at]
  by_cases hk : k = p.block
  · subst hk
    rw [hS]
    simp only [World.setCell, Array.getElem?_modify]
    cases W.heap[p.block]? <;> simp
  · rw [Below.heap_setCell W p v k hk]
/-- What reads as much elsewhere holds there. -/
structure Reads (U W : World) : Prop where
  cell : ∀ p v, U.cell? p = some v → W.cell? p = some v
  size : U.heap.size ≤ W.heap.size
theorem AttrsV.reads {U W : World} (hr : Reads U W) {v : Value} {al : List Atr} (h : AttrsV U v al) : AttrsV W v al := by
  obtain ⟨a, cap, h1, h2, h3⟩ := h
  refine ⟨a, cap, h1, h2, h3.imp id fun ⟨b, off, h4, h5, h6⟩ => ⟨b, off, h4, Nat.lt_of_lt_of_le h5 hr.size, fun j x hx => ?_⟩⟩
  obtain ⟨c0, c1, c2⟩ := h6 j x hx
  exact ⟨hr.cell _ _ c0, hr.cell _ _ c1, hr.cell _ _ c2⟩
mutual
theorem NdAt.reads {U W : World} (hr : Reads U W) : ∀ (e : Nd) {va vk : Value}, NdAt U e va vk → NdAt W e va vk
  | .mk t sp lo al ks tx, va, vk, h => by
    unfold NdAt at h ⊢
    obtain ⟨h1, hk, a, cap, h2, h3, h4⟩ := h
    refine ⟨h1.reads hr, hk, a, cap, h2, h3, h4.imp id fun ⟨b, off, h5, h6, h7⟩ => ⟨b, off, h5, Nat.lt_of_lt_of_le h6 hr.size, NdsAt.reads hr ks h7⟩⟩
theorem NdsAt.reads {U W : World} (hr : Reads U W) {b : Nat} : ∀ (l : List Nd) {off : Nat}, NdsAt U b off l → NdsAt W b off l
  | [], _, _ => by unfold NdsAt; trivial
  | .mk t sp lo al ks tx :: r, off, h => by
    unfold NdsAt at h ⊢
    obtain ⟨⟨va, vk, c0, c1, c2, c3, c4, c5, h1⟩, h2⟩ := h
    exact ⟨⟨va, vk, hr.cell _ _ c0, hr.cell _ _ c1, hr.cell _ _ c2, hr.cell _ _ c3, hr.cell _ _ c4, hr.cell _ _ c5, NdAt.reads hr _ h1⟩, NdsAt.reads hr r h2⟩
end
theorem reads_hole (W : World) (S : Nat → Bool) : Reads (hole W S) W := ⟨fun _ _ h => hole_cell h, by rw [hole_size]; exact Nat.le_refl _⟩
theorem reads_less {W : World} {S S' : Nat → Bool} (h : ∀ k, S k = true → S' k = true) : Reads (hole W S') (hole W S) := ⟨fun p v hp => by
  cases hS : S p.block with
  | false => rw [hole_cell_of hS]; exact hole_cell hp
  | true =>
    exfalso
    unfold World.cell? at hp
    rw [hole_at, h _ hS] at hp
    cases hh : W.heap[p.block]? with
    | none => rw [hh] at hp; simp at hp
    | some o => rw [hh] at hp; simp at hp, by rw [hole_size, hole_size]; exact Nat.le_refl _⟩
theorem reads_set {W : World} {S : Nat → Bool} {p : Addr} (hS : S p.block = true) (v : Value) : Reads (hole W S) (hole (W.setCell p v) S) :=
  ⟨fun q u h => by unfold World.cell? at h ⊢; rw [hole_set hS]; exact h, by rw [hole_size, hole_size, World.size_setCell]; exact Nat.le_refl _⟩
theorem AttrsV.hole {W : World} {S : Nat → Bool} {a : Option Addr} {n c : Nat} {al : List Atr} (h : AttrsV W (.slice a n c) al) (hS : ∀ b off, a = some ⟨b, off, none⟩ → S b = false) : AttrsV (hole W S) (.slice a n c) al := by
  obtain ⟨a', cap, h1, h2, h3⟩ := h
  injection h1 with e1 e2 e3
  subst e1
  refine ⟨a, cap, by rw [e2, e3], h2, h3.imp id fun ⟨b, off, h4, h5, h6⟩ => ⟨b, off, h4, by rw [hole_size]; exact h5, fun j x hx => ?_⟩⟩
  obtain ⟨c0, c1, c2⟩ := h6 j x hx
  have hb := hS b off h4
  exact ⟨(hole_cell_of (p := ⟨b, _, none⟩) hb).trans c0, (hole_cell_of (p := ⟨b, _, none⟩) hb).trans c1, (hole_cell_of (p := ⟨b, _, none⟩) hb).trans c2⟩
theorem hole_lt {W : World} {S : Nat → Bool} {p : Addr} {v : Value} (h : (hole W S).cell? p = some v) : p.block < W.heap.size ∧ S p.block = false := by
  refine ⟨?_, ?_⟩
  · rcases Nat.lt_or_ge p.block W.heap.size with h' | h'
    · exact h'
    · unfold World.cell? at h
      rw [hole_at, Array.getElem?_eq_none h'] at h
      simp at h
  · cases hS : S p.block with
    | false => rfl
    | true =>
      exfalso
      unfold World.cell? at h
      rw [hole_at, hS] at h
      cases hh : W.heap[p.block]? with
      | none => rw [hh] at h; simp at h
      | some o => rw [hh] at h; simp at h
/-- What was there ahead reads no newer block. -/
theorem reads_grow {W W' : World} {S S' : Nat → Bool} (hb : Bel W W') (hS : ∀ k, k < W.heap.size → S' k = true → S k = true) : Reads (hole W S) (hole W' S') :=
  ⟨fun p v h => by
    obtain ⟨h1, h2⟩ := hole_lt h
    have h3 : S' p.block = false := by
      cases hh : S' p.block with
      | false => rfl
      | true => rw [hS _ h1 hh] at h2; cases h2
    rw [hole_cell_of h3]
    have h4 := hole_cell h
    unfold World.cell? at h4 ⊢
    rw [hb.block h1]
    exact h4, by rw [hole_size, hole_size]; exact hb.size⟩
/-- A row of one's own begins at no older block. -/
theorem own_blk {W : World} {B e m n c k : Nat} {a : Option Addr} {xs : List Value} (h : W.ownsRow B e m (.slice a n c) k xs) : ∀ b off, a = some ⟨b, off, none⟩ → B ≤ b ∧ b < W.heap.size := fun b off hb => by
  obtain ⟨_, ⟨e0, _⟩ | ⟨g, cap, cur, e0, hg, hh, _⟩⟩ := h
  · injection e0 with e1; rw [e1] at hb; cases hb
  · injection e0 with e1
    rw [e1] at hb
    injection hb with hb
    injection hb with hb
    have := (Array.getElem?_eq_some_iff.1 hh).1
    omega
end Go.Proofs.YtojeclfcgnamoaaDoor
