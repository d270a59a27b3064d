/-
  All blocks of cells of some types are kept.
-/
import Derived.Test.YtbcdbefogfmhfaaGreatDoorMB
namespace Go.Proofs.YtbcdbefogfmhfaaGreatDoor
open Go.RowKit

/-- All blocks of cells of some types are kept. -/
def KeepT (p : TypeId → Bool) (W W' : World) : Prop := W.heap.size ≤ W'.heap.size ∧ ∀ (k : Nat) (cs : Array Value) (t : TypeId) (fr : Nat × Nat), W.heap[k]? = some (Obj.cells cs t fr) → p t = true → W'.heap[k]? = W.heap[k]?
theorem KeepT.refl (p : TypeId → Bool) (W : World) : KeepT p W W := ⟨Nat.le_refl _, fun _ _ _ _ _ _ => rfl⟩
theorem KeepT.trans {p : TypeId → Bool} {A B C : World} (h : KeepT p A B) (g : KeepT p B C) : KeepT p A C :=
  ⟨Nat.le_trans h.1 g.1, fun k cs t fr hk hp => by have h1 := h.2 k cs t fr hk hp; exact (g.2 k cs t fr (h1.trans hk) hp).trans h1⟩
theorem KeepT.of_bel {p : TypeId → Bool} {W W' : World} (h : Bel W W') : KeepT p W W' := ⟨h.size, fun _ _ _ _ hk _ => h.block (Array.getElem?_eq_some_iff.1 hk).1⟩
theorem KeepT.set {p : TypeId → Bool} {W : World} {b t : Nat} {cs : List Value} (h : Blk W b t cs) (hp : p t = false) (j : Nat) (z : Value) : KeepT p W (W.setCell ⟨b, j, none⟩ z) :=
  ⟨by simp [World.setCell], fun k cs' t' fr hk hp' => Below.heap_setCell W ⟨b, j, none⟩ z k (fun e => by
    rw [show k = b from e] at hk
    rw [h] at hk
    injection hk with hk
    injection hk with _ ht _
    rw [← ht, hp] at hp'
    cases hp')⟩
theorem KeepT.grow {p : TypeId → Bool} {W W' : World} {B e m n : Nat} {v : Value} {xs : List Value} (h : W.ownsRow B e m v n xs) (hp : p e = false) (hg : W.grownBy W' v.ownBlock) : KeepT p W W' :=
  ⟨hg.size, fun k cs t fr hk hp' => hg.block k (Array.getElem?_eq_some_iff.1 hk).1 (own_ne h hk (fun e' => by rw [e', hp] at hp'; cases hp'))⟩
theorem KeepT.own {p : TypeId → Bool} {W W' : World} (h : KeepT p W W') {B e m n : Nat} {v : Value} {xs : List Value} (ho : W.ownsRow B e m v n xs) (hp : p e = true) : W'.ownsRow B e m v n xs := by
  obtain ⟨hl, h2 | ⟨g, cap, cur, rfl, hg, hh, h3⟩⟩ := ho
  · exact ⟨hl, .inl h2⟩
  · exact ⟨hl, .inr ⟨g, cap, cur, rfl, hg, (h.2 g _ _ _ hh hp).trans hh, h3⟩⟩
theorem own_base {W : World} {B e m n : Nat} {v : Value} {xs : List Value} (ho : W.ownsRow B e m v n xs) : W.ownsRow 0 e m v n xs := by
  obtain ⟨hl, h2 | ⟨g, cap, cur, rfl, hg, hh, h3⟩⟩ := ho
  · exact ⟨hl, .inl h2⟩
  · exact ⟨hl, .inr ⟨g, cap, cur, rfl, Nat.zero_le _, hh, h3⟩⟩
theorem Blk.grown {W W' : World} {b t : Nat} {cs : List Value} (h : Blk W b t cs) {B e m n : Nat} {v : Value} {xs : List Value} (ho : W.ownsRow B e m v n xs) (hg : W.grownBy W' v.ownBlock) (hne : t ≠ e) : Blk W' b t cs :=
  (hg.block b h.lt (own_ne ho h hne)).trans h
end Go.Proofs.YtbcdbefogfmhfaaGreatDoor
