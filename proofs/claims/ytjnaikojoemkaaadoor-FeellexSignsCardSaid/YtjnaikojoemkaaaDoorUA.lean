/-
  append of one element onto a slice that the call owns; the blocks beside its row are as they were.
-/
import Derived.Test.YtjnaikojoemkaaaDoorU
import Derived.Laws.AppendOwnNone
import Derived.Laws.OwnMore
namespace Go.Proofs.YtjnaikojoemkaaaDoor
open Go.RowKit

theorem wpL_append1k {P : Program} {ops : Array Oper} {rest : List Oper} {o : Oper} {a : Act} {w : World} {Q : Exit → Act → World → Prop}
    (hg : o.guard = none) (s x : Operand) (t : TypeId) (ho : o.op = .call { callee := .builtin .append, args := #[s, x], argTypes := #[t, t] })
    (B : Nat) (hB : B ≤ w.heap.size) (e : TypeId) (z : Value) (size bytes : Nat) (ht : P.underlying t = some (.slice e)) (hinfo : (P.info? e).map (fun i => (i.zero, i.size, i.bytes)) = some (some z, size, bytes))
    (hzs : z.cells.size = size) (hsz : 0 < size) (hby : bytes ≤ 4096) (v : Value) (n : Nat) (xs : List Value) (hs : a.eval s = v) (hown : w.ownsRow B e size v n xs)
    (ad : Addr) (c : Nat) (news : List Value) (hx : a.eval x = .slice (some ad) 1 c) (hl : news.length = size) (hnews : ∀ j u, news[j]? = some u → w.cell? (ad.add j) = some u) (h1 : ∀ u ∈ news, u.oneCell' = true)
    (hn : n ≤ 4294967296)
    (hK : ∀ g cap w', w'.ownsRow B e size (.slice (some ⟨g, 0, none⟩) (n + 1) cap) (n + 1) (xs ++ news) → w.grownBy w' v.ownBlock → wpList P ops Q rest (a.put o.dst (.slice (some ⟨g, 0, none⟩) (n + 1) cap)) w') :
    wpList P ops Q (o :: rest) a w := by
  obtain ⟨i, hi, hz, hi1, hi2⟩ := info_parts hinfo
  refine wpList_append_own w hg s x t ho B e i z size bytes ht hi hz hi1 hi2 hzs hsz v n xs hs hown ad 1 c news hx (by omega) hnews h1 (by unfold maxLen; omega) ?_ hB ?_
  · have : (n + 1) * bytes ≤ 4294967297 * 4096 := Nat.mul_le_mul (by omega) hby
    omega
  · intro v' w' hown' hgrow _
    obtain ⟨g, cap, rfl⟩ := ownsRow_succ hown'
    exact hK g cap w' hown' hgrow
theorem own_grown {W w w' : World} {B : Nat} {e : TypeId} {size n : Nat} {v : Value} {xs : List Value} (h : w.ownsRow B e size v n xs) (hb : Bel W w) (hg : w.grownBy w' v.ownBlock) (hB : W.heap.size ≤ B) : Bel W w' :=
  Below.grown hb hg hb.size fun k hk => Nat.le_trans hB (h.lt k hk).1
theorem own_ge {w : World} {B : Nat} {e : TypeId} {size n : Nat} {v : Value} {xs : List Value} (h : w.ownsRow B e size v n xs) {k : Nat} (hk : k < B) : some k ≠ v.ownBlock := fun e' => by
  have := (h.lt k e'.symm).1
  omega
/-- The row that a slice owns is no block of cells of another type. -/
theorem own_ne {w : World} {B : Nat} {e : TypeId} {size n : Nat} {v : Value} {xs : List Value} (h : w.ownsRow B e size v n xs) {b : Nat} {cs : Array Value} {t : TypeId} {fr : Nat × Nat} (hb : w.heap[b]? = some (.cells cs t fr)) (hte : t ≠ e) : some b ≠ v.ownBlock := by
  rcases h.2 with ⟨rfl, _⟩ | ⟨g, cap, cur, rfl, _, hgb, _⟩
  · simp [Value.ownBlock]
  · intro e'
    obtain rfl : b = g := by simpa [Value.ownBlock] using e'
    rw [hb] at hgb
    simp at hgb
    exact hte hgb.2.1
theorem own_set {w : World} {B : Nat} {e : TypeId} {size n : Nat} {v : Value} {xs : List Value} (h : w.ownsRow B e size v n xs) {p : Addr} (hne : some p.block ≠ v.ownBlock) (z : Value) : (w.setCell p z).ownsRow B e size v n xs := by
  obtain ⟨hl, h2 | ⟨g, cap, cur, rfl, hg, hh, h3⟩⟩ := h
  · exact ⟨hl, .inl h2⟩
  · refine ⟨hl, .inr ⟨g, cap, cur, rfl, hg, ?_, h3⟩⟩
    exact (Below.heap_setCell w p z g (fun e => hne (by rw [← e]; simp [Value.ownBlock]))).trans hh
/-- append of a slice, a nil one too, onto a slice that the call owns. -/
theorem wpL_appendR {P : Program} {ops : Array Oper} {rest : List Oper} {o : Oper} {a : Act} {w : World} {Q : Exit → Act → World → Prop}
    (hg : o.guard = none) (s x : Operand) (t : TypeId) (ho : o.op = .call { callee := .builtin .append, args := #[s, x], argTypes := #[t, t] })
    (B : Nat) (hB : B ≤ w.heap.size) (e : TypeId) (z : Value) (bytes : Nat) (ht : P.underlying t = some (.slice e)) (hinfo : (P.info? e).map (fun i => (i.zero, i.size, i.bytes)) = some (some z, 1, bytes))
    (hzs : z.cells.size = 1) (hby : bytes ≤ 4096) (v : Value) (n : Nat) (xs : List Value) (hs : a.eval s = v) (hown : w.ownsRow B e 1 v n xs)
    (u : Value) (news : List Value) (hx : a.eval x = u) (hnews : RowAt0 w u news) (h1 : ∀ y ∈ news, y.oneCell' = true)
    (hn : n + news.length ≤ 4294967296)
    (hK : ∀ v' w', w'.ownsRow B e 1 v' (n + news.length) (xs ++ news) → w.grownBy w' v.ownBlock → wpList P ops Q rest (a.put o.dst v') w') :
    wpList P ops Q (o :: rest) a w := by
  obtain ⟨i, hi, hz, hi1, hi2⟩ := info_parts hinfo
  rcases hnews with ⟨rfl, rfl⟩ | ⟨b, off, cap, rfl, _, _, hc⟩
  · refine wpList_append_own_none hg s x t ho B e i 1 ht hi v n xs hs hown hx (hK v w (by simpa using hown) (World.grownBy.refl w _))
  · refine wpList_append_own w hg s x t ho B e i z 1 bytes ht hi hz hi1 hi2 hzs (by decide) v n xs hs hown ⟨b, off, none⟩ news.length cap news hx (by omega) (fun j y hj => ?_) h1 (by unfold maxLen; omega) ?_ hB (fun v' w' hown' hgrow _ => hK v' w' hown' hgrow)
    · obtain ⟨hj1, hj2⟩ := List.getElem?_eq_some_iff.1 hj
      rw [← hj2, show ((⟨b, off, none⟩ : Addr).add j) = ⟨b, off + j, none⟩ from by simp [Addr.add]]
      exact hc j hj1
    · have : (n + news.length) * bytes ≤ 4294967296 * 4096 := Nat.mul_le_mul hn hby
      omega
/-- An empty slice of the call's own. -/
theorem own_fresh (w : World) (e : TypeId) (B : Nat) (hB : B ≤ w.heap.size) : (w.alloc (.cells #[] e)).ownsRow B e 1 (.slice (some ⟨w.heap.size, 0, none⟩) 0 0) 0 [] :=
  ⟨rfl, .inr ⟨w.heap.size, 0, #[], rfl, hB, World.alloc_heap_new _ _, Nat.le_refl _, Nat.zero_le _, rfl, rfl⟩⟩
end Go.Proofs.YtjnaikojoemkaaaDoor
