/-
  append of a slice onto a slice that the call owns, at a guarded operation, too.
-/
import Derived.Test.YtfmhpeinikidfaaDoorO
namespace Go.Proofs.YtfmhpeinikidfaaDoor
open Go.RowKit

theorem wpL_step {P : Program} {ops : Array Oper} {rest : List Oper} {o : Oper} {a : Act} {w : World} {Q : Exit → Act → World → Prop}
    (hw : Region.wanted o (yielded ops a.tmps) = true) (h : ∀ K : Act → World → Prop, (∀ a w, wpList P ops Q rest a w → K a w) → o.wp P a w K Q) : wpList P ops Q (o :: rest) a w :=
  wpList_step fun K hK => by rw [if_pos hw]; exact h K hK

theorem wpL_appendG {P : Program} {ops : Array Oper} {rest : List Oper} {o : Oper} {a : Act} {w : World} {Q : Exit → Act → World → Prop}
    (hw : Region.wanted o (yielded ops a.tmps) = true) (s x : Operand) (t : TypeId) (ho : o.op = .call { callee := .builtin .append, args := #[s, x], argTypes := #[t, t] })
    (W1 : World) (e : TypeId) (z : Value) (bytes : Nat) (ht : P.underlying t = some (.slice e)) (hinfo : (P.info? e).map (fun i => (i.zero, i.size, i.bytes)) = some (some z, 1, bytes))
    (hzs : z.cells.size = 1) (hby : bytes ≤ 4096) (v : Value) (n : Nat) (xs : List Value) (hs : a.eval s = v) (hown : w.ownsRow W1.heap.size e 1 v n xs)
    (u : Value) (news : List Value) (hx : a.eval x = u) (hnews : RowAt w u news) (h1 : ∀ y ∈ news, y.oneCell' = true)
    (hn : n + news.length ≤ 4294967296) (hb : Bel W1 w)
    (hK : ∀ v' w', w'.ownsRow W1.heap.size e 1 v' (n + news.length) (xs ++ news) → Bel W1 w' → w.heap.size ≤ w'.heap.size → wpList P ops Q rest (a.put o.dst v') w') :
    wpList P ops Q (o :: rest) a w := by
  obtain ⟨i, hi, hz, hi1, hi2⟩ := info_parts hinfo
  obtain ⟨b, off, cap, rfl, _, _, hc⟩ := hnews
  refine wpL_step hw fun K hK' => ?_
  refine wp_append_own w s x t ho W1.heap.size e i z 1 bytes ht hi hz hi1 hi2 hzs (by decide) v n xs hs hown ⟨b, off, none⟩ news.length cap news hx (by omega) (fun j y hj => ?_) h1 (by unfold maxLen; omega) ?_ hb.size ?_
  · obtain ⟨hj1, hj2⟩ := List.getElem?_eq_some_iff.1 hj
    rw [← hj2, show ((⟨b, off, none⟩ : Addr).add j) = ⟨b, off + j, none⟩ from by simp [Addr.add]]
    exact hc j hj1
  · have : (n + news.length) * bytes ≤ 4294967296 * 4096 := Nat.mul_le_mul hn hby
    omega
  · intro v' w' hown' hgrow _
    refine hK' _ _ (hK v' w' hown' (Below.grown hb hgrow hb.size fun k hk => ?_) hgrow.size)
    exact (hown.lt k hk).1
theorem strs_one (l : List ByteArray) : ∀ y ∈ strsV l, y.oneCell' = true := by
  intro y hy
  obtain ⟨x, _, rfl⟩ := List.mem_map.1 hy
  rfl
end Go.Proofs.YtfmhpeinikidfaaDoor
