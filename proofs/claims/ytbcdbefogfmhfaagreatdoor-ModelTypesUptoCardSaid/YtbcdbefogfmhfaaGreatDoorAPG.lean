/-
  append of any slice, an empty one that points anywhere, too, onto a row of the call's own.
-/
import Derived.Test.YtbcdbefogfmhfaaGreatDoorEXC
namespace Go.Proofs.YtbcdbefogfmhfaaGreatDoor
open Go.RowKit

theorem run_append_empty {P : Program} {w : World} (base : Nat) (t ty e : TypeId) (i : TypeInfo) (size : Nat) (ht : P.underlying t = some (.slice e)) (hi : P.info? e = some i)
    (v : Value) (n : Nat) (xs : List Value) (hown : w.ownsRow base e size v n xs) (c : Nat) :
    (Builtin.append_ #[t, t] ty #[v, .slice none 0 c]).run P w = .ok v w := by
  rcases hown.2 with ⟨rfl, rfl⟩ | ⟨g, cap, cur, rfl, _, _, hnc, _⟩
  · simp [Builtin.append_, run_underlying ht, sizeOf, typeInfo, hi, Builtin.lenOf, Builtin.firstCells]
  · simp [Builtin.append_, run_underlying ht, sizeOf, typeInfo, hi, Builtin.lenOf, Builtin.firstCells, hnc, storeCells]
/-- Where a slice's cells lie. -/
def NewsAt (W : World) (ao : Option Addr) (news : List Value) : Prop := ∀ j u, news[j]? = some u → ∃ b off, ao = some ⟨b, off, none⟩ ∧ W.cell? ⟨b, off + j, none⟩ = some u
theorem NewsAt.bel {W W' : World} {ao : Option Addr} {news : List Value} (h : NewsAt W ao news) (hb : Bel W W') : NewsAt W' ao news := fun j u hj => by
  obtain ⟨b, off, h1, h2⟩ := h j u hj
  exact ⟨b, off, h1, hb.keep h2⟩
theorem news_names {W : World} {ao : Option Addr} {l : List ByteArray} (h : NamesAt W ao l) : NewsAt W ao (strsV l) := fun j u hj => by
  unfold strsV at hj
  rw [List.getElem?_map, Option.map_eq_some_iff] at hj
  obtain ⟨x, hx, rfl⟩ := hj
  exact h j x hx
theorem wp_appendG {P : Program} {o : Oper} {a : Act} {w : World} {K : Act → World → Prop} {Q : Exit → Act → World → Prop} (s x : Operand) (t : TypeId)
    (ho : o.op = .call { callee := .builtin .append, args := #[s, x], argTypes := #[t, t] })
    (B : Nat) (hB : B ≤ w.heap.size) (e : TypeId) (z : Value) (size bytes : Nat) (ht : P.underlying t = some (.slice e)) (hinfo : (P.info? e).map (fun i => (i.zero, i.size, i.bytes)) = some (some z, size, bytes))
    (hzs : z.cells.size = size) (hsz : 0 < size) (hby : bytes ≤ 4096) (v : Value) (n : Nat) (xs : List Value) (hs : a.eval s = v) (hown : w.ownsRow B e size v n xs)
    (ao : Option Addr) (m c : Nat) (news : List Value) (hx : a.eval x = .slice ao m c) (hl : news.length = m * size) (hnews : NewsAt w ao news) (h1 : ∀ y ∈ news, y.oneCell' = true) (hn : n + m ≤ 4294967296)
    (hK : ∀ v' w', w'.ownsRow B e size v' (n + m) (xs ++ news) → w.grownBy w' v.ownBlock → K (a.put o.dst v') w') :
    o.wp P a w K Q := by
  obtain ⟨i, hi, hz, hi1, hi2⟩ := info_parts hinfo
  cases ao with
  | none =>
    have hm : m = 0 := by
      cases m with
      | zero => rfl
      | succ m =>
        exfalso
        obtain ⟨b, off, h, _⟩ := hnews 0 _ (List.getElem?_eq_getElem (by rw [hl]; exact Nat.mul_pos (Nat.succ_pos m) hsz))
        cases h
    subst hm
    have hn0 : news = [] := List.eq_nil_of_length_eq_zero (by simpa using hl)
    subst hn0
    have hrun := run_append_empty (P := P) (w := w) B t o.type e i size ht hi v n xs hown c
    unfold Oper.wp execOp
    simp only [ho, resolve, invoke, builtin, Sem.run_bind, Sem.run_pure, Result.andThen_ok, List.map_toArray, List.map_cons, List.map_nil, hs, hx, hrun]
    exact hK v w (by simpa using hown) (World.grownBy.refl w _)
  | some ad =>
    refine wp_append_own w s x t ho B e i z size bytes ht hi hz hi1 hi2 hzs hsz v n xs hs hown ad m c news hx hl (fun j y hj => ?_) h1 (by unfold maxLen; omega) ?_ hB (fun v' w' hown' hgrow _ => hK v' w' hown' hgrow)
    · obtain ⟨b, off, h, hc⟩ := hnews j y hj
      cases h
      rw [show ((⟨b, off, none⟩ : Addr).add j) = ⟨b, off + j, none⟩ from by simp [Addr.add]]
      exact hc
    · have : (n + m) * bytes ≤ 4294967296 * 4096 := Nat.mul_le_mul hn hby
      omega
theorem wpL_appendG2 {P : Program} {ops : Array Oper} {rest : List Oper} {o : Oper} {a : Act} {w : World} {Q : Exit → Act → World → Prop} (hg : o.guard = none) (s x : Operand) (t : TypeId)
    (ho : o.op = .call { callee := .builtin .append, args := #[s, x], argTypes := #[t, t] })
    (B : Nat) (hB : B ≤ w.heap.size) (e : TypeId) (z : Value) (size bytes : Nat) (ht : P.underlying t = some (.slice e)) (hinfo : (P.info? e).map (fun i => (i.zero, i.size, i.bytes)) = some (some z, size, bytes))
    (hzs : z.cells.size = size) (hsz : 0 < size) (hby : bytes ≤ 4096) (v : Value) (n : Nat) (xs : List Value) (hs : a.eval s = v) (hown : w.ownsRow B e size v n xs)
    (ao : Option Addr) (m c : Nat) (news : List Value) (hx : a.eval x = .slice ao m c) (hl : news.length = m * size) (hnews : NewsAt w ao news) (h1 : ∀ y ∈ news, y.oneCell' = true) (hn : n + m ≤ 4294967296)
    (hK : ∀ v' w', w'.ownsRow B e size v' (n + m) (xs ++ news) → w.grownBy w' v.ownBlock → wpList P ops Q rest (a.put o.dst v') w') :
    wpList P ops Q (o :: rest) a w :=
  wpList_plain hg fun _ hKK => wp_appendG s x t ho B hB e z size bytes ht hinfo hzs hsz hby v n xs hs hown ao m c news hx hl hnews h1 hn fun v' w' h2 h3 => hKK _ _ (hK v' w' h2 h3)
/-- Where a row's things lie. -/
theorem own_wh {W : World} {B e m n : Nat} {v : Value} {xs : List Value} (h : W.ownsRow B e m v n xs) : ∃ a c, v = .slice a n c ∧ n ≤ c ∧ ∀ j u, xs[j]? = some u → ∃ g, a = some ⟨g, 0, none⟩ ∧ W.cell? ⟨g, j, none⟩ = some u := by
  obtain ⟨hl, ⟨rfl, rfl⟩ | ⟨g, cap, cur, rfl, hg, hh, hc, h3⟩⟩ := h
  · refine ⟨none, 0, rfl, Nat.le_refl _, fun j u hu => ?_⟩
    have hx : xs = [] := List.eq_nil_of_length_eq_zero (by simpa using hl)
    rw [hx] at hu; cases hu
  · have ho : W.ownsRow B e m (.slice (some ⟨g, 0, none⟩) n cap) n xs := ⟨hl, .inr ⟨g, cap, cur, rfl, hg, hh, hc, h3⟩⟩
    refine ⟨some ⟨g, 0, none⟩, cap, rfl, hc, fun j u hu => ⟨g, rfl, ?_⟩⟩
    have := ho.cells (g := g) rfl j u hu
    rwa [show ((⟨g, 0, none⟩ : Addr).add j) = ⟨g, j, none⟩ from by simp [Addr.add]; omega] at this
theorem flat_len4 {α : Type} (f : α → List Value) (hm : ∀ x, (f x).length = 4) : ∀ l : List α, (l.flatMap f).length = l.length * 4
  | [] => rfl
  | x :: r => by rw [List.flatMap_cons, List.length_append, hm, flat_len4 f hm r, List.length_cons]; omega
theorem flat_get4 {α : Type} (f : α → List Value) (hm : ∀ x, (f x).length = 4) : ∀ (l : List α) (i : Nat) (x : α) (c : Nat), l[i]? = some x → c < 4 → (l.flatMap f)[i * 4 + c]? = (f x)[c]?
  | [], _, _, _, h, _ => by cases h
  | y :: r, 0, x, c, h, hc => by
    cases h
    rw [List.flatMap_cons, Nat.zero_mul, Nat.zero_add, List.getElem?_append_left (by rw [hm]; exact hc)]
  | y :: r, i + 1, x, c, h, hc => by
    have := flat_get4 f hm r i x c (show r[i]? = some x from h) hc
    rw [List.flatMap_cons, List.getElem?_append_right (by rw [hm]; omega), hm, show (i + 1) * 4 + c - 4 = i * 4 + c from by omega]
    exact this
/-- Cells that hold expressions. -/
def PRow (u : World) (xs : List Value) (L : List Ex) : Prop := xs.length = L.length * 4 ∧ ∀ (i : Nat) (x : Ex), L[i]? = some x → ∃ vn vl, xs[i * 4]? = some (.int .i64 x.k) ∧ xs[i * 4 + 1]? = some (.string x.s) ∧ xs[i * 4 + 2]? = some vn ∧ xs[i * 4 + 3]? = some vl ∧ ExAt u x vn vl
theorem PRow.nil (u : World) : PRow u [] [] := ⟨rfl, fun i x h => by cases h⟩
theorem PRow.app {u : World} {xs ys : List Value} {L M : List Ex} (h : PRow u xs L) (g : PRow u ys M) : PRow u (xs ++ ys) (L ++ M) := by
  refine ⟨by rw [List.length_append, List.length_append, h.1, g.1]; omega, fun i x hi => ?_⟩
  by_cases hl : i < L.length
  · rw [List.getElem?_append_left hl] at hi
    obtain ⟨vn, vl, h0, h1, h2, h3, h4⟩ := h.2 i x hi
    have hx := h.1
    exact ⟨vn, vl, by rw [List.getElem?_append_left (by omega)]; exact h0, by rw [List.getElem?_append_left (by omega)]; exact h1, by rw [List.getElem?_append_left (by omega)]; exact h2, by rw [List.getElem?_append_left (by omega)]; exact h3, h4⟩
  · rw [List.getElem?_append_right (by omega)] at hi
    obtain ⟨vn, vl, h0, h1, h2, h3, h4⟩ := g.2 _ x hi
    have hx := h.1
    have e : ∀ c, i * 4 + c - xs.length = (i - L.length) * 4 + c := fun c => by rw [hx]; omega
    have e0 := e 0
    rw [Nat.add_zero, Nat.add_zero] at e0
    exact ⟨vn, vl, by rw [List.getElem?_append_right (by omega), e0]; exact h0, by rw [List.getElem?_append_right (by omega), e]; exact h1, by rw [List.getElem?_append_right (by omega), e]; exact h2, by rw [List.getElem?_append_right (by omega), e]; exact h3, h4⟩
theorem prow_of {u : World} {a : Option Addr} {L : List Ex} (h : PartsAt u a L) : ∃ ys, PRow u ys L ∧ NewsAt u a ys ∧ ∀ y ∈ ys, y.oneCell' = true := by
  have hex : ∀ i : Nat, ∃ cs : List Value, cs.length = 4 ∧ (∀ y ∈ cs, y.oneCell' = true) ∧ ∀ x, L[i]? = some x → ∃ b off vn vl, a = some ⟨b, off, none⟩ ∧ cs = [.int .i64 x.k, .string x.s, vn, vl] ∧ ExAt u x vn vl ∧ ∀ c v, cs[c]? = some v → u.cell? ⟨b, off + i * 4 + c, none⟩ = some v := by
    intro i
    cases hx : L[i]? with
    | none => exact ⟨[.int .i64 0, .int .i64 0, .int .i64 0, .int .i64 0], rfl, by simp [Value.oneCell'], fun x hx' => by cases hx'⟩
    | some x =>
      obtain ⟨b, off, na, nn, nc, la, m, lc, rfl, g0, g1, g2, g3, hxa⟩ := h i x hx
      refine ⟨[.int .i64 x.k, .string x.s, .slice na nn nc, .slice la m lc], rfl, by simp [Value.oneCell'], fun y hy => ?_⟩
      cases hy
      refine ⟨b, off, _, _, rfl, rfl, hxa, fun c v hv => ?_⟩
      match c, hv with
      | 0, hv => cases hv; exact g0
      | 1, hv => cases hv; exact g1
      | 2, hv => cases hv; exact g2
      | 3, hv => cases hv; exact g3
      | c + 4, hv => cases hv
  obtain ⟨f, hf⟩ := Classical.axiomOfChoice hex
  have hr : ∀ i x, L[i]? = some x → (List.range L.length)[i]? = some i := fun i x hi => by rw [List.getElem?_range (List.getElem?_eq_some_iff.1 hi).1]
  refine ⟨(List.range L.length).flatMap f, ⟨by rw [flat_len4 f (fun i => (hf i).1), List.length_range], fun i x hi => ?_⟩, fun j v hj => ?_, fun y hy => ?_⟩
  · obtain ⟨b, off, vn, vl, _, hcs, hxa, _⟩ := (hf i).2.2 x hi
    have hg := fun c hc => flat_get4 f (fun i => (hf i).1) _ i i c (hr i x hi) hc
    have g0 := hg 0 (by omega)
    rw [Nat.add_zero] at g0
    exact ⟨vn, vl, by rw [g0, hcs]; rfl, by rw [hg 1 (by omega), hcs]; rfl, by rw [hg 2 (by omega), hcs]; rfl, by rw [hg 3 (by omega), hcs]; rfl, hxa⟩
  · have hlt := (List.getElem?_eq_some_iff.1 hj).1
    rw [flat_len4 f (fun i => (hf i).1), List.length_range] at hlt
    have hi : j / 4 < L.length := by omega
    obtain ⟨x, hx⟩ : ∃ x, L[j / 4]? = some x := ⟨_, List.getElem?_eq_getElem hi⟩
    obtain ⟨b, off, vn, vl, ha, _, _, hc⟩ := (hf (j / 4)).2.2 x hx
    have hg := flat_get4 f (fun i => (hf i).1) _ (j / 4) (j / 4) (j % 4) (hr _ x hx) (by omega)
    rw [show j / 4 * 4 + j % 4 = j from by omega] at hg
    rw [hg] at hj
    have := hc _ v hj
    rw [show off + j / 4 * 4 + j % 4 = off + j from by omega] at this
    exact ⟨b, off, ha, this⟩
  · obtain ⟨i, _, hy⟩ := List.mem_flatMap.1 hy
    exact (hf i).2.1 y hy
theorem exsV_prow {u W : World} {B n : Nat} {v : Value} {xs : List Value} {L : List Ex} (h : W.ownsRow B 38 4 v n xs) (hp : PRow u xs L) (hb : Bel u W) : (∃ a c, v = .slice a L.length c ∧ L.length ≤ c ∧ PartsAt W a L) ∧ n = L.length := by
  have hn : n = L.length := by have h1 := h.1; have h2 := hp.1; omega
  subst hn
  obtain ⟨a, c, rfl, hc, hg⟩ := own_wh h
  refine ⟨⟨a, c, rfl, hc, fun j x hx => ?_⟩, rfl⟩
  obtain ⟨vn, vl, h0, h1, h2, h3, hxa⟩ := hp.2 j x hx
  obtain ⟨na, la, nn, nc, m, lc, rfl, rfl, _⟩ := hxa.opened
  obtain ⟨g, rfl, k0⟩ := hg _ _ h0
  obtain ⟨g', e', k1⟩ := hg _ _ h1
  cases e'
  obtain ⟨g', e', k2⟩ := hg _ _ h2
  cases e'
  obtain ⟨g', e', k3⟩ := hg _ _ h3
  cases e'
  exact ⟨g, 0, na, nn, nc, la, m, lc, rfl, by rw [Nat.zero_add]; exact k0, by rw [Nat.zero_add]; exact k1, by rw [Nat.zero_add]; exact k2, by rw [Nat.zero_add]; exact k3, ExAt.bel hb x hxa⟩
theorem info_exG : (Tryz.prog.info? 38).map (fun i => (i.zero, i.size, i.bytes)) = some (some (.agg #[.int .i64 0, .string ⟨#[]⟩, .slice none 0 0, .slice none 0 0]), 4, 72) := by kernel_rfl
end Go.Proofs.YtbcdbefogfmhfaaGreatDoor
