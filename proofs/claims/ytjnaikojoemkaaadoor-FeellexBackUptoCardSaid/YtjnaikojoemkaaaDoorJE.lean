/-
  feellex: the texts of tokens with blanks between (plain).
-/
import Derived.Test.YtjnaikojoemkaaaDoorMJ
import Derived.Test.YtjnaikojoemkaaaDoorMI
namespace Go.Proofs.YtjnaikojoemkaaaDoor
open Go.RowKit

/-- append of one struct onto a row of the call's own, at a guarded operation. -/
theorem wpL_append1G {P : Program} {ops : Array Oper} {rest : List Oper} {o : Oper} {a : Act} {w : World} {Q : Exit → Act → World → Prop}
    (hw : Region.wanted o (yielded ops a.tmps) = true) (s x : Operand) (t : TypeId) (ho : o.op = .call { callee := .builtin .append, args := #[s, x], argTypes := #[t, t] })
    (W1 : World) (e : TypeId) (z : Value) (size bytes : Nat) (ht : P.underlying t = some (.slice e)) (hinfo : (P.info? e).map (fun i => (i.zero, i.size, i.bytes)) = some (some z, size, bytes))
    (hzs : z.cells.size = size) (hsz : 0 < size) (hby : bytes ≤ 4096) (v : Value) (n : Nat) (xs : List Value) (hs : a.eval s = v) (hown : w.ownsRow W1.heap.size e size v n xs)
    (ad : Addr) (c : Nat) (news : List Value) (hx : a.eval x = .slice (some ad) 1 c) (hl : news.length = size) (hnews : ∀ j u, news[j]? = some u → w.cell? (ad.add j) = some u) (h1 : ∀ u ∈ news, u.oneCell' = true)
    (hn : n ≤ 4294967296) (hb : Bel W1 w)
    (hK : ∀ g cap w', w'.ownsRow W1.heap.size e size (.slice (some ⟨g, 0, none⟩) (n + 1) cap) (n + 1) (xs ++ news) → Bel W1 w' → w.heap.size ≤ w'.heap.size → (∀ k, k < w.heap.size → some k ≠ v.ownBlock → w'.heap[k]? = w.heap[k]?) → wpList P ops Q rest (a.put o.dst (.slice (some ⟨g, 0, none⟩) (n + 1) cap)) w') :
    wpList P ops Q (o :: rest) a w := by
  obtain ⟨i, hi, hz, hi1, hi2⟩ := info_parts hinfo
  refine wpList_step fun K hK' => ?_
  rw [if_pos hw]
  refine wp_append_own w s x t ho W1.heap.size e i z size bytes ht hi hz hi1 hi2 hzs hsz v n xs hs hown ad 1 c news hx (by omega) hnews h1 (by unfold maxLen; omega) ?_ hb.size ?_
  · have : (n + 1) * bytes ≤ 4294967297 * 4096 := Nat.mul_le_mul (by omega) hby
    omega
  · intro v' w' hown' hgrow _
    obtain ⟨g, cap, rfl⟩ := ownsRow_succ hown'
    refine hK' _ _ (hK g cap w' hown' (Below.grown hb hgrow hb.size fun k hk => ?_) hgrow.size hgrow.block)
    exact (hown.lt k hk).1
theorem rowL_block {W W' : World} {g off n cap : Nat} {l : List Lx} (h : RowL W (.slice (some ⟨g, off, none⟩) n cap) l) (hs : W.heap.size ≤ W'.heap.size) (hb : W'.heap[g]? = W.heap[g]?) : RowL W' (.slice (some ⟨g, off, none⟩) n cap) l := by
  rcases h with ⟨h, _⟩ | ⟨b, o, c, h1, h2, h3, h4⟩
  · cases h
  · injection h1 with e1 e2 e3
    injection e1 with e1
    injection e1 with e1 e4
    subst e1 e2 e3 e4
    have hc : ∀ j, W'.cell? ⟨g, j, none⟩ = W.cell? ⟨g, j, none⟩ := fun j => World.cell?_of_block (a := ⟨g, j, none⟩) hb
    exact .inr ⟨g, off, cap, rfl, h2, by omega, fun j x hx => by rw [hc, hc, hc]; exact h4 j x hx⟩


theorem toks_ge (s : ByteArray) (pos : Nat) (l : List Tok) (h : Toks s pos l) : (∀ x ∈ l, pos ≤ x.2.1 ∧ x.2.1 < s.size) ∧ l.Pairwise (fun a b => a.2.1 < b.2.1) := by
  induction h with
  | done => exact ⟨fun x hx => (by cases hx), List.Pairwise.nil⟩
  | blank pos l _ _ _ ih => exact ⟨fun x hx => ⟨by have := (ih.1 x hx).1; omega, (ih.1 x hx).2⟩, ih.2⟩
  | tok pos l hp _ h0 _ ih =>
    have hle := (one_le s pos hp).2 h0
    refine ⟨fun x hx => ?_, List.Pairwise.cons (fun x hx => ?_) ih.2⟩
    · rcases List.mem_cons.1 hx with rfl | hx
      · exact ⟨Nat.le_refl _, hp⟩
      · exact ⟨by have := (ih.1 x hx).1; omega, (ih.1 x hx).2⟩
    · have := (ih.1 x hx).1
      show pos < x.2.1
      omega
/-- What has been gathered: the text, its tokens as they were given, and as they lie in it. -/
def Gath (S : ByteArray) (O : List Lx) (T : List Tok) : Prop :=
  OKat S 0 ∧ Toks S 0 T ∧ T.map (fun x => (x.1, x.2.2)) = O.map (fun x => (x.1, x.2.2)) ∧ (S.size = 0 → O = [] ∧ T = [])
theorem gath_nil : Gath ⟨#[]⟩ [] [] := ⟨ok_end _ _ (Nat.le_refl _), .done _ (Nat.le_refl _), rfl, fun _ => ⟨rfl, rfl⟩⟩
theorem gath_first (k p : Int) (v x S : ByteArray) (O : List Lx) (T : List Tok) (h : Gath S O T) (hs : S.size = 0) (hx : textOf k v = (x, 0)) (h5 : k ≠ 5) : ∃ T', Gath (S ++ x) (O ++ [(k, p, v)]) T' := by
  obtain ⟨rfl, rfl⟩ := h.2.2.2 hs
  rw [size_zero S hs]
  have e : (⟨#[]⟩ : ByteArray) ++ x = x := ByteArray.empty_append
  rw [e]
  obtain ⟨h1, h2, h3⟩ := text_toks k v x hx h5
  exact ⟨[(k, 0, v)], h2, h1, rfl, fun h => by omega⟩
theorem gath_next (k p : Int) (v x S : ByteArray) (O : List Lx) (T : List Tok) (h : Gath S O T) (hx : textOf k v = (x, 0)) (h5 : k ≠ 5) : ∃ T', Gath (S ++ ⟨#[32]⟩ ++ x) (O ++ [(k, p, v)]) T' := by
  obtain ⟨h1, h2, h3⟩ := text_toks k v x hx h5
  obtain ⟨h4, h5'⟩ := toks_join S x T [(k, 0, v)] h.1 h2 h.2.1 h1
  rw [ByteArray.append_assoc]
  refine ⟨_, h4, h5', ?_, fun h => ?_⟩
  · rw [List.map_append, List.map_append, h.2.2.1]
    rfl
  · rw [ByteArray.size_append, ByteArray.size_append] at h
    have : (⟨#[32]⟩ : ByteArray).size = 1 := rfl
    omega
theorem same_map : ∀ (a b : List Lx), a.map (fun x => (x.1, x.2.2)) = b.map (fun x => (x.1, x.2.2)) → sameL false a b = true
  | [], [], _ => rfl
  | [], y :: b, h => by cases h
  | x :: a, [], h => by cases h
  | x :: a, y :: b, h => by
    simp only [List.map_cons, List.cons.injEq, Prod.mk.injEq] at h
    rw [sameL, same_map a b h.2, h.1.1, h.1.2]
    simp
theorem gath_same (S : ByteArray) (O : List Lx) (T : List Tok) (h : Gath S O T) : sameL false ((T ++ [((5 : Int), S.size, (⟨#[]⟩ : ByteArray))]).map toLx) (O ++ [(5, 0, ⟨#[]⟩)]) = true := by
  refine same_map _ _ ?_
  rw [List.map_append, List.map_append, List.map_append, List.map_map, ← h.2.2.1]
  rfl
theorem gath_lex (S : ByteArray) (O : List Lx) (T : List Tok) (h : Gath S O T) : lexS S = (T ++ [(5, S.size, ⟨#[]⟩)], S.size, 0) := toks_lexS S h.1 T h.2.1
theorem gath_len (S : ByteArray) (O : List Lx) (T : List Tok) (h : Gath S O T) : T.length = O.length := by
  have := congrArg List.length h.2.2.1
  simpa using this
/-- The place of the token before the j-th. -/
def lastP (M : List Tok) (j : Nat) : Int := if j = 0 then -1 else match M[j - 1]? with | some x => (x.2.1 : Int) | none => -1
theorem lastP_next (M : List Tok) (j : Nat) (x : Tok) (h : M[j]? = some x) : lastP M (j + 1) = (x.2.1 : Int) := by
  unfold lastP
  rw [if_neg (by omega), Nat.add_sub_cancel, h]
theorem lastP_lt (S : ByteArray) (T : List Tok) (f x : Tok) (h : Toks S 0 T) (j : Nat) (hj : j < T.length) (hx : (T ++ [f])[j]? = some x) : lastP (T ++ [f]) j < (x.2.1 : Int) := by
  unfold lastP
  by_cases h0 : j = 0
  · rw [if_pos h0]; omega
  · rw [if_neg h0]
    have hp := (toks_ge S 0 T h).2
    rw [List.getElem?_append_left hj] at hx
    have h1 : (T ++ [f])[j - 1]? = some (T[j - 1]'(by omega)) := by
      rw [List.getElem?_append_left (by omega)]
      exact List.getElem?_eq_getElem _
    rw [h1]
    obtain ⟨_, rfl⟩ := List.getElem?_eq_some_iff.1 hx
    have h2 := List.pairwise_iff_getElem.1 hp (j - 1) j (by omega) hj (by omega)
    simp only
    omega
theorem lastP_all (S : ByteArray) (T : List Tok) (k : Int) (v : ByteArray) (h : Toks S 0 T) (j : Nat) (x : Tok) (hx : (T ++ [(k, S.size, v)])[j]? = some x) : lastP (T ++ [(k, S.size, v)]) j < (x.2.1 : Int) ∧ (T.length = j → x.2.1 = S.size) ∧ x.2.1 ≤ S.size := by
  by_cases hj : j < T.length
  · refine ⟨lastP_lt S T _ x h j hj hx, fun h => by omega, ?_⟩
    rw [List.getElem?_append_left hj] at hx
    exact Nat.le_of_lt ((toks_ge S 0 T h).1 x (List.mem_of_getElem? hx)).2
  · have hjl : j = T.length := by
      have := (List.getElem?_eq_some_iff.1 hx).1
      simp at this
      omega
    subst hjl
    rw [List.getElem?_append_right (Nat.le_refl _), Nat.sub_self] at hx
    simp at hx
    subst hx
    refine ⟨?_, fun _ => rfl, Nat.le_refl _⟩
    unfold lastP
    by_cases h0 : T.length = 0
    · rw [if_pos h0]; simp only; omega
    · rw [if_neg h0]
      have h1 : (T ++ [(k, S.size, v)])[T.length - 1]? = some (T[T.length - 1]'(by omega)) := by
        rw [List.getElem?_append_left (by omega)]
        exact List.getElem?_eq_getElem _
      rw [h1]
      have h2 := ((toks_ge S 0 T h).1 _ (List.getElem_mem (by omega : T.length - 1 < T.length))).2
      simp only
      omega
end Go.Proofs.YtjnaikojoemkaaaDoor
