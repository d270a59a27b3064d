/-
  append of any slice onto a row of the call's own; slices.Clone of attributes and nodes.
-/
import Derived.Test.YtojeclfcgnamoaaDoorSTC
namespace Go.Proofs.YtojeclfcgnamoaaDoor
open Go.RowKit Go.Sort Go.Shelf

theorem run_append_empty {P : Program} {w : World} (base : Nat) (t ty e : TypeId) (i : TypeInfo) (size : Nat) (ht : P.underlying t = some (.slice e)) (hi : P.info? e = some i)
    (v : Value) (n : Nat) (xs : List Value) (hown : w.ownsRow base e size v n xs) (c : Nat) :
    (Builtin.append_ #[t, t] ty #[v, .slice none 0 c]).run P w = .ok v w := by
  rcases hown.2 with ⟨rfl, rfl⟩ | ⟨g, cap, cur, rfl, _, _, hnc, _⟩
  · simp [Builtin.append_, run_underlying ht, sizeOf, typeInfo, hi, Builtin.lenOf, Builtin.firstCells]
  · simp [Builtin.append_, run_underlying ht, sizeOf, typeInfo, hi, Builtin.lenOf, Builtin.firstCells, hnc, storeCells]
/-- Where a slice's cells lie. -/
def NewsAt (W : World) (ao : Option Addr) (news : List Value) : Prop := ∀ j u, news[j]? = some u → ∃ b off, ao = some ⟨b, off, none⟩ ∧ W.cell? ⟨b, off + j, none⟩ = some u
theorem NewsAt.bel {W W' : World} {ao : Option Addr} {news : List Value} (h : NewsAt W ao news) (hb : Bel W W') : NewsAt W' ao news := fun j u hj => by
  obtain ⟨b, off, h1, h2⟩ := h j u hj
  exact ⟨b, off, h1, hb.keep h2⟩
theorem wp_appendG {P : Program} {o : Oper} {a : Act} {w : World} {K : Act → World → Prop} {Q : Exit → Act → World → Prop} (s x : Operand) (t : TypeId)
    (ho : o.op = .call { callee := .builtin .append, args := #[s, x], argTypes := #[t, t] })
    (B : Nat) (hB : B ≤ w.heap.size) (e : TypeId) (z : Value) (size bytes : Nat) (ht : P.underlying t = some (.slice e)) (hinfo : (P.info? e).map (fun i => (i.zero, i.size, i.bytes)) = some (some z, size, bytes))
    (hzs : z.cells.size = size) (hsz : 0 < size) (hby : bytes ≤ 4096) (v : Value) (n : Nat) (xs : List Value) (hs : a.eval s = v) (hown : w.ownsRow B e size v n xs)
    (ao : Option Addr) (m c : Nat) (news : List Value) (hx : a.eval x = .slice ao m c) (hl : news.length = m * size) (hnews : NewsAt w ao news) (h1 : ∀ y ∈ news, y.oneCell' = true) (hn : n + m ≤ 4294967296)
    (hK : ∀ v' w', w'.ownsRow B e size v' (n + m) (xs ++ news) → w.grownBy w' v.ownBlock → K (a.put o.dst v') w') :
    o.wp P a w K Q := by
  obtain ⟨i, hi, hz, hi1, hi2⟩ := info_parts hinfo
  cases ao with
  | none =>
    have hm : m = 0 := by
      cases m with
      | zero => rfl
      | succ m =>
        exfalso
        obtain ⟨b, off, h, _⟩ := hnews 0 _ (List.getElem?_eq_getElem (by rw [hl]; exact Nat.mul_pos (Nat.succ_pos m) hsz))
        cases h
    subst hm
    have hn0 : news = [] := List.eq_nil_of_length_eq_zero (by simpa using hl)
    subst hn0
    have hrun := run_append_empty (P := P) (w := w) B t o.type e i size ht hi v n xs hown c
    unfold Oper.wp execOp
    simp only [ho, resolve, invoke, builtin, Sem.run_bind, Sem.run_pure, Result.andThen_ok, List.map_toArray, List.map_cons, List.map_nil, hs, hx, hrun]
    exact hK v w (by simpa using hown) (World.grownBy.refl w _)
  | some ad =>
    refine wp_append_own w s x t ho B e i z size bytes ht hi hz hi1 hi2 hzs hsz v n xs hs hown ad m c news hx hl (fun j y hj => ?_) h1 (by unfold maxLen; omega) ?_ hB (fun v' w' hown' hgrow _ => hK v' w' hown' hgrow)
    · obtain ⟨b, off, h, hc⟩ := hnews j y hj
      cases h
      rw [show ((⟨b, off, none⟩ : Addr).add j) = ⟨b, off + j, none⟩ from by simp [Addr.add]]
      exact hc
    · have : (n + m) * bytes ≤ 4294967296 * 4096 := Nat.mul_le_mul hn hby
      omega
theorem wpL_appendG2 {P : Program} {ops : Array Oper} {rest : List Oper} {o : Oper} {a : Act} {w : World} {Q : Exit → Act → World → Prop} (hg : o.guard = none) (s x : Operand) (t : TypeId)
    (ho : o.op = .call { callee := .builtin .append, args := #[s, x], argTypes := #[t, t] })
    (B : Nat) (hB : B ≤ w.heap.size) (e : TypeId) (z : Value) (size bytes : Nat) (ht : P.underlying t = some (.slice e)) (hinfo : (P.info? e).map (fun i => (i.zero, i.size, i.bytes)) = some (some z, size, bytes))
    (hzs : z.cells.size = size) (hsz : 0 < size) (hby : bytes ≤ 4096) (v : Value) (n : Nat) (xs : List Value) (hs : a.eval s = v) (hown : w.ownsRow B e size v n xs)
    (ao : Option Addr) (m c : Nat) (news : List Value) (hx : a.eval x = .slice ao m c) (hl : news.length = m * size) (hnews : NewsAt w ao news) (h1 : ∀ y ∈ news, y.oneCell' = true) (hn : n + m ≤ 4294967296)
    (hK : ∀ v' w', w'.ownsRow B e size v' (n + m) (xs ++ news) → w.grownBy w' v.ownBlock → wpList P ops Q rest (a.put o.dst v') w') :
    wpList P ops Q (o :: rest) a w :=
  wpList_plain hg fun _ hKK => wp_appendG s x t ho B hB e z size bytes ht hinfo hzs hsz hby v n xs hs hown ao m c news hx hl hnews h1 hn fun v' w' h2 h3 => hKK _ _ (hK v' w' h2 h3)
/-- Where a row's things lie. -/
theorem own_wh {W : World} {B e m n : Nat} {v : Value} {xs : List Value} (h : W.ownsRow B e m v n xs) : ∃ a c, v = .slice a n c ∧ n ≤ c ∧ ∀ j u, xs[j]? = some u → ∃ g, a = some ⟨g, 0, none⟩ ∧ W.cell? ⟨g, j, none⟩ = some u := by
  obtain ⟨hl, ⟨rfl, rfl⟩ | ⟨g, cap, cur, rfl, hg, hh, hc, h3⟩⟩ := h
  · refine ⟨none, 0, rfl, Nat.le_refl _, fun j u hu => ?_⟩
    have hx : xs = [] := List.eq_nil_of_length_eq_zero (by simpa using hl)
    rw [hx] at hu; cases hu
  · have ho : W.ownsRow B e m (.slice (some ⟨g, 0, none⟩) n cap) n xs := ⟨hl, .inr ⟨g, cap, cur, rfl, hg, hh, hc, h3⟩⟩
    refine ⟨some ⟨g, 0, none⟩, cap, rfl, hc, fun j u hu => ⟨g, rfl, ?_⟩⟩
    have := ho.cells (g := g) rfl j u hu
    rwa [show ((⟨g, 0, none⟩ : Addr).add j) = ⟨g, j, none⟩ from by simp [Addr.add]; omega] at this

theorem info_atr : (Tryd.prog.info? 63).map (fun i => (i.zero, i.size, i.bytes)) = some (some (.agg #[.string ⟨#[]⟩, .string ⟨#[]⟩, .string ⟨#[]⟩]), 3, 48) := by kernel_rfl
theorem info_nod : (Tryd.prog.info? 27).map (fun i => (i.zero, i.size, i.bytes)) = some (some (.agg #[.int .i64 0, .string ⟨#[]⟩, .string ⟨#[]⟩, .slice none 0 0, .slice none 0 0, .string ⟨#[]⟩]), 6, 104) := by kernel_rfl
set_option maxRecDepth 100000 in
set_option maxHeartbeats 8000000 in
theorem cloneA_c (ao : Option Addr) (n cap : Nat) (news : List Value) (w : World) (hl : news.length = n * 3) (hat : NewsAt w ao news) (h1 : ∀ y ∈ news, y.oneCell' = true) (hn : n ≤ 4294967296) :
    Calls Tryd.prog 30 #[.slice ao n cap] w fun e w' => ∃ v', e = .returned v' ∧ Bel w w' ∧ w'.ownsRow w.heap.size 63 3 v' n news := by
  have eqn : ∀ (w : World) (a : Option Addr) (n c n' c' : Nat), (binOp .eql 24 (.slice a n c) (.slice none n' c')).run Tryd.prog w = .ok (.bool a.isNone) w := fun w a n c n' c' => Lib.run_eql_slice_nil w _ _ a n c n' c' Tryd.underlying24
  have HAT := Lib.hid hat
  have HL := Lib.hid hl
  have H1 := Lib.hid h1
  clear hat hl h1
  cases ao with
  | none =>
    have hz : n = 0 := by
      cases hnews : news with
      | nil => have := HL.out; rw [hnews] at this; simp at this; omega
      | cons y r => obtain ⟨b, off, h, _⟩ := HAT.out 0 y (by rw [hnews]; rfl); cases h
    subst hz
    have hnil : news = [] := List.length_eq_zero_iff.1 (by have := HL.out; omega)
    subst hnil
    go_enter Tryd.func30, Tryd.ntmps30
    go_wp2_with fail
    go_ret
    exact ⟨_, rfl, Bel.refl _, rfl, .inl ⟨rfl, rfl⟩⟩
  | some ad =>
    have eq2 : ∀ (w : World) (n c n' c' : Nat), (binOp .eql 24 (.slice (some ad) n c) (.slice none n' c')).run Tryd.prog w = .ok (.bool false) w := fun w n c n' c' => eqn w (some ad) n c n' c'
    clear eqn
    go_enter Tryd.func30, Tryd.ntmps30
    go_wp2_with (at_builtin; refine wpL_appendG2 rfl _ _ 24 rfl w.heap.size (by simp only [World.size_alloc]; omega) 63 (.agg #[.string ⟨#[]⟩, .string ⟨#[]⟩, .string ⟨#[]⟩]) 3 48 Tryd.underlying24 info_atr rfl (by decide) (by decide) _ _ _ rfl (World.ownsRow_made w #[] 0 (Nat.le_refl _) (Nat.zero_le _) rfl) (some ad) n cap news rfl HL.out (HAT.out.bel ((Bel.refl _).to_alloc _)) H1.out (by omega) ?_; intro v' w1 hown hgrow)
    go_wp2_with fail
    go_ret
    exact ⟨v', rfl, ((Below.refl _ w).alloc (Nat.le_refl _) _).grown hgrow (by simp) (by intro k hk; simp [Act.eval, Value.ownBlock] at hk; omega), by simpa using hown⟩
set_option maxRecDepth 100000 in
set_option maxHeartbeats 8000000 in
theorem cloneN_c (ao : Option Addr) (n cap : Nat) (news : List Value) (w : World) (hl : news.length = n * 6) (hat : NewsAt w ao news) (h1 : ∀ y ∈ news, y.oneCell' = true) (hn : n ≤ 4294967296) :
    Calls Tryd.prog 35 #[.slice ao n cap] w fun e w' => ∃ v', e = .returned v' ∧ Bel w w' ∧ w'.ownsRow w.heap.size 27 6 v' n news := by
  have eqn : ∀ (w : World) (a : Option Addr) (n c n' c' : Nat), (binOp .eql 25 (.slice a n c) (.slice none n' c')).run Tryd.prog w = .ok (.bool a.isNone) w := fun w a n c n' c' => Lib.run_eql_slice_nil w _ _ a n c n' c' Tryd.underlying25
  have HAT := Lib.hid hat
  have HL := Lib.hid hl
  have H1 := Lib.hid h1
  clear hat hl h1
  cases ao with
  | none =>
    have hz : n = 0 := by
      cases hnews : news with
      | nil => have := HL.out; rw [hnews] at this; simp at this; omega
      | cons y r => obtain ⟨b, off, h, _⟩ := HAT.out 0 y (by rw [hnews]; rfl); cases h
    subst hz
    have hnil : news = [] := List.length_eq_zero_iff.1 (by have := HL.out; omega)
    subst hnil
    go_enter Tryd.func35, Tryd.ntmps35
    go_wp2_with fail
    go_ret
    exact ⟨_, rfl, Bel.refl _, rfl, .inl ⟨rfl, rfl⟩⟩
  | some ad =>
    have eq2 : ∀ (w : World) (n c n' c' : Nat), (binOp .eql 25 (.slice (some ad) n c) (.slice none n' c')).run Tryd.prog w = .ok (.bool false) w := fun w n c n' c' => eqn w (some ad) n c n' c'
    clear eqn
    go_enter Tryd.func35, Tryd.ntmps35
    go_wp2_with (at_builtin; refine wpL_appendG2 rfl _ _ 25 rfl w.heap.size (by simp only [World.size_alloc]; omega) 27 (.agg #[.int .i64 0, .string ⟨#[]⟩, .string ⟨#[]⟩, .slice none 0 0, .slice none 0 0, .string ⟨#[]⟩]) 6 104 Tryd.underlying25 info_nod rfl (by decide) (by decide) _ _ _ rfl (World.ownsRow_made w #[] 0 (Nat.le_refl _) (Nat.zero_le _) rfl) (some ad) n cap news rfl HL.out (HAT.out.bel ((Bel.refl _).to_alloc _)) H1.out (by omega) ?_; intro v' w1 hown hgrow)
    go_wp2_with fail
    go_ret
    exact ⟨v', rfl, ((Below.refl _ w).alloc (Nat.le_refl _) _).grown hgrow (by simp) (by intro k hk; simp [Act.eval, Value.ownBlock] at hk; omega), by simpa using hown⟩
end Go.Proofs.YtojeclfcgnamoaaDoor
