/-
  Rows of the call's own that are grown one by one, beside blocks that are written; how the law LogicTables' tables lie.
-/
import Derived.Test.YtchbhcjhoocjaaaGreatDoorLTP
import Derived.Test.YtchbhcjhoocjaaaGreatDoorRLD
namespace Go.Proofs.YtchbhcjhoocjaaaGreatDoor
open Go.RowKit

/-- All blocks of cells of some types are kept. -/
def KeepT (p : TypeId → Bool) (W W' : World) : Prop := W.heap.size ≤ W'.heap.size ∧ ∀ (k : Nat) (cs : Array Value) (t : TypeId) (fr : Nat × Nat), W.heap[k]? = some (Obj.cells cs t fr) → p t = true → W'.heap[k]? = W.heap[k]?
theorem KeepT.refl (p : TypeId → Bool) (W : World) : KeepT p W W := ⟨Nat.le_refl _, fun _ _ _ _ _ _ => rfl⟩
theorem KeepT.trans {p : TypeId → Bool} {A B C : World} (h : KeepT p A B) (g : KeepT p B C) : KeepT p A C :=
  ⟨Nat.le_trans h.1 g.1, fun k cs t fr hk hp => by have h1 := h.2 k cs t fr hk hp; exact (g.2 k cs t fr (h1.trans hk) hp).trans h1⟩
theorem KeepT.of_bel {p : TypeId → Bool} {W W' : World} (h : Bel W W') : KeepT p W W' := ⟨h.size, fun _ _ _ _ hk _ => h.block (Array.getElem?_eq_some_iff.1 hk).1⟩
theorem KeepT.set {p : TypeId → Bool} {W : World} {b t : Nat} {cs : List Value} (h : Blk W b t cs) (hp : p t = false) (j : Nat) (z : Value) : KeepT p W (W.setCell ⟨b, j, none⟩ z) :=
  ⟨by simp [World.setCell], fun k cs' t' fr hk hp' => Below.heap_setCell W ⟨b, j, none⟩ z k (fun e => by
    rw [show k = b from e] at hk
    rw [h] at hk
    injection hk with hk
    injection hk with _ ht _
    rw [← ht, hp] at hp'
    cases hp')⟩
theorem KeepT.grow {p : TypeId → Bool} {W W' : World} {B e m n : Nat} {v : Value} {xs : List Value} (h : W.ownsRow B e m v n xs) (hp : p e = false) (hg : W.grownBy W' v.ownBlock) : KeepT p W W' :=
  ⟨hg.size, fun k cs t fr hk hp' => hg.block k (Array.getElem?_eq_some_iff.1 hk).1 (own_ne h hk (fun e' => by rw [e', hp] at hp'; cases hp'))⟩
theorem KeepT.own {p : TypeId → Bool} {W W' : World} (h : KeepT p W W') {B e m n : Nat} {v : Value} {xs : List Value} (ho : W.ownsRow B e m v n xs) (hp : p e = true) : W'.ownsRow B e m v n xs := by
  obtain ⟨hl, h2 | ⟨g, cap, cur, rfl, hg, hh, h3⟩⟩ := ho
  · exact ⟨hl, .inl h2⟩
  · exact ⟨hl, .inr ⟨g, cap, cur, rfl, hg, (h.2 g _ _ _ hh hp).trans hh, h3⟩⟩
theorem own_base {W : World} {B e m n : Nat} {v : Value} {xs : List Value} (ho : W.ownsRow B e m v n xs) : W.ownsRow 0 e m v n xs := by
  obtain ⟨hl, h2 | ⟨g, cap, cur, rfl, hg, hh, h3⟩⟩ := ho
  · exact ⟨hl, .inl h2⟩
  · exact ⟨hl, .inr ⟨g, cap, cur, rfl, Nat.zero_le _, hh, h3⟩⟩
theorem Blk.grown {W W' : World} {b t : Nat} {cs : List Value} (h : Blk W b t cs) {B e m n : Nat} {v : Value} {xs : List Value} (ho : W.ownsRow B e m v n xs) (hg : W.grownBy W' v.ownBlock) (hne : t ≠ e) : Blk W' b t cs :=
  (hg.block b h.lt (own_ne ho h hne)).trans h
/-- Where a row's things lie. -/
theorem own_at {W : World} {B e m n : Nat} {v : Value} {xs : List Value} (h : W.ownsRow B e m v n xs) : ∃ a c, v = .slice a n c ∧ n ≤ c ∧ ∀ i, (∃ u, xs[i * m]? = some u) → ∃ g, a = some ⟨g, 0, none⟩ ∧ ∀ c u, xs[i * m + c]? = some u → W.cell? ⟨g, 0 + i * m + c, none⟩ = some u := by
  obtain ⟨hl, ⟨rfl, rfl⟩ | ⟨g, cap, cur, rfl, hg, hh, hc, h3⟩⟩ := h
  · refine ⟨none, 0, rfl, Nat.le_refl _, fun i ⟨u, hu⟩ => ?_⟩
    have hx : xs = [] := List.eq_nil_of_length_eq_zero (by simpa using hl)
    rw [hx] at hu; cases hu
  · have ho : W.ownsRow B e m (.slice (some ⟨g, 0, none⟩) n cap) n xs := ⟨hl, .inr ⟨g, cap, cur, rfl, hg, hh, hc, h3⟩⟩
    refine ⟨some ⟨g, 0, none⟩, cap, rfl, hc, fun i _ => ⟨g, rfl, fun c u hu => ?_⟩⟩
    have := ho.cells (g := g) rfl (i * m + c) u hu
    rwa [show ((⟨g, 0, none⟩ : Addr).add (i * m + c)) = ⟨g, 0 + i * m + c, none⟩ from by simp [Addr.add]; omega] at this
theorem flat_get {α : Type} (f : α → List Value) (m : Nat) (hm : ∀ x, (f x).length = m) : ∀ (l : List α) (i : Nat) (x : α) (c : Nat) (u : Value), l[i]? = some x → (f x)[c]? = some u → (l.flatMap f)[i * m + c]? = some u
  | [], _, _, _, _, h, _ => by cases h
  | y :: r, 0, x, c, u, h, hc => by
    cases h
    rw [List.flatMap_cons, Nat.zero_mul, Nat.zero_add, List.getElem?_append_left (List.getElem?_eq_some_iff.1 hc).1, hc]
  | y :: r, i + 1, x, c, u, h, hc => by
    have := flat_get f m hm r i x c u (show r[i]? = some x from h) hc
    rw [List.flatMap_cons, List.getElem?_append_right (by rw [hm]; rw [Nat.succ_mul]; omega), hm, show (i + 1) * m + c - m = i * m + c from by rw [Nat.succ_mul]; omega]
    exact this
theorem flat_snoc {α : Type} (f : α → List Value) (x : α) (j : Nat) : (List.replicate (j + 1) x).flatMap f = (List.replicate j x).flatMap f ++ f x := by
  rw [List.replicate_succ', List.flatMap_append]; simp
def exC (x : Ex) : List Value := [.int .i64 x.k, .string x.s, .slice none 0 0, .slice none 0 0]
def teC (x : Te) : List Value := [.bool x.any, .bool x.no, .slice none 0 0]
def ruC (q : Value × Value) : List Value := [q.1, q.2]
theorem exsV_own {W : World} {B n : Nat} {v : Value} {l : List Ex} (h : W.ownsRow B 26 4 v n (l.flatMap exC)) (hn : l.length = n) (hl : ∀ x ∈ l, x = .mk x.k x.s [] [] ∧ (Lit.int .i64 x.k).wf = true) : ExsV W v l := by
  obtain ⟨a, c, rfl, hc, hg⟩ := own_at h
  refine ⟨a, c, by rw [hn], by omega, fun j x hx => ?_⟩
  have hf := fun c u hu => flat_get exC 4 (fun _ => rfl) l j x c u hx hu
  obtain ⟨g, rfl, hcell⟩ := hg j ⟨_, hf 0 _ rfl⟩
  obtain ⟨hx1, hx2⟩ := hl x (List.mem_of_getElem? hx)
  refine ⟨g, 0, none, 0, 0, none, 0, 0, rfl, hcell 0 _ (hf 0 _ rfl), hcell 1 _ (hf 1 _ rfl), hcell 2 _ (hf 2 _ rfl), hcell 3 _ (hf 3 _ rfl), ?_⟩
  rw [hx1]
  exact exAt_leaf _ _ _ hx2
theorem tesV_own {W : World} {B n : Nat} {v : Value} {l : List Te} (h : W.ownsRow B 36 3 v n (l.flatMap teC)) (hn : l.length = n) (hl : ∀ x ∈ l, x.l = []) : TesV W v l := by
  obtain ⟨a, c, rfl, hc, hg⟩ := own_at h
  refine ⟨a, c, by rw [hn], by omega, fun j x hx => ?_⟩
  have hf := fun c u hu => flat_get teC 3 (fun _ => rfl) l j x c u hx hu
  obtain ⟨g, rfl, hcell⟩ := hg j ⟨_, hf 0 _ rfl⟩
  refine ⟨g, 0, rfl, .slice none 0 0, fun i u hu => hcell i u (hf i u ?_), ?_⟩
  · exact hu
  · rw [hl x (List.mem_of_getElem? hx)]
    exact exsV_nil W
theorem rusV_own {W : World} {B n : Nat} {v : Value} {l : List Ru} {ps : List (Value × Value)} (h : W.ownsRow B 34 2 v n (ps.flatMap ruC)) (hn : l.length = n) (hp : ps.length = n) (hl : ∀ (i : Nat) (q : Value × Value) (x : Ru), ps[i]? = some q → l[i]? = some x → TesV W q.1 x.ins ∧ ExsV W q.2 x.out) : RusV W v l := by
  obtain ⟨a, c, rfl, hc, hg⟩ := own_at h
  refine ⟨a, c, by rw [hn], by omega, fun j x hx => ?_⟩
  have hj := (List.getElem?_eq_some_iff.1 hx).1
  obtain ⟨q, hq⟩ : ∃ q, ps[j]? = some q := ⟨_, List.getElem?_eq_getElem (by omega)⟩
  have hf := fun c u hu => flat_get ruC 2 (fun _ => rfl) ps j q c u hq hu
  obtain ⟨g, rfl, hcell⟩ := hg j ⟨_, hf 0 _ rfl⟩
  obtain ⟨h1, h2⟩ := hl j q x hq hx
  exact ⟨g, 0, rfl, q.1, q.2, fun i u hu => hcell i u (hf i u hu), h1, h2⟩
theorem strV_own {W : World} {B n : Nat} {v : Value} {l : List ByteArray} (h : W.ownsRow B 9 1 v n (strsV l)) (hn : l.length = n) : StrV W v l := by
  have h0 := own_row h
  obtain ⟨a, c, rfl, _⟩ := row0_form h0 n (by rw [strsV_length]; exact hn)
  obtain ⟨_, h2, h3⟩ := names_of_row0 h0
  exact ⟨a, c, by rw [hn], by omega, h3⟩
theorem cellsN_new (w : World) (cs : List Value) (t : TypeId) : ∀ j u, cs[j]? = some u → (w.alloc (.cells cs.toArray t)).cell? ((⟨w.heap.size, 0, none⟩ : Addr).add j) = some u := by
  intro j u hj
  rw [show ((⟨w.heap.size, 0, none⟩ : Addr).add j) = ⟨w.heap.size, j, none⟩ from by simp [Addr.add]; omega, (Blk.new w t cs).at]
  exact hj
theorem info_exT : (Tryz.prog.info? 26).map (fun i => (i.zero, i.size, i.bytes)) = some (some (.agg #[.int .i64 0, .string ⟨#[]⟩, .slice none 0 0, .slice none 0 0]), 4, 72) := by kernel_rfl
theorem info_teT : (Tryz.prog.info? 36).map (fun i => (i.zero, i.size, i.bytes)) = some (some (.agg #[.bool false, .bool false, .slice none 0 0]), 3, 32) := by kernel_rfl
theorem info_ruT : (Tryz.prog.info? 34).map (fun i => (i.zero, i.size, i.bytes)) = some (some (.agg #[.slice none 0 0, .slice none 0 0]), 2, 48) := by kernel_rfl
theorem oneT_leaf (n : Nat) : ∀ x ∈ List.replicate n oneT, x = .mk x.k x.s [] [] ∧ (Lit.int .i64 x.k).wf = true := fun x hx => by
  rw [List.eq_of_mem_replicate hx]; exact ⟨rfl, by decide⟩
theorem nullT_leaf (n : Nat) : ∀ x ∈ List.replicate n nullT, x = .mk x.k x.s [] [] ∧ (Lit.int .i64 x.k).wf = true := fun x hx => by
  rw [List.eq_of_mem_replicate hx]; exact ⟨rfl, by decide⟩
theorem anyT_leaf (n : Nat) : ∀ x ∈ List.replicate n anyT, x.l = [] := fun x hx => by rw [List.eq_of_mem_replicate hx]; rfl
/-- append of a row, a nil one too, onto one of the call's own. -/
theorem wpL_appendN {P : Program} {ops : Array Oper} {rest : List Oper} {o : Oper} {a : Act} {w : World} {Q : Exit → Act → World → Prop}
    (hg : o.guard = none) (s x : Operand) (t : TypeId) (ho : o.op = .call { callee := .builtin .append, args := #[s, x], argTypes := #[t, t] })
    (B : Nat) (hB : B ≤ w.heap.size) (e : TypeId) (z : Value) (size bytes : Nat) (ht : P.underlying t = some (.slice e)) (hinfo : (P.info? e).map (fun i => (i.zero, i.size, i.bytes)) = some (some z, size, bytes))
    (hzs : z.cells.size = size) (hsz : 0 < size) (hby : bytes ≤ 4096) (v : Value) (n : Nat) (xs : List Value) (hs : a.eval s = v) (hown : w.ownsRow B e size v n xs)
    (u : Value) (B' m : Nat) (news : List Value) (hx : a.eval x = u) (hnews : w.ownsRow B' e size u m news) (h1 : ∀ y ∈ news, y.oneCell' = true)
    (hn : n + m ≤ 4294967296)
    (hK : ∀ v' w', w'.ownsRow B e size v' (n + m) (xs ++ news) → w.grownBy w' v.ownBlock → wpList P ops Q rest (a.put o.dst v') w') :
    wpList P ops Q (o :: rest) a w := by
  obtain ⟨i, hi, hz, hi1, hi2⟩ := info_parts hinfo
  have hnews' := hnews
  obtain ⟨hl, ⟨rfl, rfl⟩ | ⟨g, cap, cur, rfl, hgB, hh, hc, h3⟩⟩ := hnews
  · have hx0 : news = [] := List.eq_nil_of_length_eq_zero (by simpa using hl)
    subst hx0
    refine wpList_append_own_none hg s x t ho B e i size ht hi v n xs hs hown hx (hK v w (by simpa using hown) (World.grownBy.refl w _))
  · refine wpList_append_own w hg s x t ho B e i z size bytes ht hi hz hi1 hi2 hzs hsz v n xs hs hown ⟨g, 0, none⟩ m cap news hx hl (fun j y hj => hnews'.cells (g := g) rfl j y hj) h1 (by unfold maxLen; omega) ?_ hB (fun v' w' hown' hgrow _ => hK v' w' hown' hgrow)
    have : (n + m) * bytes ≤ 4294967296 * 4096 := Nat.mul_le_mul hn hby
    omega
theorem own_freshN (w : World) (e : TypeId) (m B : Nat) (hB : B ≤ w.heap.size) : (w.alloc (.cells #[] e)).ownsRow B e m (.slice (some ⟨w.heap.size, 0, none⟩) 0 0) 0 [] :=
  ⟨by simp, .inr ⟨w.heap.size, 0, #[], rfl, hB, World.alloc_heap_new _ _, Nat.le_refl _, Nat.zero_le _, by simp, by simp⟩⟩
/-- A byte in a block as a slice of bytes. -/
theorem bytes_one (w : World) (c : Nat) (hc : c < 256) : BytesAt (w.alloc (.cells #[.int .u8 c] 5)) (.slice (some ⟨w.heap.size, 0, none⟩) 1 1) ⟨#[UInt8.ofNat c]⟩ := by
  have hb := Blk.new w 5 [.int .u8 c]
  refine ⟨w.heap.size, 0, 1, rfl, hb.lt, fun j hj => ?_, Nat.le_refl _⟩
  have hj0 : j = 0 := by have : j < 1 := hj; omega
  subst hj0
  rw [Nat.zero_add]
  have := hb.at 0
  rw [this]
  have h1 : (ByteArray.get! ⟨#[UInt8.ofNat c]⟩ 0).toNat = c := by
    rw [get_bang _ _ (by simp)]
    simp [Nat.mod_eq_of_lt hc]
  simp [h1]
end Go.Proofs.YtchbhcjhoocjaaaGreatDoor
