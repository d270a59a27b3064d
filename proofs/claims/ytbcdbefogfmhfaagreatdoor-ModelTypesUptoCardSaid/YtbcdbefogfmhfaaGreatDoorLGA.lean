/-
  Logics as trees, how they lie in memory, and what is said of them (plain).
-/
import Derived.Test.YtbcdbefogfmhfaaGreatDoorEXE
namespace Go.Proofs.YtbcdbefogfmhfaaGreatDoor
open Go.RowKit
/-- An operation of a region that draws is taken first. -/
theorem tk {P : Program} {ops : Array Oper} {Q : Exit → Act → World → Prop} {md : Region.Mode} {S : World → Prop} (i : Nat) {oi : Oper} {v : Value} {fuel : Nat} {listed : Array Bool} {a : Act} {w : World} (hy : YieldsIf P ops S oi v a)
    (h : wpAnyH P md ops Q S fuel (listed.setIfInBounds i true) (a.put oi.dst v) w) (hi : ops[i]? = some oi := by rfl) (hs : Region.noSelect ops = true := by kernel_rfl) (hf : Region.free md ops listed i = true := by kernel_rfl)
    (hr : (Region.ready md ops listed).contains i = true := by kernel_rfl) (hQ : ∀ c a w, Q (.panic c) (a.put oi.dst v) w → Q (.panic c) a w := by exact fun _ _ _ h => h) (hS : S w := by assumption) : wpAnyH P md ops Q S (fuel + 1) listed a w :=
  wpAnyH_take hi hs hf hr hQ hy hS h
/-- Tests: any, none of which, some. -/
structure Te where
  any : Bool
  no : Bool
  l : List Ex
/-- A row of a table. -/
structure Ru where
  ins : List Te
  out : List Ex
/-- A logic. -/
inductive Lg where
  | mk (k : Int) (e : Ex) (p : ByteArray) (ins : List Ex) (outs : List ByteArray) (rs : List Ru) (ns : List ByteArray) (l : List Lg)
def Lg.k : Lg → Int | .mk k _ _ _ _ _ _ _ => k
def Lg.e : Lg → Ex | .mk _ e _ _ _ _ _ _ => e
def Lg.p : Lg → ByteArray | .mk _ _ p _ _ _ _ _ => p
def Lg.ins : Lg → List Ex | .mk _ _ _ ins _ _ _ _ => ins
def Lg.outs : Lg → List ByteArray | .mk _ _ _ _ outs _ _ _ => outs
def Lg.rs : Lg → List Ru | .mk _ _ _ _ _ rs _ _ => rs
def Lg.ns : Lg → List ByteArray | .mk _ _ _ _ _ _ ns _ => ns
def Lg.l : Lg → List Lg | .mk _ _ _ _ _ _ _ l => l
/-- The values of a logic's slices. -/
structure LgQ where
  en : Value
  el : Value
  vi : Value
  vo : Value
  vr : Value
  vn : Value
  vl : Value
/-- A logic's value, and its cells. -/
def lgV (l : Lg) (q : LgQ) : Value := .agg #[.int .i64 l.k, .int .i64 l.e.k, .string l.e.s, q.en, q.el, .string l.p, q.vi, q.vo, q.vr, q.vn, q.vl]
def lgC (l : Lg) (q : LgQ) : List Value := [.int .i64 l.k, .int .i64 l.e.k, .string l.e.s, q.en, q.el, .string l.p, q.vi, q.vo, q.vr, q.vn, q.vl]
/-- Cells one behind the other. -/
def CellsAt (W : World) (b off : Nat) (cs : List Value) : Prop := ∀ j v, cs[j]? = some v → W.cell? ⟨b, off + j, none⟩ = some v
theorem CellsAt.bel {W W' : World} {b off : Nat} {cs : List Value} (h : CellsAt W b off cs) (hb : Bel W W') : CellsAt W' b off cs := fun j v hj => hb.keep (h j v hj)
theorem CellsAt.get0 {W : World} {b off : Nat} {v : Value} {cs : List Value} (h : CellsAt W b off (v :: cs)) : W.cell? ⟨b, off, none⟩ = some v := h 0 v rfl
theorem CellsAt.get {W : World} {b off : Nat} {cs : List Value} (h : CellsAt W b off cs) (j : Nat) {v : Value} (hj : cs[j]? = some v) : W.cell? ⟨b, off + j, none⟩ = some v := h j v hj
theorem CellsAt.lt {W : World} {b off : Nat} {v : Value} {cs : List Value} (h : CellsAt W b off (v :: cs)) : b < W.heap.size := cell_lt h.get0
/-- A slice of texts; of expressions. -/
def StrV (W : World) (v : Value) (l : List ByteArray) : Prop := ∃ a c, v = .slice a l.length c ∧ l.length ≤ c ∧ NamesAt W a l
def ExsV (W : World) (v : Value) (l : List Ex) : Prop := ∃ a c, v = .slice a l.length c ∧ l.length ≤ c ∧ PartsAt W a l
theorem StrV.bel {W W' : World} {v : Value} {l : List ByteArray} (h : StrV W v l) (hb : Bel W W') : StrV W' v l := by
  obtain ⟨a, c, h1, h2, h3⟩ := h
  exact ⟨a, c, h1, h2, h3.bel hb⟩
theorem ExsV.bel {W W' : World} {v : Value} {l : List Ex} (h : ExsV W v l) (hb : Bel W W') : ExsV W' v l := by
  obtain ⟨a, c, h1, h2, h3⟩ := h
  exact ⟨a, c, h1, h2, h3.bel hb⟩
/-- Things one behind the other, so many cells each. -/
def ThingsAt {α : Type} (n : Nat) (P : Nat → Nat → α → Prop) (a : Option Addr) (l : List α) : Prop := ∀ (j : Nat) (x : α), l[j]? = some x → ∃ b off, a = some ⟨b, off, none⟩ ∧ P b (off + j * n) x
theorem ThingsAt.mono {α : Type} {n : Nat} {P Q : Nat → Nat → α → Prop} {a : Option Addr} {l : List α} (h : ThingsAt n P a l) (hpq : ∀ b o x, P b o x → Q b o x) : ThingsAt n Q a l := fun j x hx => by
  obtain ⟨b, off, h1, h2⟩ := h j x hx
  exact ⟨b, off, h1, hpq _ _ _ h2⟩
def TeC (W : World) (b o : Nat) (t : Te) : Prop := ∃ v, CellsAt W b o [.bool t.any, .bool t.no, v] ∧ ExsV W v t.l
theorem TeC.bel {W W' : World} {b o : Nat} {t : Te} (h : TeC W b o t) (hb : Bel W W') : TeC W' b o t := by
  obtain ⟨v, h1, h2⟩ := h
  exact ⟨v, h1.bel hb, h2.bel hb⟩
def TesAt (W : World) (a : Option Addr) (l : List Te) : Prop := ThingsAt 3 (TeC W) a l
theorem TesAt.bel {W W' : World} {a : Option Addr} {l : List Te} (h : TesAt W a l) (hb : Bel W W') : TesAt W' a l := ThingsAt.mono h fun _ _ _ h => h.bel hb
def TesV (W : World) (v : Value) (l : List Te) : Prop := ∃ a c, v = .slice a l.length c ∧ l.length ≤ c ∧ TesAt W a l
theorem TesV.bel {W W' : World} {v : Value} {l : List Te} (h : TesV W v l) (hb : Bel W W') : TesV W' v l := by
  obtain ⟨a, c, h1, h2, h3⟩ := h
  exact ⟨a, c, h1, h2, h3.bel hb⟩
def RuC (W : World) (b o : Nat) (r : Ru) : Prop := ∃ vi vo, CellsAt W b o [vi, vo] ∧ TesV W vi r.ins ∧ ExsV W vo r.out
theorem RuC.bel {W W' : World} {b o : Nat} {r : Ru} (h : RuC W b o r) (hb : Bel W W') : RuC W' b o r := by
  obtain ⟨vi, vo, h1, h2, h3⟩ := h
  exact ⟨vi, vo, h1.bel hb, h2.bel hb, h3.bel hb⟩
def RusAt (W : World) (a : Option Addr) (l : List Ru) : Prop := ThingsAt 2 (RuC W) a l
theorem RusAt.bel {W W' : World} {a : Option Addr} {l : List Ru} (h : RusAt W a l) (hb : Bel W W') : RusAt W' a l := ThingsAt.mono h fun _ _ _ h => h.bel hb
def RusV (W : World) (v : Value) (l : List Ru) : Prop := ∃ a c, v = .slice a l.length c ∧ l.length ≤ c ∧ RusAt W a l
theorem RusV.bel {W W' : World} {v : Value} {l : List Ru} (h : RusV W v l) (hb : Bel W W') : RusV W' v l := by
  obtain ⟨a, c, h1, h2, h3⟩ := h
  exact ⟨a, c, h1, h2, h3.bel hb⟩
mutual
/-- How a logic lies. -/
def LgAt (W : World) : Lg → LgQ → Prop
  | .mk k e _ ins outs rs ns l, q => (Lit.int .i64 k).wf = true ∧ ExAt W e q.en q.el ∧ ExsV W q.vi ins ∧ StrV W q.vo outs ∧ RusV W q.vr rs ∧ StrV W q.vn ns ∧
    ∃ a cap, q.vl = .slice a l.length cap ∧ l.length ≤ cap ∧ (l = [] ∨ ∃ b off, a = some ⟨b, off, none⟩ ∧ LgsAt W b off l)
/-- Logics one behind the other, eleven cells each. -/
def LgsAt (W : World) (b : Nat) : Nat → List Lg → Prop
  | _, [] => True
  | off, x :: r => (∃ q, CellsAt W b off (lgC x q) ∧ LgAt W x q) ∧ LgsAt W b (off + 11) r
end
mutual
theorem LgAt.bel {W W' : World} (hb : Bel W W') : ∀ (l : Lg) {q : LgQ}, LgAt W l q → LgAt W' l q
  | .mk k e p ins outs rs ns l, q, h => by
    unfold LgAt at h ⊢
    obtain ⟨h1, h2, h3, h4, h5, h6, a, cap, h7, h8, h9⟩ := h
    exact ⟨h1, ExAt.bel hb e h2, h3.bel hb, h4.bel hb, h5.bel hb, h6.bel hb, a, cap, h7, h8, h9.imp id fun ⟨b, off, h10, h11⟩ => ⟨b, off, h10, LgsAt.bel hb l h11⟩⟩
theorem LgsAt.bel {W W' : World} (hb : Bel W W') {b : Nat} : ∀ (l : List Lg) {off : Nat}, LgsAt W b off l → LgsAt W' b off l
  | [], _, _ => by unfold LgsAt; trivial
  | x :: r, off, h => by
    unfold LgsAt at h ⊢
    obtain ⟨⟨q, h1, h2⟩, h3⟩ := h
    exact ⟨⟨q, h1.bel hb, LgAt.bel hb x h2⟩, LgsAt.bel hb r h3⟩
end
/-- Where the parts of a logic lie. -/
def KidsAt (W : World) (la : Option Addr) (l : List Lg) : Prop := ∀ (j : Nat) (x : Lg), l[j]? = some x → ∃ b off q, la = some ⟨b, off, none⟩ ∧ CellsAt W b (off + j * 11) (lgC x q) ∧ LgAt W x q
theorem KidsAt.bel {W W' : World} {la : Option Addr} {l : List Lg} (h : KidsAt W la l) (hb : Bel W W') : KidsAt W' la l := fun j x hx => by
  obtain ⟨b, off, q, h1, h2, h3⟩ := h j x hx
  exact ⟨b, off, q, h1, h2.bel hb, LgAt.bel hb x h3⟩
theorem LgsAt.get {W : World} {b : Nat} : ∀ {l : List Lg} {off i : Nat} {x : Lg}, LgsAt W b off l → l[i]? = some x → ∃ q, CellsAt W b (off + i * 11) (lgC x q) ∧ LgAt W x q
  | [], _, _, _, _, h => by cases h
  | y :: r, off, 0, x, h, hx => by
    cases hx
    unfold LgsAt at h
    rw [Nat.zero_mul, Nat.add_zero]
    exact h.1
  | y :: r, off, i + 1, x, h, hx => by
    unfold LgsAt at h
    have := LgsAt.get h.2 (show r[i]? = some x from hx)
    rw [show off + (i + 1) * 11 = off + 11 + i * 11 from by omega]
    exact this
theorem LgsAt.of {W : World} {b : Nat} : ∀ (l : List Lg) (off : Nat), (∀ (i : Nat) (x : Lg), l[i]? = some x → ∃ q, CellsAt W b (off + i * 11) (lgC x q) ∧ LgAt W x q) → LgsAt W b off l
  | [], _, _ => by unfold LgsAt; trivial
  | x :: r, off, h => by
    unfold LgsAt
    refine ⟨?_, LgsAt.of r (off + 11) fun i y hy => ?_⟩
    · have := h 0 x rfl
      rwa [Nat.zero_mul, Nat.add_zero] at this
    · have := h (i + 1) y hy
      rwa [show off + (i + 1) * 11 = off + 11 + i * 11 from by omega] at this
/-- How much there is in one. -/
def Te.bulk (t : Te) : Nat := Ex.bulk.bulks t.l + 2
def tbulks : List Te → Nat | [] => 0 | t :: r => t.bulk + tbulks r
def Ru.bulk (r : Ru) : Nat := tbulks r.ins + Ex.bulk.bulks r.out + 2
def rbulks : List Ru → Nat | [] => 0 | t :: r => t.bulk + rbulks r
mutual
def Lg.bulk : Lg → Nat
  | .mk _ e p ins outs rs ns l => e.bulk + p.size + Ex.bulk.bulks ins + sumS outs + sumS ns + rbulks rs + lbulks l + 1
def lbulks : List Lg → Nat
  | [] => 0
  | x :: r => x.bulk + lbulks r
end
theorem lbulk_eq (l : Lg) : l.bulk = l.e.bulk + l.p.size + Ex.bulk.bulks l.ins + sumS l.outs + sumS l.ns + rbulks l.rs + lbulks l.l + 1 := by
  obtain ⟨k, e, p, ins, outs, rs, ns, l⟩ := l; unfold Lg.bulk; rfl
theorem lbulks_mem {x : Lg} : ∀ {l : List Lg}, x ∈ l → x.bulk ≤ lbulks l
  | y :: r, h => by
    unfold lbulks
    rcases List.mem_cons.1 h with rfl | h
    · omega
    · have := lbulks_mem h; omega
theorem lbulk_pos (l : Lg) : 1 ≤ l.bulk := by rw [lbulk_eq]; omega
theorem lbulks_len : ∀ l : List Lg, l.length ≤ lbulks l
  | [] => Nat.zero_le _
  | x :: r => by
    have := lbulks_len r
    have := lbulk_pos x
    unfold lbulks
    rw [List.length_cons]
    omega
theorem lbulk_part {l x : Lg} {i : Nat} (h : l.l[i]? = some x) : x.bulk < l.bulk := by
  have := lbulks_mem (List.mem_of_getElem? h)
  rw [lbulk_eq l]
  omega
theorem tbulks_mem {x : Te} : ∀ {l : List Te}, x ∈ l → x.bulk ≤ tbulks l
  | y :: r, h => by
    unfold tbulks
    rcases List.mem_cons.1 h with rfl | h
    · omega
    · have := tbulks_mem h; omega
theorem tbulks_len : ∀ l : List Te, l.length ≤ tbulks l
  | [] => Nat.zero_le _
  | x :: r => by
    have := tbulks_len r
    unfold tbulks Te.bulk
    rw [List.length_cons]
    omega
theorem rbulks_mem {x : Ru} : ∀ {l : List Ru}, x ∈ l → x.bulk ≤ rbulks l
  | y :: r, h => by
    unfold rbulks
    rcases List.mem_cons.1 h with rfl | h
    · omega
    · have := rbulks_mem h; omega
theorem rbulks_len : ∀ l : List Ru, l.length ≤ rbulks l
  | [] => Nat.zero_le _
  | x :: r => by
    have := rbulks_len r
    unfold rbulks Ru.bulk
    rw [List.length_cons]
    omega
theorem LgAt.wf {W : World} {l : Lg} {q : LgQ} (h : LgAt W l q) : (Lit.int .i64 l.k).wf = true := by
  obtain ⟨k, e, p, ins, outs, rs, ns, l⟩ := l; unfold LgAt at h; exact h.1
/-- A logic's slices, as a walk wants them. -/
theorem LgAt.opened {W : World} {l : Lg} {q : LgQ} (h : LgAt W l q) :
    ∃ (nea : Option Addr) (nen nec : Nat) (lea : Option Addr) (len lec : Nat) (ia : Option Addr) (im ic : Nat) (oa : Option Addr) (om oc : Nat) (ra : Option Addr) (rm rc : Nat) (na : Option Addr) (nm nc : Nat) (la : Option Addr) (lm lc : Nat),
      q = ⟨.slice nea nen nec, .slice lea len lec, .slice ia im ic, .slice oa om oc, .slice ra rm rc, .slice na nm nc, .slice la lm lc⟩ ∧
      (l.ins.length = im ∧ l.outs.length = om ∧ l.rs.length = rm ∧ l.ns.length = nm ∧ l.l.length = lm) ∧ (im ≤ ic ∧ om ≤ oc ∧ rm ≤ rc ∧ nm ≤ nc ∧ lm ≤ lc) ∧
      (im < l.bulk ∧ om < l.bulk ∧ rm < l.bulk ∧ nm < l.bulk ∧ lm < l.bulk) ∧ ExAt W l.e (.slice nea nen nec) (.slice lea len lec) ∧ PartsAt W ia l.ins ∧ NamesAt W oa l.outs ∧ RusAt W ra l.rs ∧ NamesAt W na l.ns ∧ KidsAt W la l.l := by
  have hb := lbulk_eq l
  obtain ⟨k, e, p, ins, outs, rs, ns, l⟩ := l
  obtain ⟨en, el, vi, vo, vr, vn, vl⟩ := q
  unfold LgAt at h
  obtain ⟨_, he, ⟨ia, ic, rfl, hi1, hi2⟩, ⟨oa, oc, rfl, ho1, ho2⟩, ⟨ra, rc, rfl, hr1, hr2⟩, ⟨na, nc, rfl, hn1, hn2⟩, la, lc, rfl, hl1, hl2⟩ := h
  obtain ⟨nea, lea, nen, nec, len, lec, rfl, rfl, _⟩ := he.opened
  have b1 := bulks_len ins
  have b2 := len_sumS outs
  have b3 := rbulks_len rs
  have b4 := len_sumS ns
  have b5 := lbulks_len l
  simp only [Lg.ins, Lg.outs, Lg.rs, Lg.ns, Lg.l, Lg.e, Lg.p] at hb ⊢
  refine ⟨nea, nen, nec, lea, len, lec, ia, _, ic, oa, _, oc, ra, _, rc, na, _, nc, la, _, lc, rfl, ⟨rfl, rfl, rfl, rfl, rfl⟩, ⟨hi1, ho1, hr1, hn1, hl1⟩, ⟨by omega, by omega, by omega, by omega, by omega⟩, he, hi2, ho2, hr2, hn2, fun j x hx => ?_⟩
  rcases hl2 with rfl | ⟨b, off, rfl, hl3⟩
  · cases hx
  · obtain ⟨q, h1, h2⟩ := hl3.get hx
    exact ⟨b, off, q, rfl, h1, h2⟩
theorem lgAt_mk {W : World} {k : Int} {e : Ex} {p : ByteArray} {ins : List Ex} {outs : List ByteArray} {rs : List Ru} {ns : List ByteArray} {l : List Lg} {q : LgQ} (h1 : (Lit.int .i64 k).wf = true) (h2 : ExAt W e q.en q.el) (h3 : ExsV W q.vi ins) (h4 : StrV W q.vo outs)
    (h5 : RusV W q.vr rs) (h6 : StrV W q.vn ns) {a : Option Addr} {c : Nat} (h7 : q.vl = .slice a l.length c) (h8 : l.length ≤ c) (h9 : l = [] ∨ ∃ b off, a = some ⟨b, off, none⟩ ∧ LgsAt W b off l) : LgAt W (.mk k e p ins outs rs ns l) q := by
  unfold LgAt
  exact ⟨h1, h2, h3, h4, h5, h6, a, c, h7, h8, h9⟩
theorem strV_nil (W : World) : StrV W (.slice none 0 0) [] := ⟨none, 0, rfl, Nat.le_refl _, fun j x hx => by cases hx⟩
theorem exsV_nil (W : World) : ExsV W (.slice none 0 0) [] := ⟨none, 0, rfl, Nat.le_refl _, fun j x hx => by cases hx⟩
theorem rusV_nil (W : World) : RusV W (.slice none 0 0) [] := ⟨none, 0, rfl, Nat.le_refl _, fun j x hx => by cases hx⟩
theorem ex_mem_bulk2 {l : List Ex} {N : Nat} (h : Ex.bulk.bulks l ≤ N) {x : Ex} (hx : x ∈ l) : x.bulk ≤ N := Nat.le_trans (bulks_mem hx) h
theorem ex_mem_bulk {l : List Ex} {N : Nat} (h : Ex.bulk.bulks l ≤ N) : ∀ x ∈ l, x.bulk ≤ N := fun _ hx => ex_mem_bulk2 h hx
theorem str_mem_size {l : List ByteArray} {N : Nat} (h : sumS l ≤ N) : ∀ x ∈ l, x.size ≤ N := fun x hx => by have := mem_sumS l x hx; omega
/-- The first that isn't 0. -/
def nz : List Nat → Nat
  | [] => 0
  | x :: r => if x = 0 then nz r else x
theorem nz_zero : ∀ l : List Nat, nz l = 0 ↔ ∀ x ∈ l, x = 0
  | [] => by simp [nz]
  | x :: r => by
    unfold nz
    by_cases h : x = 0
    · rw [if_pos h, nz_zero r]; simp [h]
    · rw [if_neg h]; simp [h]
theorem nz_map_drop {α : Type} (f : α → Nat) (l : List α) (i : Nat) (x : α) (h : l[i]? = some x) : nz ((l.drop i).map f) = if f x = 0 then nz ((l.drop (i + 1)).map f) else f x := by
  obtain ⟨hi, hx⟩ := List.getElem?_eq_some_iff.1 h
  rw [List.drop_eq_getElem_cons hi, hx, List.map_cons]
  conv => lhs; unfold nz
theorem nz_map_end {α : Type} (f : α → Nat) (l : List α) (i : Nat) (h : l.length ≤ i) : nz ((l.drop i).map f) = 0 := by
  rw [List.drop_of_length_le h]; rfl
def polS : List ByteArray := [⟨#[65, 78, 89]⟩, ⟨#[67, 79, 76, 76, 69, 67, 84]⟩, ⟨#[70, 73, 82, 83, 84]⟩, ⟨#[79, 85, 84, 80, 85, 84, 32, 79, 82, 68, 69, 82]⟩, ⟨#[80, 82, 73, 79, 82, 73, 84, 89]⟩, ⟨#[82, 85, 76, 69, 32, 79, 82, 68, 69, 82]⟩, ⟨#[85, 78, 73, 81, 85, 69]⟩]
def emptyE : Ex := .mk 0 ⟨#[]⟩ [] []
def bareL (l : Lg) : Bool := decide (l.p = ⟨#[]⟩) && decide (l.ins.length + l.outs.length + l.rs.length = 0)
def formL (l : Lg) : Bool :=
  if l.k = 0 then bareL l && decide (l.ns.length + l.l.length = 0)
  else if l.k = 1 then sameE l.e emptyE && (decide (l.ns.length + l.l.length = 0) && (decide (0 < l.outs.length) && decide (l.p ∈ polS)))
  else if l.k = 2 then sameE l.e emptyE && (bareL l && (decide (0 < l.l.length) && decide (l.ns.length = l.l.length)))
  else bareL l && (decide (l.e.k = 3) && decide (l.ns.length = l.l.length))
def namedS (l : List ByteArray) : Nat := if (l.any fun x => !rightS x) = true then 6 else if ¬ l.Nodup then 8 else 0
def exprE (x : Ex) : Nat := if CheckE x = 0 then (if x.k = 19 then 17 else 0) else CheckE x
def exprsE (l : List Ex) : Nat := nz (l.map exprE)
def CheckT (t : Te) : Nat := if ((t.any && t.no) || (t.any != decide (t.l.length = 0))) = true then 17 else nz (t.l.map CheckE)
def ruE (ni no : Nat) (r : Ru) : Nat := if r.ins.length ≠ ni ∨ r.out.length ≠ no then 17 else if nz (r.ins.map CheckT) = 0 then exprsE r.out else nz (r.ins.map CheckT)
def rusE (ni no : Nat) (l : List Ru) : Nat := nz (l.map (ruE ni no))
/-- The names that are to be names: of a context but for the last one, if it is none. -/
def givenL (k : Int) (ns : List ByteArray) : List ByteArray := if k = 2 ∧ ns[ns.length - 1]? = some ⟨#[]⟩ then ns.take (ns.length - 1) else ns
def fiveL (l : Lg) : List Nat := [namedS (givenL l.k l.ns), namedS l.outs, if l.k = 0 ∨ l.k = 3 then exprsE [l.e] else 0, exprsE l.ins, rusE l.ins.length l.outs.length l.rs]
def ownL (l : Lg) : Nat := if ¬ (0 ≤ l.k ∧ l.k ≤ 3) then 2 else if formL l = false then 17 else nz (fiveL l)
mutual
def checkL : Lg → Nat
  | .mk k e p ins outs rs ns l => if ownL (.mk k e p ins outs rs ns l) = 0 then checksL l else ownL (.mk k e p ins outs rs ns l)
def checksL : List Lg → Nat
  | [] => 0
  | x :: r => if checkL x = 0 then checksL r else checkL x
end
theorem checksL_eq : ∀ l : List Lg, checksL l = nz (l.map checkL)
  | [] => by unfold checksL; rfl
  | x :: r => by unfold checksL; rw [checksL_eq r]; rfl
theorem checkL_eq (l : Lg) : checkL l = if ownL l = 0 then nz (l.l.map checkL) else ownL l := by
  obtain ⟨k, e, p, ins, outs, rs, ns, l⟩ := l; unfold checkL; rw [checksL_eq]; rfl
mutual
/-- Is it deeper than so much? -/
def deepL : Lg → Nat → Bool
  | _, 0 => true
  | .mk _ _ _ _ _ _ _ l, n + 1 => deepsL l n
def deepsL : List Lg → Nat → Bool
  | [], _ => false
  | e :: r, n => deepL e n || deepsL r n
end
theorem deepsL_any : ∀ (l : List Lg) (n : Nat), deepsL l n = l.any fun x => deepL x n
  | [], n => by unfold deepsL; rfl
  | x :: r, n => by unfold deepsL; rw [deepsL_any r n]; rfl
theorem deepL_succ (e : Lg) (n : Nat) : deepL e (n + 1) = e.l.any fun x => deepL x n := by
  obtain ⟨k, e, p, ins, outs, rs, ns, l⟩ := e; rw [deepL]; exact deepsL_any l n
theorem deepL_zero (e : Lg) : deepL e 0 = true := by cases e; unfold deepL; rfl
def CheckL (l : Lg) : Nat := if deepL l 30 = true then 9 else checkL l
def ruParts (r : Ru) : List Ex := (r.ins.flatMap fun t => t.l) ++ r.out
def partsL (l : Lg) : List Ex := (if l.k = 0 ∨ l.k = 3 then [l.e] else []) ++ (l.ins ++ l.rs.flatMap ruParts)
theorem lg_ind {P : Lg → Prop} (h : ∀ l : Lg, (∀ (i : Nat) (x : Lg), l.l[i]? = some x → P x) → P l) : ∀ l : Lg, P l := by
  have key : ∀ (n : Nat) (l : Lg), l.bulk ≤ n → P l := by
    intro n
    induction n with
    | zero => intro l hl; have := lbulk_pos l; omega
    | succ n ih => intro l hl; exact h l fun i x hx => ih x (by have := lbulk_part hx; omega)
  exact fun l => key l.bulk l (Nat.le_refl _)
/-- What a context's names make of a scope. -/
def innerL (k : Int) (ns : List ByteArray) (N : List ByteArray) (i : Nat) : Option (List ByteArray) × Nat := if k = 2 ∧ 0 < i then withS N (ns.take i) else (some N, 0)
mutual
def scopedL : Lg → List ByteArray → Nat
  | .mk k e p ins outs rs ns l, N => if nz ((partsL (.mk k e p ins outs rs ns l)).map fun x => scopedE x N) = 0 then scopedsL k ns 0 l N else nz ((partsL (.mk k e p ins outs rs ns l)).map fun x => scopedE x N)
def scopedsL (k : Int) (ns : List ByteArray) : Nat → List Lg → List ByteArray → Nat
  | _, [], _ => 0
  | i, x :: r, N => match innerL k ns N i with
    | (none, e) => e
    | (some M, _) => if scopedL x M = 0 then scopedsL k ns (i + 1) r N else scopedL x M
end
theorem scopedL_eq (l : Lg) (N : List ByteArray) : scopedL l N = if nz ((partsL l).map fun x => scopedE x N) = 0 then scopedsL l.k l.ns 0 l.l N else nz ((partsL l).map fun x => scopedE x N) := by
  obtain ⟨k, e, p, ins, outs, rs, ns, l⟩ := l; unfold scopedL; rfl
theorem scopedsL_drop (k : Int) (ns : List ByteArray) (l : List Lg) (N : List ByteArray) (i : Nat) (x : Lg) (h : l[i]? = some x) : scopedsL k ns i (l.drop i) N = match innerL k ns N i with
    | (none, e) => e
    | (some M, _) => if scopedL x M = 0 then scopedsL k ns (i + 1) (l.drop (i + 1)) N else scopedL x M := by
  obtain ⟨hi, hx⟩ := List.getElem?_eq_some_iff.1 h
  rw [List.drop_eq_getElem_cons hi, hx]
  conv => lhs; unfold scopedsL
theorem scopedsL_end (k : Int) (ns : List ByteArray) (l : List Lg) (N : List ByteArray) (i : Nat) (h : l.length ≤ i) : scopedsL k ns i (l.drop i) N = 0 := by
  rw [List.drop_of_length_le h]; unfold scopedsL; rfl
/-- Are they the same? -/
def sameT (a b : Te) : Bool := decide (a.any = b.any) && (decide (a.no = b.no) && samesE a.l b.l)
def samesT : List Te → List Te → Bool
  | [], [] => true
  | x :: a, y :: b => sameT x y && samesT a b
  | _, _ => false
def sameR (a b : Ru) : Bool := samesT a.ins b.ins && samesE a.out b.out
def samesR : List Ru → List Ru → Bool
  | [], [] => true
  | x :: a, y :: b => sameR x y && samesR a b
  | _, _ => false
mutual
def sameL : Lg → Lg → Bool
  | .mk k e p ins outs rs ns l, .mk k' e' p' ins' outs' rs' ns' l' => decide (k = k') && (decide (p = p') && (sameE e e' && (samesE ins ins' && (decide (outs = outs') && (decide (ns = ns') && (samesR rs rs' && samesL l l'))))))
def samesL : List Lg → List Lg → Bool
  | [], [] => true
  | x :: a, y :: b => sameL x y && samesL a b
  | _, _ => false
end
end Go.Proofs.YtbcdbefogfmhfaaGreatDoor
