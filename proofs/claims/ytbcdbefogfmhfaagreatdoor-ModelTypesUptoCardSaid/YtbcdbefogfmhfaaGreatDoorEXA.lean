/-
  Expressions as trees, and how they lie in memory.
  Expressions (plain): how deep, of how many; deeper than so much; the same.
  expr: the walks of Depth and Count.
  Expressions (plain): what is wrong with one; the names that it gives, needs, has in scope.
  Expressions in memory: one opened for a walk.
-/
import Derived.Test.YtbcdbefogfmhfaaGreatDoorMK
import Derived.Test.YtbcdbefogfmhfaaGreatDoorSPA
import Derived.Test.YtbcdbefogfmhfaaGreatDoorNUA
import Derived.Test.YtbcdbefogfmhfaaGreatDoorUCA
namespace Go.Proofs.YtbcdbefogfmhfaaGreatDoor
/-- An expression: its kind, its text, its names, its parts. -/
inductive Ex where
  | mk (k : Int) (s : ByteArray) (ns : List ByteArray) (l : List Ex)
def Ex.k : Ex → Int | .mk k _ _ _ => k
def Ex.s : Ex → ByteArray | .mk _ s _ _ => s
def Ex.ns : Ex → List ByteArray | .mk _ _ ns _ => ns
def Ex.l : Ex → List Ex | .mk _ _ _ l => l
mutual
/-- The slices of an expression's names and parts. -/
def ExAt (W : World) : Ex → Value → Value → Prop
  | .mk k _ ns l, vn, vl => RowE W vn (strsV ns) ∧ (Lit.int .i64 k).wf = true ∧ ∃ a cap, vl = .slice a l.length cap ∧ l.length ≤ cap ∧ (l = [] ∨ ∃ b off, a = some ⟨b, off, none⟩ ∧ b < W.heap.size ∧ ExsAt W b off l)
/-- Expressions one behind the other, four cells each. -/
def ExsAt (W : World) (b : Nat) : Nat → List Ex → Prop
  | _, [] => True
  | off, .mk k s ns l :: r => (∃ vn vl, W.cell? ⟨b, off, none⟩ = some (.int .i64 k) ∧ W.cell? ⟨b, off + 1, none⟩ = some (.string s) ∧ W.cell? ⟨b, off + 2, none⟩ = some vn ∧ W.cell? ⟨b, off + 3, none⟩ = some vl ∧ ExAt W (.mk k s ns l) vn vl) ∧ ExsAt W b (off + 4) r
end
mutual
theorem ExAt.bel {W W' : World} (hb : Bel W W') : ∀ (e : Ex) {vn vl : Value}, ExAt W e vn vl → ExAt W' e vn vl
  | .mk k s ns l, vn, vl, h => by
    unfold ExAt at h ⊢
    obtain ⟨h1, hk, a, cap, h2, h3, h4⟩ := h
    refine ⟨h1.bel hb, hk, a, cap, h2, h3, h4.imp id fun ⟨b, off, h5, h6, h7⟩ => ⟨b, off, h5, Nat.lt_of_lt_of_le h6 hb.size, ExsAt.bel hb l h7⟩⟩
theorem ExsAt.bel {W W' : World} (hb : Bel W W') {b : Nat} : ∀ (l : List Ex) {off : Nat}, ExsAt W b off l → ExsAt W' b off l
  | [], _, _ => by unfold ExsAt; trivial
  | .mk k s ns l :: r, off, h => by
    unfold ExsAt at h ⊢
    obtain ⟨⟨vn, vl, c0, c1, c2, c3, h1⟩, h2⟩ := h
    exact ⟨⟨vn, vl, hb.keep c0, hb.keep c1, hb.keep c2, hb.keep c3, ExAt.bel hb _ h1⟩, ExsAt.bel hb r h2⟩
end
/-- The i-th of them. -/
theorem ExsAt.get {W : World} {b : Nat} : ∀ {l : List Ex} {off i : Nat} {e : Ex}, ExsAt W b off l → l[i]? = some e →
    ∃ vn vl, W.cell? ⟨b, off + i * 4, none⟩ = some (.int .i64 e.k) ∧ W.cell? ⟨b, off + i * 4 + 1, none⟩ = some (.string e.s) ∧ W.cell? ⟨b, off + i * 4 + 2, none⟩ = some vn ∧ W.cell? ⟨b, off + i * 4 + 3, none⟩ = some vl ∧ ExAt W e vn vl
  | [], _, _, _, _, h => by cases h
  | .mk k s ns l :: r, off, 0, e, h, hx => by
    cases hx
    unfold ExsAt at h
    obtain ⟨⟨vn, vl, c0, c1, c2, c3, h1⟩, _⟩ := h
    rw [Nat.zero_mul, Nat.add_zero]
    exact ⟨vn, vl, c0, c1, c2, c3, h1⟩
  | .mk k s ns l :: r, off, i + 1, e, h, hx => by
    unfold ExsAt at h
    have := ExsAt.get h.2 (show r[i]? = some e from hx)
    rw [show off + (i + 1) * 4 = off + 4 + i * 4 from by omega]
    exact this
/-- How much there is in one. -/
def Ex.bulk : Ex → Nat
  | .mk _ s ns l => s.size + (ns.map fun x => x.size + 1).sum + bulks l + 1
where bulks : List Ex → Nat
  | [] => 0
  | e :: r => e.bulk + bulks r
theorem bulks_mem {e : Ex} : ∀ {l : List Ex}, e ∈ l → e.bulk ≤ Ex.bulk.bulks l
  | x :: r, h => by
    unfold Ex.bulk.bulks
    rcases List.mem_cons.1 h with rfl | h
    · omega
    · have := bulks_mem h; omega
theorem bulks_len : ∀ l : List Ex, l.length ≤ Ex.bulk.bulks l
  | [] => Nat.zero_le _
  | .mk k s ns l :: r => by
    have := bulks_len r
    unfold Ex.bulk.bulks
    rw [List.length_cons]
    unfold Ex.bulk
    omega
end Go.Proofs.YtbcdbefogfmhfaaGreatDoor

namespace Go.Proofs.YtbcdbefogfmhfaaGreatDoor
mutual
def cE : Ex → Nat
  | .mk _ _ _ l => csE l + 1
def csE : List Ex → Nat
  | [] => 0
  | e :: r => cE e + csE r
end
mutual
/-- Is it deeper than so much? -/
def deepE : Ex → Nat → Bool
  | _, 0 => true
  | .mk _ _ _ l, n + 1 => deepsE l n
def deepsE : List Ex → Nat → Bool
  | [], _ => false
  | e :: r, n => deepE e n || deepsE r n
end
mutual
theorem cE_bulk : ∀ e : Ex, cE e ≤ e.bulk
  | .mk k s ns l => by
    have := csE_bulk l
    unfold cE Ex.bulk
    omega
theorem csE_bulk : ∀ l : List Ex, csE l ≤ Ex.bulk.bulks l
  | [] => Nat.zero_le _
  | e :: r => by
    have h1 := cE_bulk e
    have h2 := csE_bulk r
    unfold csE Ex.bulk.bulks
    omega
end
theorem csE_take (l : List Ex) (i : Nat) (e : Ex) (h : l[i]? = some e) : csE (l.take (i + 1)) = csE (l.take i) + cE e := by
  induction l generalizing i with
  | nil => cases h
  | cons x r ih =>
    cases i with
    | zero =>
      cases h
      rw [List.take_succ_cons, List.take_zero, List.take_zero]
      unfold csE csE
      omega
    | succ i =>
      rw [List.take_succ_cons, List.take_succ_cons]
      unfold csE
      rw [ih i h]
      omega
mutual
/-- Are they the same? -/
def sameE : Ex → Ex → Bool
  | .mk k s ns l, .mk k' s' ns' l' => decide (k = k') && decide (s = s') && decide (ns = ns') && samesE l l'
def samesE : List Ex → List Ex → Bool
  | [], [] => true
  | x :: a, y :: b => sameE x y && samesE a b
  | _, _ => false
end
end Go.Proofs.YtbcdbefogfmhfaaGreatDoor

namespace Go.Proofs.YtbcdbefogfmhfaaGreatDoor
open Go.RowKit
/-- The slice of an expression's parts. -/
theorem ExAt.parts {W : World} {e : Ex} {vn vl : Value} (h : ExAt W e vn vl) : RowE W vn (strsV e.ns) ∧ ∃ a cap, vl = .slice a e.l.length cap ∧ e.l.length ≤ cap ∧ (e.l = [] ∨ ∃ b off, a = some ⟨b, off, none⟩ ∧ b < W.heap.size ∧ ExsAt W b off e.l) := by
  obtain ⟨k, s, ns, l⟩ := e
  unfold ExAt at h
  exact ⟨h.1, h.2.2⟩
theorem ExAt.wf {W : World} {e : Ex} {vn vl : Value} (h : ExAt W e vn vl) : (Lit.int .i64 e.k).wf = true := by
  obtain ⟨k, s, ns, l⟩ := e
  unfold ExAt at h
  exact h.2.1
theorem bulk_part {e x : Ex} {i : Nat} (h : e.l[i]? = some x) : x.bulk < e.bulk := by
  obtain ⟨k, s, ns, l⟩ := e
  have := bulks_mem (List.mem_of_getElem? h)
  have h2 : (Ex.mk k s ns l).bulk = s.size + (ns.map fun x => x.size + 1).sum + Ex.bulk.bulks l + 1 := by unfold Ex.bulk; rfl
  rw [h2]
  change x.bulk ≤ Ex.bulk.bulks l at this
  omega
theorem cE_eq (e : Ex) : cE e = csE e.l + 1 := by obtain ⟨k, s, ns, l⟩ := e; unfold cE; rfl
end Go.Proofs.YtbcdbefogfmhfaaGreatDoor

namespace Go.Proofs.YtbcdbefogfmhfaaGreatDoor
open Go.RowKit
/-- How many parts a kind has; -1: any; -2: one or more. -/
def partsK (k : Int) : Int :=
  if k = 4 ∨ k = 8 ∨ k = 15 ∨ k = 19 then 1 else if k = 5 ∨ k = 7 ∨ k = 9 ∨ k = 12 ∨ k = 13 ∨ k = 14 ∨ k = 18 then 2
  else if k = 6 ∨ k = 11 then 3 else if k = 10 then -2 else if k = 16 ∨ k = 17 then -1 else 0
/-- Is its text a name? -/
def namedK (k : Int) : Bool := decide (k = 3 ∨ k = 8 ∨ k = 12 ∨ k = 13 ∨ k = 14)
/-- Has it names? -/
def namesK (k : Int) : Bool := decide (k = 15 ∨ k = 17)
/-- Is a text a number's one form? -/
def canonS (s : ByteArray) : Bool := decide ((readL (dl s)).2 = 0) && (decide ((textE (readL (dl s)).1.1 (readL (dl s)).1.2).2 = 0) && decide (bs (textE (readL (dl s)).1.1 (readL (dl s)).1.2).1 = s))
def constS : List ByteArray := [⟨#[116, 114, 117, 101]⟩, ⟨#[102, 97, 108, 115, 101]⟩, ⟨#[110, 117, 108, 108]⟩]
def binS : List ByteArray := [⟨#[111, 114]⟩, ⟨#[97, 110, 100]⟩, ⟨#[61]⟩, ⟨#[33, 61]⟩, ⟨#[60]⟩, ⟨#[60, 61]⟩, ⟨#[62]⟩, ⟨#[62, 61]⟩, ⟨#[43]⟩, ⟨#[45]⟩, ⟨#[42]⟩, ⟨#[47]⟩, ⟨#[42, 42]⟩]
def spanS : List ByteArray := [⟨#[91, 93]⟩, ⟨#[91, 41]⟩, ⟨#[40, 93]⟩, ⟨#[40, 41]⟩]
def testS : List ByteArray := [⟨#[60]⟩, ⟨#[60, 61]⟩, ⟨#[62]⟩, ⟨#[62, 61]⟩]
/-- May a text be a kind's? -/
def textK (k : Int) (s : ByteArray) : Bool :=
  if k = 0 then canonS s else if k = 1 ∨ k = 3 ∨ k = 8 ∨ k = 12 ∨ k = 13 ∨ k = 14 then true
  else if k = 2 then decide (s ∈ constS) else if k = 5 then decide (s ∈ binS) else if k = 18 then decide (s ∈ spanS)
  else if k = 19 then decide (s ∈ testS) else decide (s ∈ [(⟨#[]⟩ : ByteArray)])
def formE (k : Int) (s : ByteArray) (nn len : Nat) (t : Bool) : Bool :=
  !(decide (0 ≤ partsK k ∧ (len : Int) ≠ partsK k) || decide (partsK k = -2 ∧ len = 0)) && (!(decide (k = 17 ∧ nn ≠ len) || (!namesK k && decide (0 < nn))) && (textK k s && !(decide (k = 19) && !t)))
/-- What is wrong with an expression itself. -/
def ownK (k : Int) (s : ByteArray) (ns : List ByteArray) (len : Nat) (t : Bool) : Nat :=
  if ¬ (0 ≤ k ∧ k ≤ 19) then 2 else if formE k s ns.length len t = false then 17
  else if (namedK k && !rightS s || ns.any fun x => !rightS x) = true then 6 else if ¬ ns.Nodup then 8
  else if k = 1 ∧ chkS s < s.size then 4 else 0
mutual
/-- What is wrong with one, that may be a test, or not. -/
def checkE : Ex → Bool → Nat
  | .mk k s ns l, t => if ownK k s ns l.length t = 0 then checksE (decide (k = 7)) 0 l else ownK k s ns l.length t
def checksE : Bool → Nat → List Ex → Nat
  | _, _, [] => 0
  | b, i, x :: r => if checkE x (b && i == 1) = 0 then checksE b (i + 1) r else checkE x (b && i == 1)
end
def CheckE (e : Ex) : Nat := if deepE e 200 = true then 9 else checkE e true
/-- The names that an expression gives to its part. -/
def givenK (k : Int) (s : ByteArray) (ns : List ByteArray) (i : Nat) : List ByteArray :=
  if k = 15 then ns else if k = 17 then ns.take i else if i ≠ 1 then [] else if k = 9 then [⟨#[105, 116, 101, 109]⟩] else if k = 12 ∨ k = 13 ∨ k = 14 then [s] else []
/-- A scope's names with those that are given. -/
def innerS (N g : List ByteArray) : Option (List ByteArray) × Nat := if g = [] then (some N, 0) else withS N g
mutual
/-- Are its names in scope? -/
def scopedE : Ex → List ByteArray → Nat
  | .mk k s ns l, N => if k = 3 ∧ s ∉ N then 13 else scopedsE k s ns 0 l N
def scopedsE (k : Int) (s : ByteArray) (ns : List ByteArray) : Nat → List Ex → List ByteArray → Nat
  | _, [], _ => 0
  | i, x :: r, N => match innerS N (givenK k s ns i) with
    | (none, e) => e
    | (some M, _) => if scopedE x M = 0 then scopedsE k s ns (i + 1) r N else scopedE x M
end
theorem checkE_eq (e : Ex) (t : Bool) : checkE e t = if ownK e.k e.s e.ns e.l.length t = 0 then checksE (decide (e.k = 7)) 0 e.l else ownK e.k e.s e.ns e.l.length t := by
  obtain ⟨k, s, ns, l⟩ := e; unfold checkE; rfl
theorem scopedE_eq (e : Ex) (N : List ByteArray) : scopedE e N = if e.k = 3 ∧ e.s ∉ N then 13 else scopedsE e.k e.s e.ns 0 e.l N := by
  obtain ⟨k, s, ns, l⟩ := e; unfold scopedE; rfl
/-- What is wrong with the parts from the i-th on. -/
theorem checksE_drop (b : Bool) (l : List Ex) (i : Nat) (x : Ex) (h : l[i]? = some x) : checksE b i (l.drop i) = if checkE x (b && i == 1) = 0 then checksE b (i + 1) (l.drop (i + 1)) else checkE x (b && i == 1) := by
  obtain ⟨hi, hx⟩ := List.getElem?_eq_some_iff.1 h
  rw [List.drop_eq_getElem_cons hi, hx]
  conv => lhs; unfold checksE
theorem checksE_end (b : Bool) (l : List Ex) (i : Nat) (h : l.length ≤ i) : checksE b i (l.drop i) = 0 := by
  rw [List.drop_of_length_le h]; unfold checksE; rfl
theorem scopedsE_drop (k : Int) (s : ByteArray) (ns : List ByteArray) (l : List Ex) (N : List ByteArray) (i : Nat) (x : Ex) (h : l[i]? = some x) : scopedsE k s ns i (l.drop i) N = match innerS N (givenK k s ns i) with
    | (none, e) => e
    | (some M, _) => if scopedE x M = 0 then scopedsE k s ns (i + 1) (l.drop (i + 1)) N else scopedE x M := by
  obtain ⟨hi, hx⟩ := List.getElem?_eq_some_iff.1 h
  rw [List.drop_eq_getElem_cons hi, hx]
  conv => lhs; unfold scopedsE
theorem scopedsE_end (k : Int) (s : ByteArray) (ns : List ByteArray) (l : List Ex) (N : List ByteArray) (i : Nat) (h : l.length ≤ i) : scopedsE k s ns i (l.drop i) N = 0 := by
  rw [List.drop_of_length_le h]; unfold scopedsE; rfl
end Go.Proofs.YtbcdbefogfmhfaaGreatDoor

namespace Go.Proofs.YtbcdbefogfmhfaaGreatDoor
open Go.RowKit
theorem bulk_eq (e : Ex) : e.bulk = e.s.size + (e.ns.map fun x => x.size + 1).sum + Ex.bulk.bulks e.l + 1 := by
  obtain ⟨k, s, ns, l⟩ := e; unfold Ex.bulk; rfl
theorem len_names : ∀ ns : List ByteArray, ns.length ≤ (ns.map fun x => x.size + 1).sum
  | [] => Nat.le_refl _
  | x :: r => by
    have := len_names r
    rw [List.map_cons, List.sum_cons, List.length_cons]; omega
theorem mem_names {x : ByteArray} : ∀ {ns : List ByteArray}, x ∈ ns → x.size + 1 ≤ (ns.map fun x => x.size + 1).sum
  | y :: r, h => by
    rw [List.map_cons, List.sum_cons]
    rcases List.mem_cons.1 h with rfl | h
    · omega
    · have := mem_names h; omega
theorem bulk_s (e : Ex) : e.s.size < e.bulk := by rw [bulk_eq]; omega
theorem bulk_name {e : Ex} {x : ByteArray} (h : x ∈ e.ns) : x.size < e.bulk := by have := mem_names h; rw [bulk_eq]; omega
/-- Where the names of an expression lie. -/
def NamesAt (W : World) (na : Option Addr) (ns : List ByteArray) : Prop := ∀ j x, ns[j]? = some x → ∃ b off, na = some ⟨b, off, none⟩ ∧ W.cell? ⟨b, off + j, none⟩ = some (.string x)
theorem NamesAt.bel {W W' : World} {na : Option Addr} {ns : List ByteArray} (h : NamesAt W na ns) (hb : Bel W W') : NamesAt W' na ns := by
  intro j x hx
  obtain ⟨b, off, h1, h2⟩ := h j x hx
  exact ⟨b, off, h1, hb.keep h2⟩
/-- Where the parts of an expression lie. -/
def PartsAt (W : World) (la : Option Addr) (l : List Ex) : Prop :=
  ∀ j x, l[j]? = some x → ∃ b off xna xnn xnc xla xln xlc, la = some ⟨b, off, none⟩ ∧ W.cell? ⟨b, off + j * 4, none⟩ = some (.int .i64 x.k) ∧ W.cell? ⟨b, off + j * 4 + 1, none⟩ = some (.string x.s) ∧
    W.cell? ⟨b, off + j * 4 + 2, none⟩ = some (.slice xna xnn xnc) ∧ W.cell? ⟨b, off + j * 4 + 3, none⟩ = some (.slice xla xln xlc) ∧ ExAt W x (.slice xna xnn xnc) (.slice xla xln xlc)
theorem PartsAt.bel {W W' : World} {la : Option Addr} {l : List Ex} (h : PartsAt W la l) (hb : Bel W W') : PartsAt W' la l := by
  intro j x hx
  obtain ⟨b, off, xna, xnn, xnc, xla, xln, xlc, h1, g0, g1, g2, g3, h2⟩ := h j x hx
  exact ⟨b, off, xna, xnn, xnc, xla, xln, xlc, h1, hb.keep g0, hb.keep g1, hb.keep g2, hb.keep g3, ExAt.bel hb x h2⟩
/-- An expression's slices, as a walk wants them. -/
theorem ExAt.opened {W : World} {e : Ex} {vn vl : Value} (h : ExAt W e vn vl) :
    ∃ (na la : Option Addr) (nn nc m lc : Nat), vn = .slice na nn nc ∧ vl = .slice la m lc ∧ e.ns.length = nn ∧ e.l.length = m ∧ nn ≤ nc ∧ m ≤ lc ∧ nn < e.bulk ∧ m < e.bulk ∧ NamesAt W na e.ns ∧ PartsAt W la e.l := by
  obtain ⟨⟨na, nc, rfl, hnc, hnames⟩, la, lc, rfl, hlc, hparts⟩ := h.parts
  have hb := bulk_eq e
  have h1 := len_names e.ns
  have h2 := bulks_len e.l
  rw [strsV_length] at hnc
  refine ⟨na, la, e.ns.length, nc, e.l.length, lc, by rw [strsV_length], rfl, rfl, rfl, hnc, hlc, by omega, by omega, fun j x hx => ?_, fun j x hx => ?_⟩
  · obtain ⟨hj, hxx⟩ := List.getElem?_eq_some_iff.1 hx
    rcases hnames with h0 | ⟨b, off, ha, hlt, hc⟩
    · have := congrArg List.length h0; rw [strsV_length] at this; simp at this; rw [this] at hj; simp at hj
    · exact ⟨b, off, ha, by rw [hc j (by rw [strsV_length]; exact hj)]; simp [strsV, hxx]⟩
  · rcases hparts with h0 | ⟨b, off, ha, hlt, hex⟩
    · rw [h0] at hx; cases hx
    · obtain ⟨xn, xl, g0, g1, g2, g3, hxa⟩ := hex.get hx
      obtain ⟨⟨xna, xnc, rfl, _⟩, xla, xlc, rfl, _⟩ := hxa.parts
      exact ⟨b, off, xna, _, xnc, xla, _, xlc, ha, g0, g1, g2, g3, hxa⟩
theorem bulks_take : ∀ (l : List Ex) (i : Nat), Ex.bulk.bulks (l.take i) ≤ Ex.bulk.bulks l
  | [], i => by simp
  | x :: r, 0 => by rw [List.take_zero]; unfold Ex.bulk.bulks; omega
  | x :: r, i + 1 => by rw [List.take_succ_cons]; unfold Ex.bulk.bulks; have := bulks_take r i; omega
theorem bulk_parts (e : Ex) : Ex.bulk.bulks e.l < e.bulk := by rw [bulk_eq]; omega
end Go.Proofs.YtbcdbefogfmhfaaGreatDoor
