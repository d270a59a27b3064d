/-
  Trees of XML al trees in Lean, and how they lie in memory.
  xmlout: what is wrong with a tree; its attributes in order; its prefixes; its bytes (plain).
  xmlout: prefixes (plain): each namespace once, each prefix once.
  A world with some of its blocks emptied: what a tree does not read.
-/
import Derived.Test.YtojeclfcgnamoaaDoorMB
import Derived.Test.YtojeclfcgnamoaaDoorUCA
namespace Go.Proofs.YtojeclfcgnamoaaDoor
open Go.RowKit

/-- An attribute: its namespace, its name, its value. -/
abbrev Atr := ByteArray × ByteArray × ByteArray
/-- A node: its place, its namespace, its name, its attributes, its children, its text. -/
inductive Nd where
  | mk (t : Int) (sp lo : ByteArray) (al : List Atr) (ks : List Nd) (tx : ByteArray)
def Nd.t : Nd → Int | .mk t _ _ _ _ _ => t
def Nd.sp : Nd → ByteArray | .mk _ sp _ _ _ _ => sp
def Nd.lo : Nd → ByteArray | .mk _ _ lo _ _ _ => lo
def Nd.al : Nd → List Atr | .mk _ _ _ al _ _ => al
def Nd.ks : Nd → List Nd | .mk _ _ _ _ ks _ => ks
def Nd.tx : Nd → ByteArray | .mk _ _ _ _ _ tx => tx
/-- Attributes one behind the other, three cells each. -/
def AsAt (W : World) (b off : Nat) (al : List Atr) : Prop :=
  ∀ j x, al[j]? = some x → W.cell? ⟨b, off + j * 3, none⟩ = some (.string x.1) ∧ W.cell? ⟨b, off + j * 3 + 1, none⟩ = some (.string x.2.1) ∧ W.cell? ⟨b, off + j * 3 + 2, none⟩ = some (.string x.2.2)
theorem AsAt.bel {W W' : World} {b off : Nat} {al : List Atr} (h : AsAt W b off al) (hb : Bel W W') : AsAt W' b off al := fun j x hx => by
  obtain ⟨h0, h1, h2⟩ := h j x hx
  exact ⟨hb.keep h0, hb.keep h1, hb.keep h2⟩
/-- A slice of attributes. -/
def AttrsV (W : World) (v : Value) (al : List Atr) : Prop := ∃ a cap, v = .slice a al.length cap ∧ al.length ≤ cap ∧ (al = [] ∨ ∃ b off, a = some ⟨b, off, none⟩ ∧ b < W.heap.size ∧ AsAt W b off al)
theorem AttrsV.bel {W W' : World} {v : Value} {al : List Atr} (h : AttrsV W v al) (hb : Bel W W') : AttrsV W' v al := by
  obtain ⟨a, cap, h1, h2, h3⟩ := h
  exact ⟨a, cap, h1, h2, h3.imp id fun ⟨b, off, h4, h5, h6⟩ => ⟨b, off, h4, Nat.lt_of_lt_of_le h5 hb.size, h6.bel hb⟩⟩
mutual
/-- The slices of a node's attributes and children. -/
def NdAt (W : World) : Nd → Value → Value → Prop
  | .mk t _ _ al ks _, va, vk => AttrsV W va al ∧ (Lit.int .i64 t).wf = true ∧ ∃ a cap, vk = .slice a ks.length cap ∧ ks.length ≤ cap ∧ (ks = [] ∨ ∃ b off, a = some ⟨b, off, none⟩ ∧ b < W.heap.size ∧ NdsAt W b off ks)
/-- Nodes one behind the other, six cells each. -/
def NdsAt (W : World) (b : Nat) : Nat → List Nd → Prop
  | _, [] => True
  | off, .mk t sp lo al ks tx :: r => (∃ va vk, W.cell? ⟨b, off, none⟩ = some (.int .i64 t) ∧ W.cell? ⟨b, off + 1, none⟩ = some (.string sp) ∧ W.cell? ⟨b, off + 2, none⟩ = some (.string lo) ∧ W.cell? ⟨b, off + 3, none⟩ = some va ∧ W.cell? ⟨b, off + 4, none⟩ = some vk ∧ W.cell? ⟨b, off + 5, none⟩ = some (.string tx) ∧ NdAt W (.mk t sp lo al ks tx) va vk) ∧ NdsAt W b (off + 6) r
end
mutual
theorem NdAt.bel {W W' : World} (hb : Bel W W') : ∀ (e : Nd) {va vk : Value}, NdAt W e va vk → NdAt W' e va vk
  | .mk t sp lo al ks tx, va, vk, h => by
    unfold NdAt at h ⊢
    obtain ⟨h1, hk, a, cap, h2, h3, h4⟩ := h
    refine ⟨h1.bel hb, hk, a, cap, h2, h3, h4.imp id fun ⟨b, off, h5, h6, h7⟩ => ⟨b, off, h5, Nat.lt_of_lt_of_le h6 hb.size, NdsAt.bel hb ks h7⟩⟩
theorem NdsAt.bel {W W' : World} (hb : Bel W W') {b : Nat} : ∀ (l : List Nd) {off : Nat}, NdsAt W b off l → NdsAt W' b off l
  | [], _, _ => by unfold NdsAt; trivial
  | .mk t sp lo al ks tx :: r, off, h => by
    unfold NdsAt at h ⊢
    obtain ⟨⟨va, vk, c0, c1, c2, c3, c4, c5, h1⟩, h2⟩ := h
    exact ⟨⟨va, vk, hb.keep c0, hb.keep c1, hb.keep c2, hb.keep c3, hb.keep c4, hb.keep c5, NdAt.bel hb _ h1⟩, NdsAt.bel hb r h2⟩
end
/-- A node's cells at a place. -/
def NdCells (W : World) (b o : Nat) (e : Nd) (va vk : Value) : Prop :=
  W.cell? ⟨b, o, none⟩ = some (.int .i64 e.t) ∧ W.cell? ⟨b, o + 1, none⟩ = some (.string e.sp) ∧ W.cell? ⟨b, o + 2, none⟩ = some (.string e.lo) ∧ W.cell? ⟨b, o + 3, none⟩ = some va ∧ W.cell? ⟨b, o + 4, none⟩ = some vk ∧ W.cell? ⟨b, o + 5, none⟩ = some (.string e.tx)
theorem NdsAt.get {W : World} {b : Nat} : ∀ {l : List Nd} {off i : Nat} {e : Nd}, NdsAt W b off l → l[i]? = some e → ∃ va vk, NdCells W b (off + i * 6) e va vk ∧ NdAt W e va vk
  | [], _, _, _, _, h => by cases h
  | .mk t sp lo al ks tx :: r, off, 0, e, h, hx => by
    cases hx
    unfold NdsAt at h
    obtain ⟨⟨va, vk, c0, c1, c2, c3, c4, c5, h1⟩, _⟩ := h
    rw [Nat.zero_mul, Nat.add_zero]
    exact ⟨va, vk, ⟨c0, c1, c2, c3, c4, c5⟩, h1⟩
  | .mk t sp lo al ks tx :: r, off, i + 1, e, h, hx => by
    unfold NdsAt at h
    have := NdsAt.get h.2 (show r[i]? = some e from hx)
    rw [show off + (i + 1) * 6 = off + 6 + i * 6 from by omega]
    exact this
theorem NdsAt.of {W : World} {b : Nat} : ∀ (l : List Nd) (off : Nat), (∀ i e, l[i]? = some e → ∃ va vk, NdCells W b (off + i * 6) e va vk ∧ NdAt W e va vk) → NdsAt W b off l
  | [], _, _ => by unfold NdsAt; trivial
  | .mk t sp lo al ks tx :: r, off, h => by
    unfold NdsAt
    refine ⟨?_, NdsAt.of r (off + 6) fun i e he => ?_⟩
    · obtain ⟨va, vk, ⟨c0, c1, c2, c3, c4, c5⟩, h1⟩ := h 0 _ rfl
      rw [Nat.zero_mul, Nat.add_zero] at c0 c1 c2 c3 c4 c5
      exact ⟨va, vk, c0, c1, c2, c3, c4, c5, h1⟩
    · have := h (i + 1) e he
      rw [show off + 6 + i * 6 = off + (i + 1) * 6 from by omega]
      exact this
/-- A node's value. -/
def ndV (e : Nd) (va vk : Value) : Value := .agg #[.int .i64 e.t, .string e.sp, .string e.lo, va, vk, .string e.tx]
def atrSum (al : List Atr) : Nat := (al.map fun x => x.1.size + x.2.1.size + x.2.2.size + 1).sum
/-- How much there is in one. -/
def Nd.bulk : Nd → Nat
  | .mk _ sp lo al ks tx => sp.size + lo.size + tx.size + atrSum al + bulks ks + 1
where bulks : List Nd → Nat
  | [] => 0
  | e :: r => e.bulk + bulks r
theorem nd_bulk (e : Nd) : e.bulk = e.sp.size + e.lo.size + e.tx.size + atrSum e.al + Nd.bulk.bulks e.ks + 1 := by
  obtain ⟨t, sp, lo, al, ks, tx⟩ := e
  rw [Nd.bulk]
  rfl
theorem nbulks_mem {e : Nd} : ∀ {l : List Nd}, e ∈ l → e.bulk ≤ Nd.bulk.bulks l
  | x :: r, h => by
    unfold Nd.bulk.bulks
    rcases List.mem_cons.1 h with rfl | h
    · omega
    · have := nbulks_mem h; omega
theorem nd_pos (e : Nd) : 1 ≤ e.bulk := by rw [nd_bulk]; omega
theorem nbulks_len : ∀ l : List Nd, l.length ≤ Nd.bulk.bulks l
  | [] => Nat.zero_le _
  | x :: r => by
    have := nbulks_len r
    have := nd_pos x
    unfold Nd.bulk.bulks
    rw [List.length_cons]
    omega
theorem atr_len : ∀ l : List Atr, l.length ≤ atrSum l
  | [] => Nat.zero_le _
  | x :: r => by
    have := atr_len r
    unfold atrSum at *
    rw [List.length_cons, List.map_cons, List.sum_cons]
    omega
theorem atr_mem {x : Atr} : ∀ {l : List Atr}, x ∈ l → x.1.size + x.2.1.size + x.2.2.size + 1 ≤ atrSum l
  | y :: r, h => by
    unfold atrSum
    rw [List.map_cons, List.sum_cons]
    rcases List.mem_cons.1 h with rfl | h
    · omega
    · have := atr_mem h; unfold atrSum at this; omega
theorem nbulk_kid {e x : Nd} {i : Nat} (h : e.ks[i]? = some x) : x.bulk < e.bulk := by
  have := nbulks_mem (List.mem_of_getElem? h)
  rw [nd_bulk e]
  omega
/-- The children's cells. -/
def KidsAt (W : World) (a : Option Addr) (l : List Nd) : Prop := ∀ i x, l[i]? = some x → ∃ b off xaa xan xac xka xkn xkc, a = some ⟨b, off, none⟩ ∧
  W.cell? ⟨b, off + i * 6, none⟩ = some (.int .i64 x.t) ∧ W.cell? ⟨b, off + i * 6 + 1, none⟩ = some (.string x.sp) ∧ W.cell? ⟨b, off + i * 6 + 2, none⟩ = some (.string x.lo) ∧ W.cell? ⟨b, off + i * 6 + 3, none⟩ = some (.slice xaa xan xac) ∧
  W.cell? ⟨b, off + i * 6 + 4, none⟩ = some (.slice xka xkn xkc) ∧ W.cell? ⟨b, off + i * 6 + 5, none⟩ = some (.string x.tx) ∧ NdAt W x (.slice xaa xan xac) (.slice xka xkn xkc)
def AtrsAt (W : World) (a : Option Addr) (l : List Atr) : Prop := ∀ i x, l[i]? = some x → ∃ b off, a = some ⟨b, off, none⟩ ∧ W.cell? ⟨b, off + i * 3, none⟩ = some (.string x.1) ∧ W.cell? ⟨b, off + i * 3 + 1, none⟩ = some (.string x.2.1) ∧ W.cell? ⟨b, off + i * 3 + 2, none⟩ = some (.string x.2.2)
theorem NdAt.two {W : World} {e : Nd} {va vk : Value} (h : NdAt W e va vk) : AttrsV W va e.al ∧ ∃ a cap, vk = .slice a e.ks.length cap ∧ e.ks.length ≤ cap ∧ (e.ks = [] ∨ ∃ b off, a = some ⟨b, off, none⟩ ∧ b < W.heap.size ∧ NdsAt W b off e.ks) := by
  obtain ⟨t, sp, lo, al, ks, tx⟩ := e
  unfold NdAt at h
  exact ⟨h.1, h.2.2⟩
theorem NdAt.wf {W : World} {e : Nd} {va vk : Value} (h : NdAt W e va vk) : (Lit.int .i64 e.t).wf = true := by
  obtain ⟨t, sp, lo, al, ks, tx⟩ := e
  unfold NdAt at h
  exact h.2.1
/-- A node's slices, as a walk wants them. -/
theorem NdAt.opened {W : World} {e : Nd} {va vk : Value} (h : NdAt W e va vk) :
    ∃ (aa ka : Option Addr) (an ac kn kc : Nat), va = .slice aa an ac ∧ vk = .slice ka kn kc ∧ e.al.length = an ∧ e.ks.length = kn ∧ an ≤ ac ∧ kn ≤ kc ∧ an < e.bulk ∧ kn < e.bulk ∧ AtrsAt W aa e.al ∧ KidsAt W ka e.ks := by
  obtain ⟨⟨aa, ac, rfl, hac, has⟩, ka, kc, rfl, hkc, hks⟩ := h.two
  have hb := nd_bulk e
  have h1 := atr_len e.al
  have h2 := nbulks_len e.ks
  refine ⟨aa, ka, e.al.length, ac, e.ks.length, kc, rfl, rfl, rfl, rfl, hac, hkc, by omega, by omega, fun j x hx => ?_, fun j x hx => ?_⟩
  · rcases has with h0 | ⟨b, off, ha, _, hc⟩
    · rw [h0] at hx; cases hx
    · exact ⟨b, off, ha, hc j x hx⟩
  · rcases hks with h0 | ⟨b, off, ha, _, hc⟩
    · rw [h0] at hx; cases hx
    · obtain ⟨va, vk, ⟨c0, c1, c2, c3, c4, c5⟩, h1⟩ := hc.get hx
      obtain ⟨⟨xaa, xac, rfl, _⟩, xka, xkc, rfl, _⟩ := h1.two
      exact ⟨b, off, xaa, _, xac, xka, _, xkc, ha, c0, c1, c2, c3, c4, c5, h1⟩
theorem NdAt.make {W : World} {t : Int} {sp lo tx : ByteArray} {al : List Atr} {ks : List Nd} {va vk : Value} (ht : (Lit.int .i64 t).wf = true) (ha : AttrsV W va al) (hk : ∃ a cap, vk = .slice a ks.length cap ∧ ks.length ≤ cap ∧ (ks = [] ∨ ∃ b off, a = some ⟨b, off, none⟩ ∧ b < W.heap.size ∧ NdsAt W b off ks)) : NdAt W (.mk t sp lo al ks tx) va vk := by
  unfold NdAt
  exact ⟨ha, ht, hk⟩
end Go.Proofs.YtojeclfcgnamoaaDoor

namespace Go.Proofs.YtojeclfcgnamoaaDoor

def fineS (s : ByteArray) : Bool := !decide (chkS s < s.size)
/-- "http://www.w3.org/2000/xmlns/" -/
def nsX : ByteArray := ⟨#[104, 116, 116, 112, 58, 47, 47, 119, 119, 119, 46, 119, 51, 46, 111, 114, 103, 47, 50, 48, 48, 48, 47, 120, 109, 108, 110, 115, 47]⟩
/-- "xmlns" -/
def nmX : ByteArray := ⟨#[120, 109, 108, 110, 115]⟩
/-- "http://www.w3.org/XML/1998/namespace" -/
def spX : ByteArray := ⟨#[104, 116, 116, 112, 58, 47, 47, 119, 119, 119, 46, 119, 51, 46, 111, 114, 103, 47, 88, 77, 76, 47, 49, 57, 57, 56, 47, 110, 97, 109, 101, 115, 112, 97, 99, 101]⟩
/-- "https://www.omg.org/spec/DMN/20211108/MODEL/" -/
def uriX : ByteArray := ⟨#[104, 116, 116, 112, 115, 58, 47, 47, 119, 119, 119, 46, 111, 109, 103, 46, 111, 114, 103, 47, 115, 112, 101, 99, 47, 68, 77, 78, 47, 50, 48, 50, 49, 49, 49, 48, 56, 47, 77, 79, 68, 69, 76, 47]⟩
/-- What is wrong with a name. -/
def namedS (sp lo : ByteArray) (attr : Bool) : Nat := if plainS lo = false then 6 else if attr = true ∧ sp = ⟨#[]⟩ ∧ lo = nmX then 2 else if sp = nsX ∨ fineS sp = false then 7 else 0
def hasN (l : List (ByteArray × ByteArray)) (a b : ByteArray) : Bool := l.any fun y => decide (y.1 = a) && decide (y.2 = b)
theorem hasN_iff (l : List (ByteArray × ByteArray)) (a b : ByteArray) : hasN l a b = true ↔ (a, b) ∈ l := by
  unfold hasN
  rw [List.any_eq_true]
  constructor
  · rintro ⟨⟨x, y⟩, h1, h2⟩
    simp only [Bool.and_eq_true, decide_eq_true_eq] at h2
    obtain ⟨rfl, rfl⟩ := h2
    exact h1
  · intro h
    exact ⟨_, h, by simp⟩
/-- What is wrong with attributes, behind some names. -/
def attrsS : List (ByteArray × ByteArray) → List Atr → Nat
  | _, [] => 0
  | seen, x :: r => if namedS x.1 x.2.1 true ≠ 0 then namedS x.1 x.2.1 true else if hasN seen x.1 x.2.1 = true then 8 else if fineS x.2.2 = false then 4 else attrsS (seen ++ [(x.1, x.2.1)]) r
def textS6 (sp tx : ByteArray) (an kn : Nat) : Nat := if tx = ⟨#[]⟩ ∨ 0 < an ∨ 0 < kn ∨ sp ≠ ⟨#[]⟩ then 2 else if fineS tx = false then 4 else 0
def elemS (sp lo tx : ByteArray) (al : List Atr) : Nat := if tx ≠ ⟨#[]⟩ then 2 else if namedS sp lo false ≠ 0 then namedS sp lo false else attrsS [] al
mutual
/-- What is wrong with a node, so deep, that may be a text, or not. -/
def chkN : Nd → Nat → Bool → Nat
  | .mk _ sp lo al ks tx, deep, may => if 200 < deep ∧ lo ≠ ⟨#[]⟩ then 9 else if lo = ⟨#[]⟩ then (if may = false then 2 else textS6 sp tx al.length ks.length)
    else if elemS sp lo tx al ≠ 0 then elemS sp lo tx al else chksN ks (deep + 1) true
def chksN : List Nd → Nat → Bool → Nat
  | [], _, _ => 0
  | x :: r, deep, may => if chkN x deep may ≠ 0 then chkN x deep may else chksN r deep (decide (x.lo ≠ ⟨#[]⟩))
end
def CheckN (n : Nd) : Nat := chkN n 1 false
theorem chkN_eq (n : Nd) (deep : Nat) (may : Bool) : chkN n deep may = if 200 < deep ∧ n.lo ≠ ⟨#[]⟩ then 9 else if n.lo = ⟨#[]⟩ then (if may = false then 2 else textS6 n.sp n.tx n.al.length n.ks.length)
    else if elemS n.sp n.lo n.tx n.al ≠ 0 then elemS n.sp n.lo n.tx n.al else chksN n.ks (deep + 1) true := by
  obtain ⟨t, sp, lo, al, ks, tx⟩ := n
  rw [chkN]
  rfl
theorem chksN_nil (deep : Nat) (may : Bool) : chksN [] deep may = 0 := by rw [chksN]
theorem chksN_cons (x : Nd) (r : List Nd) (deep : Nat) (may : Bool) : chksN (x :: r) deep may = if chkN x deep may ≠ 0 then chkN x deep may else chksN r deep (decide (x.lo ≠ ⟨#[]⟩)) := by rw [chksN]
theorem namedS_le (sp lo : ByteArray) (b : Bool) : namedS sp lo b ≤ 9 := by unfold namedS; split <;> (try split) <;> (try split) <;> omega
theorem attrsS_le : ∀ (al : List Atr) (seen : List (ByteArray × ByteArray)), attrsS seen al ≤ 9
  | [], _ => by unfold attrsS; omega
  | x :: r, seen => by
    unfold attrsS
    have h1 := namedS_le x.1 x.2.1 true
    have h2 := attrsS_le r (seen ++ [(x.1, x.2.1)])
    split
    · exact h1
    · split
      · omega
      · split
        · omega
        · exact h2
theorem elemS_le (sp lo tx : ByteArray) (al : List Atr) : elemS sp lo tx al ≤ 9 := by
  unfold elemS
  have := namedS_le sp lo false
  have := attrsS_le al []
  split <;> (try split) <;> omega
theorem textS6_le (sp tx : ByteArray) (a k : Nat) : textS6 sp tx a k ≤ 9 := by unfold textS6; split <;> (try split) <;> omega
mutual
theorem chkN_le : ∀ (n : Nd) (deep : Nat) (may : Bool), chkN n deep may ≤ 9
  | .mk t sp lo al ks tx, deep, may => by
    rw [chkN]
    have := elemS_le sp lo tx al
    have := textS6_le sp tx al.length ks.length
    have := chksN_le ks (deep + 1) true
    split <;> (try split) <;> (try split) <;> omega
theorem chksN_le : ∀ (l : List Nd) (deep : Nat) (may : Bool), chksN l deep may ≤ 9
  | [], _, _ => by rw [chksN]; omega
  | x :: r, deep, may => by
    rw [chksN]
    have := chkN_le x deep may
    have := chksN_le r deep (decide (x.lo ≠ ⟨#[]⟩))
    split <;> omega
end
theorem CheckN_le (n : Nd) : CheckN n ≤ 9 := chkN_le n 1 false

/-! Attributes in order. -/
def ltB6 (a b : ByteArray) : Bool := decide (a.data.toList < b.data.toList)
def ltA (x y : Atr) : Bool := ltB6 x.1 y.1 || (decide (x.1 = y.1) && ltB6 x.2.1 y.2.1)
def sortA (al : List Atr) : List Atr := al.mergeSort fun x y => !ltA y x
def nmA (x : Atr) : ByteArray × ByteArray := (x.1, x.2.1)
mutual
def sortN : Nd → Nd
  | .mk t sp lo al ks tx => .mk t sp lo (sortA al) (sortsN ks) tx
def sortsN : List Nd → List Nd
  | [] => []
  | x :: r => sortN x :: sortsN r
end
theorem sortsN_map : ∀ l : List Nd, sortsN l = l.map sortN
  | [] => by rw [sortsN]; rfl
  | x :: r => by rw [sortsN, sortsN_map r]; rfl

/-! Prefixes. -/
abbrev Pr6 := ByteArray × ByteArray
def dmnX : ByteArray := ⟨#[100, 109, 110]⟩
def xmlX : ByteArray := ⟨#[120, 109, 108]⟩
/-- A number's text. -/
def decL : Nat → Nat → List UInt8
  | 0, _ => []
  | f + 1, n => if n = 0 then [] else decL f (n / 10) ++ [UInt8.ofNat (48 + n % 10)]
def decB (n : Nat) : List UInt8 := decL (n + 1) n
def othersP (l : List Pr6) : Nat := l.countP fun p => !(decide (p.1 = dmnX)) && !(decide (p.1 = xmlX))
def freshP (l : List Pr6) (s : ByteArray) : ByteArray := if s = uriX then dmnX else if s = spX then xmlX else ⟨(110 :: decB (othersP l + 1)).toArray⟩
def hasS (l : List Pr6) (s : ByteArray) : Bool := l.any fun p => decide (p.2 = s)
def meetP (l : List Pr6) (s : ByteArray) : List Pr6 := if s = ⟨#[]⟩ ∨ hasS l s = true then l else l ++ [(freshP l s, s)]
def meetsP (l : List Pr6) (al : List Atr) : List Pr6 := al.foldl (fun l a => meetP l a.1) l
mutual
def metN : List Pr6 → Nd → List Pr6
  | l, .mk _ sp _ al ks _ => metsN (meetsP (meetP l sp) al) ks
def metsN : List Pr6 → List Nd → List Pr6
  | l, [] => l
  | l, x :: r => metsN (metN l x) r
end
def PrefN (n : Nd) : List Pr6 := metN [] (sortN n)

/-! Bytes. -/
def escC (value : Bool) (c : UInt8) : List UInt8 :=
  if c = 38 then [38, 97, 109, 112, 59] else if c = 60 then [38, 108, 116, 59] else if c = 62 then [38, 103, 116, 59] else if c = 13 then [38, 35, 49, 51, 59]
  else if value = true ∧ c = 34 then [38, 113, 117, 111, 116, 59] else if value = true ∧ c = 9 then [38, 35, 57, 59] else if value = true ∧ c = 10 then [38, 35, 49, 48, 59] else [c]
def escL (value : Bool) (s : ByteArray) : List UInt8 := s.data.toList.flatMap (escC value)
def nameL (l : List Pr6) (sp lo : ByteArray) : List UInt8 := match l.find? fun p => decide (p.2 = sp) with
  | some p => p.1.data.toList ++ (58 :: lo.data.toList)
  | none => lo.data.toList
def valL (v : ByteArray) : List UInt8 := [61, 34] ++ (escL true v ++ [34])
/-- The namespaces of the whole. -/
def spcL (l : List Pr6) : List UInt8 := l.flatMap fun p => if p.2 = spX then [] else [32, 120, 109, 108, 110, 115, 58] ++ (p.1.data.toList ++ valL p.2)
def atsL (l : List Pr6) (al : List Atr) : List UInt8 := al.flatMap fun a => 32 :: (nameL l a.1 a.2.1 ++ valL a.2.2)
mutual
def wrN (l : List Pr6) (whole : Bool) : Nd → List UInt8
  | .mk _ sp lo al ks tx => if lo = ⟨#[]⟩ then escL false tx else 60 :: (nameL l sp lo ++ ((if whole = true then spcL l else []) ++ (atsL l al ++ (if ks = [] then [47, 62] else 62 :: (wrsN l ks ++ ([60, 47] ++ (nameL l sp lo ++ [62])))))))
def wrsN (l : List Pr6) : List Nd → List UInt8
  | [] => []
  | x :: r => wrN l false x ++ wrsN l r
end
def WriteN (n : Nd) : ByteArray := ⟨(wrN (PrefN n) true (sortN n)).toArray⟩
end Go.Proofs.YtojeclfcgnamoaaDoor

namespace Go.Proofs.YtojeclfcgnamoaaDoor

theorem decL_stop (f : Nat) : decL f 0 = [] := by cases f <;> simp [decL]
theorem decL_go (f n : Nat) (h : n ≠ 0) : decL (f + 1) n = decL f (n / 10) ++ [UInt8.ofNat (48 + n % 10)] := by rw [decL, if_neg h]
theorem decL_more : ∀ (f g n : Nat), n ≤ f → n ≤ g → decL f n = decL g n
  | f, g, 0, _, _ => by rw [decL_stop, decL_stop]
  | 0, g, n + 1, h, _ => by omega
  | f + 1, 0, n + 1, _, h => by omega
  | f + 1, g + 1, n + 1, h1, h2 => by
    rw [decL_go f _ (by omega), decL_go g _ (by omega), decL_more f g ((n + 1) / 10) (by omega) (by omega)]
theorem decB_step (n : Nat) (h : n ≠ 0) : decB n = decB (n / 10) ++ [UInt8.ofNat (48 + n % 10)] := by
  unfold decB
  rw [decL_go n n h, decL_more n (n / 10 + 1) (n / 10) (by omega) (by omega)]
theorem decB_zero : decB 0 = [] := rfl
theorem digit_inj {a b : Nat} (ha : a < 10) (hb : b < 10) (h : UInt8.ofNat (48 + a) = UInt8.ofNat (48 + b)) : a = b := by
  have h1 := congrArg UInt8.toNat h
  simp at h1
  omega
theorem decB_inj : ∀ n m : Nat, decB n = decB m → n = m := by
  intro n
  induction n using Nat.strongRecOn with
  | _ n ih =>
    intro m h
    by_cases hn : n = 0
    · subst hn
      by_cases hm : m = 0
      · exact hm.symm
      · rw [decB_zero, decB_step m hm] at h
        exact absurd h.symm (by simp)
    · by_cases hm : m = 0
      · subst hm
        rw [decB_zero, decB_step n hn] at h
        exact absurd h (by simp)
      · rw [decB_step n hn, decB_step m hm] at h
        obtain ⟨h1, h2⟩ := List.append_inj' h rfl
        have h3 := ih (n / 10) (by omega) (m / 10) h1
        injection h2 with h2 _
        have h4 := digit_inj (by omega) (by omega) h2
        omega
theorem decB_digits : ∀ n : Nat, ∀ c ∈ decB n, 48 ≤ c.toNat ∧ c.toNat ≤ 57 := by
  intro n
  induction n using Nat.strongRecOn with
  | _ n ih =>
    by_cases hn : n = 0
    · subst hn; intro c hc; simp [decB_zero] at hc
    · rw [decB_step n hn]
      intro c hc
      rcases List.mem_append.1 hc with hc | hc
      · exact ih _ (by omega) c hc
      · simp at hc
        subst hc
        simp
        omega
theorem decB_len : ∀ k n : Nat, n < 10 ^ k → (decB n).length ≤ k
  | 0, n, h => by
    obtain rfl : n = 0 := by omega
    simp [decB_zero]
  | k + 1, n, h => by
    by_cases hn : n = 0
    · subst hn; simp [decB_zero]
    · rw [decB_step n hn, List.length_append, List.length_singleton]
      have := decB_len k (n / 10) (by rw [Nat.pow_succ] at h; omega)
      omega
def numP (i : Nat) : ByteArray := ⟨(110 :: decB i).toArray⟩
theorem numP_inj {i j : Nat} (h : numP i = numP j) : i = j := by
  have h1 := congrArg (fun x : ByteArray => x.data.toList) h
  simp [numP] at h1
  exact decB_inj i j h1
theorem numP_ne (i : Nat) : numP i ≠ dmnX ∧ numP i ≠ xmlX := by
  constructor
  · intro h
    have h1 := congrArg (fun x : ByteArray => x.data.toList) h
    simp [numP, dmnX] at h1
  · intro h
    have h1 := congrArg (fun x : ByteArray => x.data.toList) h
    simp [numP, xmlX] at h1
/-- What a prefix is. -/
def PrOK (n : Nat) (p : Pr6) : Prop := p.2 ≠ ⟨#[]⟩ ∧ ((p.2 = uriX ∧ p.1 = dmnX) ∨ (p.2 = spX ∧ p.1 = xmlX) ∨ (p.2 ≠ uriX ∧ p.2 ≠ spX ∧ ∃ i, 1 ≤ i ∧ i ≤ n ∧ p.1 = numP i))
structure PrefOK (l : List Pr6) : Prop where
  each : ∀ p ∈ l, PrOK (othersP l) p
  spaces : (l.map Prod.snd).Nodup
  names : (l.map Prod.fst).Nodup
theorem hasS_iff (l : List Pr6) (s : ByteArray) : hasS l s = true ↔ s ∈ l.map Prod.snd := by
  unfold hasS
  rw [List.any_eq_true, List.mem_map]
  constructor
  · rintro ⟨p, h1, h2⟩
    exact ⟨p, h1, of_decide_eq_true h2⟩
  · rintro ⟨p, h1, h2⟩
    exact ⟨p, h1, decide_eq_true h2⟩
theorem uri_ne : uriX ≠ spX ∧ uriX ≠ ⟨#[]⟩ ∧ spX ≠ ⟨#[]⟩ ∧ dmnX ≠ xmlX := by decide +kernel
theorem PrefOK.nil : PrefOK [] := ⟨by simp, by simp, by simp⟩
theorem othersP_snoc (l : List Pr6) (p : Pr6) : othersP (l ++ [p]) = othersP l + if p.1 ≠ dmnX ∧ p.1 ≠ xmlX then 1 else 0 := by
  unfold othersP
  rw [List.countP_append, List.countP_singleton]
  by_cases h1 : p.1 = dmnX
  · simp [h1]
  · by_cases h2 : p.1 = xmlX
    · simp [h2]
    · simp [h1, h2]
theorem PrefOK.meet {l : List Pr6} (h : PrefOK l) (s : ByteArray) : PrefOK (meetP l s) := by
  unfold meetP
  split
  · exact h
  · rename_i hs
    have h0 : s ≠ ⟨#[]⟩ := fun e => hs (.inl e)
    have h1 : s ∉ l.map Prod.snd := fun e => hs (.inr ((hasS_iff l s).2 e))
    have hot := othersP_snoc l (freshP l s, s)
    dsimp only at hot
    have hfr : (s = uriX ∧ freshP l s = dmnX) ∨ (s = spX ∧ freshP l s = xmlX) ∨ (s ≠ uriX ∧ s ≠ spX ∧ freshP l s = numP (othersP l + 1)) := by
      unfold freshP
      by_cases e1 : s = uriX
      · exact .inl ⟨e1, by rw [if_pos e1]⟩
      · by_cases e2 : s = spX
        · exact .inr (.inl ⟨e2, by rw [if_neg e1, if_pos e2]⟩)
        · exact .inr (.inr ⟨e1, e2, by rw [if_neg e1, if_neg e2]; rfl⟩)
    have hle : othersP l ≤ othersP (l ++ [(freshP l s, s)]) := by rw [hot]; omega
    refine ⟨fun p hp => ?_, ?_, ?_⟩
    · rcases List.mem_append.1 hp with hp | hp
      · obtain ⟨g0, g⟩ := h.each p hp
        exact ⟨g0, g.imp id (fun g => g.imp id fun ⟨a, b, i, c, d, e⟩ => ⟨a, b, i, c, by omega, e⟩)⟩
      · obtain rfl : p = (freshP l s, s) := by simpa using hp
        refine ⟨h0, ?_⟩
        rcases hfr with hfr | hfr | ⟨e1, e2, e3⟩
        · exact .inl hfr
        · exact .inr (.inl hfr)
        · refine .inr (.inr ⟨e1, e2, othersP l + 1, by omega, ?_, e3⟩)
          rw [hot, if_pos (by rw [e3]; exact numP_ne _)]
          omega
    · rw [List.map_append, List.nodup_append]
      refine ⟨h.spaces, by simp, fun a ha b hb => ?_⟩
      simp at hb
      subst hb
      intro e
      exact h1 (e ▸ ha)
    · rw [List.map_append, List.nodup_append]
      refine ⟨h.names, by simp, fun a ha b hb => ?_⟩
      simp at hb
      subst hb
      intro e
      obtain ⟨p, hp, rfl⟩ := List.mem_map.1 ha
      have hne : p.2 ≠ s := fun e2 => h1 (List.mem_map.2 ⟨p, hp, e2⟩)
      obtain ⟨_, g⟩ := h.each p hp
      rcases hfr with ⟨f1, f2⟩ | ⟨f1, f2⟩ | ⟨f1, f2, f3⟩
      · rw [f2] at e
        rcases g with ⟨g1, _⟩ | ⟨_, g2⟩ | ⟨_, _, i, _, _, g5⟩
        · exact hne (g1.trans f1.symm)
        · exact uri_ne.2.2.2 (e.symm.trans g2)
        · exact (numP_ne i).1 (g5.symm.trans e)
      · rw [f2] at e
        rcases g with ⟨_, g2⟩ | ⟨g1, _⟩ | ⟨_, _, i, _, _, g5⟩
        · exact uri_ne.2.2.2 (g2.symm.trans e)
        · exact hne (g1.trans f1.symm)
        · exact (numP_ne i).2 (g5.symm.trans e)
      · rw [f3] at e
        rcases g with ⟨_, g2⟩ | ⟨_, g2⟩ | ⟨_, _, i, _, g4, g5⟩
        · exact (numP_ne _).1 (e.symm.trans g2)
        · exact (numP_ne _).2 (e.symm.trans g2)
        · have := numP_inj (g5.symm.trans e)
          omega
theorem mem_meet {l : List Pr6} {s : ByteArray} : ∀ p ∈ l, p ∈ meetP l s := fun p hp => by
  unfold meetP
  split
  · exact hp
  · exact List.mem_append_left _ hp
theorem meet_has (l : List Pr6) (s : ByteArray) (h : s ≠ ⟨#[]⟩) : s ∈ (meetP l s).map Prod.snd := by
  unfold meetP
  split
  · rename_i hh
    exact (hasS_iff l s).1 (hh.resolve_left h)
  · simp
theorem PrefOK.meets : ∀ {al : List Atr} {l : List Pr6}, PrefOK l → PrefOK (meetsP l al)
  | [], _, h => h
  | a :: r, _, h => PrefOK.meets (al := r) (h.meet a.1)
theorem mem_meets : ∀ {al : List Atr} {l : List Pr6}, ∀ p ∈ l, p ∈ meetsP l al
  | [], _, _, hp => hp
  | _ :: r, _, p, hp => mem_meets (al := r) p (mem_meet p hp)
mutual
theorem PrefOK.met : ∀ (n : Nd) {l : List Pr6}, PrefOK l → PrefOK (metN l n)
  | .mk t sp lo al ks tx, l, h => by
    rw [metN]
    exact PrefOK.mets ks ((h.meet sp).meets)
theorem PrefOK.mets : ∀ (ks : List Nd) {l : List Pr6}, PrefOK l → PrefOK (metsN l ks)
  | [], _, h => by rw [metsN]; exact h
  | x :: r, l, h => by rw [metsN]; exact PrefOK.mets r (PrefOK.met x h)
end
mutual
theorem mem_met : ∀ (n : Nd) {l : List Pr6}, ∀ p ∈ l, p ∈ metN l n
  | .mk t sp lo al ks tx, l, p, hp => by
    rw [metN]
    exact mem_mets ks p (mem_meets p (mem_meet p hp))
theorem mem_mets : ∀ (ks : List Nd) {l : List Pr6}, ∀ p ∈ l, p ∈ metsN l ks
  | [], _, p, hp => by rw [metsN]; exact hp
  | x :: r, l, p, hp => by rw [metsN]; exact mem_mets r p (mem_met x p hp)
end
theorem prefN_ok (n : Nd) : PrefOK (PrefN n) := PrefOK.met _ PrefOK.nil
/-- All that a tree's names have is among the prefixes. -/
def inP (l : List Pr6) (s : ByteArray) : Prop := s = ⟨#[]⟩ ∨ s ∈ l.map Prod.snd
theorem inP_mono {l m : List Pr6} (h : ∀ p ∈ l, p ∈ m) {s : ByteArray} (hs : inP l s) : inP m s := hs.imp id fun hs => by
  obtain ⟨p, hp, rfl⟩ := List.mem_map.1 hs
  exact List.mem_map.2 ⟨p, h p hp, rfl⟩
theorem inP_meet (l : List Pr6) (s : ByteArray) : inP (meetP l s) s := by
  by_cases h : s = ⟨#[]⟩
  · exact .inl h
  · exact .inr (meet_has l s h)
theorem inP_meets : ∀ (al : List Atr) (l : List Pr6), ∀ a ∈ al, inP (meetsP l al) a.1
  | x :: r, l, a, ha => by
    rcases List.mem_cons.1 ha with rfl | ha
    · exact inP_mono (fun p hp => mem_meets (al := r) p hp) (inP_meet l a.1)
    · exact inP_meets r _ a ha
mutual
def covN (l : List Pr6) : Nd → Prop
  | .mk _ sp _ al ks _ => inP l sp ∧ (∀ a ∈ al, inP l a.1) ∧ covsN l ks
def covsN (l : List Pr6) : List Nd → Prop
  | [] => True
  | x :: r => covN l x ∧ covsN l r
end
mutual
theorem covN_mono {l m : List Pr6} (h : ∀ p ∈ l, p ∈ m) : ∀ n : Nd, covN l n → covN m n
  | .mk t sp lo al ks tx, hc => by
    rw [covN] at hc ⊢
    exact ⟨inP_mono h hc.1, fun a ha => inP_mono h (hc.2.1 a ha), covsN_mono h ks hc.2.2⟩
theorem covsN_mono {l m : List Pr6} (h : ∀ p ∈ l, p ∈ m) : ∀ ks : List Nd, covsN l ks → covsN m ks
  | [], _ => by rw [covsN]; trivial
  | x :: r, hc => by
    rw [covsN] at hc ⊢
    exact ⟨covN_mono h x hc.1, covsN_mono h r hc.2⟩
end
mutual
theorem cov_met : ∀ (n : Nd) (l : List Pr6), covN (metN l n) n
  | .mk t sp lo al ks tx, l => by
    rw [covN, metN]
    refine ⟨inP_mono (fun p hp => mem_mets ks p (mem_meets p hp)) (inP_meet l sp), fun a ha => inP_mono (fun p hp => mem_mets ks p hp) (inP_meets al _ a ha), cov_mets ks _⟩
theorem cov_mets : ∀ (ks : List Nd) (l : List Pr6), covsN (metsN l ks) ks
  | [], l => by rw [covsN]; trivial
  | x :: r, l => by
    rw [covsN, metsN]
    exact ⟨covN_mono (fun p hp => mem_mets r p hp) x (cov_met x l), cov_mets r _⟩
end
/-- A namespace's prefix. -/
def pfxP (l : List Pr6) (s : ByteArray) : Option ByteArray := (l.find? fun p => decide (p.2 = s)).map Prod.fst
theorem nameL_pfx (l : List Pr6) (sp lo : ByteArray) : nameL l sp lo = match pfxP l sp with | some p => p.data.toList ++ (58 :: lo.data.toList) | none => lo.data.toList := by
  unfold nameL pfxP
  cases l.find? fun p => decide (p.2 = sp) <;> rfl
theorem pfx_none {l : List Pr6} (h : PrefOK l) : pfxP l ⟨#[]⟩ = none := by
  unfold pfxP
  rw [List.find?_eq_none.2 fun p hp => by simpa using (h.each p hp).1]
  rfl
theorem pfx_some {l : List Pr6} {s : ByteArray} (h : s ∈ l.map Prod.snd) : ∃ p, (p, s) ∈ l ∧ pfxP l s = some p := by
  obtain ⟨q, hq, rfl⟩ := List.mem_map.1 h
  unfold pfxP
  cases hf : l.find? fun p => decide (p.2 = q.2) with
  | none => exact absurd (List.find?_eq_none.1 hf q hq) (by simp)
  | some p =>
    have h1 := List.mem_of_find?_eq_some hf
    have h2 := List.find?_some hf
    obtain ⟨p1, p2⟩ := p
    have h3 : p2 = q.2 := of_decide_eq_true h2
    exact ⟨p1, h3 ▸ h1, rfl⟩
end Go.Proofs.YtojeclfcgnamoaaDoor

namespace Go.Proofs.YtojeclfcgnamoaaDoor
open Go.RowKit

/-- The blocks of S are emptied. -/
def hole (W : World) (S : Nat → Bool) : World := { W with heap := W.heap.mapIdx fun k o => if S k = true then Obj.cells #[] 0 else o }
theorem hole_size (W : World) (S : Nat → Bool) : (hole W S).heap.size = W.heap.size := by simp [hole]
theorem hole_at (W : World) (S : Nat → Bool) (k : Nat) : (hole W S).heap[k]? = (W.heap[k]?).map fun o => if S k = true then Obj.cells #[] 0 else o := by simp [hole]
theorem hole_cell {W : World} {S : Nat → Bool} {p : Addr} {v : Value} (h : (hole W S).cell? p = some v) : W.cell? p = some v := by
  cases hS : S p.block with
  | true =>
    exfalso
    unfold World.cell? at h
    rw [hole_at, hS] at h
    cases hh : W.heap[p.block]? with
    | none => rw [hh] at h; simp at h
    | some o => rw [hh] at h; simp at h
  | false =>
    unfold World.cell? at h ⊢
    rw [hole_at, hS] at h
    cases hh : W.heap[p.block]? with
    | none => rw [hh] at h; simp at h
    | some o => rw [hh] at h; simpa using h
theorem hole_cell_of {W : World} {S : Nat → Bool} {p : Addr} (hS : S p.block = false) : (hole W S).cell? p = W.cell? p := by
  unfold World.cell?
  rw [hole_at, hS]
  cases hh : W.heap[p.block]? <;> simp
theorem hole_bel {W W' : World} (h : Bel W W') (S : Nat → Bool) : Bel (hole W S) (hole W' S) :=
  ⟨h.os, h.tape, h.output, by rw [hole_size, hole_size]; exact h.size, fun k hk => by
    rw [hole_size] at hk
    rw [hole_at, hole_at, h.block hk]⟩
theorem hole_set {W : World} {S : Nat → Bool} {p : Addr} (hS : S p.block = true) (v : Value) (k : Nat) : (hole (W.setCell p v) S).heap[k]? = (hole W S).heap[k]? := by
  rw [hole_at, hole_at]
  by_cases hk : k = p.block
  · subst hk
    rw [hS]
    simp only [World.setCell, Array.getElem?_modify]
    cases W.heap[p.block]? <;> simp
  · rw [Below.heap_setCell W p v k hk]
/-- What reads as much elsewhere holds there. -/
structure Reads (U W : World) : Prop where
  cell : ∀ p v, U.cell? p = some v → W.cell? p = some v
  size : U.heap.size ≤ W.heap.size
theorem AttrsV.reads {U W : World} (hr : Reads U W) {v : Value} {al : List Atr} (h : AttrsV U v al) : AttrsV W v al := by
  obtain ⟨a, cap, h1, h2, h3⟩ := h
  refine ⟨a, cap, h1, h2, h3.imp id fun ⟨b, off, h4, h5, h6⟩ => ⟨b, off, h4, Nat.lt_of_lt_of_le h5 hr.size, fun j x hx => ?_⟩⟩
  obtain ⟨c0, c1, c2⟩ := h6 j x hx
  exact ⟨hr.cell _ _ c0, hr.cell _ _ c1, hr.cell _ _ c2⟩
mutual
theorem NdAt.reads {U W : World} (hr : Reads U W) : ∀ (e : Nd) {va vk : Value}, NdAt U e va vk → NdAt W e va vk
  | .mk t sp lo al ks tx, va, vk, h => by
    unfold NdAt at h ⊢
    obtain ⟨h1, hk, a, cap, h2, h3, h4⟩ := h
    refine ⟨h1.reads hr, hk, a, cap, h2, h3, h4.imp id fun ⟨b, off, h5, h6, h7⟩ => ⟨b, off, h5, Nat.lt_of_lt_of_le h6 hr.size, NdsAt.reads hr ks h7⟩⟩
theorem NdsAt.reads {U W : World} (hr : Reads U W) {b : Nat} : ∀ (l : List Nd) {off : Nat}, NdsAt U b off l → NdsAt W b off l
  | [], _, _ => by unfold NdsAt; trivial
  | .mk t sp lo al ks tx :: r, off, h => by
    unfold NdsAt at h ⊢
    obtain ⟨⟨va, vk, c0, c1, c2, c3, c4, c5, h1⟩, h2⟩ := h
    exact ⟨⟨va, vk, hr.cell _ _ c0, hr.cell _ _ c1, hr.cell _ _ c2, hr.cell _ _ c3, hr.cell _ _ c4, hr.cell _ _ c5, NdAt.reads hr _ h1⟩, NdsAt.reads hr r h2⟩
end
theorem reads_hole (W : World) (S : Nat → Bool) : Reads (hole W S) W := ⟨fun _ _ h => hole_cell h, by rw [hole_size]; exact Nat.le_refl _⟩
theorem reads_less {W : World} {S S' : Nat → Bool} (h : ∀ k, S k = true → S' k = true) : Reads (hole W S') (hole W S) := ⟨fun p v hp => by
  cases hS : S p.block with
  | false => rw [hole_cell_of hS]; exact hole_cell hp
  | true =>
    exfalso
    unfold World.cell? at hp
    rw [hole_at, h _ hS] at hp
    cases hh : W.heap[p.block]? with
    | none => rw [hh] at hp; simp at hp
    | some o => rw [hh] at hp; simp at hp, by rw [hole_size, hole_size]; exact Nat.le_refl _⟩
theorem reads_set {W : World} {S : Nat → Bool} {p : Addr} (hS : S p.block = true) (v : Value) : Reads (hole W S) (hole (W.setCell p v) S) :=
  ⟨fun q u h => by unfold World.cell? at h ⊢; rw [hole_set hS]; exact h, by rw [hole_size, hole_size, World.size_setCell]; exact Nat.le_refl _⟩
theorem AttrsV.hole {W : World} {S : Nat → Bool} {a : Option Addr} {n c : Nat} {al : List Atr} (h : AttrsV W (.slice a n c) al) (hS : ∀ b off, a = some ⟨b, off, none⟩ → S b = false) : AttrsV (hole W S) (.slice a n c) al := by
  obtain ⟨a', cap, h1, h2, h3⟩ := h
  injection h1 with e1 e2 e3
  subst e1
  refine ⟨a, cap, by rw [e2, e3], h2, h3.imp id fun ⟨b, off, h4, h5, h6⟩ => ⟨b, off, h4, by rw [hole_size]; exact h5, fun j x hx => ?_⟩⟩
  obtain ⟨c0, c1, c2⟩ := h6 j x hx
  have hb := hS b off h4
  exact ⟨(hole_cell_of (p := ⟨b, _, none⟩) hb).trans c0, (hole_cell_of (p := ⟨b, _, none⟩) hb).trans c1, (hole_cell_of (p := ⟨b, _, none⟩) hb).trans c2⟩
theorem hole_lt {W : World} {S : Nat → Bool} {p : Addr} {v : Value} (h : (hole W S).cell? p = some v) : p.block < W.heap.size ∧ S p.block = false := by
  refine ⟨?_, ?_⟩
  · rcases Nat.lt_or_ge p.block W.heap.size with h' | h'
    · exact h'
    · unfold World.cell? at h
      rw [hole_at, Array.getElem?_eq_none h'] at h
      simp at h
  · cases hS : S p.block with
    | false => rfl
    | true =>
      exfalso
      unfold World.cell? at h
      rw [hole_at, hS] at h
      cases hh : W.heap[p.block]? with
      | none => rw [hh] at h; simp at h
      | some o => rw [hh] at h; simp at h
/-- What was there ahead reads no newer block. -/
theorem reads_grow {W W' : World} {S S' : Nat → Bool} (hb : Bel W W') (hS : ∀ k, k < W.heap.size → S' k = true → S k = true) : Reads (hole W S) (hole W' S') :=
  ⟨fun p v h => by
    obtain ⟨h1, h2⟩ := hole_lt h
    have h3 : S' p.block = false := by
      cases hh : S' p.block with
      | false => rfl
      | true => rw [hS _ h1 hh] at h2; cases h2
    rw [hole_cell_of h3]
    have h4 := hole_cell h
    unfold World.cell? at h4 ⊢
    rw [hb.block h1]
    exact h4, by rw [hole_size, hole_size]; exact hb.size⟩
/-- A row of one's own begins at no older block. -/
theorem own_blk {W : World} {B e m n c k : Nat} {a : Option Addr} {xs : List Value} (h : W.ownsRow B e m (.slice a n c) k xs) : ∀ b off, a = some ⟨b, off, none⟩ → B ≤ b ∧ b < W.heap.size := fun b off hb => by
  obtain ⟨_, ⟨e0, _⟩ | ⟨g, cap, cur, e0, hg, hh, _⟩⟩ := h
  · injection e0 with e1; rw [e1] at hb; cases hb
  · injection e0 with e1
    rw [e1] at hb
    injection hb with hb
    injection hb with hb
    have := (Array.getElem?_eq_some_iff.1 hh).1
    omega
end Go.Proofs.YtojeclfcgnamoaaDoor
