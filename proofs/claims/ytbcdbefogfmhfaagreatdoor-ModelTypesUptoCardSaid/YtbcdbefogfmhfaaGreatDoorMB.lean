/-
  Small lemmas and laws of the walk that all texts of this seat use; they name no function of the program.
  Plain functions that say what the layers utf and names compute: no program in sight.
  append of one element onto a slice that the call owns; the blocks beside its row are as they were.
  A block of memory whose cells are known; a slice of structs.
-/
import Derived.WalkKit
import Derived.WalkSpells
import Derived.WalkLawsBesides
import Derived.WalkSmall
import Derived.Deep.Light
import Derived.Lib.Hide
import Derived.Laws.IdiomStrings
import Derived.Laws.AppendOwn
import Derived.Maps.AppendAt
import Derived.RangeFuncBox
import Derived.Laws.RangeAny
import Derived.Lib.DecodeN
import Derived.Lib.CutLaws
import Derived.Lib.SplitLaws
import Derived.Laws.AppendOwnNone
import Derived.Laws.OwnMore
import Derived.Below
namespace Go.Proofs.YtbcdbefogfmhfaaGreatDoor
open Go.RowKit
theorem bool_ext {a b : Bool} (h : a = true ↔ b = true) : a = b := by cases a <;> cases b <;> simp_all
theorem ret_bool {a b : Bool} (h : a = b) : Ending.returned (.bool a) = .returned (.bool b) := by rw [h]
theorem ret_int {k : IntKind} {a b : Int} (h : a = b) : Ending.returned (.int k a) = .returned (.int k b) := by rw [h]
theorem int_eq {k : IntKind} {a b : Int} (h : a = b) : Value.int k a = Value.int k b := by rw [h]
theorem bool_eq {a b : Bool} (h : a = b) : Value.bool a = Value.bool b := by rw [h]
theorem tup3 {a b c a' b' c' : Value} (h1 : a = a') (h2 : b = b') (h3 : c = c') : Ending.returned (.tuple #[a, b, c]) = Ending.returned (.tuple #[a', b', c']) := by rw [h1, h2, h3]
theorem bcell {W w1 : World} (hb : Below W.heap.size W w1) : (∀ b o, b < W.heap.size → w1.cell? ⟨b, o, none⟩ = W.cell? ⟨b, o, none⟩) ∧ (∀ b o, b < W.heap.size → w1.frozen? ⟨b, o, none⟩ = W.frozen? ⟨b, o, none⟩) :=
  ⟨fun b o h => hb.cell (p := ⟨b, o, none⟩) h, fun b o h => hb.frozen (p := ⟨b, o, none⟩) h⟩
theorem cell_lt {w : World} {b o : Nat} {v : Value} (h : w.cell? ⟨b, o, none⟩ = some v) : b < w.heap.size := by
  unfold World.cell? at h
  split at h
  · rename_i hh; exact (Array.getElem?_eq_some_iff.1 hh).1
  · cases h
/-- In w' all that was in w is as it was. -/
def Bel (w w' : World) : Prop := Below w.heap.size w w'
theorem Bel.refl (w : World) : Bel w w := Below.refl _ _
theorem Bel.trans {a b c : World} (h : Bel a b) (k : Bel b c) : Bel a c := Below.trans h (Below.mono k (Below.size h))
theorem Bel.size {a b : World} (h : Bel a b) : a.heap.size ≤ b.heap.size := Below.size h
theorem Bel.drew (w : World) : Bel w w.drew := (Below.refl _ w).drew
theorem Bel.drewN (w : World) (n : Nat) : Bel w (w.drewN n) := below_drewN (Below.refl _ w) n
theorem Bel.alloc (w : World) (o : Obj) : Bel w (w.alloc o) := (Below.refl _ w).alloc (Nat.le_refl _) o
theorem Bel.to_drew {a w : World} (h : Bel a w) : Bel a w.drew := Below.drew h
theorem Bel.to_drewN {a w : World} (h : Bel a w) (n : Nat) : Bel a (w.drewN n) := below_drewN h n
theorem Bel.to_alloc {a w : World} (h : Bel a w) (o : Obj) : Bel a (w.alloc o) := Below.alloc h (Below.size h) o
theorem Bel.to_setCell {a w : World} (h : Bel a w) {p : Addr} (hp : a.heap.size ≤ p.block) (v : Value) : Bel a (w.setCell p v) := Below.setCell h hp v
theorem Bel.cell {a b : World} (h : Bel a b) {k o : Nat} (hk : k < a.heap.size) : b.cell? ⟨k, o, none⟩ = a.cell? ⟨k, o, none⟩ := (bcell h).1 k o hk
theorem Bel.frozen {a b : World} (h : Bel a b) {k o : Nat} (hk : k < a.heap.size) : b.frozen? ⟨k, o, none⟩ = a.frozen? ⟨k, o, none⟩ := (bcell h).2 k o hk
theorem Bel.block {a b : World} (h : Bel a b) {k : Nat} (hk : k < a.heap.size) : b.heap[k]? = a.heap[k]? := Below.block h k hk
theorem Bel.keep {a b : World} (h : Bel a b) {k o : Nat} {v : Value} (hc : a.cell? ⟨k, o, none⟩ = some v) : b.cell? ⟨k, o, none⟩ = some v := (h.cell (cell_lt hc)).trans hc
/-- v is a slice (not nil) of elements of one cell each, that reads as xs. -/
def RowAt (W : World) (v : Value) (xs : List Value) : Prop :=
  ∃ b off cap, v = .slice (some ⟨b, off, none⟩) xs.length cap ∧ xs.length ≤ cap ∧ b < W.heap.size ∧ ∀ j, (h : j < xs.length) → W.cell? ⟨b, off + j, none⟩ = some xs[j]
/-- .. nil, too. -/
def RowAt0 (W : World) (v : Value) (xs : List Value) : Prop := (v = .slice none 0 0 ∧ xs = []) ∨ RowAt W v xs
theorem RowAt.bel {W W' : World} {v : Value} {xs : List Value} (h : RowAt W v xs) (hb : Bel W W') : RowAt W' v xs := by
  obtain ⟨b, off, cap, rfl, hcap, hlt, hc⟩ := h
  exact ⟨b, off, cap, rfl, hcap, Nat.lt_of_lt_of_le hlt hb.size, fun j hj => by rw [hb.cell hlt]; exact hc j hj⟩
theorem RowAt0.bel {W W' : World} {v : Value} {xs : List Value} (h : RowAt0 W v xs) (hb : Bel W W') : RowAt0 W' v xs := h.imp id (fun h => h.bel hb)
/-- v is a slice of cells that reads as xs; an empty one may point anywhere. -/
def RowE (W : World) (v : Value) (xs : List Value) : Prop :=
  ∃ a cap, v = .slice a xs.length cap ∧ xs.length ≤ cap ∧ (xs = [] ∨ ∃ b off, a = some ⟨b, off, none⟩ ∧ b < W.heap.size ∧ ∀ j, (h : j < xs.length) → W.cell? ⟨b, off + j, none⟩ = some xs[j])
theorem RowE.bel {W W' : World} {v : Value} {xs : List Value} (h : RowE W v xs) (hb : Bel W W') : RowE W' v xs := by
  obtain ⟨a, cap, h1, h2, h3⟩ := h
  refine ⟨a, cap, h1, h2, h3.imp id fun ⟨b, off, h4, h5, h6⟩ => ⟨b, off, h4, Nat.lt_of_lt_of_le h5 hb.size, fun j hj => (hb.cell h5).trans (h6 j hj)⟩⟩
theorem RowAt0.toE {W : World} {v : Value} {xs : List Value} (h : RowAt0 W v xs) : RowE W v xs := by
  rcases h with ⟨rfl, rfl⟩ | ⟨b, off, cap, rfl, hcap, hlt, hc⟩
  · exact ⟨none, 0, rfl, Nat.le_refl _, .inl rfl⟩
  · exact ⟨some ⟨b, off, none⟩, cap, rfl, hcap, .inr ⟨b, off, rfl, hlt, hc⟩⟩
theorem RowE.to0 {W : World} {v : Value} {xs : List Value} (h : RowE W v xs) (hne : xs ≠ []) : RowAt0 W v xs := by
  obtain ⟨a, cap, rfl, hcap, h | ⟨b, off, rfl, hlt, hc⟩⟩ := h
  · exact absurd h hne
  · exact .inr ⟨b, off, cap, rfl, hcap, hlt, hc⟩
/-- v is a slice of bytes that reads as s (not nil). -/
def BytesAt (W : World) (v : Value) (s : ByteArray) : Prop :=
  ∃ b off cap, v = .slice (some ⟨b, off, none⟩) s.size cap ∧ b < W.heap.size ∧ (∀ j, j < s.size → W.cell? ⟨b, off + j, none⟩ = some (.int .u8 (s.get! j).toNat)) ∧ s.size ≤ cap
theorem BytesAt.bel {W W' : World} {v : Value} {s : ByteArray} (h : BytesAt W v s) (hb : Bel W W') : BytesAt W' v s := by
  obtain ⟨b, off, cap, rfl, hlt, hc, hcap⟩ := h
  exact ⟨b, off, cap, rfl, Nat.lt_of_lt_of_le hlt hb.size, fun j hj => by rw [hb.cell hlt]; exact hc j hj, hcap⟩
theorem get_bang (s : ByteArray) (j : Nat) (hj : j < s.data.size) : s.get! j = s.data[j] := by
  have : s.get! j = s[j] := by simpa using get_at s j hj
  rw [this]; rfl
/-- '[]byte(s)' at an operation of the walk: some slice that reads as s, in a later world. -/
theorem wpL_bytes {P : Program} {ops : Array Oper} {rest : List Oper} {o : Oper} {a : Act} {w : World} {Q : Exit → Act → World → Prop}
    (hg : o.guard = none) (src dst e : TypeId) (x : Operand) (hop : o.op = Op.convert src dst x) (s : ByteArray) (hx : a.eval x = .string s)
    (hs : P.underlying src = some .string) (hd : P.underlying dst = some (.slice e)) (he : P.underlying e = some (.int .u8))
    (hK : ∀ v W', BytesAt W' v s → Bel w W' → wpList P ops Q rest (a.put o.dst v) W') : wpList P ops Q (o :: rest) a w := by
  refine wpList_plain hg fun K hK' => ?_
  unfold Oper.wp
  have hrun := run_bytes_of_string w src dst e s hs hd he
  have hb : Below w.heap.size w (w.drew.alloc (.cells (bytesRow s (grownCap w s.size 0 e)) e ((bytesRow s (grownCap w s.size 0 e)).size, (bytesRow s (grownCap w s.size 0 e)).size + 1))) := ((Below.refl _ w).drew).alloc (Nat.le_refl _) _
  simp only [execOp, hop, hx, Sem.run_bind, hrun, Result.andThen, Oper.upon]
  refine hK' _ _ (hK _ _ ⟨w.heap.size, 0, _, rfl, ?_, fun j hj => ?_, ?_⟩ hb)
  · show w.heap.size < (w.heap.push _).size
    simp
  · have h1 := bytesRow_at s (grownCap w s.size 0 e) j hj
    rw [get_bang s j hj, ← h1]
    simp only [World.cell?]
    rw [show (w.drew.alloc (.cells (bytesRow s (grownCap w s.size 0 e)) e ((bytesRow s (grownCap w s.size 0 e)).size, (bytesRow s (grownCap w s.size 0 e)).size + 1))).heap[w.heap.size]? = some _ from (show (w.heap.push _)[w.heap.size]? = _ from Array.getElem?_push_size)]
    simp
  · simp only [grownCap, Question.cut]; omega
theorem get_extract (s : ByteArray) (i j : Nat) (h : i + j < s.size) : (s.extract i s.size).get! j = s.get! (i + j) := by
  have h1 : j < (s.extract i s.size).data.size := by show j < (s.extract i s.size).size; simp; omega
  rw [get_bang _ _ h1, get_bang _ _ h]
  simp
/-- 'append(s, x)' of one element onto a slice that the call owns since the world W1. -/
theorem wpL_append1 {P : Program} {ops : Array Oper} {rest : List Oper} {o : Oper} {a : Act} {w : World} {Q : Exit → Act → World → Prop}
    (hg : o.guard = none) (s x : Operand) (t : TypeId) (ho : o.op = .call { callee := .builtin .append, args := #[s, x], argTypes := #[t, t] })
    (W1 : World) (e : TypeId) (z : Value) (size bytes : Nat) (ht : P.underlying t = some (.slice e)) (hinfo : (P.info? e).map (fun i => (i.zero, i.size, i.bytes)) = some (some z, size, bytes))
    (hzs : z.cells.size = size) (hsz : 0 < size) (hby : bytes ≤ 4096) (v : Value) (n : Nat) (xs : List Value) (hs : a.eval s = v) (hown : w.ownsRow W1.heap.size e size v n xs)
    (ad : Addr) (c : Nat) (news : List Value) (hx : a.eval x = .slice (some ad) 1 c) (hl : news.length = size) (hnews : ∀ j u, news[j]? = some u → w.cell? (ad.add j) = some u) (h1 : ∀ u ∈ news, u.oneCell' = true)
    (hn : n ≤ 4294967296) (hb : Bel W1 w)
    (hK : ∀ g cap w', w'.ownsRow W1.heap.size e size (.slice (some ⟨g, 0, none⟩) (n + 1) cap) (n + 1) (xs ++ news) → Bel W1 w' → w.heap.size ≤ w'.heap.size → wpList P ops Q rest (a.put o.dst (.slice (some ⟨g, 0, none⟩) (n + 1) cap)) w') :
    wpList P ops Q (o :: rest) a w := by
  obtain ⟨i, hi, hz, hi1, hi2⟩ := info_parts hinfo
  refine wpList_append_own w hg s x t ho W1.heap.size e i z size bytes ht hi hz hi1 hi2 hzs hsz v n xs hs hown ad 1 c news hx (by omega) hnews h1 (by unfold maxLen; omega) ?_ hb.size ?_
  · have : (n + 1) * bytes ≤ 4294967297 * 4096 := Nat.mul_le_mul (by omega) hby
    omega
  · intro v' w' hown' hgrow _
    obtain ⟨g, cap, rfl⟩ := ownsRow_succ hown'
    refine hK g cap w' hown' (Below.grown hb hgrow hb.size fun k hk => ?_) hgrow.size
    rcases hown.2 with ⟨rfl, _⟩ | ⟨g', cap', _, rfl, hge, _⟩
    · simp [Value.ownBlock] at hk
    · simp [Value.ownBlock] at hk; omega
theorem own_bel {w w' : World} {B : Nat} {e : TypeId} {k : Nat} {v : Value} {n : Nat} {xs : List Value} (h : w.ownsRow B e k v n xs) (hb : Bel w w') : w'.ownsRow B e k v n xs := by
  obtain ⟨hl, h2 | ⟨g, cap, cur, rfl, hg, hh, h3⟩⟩ := h
  · exact ⟨hl, .inl h2⟩
  · exact ⟨hl, .inr ⟨g, cap, cur, rfl, hg, (hb.block (Array.getElem?_eq_some_iff.1 hh).1).trans hh, h3⟩⟩
theorem own_row {W : World} {B : Nat} {e : TypeId} {v : Value} {n : Nat} {xs : List Value} (h : W.ownsRow B e 1 v n xs) : RowAt0 W v xs := by
  obtain ⟨hl, ⟨rfl, rfl⟩ | ⟨g, cap, cur, rfl, hg, hh, hn, _, hsz, ht⟩⟩ := h
  · exact .inl ⟨rfl, List.eq_nil_of_length_eq_zero (by simpa using hl)⟩
  · refine .inr ⟨g, 0, cap, by rw [hl, Nat.mul_one], by omega, (Array.getElem?_eq_some_iff.1 hh).1, fun j hj => ?_⟩
    have h2 : cur.toList[j]? = some xs[j] := by
      have h3 : (cur.toList.take (n * 1))[j]? = some xs[j] := by rw [ht]; simp
      rw [List.getElem?_take] at h3
      split at h3
      · exact h3
      · cases h3
    simp only [World.cell?, hh]
    simpa using h2
theorem decode_pos (s : ByteArray) (pos : Nat) (h : pos < s.size) : 1 ≤ (Utf8.decode s pos).2 := by
  by_cases ha : (s[pos]'h).toNat < 128
  · rw [decode_ascii s pos h ha]
    exact Nat.le_refl _
  · exact (decode_high s pos h (by omega)).2
end Go.Proofs.YtbcdbefogfmhfaaGreatDoor

namespace Go.Proofs.YtbcdbefogfmhfaaGreatDoor
def validR (c : Int) : Bool := decide (0 ≤ c ∧ c < 55296 ∨ 57343 < c ∧ c ≤ 1114111)
def fineC (c : Int) : Bool := decide (c = 9 ∨ c = 10 ∨ c = 13 ∨ 32 ≤ c ∧ c ≤ 55295 ∨ 57344 ≤ c ∧ c ≤ 65533 ∨ 65536 ≤ c ∧ c ≤ 1114111)
def firstC (c : Int) : Bool := decide (65 ≤ c ∧ c ≤ 90 ∨ 97 ≤ c ∧ c ≤ 122 ∨ c = 95 ∨ 192 ≤ c ∧ c ≠ 215 ∧ c ≠ 247 ∧ fineC c = true)
def nextC (c : Int) : Bool := firstC c || decide (48 ≤ c ∧ c ≤ 57)
def partC (c : Int) : Bool := nextC c || decide (c = 45 ∨ c = 46 ∨ c = 183)
/-- The character at a place, its bytes, the error's number. -/
def runeAt (s : ByteArray) (i : Nat) : Nat × Nat × Nat :=
  if (Utf8.decode s i).1 = 65533 ∧ (Utf8.decode s i).2 < 2 ∨ fineC (Utf8.decode s i).1 = false then (0, 0, 4) else ((Utf8.decode s i).1, (Utf8.decode s i).2, 0)
def scanG (s : ByteArray) (q : Int → Bool) : Nat → Nat → (Int → Bool) → Bool
  | 0, _, _ => true
  | b + 1, pos, p =>
    if pos < s.size then
      if (Utf8.decode s pos).1 = 65533 ∧ (Utf8.decode s pos).2 < 2 then false
      else if p (Utf8.decode s pos).1 then scanG s q b (pos + (Utf8.decode s pos).2) q else false
    else true
/-- The characters of a text: the first one by p, the others by q; there is one. -/
def madeS (p q : Int → Bool) (s : ByteArray) : Bool := scanG s q s.size 0 p && !s.toList.isEmpty
def plainS (s : ByteArray) : Bool := madeS firstC partC s
theorem scanG_end (s : ByteArray) (q r : Int → Bool) (b pos : Nat) (h : ¬ pos < s.size) : scanG s q b pos r = true := by
  cases b with
  | zero => rfl
  | succ b => simp [scanG, h]
theorem scanG_bad (s : ByteArray) (q r : Int → Bool) (b pos : Nat) (h : pos < s.size) (hb : s.size ≤ pos + b) (h1 : (Utf8.decode s pos).1 = 65533 ∧ (Utf8.decode s pos).2 < 2) : scanG s q b pos r = false := by
  cases b with
  | zero => omega
  | succ b => simp [scanG, h, h1]
theorem scanG_no (s : ByteArray) (q r : Int → Bool) (b pos : Nat) (h : pos < s.size) (hb : s.size ≤ pos + b) (h1 : r (Utf8.decode s pos).1 = false) : scanG s q b pos r = false := by
  cases b with
  | zero => omega
  | succ b => simp [scanG, h, h1]
theorem scanG_step (s : ByteArray) (q r : Int → Bool) (b pos : Nat) (h : pos < s.size) (hb : s.size ≤ pos + b) (h1 : ¬ ((Utf8.decode s pos).1 = 65533 ∧ (Utf8.decode s pos).2 < 2)) (h2 : r (Utf8.decode s pos).1 = true) :
    ∃ b', scanG s q b pos r = scanG s q b' (pos + (Utf8.decode s pos).2) q ∧ b = b' + 1 := by
  cases b with
  | zero => omega
  | succ b => exact ⟨b, by simp only [scanG, h, h1, h2, if_true, if_false], rfl⟩
end Go.Proofs.YtbcdbefogfmhfaaGreatDoor

namespace Go.Proofs.YtbcdbefogfmhfaaGreatDoor
open Go.RowKit
theorem wpL_append1k {P : Program} {ops : Array Oper} {rest : List Oper} {o : Oper} {a : Act} {w : World} {Q : Exit → Act → World → Prop}
    (hg : o.guard = none) (s x : Operand) (t : TypeId) (ho : o.op = .call { callee := .builtin .append, args := #[s, x], argTypes := #[t, t] })
    (B : Nat) (hB : B ≤ w.heap.size) (e : TypeId) (z : Value) (size bytes : Nat) (ht : P.underlying t = some (.slice e)) (hinfo : (P.info? e).map (fun i => (i.zero, i.size, i.bytes)) = some (some z, size, bytes))
    (hzs : z.cells.size = size) (hsz : 0 < size) (hby : bytes ≤ 4096) (v : Value) (n : Nat) (xs : List Value) (hs : a.eval s = v) (hown : w.ownsRow B e size v n xs)
    (ad : Addr) (c : Nat) (news : List Value) (hx : a.eval x = .slice (some ad) 1 c) (hl : news.length = size) (hnews : ∀ j u, news[j]? = some u → w.cell? (ad.add j) = some u) (h1 : ∀ u ∈ news, u.oneCell' = true)
    (hn : n ≤ 4294967296)
    (hK : ∀ g cap w', w'.ownsRow B e size (.slice (some ⟨g, 0, none⟩) (n + 1) cap) (n + 1) (xs ++ news) → w.grownBy w' v.ownBlock → wpList P ops Q rest (a.put o.dst (.slice (some ⟨g, 0, none⟩) (n + 1) cap)) w') :
    wpList P ops Q (o :: rest) a w := by
  obtain ⟨i, hi, hz, hi1, hi2⟩ := info_parts hinfo
  refine wpList_append_own w hg s x t ho B e i z size bytes ht hi hz hi1 hi2 hzs hsz v n xs hs hown ad 1 c news hx (by omega) hnews h1 (by unfold maxLen; omega) ?_ hB ?_
  · have : (n + 1) * bytes ≤ 4294967297 * 4096 := Nat.mul_le_mul (by omega) hby
    omega
  · intro v' w' hown' hgrow _
    obtain ⟨g, cap, rfl⟩ := ownsRow_succ hown'
    exact hK g cap w' hown' hgrow
theorem own_grown {W w w' : World} {B : Nat} {e : TypeId} {size n : Nat} {v : Value} {xs : List Value} (h : w.ownsRow B e size v n xs) (hb : Bel W w) (hg : w.grownBy w' v.ownBlock) (hB : W.heap.size ≤ B) : Bel W w' :=
  Below.grown hb hg hb.size fun k hk => Nat.le_trans hB (h.lt k hk).1
theorem own_ge {w : World} {B : Nat} {e : TypeId} {size n : Nat} {v : Value} {xs : List Value} (h : w.ownsRow B e size v n xs) {k : Nat} (hk : k < B) : some k ≠ v.ownBlock := fun e' => by
  have := (h.lt k e'.symm).1
  omega
/-- The row that a slice owns is no block of cells of another type. -/
theorem own_ne {w : World} {B : Nat} {e : TypeId} {size n : Nat} {v : Value} {xs : List Value} (h : w.ownsRow B e size v n xs) {b : Nat} {cs : Array Value} {t : TypeId} {fr : Nat × Nat} (hb : w.heap[b]? = some (.cells cs t fr)) (hte : t ≠ e) : some b ≠ v.ownBlock := by
  rcases h.2 with ⟨rfl, _⟩ | ⟨g, cap, cur, rfl, _, hgb, _⟩
  · simp [Value.ownBlock]
  · intro e'
    obtain rfl : b = g := by simpa [Value.ownBlock] using e'
    rw [hb] at hgb
    simp at hgb
    exact hte hgb.2.1
theorem own_set {w : World} {B : Nat} {e : TypeId} {size n : Nat} {v : Value} {xs : List Value} (h : w.ownsRow B e size v n xs) {p : Addr} (hne : some p.block ≠ v.ownBlock) (z : Value) : (w.setCell p z).ownsRow B e size v n xs := by
  obtain ⟨hl, h2 | ⟨g, cap, cur, rfl, hg, hh, h3⟩⟩ := h
  · exact ⟨hl, .inl h2⟩
  · refine ⟨hl, .inr ⟨g, cap, cur, rfl, hg, ?_, h3⟩⟩
    exact (Below.heap_setCell w p z g (fun e => hne (by rw [← e]; simp [Value.ownBlock]))).trans hh
end Go.Proofs.YtbcdbefogfmhfaaGreatDoor

namespace Go.Proofs.YtbcdbefogfmhfaaGreatDoor
open Go.RowKit
/-- Block b holds these cells; it can be written. -/
def Blk (w : World) (b : Nat) (t : TypeId) (cs : List Value) : Prop := w.heap[b]? = some (.cells cs.toArray t (0, 0))
section
variable {w w' : World} {b : Nat} {t : TypeId} {cs : List Value}
theorem Blk.lt (h : Blk w b t cs) : b < w.heap.size := (Array.getElem?_eq_some_iff.1 h).1
theorem Blk.at (h : Blk w b t cs) (j : Nat) : w.cell? ⟨b, j, none⟩ = cs[j]? := by unfold Blk at h; simp [World.cell?, h]
theorem Blk.fz (h : Blk w b t cs) (o : Nat) : w.frozen? ⟨b, o, none⟩ = false := by unfold Blk at h; simp [World.frozen?, h]
theorem Blk.set (h : Blk w b t cs) (j : Nat) (z : Value) : Blk (w.setCell ⟨b, j, none⟩ z) b t (cs.set j z) := by
  unfold Blk at h ⊢
  simp [World.setCell, Array.getElem?_modify, h]
theorem Blk.far (h : Blk w b t cs) {p : Addr} (hp : b ≠ p.block) (z : Value) : Blk (w.setCell p z) b t cs := by
  unfold Blk at h ⊢
  exact (Below.heap_setCell w p z b hp).trans h
theorem Blk.drew (h : Blk w b t cs) : Blk w.drew b t cs := h
theorem Blk.bel (h : Blk w b t cs) (hb : Bel w w') : Blk w' b t cs := (hb.block h.lt).trans h
theorem Blk.new (w : World) (t : TypeId) (cs : List Value) : Blk (w.alloc (.cells cs.toArray t)) w.heap.size t cs := World.alloc_heap_new _ _
end
theorem bel_setNew {w W : World} (h : Bel w W) {b : Nat} (hb : w.heap.size ≤ b) (j : Nat) (z : Value) : Bel w (W.setCell ⟨b, j, none⟩ z) := Bel.to_setCell h (p := ⟨b, j, none⟩) hb z
end Go.Proofs.YtbcdbefogfmhfaaGreatDoor
