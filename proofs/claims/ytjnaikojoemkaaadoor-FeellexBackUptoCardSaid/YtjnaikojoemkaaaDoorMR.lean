/-
  The walks of the document's answer for utf: Fine, First, Next, Part, Put, low.
  The walks of the document's answer for utf: Put and low.
  The walk of the document's answer for utf: Rune: by how many bytes the first one announces.
  The plain law of Rune: what the document's answer reckons is the character that the text holds there.
  The walk of the document's answer for names: chars.
  The walks of the document's answer for names: Plain, Split.
-/
import Derived.Test.YtjnaikojoemkaaaDoorMC
import Derived.Lib.RuneCountTail
import Derived.Lib.DecodeN
namespace Go.Proofs.YtjnaikojoemkaaaDoor
open Go.RowKit

end Go.Proofs.YtjnaikojoemkaaaDoor

namespace Go.Proofs.YtjnaikojoemkaaaDoor
open Go.RowKit

/-- The bytes of a character. -/
def putI (c : Int) : List Int :=
  if c < 128 then [c] else if c < 2048 then [192 + c / 64, 128 + c % 64]
  else if c < 65536 then [224 + c / 4096, 128 + c / 64 % 64, 128 + c % 64]
  else [240 + c / 262144, 128 + c / 4096 % 64, 128 + c / 64 % 64, 128 + c % 64]
def u8s (l : List Int) : List Value := l.map fun n => Value.int .u8 n
def RetRow (xs : List Value) (w : World) (e : Ending) (w' : World) : Prop := ∃ v, e = .returned v ∧ RowAt w' v xs ∧ Bel w w'

theorem row_new (w : World) (l : List Value) (t : TypeId) : RowAt (w.alloc (.cells l.toArray t)) (.slice (some ⟨w.heap.size, 0, none⟩) l.length l.length) l :=
  ⟨w.heap.size, 0, l.length, rfl, Nat.le_refl _, by simp, fun j hj => by
    simp only [World.cell?]
    rw [show (w.alloc (.cells l.toArray t)).heap[w.heap.size]? = some (.cells l.toArray t) from (show (w.heap.push _)[w.heap.size]? = _ from Array.getElem?_push_size)]
    simp [hj]⟩

theorem rowAt_cast {W : World} {v v' : Value} {xs xs' : List Value} (h : RowAt W v xs) (h1 : v = v') (h2 : xs = xs') : RowAt W v' xs' := by subst h1; subst h2; exact h

/-- The lower six bits of bytes, together; -1: they are none. -/
def lowL (acc : Int) : List Int → Int
  | [] => acc
  | b :: l => if b < 128 ∨ 191 < b then -1 else lowL (64 * acc + b - 128) l

theorem lowL_step (acc : Int) (l : List Int) (k : Nat) (h : k < l.length) :
    lowL acc (l.drop k) = if l[k] < 128 ∨ 191 < l[k] then -1 else lowL (64 * acc + l[k] - 128) (l.drop (k + 1)) := by
  rw [List.drop_eq_getElem_cons h]; rfl

end Go.Proofs.YtjnaikojoemkaaaDoor

namespace Go.Proofs.YtjnaikojoemkaaaDoor
open Go.RowKit

def plen (c : Int) : Nat := (putI c).length
def RetII (a b : Int) (w : World) (e : Ending) (w' : World) : Prop := e = .returned (.tuple #[.int .i64 a, .int .i64 b]) ∧ Bel w w'
def RetLen (n : Nat) (w : World) (e : Ending) (w' : World) : Prop := ∃ a cap, e = .returned (.slice (some a) n cap) ∧ Bel w w'
theorem fine_bounds {c : Int} (h : fineC c = true) : 0 ≤ c ∧ c ≤ 1114111 := by
  unfold fineC at h; simp only [decide_eq_true_eq] at h; omega

/-- What Rune answers where k bytes are announced, the first one tells t, the others L. -/
def rrS (k : Nat) (t L : Int) : Int × Int := if L < 0 ∨ fineC (t + L) = false ∨ plen (t + L) ≠ k then (0, 0) else (t + L, k)

end Go.Proofs.YtjnaikojoemkaaaDoor

namespace Go.Proofs.YtjnaikojoemkaaaDoor
open Go.RowKit Go.Lib

def runeN (p : Nat × Nat) : Int × Int := if p.1 = 65533 ∧ p.2 < 2 ∨ fineC p.1 = false then (0, 0) else (p.1, p.2)

theorem plen_eq (c : Int) : plen c = if c < 128 then 1 else if c < 2048 then 2 else if c < 65536 then 3 else 4 := by
  unfold plen putI
  repeat' split
  all_goals rfl
theorem low1 (a : Int) : lowL 0 [a] = if a < 128 ∨ 191 < a then -1 else a - 128 := by
  simp only [lowL]; split <;> simp
theorem low2 (a b : Int) : lowL 0 [a, b] = if a < 128 ∨ 191 < a ∨ b < 128 ∨ 191 < b then -1 else 64 * (a - 128) + b - 128 := by
  simp only [lowL]; repeat' split
  all_goals omega
theorem low3 (a b c : Int) : lowL 0 [a, b, c] = if a < 128 ∨ 191 < a ∨ b < 128 ∨ 191 < b ∨ c < 128 ∨ 191 < c then -1 else 64 * (64 * (a - 128) + b - 128) + c - 128 := by
  simp only [lowL]; repeat' split
  all_goals omega

theorem rr1 (n b0 b1 b2 b3 : Nat) (h : b0 < 128) : runeN (decodeN n b0 b1 b2 b3) = rrS 1 b0 0 := by
  have : decodeN n b0 b1 b2 b3 = (b0, 1) := by unfold decodeN; rw [if_pos h]
  rw [this]; unfold runeN rrS; rw [plen_eq]
  simp only [Int.add_zero]
  grind
theorem rr2 (n b0 b1 b2 b3 : Nat) (h : 192 ≤ b0 ∧ b0 < 224) (hn : 2 ≤ n) (_h1 : b1 < 256) : runeN (decodeN n b0 b1 b2 b3) = rrS 2 (64 * ((b0 : Int) - 192)) (lowL 0 [(b1 : Int)]) := by
  rw [low1]
  unfold runeN rrS decodeN fineC
  rw [plen_eq]
  grind
theorem rrS_neg (k : Nat) (t L : Int) (h : L < 0) : rrS k t L = (0, 0) := by unfold rrS; rw [if_pos (Or.inl h)]
theorem big_eq (c k : Nat) (lo : Nat) (hk : k = 3 ∧ lo = 2048 ∧ c < 65536 ∨ k = 4 ∧ lo = 65536) (t L : Int) (hL : 0 ≤ L) (ht : t + L = c) :
    runeN (if c ≥ lo ∧ (c < 55296 ∨ (57344 ≤ c ∧ c ≤ 1114111)) then (c, k) else (65533, 1)) = rrS k t L := by
  unfold runeN rrS; rw [plen_eq, ht]
  by_cases hf : c ≥ lo ∧ (c < 55296 ∨ (57344 ≤ c ∧ c ≤ 1114111))
  · rw [if_pos hf]
    unfold fineC
    grind
  · rw [if_neg hf]
    unfold fineC
    grind
theorem rr3 (n b0 b1 b2 b3 : Nat) (h : 224 ≤ b0 ∧ b0 < 240) (hn : 3 ≤ n) (h1 : b1 < 256) (h2 : b2 < 256) : runeN (decodeN n b0 b1 b2 b3) = rrS 3 (64 * (64 * ((b0 : Int) - 224))) (lowL 0 [(b1 : Int), (b2 : Int)]) := by
  rw [low2]
  by_cases hc : 128 ≤ b1 ∧ b1 < 192 ∧ 128 ≤ b2 ∧ b2 < 192
  · have hd : decodeN n b0 b1 b2 b3 = if (b0 - 224) * 4096 + (b1 - 128) * 64 + (b2 - 128) ≥ 2048 ∧ ((b0 - 224) * 4096 + (b1 - 128) * 64 + (b2 - 128) < 55296 ∨ (57344 ≤ (b0 - 224) * 4096 + (b1 - 128) * 64 + (b2 - 128) ∧ (b0 - 224) * 4096 + (b1 - 128) * 64 + (b2 - 128) ≤ 1114111)) then ((b0 - 224) * 4096 + (b1 - 128) * 64 + (b2 - 128), 3) else (65533, 1) := by
      unfold decodeN
      rw [if_neg (by omega), if_neg (by omega), if_pos (by omega), show b0 % 16 = b0 - 224 by omega, show b1 % 64 = b1 - 128 by omega, show b2 % 64 = b2 - 128 by omega]
    rw [if_neg (by omega), hd]
    exact big_eq _ 3 2048 (by omega) _ _ (by omega) (by omega)
  · have hd : decodeN n b0 b1 b2 b3 = (65533, 1) := by
      unfold decodeN
      rw [if_neg (by omega), if_neg (by omega), if_neg (by omega), if_neg (by omega)]
    rw [if_pos (by omega), rrS_neg _ _ _ (by omega), hd]; rfl
theorem rr4 (n b0 b1 b2 b3 : Nat) (h : 240 ≤ b0 ∧ b0 < 248) (hn : 4 ≤ n) (h1 : b1 < 256) (h2 : b2 < 256) (h3 : b3 < 256) : runeN (decodeN n b0 b1 b2 b3) = rrS 4 (64 * (64 * (64 * ((b0 : Int) - 240)))) (lowL 0 [(b1 : Int), (b2 : Int), (b3 : Int)]) := by
  rw [low3]
  by_cases hc : 128 ≤ b1 ∧ b1 < 192 ∧ 128 ≤ b2 ∧ b2 < 192 ∧ 128 ≤ b3 ∧ b3 < 192
  · have hd : decodeN n b0 b1 b2 b3 = if (b0 - 240) * 262144 + (b1 - 128) * 4096 + (b2 - 128) * 64 + (b3 - 128) ≥ 65536 ∧ ((b0 - 240) * 262144 + (b1 - 128) * 4096 + (b2 - 128) * 64 + (b3 - 128) < 55296 ∨ (57344 ≤ (b0 - 240) * 262144 + (b1 - 128) * 4096 + (b2 - 128) * 64 + (b3 - 128) ∧ (b0 - 240) * 262144 + (b1 - 128) * 4096 + (b2 - 128) * 64 + (b3 - 128) ≤ 1114111)) then ((b0 - 240) * 262144 + (b1 - 128) * 4096 + (b2 - 128) * 64 + (b3 - 128), 4) else (65533, 1) := by
      unfold decodeN
      rw [if_neg (by omega), if_neg (by omega), if_neg (by omega), if_pos (by omega), show b0 % 8 = b0 - 240 by omega, show b1 % 64 = b1 - 128 by omega, show b2 % 64 = b2 - 128 by omega, show b3 % 64 = b3 - 128 by omega]
    rw [if_neg (by omega), hd]
    exact big_eq _ 4 65536 (by omega) _ _ (by omega) (by omega)
  · have hd : decodeN n b0 b1 b2 b3 = (65533, 1) := by
      unfold decodeN
      rw [if_neg (by omega), if_neg (by omega), if_neg (by omega), if_neg (by omega)]
    rw [if_pos (by omega), rrS_neg _ _ _ (by omega), hd]; rfl
theorem rr0 (n b0 b1 b2 b3 : Nat) (h : 128 ≤ b0 ∧ b0 < 192 ∨ 248 ≤ b0 ∧ b0 < 256 ∨ 192 ≤ b0 ∧ b0 < 224 ∧ n < 2 ∨ 224 ≤ b0 ∧ b0 < 240 ∧ n < 3 ∨ 240 ≤ b0 ∧ b0 < 248 ∧ n < 4) : runeN (decodeN n b0 b1 b2 b3) = (0, 0) := by
  have : decodeN n b0 b1 b2 b3 = (65533, 1) := by unfold decodeN; grind
  rw [this]; rfl

/-- What the document's Rune answers of bytes: the character and how many bytes it has, or 0 and 0. -/
def refRune (s : ByteArray) : Int × Int := if s.size = 0 then (0, 0) else runeN (Utf8.decode s 0)

end Go.Proofs.YtjnaikojoemkaaaDoor

namespace Go.Proofs.YtjnaikojoemkaaaDoor
open Go.RowKit

def i64s (l : List Int) : List Value := l.map fun n => Value.int .i64 n

/-- A text's characters from a place on; none: it isn't right. -/
def charsF (s : ByteArray) : Nat → Nat → Option (List Int)
  | 0, _ => some []
  | b + 1, pos => if pos < s.size then
      if (runeN (Utf8.decode s pos)).2 = 0 then none else (charsF s b (pos + (runeN (Utf8.decode s pos)).2.toNat)).map ((runeN (Utf8.decode s pos)).1 :: ·)
    else some []
def charsS (s : ByteArray) : Option (List Int) := charsF s s.size 0

theorem runeN_snd (s : ByteArray) (pos : Nat) (h : pos < s.size) : (runeN (Utf8.decode s pos)).2 = 0 ∨ 1 ≤ (runeN (Utf8.decode s pos)).2 := by
  unfold runeN; split
  · exact .inl rfl
  · exact .inr (by have := decode_pos s pos h; show 1 ≤ ((Utf8.decode s pos).2 : Int); omega)
theorem decode_fits (s : ByteArray) (pos : Nat) (h : pos < s.size) : pos + (Utf8.decode s pos).2 ≤ s.size := by
  simp only [Utf8.decode]
  repeat' split
  all_goals simp_all
  all_goals omega
theorem runeN_fits (s : ByteArray) (pos : Nat) (h : pos < s.size) : pos + (runeN (Utf8.decode s pos)).2.toNat ≤ s.size := by
  have := decode_fits s pos h
  unfold runeN; split
  · show pos + (0 : Int).toNat ≤ _; simp; omega
  · show pos + (((Utf8.decode s pos).2 : Int)).toNat ≤ _; simp; omega

theorem charsF_end (s : ByteArray) (b pos : Nat) (h : ¬ pos < s.size) : charsF s b pos = some [] := by
  cases b with
  | zero => rfl
  | succ b => simp [charsF, h]
theorem charsF_bad (s : ByteArray) (b pos : Nat) (h : pos < s.size) (hb : s.size ≤ pos + b) (h0 : (runeN (Utf8.decode s pos)).2 = 0) : charsF s b pos = none := by
  cases b with
  | zero => omega
  | succ b => simp [charsF, h, h0]
theorem charsF_step (s : ByteArray) (b pos : Nat) (h : pos < s.size) (hb : s.size ≤ pos + b) (h0 : (runeN (Utf8.decode s pos)).2 ≠ 0) :
    ∃ b', b = b' + 1 ∧ charsF s b pos = (charsF s b' (pos + (runeN (Utf8.decode s pos)).2.toNat)).map ((runeN (Utf8.decode s pos)).1 :: ·) := by
  cases b with
  | zero => omega
  | succ b => exact ⟨b, rfl, by simp [charsF, h, h0]⟩

/-- What chars answers: r none: false; else r's numbers. -/
def RetC (r : Option (List Int)) (w : World) (e : Ending) (w' : World) : Prop :=
  Bel w w' ∧ match r with
  | none => e = .returned (.tuple #[.slice none 0 0, .bool false])
  | some l => ∃ v, e = .returned (.tuple #[v, .bool true]) ∧ RowAt0 w' v (i64s l)

theorem refRune_tail (s : ByteArray) (pos : Nat) (h : pos < s.size) : refRune (s.extract pos s.size) = runeN (Utf8.decode s pos) := by
  unfold refRune
  have hz : ¬ (s.extract pos s.size).size = 0 := by simp; omega
  rw [if_neg hz, Lib.tail_decode]; rfl

theorem info_int : (Tryd.prog.info? 3).map (fun i => (i.zero, i.size, i.bytes)) = some (some (.int .i64 0), 1, 8) := by kernel_rfl

def lenOf : Value → Nat | .slice _ n _ => n | _ => 0
theorem extract_tail (s : ByteArray) (p k : Nat) (h : p + k ≤ s.size) : (s.extract p s.size).extract k (s.extract p s.size).size = s.extract (p + k) s.size := by
  apply ByteArray.ext
  apply Array.ext'
  simp [List.extract_eq_take_drop]
  congr 1
  omega

end Go.Proofs.YtjnaikojoemkaaaDoor

namespace Go.Proofs.YtjnaikojoemkaaaDoor
open Go.RowKit

theorem row_ne {W : World} {v : Value} {xs : List Value} (h : RowAt0 W v xs) (hx : xs ≠ []) : RowAt W v xs := by
  rcases h with ⟨_, h⟩ | h
  · exact absurd h hx
  · exact h

/-- The first one by p, the others by q. -/
def listS (p q : Int → Bool) : List Int → Bool
  | [] => false
  | c :: l => p c && l.all q
def charsB (p q : Int → Bool) (s : ByteArray) : Bool :=
  match charsS s with
  | none => false
  | some l => listS p q l
def rplainS (s : ByteArray) : Bool := charsB firstC partC s

theorem charsF_length (s : ByteArray) : ∀ b pos l, charsF s b pos = some l → l.length ≤ b
  | 0, pos, l, h => by simp [charsF] at h; simp [h]
  | b + 1, pos, l, h => by
    unfold charsF at h
    split at h
    · split at h
      · cases h
      · obtain ⟨l', h1, rfl⟩ := Option.map_eq_some_iff.1 h
        have := charsF_length s b _ l' h1
        simp; omega
    · simp at h; simp [h]
theorem charsS_length (s : ByteArray) (l : List Int) (h : charsS s = some l) : l.length ≤ s.size := charsF_length s _ _ l h

theorem retB_eq {a b : Bool} {w w' : World} (h : a = b) (hb : Bel w w') : Ending.returned (.bool a) = .returned (.bool b) ∧ Bel w w' := ⟨by rw [h], hb⟩

theorem byte_is (s : ByteArray) (k : Nat) (h : k < s.size) (m : Int) (n : Nat) (hm : m = n) (hn : n < 256) : (((s[k]'h).toNat : Int) == m) = true ↔ s.get! k = UInt8.ofNat n := by
  rw [get_bang s k h, beq_iff_eq, hm]
  constructor
  · intro h1
    have h2 : (s.data[k]).toNat = n := by have : (s[k]'h).toNat = n := by omega
                                          exact this
    rw [← h2]; simp
  · intro h1
    have h2 : (s[k]'h) = UInt8.ofNat n := h1
    rw [h2]
    have : (UInt8.ofNat n).toNat = n := by simp [UInt8.toNat_ofNat']; omega
    rw [this]

/-- A name's prefix and what stands behind it; whether it is one. -/
def rsplitF (s : ByteArray) : Nat → Nat → ByteArray × ByteArray × Bool
  | 0, _ => if rplainS s = true then (⟨#[]⟩, s, true) else (⟨#[]⟩, ⟨#[]⟩, false)
  | b + 1, i => if i < s.size then
      if s.get! i = 58 then
        if rplainS (s.extract 0 i) = true ∧ rplainS (s.extract (i + 1) s.size) = true then (s.extract 0 i, s.extract (i + 1) s.size, true) else (⟨#[]⟩, ⟨#[]⟩, false)
      else rsplitF s b (i + 1)
    else if rplainS s = true then (⟨#[]⟩, s, true) else (⟨#[]⟩, ⟨#[]⟩, false)
def rsplitS (s : ByteArray) : ByteArray × ByteArray × Bool := rsplitF s s.size 0
def RetSSB (a b : ByteArray) (t : Bool) (w : World) (e : Ending) (w' : World) : Prop := e = .returned (.tuple #[.string a, .string b, .bool t]) ∧ Bel w w'

end Go.Proofs.YtjnaikojoemkaaaDoor
