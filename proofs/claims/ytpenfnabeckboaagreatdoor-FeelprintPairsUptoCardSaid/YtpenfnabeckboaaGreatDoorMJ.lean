/-
  feellex: a token stays the same if a blank and more stand behind the text (plain).
  feellex: the tokens of texts that are joined by a blank (plain).
  feellex: a text in quotes (plain), and the walk of Quote.
  feellex: the walk of Quote.
  feellex: the walk of Text.
  feellex: the tokens of a text in quotes (plain).
  feellex: a token's text is that token (plain).
-/
import Derived.Test.YtpenfnabeckboaaGreatDoorMH
import Derived.Test.YtpenfnabeckboaaGreatDoorMI
import Derived.Test.YtpenfnabeckboaaGreatDoorMG
import Derived.Deep.RegionHeld3
namespace Go.Proofs.YtpenfnabeckboaaGreatDoor
/-- A text that begins with a blank. -/
structure Bl (y : ByteArray) : Prop where
  pos : 0 < y.size
  hd : y.get! 0 = 32
theorem bl_at {y : ByteArray} (h : Bl y) (x : ByteArray) : (x ++ y).get! x.size = 32 := by
  have := get_append_right x y 0 h.pos
  rw [Nat.add_zero, h.hd] at this
  exact this
theorem bl_lt {y : ByteArray} (h : Bl y) (x : ByteArray) : x.size < (x ++ y).size := by
  rw [ByteArray.size_append]
  have := h.pos
  omega
theorem bl_dec {y : ByteArray} (h : Bl y) (x : ByteArray) : Utf8.decode (x ++ y) x.size = (32, 1) := by
  have hp := bl_lt h x
  have hg : (x ++ y)[x.size]'hp = 32 := by rw [← get_at _ _ hp]; exact bl_at h x
  rw [decode_ascii (x ++ y) x.size hp (by rw [hg]; decide), hg]
  rfl
theorem next_32 : nextC ((32 : Nat) : Int) = false := by decide +kernel
theorem word_app {y : ByteArray} (h : Bl y) (x : ByteArray) : ∀ b b' pos, OKat x pos → pos ≤ x.size → x.size ≤ pos + b → (x ++ y).size ≤ pos + b' → wordF (x ++ y) b' pos = wordF x b pos := by
  have hu := bl_lt h x
  intro b
  induction b with
  | zero =>
    intro b' pos _ hp hb hb'
    obtain rfl : pos = x.size := by omega
    rw [wordF_end x _ _ (by omega), wordF_stop _ _ _ hu hb' (by rw [bl_dec h x, next_32, Bool.false_and])]
  | succ b ih =>
    intro b' pos hok hp hb hb'
    by_cases hlt : pos < x.size
    · have hd := decode_append x y pos hlt (runeN_ok _ (ok_rune x pos hok hlt))
      by_cases ht : (nextC (Utf8.decode x pos).1 && (decide (pos ≠ 0) || firstC (Utf8.decode x pos).1)) = true
      · obtain ⟨b1, e1, h1⟩ := wordF_step x (b + 1) pos hlt hb ht
        obtain ⟨b2, e2, h2⟩ := wordF_step (x ++ y) b' pos (by omega) hb' (by rw [hd]; exact ht)
        obtain rfl : b = b1 := by omega
        have hpos := decode_pos x pos hlt
        rw [h1, h2, hd]
        exact ih b2 _ (ok_step x pos hok hlt) (decode_fits x pos hlt) (by omega) (by omega)
      · have hf : (nextC (Utf8.decode x pos).1 && (decide (pos ≠ 0) || firstC (Utf8.decode x pos).1)) = false := by simpa using ht
        rw [wordF_stop x _ _ hlt hb hf, wordF_stop (x ++ y) _ _ (by omega) hb' (by rw [hd]; exact hf)]
    · obtain rfl : pos = x.size := by omega
      rw [wordF_end x _ _ (by omega), wordF_stop _ _ _ hu hb' (by rw [bl_dec h x, next_32, Bool.false_and])]
theorem wordN_app {y : ByteArray} (h : Bl y) (x : ByteArray) (hok : OKat x 0) : wordN (x ++ y) = wordN x :=
  word_app h x x.size (x ++ y).size 0 hok (Nat.zero_le _) (by omega) (by omega)
theorem digAt_app {y : ByteArray} (h : Bl y) (x : ByteArray) (k : Nat) (hk : k ≤ x.size) : digAt (x ++ y) k = digAt x k := by
  have hu := bl_lt h x
  unfold digAt
  by_cases hlt : k < x.size
  · rw [get_append_left x y k hlt, decide_eq_true hlt, decide_eq_true (by omega)]
  · obtain rfl : k = x.size := by omega
    rw [bl_at h x, decide_eq_false hlt]
    rw [show dgC 32 = false from rfl, Bool.and_false, Bool.false_and]
theorem digE_app {y : ByteArray} (h : Bl y) (x : ByteArray) : ∀ n k, x.size = k + n → digE (x ++ y) k = digE x k := by
  intro n
  induction n with
  | zero =>
    intro k hk
    have h1 : digAt x k = false := by unfold digAt; rw [decide_eq_false (by omega)]; rfl
    rw [digE_stop x k h1, digE_stop (x ++ y) k (by rw [digAt_app h x k (by omega)]; exact h1)]
  | succ n ih =>
    intro k hk
    cases hd : digAt x k with
    | false => rw [digE_stop x k hd, digE_stop (x ++ y) k (by rw [digAt_app h x k (by omega)]; exact hd)]
    | true => rw [digE_step x k hd, digE_step (x ++ y) k (by rw [digAt_app h x k (by omega)]; exact hd)]; exact ih (k + 1) (by omega)
theorem numN_zero (s : ByteArray) : numN s = if digE s 0 < s.size ∧ s.get! (digE s 0) = 46 ∧ digAt s (digE s 0 + 1) = true then digE s (digE s 0 + 1) else digE s 0 := by
  have := numN_at s 0 (Nat.zero_le _)
  rwa [extract_all, Nat.zero_add] at this
theorem numN_app {y : ByteArray} (h : Bl y) (x : ByteArray) : numN (x ++ y) = numN x := by
  have hu := bl_lt h x
  rw [numN_zero, numN_zero, digE_app h x x.size 0 (by omega)]
  have hle := digE_le x 0 (Nat.zero_le _)
  by_cases hlt : digE x 0 < x.size
  · rw [get_append_left x y _ hlt, digAt_app h x _ hlt, digE_app h x (x.size - (digE x 0 + 1)) _ (by omega)]
    have hlt2 : digE x 0 < (x ++ y).size := by omega
    simp only [hlt, hlt2, true_and]
  · have he : digE x 0 = x.size := by omega
    rw [if_neg (fun hh => by have := hh.2.1; rw [he, bl_at h x] at this; cases this), if_neg (fun hh => hlt hh.1)]
theorem extract_app (x y : ByteArray) (pos : Nat) (h : pos ≤ x.size) : (x ++ y).extract pos (x ++ y).size = x.extract pos x.size ++ y := by
  apply ByteArray.ext
  apply Array.ext'
  rw [ByteArray.data_append, Array.toList_append, tail_list, tail_list, ByteArray.data_append, Array.toList_append, List.drop_append_of_le_length (by exact h)]
theorem esc_app (t y : ByteArray) (h0 : (escS t).2 ≠ 0) : escS (t ++ y) = escS t := by
  unfold escS at h0 ⊢
  by_cases h2 : t.size < 2
  · rw [if_pos h2] at h0
    exact absurd rfl h0
  · rw [if_neg h2] at h0 ⊢
    rw [if_neg (by rw [ByteArray.size_append]; omega), get_append_left t y 1 (by omega)]
    cases hv : escV (t.get! 1) with
    | some c => rfl
    | none =>
      rw [hv] at h0
      simp only at h0 ⊢
      by_cases hc : t.get! 1 = 117 ∧ 6 ≤ t.size ∧ (t.extract 2 6).data.toList.all hexC = true
      · have e : (t ++ y).extract 2 6 = t.extract 2 6 := by
          apply ByteArray.ext
          apply Array.ext'
          rw [show (6 : Nat) = 2 + 4 from rfl, extract_piece, extract_piece, ByteArray.data_append, Array.toList_append]
          have hl : t.data.toList.length = t.size := rfl
          rw [List.drop_append_of_le_length (by omega), List.take_append_of_le_length (by rw [List.length_drop]; omega)]
        rw [e, if_pos hc, if_pos ⟨hc.1, by rw [ByteArray.size_append]; omega, hc.2.2⟩]
      · rw [if_neg hc] at h0
        exact absurd rfl h0
theorem text_app (x y : ByteArray) : ∀ b b' pos acc, x.size ≤ pos + b → (x ++ y).size ≤ pos + b' → (textF x b pos acc).2.2 = 0 → textF (x ++ y) b' pos acc = textF x b pos acc := by
  intro b
  induction b with
  | zero => intro b' pos acc _ _ h0; cases h0
  | succ b ih =>
    intro b' pos acc hb hb' h0
    by_cases hlt : pos < x.size
    · obtain ⟨b1, e1, h1⟩ := textF_step x (b + 1) pos acc hlt hb
      obtain ⟨b2, e2, h2⟩ := textF_step (x ++ y) b' pos acc (by rw [ByteArray.size_append]; omega) hb'
      obtain rfl : b = b1 := by omega
      rw [h1] at h0 ⊢
      rw [h2, get_append_left x y pos hlt, extract_app x y pos (by omega)]
      by_cases h34 : x.get! pos = 34
      · rw [if_pos h34, if_pos h34]
      · rw [if_neg h34] at h0 ⊢
        rw [if_neg h34]
        by_cases h92 : x.get! pos = 92
        · rw [if_pos h92] at h0 ⊢
          rw [if_pos h92]
          by_cases he : (escS (x.extract pos x.size)).2 = 0
          · rw [if_pos he] at h0
            cases h0
          · rw [if_neg he] at h0 ⊢
            rw [esc_app _ y he, if_neg he]
            exact ih b2 _ _ (by omega) (by omega) h0
        · rw [if_neg h92] at h0 ⊢
          rw [if_neg h92]
          exact ih b2 _ _ (by omega) (by omega) h0
    · rw [textF_end x _ pos acc hlt] at h0
      cases h0
theorem pre_app {y : ByteArray} (h : Bl y) (x : ByteArray) (hx : 1 ≤ x.size) (l : List UInt8) (hl : l ∈ signsL) : Lib.hasPrefix (x ++ y).data.toList l = Lib.hasPrefix x.data.toList l := by
  rw [ByteArray.data_append, Array.toList_append]
  have hy : ∃ r, y.data.toList = 32 :: r := by
    have h1 : y.data.toList.length = y.size := rfl
    have h2 := h.pos
    have h3 := byte_drop y 0 h2
    rw [List.drop_zero, h.hd] at h3
    exact ⟨_, h3⟩
  obtain ⟨r, hr⟩ := hy
  rw [hr]
  have hxl : x.data.toList.length = x.size := rfl
  have h32 : ∀ l ∈ signsL, (32 : UInt8) ∉ l ∧ (l.length = 1 ∨ l.length = 2) := by decide
  obtain ⟨hn, hlen⟩ := h32 l hl
  generalize x.data.toList = X at hxl ⊢
  unfold Lib.hasPrefix
  match X, hxl with
  | [], hxl => simp at hxl; omega
  | [a], _ =>
    match l, hn, hlen with
    | [b], _, _ => simp [List.isPrefixOf]
    | [b, c], hn, _ =>
      simp only [List.mem_cons, List.not_mem_nil, or_false, not_or] at hn
      have hn2 : ¬ c = 32 := fun e => hn.2 e.symm
      simp [List.isPrefixOf, hn2]
    | b :: c :: d :: l, _, hlen => simp at hlen
    | [], _, hlen => simp at hlen
  | a :: a2 :: X, _ =>
    match l, hn, hlen with
    | [b], _, _ => simp [List.isPrefixOf]
    | [b, c], _, _ => simp [List.isPrefixOf]
    | b :: c :: d :: l, _, hlen => simp at hlen
    | [], _, hlen => simp at hlen
theorem signIn_app {y : ByteArray} (h : Bl y) (x : ByteArray) (hx : 1 ≤ x.size) : ∀ L : List (List UInt8), (∀ l ∈ L, l ∈ signsL) → signIn (x ++ y) L = signIn x L
  | [], _ => rfl
  | l :: L, hL => by
    unfold signIn
    rw [pre_app h x hx l (hL l (by simp)), signIn_app h x hx L (fun l hl => hL l (by simp [hl]))]
theorem signS_app {y : ByteArray} (h : Bl y) (x : ByteArray) (hx : 1 ≤ x.size) : signS (x ++ y) = signS x := by
  unfold signS
  rw [signIn_app h x hx signsL (fun _ h => h)]
theorem extract_front (x y : ByteArray) (n : Nat) (h : n ≤ x.size) : (x ++ y).extract 0 n = x.extract 0 n := by
  apply ByteArray.ext
  apply Array.ext'
  have h1 := extract_piece (x ++ y) 0 n
  have h2 := extract_piece x 0 n
  rw [Nat.zero_add] at h1 h2
  rw [h1, h2, ByteArray.data_append, Array.toList_append, List.drop_zero, List.drop_zero, List.take_append_of_le_length (by exact h)]
/-- A token without error stays the same with a blank and more behind the text. -/
theorem one_app {y : ByteArray} (h : Bl y) (x : ByteArray) (hx : 1 ≤ x.size) (hok : OKat x 0) (h0 : (oneS x).2.2 = 0) : oneS (x ++ y) = oneS x := by
  have hw := wordN_app h x hok
  have hwl : wordN x ≤ x.size := wordF_le x _ 0 (Nat.zero_le _)
  have hn := numN_app h x
  have hnl := numN_le x
  unfold oneS at h0 ⊢
  rw [hw, hn, get_append_left x y 0 (by omega), signS_app h x hx, extract_front x y _ hwl, extract_front x y _ hnl]
  by_cases h1 : wordN x ≠ 0
  · rw [if_pos h1, if_pos h1]
  · rw [if_neg h1] at h0 ⊢
    rw [if_neg h1]
    by_cases h2 : numN x ≠ 0
    · rw [if_pos h2, if_pos h2]
    · rw [if_neg h2] at h0 ⊢
      rw [if_neg h2]
      by_cases h3 : x.get! 0 = 34
      · rw [if_pos h3] at h0 ⊢
        rw [if_pos h3]
        have ht : textS (x ++ y) = textS x := text_app x y x.size (x ++ y).size 1 [] (by omega) (by omega) h0
        rw [ht]
      · rw [if_neg h3, if_neg h3]
end Go.Proofs.YtpenfnabeckboaaGreatDoor

namespace Go.Proofs.YtpenfnabeckboaaGreatDoor
abbrev Tok := Int × Nat × ByteArray
/-- The tokens from a place on, but for the end's. -/
inductive Toks (s : ByteArray) : Nat → List Tok → Prop where
  | done (pos : Nat) : s.size ≤ pos → Toks s pos []
  | blank (pos : Nat) (l : List Tok) : pos < s.size → spaceC (s.get! pos).toNat = true → Toks s (pos + 1) l → Toks s pos l
  | tok (pos : Nat) (l : List Tok) : pos < s.size → spaceC (s.get! pos).toNat = false → (oneS (s.extract pos s.size)).2.2 = 0 → Toks s (pos + (oneS (s.extract pos s.size)).2.1) l →
      Toks s pos (((oneS (s.extract pos s.size)).1.1, pos, (oneS (s.extract pos s.size)).1.2) :: l)
theorem one_le (s : ByteArray) (pos : Nat) (h : pos < s.size) : (oneS (s.extract pos s.size)).2.1 ≤ s.size - pos ∧ ((oneS (s.extract pos s.size)).2.2 = 0 → 1 ≤ (oneS (s.extract pos s.size)).2.1) := by
  have hx : (s.extract pos s.size).size = s.size - pos := by simp
  have := oneS_le (s.extract pos s.size) (by omega)
  rw [hx] at this
  exact this
/-- The same tokens, so many places on. -/
def shiftT (k : Nat) (l : List Tok) : List Tok := l.map fun x => (x.1, k + x.2.1, x.2.2)
theorem extract_behind (v t : ByteArray) (p : Nat) (_h : p ≤ t.size) : (v ++ t).extract (v.size + p) (v ++ t).size = t.extract p t.size := by
  apply ByteArray.ext
  apply Array.ext'
  rw [tail_list, tail_list, ByteArray.data_append, Array.toList_append]
  have hl : v.data.toList.length = v.size := rfl
  rw [← List.drop_drop, ← hl, List.drop_left]
theorem toks_shift (v t : ByteArray) (p : Nat) (l : List Tok) (h : Toks t p l) : Toks (v ++ t) (v.size + p) (shiftT v.size l) := by
  have hsz : (v ++ t).size = v.size + t.size := by rw [ByteArray.size_append]
  induction h with
  | done pos hp => exact .done _ (by omega)
  | blank pos l hp hs _ ih =>
    refine .blank _ _ (by omega) ?_ ih
    rw [get_append_right v t pos hp]
    exact hs
  | tok pos l hp hs h0 _ ih =>
    have he := extract_behind v t pos (by omega)
    have h1 := Toks.tok (s := v ++ t) (v.size + pos) (shiftT v.size l) (by omega) (by rw [get_append_right v t pos hp]; exact hs) (by rw [he]; exact h0) (by rw [he, Nat.add_assoc]; exact ih)
    rw [he] at h1
    exact h1
theorem ok_tail (s : ByteArray) (pos : Nat) (h : OKat s pos) (hp : pos ≤ s.size) : OKat (s.extract pos s.size) 0 := by
  unfold OKat at h ⊢
  have h1 := chars_shift (s.extract 0 pos) (s.extract pos s.size) (s.extract pos s.size).size 0 (by omega)
  rw [cut_two s pos hp] at h1
  rw [← h1]
  have : (s.extract 0 pos).size + 0 = pos := by simp; omega
  rw [this]
  exact h
/-- The tokens of a text, a blank and more. -/
theorem toks_app {y : ByteArray} (hy : Bl y) (s : ByteArray) (pos : Nat) (l m : List Tok) (h : Toks s pos l) (hok : OKat s pos) (hp : pos ≤ s.size) (hm : Toks (s ++ y) s.size m) : Toks (s ++ y) pos (l ++ m) := by
  have hsz : (s ++ y).size = s.size + y.size := by rw [ByteArray.size_append]
  induction h with
  | done pos h =>
    obtain rfl : pos = s.size := by omega
    exact hm
  | blank pos l hlt hs _ ih =>
    refine .blank _ _ (by omega) (by rw [get_append_left s y pos hlt]; exact hs) (ih (space_ok s pos hok hlt hs) hlt)
  | tok pos l hlt hs h0 _ ih =>
    have hx : (s.extract pos s.size).size = s.size - pos := by simp
    have he : oneS ((s ++ y).extract pos (s ++ y).size) = oneS (s.extract pos s.size) := by
      rw [extract_app s y pos (by omega)]
      exact one_app hy _ (by omega) (ok_tail s pos hok (by omega)) h0
    have hle := one_le s pos hlt
    have h1 := Toks.tok (s := s ++ y) pos (l ++ m) (by omega) (by rw [get_append_left s y pos hlt]; exact hs) (by rw [he]; exact h0) (by rw [he]; exact ih (lex_ok s pos hok hlt h0) (by omega))
    rw [he] at h1
    exact h1
theorem space_32 : spaceC ((32 : UInt8).toNat : Int) = true := by decide +kernel
theorem bl_mk (t : ByteArray) : Bl (⟨#[32]⟩ ++ t) := ⟨by rw [ByteArray.size_append]; show 0 < 1 + t.size; omega, by rw [get_append_left _ t 0 (by decide)]; rfl⟩
/-- Two texts with a blank between. -/
theorem toks_join (s t : ByteArray) (l m : List Tok) (hs : OKat s 0) (ht : OKat t 0) (h : Toks s 0 l) (h2 : Toks t 0 m) : OKat (s ++ (⟨#[32]⟩ ++ t)) 0 ∧ Toks (s ++ (⟨#[32]⟩ ++ t)) 0 (l ++ shiftT (s.size + 1) m) := by
  constructor
  · cases hl : charsS s with
    | none => exact absurd hl hs
    | some a =>
      have h1 := chars_append s (⟨#[32]⟩ ++ t) a hl
      have h3 := chars_append ⟨#[32]⟩ t [32] chars_blank
      cases hr : charsS t with
      | none => exact absurd hr ht
      | some b =>
        rw [hr] at h3
        rw [h3] at h1
        show charsS _ ≠ none
        rw [h1]
        simp
  · have hb := bl_mk t
    refine toks_app hb s 0 l _ h hs (Nat.zero_le _) ?_
    have hsz : (s ++ (⟨#[32]⟩ ++ t)).size = s.size + (1 + t.size) := by rw [ByteArray.size_append, ByteArray.size_append]; rfl
    refine .blank _ _ (by omega) (by rw [bl_at hb s]; exact space_32) ?_
    have h3 := toks_shift (s ++ ⟨#[32]⟩) t 0 m h2
    have h4 : (s ++ (⟨#[32]⟩ : ByteArray)).size = s.size + 1 := by rw [ByteArray.size_append]; rfl
    rw [h4, Nat.add_zero, ByteArray.append_assoc] at h3
    exact h3
end Go.Proofs.YtpenfnabeckboaaGreatDoor

namespace Go.Proofs.YtpenfnabeckboaaGreatDoor
open Go.RowKit Go.Lib
/-- What stands for a byte in quotes. -/
def q1 (c : UInt8) : List UInt8 := if c = 34 then [92, 34] else if c = 92 then [92, 92] else if c = 10 then [92, 110] else if c = 13 then [92, 114] else if c = 9 then [92, 116] else [c]
def quoteL (l : List UInt8) : List UInt8 := 34 :: l.flatMap q1
def quoteB (s : ByteArray) : ByteArray := ⟨(quoteL s.data.toList ++ [34]).toArray⟩
/-- What Quote answers. -/
def quoteS (s : ByteArray) : ByteArray × Nat := if chkS s < s.size then (⟨#[]⟩, 4) else (quoteB s, 0)
theorem q1_le (c : UInt8) : (q1 c).length ≤ 2 := by
  unfold q1
  repeat' split
  all_goals simp
theorem quoteL_le (l : List UInt8) : (quoteL l).length ≤ 2 * l.length + 1 := by
  unfold quoteL
  rw [List.length_cons]
  have : (l.flatMap q1).length ≤ 2 * l.length := by
    induction l with
    | nil => simp
    | cons x l ih =>
      have := q1_le x
      rw [List.flatMap_cons, List.length_append, List.length_cons]
      omega
  omega
theorem q1_high (c : UInt8) (h : 128 ≤ c.toNat) : q1 c = [c] := by
  unfold q1
  rw [if_neg (fun e => by rw [e] at h; exact absurd h (by decide)), if_neg (fun e => by rw [e] at h; exact absurd h (by decide)), if_neg (fun e => by rw [e] at h; exact absurd h (by decide)),
    if_neg (fun e => by rw [e] at h; exact absurd h (by decide)), if_neg (fun e => by rw [e] at h; exact absurd h (by decide))]
theorem flat_high : ∀ l : List UInt8, (∀ c ∈ l, 128 ≤ c.toNat) → l.flatMap q1 = l
  | [], _ => rfl
  | c :: l, h => by
    rw [List.flatMap_cons, q1_high c (h c (by simp)), flat_high l fun d hd => h d (by simp [hd])]
    rfl
/-- A right character's bytes are its own. -/
theorem decodeN_put (n b0 b1 b2 b3 : Nat) (h0 : b0 < 256) (h1 : b1 < 256) (h2 : b2 < 256) (_h3 : b3 < 256) (ok : okD (decodeN n b0 b1 b2 b3)) :
    putI (decodeN n b0 b1 b2 b3).1 = (([b0, b1, b2, b3].take (decodeN n b0 b1 b2 b3).2).map fun (x : Nat) => (x : Int)) := by
  unfold okD at ok
  unfold decodeN at ok ⊢
  unfold putI
  split
  · rename_i h
    rw [if_pos (by omega)]
    rfl
  · rename_i h
    rw [if_neg h] at ok
    split
    · rename_i h'
      rw [if_pos h'] at ok
      split
      · rename_i h''
        dsimp only
        rw [if_neg (by omega), if_pos (by omega)]
        simp
        omega
      · rename_i h''
        rw [if_neg h''] at ok
        exact absurd ⟨rfl, by decide⟩ ok
    · rename_i h'
      rw [if_neg h'] at ok
      split
      · rename_i hh
        rw [if_pos hh] at ok
        split
        · rename_i h''
          dsimp only
          rw [if_neg (by omega), if_neg (by omega), if_pos (by omega)]
          simp
          omega
        · rename_i h''
          rw [if_neg h''] at ok
          exact absurd ⟨rfl, by decide⟩ ok
      · rename_i hh
        rw [if_neg hh] at ok
        split
        · rename_i hhh
          rw [if_pos hhh] at ok
          split
          · rename_i h''
            dsimp only
            rw [if_neg (by omega), if_neg (by omega), if_neg (by omega)]
            simp
            omega
          · rename_i h''
            rw [if_neg h''] at ok
            exact absurd ⟨rfl, by decide⟩ ok
        · rename_i hhh
          rw [if_neg hhh] at ok
          exact absurd ⟨rfl, by decide⟩ ok
theorem decodeN_le (n b0 b1 b2 b3 : Nat) : (decodeN n b0 b1 b2 b3).2 ≤ 4 := by
  unfold decodeN
  repeat' split
  all_goals simp
/-- The bytes of the character at a place. -/
def pieceL (s : ByteArray) (pos : Nat) : List UInt8 := (s.data.toList.drop pos).take (Utf8.decode s pos).2
theorem piece_put (s : ByteArray) (pos : Nat) (hp : pos < s.size) (ok : okD (Utf8.decode s pos)) : putI (Utf8.decode s pos).1 = (pieceL s pos).map fun (x : UInt8) => (x.toNat : Int) := by
  have hfit := decode_fits s pos hp
  have hpos := decode_pos s pos hp
  have hl : s.data.toList.length = s.size := rfl
  unfold pieceL
  rw [decode_at] at ok hfit hpos ⊢
  have h1 := decodeN_put _ _ _ _ _ (s.get! pos).toNat_lt (s.get! (pos + 1)).toNat_lt (s.get! (pos + 2)).toNat_lt (s.get! (pos + 3)).toNat_lt ok
  have h4 := decodeN_le (s.size - pos) (s.get! pos).toNat (s.get! (pos + 1)).toNat (s.get! (pos + 2)).toNat (s.get! (pos + 3)).toNat
  rw [h1]
  generalize (decodeN (s.size - pos) (s.get! pos).toNat (s.get! (pos + 1)).toNat (s.get! (pos + 2)).toNat (s.get! (pos + 3)).toNat).2 = n at hfit hpos h4 ⊢
  match n, hfit, hpos, h4 with
  | 1, hf, _, _ => rw [byte_drop s pos (by omega)]; rfl
  | 2, hf, _, _ => rw [byte_drop s pos (by omega), byte_drop s (pos + 1) (by omega)]; rfl
  | 3, hf, _, _ => rw [byte_drop s pos (by omega), byte_drop s (pos + 1) (by omega), byte_drop s (pos + 1 + 1) (by omega)]; rfl
  | 4, hf, _, _ => rw [byte_drop s pos (by omega), byte_drop s (pos + 1) (by omega), byte_drop s (pos + 1 + 1) (by omega), byte_drop s (pos + 1 + 1 + 1) (by omega)]; rfl
theorem piece_cells (s : ByteArray) (pos : Nat) (hp : pos < s.size) (ok : okD (Utf8.decode s pos)) (hf : fineC (Utf8.decode s pos).1 = true) : Lib.runeCells (Utf8.decode s pos).1 = Lib.byteCells (pieceL s pos) := by
  rw [runeCells_put _ hf, piece_put s pos hp ok]
  unfold u8s Lib.byteCells
  rw [List.map_map]
  rfl
/-- What Quote writes for a character. -/
def outR (c : Nat) (l : List UInt8) : List UInt8 := if c = 34 then [92, 34] else if c = 92 then [92, 92] else if c = 10 then [92, 110] else if c = 13 then [92, 114] else if c = 9 then [92, 116] else l
theorem outR_one : ((List.range 256).all fun i => q1 i.toUInt8 == outR i [i.toUInt8]) = true := by decide +kernel
theorem piece_q (s : ByteArray) (pos : Nat) (hp : pos < s.size) (ok : okD (Utf8.decode s pos)) : (pieceL s pos).flatMap q1 = outR (Utf8.decode s pos).1 (pieceL s pos) := by
  have hfit := decode_fits s pos hp
  rcases decode_bytes s pos hp ok with ⟨h1, h2, h3⟩ | ⟨h1, h2⟩
  · have e : pieceL s pos = [s.get! pos] := by unfold pieceL; rw [h1, byte_drop s pos hp]; rfl
    rw [e, h2]
    have h4 := List.all_eq_true.1 outR_one (s.get! pos).toNat (List.mem_range.2 (s.get! pos).toNat_lt)
    rw [show (s.get! pos).toNat.toUInt8 = s.get! pos from by simp] at h4
    rw [List.flatMap_cons, List.flatMap_nil, List.append_nil]
    exact beq_iff_eq.1 h4
  · have hb : ∀ c ∈ pieceL s pos, 128 ≤ c.toNat := by
      intro c hc
      obtain ⟨j, hj⟩ := List.mem_iff_getElem?.1 hc
      unfold pieceL at hj
      rw [List.getElem?_take] at hj
      split at hj
      · rename_i hlt
        rw [List.getElem?_drop] at hj
        have h5 := h1 (pos + j) (by omega) (by omega)
        have h6 : s.data.toList[pos + j]? = some (s.get! (pos + j)) := by
          rw [get_bang s (pos + j) (by have : s.data.size = s.size := rfl; omega)]
          simp
        rw [h6] at hj
        cases hj
        exact h5
      · cases hj
    rw [flat_high _ hb]
    unfold outR
    rw [if_neg (by omega), if_neg (by omega), if_neg (by omega), if_neg (by omega), if_neg (by omega)]
theorem quoteL_step (s : ByteArray) (pos : Nat) (hp : pos < s.size) (ok : okD (Utf8.decode s pos)) : quoteL (s.data.toList.take (pos + (Utf8.decode s pos).2)) = quoteL (s.data.toList.take pos) ++ outR (Utf8.decode s pos).1 (pieceL s pos) := by
  rw [← piece_q s pos hp ok]
  unfold quoteL pieceL
  rw [List.take_add, List.flatMap_append, List.cons_append]
theorem chk_step (s : ByteArray) (pos : Nat) (h : OKat s pos) (hp : pos < s.size) : okD (Utf8.decode s pos) ∧ fineC (Utf8.decode s pos).1 = true := by
  have h0 := ok_rune s pos h hp
  rcases runeN_cases s pos hp with ⟨_, _, h5⟩ | ⟨_, _, h5⟩ | ⟨h3, h4, _⟩
  · exact absurd h5 h0
  · exact absurd h5 h0
  · exact ⟨h3, h4⟩
end Go.Proofs.YtpenfnabeckboaaGreatDoor

namespace Go.Proofs.YtpenfnabeckboaaGreatDoor
open Go.RowKit Go.Lib
theorem outR_cases (c : Nat) (l : List UInt8) :
    (((c : Int) == 34) = true ∧ c = 34 ∧ outR c l = [92, 34]) ∨
    (((c : Int) == 34) = false ∧ ((c : Int) == 92) = true ∧ c = 92 ∧ outR c l = [92, 92]) ∨
    (((c : Int) == 34) = false ∧ ((c : Int) == 92) = false ∧ ((c : Int) == 10) = true ∧ outR c l = [92, 110]) ∨
    (((c : Int) == 34) = false ∧ ((c : Int) == 92) = false ∧ ((c : Int) == 10) = false ∧ ((c : Int) == 13) = true ∧ outR c l = [92, 114]) ∨
    (((c : Int) == 34) = false ∧ ((c : Int) == 92) = false ∧ ((c : Int) == 10) = false ∧ ((c : Int) == 13) = false ∧ ((c : Int) == 9) = true ∧ outR c l = [92, 116]) ∨
    (((c : Int) == 34) = false ∧ ((c : Int) == 92) = false ∧ ((c : Int) == 10) = false ∧ ((c : Int) == 13) = false ∧ ((c : Int) == 9) = false ∧ outR c l = l) := by
  have f : ∀ n : Nat, c ≠ n → ((c : Int) == n) = false := fun n h => by simp; omega
  unfold outR
  by_cases a34 : c = 34
  · left; subst a34; exact ⟨rfl, rfl, rfl⟩
  by_cases a92 : c = 92
  · right; left; subst a92; exact ⟨rfl, rfl, rfl, rfl⟩
  by_cases a10 : c = 10
  · right; right; left; subst a10; exact ⟨rfl, rfl, rfl, rfl⟩
  by_cases a13 : c = 13
  · right; right; right; left; subst a13; exact ⟨rfl, rfl, rfl, rfl, rfl⟩
  by_cases a9 : c = 9
  · right; right; right; right; left; subst a9; exact ⟨rfl, rfl, rfl, rfl, rfl, rfl⟩
  · right; right; right; right; right; exact ⟨f 34 a34, f 92 a92, f 10 a10, f 13 a13, f 9 a9, by rw [if_neg a34, if_neg a92, if_neg a10, if_neg a13, if_neg a9]⟩
set_option maxRecDepth 100000 in
set_option maxHeartbeats 8000000 in
theorem quote_c (s : ByteArray) (hs : s.size ≤ 1073741824) (w : World) (hE : Env w) :
    Calls Tryz.prog 95 #[.string s] w (RetBel (.tuple #[.string (quoteS s).1, .int .i64 (quoteS s).2]) w) := by
  have HCK : Hid (∀ v w1, Bel w w1 → BytesAt w1 v s → Calls Tryz.prog 27 #[v] w1 fun e w' => e = .returned (.tuple #[.int .i64 (chkS s), .int .i64 (if chkS s < s.size then 4 else 0)]) ∧ Bel w1 w') := Lib.hid fun v w1 hb hv => check_c s (by omega) v w1 (hE.bel hb) hv
  have hok := chk_ok s
  unfold quoteS
  obtain ⟨k, hk⟩ : ∃ k, chkS s = k := ⟨_, rfl⟩
  rw [hk] at HCK hok ⊢
  by_cases hlt : k < s.size
  · rw [if_pos hlt] at HCK ⊢
    clear hk hok hlt hE
    go_enter Tryz.func95, Tryz.ntmps95
    go_wp2_with (refine wpL_bytes rfl 9 54 5 _ rfl s rfl Tryz.underlying9 Tryz.underlying54 Tryz.underlying5 ?_; intro v W1 hv hb1)
    refine (HCK.out _ _ hb1 hv).mono ?_
    rintro e w2 ⟨rfl, hb2⟩
    go_wp2_with fail
    go_ret2
    exact ⟨rfl, hb1.trans hb2⟩
  · rw [if_neg hlt] at HCK ⊢
    have HOK := Lib.hid (hok hlt)
    clear hk hok hlt hE
    go_enter Tryz.func95, Tryz.ntmps95
    go_wp2_with (refine wpL_bytes rfl 9 54 5 _ rfl s rfl Tryz.underlying9 Tryz.underlying54 Tryz.underlying5 ?_; intro v W1 hv hb1)
    refine (HCK.out _ _ hb1 hv).mono ?_
    rintro e w2 ⟨rfl, hb2⟩
    have hb0 := hb1.trans hb2
    clear hv hb1 hb2
    have HWB := Lib.hid (kbyte_c w2.heap.size w2.heap.size [] 34 _ (isK_new w2) (by simp) (Bel.alloc w2 (.cells #[.pointer none, .slice none 0 0] 68)).size)
    go_wp2_with fail
    refine HWB.out.mono ?_
    rintro e w3 ⟨rfl, hk3, hb3, _⟩
    have hsz3 := Below.size hb3
    have hb23 : Bel w2 w3 := Below.trans (Bel.alloc w2 (.cells #[.pointer none, .slice none 0 0] 68)) hb3
    have hlt3 : w2.heap.size < w3.heap.size := by
      have : (w2.alloc (.cells #[.pointer none, .slice none 0 0] 68)).heap.size = w2.heap.size + 1 := by simp
      omega
    have hk3' : IsK w2.heap.size w2.heap.size (quoteL (s.data.toList.take 0)) w3 := hk3
    have HK3 := Lib.hid hk3'
    clear hk3 hk3' hsz3 hb3
    go_wp2_with fail
    go_loopw [8] (fun _ wr => ∃ (pos : Nat), wr.heap[w3.heap.size]? = some (.stringIter s pos) ∧ Bel w2 wr ∧ IsK w2.heap.size w2.heap.size (quoteL (s.data.toList.take pos)) wr ∧ OKat s pos ∧ pos ≤ s.size) (fun _ w' => s.size - w'.iterPos w3.heap.size)
    case atStart => exact ⟨0, World.iter_heap _ _ _, hb23.to_alloc _, isK_bel HK3.out (Bel.alloc _ _), HOK.out, Nat.zero_le _⟩
    case round =>
      obtain ⟨pos, hit, hB, hK, hokp, hpl⟩ := hrel
      have hpos := iterPos_of hit
      by_cases hp : pos < s.size
      · have hpi : (pos : Int) ≤ s.size := by omega
        have hnx := fun ty => Lib.run_next_any_at (P := Tryz.prog) wr w3.heap.size s pos ty hit hp
        have hwd := decode_pos s pos hp
        have hI : (wr.iterAt w3.heap.size s (pos + (Utf8.decode s pos).2)).heap[w3.heap.size]? = some (.stringIter s (pos + (Utf8.decode s pos).2)) := Lib.iterAt_heap _ _ _ _ _ hit
        have hB2 : Bel w2 (wr.iterAt w3.heap.size s (pos + (Utf8.decode s pos).2)) := Lib.below_iterAt hB (by omega) _ _
        have hK2 : IsK w2.heap.size w2.heap.size (quoteL (s.data.toList.take pos)) (wr.iterAt w3.heap.size s (pos + (Utf8.decode s pos).2)) := IsBuilderF.iterAt hK hit _
        have hfit := decode_fits s pos hp
        have hoks := ok_step s pos hokp hp
        obtain ⟨hod, hfc⟩ := chk_step s pos hokp hp
        have hcells := piece_cells s pos hp hod hfc
        have hql := quoteL_step s pos hp hod
        have hqle := quoteL_le (s.data.toList.take pos)
        have htl : (s.data.toList.take pos).length ≤ pos := List.length_take_le _ _
        have hcb := fine_bounds hfc
        have hpl2 : (pieceL s pos).length ≤ 4 := by unfold pieceL; have := decode_le s pos; have := List.length_take_le (Utf8.decode s pos).2 (s.data.toList.drop pos); rw [decode_at] at *; have := decodeN_le (s.size - pos) (s.get! pos).toNat (s.get! (pos + 1)).toNat (s.get! (pos + 2)).toNat (s.get! (pos + 3)).toNat; omega
        obtain ⟨p, hpp⟩ : ∃ p, pieceL s pos = p := ⟨_, rfl⟩
        obtain ⟨A, hA⟩ : ∃ A, quoteL (s.data.toList.take pos) = A := ⟨_, rfl⟩
        obtain ⟨c, n, hcn⟩ : ∃ c n, Utf8.decode s pos = (c, n) := ⟨_, _, rfl⟩
        rw [hpp] at hcells hql hpl2
        rw [hA] at hql hqle hK2
        rw [hcn] at hnx hwd hI hB2 hK2 hfit hoks hcells hql hcb
        simp only at hql hcells hfit hoks hwd hcb
        have hcc := outR_cases c p
        obtain ⟨O, hO⟩ : ∃ O, outR c p = O := ⟨_, rfl⟩
        rw [hO] at hql hcc
        have HQL := Lib.hid hql
        obtain ⟨W, hW⟩ : ∃ W, wr.iterAt w3.heap.size s (pos + n) = W := ⟨_, rfl⟩
        simp only [hW] at hnx hI hB2 hK2
        have HI := Lib.hid hI
        have HP := Lib.hid hpos
        have HOKS := Lib.hid hoks
        have HK2 := Lib.hid hK2
        have HCE := Lib.hid hcells
        have hWs : w2.heap.size ≤ W.heap.size := hB2.size
        have hil : w3.heap.size < W.heap.size := (Array.getElem?_eq_some_iff.1 hI).1
        have hal : A.length ≤ 2147483649 := by omega
        obtain ⟨hc0, hc1⟩ := hcb
        clear hit hpos hI hokp hoks hK hK2 hql hcells hcn hpp hA hO hW hod hfc hqle htl hB HK3 HOK HCK HWB hb23
        rcases hcc with ⟨e1, rfl, rfl⟩ | ⟨e1, e2, rfl, rfl⟩ | ⟨e1, e2, e3, rfl⟩ | ⟨e1, e2, e3, e4, rfl⟩ | ⟨e1, e2, e3, e4, e5, rfl⟩ | ⟨e1, e2, e3, e4, e5, rfl⟩
        · have hcv : ∀ w1 : World, (convert 21 9 (.int .i32 34)).run Tryz.prog w1 = .ok (.string ⟨#[34]⟩) w1 := fun w1 => by kernel_rfl
          have HST := Lib.hid (kstr_c w2.heap.size w2.heap.size A ⟨#[92, 34]⟩ W HK2.out (by omega) (by decide) hWs)
          go_wp2_with fail
          refine HST.out.mono ?_
          rintro e w4 ⟨rfl, hk4, hb4, ho4⟩
          have HIT : Hid (w4.heap[w3.heap.size]? = some (.stringIter s (pos + n))) := Lib.hid (ho4 _ _ HI.out (by simp; omega) (fun _ _ h => by cases h))
          have HK4 := Lib.hid hk4
          have HB4 : Hid (Bel w2 w4) := Lib.hid (Below.trans hB2 hb4)
          clear hk4 ho4
          go_wp2_with fail
          refine ⟨⟨pos + n, HIT.out, HB4.out, by rw [HQL.out]; exact HK4.out, HOKS.out, hfit⟩, ?_⟩
          rw [iterPos_of HIT.out, HP.out]
          omega
        · have hcv : ∀ w1 : World, (convert 21 9 (.int .i32 92)).run Tryz.prog w1 = .ok (.string ⟨#[92]⟩) w1 := fun w1 => by kernel_rfl
          have HST := Lib.hid (kstr_c w2.heap.size w2.heap.size A ⟨#[92, 92]⟩ W HK2.out (by omega) (by decide) hWs)
          go_wp2_with fail
          refine HST.out.mono ?_
          rintro e w4 ⟨rfl, hk4, hb4, ho4⟩
          have HIT : Hid (w4.heap[w3.heap.size]? = some (.stringIter s (pos + n))) := Lib.hid (ho4 _ _ HI.out (by simp; omega) (fun _ _ h => by cases h))
          have HK4 := Lib.hid hk4
          have HB4 : Hid (Bel w2 w4) := Lib.hid (Below.trans hB2 hb4)
          clear hk4 ho4
          go_wp2_with fail
          refine ⟨⟨pos + n, HIT.out, HB4.out, by rw [HQL.out]; exact HK4.out, HOKS.out, hfit⟩, ?_⟩
          rw [iterPos_of HIT.out, HP.out]
          omega
        · have HST := Lib.hid (kstr_c w2.heap.size w2.heap.size A ⟨#[92, 110]⟩ W HK2.out (by omega) (by decide) hWs)
          go_wp2_with fail
          refine HST.out.mono ?_
          rintro e w4 ⟨rfl, hk4, hb4, ho4⟩
          have HIT : Hid (w4.heap[w3.heap.size]? = some (.stringIter s (pos + n))) := Lib.hid (ho4 _ _ HI.out (by simp; omega) (fun _ _ h => by cases h))
          have HK4 := Lib.hid hk4
          have HB4 : Hid (Bel w2 w4) := Lib.hid (Below.trans hB2 hb4)
          clear hk4 ho4
          go_wp2_with fail
          refine ⟨⟨pos + n, HIT.out, HB4.out, by rw [HQL.out]; exact HK4.out, HOKS.out, hfit⟩, ?_⟩
          rw [iterPos_of HIT.out, HP.out]
          omega
        · have HST := Lib.hid (kstr_c w2.heap.size w2.heap.size A ⟨#[92, 114]⟩ W HK2.out (by omega) (by decide) hWs)
          go_wp2_with fail
          refine HST.out.mono ?_
          rintro e w4 ⟨rfl, hk4, hb4, ho4⟩
          have HIT : Hid (w4.heap[w3.heap.size]? = some (.stringIter s (pos + n))) := Lib.hid (ho4 _ _ HI.out (by simp; omega) (fun _ _ h => by cases h))
          have HK4 := Lib.hid hk4
          have HB4 : Hid (Bel w2 w4) := Lib.hid (Below.trans hB2 hb4)
          clear hk4 ho4
          go_wp2_with fail
          refine ⟨⟨pos + n, HIT.out, HB4.out, by rw [HQL.out]; exact HK4.out, HOKS.out, hfit⟩, ?_⟩
          rw [iterPos_of HIT.out, HP.out]
          omega
        · have HST := Lib.hid (kstr_c w2.heap.size w2.heap.size A ⟨#[92, 116]⟩ W HK2.out (by omega) (by decide) hWs)
          go_wp2_with fail
          refine HST.out.mono ?_
          rintro e w4 ⟨rfl, hk4, hb4, ho4⟩
          have HIT : Hid (w4.heap[w3.heap.size]? = some (.stringIter s (pos + n))) := Lib.hid (ho4 _ _ HI.out (by simp; omega) (fun _ _ h => by cases h))
          have HK4 := Lib.hid hk4
          have HB4 : Hid (Bel w2 w4) := Lib.hid (Below.trans hB2 hb4)
          clear hk4 ho4
          go_wp2_with fail
          refine ⟨⟨pos + n, HIT.out, HB4.out, by rw [HQL.out]; exact HK4.out, HOKS.out, hfit⟩, ?_⟩
          rw [iterPos_of HIT.out, HP.out]
          omega
        · have HRU := Lib.hid (krune_c w2.heap.size w2.heap.size A O c W hc0 hc1 HCE.out HK2.out (by omega) hWs)
          go_wp2_with fail
          refine HRU.out.mono ?_
          rintro e w4 ⟨rfl, hk4, hb4, ho4⟩
          have HIT : Hid (w4.heap[w3.heap.size]? = some (.stringIter s (pos + n))) := Lib.hid (ho4 _ _ HI.out (by simp; omega) (fun _ _ h => by cases h))
          have HK4 := Lib.hid hk4
          have HB4 : Hid (Bel w2 w4) := Lib.hid (Below.trans hB2 hb4)
          clear hk4 ho4
          go_wp2_with fail
          refine ⟨⟨pos + n, HIT.out, HB4.out, by rw [HQL.out]; exact HK4.out, HOKS.out, hfit⟩, ?_⟩
          rw [iterPos_of HIT.out, HP.out]
          omega
      · obtain rfl : pos = s.size := by omega
        have hnx := fun ty => Lib.run_next_end_at (P := Tryz.prog) wr w3.heap.size s s.size ty hit (by omega)
        have hfin : s.data.toList.take s.size = s.data.toList := List.take_of_length_le (Nat.le_refl _)
        rw [hfin] at hK
        have hqle := quoteL_le s.data.toList
        have hal : (quoteL s.data.toList).length ≤ 2147483649 := by have : s.data.toList.length = s.size := rfl; omega
        have HWS : Hid (∀ W, Bel wr W → Calls Tryz.prog 80 #[.pointer (some ⟨w2.heap.size, 0, none⟩), .int .u8 34] W fun e w' => e = .returned .nilIface ∧ IsK w2.heap.size w2.heap.size (quoteL s.data.toList ++ [34]) w' ∧ Below w2.heap.size W w' ∧ OKept w2.heap.size W w') :=
          Lib.hid fun W hb => kbyte_c w2.heap.size w2.heap.size (quoteL s.data.toList) 34 W (isK_bel hK hb) (by omega) (Nat.le_trans hB.size hb.size)
        clear hK hfin hqle
        go_wp2_with fail
        refine (HWS.out _ (by first | exact Bel.refl _ | exact Bel.drew _)).mono ?_
        rintro e w4 ⟨rfl, hk4, hb4, _⟩
        have HB4 : Hid (Bel w2 w4) := Lib.hid (Below.trans hB hb4)
        have HGT := Lib.hid (kget_c w2.heap.size w2.heap.size _ w4 hk4 HB4.out.size)
        clear hk4
        go_wp2_with fail
        refine HGT.out.mono ?_
        rintro e w5 ⟨rfl, hb5⟩
        go_wp2_with fail
        go_ret2
        exact ⟨rfl, hb0.trans (Below.trans HB4.out hb5)⟩
end Go.Proofs.YtpenfnabeckboaaGreatDoor

namespace Go.Proofs.YtpenfnabeckboaaGreatDoor
open Go.RowKit
theorem bytes_eq (a b : ByteArray) : (a.toList == b.toList) = decide (a = b) := by
  by_cases h : a = b
  · subst h; rw [decide_eq_true rfl]; simp
  · rw [decide_eq_false h, beq_eq_false_iff_ne]
    intro h2
    rw [Lib.toList_data, Lib.toList_data] at h2
    exact h (ByteArray.ext (Array.ext' h2))
end Go.Proofs.YtpenfnabeckboaaGreatDoor

namespace Go.Proofs.YtpenfnabeckboaaGreatDoor
open Go.Lib
theorem quoteB_list (s : ByteArray) : quoteB s = ⟨([34] ++ s.data.toList.flatMap q1 ++ [34]).toArray⟩ := rfl
theorem chars_cat (a b : ByteArray) (ha : charsS a ≠ none) (hb : charsS b ≠ none) : charsS (a ++ b) ≠ none := by
  cases hl : charsS a with
  | none => exact absurd hl ha
  | some l =>
    rw [chars_append a b l hl]
    cases hr : charsS b with
    | none => exact absurd hr hb
    | some r => simp
end Go.Proofs.YtpenfnabeckboaaGreatDoor
