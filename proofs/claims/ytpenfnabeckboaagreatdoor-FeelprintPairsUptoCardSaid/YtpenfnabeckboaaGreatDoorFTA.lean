/-
  feellex: what the tokens of texts want besides (plain).
  feellex: a text's tokens stay the same if a text stands behind it that no token goes on with (plain).
  feellex: how signs ahead of a text, and texts that stand behind each other, are tokens (plain).
  feellex: a number's one form is one token, a name its words (plain).
-/
import Derived.Test.YtpenfnabeckboaaGreatDoorMJ
import Derived.Test.YtpenfnabeckboaaGreatDoorMG
import Derived.Test.YtpenfnabeckboaaGreatDoorMT
import Derived.Test.YtpenfnabeckboaaGreatDoorSPA
import Derived.Test.YtpenfnabeckboaaGreatDoorEXD
import Derived.Test.YtpenfnabeckboaaGreatDoorFPC
namespace Go.Proofs.YtpenfnabeckboaaGreatDoor
open Go.Lib
theorem mk_data (s : ByteArray) : (⟨s.data.toList.toArray⟩ : ByteArray) = s := by cases s; rfl
theorem decodeN_cut (n n' b0 b1 b2 b3 c1 c2 c3 : Nat) (hn : n' ≤ n) (hw : (decodeN n b0 b1 b2 b3).2 ≤ n') (h1 : 1 < n' → c1 = b1) (h2 : 2 < n' → c2 = b2) (h3 : 3 < n' → c3 = b3) (ok : okD (decodeN n b0 b1 b2 b3)) :
    decodeN n' b0 c1 c2 c3 = decodeN n b0 b1 b2 b3 := by
  unfold okD at ok
  by_cases k1 : 1 < n'
  · obtain rfl := h1 k1
    by_cases k2 : 2 < n'
    · obtain rfl := h2 k2
      by_cases k3 : 3 < n'
      · obtain rfl := h3 k3
        unfold decodeN at ok hw ⊢
        grind
      · unfold decodeN at ok hw ⊢
        grind
    · unfold decodeN at ok hw ⊢
      grind
  · unfold decodeN at ok hw ⊢
    grind
theorem get_piece (s : ByteArray) (k j i : Nat) (hj : j ≤ s.size) (h : k + i < j) : (s.extract k j).get! i = s.get! (k + i) := by
  have h1 : i < (s.extract k j).data.size := by show i < (s.extract k j).size; simp; omega
  have h2 : k + i < s.size := by omega
  rw [get_bang _ _ h1, get_bang _ _ h2]
  simp
theorem decode_piece (s : ByteArray) (k : Nat) (h : k < s.size) (ok : okD (Utf8.decode s k)) :
    Utf8.decode (s.extract k (k + (Utf8.decode s k).2)) 0 = Utf8.decode s k := by
  have hf := decode_fits s k h
  have hp := decode_pos s k h
  obtain ⟨w, hw⟩ : ∃ w, (Utf8.decode s k).2 = w := ⟨_, rfl⟩
  rw [hw] at hf hp ⊢
  have hsz : (s.extract k (k + w)).size = w := by simp; omega
  rw [decode_at] at ok hw
  rw [decode_at, decode_at, hsz, get_piece s k (k + w) 0 hf (by omega), Nat.add_zero]
  refine decodeN_cut _ _ _ _ _ _ _ _ _ (by omega) (by omega) (fun h1 => ?_) (fun h1 => ?_) (fun h1 => ?_) ok
  · rw [get_piece s k (k + w) (0 + 1) hf (by omega), Nat.zero_add]
  · rw [get_piece s k (k + w) (0 + 2) hf (by omega), Nat.zero_add]
  · rw [get_piece s k (k + w) (0 + 3) hf (by omega), Nat.zero_add]
theorem chars_piece (s : ByteArray) (k : Nat) (h : k < s.size) (h0 : (runeN (Utf8.decode s k)).2 ≠ 0) :
    charsS (s.extract k (k + (Utf8.decode s k).2)) = some [((Utf8.decode s k).1 : Int)] := by
  have hd := decode_piece s k h (runeN_ok _ h0)
  have hr := runeN_width s k h h0
  have hf := decode_fits s k h
  have hp := decode_pos s k h
  have hsz : (s.extract k (k + (Utf8.decode s k).2)).size = (Utf8.decode s k).2 := by simp; omega
  show charsAt _ 0 = _
  rw [charsAt_step _ 0 (by omega), hd, hr]
  rw [if_neg (by show ¬ ((Utf8.decode s k).2 : Int) = 0; omega), charsAt_end _ _ (by simp; omega)]
  rfl
theorem made_iff (p q : Int → Bool) (hp : ∀ c, p c = true → fineC c = true) (hq : ∀ c, q c = true → fineC c = true) (s : ByteArray) : madeS p q s = true ↔ ∃ c l, charsS s = some (c :: l) ∧ p c = true ∧ l.all q = true := by
  rw [made_chars p q hp hq]
  unfold charsB
  constructor
  · intro h
    split at h
    · cases h
    · rename_i l hl
      cases l with
      | nil => simp [listS] at h
      | cons c l =>
        refine ⟨c, l, hl, ?_⟩
        simpa [listS] using h
  · rintro ⟨c, l, hc, h1, h2⟩
    rw [hc]
    simp only [listS, h1, h2, Bool.and_self]
theorem not_true {b : Bool} (h : b ≠ true) : b = false := by simpa using h
theorem word_made (s : ByteArray) (h : wordS s = true) : madeS firstC nextC s = true := by
  unfold wordS at h; rw [Bool.and_eq_true] at h; exact h.1
theorem word_iff (s : ByteArray) : madeS firstC nextC s = true ↔ ∃ c l, charsS s = some (c :: l) ∧ firstC c = true ∧ l.all nextC = true := made_iff _ _ fine_of_first fine_of_next s
end Go.Proofs.YtpenfnabeckboaaGreatDoor

namespace Go.Proofs.YtpenfnabeckboaaGreatDoor
theorem ok_end (s : ByteArray) (i : Nat) (h : s.size ≤ i) : OKat s i := by
  unfold OKat
  rw [charsAt_end s i h]
  simp
theorem ok_chk (s : ByteArray) (h : OKat s 0) : ¬ chkS s < s.size := fun h0 => h ((chk_chars s s.size 0 (by omega) (Nat.zero_le _)).1 h0)
end Go.Proofs.YtpenfnabeckboaaGreatDoor

namespace Go.Proofs.YtpenfnabeckboaaGreatDoor
open Go.RowKit
theorem num_not0 (s : ByteArray) (i : Nat) (hi : i < s.size) : numN (s.extract i s.size) ≠ 0 ↔ (digAt s i = true ∨ s.get! i = 46 ∧ digAt s (i + 1) = true) := by
  have hn := numN_at s i (by omega)
  by_cases hd : digAt s i = true
  · have h1 := digE_step s i hd
    have h2 := digE_ge s (i + 1)
    have h3 := digE_ge s (digE s i + 1)
    constructor
    · intro _; exact .inl hd
    · intro _ h0
      split at hn <;> omega
  · have h1 := digE_stop s i (by simpa using hd)
    rw [h1] at hn
    by_cases h46 : s.get! i = 46 ∧ digAt s (i + 1) = true
    · rw [if_pos ⟨hi, h46.1, h46.2⟩] at hn
      have h2 := digE_step s _ h46.2
      have h3 := digE_ge s (i + 1 + 1)
      exact ⟨fun _ => .inr h46, fun _ h0 => by omega⟩
    · rw [if_neg (fun h => h46 h.2)] at hn
      exact ⟨fun h => absurd (by omega) h, fun h => h.elim (fun h => absurd h hd) (fun h => absurd h h46)⟩
theorem size_zero (s : ByteArray) (h : s.size = 0) : s = ⟨#[]⟩ := by
  apply ByteArray.ext
  exact Array.eq_empty_of_size_eq_zero h
end Go.Proofs.YtpenfnabeckboaaGreatDoor

namespace Go.Proofs.YtpenfnabeckboaaGreatDoor
open Go.Lib
theorem q1_cases (c : UInt8) : (q1 c = [c] ∧ c ≠ 34 ∧ c ≠ 92) ∨ (∃ e, q1 c = [92, e] ∧ escV e = some c) := by
  unfold q1
  by_cases h34 : c = 34
  · right; subst h34; exact ⟨34, rfl, rfl⟩
  by_cases h92 : c = 92
  · right; subst h92; exact ⟨92, rfl, rfl⟩
  by_cases h10 : c = 10
  · right; subst h10; exact ⟨110, rfl, rfl⟩
  by_cases h13 : c = 13
  · right; subst h13; exact ⟨114, rfl, rfl⟩
  by_cases h9 : c = 9
  · right; subst h9; exact ⟨116, rfl, rfl⟩
  · left; rw [if_neg h34, if_neg h92, if_neg h10, if_neg h13, if_neg h9]; exact ⟨rfl, h34, h92⟩
theorem get_mid (P R : List UInt8) (c : UInt8) : (⟨(P ++ c :: R).toArray⟩ : ByteArray).get! P.length = c := by
  rw [get_bang _ _ (by simp)]
  simp
theorem tail_mid (P R : List UInt8) (c : UInt8) : ((⟨(P ++ c :: R).toArray⟩ : ByteArray).extract P.length (⟨(P ++ c :: R).toArray⟩ : ByteArray).size) = ⟨(c :: R).toArray⟩ := by
  apply ByteArray.ext
  apply Array.ext'
  rw [tail_list]
  simp
theorem size_mk (L : List UInt8) : (⟨L.toArray⟩ : ByteArray).size = L.length := by show L.toArray.size = _; simp
/-- Over what stands for bytes in quotes the text is told. -/
theorem text_quote : ∀ (rest P Y acc : List UInt8) (b : Nat), (P ++ rest.flatMap q1 ++ Y).length ≤ P.length + b →
    ∃ b', (P ++ rest.flatMap q1 ++ Y).length ≤ (P ++ rest.flatMap q1).length + b' ∧ textF ⟨(P ++ rest.flatMap q1 ++ Y).toArray⟩ b P.length acc = textF ⟨(P ++ rest.flatMap q1 ++ Y).toArray⟩ b' (P ++ rest.flatMap q1).length (acc ++ rest)
  | [], P, Y, acc, b, hb => ⟨b, by simpa using hb, by simp⟩
  | c :: rest, P, Y, acc, b, hb => by
    rcases q1_cases c with ⟨hq, h34, h92⟩ | ⟨e, hq, he⟩
    · have e1 : P ++ (c :: rest).flatMap q1 ++ Y = (P ++ [c]) ++ rest.flatMap q1 ++ Y := by rw [List.flatMap_cons, hq]; simp
      have e2 : P ++ (c :: rest).flatMap q1 = (P ++ [c]) ++ rest.flatMap q1 := by rw [List.flatMap_cons, hq]; simp
      have e3 : P ++ (c :: rest).flatMap q1 ++ Y = P ++ c :: (rest.flatMap q1 ++ Y) := by rw [List.flatMap_cons, hq]; simp
      have hlen : P.length < (P ++ (c :: rest).flatMap q1 ++ Y).length := by rw [e3]; simp
      obtain ⟨b1, rfl, h1⟩ := textF_step ⟨(P ++ (c :: rest).flatMap q1 ++ Y).toArray⟩ b P.length acc (by rw [size_mk]; exact hlen) (by rw [size_mk]; exact hb)
      have hg : (⟨(P ++ (c :: rest).flatMap q1 ++ Y).toArray⟩ : ByteArray).get! P.length = c := by rw [e3]; exact get_mid _ _ _
      rw [hg, if_neg h34, if_neg h92] at h1
      obtain ⟨b2, h2, h3⟩ := text_quote rest (P ++ [c]) Y (acc ++ [c]) b1 (by rw [← e1, show (P ++ [c]).length = P.length + 1 from by simp]; omega)
      refine ⟨b2, by rw [e1, e2]; exact h2, ?_⟩
      rw [h1, e1, e2]
      rw [show P.length + 1 = (P ++ [c]).length from by simp, h3]
      simp
    · have e1 : P ++ (c :: rest).flatMap q1 ++ Y = (P ++ [92, e]) ++ rest.flatMap q1 ++ Y := by rw [List.flatMap_cons, hq]; simp
      have e2 : P ++ (c :: rest).flatMap q1 = (P ++ [92, e]) ++ rest.flatMap q1 := by rw [List.flatMap_cons, hq]; simp
      have e3 : P ++ (c :: rest).flatMap q1 ++ Y = P ++ 92 :: (e :: rest.flatMap q1 ++ Y) := by rw [List.flatMap_cons, hq]; simp
      have hlen : P.length < (P ++ (c :: rest).flatMap q1 ++ Y).length := by rw [e3]; simp
      obtain ⟨b1, rfl, h1⟩ := textF_step ⟨(P ++ (c :: rest).flatMap q1 ++ Y).toArray⟩ b P.length acc (by rw [size_mk]; exact hlen) (by rw [size_mk]; exact hb)
      have hg : (⟨(P ++ (c :: rest).flatMap q1 ++ Y).toArray⟩ : ByteArray).get! P.length = 92 := by rw [e3]; exact get_mid _ _ _
      have hx : (⟨(P ++ (c :: rest).flatMap q1 ++ Y).toArray⟩ : ByteArray).extract P.length (⟨(P ++ (c :: rest).flatMap q1 ++ Y).toArray⟩ : ByteArray).size = ⟨(92 :: (e :: rest.flatMap q1 ++ Y)).toArray⟩ := by
        rw [e3]; exact tail_mid _ _ _
      have hes : escS ⟨(92 :: (e :: rest.flatMap q1 ++ Y)).toArray⟩ = (⟨#[c]⟩, 2) := by
        unfold escS
        rw [size_mk, if_neg (by simp), show (⟨(92 :: (e :: rest.flatMap q1 ++ Y)).toArray⟩ : ByteArray).get! 1 = e from get_mid [92] _ e, he]
      rw [hg, if_neg (by decide), if_pos rfl, hx, hes, if_neg (show ¬ (2 : Nat) = 0 by decide)] at h1
      obtain ⟨b2, h2, h3⟩ := text_quote rest (P ++ [92, e]) Y (acc ++ [c]) b1 (by rw [← e1, show (P ++ [92, e]).length = P.length + 2 from by simp]; omega)
      refine ⟨b2, by rw [e1, e2]; exact h2, ?_⟩
      rw [h1, e1, e2]
      rw [show P.length + 2 = (P ++ [92, e]).length from by simp]
      have h4 : acc ++ (⟨#[c]⟩ : ByteArray).data.toList = acc ++ [c] := rfl
      rw [h4, h3]
      simp
theorem text_quoteB (s : ByteArray) : textS (quoteB s) = (s, (quoteB s).size, 0) := by
  unfold textS
  have hl : (quoteB s).size = ([34] ++ s.data.toList.flatMap q1 ++ [34]).length := by rw [quoteB_list, size_mk]
  obtain ⟨b', h1, h2⟩ := text_quote s.data.toList [34] [34] [] (quoteB s).size (by rw [hl]; simp)
  rw [← quoteB_list] at h2
  have h3 : textF (quoteB s) (quoteB s).size 1 [] = textF (quoteB s) b' ([34] ++ s.data.toList.flatMap q1).length ([] ++ s.data.toList) := h2
  rw [h3]
  have hlt : ([34] ++ s.data.toList.flatMap q1).length < (quoteB s).size := by rw [hl]; simp
  obtain ⟨b2, e2, h4⟩ := textF_step (quoteB s) b' ([34] ++ s.data.toList.flatMap q1).length ([] ++ s.data.toList) hlt (by rw [hl]; exact h1)
  have hg : (quoteB s).get! ([34] ++ s.data.toList.flatMap q1).length = 34 := by rw [quoteB_list]; exact get_mid _ [] 34
  rw [h4, if_pos hg, hl]
  simp
def openQ (s : ByteArray) : ByteArray := ⟨(quoteL s.data.toList).toArray⟩
theorem openQ_list (s : ByteArray) : openQ s = ⟨([34] ++ s.data.toList.flatMap q1 ++ []).toArray⟩ := by rw [List.append_nil]; rfl
theorem word_zero (x : ByteArray) (h : 1 ≤ x.size) (ha : (x.get! 0).toNat < 128) (hf : firstC (x.get! 0).toNat = false) : wordN x = 0 := by
  have hd : Utf8.decode x 0 = ((x.get! 0).toNat, 1) := by
    have hg : x[0]'h = x.get! 0 := (get_at x 0 h).symm
    rw [decode_ascii x 0 h (by rw [hg]; exact ha), hg]
  exact wordF_stop x x.size 0 h (by omega) (by rw [hd]; simp [hf])
theorem first_34 : firstC 34 = false := by decide +kernel
theorem one_text (x : ByteArray) (h : 1 ≤ x.size) (h34 : x.get! 0 = 34) : oneS x = ((3, (textS x).1), (textS x).2.1, (textS x).2.2) := by
  have hw := word_zero x h (by rw [h34]; decide) (by rw [h34]; exact first_34)
  have hn : ¬ numN x ≠ 0 := by
    have h1 := num_not0 x 0 h
    rw [extract_all] at h1
    rw [h1]
    rintro (h2 | h2)
    · unfold digAt at h2
      rw [h34] at h2
      simp only [Bool.and_eq_true] at h2
      exact absurd h2.2 (by decide)
    · rw [h34] at h2
      exact absurd h2.1 (by decide)
  unfold oneS
  rw [if_neg (by rw [hw]; simp), if_neg hn, if_pos h34]
theorem quoteB_head (s : ByteArray) : 2 ≤ (quoteB s).size ∧ (quoteB s).get! 0 = 34 ∧ 1 ≤ (openQ s).size ∧ (openQ s).get! 0 = 34 := by
  refine ⟨by rw [quoteB_list, size_mk]; simp, ?_, by rw [openQ_list, size_mk]; simp, ?_⟩
  · rw [quoteB_list]; exact get_mid [] _ 34
  · rw [openQ_list]; exact get_mid [] _ 34
theorem space_34 : spaceC ((34 : UInt8).toNat : Int) = false := by decide +kernel
theorem chars_two : ((List.range 256).all fun e => decide (escV e.toUInt8 = none) || decide (charsS ⟨#[92, e.toUInt8]⟩ ≠ none)) = true := by decide +kernel
theorem chars_esc (e c : UInt8) (h : escV e = some c) : charsS ⟨#[92, e]⟩ ≠ none := by
  have h1 := List.all_eq_true.1 chars_two e.toNat (List.mem_range.2 e.toNat_lt)
  rw [show e.toNat.toUInt8 = e from by simp, h] at h1
  simpa using h1
theorem mk_append (A B : List UInt8) : (⟨(A ++ B).toArray⟩ : ByteArray) = ⟨A.toArray⟩ ++ ⟨B.toArray⟩ := by
  apply ByteArray.ext
  apply Array.ext'
  simp
theorem chars_flat (s : ByteArray) : ∀ n pos, s.size = pos + n → OKat s pos → charsS ⟨((s.data.toList.drop pos).flatMap q1).toArray⟩ ≠ none := by
  intro n
  induction n using Nat.strongRecOn with
  | _ n ih =>
    intro pos hn hok
    by_cases hp : pos < s.size
    · have hpos := decode_pos s pos hp
      have hfit := decode_fits s pos hp
      obtain ⟨hod, hfc⟩ := chk_step s pos hok hp
      have h0 := ok_rune s pos hok hp
      have e : s.data.toList.drop pos = pieceL s pos ++ s.data.toList.drop (pos + (Utf8.decode s pos).2) := by
        unfold pieceL
        rw [← List.drop_drop, List.take_append_drop]
      rw [e, List.flatMap_append, mk_append]
      refine chars_cat _ _ ?_ (ih (n - (Utf8.decode s pos).2) (by omega) _ (by omega) (ok_step s pos hok hp))
      rcases decode_bytes s pos hp hod with ⟨h1, h2, h3⟩ | ⟨h1, h2⟩
      · have hpc : pieceL s pos = [s.get! pos] := by unfold pieceL; rw [h1, byte_drop s pos hp]; rfl
        rw [hpc, List.flatMap_cons, List.flatMap_nil, List.append_nil]
        rcases q1_cases (s.get! pos) with ⟨hq, _, _⟩ | ⟨e, hq, he⟩
        · rw [hq]
          have h4 := chars_piece s pos hp h0
          rw [h1, byte_extract s pos hp] at h4
          show charsS ⟨#[s.get! pos]⟩ ≠ none
          rw [h4]
          simp
        · rw [hq]
          exact chars_esc e _ he
      · have hb : (pieceL s pos).flatMap q1 = pieceL s pos := by
          rw [piece_q s pos hp hod]
          unfold outR
          rw [if_neg (by omega), if_neg (by omega), if_neg (by omega), if_neg (by omega), if_neg (by omega)]
        rw [hb]
        have h4 := chars_piece s pos hp h0
        have h5 : s.extract pos (pos + (Utf8.decode s pos).2) = ⟨(pieceL s pos).toArray⟩ := by
          apply ByteArray.ext
          apply Array.ext'
          rw [extract_piece]
          rfl
        rw [h5] at h4
        rw [h4]
        simp
    · rw [List.drop_of_length_le (by have : s.data.toList.length = s.size := rfl; omega)]
      decide
theorem chars_34 : charsS ⟨#[34]⟩ ≠ none := by decide +kernel
theorem ok_openQ (s : ByteArray) (h : OKat s 0) : OKat (openQ s) 0 := by
  have h1 := chars_flat s s.size 0 (by omega) h
  rw [List.drop_zero] at h1
  have h2 := chars_cat ⟨#[34]⟩ _ chars_34 h1
  have e : openQ s = ⟨#[34]⟩ ++ ⟨(s.data.toList.flatMap q1).toArray⟩ := mk_append [34] _
  rw [← e] at h2
  exact h2
theorem ok_quoteB (s : ByteArray) (h : OKat s 0) : OKat (quoteB s) 0 := by
  have e : quoteB s = openQ s ++ ⟨#[34]⟩ := mk_append (quoteL s.data.toList) [34]
  rw [e]
  exact chars_cat _ _ (ok_openQ s h) chars_34
/-- A text in quotes is one token. -/
theorem toks_quote (s : ByteArray) : Toks (quoteB s) 0 [(3, 0, s)] := by
  obtain ⟨h1, h2, _, _⟩ := quoteB_head s
  have ho := one_text (quoteB s) (by omega) h2
  rw [text_quoteB] at ho
  have hx : (quoteB s).extract 0 (quoteB s).size = quoteB s := extract_all _
  have ht := Toks.tok (s := quoteB s) 0 [] (by omega) (by rw [h2]; exact space_34) (by rw [hx, ho]) (by rw [hx, ho]; exact .done _ (by show (quoteB s).size ≤ 0 + (quoteB s).size; omega))
  rw [hx, ho] at ht
  exact ht
end Go.Proofs.YtpenfnabeckboaaGreatDoor

namespace Go.Proofs.YtpenfnabeckboaaGreatDoor
theorem one_tok (x : ByteArray) (k : Int) (v : ByteArray) (h : 1 ≤ x.size) (hs : spaceC (x.get! 0).toNat = false) (ho : oneS x = ((k, v), x.size, 0)) : Toks x 0 [(k, 0, v)] := by
  have hx : x.extract 0 x.size = x := extract_all _
  have ht := Toks.tok (s := x) 0 [] (by omega) hs (by rw [hx, ho]) (by rw [hx, ho]; exact .done _ (by show x.size ≤ 0 + x.size; omega))
  rw [hx, ho] at ht
  exact ht
/-- Where all characters go on, a word goes to the end. -/
theorem word_all (s : ByteArray) : ∀ b pos l, charsAt s pos = some l → pos ≤ s.size → s.size ≤ pos + b → l.all nextC = true → (pos = 0 → ∀ c r, l = c :: r → firstC c = true) → wordF s b pos = s.size := by
  intro b
  induction b with
  | zero => intro pos l _ hp hb _ _; rw [wordF_end s 0 pos (by omega)]; omega
  | succ b ih =>
    intro pos l hl hp hb hall hfirst
    by_cases hlt : pos < s.size
    · rw [charsAt_step s pos hlt] at hl
      by_cases h0 : (runeN (Utf8.decode s pos)).2 = 0
      · rw [if_pos h0] at hl; cases hl
      · rw [if_neg h0] at hl
        obtain ⟨l', hl', rfl⟩ := Option.map_eq_some_iff.1 hl
        have hw := runeN_width s pos hlt h0
        rw [hw] at hl' hall hfirst
        simp only [Int.toNat_natCast] at hl'
        simp only [List.all_cons, Bool.and_eq_true] at hall
        have hpos := decode_pos s pos hlt
        have ht : (nextC (Utf8.decode s pos).1 && (decide (pos ≠ 0) || firstC (Utf8.decode s pos).1)) = true := by
          rw [hall.1, Bool.true_and]
          by_cases hz : pos = 0
          · rw [hfirst hz _ _ rfl, Bool.or_true]
          · rw [decide_eq_true hz]; rfl
        obtain ⟨b1, e1, h1⟩ := wordF_step s (b + 1) pos hlt hb ht
        obtain rfl : b = b1 := by omega
        rw [h1]
        exact ih _ _ hl' (decode_fits s pos hlt) (by omega) hall.2 (fun h => by omega)
    · rw [wordF_end s _ pos hlt]; omega
theorem first_space : ((List.range 128).all fun i => !(spaceC i) || !(firstC i)) = true := by decide +kernel
theorem toks_word (s : ByteArray) (h : wordS s = true) : Toks s 0 [(0, 0, s)] ∧ OKat s 0 ∧ 1 ≤ s.size := by
  have hm := word_made s h
  obtain ⟨c, l, hcs, hc, hall⟩ := (word_iff s).1 hm
  have hok : OKat s 0 := by show charsS s ≠ none; rw [hcs]; simp
  have hsz : 1 ≤ s.size := by
    apply Nat.pos_of_ne_zero
    intro h0
    rw [size_zero s h0] at hcs
    cases hcs
  have hkw : isKw s = false := by
    unfold wordS at h
    simp only [Bool.and_eq_true, Bool.not_eq_true'] at h
    exact h.2
  have hnc : nextC c = true := by unfold nextC; rw [hc]; rfl
  have hw : wordN s = s.size := word_all s s.size 0 (c :: l) hcs (Nat.zero_le _) (by omega) (by simp [hnc, hall]) (fun _ c' r' e => by cases e; exact hc)
  have hsp : spaceC (s.get! 0).toNat = false := by
    cases hs : spaceC (s.get! 0).toNat with
    | false => rfl
    | true =>
      have hlt := space_lt _ hs
      obtain ⟨_, hd⟩ := ok_byte s 0 hsz hlt 0 0 rfl hok
      have hst := charsAt_step s 0 hsz
      have h0 := ok_rune s 0 hok hsz
      have hw2 := runeN_width s 0 hsz h0
      rw [if_neg h0] at hst
      have hcs' : charsAt s 0 = some (c :: l) := hcs
      rw [hcs'] at hst
      obtain ⟨l', _, he⟩ := Option.map_eq_some_iff.1 hst.symm
      injection he with he1 he2
      rw [hw2, hd] at he1
      have h1 := List.all_eq_true.1 first_space (s.get! 0).toNat (List.mem_range.2 hlt)
      rw [hs] at h1
      have he3 : (((s.get! 0).toNat : Nat) : Int) = c := he1
      rw [he3, hc] at h1
      cases h1
  refine ⟨one_tok s 0 s hsz hsp ?_, hok, hsz⟩
  unfold oneS
  rw [hw, if_pos (by omega), extract_all, hkw]
  rfl
/-- One of few texts is one token. -/
def oneOK (k : Int) (x : ByteArray) : Bool := decide (1 ≤ x.size) && !(spaceC (x.get! 0).toNat) && decide (oneS x = ((k, x), x.size, 0)) && decide (chkS x = x.size)
theorem oneOK_toks (k : Int) (x : ByteArray) (h : oneOK k x = true) : Toks x 0 [(k, 0, x)] ∧ OKat x 0 ∧ 1 ≤ x.size := by
  unfold oneOK at h
  simp only [Bool.and_eq_true, decide_eq_true_eq, Bool.not_eq_true'] at h
  obtain ⟨⟨⟨h1, h2⟩, h3⟩, h4⟩ := h
  exact ⟨one_tok x k x h1 h2 h3, chk_ok x (by omega), h1⟩
/-- Bytes that are digits, or a point: a right text. -/
theorem dot_fine : ((List.range 128).all fun i => !(dgC i.toUInt8 || i == 46) || fineC i) = true := by decide +kernel
theorem ok_ascii (s : ByteArray) : ∀ n pos, s.size = pos + n → (∀ i, pos ≤ i → i < s.size → dgC (s.get! i) = true ∨ s.get! i = 46) → OKat s pos
  | 0, pos, hn, _ => ok_end s pos (by omega)
  | n + 1, pos, hn, h => by
    have hlt : pos < s.size := by omega
    have hb := h pos (Nat.le_refl _) hlt
    have ha : (s.get! pos).toNat < 128 := hb.elim (dgC_lt _) (fun e => by rw [e]; decide)
    have hg : s[pos]'hlt = s.get! pos := (get_at s pos hlt).symm
    have hd : Utf8.decode s pos = ((s.get! pos).toNat, 1) := by rw [decode_ascii s pos hlt (by rw [hg]; exact ha), hg]
    have hf : fineC (s.get! pos).toNat = true := by
      have h1 := List.all_eq_true.1 dot_fine (s.get! pos).toNat (List.mem_range.2 ha)
      have h2 : (dgC (s.get! pos).toNat.toUInt8 || (s.get! pos).toNat == 46) = true := by
        rw [show (s.get! pos).toNat.toUInt8 = s.get! pos from by simp]
        rcases hb with h3 | h3
        · rw [h3]; rfl
        · rw [h3]; rfl
      rw [h2] at h1
      simpa using h1
    have ih := ok_ascii s n (pos + 1) (by omega) (fun i h1 h2 => h i (by omega) h2)
    unfold OKat at ih ⊢
    rw [charsAt_step s pos hlt]
    have hr : runeN (Utf8.decode s pos) = (((s.get! pos).toNat : Int), 1) := by
      rw [hd]
      unfold runeN
      rw [if_neg]
      · rfl
      · rintro (h1 | h1)
        · omega
        · rw [hf] at h1; cases h1
    rw [hr, if_neg (show ¬ (1 : Int) = 0 by decide)]
    intro hn
    exact ih (Option.map_eq_none_iff.1 hn)
theorem digE_all (s : ByteArray) : ∀ n k, digE s k = k + n → ∀ i, k ≤ i → i < k + n → dgC (s.get! i) = true
  | 0, _, _, i, h1, h2 => by omega
  | n + 1, k, he, i, h1, h2 => by
    cases hd : digAt s k with
    | false => rw [digE_stop s k hd] at he; omega
    | true =>
      have hst := digE_step s k hd
      by_cases hk : i = k
      · subst hk
        unfold digAt at hd
        simp only [Bool.and_eq_true] at hd
        exact hd.2
      · exact digE_all s n (k + 1) (by omega) i (by omega) (by omega)
theorem num_bytes (s : ByteArray) (h : numN s = s.size) : ∀ i, i < s.size → dgC (s.get! i) = true ∨ s.get! i = 46 := by
  intro i hi
  rw [numN_zero] at h
  have hge := digE_ge s 0
  obtain ⟨n, hn⟩ : ∃ n, digE s 0 = 0 + n := ⟨digE s 0, by omega⟩
  have h1 := digE_all s n 0 hn
  split at h
  · rename_i hc
    have hge2 := digE_ge s (digE s 0 + 1)
    obtain ⟨m, hm⟩ : ∃ m, digE s (digE s 0 + 1) = digE s 0 + 1 + m := ⟨digE s (digE s 0 + 1) - (digE s 0 + 1), by omega⟩
    have h2 := digE_all s m _ hm
    by_cases hl : i < digE s 0
    · exact .inl (h1 i (by omega) (by omega))
    · by_cases he : i = digE s 0
      · right; rw [he]; exact hc.2.1
      · exact .inl (h2 i (by omega) (by omega))
  · exact .inl (h1 i (by omega) (by omega))
theorem dg_first : ((List.range 256).all fun i => !(dgC i.toUInt8 || i == 46) || (!(firstC i) && !(spaceC i))) = true := by decide +kernel
theorem toks_num (s : ByteArray) (h0 : s.size ≠ 0) (h : numN s = s.size) : Toks s 0 [(2, 0, s)] ∧ OKat s 0 ∧ 1 ≤ s.size := by
  have hb := num_bytes s h
  have h1 : 1 ≤ s.size := by omega
  have hz := hb 0 h1
  have hf := List.all_eq_true.1 dg_first (s.get! 0).toNat (List.mem_range.2 (s.get! 0).toNat_lt)
  have h2 : (dgC (s.get! 0).toNat.toUInt8 || (s.get! 0).toNat == 46) = true := by
    rw [show (s.get! 0).toNat.toUInt8 = s.get! 0 from by simp]
    rcases hz with h3 | h3
    · rw [h3]; rfl
    · rw [h3]; rfl
  rw [h2] at hf
  simp only [Bool.not_true, Bool.false_or, Bool.and_eq_true, Bool.not_eq_true'] at hf
  have ha : (s.get! 0).toNat < 128 := hz.elim (dgC_lt _) (fun e => by rw [e]; decide)
  have hw := word_zero s h1 ha hf.1
  refine ⟨one_tok s 2 s h1 hf.2 ?_, ok_ascii s s.size 0 (by omega) (fun i _ hi => hb i hi), h1⟩
  unfold oneS
  rw [if_neg (by rw [hw]; simp), if_pos (by rw [h]; exact h0), h, extract_all]
end Go.Proofs.YtpenfnabeckboaaGreatDoor

namespace Go.Proofs.YtpenfnabeckboaaGreatDoor
open Go.Lib
theorem empty_append (t : ByteArray) : (⟨#[]⟩ : ByteArray) ++ t = t := ByteArray.empty_append
/-- A blank and a word, each. -/
def tailJ : List ByteArray → ByteArray
  | [] => ⟨#[]⟩
  | x :: l => ⟨#[32]⟩ ++ x ++ tailJ l
theorem cutL_join : ∀ (l : List UInt8) (x : ByteArray), ∃ y r, cutL l x = y :: r ∧ y ++ tailJ r = x ++ ⟨l.toArray⟩
  | [], x => ⟨x, [], rfl, rfl⟩
  | c :: l, x => by
    by_cases h : c = 32
    · obtain ⟨y, r, h1, h2⟩ := cutL_join l ⟨#[]⟩
      refine ⟨x, y :: r, by rw [cutL, if_pos h, h1], ?_⟩
      rw [tailJ, ByteArray.append_assoc (a := ⟨#[32]⟩), h2, h]
      apply ByteArray.ext
      simp [ByteArray.data_append]
    · obtain ⟨y, r, h1, h2⟩ := cutL_join l (x ++ ⟨#[c]⟩)
      refine ⟨y, r, by rw [cutL, if_neg h, h1], ?_⟩
      rw [h2]
      apply ByteArray.ext
      simp [ByteArray.data_append]
theorem parts_join (s : ByteArray) : ∃ y r, partsS s = y :: r ∧ y ++ tailJ r = s := by
  obtain ⟨y, r, h1, h2⟩ := cutL_join s.data.toList ⟨#[]⟩
  refine ⟨y, r, by rw [← parts_same]; exact h1, ?_⟩
  rw [h2, empty_append, mk_data]
end Go.Proofs.YtpenfnabeckboaaGreatDoor

namespace Go.Proofs.YtpenfnabeckboaaGreatDoor

/-- Behind x there may stand y, with no blank between. -/
structure St (x y : ByteArray) : Prop where
  pos : 0 < y.size
  asc : (y.get! 0).toNat < 128
  nxt : nextC (((y.get! 0).toNat : Nat) : Int) = false
  dig : dgC (y.get! 0) = false
  num : y.get! 0 = 46 → digAt y 1 = false
  sgn : x.size = 1 → ∀ a c : UInt8, [a, c] ∈ signsL → c = y.get! 0 → x.get! 0 ≠ a
/-- What may stand behind a text, with no blank between; behind a dot, no dot. -/
structure Sy (y : ByteArray) : Prop where
  pos : 0 < y.size
  asc : (y.get! 0).toNat < 128
  nxt : nextC (((y.get! 0).toNat : Nat) : Int) = false
  dig : dgC (y.get! 0) = false
  num : y.get! 0 = 46 → digAt y 1 = false
  sec : ∀ a c : UInt8, [a, c] ∈ signsL → c = y.get! 0 → c = 46 ∧ a = 46
section
variable {x y : ByteArray}
theorem st_at (h : St x y) : (x ++ y).get! x.size = y.get! 0 := by
  have := get_append_right x y 0 h.pos
  rwa [Nat.add_zero] at this
theorem st_lt (h : St x y) : x.size < (x ++ y).size := by
  rw [ByteArray.size_append]
  have := h.pos
  omega
theorem st_dec (h : St x y) : Utf8.decode (x ++ y) x.size = ((y.get! 0).toNat, 1) := by
  have hp := st_lt h
  have hg : (x ++ y)[x.size]'hp = y.get! 0 := by rw [← get_at _ _ hp]; exact st_at h
  rw [decode_ascii (x ++ y) x.size hp (by rw [hg]; exact h.asc), hg]
theorem word_st (h : St x y) : ∀ b b' pos, OKat x pos → pos ≤ x.size → x.size ≤ pos + b → (x ++ y).size ≤ pos + b' → wordF (x ++ y) b' pos = wordF x b pos := by
  have hu := st_lt h
  intro b
  induction b with
  | zero =>
    intro b' pos _ hp hb hb'
    obtain rfl : pos = x.size := by omega
    rw [wordF_end x _ _ (by omega), wordF_stop _ _ _ hu hb' (by rw [st_dec h, h.nxt, Bool.false_and])]
  | succ b ih =>
    intro b' pos hok hp hb hb'
    by_cases hlt : pos < x.size
    · have hd := decode_append x y pos hlt (runeN_ok _ (ok_rune x pos hok hlt))
      by_cases ht : (nextC (Utf8.decode x pos).1 && (decide (pos ≠ 0) || firstC (Utf8.decode x pos).1)) = true
      · obtain ⟨b1, e1, h1⟩ := wordF_step x (b + 1) pos hlt hb ht
        obtain ⟨b2, e2, h2⟩ := wordF_step (x ++ y) b' pos (by omega) hb' (by rw [hd]; exact ht)
        obtain rfl : b = b1 := by omega
        have hpos := decode_pos x pos hlt
        rw [h1, h2, hd]
        exact ih b2 _ (ok_step x pos hok hlt) (decode_fits x pos hlt) (by omega) (by omega)
      · have hf : (nextC (Utf8.decode x pos).1 && (decide (pos ≠ 0) || firstC (Utf8.decode x pos).1)) = false := by simpa using ht
        rw [wordF_stop x _ _ hlt hb hf, wordF_stop (x ++ y) _ _ (by omega) hb' (by rw [hd]; exact hf)]
    · obtain rfl : pos = x.size := by omega
      rw [wordF_end x _ _ (by omega), wordF_stop _ _ _ hu hb' (by rw [st_dec h, h.nxt, Bool.false_and])]
theorem wordN_st (h : St x y) (hok : OKat x 0) : wordN (x ++ y) = wordN x :=
  word_st h x.size (x ++ y).size 0 hok (Nat.zero_le _) (by omega) (by omega)
theorem digAt_st (h : St x y) (k : Nat) (hk : k ≤ x.size) : digAt (x ++ y) k = digAt x k := by
  have hu := st_lt h
  unfold digAt
  by_cases hlt : k < x.size
  · rw [get_append_left x y k hlt, decide_eq_true hlt, decide_eq_true (by omega)]
  · obtain rfl : k = x.size := by omega
    rw [st_at h, decide_eq_false hlt, h.dig, Bool.and_false, Bool.false_and]
theorem digE_st (h : St x y) : ∀ n k, x.size = k + n → digE (x ++ y) k = digE x k := by
  intro n
  induction n with
  | zero =>
    intro k hk
    have h1 : digAt x k = false := by unfold digAt; rw [decide_eq_false (by omega)]; rfl
    rw [digE_stop x k h1, digE_stop (x ++ y) k (by rw [digAt_st h k (by omega)]; exact h1)]
  | succ n ih =>
    intro k hk
    cases hd : digAt x k with
    | false => rw [digE_stop x k hd, digE_stop (x ++ y) k (by rw [digAt_st h k (by omega)]; exact hd)]
    | true => rw [digE_step x k hd, digE_step (x ++ y) k (by rw [digAt_st h k (by omega)]; exact hd)]; exact ih (k + 1) (by omega)
theorem digAt_right (x y : ByteArray) (k : Nat) : digAt (x ++ y) (x.size + k) = digAt y k := by
  unfold digAt
  by_cases hk : k < y.size
  · rw [get_append_right x y k hk, decide_eq_true hk, decide_eq_true (by rw [ByteArray.size_append]; omega)]
  · rw [decide_eq_false hk, decide_eq_false (by rw [ByteArray.size_append]; omega), Bool.false_and, Bool.false_and]
theorem numN_st (h : St x y) : numN (x ++ y) = numN x := by
  have hu := st_lt h
  rw [numN_zero, numN_zero, digE_st h x.size 0 (by omega)]
  have hle := digE_le x 0 (Nat.zero_le _)
  by_cases hlt : digE x 0 < x.size
  · rw [get_append_left x y _ hlt, digAt_st h _ hlt, digE_st h (x.size - (digE x 0 + 1)) _ (by omega)]
    have hlt2 : digE x 0 < (x ++ y).size := by omega
    simp only [hlt, hlt2, true_and]
  · have he : digE x 0 = x.size := by omega
    rw [if_neg (fun hh => by
      have h1 := hh.2.1
      have h2 := hh.2.2
      rw [he, st_at h] at h1
      rw [he, digAt_right, h.num h1] at h2
      cases h2), if_neg (fun hh => hlt hh.1)]
theorem pre_st (h : St x y) (hx : 1 ≤ x.size) (l : List UInt8) (hl : l ∈ signsL) : Lib.hasPrefix (x ++ y).data.toList l = Lib.hasPrefix x.data.toList l := by
  rw [ByteArray.data_append, Array.toList_append]
  have hy : ∃ r, y.data.toList = y.get! 0 :: r := by
    have h2 := h.pos
    have h3 := byte_drop y 0 h2
    rw [List.drop_zero] at h3
    exact ⟨_, h3⟩
  obtain ⟨r, hr⟩ := hy
  rw [hr]
  have hxl : x.data.toList.length = x.size := rfl
  have h32 : ∀ l ∈ signsL, (l.length = 1 ∨ l.length = 2) := by decide
  have hlen := h32 l hl
  have hsg := h.sgn
  have hx1 : ∀ a, x.data.toList = [a] → x.size = 1 ∧ x.get! 0 = a := by
    intro a ha
    have h4 := byte_drop x 0 (by omega)
    rw [List.drop_zero, ha] at h4
    injection h4 with h4
    exact ⟨by rw [← hxl, ha]; rfl, h4.symm⟩
  generalize x.data.toList = X at hxl hx1 ⊢
  generalize y.get! 0 = d at hsg ⊢
  unfold Lib.hasPrefix
  match X, hxl, hx1 with
  | [], hxl, _ => simp at hxl; omega
  | [a], _, hx1 =>
    match l, hl, hlen with
    | [b], _, _ => simp [List.isPrefixOf]
    | [b, c], hl, _ =>
      obtain ⟨h9, h8⟩ := hx1 a rfl
      have h6 := hsg h9 b c hl
      rw [h8] at h6
      by_cases hc : c = d
      · have h7 : ¬ b = a := fun e => h6 hc e.symm
        simp [List.isPrefixOf, h7]
      · simp [List.isPrefixOf, hc]
    | b :: c :: d :: l, _, hlen => simp at hlen
    | [], _, hlen => simp at hlen
  | a :: a2 :: X, _, _ =>
    match l, hlen with
    | [b], _ => simp [List.isPrefixOf]
    | [b, c], _ => simp [List.isPrefixOf]
    | b :: c :: d :: l, hlen => simp at hlen
    | [], hlen => simp at hlen
theorem signIn_st (h : St x y) (hx : 1 ≤ x.size) : ∀ L : List (List UInt8), (∀ l ∈ L, l ∈ signsL) → signIn (x ++ y) L = signIn x L
  | [], _ => rfl
  | l :: L, hL => by
    unfold signIn
    rw [pre_st h hx l (hL l (by simp)), signIn_st h hx L (fun l hl => hL l (by simp [hl]))]
theorem signS_st (h : St x y) (hx : 1 ≤ x.size) : signS (x ++ y) = signS x := by
  unfold signS
  rw [signIn_st h hx signsL (fun _ h => h)]
theorem one_st (h : St x y) (hx : 1 ≤ x.size) (hok : OKat x 0) (h0 : (oneS x).2.2 = 0) : oneS (x ++ y) = oneS x := by
  have hw := wordN_st h hok
  have hwl : wordN x ≤ x.size := wordF_le x _ 0 (Nat.zero_le _)
  have hn := numN_st h
  have hnl := numN_le x
  unfold oneS at h0 ⊢
  rw [hw, hn, get_append_left x y 0 (by omega), signS_st h hx, extract_front x y _ hwl, extract_front x y _ hnl]
  by_cases h1 : wordN x ≠ 0
  · rw [if_pos h1, if_pos h1]
  · rw [if_neg h1] at h0 ⊢
    rw [if_neg h1]
    by_cases h2 : numN x ≠ 0
    · rw [if_pos h2, if_pos h2]
    · rw [if_neg h2] at h0 ⊢
      rw [if_neg h2]
      by_cases h3 : x.get! 0 = 34
      · rw [if_pos h3] at h0 ⊢
        rw [if_pos h3]
        have ht : textS (x ++ y) = textS x := text_app x y x.size (x ++ y).size 1 [] (by omega) (by omega) h0
        rw [ht]
      · rw [if_neg h3, if_neg h3]
end
/-- The last token is no dot. -/
def LastT (l : List (Int × ByteArray)) : Prop := ∃ a t, l = a ++ [t] ∧ t ≠ (4, ⟨#[46]⟩)
theorem one_dot (x : ByteArray) (h1 : x.size = 1) (h : x.get! 0 = 46) : oneS x = ((4, ⟨#[46]⟩), 1, 0) := by
  have hx : x = ⟨#[46]⟩ := by
    have h4 := byte_drop x 0 (by omega)
    have h5 : x.data.toList.drop (0 + 1) = [] := List.drop_of_length_le (by have : x.data.toList.length = x.size := rfl; omega)
    rw [List.drop_zero, h] at h4
    apply ByteArray.ext
    apply Array.toList_inj.1
    rw [h4, h5]
  subst hx
  decide +kernel
theorem toks_end {s : ByteArray} {pos : Nat} {l : List Tok} (h : Toks s pos l) (hp : s.size ≤ pos) : l = [] := by
  cases h with
  | done _ _ => rfl
  | blank _ _ h1 _ _ => omega
  | tok _ _ h1 _ _ _ => omega
/-- The tokens of a text, with more behind it. -/
theorem toks_st {s y : ByteArray} (hy : Sy y) (pos : Nat) (l m : List Tok) (h : Toks s pos l) (hl : y.get! 0 = 46 → ∀ a (t : Tok), l = a ++ [t] → (t.1, t.2.2) ≠ (4, ⟨#[46]⟩)) (hok : OKat s pos) (hp : pos ≤ s.size) (hm : Toks (s ++ y) s.size m) : Toks (s ++ y) pos (l ++ m) := by
  have hsz : (s ++ y).size = s.size + y.size := by rw [ByteArray.size_append]
  induction h with
  | done pos h =>
    obtain rfl : pos = s.size := by omega
    exact hm
  | blank pos l hlt hs _ ih =>
    refine .blank _ _ (by omega) (by rw [get_append_left s y pos hlt]; exact hs) (ih hl (space_ok s pos hok hlt hs) hlt)
  | tok pos l hlt hs h0 hrest ih =>
    have hx : (s.extract pos s.size).size = s.size - pos := by simp
    have hst : St (s.extract pos s.size) y := ⟨hy.pos, hy.asc, hy.nxt, hy.dig, hy.num, fun h1 a c hm hc ha => by
      obtain ⟨e1, e2⟩ := hy.sec a c hm hc
      rw [e2] at ha
      have ho := one_dot _ h1 ha
      have hle : l = [] := toks_end hrest (by rw [ho]; show s.size ≤ pos + 1; omega)
      subst hle
      refine hl (by rw [← hc, e1]) [] _ rfl ?_
      rw [ho]⟩
    have he : oneS ((s ++ y).extract pos (s ++ y).size) = oneS (s.extract pos s.size) := by
      rw [extract_app s y pos (by omega)]
      exact one_st hst (by omega) (ok_tail s pos hok (by omega)) h0
    have hle := one_le s pos hlt
    have h1 := Toks.tok (s := s ++ y) pos (l ++ m) (by omega) (by rw [get_append_left s y pos hlt]; exact hs) (by rw [he]; exact h0) (by rw [he]; exact ih (fun h46 a t e => hl h46 (_ :: a) t (by rw [e]; rfl)) (lex_ok s pos hok hlt h0) (by omega))
    rw [he] at h1
    exact h1
theorem ok_join {s t : ByteArray} (hs : OKat s 0) (ht : OKat t 0) : OKat (s ++ t) 0 := chars_cat s t hs ht
/-- A text's tokens, but for their places. -/
def LexAs (t : ByteArray) (l : List (Int × ByteArray)) : Prop := OKat t 0 ∧ ∃ m, Toks t 0 m ∧ m.map (fun x => (x.1, x.2.2)) = l
theorem shift_map (k : Nat) (l : List Tok) : (shiftT k l).map (fun x => (x.1, x.2.2)) = l.map (fun x => (x.1, x.2.2)) := by
  unfold shiftT
  rw [List.map_map]
  rfl
theorem LexAs.st {s t : ByteArray} {l m : List (Int × ByteArray)} (h : LexAs s l) (g : LexAs t m) (hs : Sy t) (hl : t.get! 0 = 46 → LastT l) : LexAs (s ++ t) (l ++ m) := by
  obtain ⟨h1, a, h2, rfl⟩ := h
  obtain ⟨g1, c, g2, rfl⟩ := g
  refine ⟨ok_join h1 g1, a ++ shiftT s.size c, toks_st hs 0 a _ h2 (fun h46 b q e => ?_) h1 (Nat.zero_le _) ?_, by rw [List.map_append, shift_map]⟩
  · obtain ⟨u, v, e2, hv⟩ := hl h46
    rw [e, List.map_append, List.map_singleton] at e2
    have := (List.append_inj' e2 rfl).2
    injection this with this
    rw [this]
    exact hv
  · have := toks_shift s t 0 c g2
    rwa [Nat.add_zero] at this
theorem LexAs.blank {s t : ByteArray} {l m : List (Int × ByteArray)} (h : LexAs s l) (g : LexAs t m) : LexAs (s ++ (⟨#[32]⟩ ++ t)) (l ++ m) := by
  obtain ⟨h1, a, h2, rfl⟩ := h
  obtain ⟨g1, c, g2, rfl⟩ := g
  obtain ⟨h3, h4⟩ := toks_join s t a c h1 g1 h2 g2
  exact ⟨h3, _, h4, by rw [List.map_append, shift_map]⟩
theorem LexAs.nil : LexAs ⟨#[]⟩ [] := ⟨by show charsS _ ≠ none; decide +kernel, [], .done 0 (Nat.le_refl _), rfl⟩
end Go.Proofs.YtpenfnabeckboaaGreatDoor

namespace Go.Proofs.YtpenfnabeckboaaGreatDoor

abbrev TK := Int × ByteArray
/-- A text's tokens, but for their places. -/
def LexL (t : List UInt8) (l : List TK) : Prop := LexAs ⟨t.toArray⟩ l
theorem LexL.st {a b : List UInt8} {l m : List TK} (h : LexL a l) (g : LexL b m) (hs : Sy ⟨b.toArray⟩) (hl : (⟨b.toArray⟩ : ByteArray).get! 0 = 46 → LastT l) : LexL (a ++ b) (l ++ m) := by
  unfold LexL at *
  rw [mk_append]
  exact LexAs.st h g hs hl
theorem LexL.blank {a b : List UInt8} {l m : List TK} (h : LexL a l) (g : LexL b m) : LexL (a ++ 32 :: b) (l ++ m) := by
  unfold LexL at *
  rw [mk_append, show (32 :: b) = [32] ++ b from rfl, mk_append]
  exact LexAs.blank h g
theorem LexL.nil : LexL [] [] := LexAs.nil
theorem get_mk0 (c : UInt8) (t : List UInt8) : (⟨(c :: t).toArray⟩ : ByteArray).get! 0 = c := get_mid [] t c
theorem get_mk1 (c d : UInt8) (t : List UInt8) : (⟨(c :: d :: t).toArray⟩ : ByteArray).get! 1 = d := get_mid [c] t d
theorem sign_second : ∀ l ∈ signsL, ∀ a c, l = [a, c] → c = 42 ∨ c = 61 ∨ c = 46 ∧ a = 46 := by
  intro l hl a c e
  subst e
  simp [signsL] at hl
  rcases hl with ⟨rfl, rfl⟩ | ⟨rfl, rfl⟩ | ⟨rfl, rfl⟩ | ⟨rfl, rfl⟩ | ⟨rfl, rfl⟩ <;> simp
/-- The bytes that no token goes on with. -/
def stops : List UInt8 := [32, 41, 93, 125, 44, 58, 91, 40]
theorem stop_facts : ∀ d ∈ stops, d.toNat < 128 ∧ nextC ((d.toNat : Nat) : Int) = false ∧ dgC d = false ∧ d ≠ 46 ∧ d ≠ 42 ∧ d ≠ 61 := by decide +kernel
theorem st_stop (d : UInt8) (r : List UInt8) (hd : d ∈ stops) : Sy ⟨(d :: r).toArray⟩ := by
  obtain ⟨h1, h2, h3, h4, h5, h6⟩ := stop_facts d hd
  refine ⟨by rw [size_mk]; simp, by rw [get_mk0]; exact h1, by rw [get_mk0]; exact h2, by rw [get_mk0]; exact h3, fun h => absurd (by rw [get_mk0] at h; exact h) h4, fun a c hm hc => ?_⟩
  rw [get_mk0] at hc
  rcases sign_second _ hm a c rfl with h | h | ⟨h, _⟩
  · exact absurd (hc.symm.trans h) h5
  · exact absurd (hc.symm.trans h) h6
  · exact absurd (hc.symm.trans h) h4
theorem stop_ne (d : UInt8) (r : List UInt8) (hd : d ∈ stops) : (⟨(d :: r).toArray⟩ : ByteArray).get! 0 ≠ 46 := by rw [get_mk0]; exact (stop_facts d hd).2.2.2.1
theorem st_dot (c : UInt8) (r : List UInt8) (hc : dgC c = false) : Sy ⟨(46 :: c :: r).toArray⟩ := by
  refine ⟨by rw [size_mk]; simp, by rw [get_mk0]; decide, by rw [get_mk0]; decide +kernel, by rw [get_mk0]; rfl, fun _ => ?_, fun a c' hm hc' => ?_⟩
  · unfold digAt
    rw [get_mk1, hc, Bool.and_false]
  · rw [get_mk0] at hc'
    rcases sign_second _ hm a c' rfl with h | h | ⟨_, h⟩
    · rw [hc'] at h; exact absurd h (by decide)
    · rw [hc'] at h; exact absurd h (by decide)
    · exact ⟨hc', h⟩
/-- A sign of one byte ahead of a text. -/
theorem one_sign (c : UInt8) (t : List UInt8) (hc : c ∈ [40, 91, 123, 45, 44, 58, 41, 93, 125] ∨ c = 46 ∧ ∃ d r, t = d :: r ∧ dgC d = false ∧ d ≠ 46) :
    oneS ⟨(c :: t).toArray⟩ = ((4, ⟨#[c]⟩), 1, 0) := by
  have hs : (⟨(c :: t).toArray⟩ : ByteArray).size = t.length + 1 := by rw [size_mk]; rfl
  have hf : ∀ d ∈ [(40 : UInt8), 91, 123, 45, 44, 58, 41, 93, 125, 46], d.toNat < 128 ∧ firstC ((d.toNat : Nat) : Int) = false ∧ dgC d = false ∧ d ≠ 34 := by decide +kernel
  have hcm : c ∈ [(40 : UInt8), 91, 123, 45, 44, 58, 41, 93, 125, 46] := by
    rcases hc with h | ⟨h, _⟩
    · exact (by decide : ∀ d ∈ [(40 : UInt8), 91, 123, 45, 44, 58, 41, 93, 125], d ∈ [(40 : UInt8), 91, 123, 45, 44, 58, 41, 93, 125, 46]) c h
    · subst h; decide
  obtain ⟨h1, h2, h3, h4⟩ := hf c hcm
  have hw : wordN ⟨(c :: t).toArray⟩ = 0 := word_zero _ (by omega) (by rw [get_mk0]; exact h1) (by rw [get_mk0]; exact h2)
  have hd0 : digAt ⟨(c :: t).toArray⟩ 0 = false := by unfold digAt; rw [get_mk0, h3, Bool.and_false]
  have hn : numN ⟨(c :: t).toArray⟩ = 0 := by
    rw [numN_zero, digE_stop _ 0 hd0, get_mk0]
    rw [if_neg]
    rintro ⟨_, h5, h6⟩
    rcases hc with hc | ⟨_, d, r, rfl, h7, _⟩
    · subst h5; simp at hc
    · unfold digAt at h6
      rw [Nat.zero_add, get_mk1, h7, Bool.and_false] at h6
      cases h6
  have hsg : signIn ⟨(c :: t).toArray⟩ signsL = [c] := by
    unfold signsL
    rcases hc with hc | ⟨rfl, d, r, rfl, _, h8⟩
    · simp only [List.mem_cons, List.not_mem_nil, or_false] at hc
      rcases hc with rfl | rfl | rfl | rfl | rfl | rfl | rfl | rfl | rfl <;> simp [signIn, Lib.hasPrefix, List.isPrefixOf]
    · simp [signIn, Lib.hasPrefix, List.isPrefixOf]
      exact fun e => absurd e.symm h8
  have hsS : signS ⟨(c :: t).toArray⟩ = ⟨#[c]⟩ := by unfold signS; rw [hsg]
  unfold oneS
  rw [hw, hn, get_mk0, hsS, if_neg (by simp), if_neg (by simp), if_neg h4, if_neg (show ¬ (⟨#[c]⟩ : ByteArray).size = 0 from by show ¬ (1 = 0); decide)]
  rfl
theorem LexL.sign {c : UInt8} {t : List UInt8} {m : List TK} (g : LexL t m) (hc : c ∈ [40, 91, 123, 45, 44, 58, 41, 93, 125] ∨ c = 46 ∧ ∃ d r, t = d :: r ∧ dgC d = false ∧ d ≠ 46) : LexL (c :: t) ((4, ⟨#[c]⟩) :: m) := by
  obtain ⟨g1, a, g2, rfl⟩ := g
  have ho := one_sign c t hc
  have hs : (⟨(c :: t).toArray⟩ : ByteArray).size = t.length + 1 := by rw [size_mk]; rfl
  have he : (⟨(c :: t).toArray⟩ : ByteArray) = ⟨#[c]⟩ ++ ⟨t.toArray⟩ := mk_append [c] t
  have hsp : ∀ d ∈ [(40 : UInt8), 91, 123, 45, 44, 58, 41, 93, 125, 46], spaceC ((d.toNat : Nat) : Int) = false ∧ charsS ⟨#[d]⟩ ≠ none := by decide +kernel
  have hcm : c ∈ [(40 : UInt8), 91, 123, 45, 44, 58, 41, 93, 125, 46] := by
    rcases hc with h | ⟨h, _⟩
    · exact (by decide : ∀ d ∈ [(40 : UInt8), 91, 123, 45, 44, 58, 41, 93, 125], d ∈ [(40 : UInt8), 91, 123, 45, 44, 58, 41, 93, 125, 46]) c h
    · subst h; decide
  obtain ⟨hq1, hq2⟩ := hsp c hcm
  have hx : (⟨(c :: t).toArray⟩ : ByteArray).extract 0 (⟨(c :: t).toArray⟩ : ByteArray).size = ⟨(c :: t).toArray⟩ := extract_all _
  refine ⟨by rw [he]; exact ok_join hq2 g1, (4, 0, ⟨#[c]⟩) :: shiftT 1 a, ?_, by rw [List.map_cons, shift_map]⟩
  have h := Toks.tok (s := ⟨(c :: t).toArray⟩) 0 (shiftT 1 a) (by omega) (by rw [get_mk0]; exact hq1) (by rw [hx, ho]) (by
    rw [hx, ho]
    have h2 := toks_shift ⟨#[c]⟩ ⟨t.toArray⟩ 0 a g2
    rw [← he] at h2
    exact h2)
  rw [hx, ho] at h
  exact h
end Go.Proofs.YtpenfnabeckboaaGreatDoor

namespace Go.Proofs.YtpenfnabeckboaaGreatDoor

/-! Numbers. -/
theorem isDig_dg : ((List.range 256).all fun i => !(isDig i.toUInt8) || dgC i.toUInt8) = true := by decide +kernel
theorem dig_dg {c : UInt8} (h : isDig c = true) : dgC c = true := by
  have h1 := List.all_eq_true.1 isDig_dg c.toNat (List.mem_range.2 c.toNat_lt)
  rw [show c.toNat.toUInt8 = c from by simp, h] at h1
  simpa using h1
theorem tw_all {p : UInt8 → Bool} : ∀ {A : List UInt8} (B : List UInt8), (∀ c ∈ A, p c = true) → (A ++ B).takeWhile p = A ++ B.takeWhile p
  | [], B, _ => rfl
  | c :: A, B, h => by rw [List.cons_append, List.takeWhile_cons, if_pos (h c (by simp)), tw_all B fun x hx => h x (by simp [hx])]; rfl
theorem numN_one {A : List UInt8} (h : ∀ c ∈ A, dgC c = true) : numN ⟨A.toArray⟩ = A.length := by
  have h1 : digN ⟨A.toArray⟩ = A.length := by
    unfold digN
    have := tw_all (p := dgC) (A := A) [] h
    rw [List.append_nil, List.takeWhile_nil, List.append_nil] at this
    show (A.takeWhile dgC).length = _
    rw [this]
  unfold numN
  rw [h1, if_neg]
  rintro ⟨h2, _⟩
  rw [tail_list] at h2
  have h3 : (⟨A.toArray⟩ : ByteArray).data.toList = A := rfl
  rw [h3, List.drop_length] at h2
  cases h2
theorem numN_two {A B : List UInt8} (hA : ∀ c ∈ A, dgC c = true) (hB : ∀ c ∈ B, dgC c = true) (h0 : B ≠ []) : numN ⟨(A ++ 46 :: B).toArray⟩ = (A ++ 46 :: B).length := by
  have h3 : (⟨(A ++ 46 :: B).toArray⟩ : ByteArray).data.toList = A ++ 46 :: B := rfl
  have h1 : digN ⟨(A ++ 46 :: B).toArray⟩ = A.length := by
    unfold digN
    rw [h3, tw_all (46 :: B) hA, List.takeWhile_cons, if_neg (by decide), List.append_nil]
  have h2 : digN ((⟨(A ++ 46 :: B).toArray⟩ : ByteArray).extract (A.length + 1) (⟨(A ++ 46 :: B).toArray⟩ : ByteArray).size) = B.length := by
    unfold digN
    rw [tail_list, h3, show A ++ 46 :: B = (A ++ [46]) ++ B from by simp, show A.length + 1 = (A ++ [46]).length from by simp, List.drop_left]
    have := tw_all (p := dgC) (A := B) [] hB
    rw [List.append_nil, List.takeWhile_nil, List.append_nil] at this
    rw [this]
  have hl : 0 < B.length := List.length_pos_iff.2 h0
  unfold numN
  rw [h1, h2, if_pos]
  · simp; omega
  · refine ⟨?_, hl⟩
    rw [tail_list, h3, List.drop_left]
    simp [Lib.hasPrefix, List.isPrefixOf]
theorem canon_dig {l : List UInt8} (sc : Int) (h : ∀ c ∈ l, isDig c = true) : ∀ c ∈ (canonL l sc).1, isDig c = true := by
  have h1 : ∀ c ∈ Lib.trimLeftB l 48, isDig c = true := fun c hc => by
    obtain ⟨k, hk, _⟩ := trimLeft_spec l
    have h2 : c ∈ List.replicate k 48 ++ Lib.trimLeftB l 48 := List.mem_append_right _ hc
    exact h c (hk ▸ h2)
  unfold canonL
  intro c hc
  split at hc
  · have : c = 48 := by simpa using hc
    subst this; decide
  · exact h1 c (List.mem_of_mem_take hc)
theorem canon_sc {l : List UInt8} {sc : Int} (h : 0 ≤ sc) : 0 ≤ (canonL l sc).2 := by
  unfold canonL
  split
  · exact Int.le_refl _
  · simp only; omega
theorem canon_num {s : ByteArray} (h : canonS s = true) : numN s = s.size ∧ s.size ≠ 0 := by
  have hne : s.size ≠ 0 := fun h0 => by
    rw [size_zero s h0] at h
    exact absurd h (by decide +kernel)
  refine ⟨?_, hne⟩
  unfold canonS at h
  simp only [Bool.and_eq_true, decide_eq_true_eq] at h
  obtain ⟨_, h2, h3⟩ := h
  generalize (readL (dl s)).1.1 = d at h2 h3
  generalize (readL (dl s)).1.2 = sc at h2 h3
  unfold textE at h2 h3
  by_cases hc : checkN d sc = 0
  · rw [if_pos hc] at h3
    have hd : (∀ c ∈ d, isDig c = true) ∧ 0 ≤ sc := by
      unfold checkN at hc
      split at hc
      · cases hc
      · rename_i hdg
        split at hc
        · cases hc
        · split at hc
          · cases hc
          · rename_i hsc
            refine ⟨?_, by omega⟩
            have h5 : digitsL d = true := by simpa using hdg
            unfold digitsL at h5
            simp only [Bool.and_eq_true] at h5
            exact List.all_eq_true.1 h5.1
    have hD := canon_dig sc hd.1
    have hS := canon_sc (l := d) hd.2
    generalize (canonL d sc).1 = D at h3 hD
    generalize (canonL d sc).2 = S at h3 hS
    rw [← h3]
    dsimp only
    unfold textC bs
    by_cases h0 : S = 0
    · rw [if_pos h0, numN_one fun c hc => dig_dg (hD c hc), size_mk]
    · rw [if_neg h0]
      dsimp only
      have hR : ∀ c ∈ List.replicate (max 0 (S + 1 - (D.length : Int))).toNat (48 : UInt8) ++ D, isDig c = true := fun c hc => by
        rcases List.mem_append.1 hc with h6 | h6
        · rw [List.eq_of_mem_replicate h6]; decide
        · exact hD c h6
      generalize hL : List.replicate (max 0 (S + 1 - (D.length : Int))).toNat (48 : UInt8) ++ D = L at hR
      have hlen : S < L.length := by rw [← hL, List.length_append, List.length_replicate]; omega
      rw [numN_two (fun c hc => dig_dg (hR c (List.mem_of_mem_take hc))) (fun c hc => dig_dg (hR c (List.mem_of_mem_drop hc))) (fun e => by
        have := congrArg List.length e
        rw [List.length_drop, List.length_nil] at this
        omega), size_mk]
  · rw [if_neg hc] at h2
    exact absurd h2 hc
theorem lex_num {s : ByteArray} (h : canonS s = true) : LexL (btsOf s) [(2, s)] := by
  obtain ⟨h1, h2⟩ := canon_num h
  obtain ⟨t1, t2, _⟩ := toks_num s h2 h1
  exact ⟨t2, _, t1, rfl⟩

/-! Names. -/
def nameT (s : ByteArray) : List TK := (partsS s).map fun w => (0, w)
theorem lex_words : ∀ (l : List ByteArray) (x : ByteArray), wordS x = true → (∀ y ∈ l, wordS y = true) → LexAs (x ++ tailJ l) ((x :: l).map fun w => ((0 : Int), w))
  | [], x, hx, _ => by
    obtain ⟨h1, h2, _⟩ := toks_word x hx
    rw [show x ++ tailJ [] = x from ByteArray.append_empty]
    exact ⟨h2, _, h1, rfl⟩
  | y :: l, x, hx, hl => by
    obtain ⟨h1, h2, _⟩ := toks_word x hx
    have ih := lex_words l y (hl y (by simp)) fun z hz => hl z (by simp [hz])
    have h3 : LexAs x [(0, x)] := ⟨h2, _, h1, rfl⟩
    have h4 := LexAs.blank h3 ih
    rw [show x ++ tailJ (y :: l) = x ++ (⟨#[32]⟩ ++ (y ++ tailJ l)) from by rw [tailJ, ByteArray.append_assoc]]
    exact h4
theorem lex_name {s : ByteArray} (h : rightS s = true) : LexL (btsOf s) (nameT s) := by
  have hw : (partsS s).all wordS = true := by
    unfold rightS wordsS at h
    split at h
    · assumption
    · cases h
  obtain ⟨y, r, hp, hj⟩ := parts_join s
  rw [hp] at hw
  have hw2 := List.all_eq_true.1 hw
  have h1 := lex_words r y (hw2 y (by simp)) fun z hz => hw2 z (by simp [hz])
  rw [hj] at h1
  unfold nameT
  rw [hp]
  exact h1
end Go.Proofs.YtpenfnabeckboaaGreatDoor
