/-
  Two numbers (a text and a scale) held against each other by '==' and '!='.
  Plain functions that say what the layer number computes: no program in sight.
  Plain laws of numbers: a number's value; the one form is the only one of a value; digits, sums, and what is more, by values: no program in sight.
  errors.As at the layer number's own errors: nil; an error of that type; and what number.told tells. (The steps after the kit's worked text ToyasAs, turned to this claim's numbers.)
  The walks of the layer number: digits, fail, check, both.
  The walks of the layer number: canon.
  The walks of the layer number: Canon, Right.
  The walks of the layer number: Text.
-/
import Derived.Test.YtchbhcjhoocjaaaGreatDoorProg
import Derived.Test.YtchbhcjhoocjaaaGreatDoorMB
import Derived.Laws.StructEq
import Derived.Lib.TrimByte
import Derived.Lib.CutLaws
import Derived.Lib.Bytealg
import Derived.LaidEql
import Derived.Stop.Asserts
import Derived.RowKitTokens
import Derived.IntWalk
import Derived.Test.YtchbhcjhoocjaaaGreatDoorShelf
import Derived.RegionTactic
import Derived.ChangeAlike
import Derived.Deep.RegionHeld3
namespace Go.Proofs.YtchbhcjhoocjaaaGreatDoor
open Go.RowKit

/-- Are they the same? -/
def numEq (s : ByteArray) (a : Int) (t : ByteArray) (b : Int) : Bool := decide (s = t ∧ a = b)
theorem numEq_true {s : ByteArray} {a : Int} {t : ByteArray} {b : Int} : numEq s a t b = true ↔ s = t ∧ a = b := by simp [numEq]
theorem numFields : Tryz.prog.underlying 178 = some (.struct (Tryz.prog.fieldsOf 178)) := by kernel_rfl
theorem numStood : Tryz.prog.stoodInHeld 178 = false := by kernel_rfl
theorem numGuard : Tryz.prog.eqGuardType Tryz.prog.depth 178 = false := by kernel_rfl
set_option maxRecDepth 100000 in
theorem num_eqFields (n : Nat) (s : ByteArray) (a : Int) (t : ByteArray) (b : Int) (w : World) :
    (Op.eqFields (n + 1) #[.string s, .int .i64 a] #[.string t, .int .i64 b] (Tryz.prog.fieldsOf 178).toList).run Tryz.prog w = .ok (numEq s a t b) w := by
  have hfs := numFields
  rw [Tryz.underlying178] at hfs
  have e1 : ∀ (s t : ByteArray) w1, (Op.equalIn (n + 1) 9 (.string s) (.string t)).run Tryz.prog w1 = .ok (s.toList == t.toList) w1 := fun s t w1 => run_equalIn_string (P := Tryz.prog) w1 n 9 s t Tryz.underlying9
  have e2 : ∀ (a b : Int) w1, (Op.equalIn (n + 1) 3 (.int .i64 a) (.int .i64 b)).run Tryz.prog w1 = .ok (a == b) w1 := fun a b w1 => run_equalIn_int (P := Tryz.prog) w1 n 3 .i64 .i64 a b Tryz.underlying3
  have p0 : ∀ (x y : Value) w1, (part 9 #[x, y] 0).run Tryz.prog w1 = .ok x w1 := fun x y w1 => by kernel_rfl
  have p1 : ∀ (x y : Value) w1, (part 3 #[x, y] 1).run Tryz.prog w1 = .ok y w1 := fun x y w1 => by kernel_rfl
  unfold numEq
  have hst : (s.toList == t.toList) = decide (s = t) := by
    by_cases h : s = t
    · subst h; simp
    · rw [decide_eq_false h]
      refine beq_eq_false_iff_ne.2 fun e => h ?_
      rw [Lib.toList_data, Lib.toList_data] at e
      exact ByteArray.ext (Array.ext' e)
  have hab : (a == b) = decide (a = b) := by
    by_cases h : a = b
    · subst h; simp
    · rw [decide_eq_false h]; exact beq_eq_false_iff_ne.2 h
  have hfs2 := Option.some.inj hfs
  injection hfs2 with hfs3
  rw [← hfs3]
  have hsf : s ≠ t → (s.toList == t.toList) = false := fun h => by rw [hst, decide_eq_false h]
  have haf : a ≠ b → (a == b) = false := fun h => by rw [hab, decide_eq_false h]
  clear hst hab hfs
  by_cases h1 : s = t
  · subst h1
    by_cases h2 : a = b
    · subst h2
      simp [Op.eqFields, Sem.run_bind, p0, p1, e1, e2, Result.andThen_ok]
    · have := haf h2
      simp [h2, Op.eqFields, Sem.run_bind, p0, p1, e1, e2, Result.andThen_ok]
  · have := hsf h1
    simp [h1, this, Op.eqFields, Sem.run_bind, p0, p1, e1, e2, Result.andThen_ok]
theorem eql_num (s : ByteArray) (a : Int) (t : ByteArray) (b : Int) (w : World) :
    (binOp .eql 178 (.agg #[.string s, .int .i64 a]) (.agg #[.string t, .int .i64 b])).run Tryz.prog w = .ok (.bool (numEq s a t b)) w := by
  rw [run_eql_struct, show (10000 : Nat) = 9999 + 1 from rfl, run_equalIn_agg w 9999 178 _ _ numFields numStood, show (9999 : Nat) = 9998 + 1 from rfl, num_eqFields]; rfl
theorem neq_num (s : ByteArray) (a : Int) (t : ByteArray) (b : Int) (w : World) :
    (binOp .neq 178 (.agg #[.string s, .int .i64 a]) (.agg #[.string t, .int .i64 b])).run Tryz.prog w = .ok (.bool (!numEq s a t b)) w := by
  rw [run_neq_struct, show (10000 : Nat) = 9999 + 1 from rfl, run_equalIn_agg w 9999 178 _ _ numFields numStood, show (9999 : Nat) = 9998 + 1 from rfl, num_eqFields]; rfl
theorem eqGuard_num (op : BinOp) (x y : Operand) (xs ys : Array Value) (w : World) : (eqGuard op 178 x y (.agg xs) (.agg ys)).run Tryz.prog w = .ok () w :=
  run_eqGuard_agg w op 178 x y xs ys numGuard
end Go.Proofs.YtchbhcjhoocjaaaGreatDoor

namespace Go.Proofs.YtchbhcjhoocjaaaGreatDoor
open Go.Lib

def isDig (c : UInt8) : Bool := decide (48 ≤ c.toNat ∧ c.toNat ≤ 57)
/-- Digits alone, one at least. -/
def digitsL (l : List UInt8) : Bool := l.all isDig && !l.isEmpty
/-- What is wrong with a number; 0: nothing. -/
def checkN (l : List UInt8) (sc : Int) : Nat :=
  if digitsL l = false then 17 else if 1000 < l.length then 19 else if sc < 0 ∨ 1000 < sc then 3 else 0

/-- A number's one form, as the program makes it. -/
def canonL (l : List UInt8) (sc : Int) : List UInt8 × Int :=
  if trimLeftB l 48 = [] then ([48], 0)
  else ((trimLeftB l 48).take ((trimLeftB l 48).length - (min (((trimLeftB l 48).length : Int) - (trimRightB (trimLeftB l 48) 48).length) sc).toNat), sc - min (((trimLeftB l 48).length : Int) - (trimRightB (trimLeftB l 48) 48).length) sc)

/-- .. as the document does: noughts ahead, but for the last digit. -/
def rstrip : List UInt8 → List UInt8
  | [] => []
  | [c] => [c]
  | c :: d :: l => if c = 48 then rstrip (d :: l) else c :: d :: l
/-- Noughts behind, turned about: as many as the scale. -/
def rback : List UInt8 → Nat → List UInt8 × Nat
  | [], n => ([], n)
  | l, 0 => (l, 0)
  | c :: l, n + 1 => if c = 48 ∧ c :: l ≠ [48] then rback l n else (c :: l, n + 1)
def rcanonL (l : List UInt8) (sc : Nat) : List UInt8 × Nat :=
  let r := rback (rstrip l).reverse sc
  (r.1.reverse, if r.1 = [48] then 0 else r.2)

theorem rstrip_drop : ∀ l : List UInt8, l ≠ [] → rstrip l = if trimLeftB l 48 = [] then [48] else trimLeftB l 48
  | [], h => absurd rfl h
  | [c], _ => by
    by_cases hc : c = 48
    · subst hc; rfl
    · have : trimLeftB [c] 48 = [c] := by simp [trimLeftB, hc]
      rw [this]; simp [rstrip]
  | c :: d :: l, _ => by
    by_cases hc : c = 48
    · subst hc
      have : trimLeftB (48 :: d :: l) 48 = trimLeftB (d :: l) 48 := by simp [trimLeftB]
      rw [this, rstrip, if_pos rfl]
      exact rstrip_drop (d :: l) (by simp)
    · have : trimLeftB (c :: d :: l) 48 = c :: d :: l := by simp [trimLeftB, hc]
      rw [this, rstrip, if_neg hc]; simp

theorem rback_drop : ∀ (r : List UInt8) (n : Nat), (∀ x, r.getLast? = some x → x ≠ 48) → rback r n = (r.drop (min (r.takeWhile (· == 48)).length n), n - min (r.takeWhile (· == 48)).length n)
  | [], n, _ => by simp [rback]
  | c :: l, 0, _ => by simp [rback]
  | c :: l, n + 1, h => by
    by_cases hc : c = 48
    · subst hc
      have hl : l ≠ [] := by
        intro e; subst e
        exact h 48 rfl rfl
      have hne : (48 : UInt8) :: l ≠ [48] := by simpa using hl
      have h2 : ∀ x, l.getLast? = some x → x ≠ 48 := fun x hx => h x (by rw [List.getLast?_cons, hx]; rfl)
      rw [rback, if_pos ⟨rfl, hne⟩, rback_drop l n h2]
      simp [Nat.succ_min_succ]
    · rw [rback, if_neg (fun h => hc h.1)]
      simp [hc]

theorem dropWhile_head (p : UInt8 → Bool) (l : List UInt8) (x : UInt8) (h : (l.dropWhile p).head? = some x) : p x = false := by
  induction l with
  | nil => cases h
  | cons c l ih =>
    rw [List.dropWhile_cons] at h
    split at h
    · exact ih h
    · rename_i hc
      simp at h
      rw [← h]; simpa using hc

/-- The program's one form is the document's. -/
theorem canon_same (l : List UInt8) (h : l ≠ []) (sc : Nat) : canonL l sc = ((rcanonL l sc).1, ((rcanonL l sc).2 : Int)) := by
  unfold rcanonL canonL
  rw [rstrip_drop l h]
  by_cases hz : trimLeftB l 48 = []
  · rw [if_pos hz, if_pos hz]
    cases sc with
    | zero => rfl
    | succ n => rfl
  · rw [if_neg hz, if_neg hz]
    obtain ⟨d, hd⟩ : ∃ d, trimLeftB l 48 = d := ⟨_, rfl⟩
    have hhead : ∀ x, d.head? = some x → x ≠ 48 := by
      intro x hx
      rw [← hd] at hx
      have := dropWhile_head _ l x hx
      intro e; subst e; simp at this
    rw [hd] at hz ⊢
    have hlast : ∀ x, d.reverse.getLast? = some x → x ≠ 48 := fun x hx => hhead x (by rw [List.getLast?_reverse] at hx; exact hx)
    rw [rback_drop d.reverse sc hlast]
    obtain ⟨tw, htw⟩ : ∃ tw, (d.reverse.takeWhile (· == 48)).length = tw := ⟨_, rfl⟩
    have hlen : (trimRightB d 48).length = d.length - tw := by
      unfold trimRightB
      have h1 : (d.reverse.takeWhile (· == 48)).length + (d.reverse.dropWhile (· == 48)).length = d.length := by
        rw [← List.length_append, List.takeWhile_append_dropWhile, List.length_reverse]
      rw [List.length_reverse]; omega
    have htl : tw ≤ d.length := by
      have h1 : (d.reverse.takeWhile (· == 48)).length + (d.reverse.dropWhile (· == 48)).length = d.length := by
        rw [← List.length_append, List.takeWhile_append_dropWhile, List.length_reverse]
      omega
    rw [htw, hlen]
    have hmin : min ((d.length : Int) - ((d.length - tw : Nat) : Int)) (sc : Int) = ((min tw sc : Nat) : Int) := by omega
    rw [hmin]
    have hrev : (d.reverse.drop (min tw sc)).reverse = d.take (d.length - min tw sc) := by
      rw [List.drop_reverse, List.reverse_reverse]
    have hne : d.reverse.drop (min tw sc) ≠ [48] := by
      intro e
      have h1 : d.take (d.length - min tw sc) = [48] := by rw [← hrev, e]; rfl
      have h2 : d.head? = some 48 := by
        cases hdd : d with
        | nil => exact absurd hdd hz
        | cons c r =>
          rw [hdd] at h1
          cases hk : ((c :: r).length - min tw sc) with
          | zero => rw [hk] at h1; simp at h1
          | succ k => rw [hk, List.take_succ_cons] at h1; injection h1 with h1; rw [h1]; rfl
      exact hhead 48 h2 rfl
    simp only [if_neg hne]
    rw [hrev]
    refine Prod.ext ?_ ?_
    · simp
    · show (sc : Int) - ((min tw sc : Nat) : Int) = ((sc - min tw sc : Nat) : Int)
      omega
end Go.Proofs.YtchbhcjhoocjaaaGreatDoor

namespace Go.Proofs.YtchbhcjhoocjaaaGreatDoor
open Go.Lib

def dg (c : UInt8) : Nat := c.toNat - 48
/-- The value of digits, the lowest one first. -/
def valR : List UInt8 → Nat
  | [] => 0
  | c :: l => dg c + 10 * valR l
def val (l : List UInt8) : Nat := valR l.reverse
/-- A number's value, times 10 to the power of 1000. -/
def V (l : List UInt8) (sc : Nat) : Nat := 10 ^ (1000 - sc) * val l

theorem dg_lt {c : UInt8} (h : isDig c = true) : dg c < 10 := by
  unfold isDig at h; unfold dg; simp only [decide_eq_true_eq] at h; omega
theorem dg_inj {c d : UInt8} (hc : isDig c = true) (hd : isDig d = true) (h : dg c = dg d) : c = d := by
  unfold isDig at hc hd; unfold dg at h; simp only [decide_eq_true_eq] at hc hd
  exact UInt8.toNat_inj.1 (by omega)
theorem dg_zero {c : UInt8} (hc : isDig c = true) (h : dg c = 0) : c = 48 := dg_inj hc (by decide) h
theorem isDig48 : isDig 48 = true := by decide

theorem valR_append (a b : List UInt8) : valR (a ++ b) = valR a + 10 ^ a.length * valR b := by
  induction a with
  | nil => simp [valR]
  | cons c l ih =>
    simp only [List.cons_append, valR, ih, List.length_cons, Nat.pow_succ]
    rw [Nat.mul_add, ← Nat.add_assoc, ← Nat.mul_assoc, Nat.mul_comm 10 (10 ^ l.length)]
theorem valR_lt : ∀ l : List UInt8, l.all isDig = true → valR l < 10 ^ l.length
  | [], _ => by simp [valR]
  | c :: l, h => by
    rw [List.all_cons, Bool.and_eq_true] at h
    have h1 := dg_lt h.1
    have h2 := valR_lt l h.2
    simp only [valR, List.length_cons, Nat.pow_succ]
    omega
theorem valR_zeros (k : Nat) : valR (List.replicate k 48) = 0 := by
  induction k with
  | zero => rfl
  | succ k ih => rw [List.replicate_succ, valR, ih]; rfl
theorem valR_zeros_append (k : Nat) (l : List UInt8) : valR (List.replicate k 48 ++ l) = 10 ^ k * valR l := by
  rw [valR_append, valR_zeros]; simp
theorem valR_append_zeros (l : List UInt8) (k : Nat) : valR (l ++ List.replicate k 48) = valR l := by
  rw [valR_append, valR_zeros]; simp
theorem val_append_zeros (l : List UInt8) (k : Nat) : val (l ++ List.replicate k 48) = 10 ^ k * val l := by
  unfold val; rw [List.reverse_append, List.reverse_replicate, valR_zeros_append]
theorem val_zeros_append (l : List UInt8) (k : Nat) : val (List.replicate k 48 ++ l) = val l := by
  unfold val; rw [List.reverse_append, List.reverse_replicate, valR_append_zeros]
theorem val_append (a b : List UInt8) : val (a ++ b) = val b + 10 ^ b.length * val a := by
  unfold val; rw [List.reverse_append, valR_append, List.length_reverse]
theorem val_cons (c : UInt8) (l : List UInt8) : val (c :: l) = val l + 10 ^ l.length * dg c := by
  have := val_append [c] l
  rw [List.singleton_append] at this
  rw [this]; simp [val, valR]
theorem val_lt (l : List UInt8) (h : l.all isDig = true) : val l < 10 ^ l.length := by
  have := valR_lt l.reverse (by rw [List.all_reverse]; exact h)
  rwa [List.length_reverse] at this

/-- A digit of a value. -/
theorem valR_digit : ∀ (l : List UInt8) (_ : l.all isDig = true) (k : Nat), valR l / 10 ^ k % 10 = dg (l.getD k 48)
  | [], _, k => by simp [valR, dg]
  | c :: l, h, 0 => by
    rw [List.all_cons, Bool.and_eq_true] at h
    have := dg_lt h.1
    simp [valR]; omega
  | c :: l, h, k + 1 => by
    rw [List.all_cons, Bool.and_eq_true] at h
    have h1 := dg_lt h.1
    rw [Nat.pow_succ, Nat.mul_comm, ← Nat.div_div_eq_div_mul, show valR (c :: l) / 10 = valR l from by simp [valR]; omega, valR_digit l h.2 k]
    simp

/-- Values are the same just if the digits are, of as many. -/
theorem valR_inj : ∀ (a b : List UInt8), a.all isDig = true → b.all isDig = true → a.length = b.length → valR a = valR b → a = b
  | [], [], _, _, _, _ => rfl
  | [], _ :: _, _, _, h, _ => by simp at h
  | _ :: _, [], _, _, h, _ => by simp at h
  | c :: a, d :: b, ha, hb, hl, h => by
    rw [List.all_cons, Bool.and_eq_true] at ha hb
    have h1 := dg_lt ha.1
    have h2 := dg_lt hb.1
    simp only [valR] at h
    have e1 : dg c = dg d := by omega
    have e2 : valR a = valR b := by omega
    rw [dg_inj ha.1 hb.1 e1, valR_inj a b ha.2 hb.2 (by simpa using hl) e2]
theorem val_inj (a b : List UInt8) (ha : a.all isDig = true) (hb : b.all isDig = true) (hl : a.length = b.length) (h : val a = val b) : a = b := by
  have := valR_inj a.reverse b.reverse (by rw [List.all_reverse]; exact ha) (by rw [List.all_reverse]; exact hb) (by simpa using hl) h
  exact List.reverse_inj.1 this

theorem val_ge (c : UInt8) (l : List UInt8) (hc : isDig c = true) (h : c ≠ 48) : 10 ^ l.length ≤ val (c :: l) := by
  rw [val_cons]
  have : 1 ≤ dg c := by
    rcases Nat.eq_zero_or_pos (dg c) with h0 | h0
    · exact absurd (dg_zero hc h0) h
    · exact h0
  have := Nat.mul_le_mul_left (10 ^ l.length) this
  omega

/-- The one form. -/
def Can (l : List UInt8) (sc : Nat) : Prop := (l = [48] ∧ sc = 0) ∨ (l ≠ [] ∧ l.head? ≠ some 48 ∧ (0 < sc → l.getLast? ≠ some 48))

theorem val_pos {l : List UInt8} (hd : l.all isDig = true) (h : l ≠ []) (hh : l.head? ≠ some 48) : 10 ^ (l.length - 1) ≤ val l := by
  cases l with
  | nil => exact absurd rfl h
  | cons c l =>
    rw [List.all_cons, Bool.and_eq_true] at hd
    simpa using val_ge c l hd.1 (by simpa using hh)
theorem val_mod (l : List UInt8) (hd : l.all isDig = true) (h : l.getLast? ≠ some 48) (hne : l ≠ []) : val l % 10 ≠ 0 := by
  have h1 := valR_digit l.reverse (by rw [List.all_reverse]; exact hd) 0
  rw [Nat.pow_zero, Nat.div_one] at h1
  unfold val
  rw [h1]
  intro h0
  obtain ⟨c, m, hm⟩ : ∃ c m, l.reverse = c :: m := by
    cases hr : l.reverse with
    | nil => exact absurd (List.reverse_eq_nil_iff.1 hr) hne
    | cons c m => exact ⟨c, m, rfl⟩
  have hl : l.getLast? = some c := by rw [← List.head?_reverse, hm]; rfl
  have hc : isDig c = true := by
    have : c ∈ l := by rw [← List.mem_reverse, hm]; simp
    exact List.all_eq_true.1 hd c this
  rw [hm, List.getD_cons_zero] at h0
  exact h (by rw [hl, dg_zero hc h0])

theorem can_len {a b : List UInt8} (ha : a.all isDig = true) (hb : b.all isDig = true) (na : a ≠ []) (nb : b ≠ []) (h1 : a.head? ≠ some 48) (h2 : b.head? ≠ some 48) (h : val a = val b) : a.length = b.length := by
  have p1 := val_pos ha na h1
  have p2 := val_pos hb nb h2
  have q1 := val_lt a ha
  have q2 := val_lt b hb
  have l1 : 0 < a.length := List.length_pos_iff.2 na
  have l2 : 0 < b.length := List.length_pos_iff.2 nb
  have r1 : a.length - 1 < b.length := (Nat.pow_lt_pow_iff_right (by omega : 1 < 10)).1 (by omega)
  have r2 : b.length - 1 < a.length := (Nat.pow_lt_pow_iff_right (by omega : 1 < 10)).1 (by omega)
  omega

theorem can_uniq_aux (l l' : List UInt8) (s s' : Nat) (hl : l.all isDig = true) (hl' : l'.all isDig = true) (h : Can l s) (h' : Can l' s') (hs : s ≤ 1000) (_hs' : s' ≤ 1000) (hle : s' ≤ s) (hV : V l s = V l' s') : l = l' ∧ s = s' := by
  unfold V at hV
  rw [show 1000 - s' = (1000 - s) + (s - s') from by omega, Nat.pow_add, Nat.mul_assoc] at hV
  have hval : val l = 10 ^ (s - s') * val l' := Nat.eq_of_mul_eq_mul_left (Nat.pow_pos (by omega)) hV
  have h48 : val [48] = 0 := rfl
  rcases h with ⟨rfl, rfl⟩ | ⟨hn, hh, ht⟩
  · obtain rfl : s' = 0 := by omega
    rcases h' with ⟨rfl, _⟩ | ⟨hn', hh', _⟩
    · exact ⟨rfl, rfl⟩
    · have := val_pos hl' hn' hh'
      have hp : 0 < 10 ^ (l'.length - 1) := Nat.pow_pos (by omega)
      rw [h48] at hval; simp at hval; omega
  · have hp := val_pos hl hn hh
    have hp0 : 0 < 10 ^ (l.length - 1) := Nat.pow_pos (by omega)
    rcases h' with ⟨rfl, rfl⟩ | ⟨hn', hh', _⟩
    · rw [h48] at hval; omega
    · by_cases hss : s = s'
      · subst hss
        rw [Nat.sub_self, Nat.pow_zero, Nat.one_mul] at hval
        exact ⟨val_inj l l' hl hl' (can_len hl hl' hn hn' hh hh' hval) hval, rfl⟩
      · have hm := val_mod l hl (ht (by omega)) hn
        obtain ⟨k, hk⟩ : ∃ k, s - s' = k + 1 := ⟨s - s' - 1, by omega⟩
        rw [hval, hk, Nat.pow_succ, Nat.mul_comm _ 10, Nat.mul_assoc, Nat.mul_mod_right] at hm
        exact absurd rfl hm
/-- The one form is the only one of a value. -/
theorem can_uniq (l l' : List UInt8) (s s' : Nat) (hl : l.all isDig = true) (hl' : l'.all isDig = true) (h : Can l s) (h' : Can l' s') (hs : s ≤ 1000) (hs' : s' ≤ 1000) (hV : V l s = V l' s') : l = l' ∧ s = s' := by
  rcases Nat.le_total s' s with hle | hle
  · exact can_uniq_aux l l' s s' hl hl' h h' hs hs' hle hV
  · obtain ⟨a, b⟩ := can_uniq_aux l' l s' s hl' hl h' h hs' hs hle hV.symm
    exact ⟨a.symm, b.symm⟩

theorem takeWhile_48 (l : List UInt8) : l.takeWhile (· == 48) = List.replicate (l.takeWhile (· == 48)).length 48 := by
  induction l with
  | nil => rfl
  | cons c l ih =>
    by_cases hc : c = 48
    · subst hc
      simp only [List.takeWhile_cons, beq_self_eq_true, if_true, List.length_cons, List.replicate_succ]
      rw [← ih]
    · simp [hc]
theorem trimLeft_spec (l : List UInt8) : ∃ k, l = List.replicate k 48 ++ trimLeftB l 48 ∧ (trimLeftB l 48).head? ≠ some 48 := by
  refine ⟨(l.takeWhile (· == 48)).length, ?_, ?_⟩
  · rw [← takeWhile_48]; exact (List.takeWhile_append_dropWhile).symm
  · intro h
    have := dropWhile_head _ l 48 h
    simp at this
theorem trimRight_spec (l : List UInt8) : ∃ k, l = trimRightB l 48 ++ List.replicate k 48 ∧ (trimRightB l 48).getLast? ≠ some 48 := by
  obtain ⟨k, h1, h2⟩ := trimLeft_spec l.reverse
  refine ⟨k, ?_, ?_⟩
  · unfold trimRightB; unfold trimLeftB at h1
    have := congrArg List.reverse h1
    rw [List.reverse_reverse, List.reverse_append, List.reverse_replicate] at this
    exact this
  · unfold trimRightB; unfold trimLeftB at h2
    rw [List.getLast?_reverse]; exact h2

/-- The program's one form is one, and of the same value. -/
theorem canon_can (l : List UInt8) (sc : Nat) (hl : l.all isDig = true) (hs : sc ≤ 1000) :
    ∃ d s : _, canonL l sc = (d, ((s : Nat) : Int)) ∧ Can d s ∧ d.all isDig = true ∧ s ≤ sc ∧ V d s = V l sc ∧ d.length ≤ max l.length 1 := by
  obtain ⟨k, hk, hh⟩ := trimLeft_spec l
  unfold canonL
  obtain ⟨d, hd⟩ : ∃ d, trimLeftB l 48 = d := ⟨_, rfl⟩
  rw [hd] at hk hh ⊢
  have hvl : val l = val d := by rw [hk, val_zeros_append]
  have hdd : d.all isDig = true := by rw [hk, List.all_append, Bool.and_eq_true] at hl; exact hl.2
  by_cases hz : d = []
  · rw [if_pos hz]
    obtain ⟨z, hz0⟩ : ∃ z : Nat, z = 0 := ⟨0, rfl⟩
    refine ⟨[48], z, by rw [hz0]; rfl, Or.inl ⟨rfl, hz0⟩, by decide, by omega, ?_, by simp; omega⟩
    unfold V
    rw [hvl, hz, show val [48] = 0 from rfl, show val [] = 0 from rfl, Nat.mul_zero, Nat.mul_zero]
  · rw [if_neg hz]
    obtain ⟨tw, ht, hlast⟩ := trimRight_spec d
    obtain ⟨t, htt⟩ : ∃ t, trimRightB d 48 = t := ⟨_, rfl⟩
    rw [htt] at ht hlast ⊢
    have hlen : d.length = t.length + tw := by rw [ht]; simp
    have htn : t ≠ [] := by
      intro e
      subst e
      cases tw with
      | zero => rw [ht] at hz; exact hz rfl
      | succ n => rw [ht] at hh; exact hh rfl
    have hmin : min ((d.length : Int) - (t.length : Int)) (sc : Int) = ((min tw sc : Nat) : Int) := by omega
    rw [hmin]
    obtain ⟨c, hc⟩ : ∃ c, min tw sc = c := ⟨_, rfl⟩
    rw [hc]
    have hsplit : d = (t ++ List.replicate (tw - c) 48) ++ List.replicate c 48 := by
      rw [List.append_assoc, List.replicate_append_replicate, show tw - c + c = tw from by omega]; exact ht
    have htake : d.take (d.length - ((c : Nat) : Int).toNat) = t ++ List.replicate (tw - c) 48 := by
      rw [hsplit, List.take_append_of_le_length (by simp; omega), List.take_of_length_le (by simp; omega)]
    refine ⟨t ++ List.replicate (tw - c) 48, sc - c, ?_, Or.inr ⟨?_, ?_, ?_⟩, ?_, Nat.sub_le _ _, ?_, ?_⟩
    · rw [htake]
      refine Prod.ext rfl ?_
      show (sc : Int) - (c : Int) = ((sc - c : Nat) : Int)
      omega
    · simp [htn]
    · intro h
      apply hh
      rw [hsplit, List.head?_append, h]; rfl
    · intro h0 h
      have : tw - c = 0 := by omega
      rw [this, List.replicate_zero, List.append_nil] at h
      exact hlast h
    · rw [hsplit, List.all_append, Bool.and_eq_true] at hdd; exact hdd.1
    · unfold V
      have h1 : val d = 10 ^ c * val (t ++ List.replicate (tw - c) 48) := by
        conv => lhs; rw [hsplit]
        exact val_append_zeros _ _
      rw [hvl, h1, ← Nat.mul_assoc, ← Nat.pow_add, show 1000 - sc + c = 1000 - (sc - c) from by omega]
    · have h1 : l.length = k + d.length := by
        have := congrArg List.length hk
        simpa using this
      simp; omega
/-- A number that is in its one form stays. -/
theorem canon_id (l : List UInt8) (sc : Nat) (hl : l.all isDig = true) (hs : sc ≤ 1000) (h : Can l sc) : canonL l sc = (l, (sc : Int)) := by
  obtain ⟨d, s, he, hc, hd, hle, hV, _⟩ := canon_can l sc hl hs
  obtain ⟨rfl, rfl⟩ := can_uniq d l s sc hd hl hc h (by omega) hs hV
  exact he
/-- One forms are the same just if the values are. -/
theorem canon_iff (l l' : List UInt8) (s s' : Nat) (hl : l.all isDig = true) (hl' : l'.all isDig = true) (hs : s ≤ 1000) (hs' : s' ≤ 1000) : canonL l s = canonL l' s' ↔ V l s = V l' s' := by
  obtain ⟨d, t, he, hc, hd, hle, hV, _⟩ := canon_can l s hl hs
  obtain ⟨d', t', he', hc', hd', hle', hV', _⟩ := canon_can l' s' hl' hs'
  rw [he, he', ← hV, ← hV']
  constructor
  · intro h
    have h1 : d = d' := congrArg Prod.fst h
    have h2 : (t : Int) = t' := congrArg Prod.snd h
    have h3 : t = t' := by omega
    rw [h1, h3]
  · intro h
    obtain ⟨rfl, rfl⟩ := can_uniq d d' t t' hd hd' hc hc' (by omega) (by omega) h
    rfl

/-- Which of two is more. -/
def cmpN (a b : Nat) : Int := if a < b then -1 else if b < a then 1 else 0

/-- Digits by place, from the highest. -/
def scanP (U W : Nat) : Nat → Int
  | 0 => 0
  | k + 1 => if U / 10 ^ k % 10 < W / 10 ^ k % 10 then -1 else if W / 10 ^ k % 10 < U / 10 ^ k % 10 then 1 else scanP U W k
theorem scanP_cmp (U W : Nat) : ∀ k, U / 10 ^ k = W / 10 ^ k → scanP U W k = cmpN U W
  | 0, h => by simp at h; subst h; simp [scanP, cmpN]
  | k + 1, h => by
    rw [Nat.pow_succ, ← Nat.div_div_eq_div_mul, ← Nat.div_div_eq_div_mul] at h
    have hp : 0 < 10 ^ k := Nat.pow_pos (by omega)
    have lt_of : ∀ {x y : Nat}, x / 10 ^ k < y / 10 ^ k → x < y := fun {x y} h => by
      rcases Nat.lt_or_ge x y with h1 | h1
      · exact h1
      · exact absurd (Nat.div_le_div_right (c := 10 ^ k) h1) (by omega)
    unfold scanP
    by_cases h1 : U / 10 ^ k % 10 < W / 10 ^ k % 10
    · have h2 : U < W := lt_of (by omega)
      rw [if_pos h1, cmpN, if_pos h2]
    · rw [if_neg h1]
      by_cases h2 : W / 10 ^ k % 10 < U / 10 ^ k % 10
      · have h3 : W < U := lt_of (by omega)
        rw [if_pos h2, cmpN, if_neg (by omega), if_pos h3]
      · rw [if_neg h2]
        exact scanP_cmp U W k (by omega)
theorem scanP_all (U W k : Nat) (hU : U < 10 ^ k) (hW : W < 10 ^ k) : scanP U W k = cmpN U W :=
  scanP_cmp U W k (by rw [Nat.div_eq_of_lt hU, Nat.div_eq_of_lt hW])

theorem cmpN_mul (c a b : Nat) (hc : 0 < c) : cmpN (c * a) (c * b) = cmpN a b := by
  unfold cmpN
  simp only [Nat.mul_lt_mul_left hc]

/-- Texts of as many digits are held against each other as their values. -/
theorem compare_val : ∀ (a b : List UInt8), a.all isDig = true → b.all isDig = true → a.length = b.length → compareBytes a b = cmpN (val a) (val b)
  | [], [], _, _, _ => rfl
  | [], _ :: _, _, _, h => by simp at h
  | _ :: _, [], _, _, h => by simp at h
  | c :: a, d :: b, ha, hb, hl => by
    rw [List.all_cons, Bool.and_eq_true] at ha hb
    have hl' : a.length = b.length := by simpa using hl
    have l1 := val_lt a ha.2
    have l2 := val_lt b hb.2
    rw [compareBytes, val_cons, val_cons, hl']
    rw [hl'] at l1
    have hlt : ∀ {x y : UInt8}, isDig x = true → isDig y = true → (x < y ↔ dg x < dg y) := fun {x y} hx hy => by
      unfold isDig at hx hy; unfold dg; simp only [decide_eq_true_eq] at hx hy
      rw [UInt8.lt_iff_toNat_lt]; omega
    obtain ⟨p, hp⟩ : ∃ p, 10 ^ b.length = p := ⟨_, rfl⟩
    rw [hp] at l1 l2 ⊢
    by_cases h1 : c < d
    · rw [if_pos h1]
      have h2 := (hlt ha.1 hb.1).1 h1
      have h3 : p * (dg c + 1) ≤ p * dg d := Nat.mul_le_mul_left p h2
      rw [Nat.mul_add, Nat.mul_one] at h3
      rw [cmpN, if_pos (by omega)]
    · rw [if_neg h1]
      by_cases h2 : d < c
      · rw [if_pos h2]
        have h2' := (hlt hb.1 ha.1).1 h2
        have h3 : p * (dg d + 1) ≤ p * dg c := Nat.mul_le_mul_left p h2'
        rw [Nat.mul_add, Nat.mul_one] at h3
        rw [cmpN, if_neg (by omega), if_pos (by omega)]
      · rw [if_neg h2, compare_val a b ha.2 hb.2 hl']
        have e : dg c = dg d := by
          have a1 : ¬ dg c < dg d := fun h => h1 ((hlt ha.1 hb.1).2 h)
          have a2 : ¬ dg d < dg c := fun h => h2 ((hlt hb.1 ha.1).2 h)
          omega
        rw [e]
        unfold cmpN
        simp only [Nat.add_lt_add_iff_right]

/-- The digits of one of two, with as many behind the point, and as many in all. -/
def levelX (a b : List UInt8) (s t : Nat) : List UInt8 :=
  List.replicate (max (a.length + (max s t - s)) (b.length + (max s t - t)) - (a.length + (max s t - s))) 48 ++ (a ++ List.replicate (max s t - s) 48)
theorem levelX_length (a b : List UInt8) (s t : Nat) : (levelX a b s t).length = max (a.length + (max s t - s)) (b.length + (max s t - t)) := by
  simp [levelX]; omega
theorem levelX_dig (a b : List UInt8) (s t : Nat) (ha : a.all isDig = true) : (levelX a b s t).all isDig = true := by
  have h48 := isDig48
  simp [levelX, List.all_append, ha, List.all_replicate, h48]
theorem levelX_val (a b : List UInt8) (s t : Nat) (hs : s ≤ 1000) (ht : t ≤ 1000) : 10 ^ (1000 - max s t) * val (levelX a b s t) = V a s := by
  unfold levelX V
  rw [val_zeros_append, val_append_zeros, ← Nat.mul_assoc, ← Nat.pow_add, show 1000 - max s t + (max s t - s) = 1000 - s from by omega]
theorem level_compare (a b : List UInt8) (s t : Nat) (ha : a.all isDig = true) (hb : b.all isDig = true) (hs : s ≤ 1000) (ht : t ≤ 1000) :
    compareBytes (levelX a b s t) (levelX b a t s) = cmpN (V a s) (V b t) := by
  rw [compare_val _ _ (levelX_dig a b s t ha) (levelX_dig b a t s hb) (by rw [levelX_length, levelX_length]; omega), ← levelX_val a b s t hs ht, ← levelX_val b a t s ht hs, Nat.max_comm t s,
    cmpN_mul _ _ _ (Nat.pow_pos (by omega))]

theorem V_lt_any (N : Nat) (l : List UInt8) (s : Nat) (hl : l.all isDig = true) (hn : l.length ≤ N) : 10 ^ (N - s) * val l < 10 ^ (N + N) := by
  have h1 := val_lt l hl
  have h2 : 10 ^ (N - s) ≤ 10 ^ N := Nat.pow_le_pow_right (by omega) (by omega)
  have h3 : 10 ^ l.length ≤ 10 ^ N := Nat.pow_le_pow_right (by omega) hn
  calc 10 ^ (N - s) * val l < 10 ^ (N - s) * 10 ^ l.length := Nat.mul_lt_mul_of_pos_left h1 (Nat.pow_pos (by omega))
    _ ≤ 10 ^ N * 10 ^ N := Nat.mul_le_mul h2 h3
    _ = 10 ^ (N + N) := (Nat.pow_add 10 N N).symm
theorem V_lt (l : List UInt8) (s : Nat) (hl : l.all isDig = true) (hn : l.length ≤ 1000) : V l s < 10 ^ (1000 + 1000) := V_lt_any 1000 l s hl hn

/-- The digit at a place, as the document's answer asks for it. -/
def ratL (l : List UInt8) (sc : Int) (p : Int) : Int :=
  let i : Int := l.length - 1 - sc - p
  if i < 0 ∨ l.length ≤ i then 0 else (l.getD i.toNat 0).toNat - 48
theorem ratL_eq (l : List UInt8) (sc : Nat) (hl : l.all isDig = true) (hs : sc ≤ 1000) (j : Nat) : ratL l sc ((j : Int) - 1000) = ((V l sc / 10 ^ j % 10 : Nat) : Int) := by
  unfold ratL V
  by_cases hj : j < 1000 - sc
  · obtain ⟨d, hd⟩ : ∃ d, 1000 - sc = j + 1 + d := ⟨1000 - sc - j - 1, by omega⟩
    have h1 : 10 ^ (1000 - sc) * val l / 10 ^ j % 10 = 0 := by
      rw [hd, Nat.pow_add, Nat.pow_add, Nat.mul_assoc, Nat.mul_assoc, Nat.mul_div_cancel_left _ (Nat.pow_pos (by omega)), Nat.pow_one, Nat.mul_mod_right]
    rw [h1]
    simp only
    rw [if_pos (by omega)]; rfl
  · obtain ⟨d, hd⟩ : ∃ d, j = 1000 - sc + d := ⟨j - (1000 - sc), by omega⟩
    have h1 : 10 ^ (1000 - sc) * val l / 10 ^ j % 10 = dg (l.reverse.getD d 48) := by
      rw [hd, Nat.pow_add, ← Nat.div_div_eq_div_mul, Nat.mul_div_cancel_left _ (Nat.pow_pos (by omega))]
      exact valR_digit l.reverse (by rw [List.all_reverse]; exact hl) d
    rw [h1]
    simp only
    by_cases hdl : d < l.length
    · rw [if_neg (by omega)]
      have h2 : l.reverse.getD d 48 = l.getD (l.length - 1 - d) 0 := by
        simp only [List.getD_eq_getElem?_getD]
        rw [List.getElem?_reverse hdl, List.getElem?_eq_getElem (by omega)]
        rfl
      rw [h2, show ((l.length : Int) - 1 - (sc : Int) - ((j : Int) - 1000)).toNat = l.length - 1 - d from by omega]
      have h3 : isDig (l.getD (l.length - 1 - d) 0) = true := by
        rw [List.getD_eq_getElem?_getD, List.getElem?_eq_getElem (by omega)]
        exact List.all_eq_true.1 hl _ (List.getElem_mem _)
      unfold isDig at h3; unfold dg; simp only [decide_eq_true_eq] at h3
      omega
    · rw [if_pos (by omega)]
      have h2 : l.reverse.getD d 48 = 48 := by
        rw [List.getD_eq_getElem?_getD, List.getElem?_eq_none (by simp; omega)]; rfl
      rw [h2]; rfl
theorem ratL_bd (l : List UInt8) (sc p : Int) (hl : l.all isDig = true) : 0 ≤ ratL l sc p ∧ ratL l sc p ≤ 9 := by
  unfold ratL
  simp only
  split
  · omega
  · rename_i h
    have h3 : isDig (l.getD ((l.length : Int) - 1 - sc - p).toNat 0) = true := by
      rw [List.getD_eq_getElem?_getD, List.getElem?_eq_getElem (by omega)]
      exact List.all_eq_true.1 hl _ (List.getElem_mem _)
    unfold isDig at h3; simp only [decide_eq_true_eq] at h3
    omega

/-- The sum of two texts' last k digits: what is written, and what is carried. -/
def addR : List UInt8 → List UInt8 → Nat → List UInt8 × Nat
  | c :: a, d :: b, k => let r := addR a b ((dg c + dg d + k) / 10); (UInt8.ofNat (48 + (dg c + dg d + k) % 10) :: r.1, r.2)
  | _, _, k => ([], k)
theorem digit_dig (n : Nat) (h : n < 10) : isDig (UInt8.ofNat (48 + n)) = true ∧ dg (UInt8.ofNat (48 + n)) = n := by
  have : (UInt8.ofNat (48 + n)).toNat = 48 + n := by rw [UInt8.toNat_ofNat']; omega
  unfold isDig dg
  rw [this]
  exact ⟨by simp; omega, by omega⟩
end Go.Proofs.YtchbhcjhoocjaaaGreatDoor

namespace Go.Proofs.YtchbhcjhoocjaaaGreatDoor
open Go.RowKit Go.Extern.Stop Go.Stop Go.Extern

/-- errors.As(nil, target). -/
theorem as_nil (t : Value) (w : World) :
    Calls Tryz.prog 199 #[.nilIface, t] w fun e w' => e = .returned (.bool false) ∧ w' = w := by
  go_enter Tryz.func199, Tryz.ntmps199
  go_wp2
  go_ret
  exact ⟨rfl, rfl⟩

/-! ### CLOSED FACTS ON THE MODEL's ENTRIES FOR internal/reflectlite, at this program's types: 25: *p.E · 27: **p.E · 23: error · 45: reflectlite's rtype · 1: how many package-level variables the dump has -/
theorem As.valueOf27 (t : Addr) (w : World) : (ReflectliteValue.unpack (.iface 206 (.pointer (some t)))).run Tryz.prog w
    = .ok (.agg #[.pointer (some ⟨5, 206, none⟩), .pointer (some ⟨w.heap.size, 0, none⟩), .int .u64 150]) (w.alloc (.cells #[.pointer (some t)] 206)) := by kernel_rfl
theorem As.type27 (a : Addr) (w : World) : (ReflectliteValue.methodAny (ReflectliteValue.valueError "reflectlite.Value.Type" 0) (fun t _ _ _ => ReflectliteType.toType t) #[.agg #[.pointer (some ⟨5, 206, none⟩), .pointer (some a), .int .u64 150]]).run Tryz.prog w
    = .ok (.iface 250 (.agg #[.pointer (some ⟨5, 206, none⟩)])) w := by kernel_rfl
theorem As.methodKind (h : Value) (w : World) : (Go.method 391 250 (.agg #[h]) "Kind").run Tryz.prog w = .ok (251, h) w := by kernel_rfl
theorem As.kind27 (w : World) : ((ReflectliteType.abiMethod fun t => (fun a : Nat => Value.int IntKind.u8 (a : Int)) <$> Rtype.kind t) #[.pointer (some ⟨5, 206, none⟩)]).run Tryz.prog w = .ok (.int .u8 22) w := by kernel_rfl
theorem As.kind25 (w : World) : ((ReflectliteType.abiMethod fun t => (fun a : Nat => Value.int IntKind.u8 (a : Int)) <$> Rtype.kind t) #[.pointer (some ⟨5, 204, none⟩)]).run Tryz.prog w = .ok (.int .u8 22) w := by kernel_rfl

/-! ### THE ENTRIES THAT READ OR WRITE MEMORY: laws with a premise on the cell (after Derived/Lib/ReflectliteSlice.lean's manner: each unfolding a lemma of its own, by rfl) -/
theorem rlm (z : Sem Value) (f : TypeId → Addr → Nat → Nat → Sem Value) (v : Value) :
    ReflectliteValue.method z f #[v] = (do match ← ReflectliteValue.parts v with | none => z | some (t, a, fl) => f t a fl (fl % 32)) := rfl
theorem As.parts27 (a : Addr) (w : World) : (ReflectliteValue.parts (.agg #[.pointer (some ⟨5, 206, none⟩), .pointer (some a), .int .u64 150])).run Tryz.prog w = .ok (some (206, a, 150)) w := by kernel_rfl
/-- (Value).IsNil at the Value of a **p.E that is not nil. -/
theorem As.isNil27 (a p : Addr) (W : World) (ha : W.cell? a = some (.pointer (some p))) :
    (ReflectliteValue.method (ReflectliteValue.valueError "reflectlite.Value.IsNil" 0) ReflectliteValue.isNil #[.agg #[.pointer (some ⟨5, 206, none⟩), .pointer (some a), .int .u64 150]]).run Tryz.prog W = .ok (.bool false) W := by
  rw [rlm]
  simp only [Sem.run_bind, As.parts27, Result.andThen]
  simp [ReflectliteValue.isNil, loadVar, isAgg, underlying, Tryz.underlying206, ha, Result.andThen]

theorem As.methodElem (h : Value) (w : World) : (Go.method 391 250 (.agg #[h]) "Elem").run Tryz.prog w = .ok (263, .agg #[h]) w := by kernel_rfl
theorem As.methodImplements (h : Value) (w : World) : (Go.method 391 250 (.agg #[h]) "Implements").run Tryz.prog w = .ok (264, .agg #[h]) w := by kernel_rfl
theorem As.methodAssignableTo (h : Value) (w : World) : (Go.method 391 250 (.agg #[h]) "AssignableTo").run Tryz.prog w = .ok (261, .agg #[h]) w := by kernel_rfl
theorem As.elem27 (w : World) : (ReflectliteType.method ReflectliteType.elem #[.agg #[.pointer (some ⟨5, 206, none⟩)]]).run Tryz.prog w = .ok (.iface 250 (.agg #[.pointer (some ⟨5, 204, none⟩)])) w := by kernel_rfl
theorem As.implements25 (w : World) : (ReflectliteType.relation "Implements" ReflectliteType.implements_ #[.agg #[.pointer (some ⟨5, 204, none⟩)], .iface 250 (.agg #[.pointer (some ⟨5, 195, none⟩)])]).run Tryz.prog w = .ok (.bool true) w := by kernel_rfl
theorem As.typeOf25 (v : Value) (w : World) : (ReflectliteType.typeOf #[.iface 204 v]).run Tryz.prog w = .ok (.iface 250 (.agg #[.pointer (some ⟨5, 204, none⟩)])) w := by kernel_rfl
theorem As.assignable25 (w : World) : (ReflectliteType.relation "AssignableTo" ReflectliteType.assignableTo #[.agg #[.pointer (some ⟨5, 204, none⟩)], .iface 250 (.agg #[.pointer (some ⟨5, 204, none⟩)])]).run Tryz.prog w = .ok (.bool true) w := by kernel_rfl
theorem As.valueOf25 (e : Addr) (w : World) : (ReflectliteValue.unpack (.iface 204 (.pointer (some e)))).run Tryz.prog w
    = .ok (.agg #[.pointer (some ⟨5, 204, none⟩), .pointer (some ⟨w.heap.size, 0, none⟩), .int .u64 150]) (w.alloc (.cells #[.pointer (some e)] 204)) := by kernel_rfl

theorem As.elemOf27 (w : World) : (Rtype.elem? 206).run Tryz.prog w = .ok (some 204) w := by kernel_rfl
theorem As.mk25 (p : Addr) (w : World) : (ReflectliteValue.mk 204 p ReflectliteValue.flagAddr).run Tryz.prog w = .ok (.agg #[.pointer (some ⟨5, 204, none⟩), .pointer (some p), .int .u64 406]) w := by kernel_rfl
/-- (Value).Elem at the Value of a **p.E that is not nil: the Value of the *p.E variable that it points to, addressable. -/
theorem As.elemV27 (a p : Addr) (W : World) (ha : W.cell? a = some (.pointer (some p))) :
    (ReflectliteValue.method (ReflectliteValue.valueError "reflectlite.Value.Elem" 0) ReflectliteValue.elem #[.agg #[.pointer (some ⟨5, 206, none⟩), .pointer (some a), .int .u64 150]]).run Tryz.prog W
      = .ok (.agg #[.pointer (some ⟨5, 204, none⟩), .pointer (some p), .int .u64 406]) W := by
  rw [rlm]
  simp only [Sem.run_bind, As.parts27, Result.andThen]
  simp [ReflectliteValue.elem, loadVar, isAgg, underlying, Tryz.underlying206, ha, Result.andThen, As.elemOf27, As.mk25]
theorem rls (v x : Value) : ReflectliteValue.set #[v, x] = (do
    let (some (dst, a, fl), some (src, b, _)) := (← ReflectliteValue.parts v, ← ReflectliteValue.parts x)
      | unsupported (.noEntry "extern/(internal/reflectlite.Value).Set.zeroValue")
    if fl / ReflectliteValue.flagAddr % 2 == 0 then unsupported (.noEntry "extern/(internal/reflectlite.Value).Set.unaddressable")
    let val ← loadVar src b
    if ← Rtype.directlyAssignable dst src then storeVar dst a val
    else if ← Rtype.implements dst src then
      if (← Rtype.kind src) == 20 then
        match val with
        | .nilIface => unsupported (.noEntry "extern/reflectlite: a nil value of one interface type handed on as a value of another")
        | _ => storeVar dst a val
      else storeVar dst a (.iface src val)
    else panicString ("reflectlite.Set: value of type " ++ (← Rtype.spelt src) ++ " is not assignable to type " ++ (← Rtype.spelt dst))
    pure (.tuple #[])) := rfl
theorem As.parts25a (a : Addr) (w : World) : (ReflectliteValue.parts (.agg #[.pointer (some ⟨5, 204, none⟩), .pointer (some a), .int .u64 406])).run Tryz.prog w = .ok (some (204, a, 406)) w := by kernel_rfl
theorem As.parts25 (a : Addr) (w : World) : (ReflectliteValue.parts (.agg #[.pointer (some ⟨5, 204, none⟩), .pointer (some a), .int .u64 150])).run Tryz.prog w = .ok (some (204, a, 150)) w := by kernel_rfl
theorem As.direct25 (w : World) : (Rtype.directlyAssignable 204 204).run Tryz.prog w = .ok true w := by kernel_rfl
theorem As.size25 (w : World) : (sizeOf 204).run Tryz.prog w = .ok 1 w := by kernel_rfl
/-- (Value).Set: the *p.E variable at 'ta' gets what the Value's own variable 'b' holds. -/
theorem As.set25 (ta b e : Addr) (old : Value) (W : World) (hb : W.cell? b = some (.pointer (some e))) (ht : W.cell? ta = some old) (hf : W.frozen? ta = false) :
    (ReflectliteValue.set #[.agg #[.pointer (some ⟨5, 204, none⟩), .pointer (some ta), .int .u64 406], .agg #[.pointer (some ⟨5, 204, none⟩), .pointer (some b), .int .u64 150]]).run Tryz.prog W
      = .ok (.tuple #[]) (W.setCell ta (.pointer (some e))) := by
  rw [rls]
  simp only [Sem.run_bind, As.parts25a, As.parts25, Result.andThen]
  simp [ReflectliteValue.flagAddr, loadVar, isAgg, underlying, Tryz.underlying204, hb, Result.andThen, As.direct25, storeVar, Value.cells, storeCells, Addr.add]
  rw [run_store Tryz.prog W ta _ _ (by rfl)]
  simp [ht, hf]

set_option maxHeartbeats 4000000 in
theorem as_hit (e t : Addr) (old : Value) (w : World) (hg : w.cell? ⟨4, 0, none⟩ = some (.iface 250 (.agg #[.pointer (some ⟨5, 195, none⟩)]))) (ht0 : w.cell? t = some old) (hf0 : w.frozen? t = false) :
    Calls Tryz.prog 199 #[.iface 204 (.pointer (some e)), .iface 206 (.pointer (some t))] w fun ev w' => ev = .returned (.bool true) ∧ w' = ((((w.alloc (.cells #[.pointer (some t)] 206)).alloc (.cells #[.pointer (some ⟨5, 206, none⟩), .pointer (some ⟨w.heap.size, 0, none⟩), .int .u64 150] 234)).alloc (.cells #[.pointer (some ⟨5, 206, none⟩), .pointer (some ⟨w.heap.size, 0, none⟩), .int .u64 150] 234)).alloc (.cells #[.pointer (some e)] 204)).setCell t (.pointer (some e)) := by
  have h6 := @run_callFunc_extern Tryz.prog 217 _ (fun args => ReflectliteValue.unpack (args.getD 0 (.tuple #[]))) Tryz.func217 (by kernel_rfl) (by kernel_rfl) (by kernel_rfl) (by kernel_rfl)
  have h7 := @run_callFunc_extern Tryz.prog 218 _ (ReflectliteValue.methodAny (ReflectliteValue.valueError "reflectlite.Value.Type" 0) (fun t _ _ _ => ReflectliteType.toType t)) Tryz.func218 (by kernel_rfl) (by kernel_rfl) (by kernel_rfl) (by kernel_rfl)
  have h8 := @run_callFunc_extern Tryz.prog 219 _ (ReflectliteValue.method (ReflectliteValue.valueError "reflectlite.Value.IsNil" 0) ReflectliteValue.isNil) Tryz.func219 (by kernel_rfl) (by kernel_rfl) (by kernel_rfl) (by kernel_rfl)
  have h27 := @run_callFunc_extern Tryz.prog 251 _ (ReflectliteType.abiMethod fun t => do pure (.int .u8 (← Rtype.kind t))) Tryz.func251 (by kernel_rfl) (by kernel_rfl) (by kernel_rfl) (by kernel_rfl)
  have h37 := @run_callFunc_extern Tryz.prog 263 _ (ReflectliteType.method ReflectliteType.elem) Tryz.func263 (by kernel_rfl) (by kernel_rfl) (by kernel_rfl) (by kernel_rfl)
  have h38 := @run_callFunc_extern Tryz.prog 264 _ (ReflectliteType.relation "Implements" ReflectliteType.implements_) Tryz.func264 (by kernel_rfl) (by kernel_rfl) (by kernel_rfl) (by kernel_rfl)
  have h10 := @run_callFunc_extern Tryz.prog 229 _ ReflectliteType.typeOf Tryz.func229 (by kernel_rfl) (by kernel_rfl) (by kernel_rfl) (by kernel_rfl)
  have h35 := @run_callFunc_extern Tryz.prog 261 _ (ReflectliteType.relation "AssignableTo" ReflectliteType.assignableTo) Tryz.func261 (by kernel_rfl) (by kernel_rfl) (by kernel_rfl) (by kernel_rfl)
  have h11 := @run_callFunc_extern Tryz.prog 230 _ (ReflectliteValue.method (ReflectliteValue.valueError "reflectlite.Value.Elem" 0) ReflectliteValue.elem) Tryz.func230 (by kernel_rfl) (by kernel_rfl) (by kernel_rfl) (by kernel_rfl)
  have h12 := @run_callFunc_extern Tryz.prog 231 _ ReflectliteValue.set Tryz.func231 (by kernel_rfl) (by kernel_rfl) (by kernel_rfl) (by kernel_rfl)
  have tO := As.typeOf25
  have mA := As.methodAssignableTo
  have a25 := As.assignable25
  have v25 := As.valueOf25
  have f6 := As.valueOf27
  have f7 := As.type27
  have mK := As.methodKind
  have mE := As.methodElem
  have mI := As.methodImplements
  have k27 := As.kind27
  have k25 := As.kind25
  have e27 := As.elem27
  have i25 := As.implements25
  have n8 := As.isNil27 ⟨w.heap.size, 0, none⟩ t ((w.alloc (.cells #[.pointer (some t)] 206)).alloc (.cells #[.pointer (some ⟨5, 206, none⟩), .pointer (some ⟨w.heap.size, 0, none⟩), .int .u64 150] 234)) (by simp)
  have hlt : 4 < w.heap.size := cell_lt hg
  have hg2 : ((w.alloc (.cells #[.pointer (some t)] 206)).alloc (.cells #[.pointer (some ⟨5, 206, none⟩), .pointer (some ⟨w.heap.size, 0, none⟩), .int .u64 150] 234)).cell? ⟨4, 0, none⟩ = some (.iface 250 (.agg #[.pointer (some ⟨5, 195, none⟩)])) := by
    rw [World.cell?_alloc_lt _ _ ⟨4, 0, none⟩ (by simp; omega), World.cell?_alloc_lt _ _ ⟨4, 0, none⟩ hlt]; exact hg
  have htl : t.block < w.heap.size := by
    rcases Nat.lt_or_ge t.block w.heap.size with h | h
    · exact h
    · simp [World.cell?, Array.getElem?_eq_none h] at ht0
  have el := As.elemV27 ⟨w.heap.size, 0, none⟩ t (((w.alloc (.cells #[.pointer (some t)] 206)).alloc (.cells #[.pointer (some ⟨5, 206, none⟩), .pointer (some ⟨w.heap.size, 0, none⟩), .int .u64 150] 234)).alloc (.cells #[.pointer (some ⟨5, 206, none⟩), .pointer (some ⟨w.heap.size, 0, none⟩), .int .u64 150] 234)) (by rw [World.cell?_alloc_lt _ _ ⟨w.heap.size, 0, none⟩ (by simp; omega)]; simp)
  have st := As.set25 t ⟨w.heap.size + 1 + 1 + 1, 0, none⟩ e old ((((w.alloc (.cells #[.pointer (some t)] 206)).alloc (.cells #[.pointer (some ⟨5, 206, none⟩), .pointer (some ⟨w.heap.size, 0, none⟩), .int .u64 150] 234)).alloc (.cells #[.pointer (some ⟨5, 206, none⟩), .pointer (some ⟨w.heap.size, 0, none⟩), .int .u64 150] 234)).alloc (.cells #[.pointer (some e)] 204))
    (by rw [World.cell?_alloc_at _ _ _ _ (by simp)]; rfl)
    (by rw [World.cell?_alloc_lt _ _ t (by simp; omega), World.cell?_alloc_lt _ _ t (by simp; omega), World.cell?_alloc_lt _ _ t (by simp; omega), World.cell?_alloc_lt _ _ t htl]; exact ht0)
    (by rw [World.frozen?_alloc_old _ _ t (by simp; omega), World.frozen?_alloc_old _ _ t (by simp; omega), World.frozen?_alloc_old _ _ t (by simp; omega), World.frozen?_alloc_old _ _ t (Nat.ne_of_lt htl)]; exact hf0)
  go_enter Tryz.func199, Tryz.ntmps199
  go_wp2
  refine wp_loop_rounds 1 ?_
  rw [rounds_succ]
  go_wp2
  go_ret
  exact ⟨rfl, rfl⟩
/-- errors.errorType holds the type error. -/
def ErrT (w : World) : Prop := w.cell? ⟨4, 0, none⟩ = some (.iface 250 (.agg #[.pointer (some ⟨5, 195, none⟩)]))
/-- v is an error of number, of that kind; or nil, if it is 0. -/
def ErrAt (w : World) (v : Value) (n : Nat) : Prop := (n = 0 ∧ v = .nilIface) ∨ (n ≠ 0 ∧ ∃ b, v = .iface 204 (.pointer (some ⟨b, 0, none⟩)) ∧ w.cell? ⟨b, 0, none⟩ = some (.int .i64 n))
theorem ErrAt.bel {w w' : World} {v : Value} {n : Nat} (h : ErrAt w v n) (hb : Bel w w') : ErrAt w' v n := by
  rcases h with h | ⟨h0, b, h1, h2⟩
  · exact .inl h
  · exact .inr ⟨h0, b, h1, hb.keep h2⟩

set_option maxHeartbeats 4000000 in
theorem told_c (v : Value) (n : Nat) (w : World) (hE : ErrT w) (hv : ErrAt w v n) :
    Calls Tryz.prog 185 #[v] w fun e w' => e = .returned (.int .i64 n) ∧ Bel w w' := by
  rcases hv with ⟨rfl, rfl⟩ | ⟨h0, b, rfl, hc⟩
  · go_enter Tryz.func185, Tryz.ntmps185
    go_wp2_with (go_at_call 199; refine (as_nil _ _).mono ?_; rintro e w' ⟨rfl, rfl⟩)
    go_ret
    exact ⟨rfl, Bel.alloc _ _⟩
  · have hlt := cell_lt hE
    have hbl := cell_lt hc
    have hgA : (w.alloc (.cells #[.pointer none] 204)).cell? ⟨4, 0, none⟩ = some (.iface 250 (.agg #[.pointer (some ⟨5, 195, none⟩)])) := by
      rw [World.cell?_alloc_lt _ _ ⟨4, 0, none⟩ hlt]; exact hE
    have hcw : ∀ o1 o2 o3 o4 o5, (((((w.alloc o1).alloc o2).alloc o3).alloc o4).alloc o5).cell? ⟨b, 0, none⟩ = some (.int .i64 n) := fun o1 o2 o3 o4 o5 =>
      (((((Bel.alloc w o1).to_alloc o2).to_alloc o3).to_alloc o4).to_alloc o5).keep hc
    have HA := Lib.hid hgA
    have HE := Lib.hid hE
    clear hgA hE hc
    go_enter Tryz.func185, Tryz.ntmps185
    go_wp2_with (go_at_call 199; refine (as_hit _ _ (.pointer none) _ HA.out (by simp) (by simp)).mono ?_; rintro e w' ⟨rfl, rfl⟩)
    go_ret
    exact ⟨rfl, ((((Bel.alloc w _).to_alloc _).to_alloc _).to_alloc _).to_alloc _⟩
end Go.Proofs.YtchbhcjhoocjaaaGreatDoor

namespace Go.Proofs.YtchbhcjhoocjaaaGreatDoor
open Go.RowKit

def dl (s : ByteArray) : List UInt8 := s.data.toList
theorem dl_size (s : ByteArray) : (dl s).length = s.size := rfl
theorem dl_empty (s : ByteArray) : s.toList.isEmpty = (dl s).isEmpty := by rw [Lib.toList_data]; rfl
theorem dl_drop (s : ByteArray) (k : Nat) (h : k < s.size) : (dl s).drop k = s.get! k :: (dl s).drop (k + 1) := by
  have hl : k < s.data.toList.length := h
  unfold dl
  rw [List.drop_eq_getElem_cons hl, get_bang s k h]
  simp

set_option maxHeartbeats 1000000 in
theorem ndigits_c (s : ByteArray) (hs : s.size ≤ maxLen) (w : World) :
    Calls Tryz.prog 182 #[.string s] w fun e w' => e = .returned (.bool (digitsL (dl s))) ∧ w = w' := by
  unfold maxLen at hs
  obtain ⟨A, hA⟩ : ∃ A, (dl s).all isDig = A := ⟨_, rfl⟩
  have hd : digitsL (dl s) = (A && !(dl s).isEmpty) := by rw [← hA]; rfl
  have HA := Lib.hid hA
  have HD := Lib.hid hd
  clear hA hd
  go_enter Tryz.func182, Tryz.ntmps182
  go_wp2_with fail
  go_loop [6] (fun i => ∃ k : Nat, k ≤ s.size ∧ i = .int .i64 k ∧ ((dl s).drop k).all isDig = A) (fun i => s.size - (intOf i).toNat)
  case atStart => exact ⟨0, Nat.zero_le _, rfl, HA.out⟩
  case round =>
    obtain ⟨k, hk, rfl, hall⟩ := hrel
    by_cases hlt : k < s.size
    · rw [dl_drop s k hlt, List.all_cons] at hall
      have hc : isDig (s.get! k) = decide (48 ≤ ((s[k]).toNat : Int) ∧ ((s[k]).toNat : Int) ≤ 57) := by
        have : s.get! k = s[k] := by simpa using get_at s k hlt
        rw [this]; unfold isDig; rw [Bool.eq_iff_iff]; simp only [decide_eq_true_eq]; omega
      rw [hc] at hall
      have H := Lib.hid hall
      clear hall hc
      go_wp2_with fail
      · have hA1 : A = false := by rw [← H.out, decide_eq_false (by omega)]; rfl
        go_ret
        refine ⟨ret_bool ?_, rfl⟩
        rw [HD.out, hA1]; rfl
      · refine ⟨⟨k + 1, by omega, by go_num, ?_⟩, by simp [intOf]; omega⟩
        rw [← H.out, decide_eq_true (by omega)]; rfl
      · have hA1 : A = false := by rw [← H.out, decide_eq_false (by omega)]; rfl
        go_ret
        refine ⟨ret_bool ?_, rfl⟩
        rw [HD.out, hA1]; rfl
    · obtain rfl : k = s.size := by omega
      have hA1 : A = true := by rw [← hall, List.drop_of_length_le (by rw [dl_size]; omega)]; rfl
      have H := Lib.hid hA1
      clear hall hA1
      go_wp2_with fail
      go_ret
      refine ⟨ret_bool ?_, rfl⟩
      rw [HD.out, H.out, ← dl_empty]; simp

theorem fail_c (n : Int) (w : World) :
    Calls Tryz.prog 198 #[.int .i64 n] w fun e w' => e = .returned (.iface 204 (.pointer (some ⟨w.heap.size, 0, none⟩))) ∧ w' = w.alloc (.cells #[.int .i64 n] 208) := by
  go_enter Tryz.func198, Tryz.ntmps198
  go_wp2_with fail
  go_ret
  exact ⟨rfl, rfl⟩

/-- An error of that kind is returned; or nil, if it is 0. -/
def RetErr (n : Nat) (w : World) (e : Ending) (w' : World) : Prop := ∃ v, e = .returned v ∧ ErrAt w' v n ∧ Bel w w'
theorem retErr_some {n : Nat} {w w1 : World} {m : Int} {k : Nat} (hm : m = n) (hn : n ≠ 0) (hb : Bel w w1) (hk : k = w1.heap.size) {e : Ending} (he : e = .returned (.iface 204 (.pointer (some ⟨k, 0, none⟩)))) : RetErr n w e (w1.alloc (.cells #[.int .i64 m] 208)) :=
  ⟨_, he, .inr ⟨hn, _, rfl, by simp [hm, hk]⟩, hb.to_alloc _⟩
theorem retErr_nil {w w1 : World} (hb : Bel w w1) : RetErr 0 w (.returned .nilIface) w1 := ⟨_, rfl, .inl ⟨rfl, rfl⟩, hb⟩

def numV (d : ByteArray) (sc : Int) : Value := .agg #[.string d, .int .i64 sc]

set_option maxHeartbeats 1000000 in
theorem ncheck_c (d : ByteArray) (hs : d.size ≤ maxLen) (sc : Int) (w : World) :
    Calls Tryz.prog 184 #[.agg #[.string d, .int .i64 sc]] w (RetErr (checkN (dl d) sc) w) := by
  have hdig := fun w1 => ndigits_c d hs w1
  unfold maxLen at hs
  obtain ⟨D, hD⟩ : ∃ D, digitsL (dl d) = D := ⟨_, rfl⟩
  rw [hD] at hdig
  have HG := Lib.hid hdig
  have hn : checkN (dl d) sc = if D = false then 17 else if 1000 < d.size then 19 else if sc < 0 ∨ 1000 < sc then 3 else 0 := by unfold checkN; rw [hD]; rfl
  rw [hn]
  clear hdig hD hn
  cases D
  · rw [if_pos rfl]
    go_enter Tryz.func184, Tryz.ntmps184
    go_wp2_with (first
      | (go_at_call 182; refine (HG.out _).mono ?_; rintro e w' ⟨rfl, rfl⟩)
      | (go_at_call 198; refine (fail_c _ _).mono ?_; rintro e w' ⟨rfl, rfl⟩))
    go_ret
    exact retErr_some (n := 17) rfl (by decide) (Bel.alloc _ _) (by simp) rfl
  · rw [if_neg (by simp)]
    by_cases hl : 1000 < d.size
    · rw [if_pos hl]
      have hl2 : (1000 : Int) < d.size := by omega
      go_enter Tryz.func184, Tryz.ntmps184
      go_wp2_with (first
        | (go_at_call 182; refine (HG.out _).mono ?_; rintro e w' ⟨rfl, rfl⟩)
        | (go_at_call 198; refine (fail_c _ _).mono ?_; rintro e w' ⟨rfl, rfl⟩))
      go_ret
      exact retErr_some (n := 19) rfl (by decide) (Bel.alloc _ _) (by simp) rfl
    · rw [if_neg hl]
      have hl2 : (d.size : Int) ≤ 1000 := by omega
      by_cases h3 : sc < 0 ∨ 1000 < sc
      · rw [if_pos h3]
        have H3 := Lib.hid h3
        clear h3
        rcases H3.out with h3 | h3
        all_goals
          go_enter Tryz.func184, Tryz.ntmps184
          go_wp2_with (first
            | (go_at_call 182; refine (HG.out _).mono ?_; rintro e w' ⟨rfl, rfl⟩)
            | (go_at_call 198; refine (fail_c _ _).mono ?_; rintro e w' ⟨rfl, rfl⟩))
          go_ret
          exact retErr_some (n := 3) rfl (by decide) (Bel.alloc _ _) (by simp) rfl
      · rw [if_neg h3]
        have h4 : 0 ≤ sc := by omega
        have h5 : sc ≤ 1000 := by omega
        clear h3
        go_enter Tryz.func184, Tryz.ntmps184
        go_wp2_with (first
          | (go_at_call 182; refine (HG.out _).mono ?_; rintro e w' ⟨rfl, rfl⟩)
          | (go_at_call 198; refine (fail_c _ _).mono ?_; rintro e w' ⟨rfl, rfl⟩))
        go_ret
        exact retErr_nil (Bel.alloc _ _)

/-- What is wrong with one of two. -/
def bothN (a : List UInt8) (s : Int) (b : List UInt8) (t : Int) : Nat := if checkN a s = 0 then checkN b t else checkN a s
end Go.Proofs.YtchbhcjhoocjaaaGreatDoor

namespace Go.Proofs.YtchbhcjhoocjaaaGreatDoor
open Go.RowKit

/-- A text of bytes. -/
def bs (l : List UInt8) : ByteArray := ⟨l.toArray⟩
theorem dl_bs (l : List UInt8) : dl (bs l) = l := rfl
theorem bs_dl (s : ByteArray) : bs (dl s) = s := rfl
theorem bs_size (l : List UInt8) : (bs l).size = l.length := by simp [bs, ByteArray.size]
def RetNum (r : List UInt8 × Int) (w : World) (e : Ending) (w' : World) : Prop := e = .returned (.agg #[.string (bs r.1), .int .i64 r.2]) ∧ Bel w w'

theorem trimLeft_le (l : List UInt8) : (Lib.trimLeftB l 48).length ≤ l.length := by
  obtain ⟨k, h, _⟩ := trimLeft_spec l
  have := congrArg List.length h
  simp at this; omega
theorem trimRight_le (l : List UInt8) : (Lib.trimRightB l 48).length ≤ l.length := by
  obtain ⟨k, h, _⟩ := trimRight_spec l
  have := congrArg List.length h
  simp at this; omega

set_option maxHeartbeats 2000000 in
theorem canon_c (d : ByteArray) (hs : d.size ≤ 4294967280) (sc : Int) (h0 : 0 ≤ sc) (hsc : sc ≤ 4294967280) (w : World) :
    Calls Tryz.prog 183 #[.agg #[.string d, .int .i64 sc]] w (RetNum (canonL (dl d) sc) w) := by
  have hl := trimLeft_le (dl d)
  have hd := dl_size d
  have h1 := fun w1 => Tryz.strings_TrimLeft_one d 48 (by decide) w1
  obtain ⟨R, hR⟩ : ∃ R, canonL (dl d) sc = R := ⟨_, rfl⟩
  rw [hR]
  obtain ⟨D, hD⟩ : ∃ D, Lib.trimLeftB (dl d) 48 = D := ⟨_, rfl⟩
  rw [show Lib.trimLeftB d.data.toList 48 = D from hD] at h1
  rw [hD] at hl
  unfold canonL at hR
  rw [hD] at hR
  by_cases hz : D = []
  · rw [if_pos hz] at hR
    subst hz
    have H1 := Lib.hid h1
    have HR := Lib.hid hR
    clear h1 hR hD hl
    go_enter Tryz.func183, Tryz.ntmps183
    go_wp2_with (go_at_call 196; refine (H1.out _).mono ?_; rintro e w' ⟨rfl, rfl⟩)
    refine bodyPost_ret (v := .agg #[.string ⟨#[48]⟩, .int .i64 0]) (by simp [results, Tryz.results183, go_sem]) rfl ?_
    rw [← HR.out]
    exact ⟨rfl, by first | exact Bel.to_setCell ((Bel.alloc w _).to_alloc _) (by simp) _ | exact (Bel.alloc w _).to_alloc _⟩
  · rw [if_neg hz] at hR
    have hr := trimRight_le D
    obtain ⟨T, hT⟩ : ∃ T, bs D = T := ⟨_, rfl⟩
    have hDT : dl T = D := by rw [← hT]; rfl
    have h2 := fun w1 => Tryz.strings_TrimRight_one T 48 (by decide) w1 (by rw [← hT, bs_size]; omega)
    obtain ⟨E, hE⟩ : ∃ E, Lib.trimRightB D 48 = E := ⟨_, rfl⟩
    rw [show Lib.trimRightB T.data.toList 48 = E from by rw [← hE, ← hDT]; rfl] at h2
    rw [hE] at hr hR
    obtain ⟨S, hS⟩ : ∃ S, bs E = S := ⟨_, rfl⟩
    have hSn : S.size = E.length := by rw [← hS, bs_size]
    have hTn : T.size = D.length := by rw [← hT, bs_size]
    have hne : T.toList.isEmpty = false := by
      rw [dl_empty, hDT]
      cases D with
      | nil => exact absurd rfl hz
      | cons c l => rfl
    have h1' : ∀ w1, Calls Tryz.prog 196 #[.string d, .string ⟨#[48]⟩] w1 fun e w' => e = .returned (.string T) ∧ w' = w1 := fun w1 => by rw [← hT]; exact h1 w1
    have h2' : ∀ w1, Calls Tryz.prog 197 #[.string T, .string ⟨#[48]⟩] w1 fun e w' => e = .returned (.string S) ∧ w' = w1 := fun w1 => by rw [← hS]; exact h2 w1
    have hne2 : T.toList ≠ [] := fun h => by rw [h] at hne; cases hne
    rw [← hTn, ← hSn] at hR
    rw [← hSn, ← hTn] at hr
    rw [← hTn] at hl
    obtain ⟨c, hc⟩ : ∃ c, min ((T.size : Int) - (S.size : Int)) sc = c := ⟨_, rfl⟩
    rw [hc] at hR
    have hc0 : 0 ≤ c := by omega
    have hc1 : c ≤ T.size := by omega
    have hc2 : c ≤ sc := by omega
    have HC := Lib.hid hc
    have H1 := Lib.hid h1'
    have H2 := Lib.hid h2'
    have HR := Lib.hid hR
    clear h1 h2 h1' h2' hR hc hS hT hD hE hSn hTn hz
    go_enter Tryz.func183, Tryz.ntmps183
    go_wp2_with (first
      | (go_at_call 196; refine (H1.out _).mono ?_; rintro e w' ⟨rfl, rfl⟩)
      | (go_at_call 197; refine (H2.out _).mono ?_; rintro e w' ⟨rfl, rfl⟩))
    rw [HC.out]
    have hcn : ((c.toNat : Nat) : Int) = c := by omega
    obtain ⟨k, rfl⟩ : ∃ k : Nat, c = k := ⟨c.toNat, hcn.symm⟩
    have f1 : IntKind.i64.wrap ((T.size : Int) - k) = (T.size : Int) - k := IntWalk.i64_in _ (by omega)
    have f2 : (0 : Int) ≤ (T.size : Int) - k := by omega
    have f3 : ((T.size : Int) - k).toNat = T.size - k := by omega
    have f4 : (T.size : Int) - k ≤ T.size := by omega
    have f5 : IntKind.i64.wrap (sc - k) = sc - k := IntWalk.i64_in _ (by omega)
    clear hcn
    go_region
    go_wp2_with fail
    refine bodyPost_ret (v := .agg #[.string (T.extract 0 (T.size - k)), .int .i64 (sc - k)]) (by simp [results, Tryz.results183, go_sem]) rfl ?_
    refine ⟨?_, ?_⟩
    · rw [← HR.out, ← hDT]
      simp only [Int.toNat_natCast]
      rw [Lib.extract_upto]; rfl
    · exact ((Bel.alloc w _).to_alloc _).to_drew

/-- What Read answers: the number, the error. -/
def readL (l : List UInt8) : (List UInt8 × Int) × Nat :=
  let t := Lib.cut l [46]
  if (digitsL t.1 = false ∧ ¬ (t.1 = [] ∧ t.2.2 = true)) ∨ (t.2.2 = true ∧ digitsL t.2.1 = false) then (([], 0), 17)
  else if 1000 < t.1.length + t.2.1.length then (([], 0), 19)
  else (canonL (t.1 ++ t.2.1) t.2.1.length, 0)
def RetNumE (r : (List UInt8 × Int) × Nat) (w : World) (e : Ending) (w' : World) : Prop := e = .returned (.tuple #[.agg #[.string (bs r.1.1), .int .i64 r.1.2], .int .i64 r.2]) ∧ Bel w w'
/-- bytealg's one variable holds some number. -/
def MaxT (w : World) : Prop := ∃ m, w.cell? ⟨1, 0, none⟩ = some (.int .i64 m)
theorem MaxT.bel {w w' : World} (h : MaxT w) (hb : Bel w w') : MaxT w' := by
  obtain ⟨m, h⟩ := h
  exact ⟨m, hb.keep h⟩

theorem cut_len (l : List UInt8) (c : UInt8) : (Lib.cut l [c]).1.length + (Lib.cut l [c]).2.1.length ≤ l.length := by
  unfold Lib.cut; simp; split <;> simp
  omega

set_option maxHeartbeats 2000000 in
theorem read_c (s : ByteArray) (hs : s.size ≤ 4294967280) (w : World) (hM : MaxT w) :
    Calls Tryz.prog 168 #[.string s] w (RetNumE (readL (dl s)) w) := by
  have hlen := cut_len (dl s) 46
  have hds := dl_size s
  obtain ⟨R, hR⟩ : ∃ R, readL (dl s) = R := ⟨_, rfl⟩
  rw [hR]
  obtain ⟨m, hm⟩ := hM
  have hcut := fun w1 (hM1 : MaxT w1) => Tryz.strings_Cut s ⟨#[46]⟩ hM1.choose w1 (by omega) hM1.choose_spec
  dsimp only at hcut
  unfold readL at hR
  dsimp only at hR
  obtain ⟨⟨a, b, t⟩, hab⟩ : ∃ x, Lib.cut (dl s) [46] = x := ⟨_, rfl⟩
  have hab2 : Lib.cut s.data.toList [46] = (a, b, t) := hab
  simp only [hab] at hR hlen
  simp only [hab2] at hcut
  obtain ⟨A, hA⟩ : ∃ A : ByteArray, A = bs a := ⟨_, rfl⟩
  obtain ⟨B, hB⟩ : ∃ B : ByteArray, B = bs b := ⟨_, rfl⟩
  have hA2 : dl A = a := by rw [hA]; rfl
  have hB2 : dl B = b := by rw [hB]; rfl
  have hcut' : ∀ w1, MaxT w1 → Calls Tryz.prog 181 #[.string s, .string ⟨#[46]⟩] w1 fun e w' => e = .returned (.tuple #[.string A, .string B, .bool t]) ∧ ∃ n, w' = w1.drewN n := by
    rw [hA, hB]; exact hcut
  have hAs : A.size = a.length := by rw [hA, bs_size]
  have hBs : B.size = b.length := by rw [hB, bs_size]
  have hd1 := fun w1 => ndigits_c A (by unfold maxLen; omega) w1
  have hd2 := fun w1 => ndigits_c B (by unfold maxLen; omega) w1
  obtain ⟨D, hD⟩ : ∃ D, digitsL a = D := ⟨_, rfl⟩
  obtain ⟨E, hE⟩ : ∃ E, digitsL b = E := ⟨_, rfl⟩
  rw [hA2, hD] at hd1
  rw [hB2, hE] at hd2
  rw [hD, hE, ← hAs, ← hBs] at hR
  have hab3 : (A ++ B).size = A.size + B.size := ByteArray.size_append
  have hdl : dl (A ++ B) = a ++ b := by rw [← hA2, ← hB2]; simp [dl]
  have hcan := fun w1 => canon_c (A ++ B) (by rw [hab3]; omega) B.size (by omega) (by omega) w1
  rw [hdl] at hcan
  have hAe : A.toList.isEmpty = decide (a = []) := by rw [dl_empty, hA2]; cases a <;> simp
  rw [← hAs, ← hBs] at hlen
  have H1 := Lib.hid hcut'
  have H2 := Lib.hid hd1
  have H3 := Lib.hid hd2
  have H4 := Lib.hid hcan
  have HR := Lib.hid hR
  have HM : Hid (MaxT w) := Lib.hid ⟨m, hm⟩
  have H5 := Lib.hid hab3
  clear hcut hcut' hd1 hd2 hcan hR hm hab hab2 hA hB hdl hAs hBs hab3 hD hE
  have hba : A.size + B.size ≤ 4294967280 := by omega
  clear hlen hds
  have key : ∀ em : Bool, decide (a = []) = em → Calls Tryz.prog 168 #[.string s] w (RetNumE R w) := by
    intro em hem
    have hR := HR.out
    have hAe1 : A.toList.isEmpty = em := by rw [hAe, hem]
    have hema : a = [] ↔ em = true := by rw [← hem]; simp
    simp only [hema] at hR
    have hAe2 : (A.toList = []) = (em = true) := by rw [← hAe1, List.isEmpty_iff]
    by_cases hbig : 1000 < A.size + B.size
    · have hbi : (1000 : Int) < (A.size : Int) + B.size := by omega
      rw [if_pos hbig] at hR
      have HR2 := Lib.hid hR
      clear hR HR hema hem hAe
      cases D <;> cases t <;> cases E <;> cases em
      all_goals
        simp only [Bool.false_eq_true, eq_iff_iff, iff_false, iff_true] at hAe2
        go_enter Tryz.func168, Tryz.ntmps168
        go_wp2_with (first
          | (go_at_call 181; refine (H1.out _ (HM.out.bel (by first | exact Bel.alloc _ _ | exact Bel.refl _))).mono ?_; rintro e w' ⟨rfl, n, rfl⟩)
          | ((with_reducible refine (H2.out _).mono ?_); rintro e w' ⟨rfl, rfl⟩)
          | ((with_reducible refine (H3.out _).mono ?_); rintro e w' ⟨rfl, rfl⟩))
        have hr := HR2.out
        simp at hr
        refine bodyPost_ret (v := .tuple #[.agg #[.string (bs R.1.1), .int .i64 R.1.2], .int .i64 R.2]) (by simp [results, Tryz.results168, go_sem, ← hr, bs]) rfl ⟨rfl, by (repeat (first | exact Bel.refl _ | assumption | refine Bel.to_drewN ?_ _ | refine Bel.to_drew ?_ | refine Bel.to_setCell ?_ (by first | exact Nat.le_refl _ | (simp; done) | (simp; omega) | omega) _ | refine Bel.to_alloc ?_ _ | refine Bel.trans ?_ (by assumption)))⟩
    · have hbi : (A.size : Int) + B.size ≤ 1000 := by omega
      rw [if_neg hbig] at hR
      obtain ⟨C, hC⟩ : ∃ C, canonL (a ++ b) B.size = C := ⟨_, rfl⟩
      have h4 := fun w1 => H4.out w1
      rw [hC] at h4 hR
      have H6 := Lib.hid h4
      have HR2 := Lib.hid hR
      clear hR HR hema hem hAe h4 H4 hC
      cases D <;> cases t <;> cases E <;> cases em
      all_goals
        simp only [Bool.false_eq_true, eq_iff_iff, iff_false, iff_true] at hAe2
        go_enter Tryz.func168, Tryz.ntmps168
        go_wp2_with (first
          | (go_at_call 181; refine (H1.out _ (HM.out.bel (by first | exact Bel.alloc _ _ | exact Bel.refl _))).mono ?_; rintro e w' ⟨rfl, n, rfl⟩)
          | ((with_reducible refine (H2.out _).mono ?_); rintro e w' ⟨rfl, rfl⟩)
          | ((with_reducible refine (H3.out _).mono ?_); rintro e w' ⟨rfl, rfl⟩)
          | (go_at_call 183; refine (H6.out _).mono ?_; rintro e w2 ⟨rfl, hb⟩; obtain ⟨hc, hf⟩ := bcell hb; have hz : w.heap.size < w2.heap.size := by have := hb.size; simp at this; omega))
        have hr := HR2.out
        simp at hr
        refine bodyPost_ret (v := .tuple #[.agg #[.string (bs R.1.1), .int .i64 R.1.2], .int .i64 R.2]) (by first | (simp [results, Tryz.results168, go_sem, ← hr, bs]; done) | (simp [results, Tryz.results168, go_sem, ← hr, hc]; done) | (simp [results, Tryz.results168, go_sem, ← hr, hc, hz]; trace_state; fail)) rfl ⟨rfl, by first | ((repeat (first | exact Bel.refl _ | assumption | refine Bel.to_drewN ?_ _ | refine Bel.to_drew ?_ | refine Bel.to_setCell ?_ (by first | exact Nat.le_refl _ | (simp; done) | (simp; omega) | omega) _ | refine Bel.to_alloc ?_ _ | refine Bel.trans ?_ (by assumption))); done) | (have hb' : Bel _ _ := hb; refine Bel.to_setCell (Bel.to_setCell (Bel.trans ?_ hb) (Nat.le_refl _) _) (Nat.le_refl _) _; (repeat (first | exact Bel.refl _ | assumption | refine Bel.to_drewN ?_ _ | refine Bel.to_drew ?_ | refine Bel.to_setCell ?_ (by first | exact Nat.le_refl _ | (simp; done) | (simp; omega) | omega) _ | refine Bel.to_alloc ?_ _ | refine Bel.trans ?_ (by assumption))))⟩
  exact key _ rfl
end Go.Proofs.YtchbhcjhoocjaaaGreatDoor

namespace Go.Proofs.YtchbhcjhoocjaaaGreatDoor
open Go.RowKit
attribute [local go_sem] eql_num neq_num eqGuard_num

/-- What the walks of number ask of the world. -/
def EnvN (w : World) : Prop := ErrT w ∧ MaxT w
theorem EnvN.bel {w w' : World} (h : EnvN w) (hb : Bel w w') : EnvN w' := ⟨hb.keep h.1, h.2.bel hb⟩

/-- What Canon answers: the one form, or why it is no number. -/
def canonE (l : List UInt8) (sc : Int) : (List UInt8 × Int) × Nat := if checkN l sc = 0 then (canonL l sc, 0) else (([], 0), checkN l sc)
theorem checkN_zero {l : List UInt8} {sc : Int} (h : checkN l sc = 0) : l.all isDig = true ∧ l ≠ [] ∧ l.length ≤ 1000 ∧ 0 ≤ sc ∧ sc ≤ 1000 := by
  unfold checkN at h
  split at h
  · cases h
  · rename_i h1
    simp only [Bool.not_eq_false] at h1
    unfold digitsL at h1
    rw [Bool.and_eq_true] at h1
    split at h
    · cases h
    · split at h
      · cases h
      · exact ⟨h1.1, by intro e; subst e; simp at h1, by omega, by omega, by omega⟩

def sameC (l : List UInt8) (sc : Int) : Bool := decide (canonL l sc = (l, sc))
/-- Is it a number in its one form? -/
def rightN (l : List UInt8) (sc : Int) : Bool := decide (checkN l sc = 0) && sameC l sc

end Go.Proofs.YtchbhcjhoocjaaaGreatDoor

namespace Go.Proofs.YtchbhcjhoocjaaaGreatDoor
open Go.RowKit

theorem repeatL_48 (m : Nat) : Lib.repeatL [48] m = List.replicate m 48 := by
  induction m with
  | zero => rfl
  | succ m ih => simp [Lib.repeatL] at ih ⊢; simp [List.replicate_succ, ih]
theorem repeat_c (m : Nat) (hm : m ≤ 4294967280) (w : World) :
    Calls Tryz.prog 186 #[.string ⟨#[48]⟩, .int .i64 m] w fun e w' => e = .returned (.string (bs (List.replicate m 48))) ∧ Bel w w' :=
  (Tryz.strings_Repeat ⟨#[48]⟩ m w (by omega) (by show 1 * m ≤ _; omega)).mono fun e w' ⟨he, hw⟩ => ⟨by rw [he, ← repeatL_48]; rfl, hw⟩
theorem repeat_i (m : Int) (h0 : 0 ≤ m) (hm : m ≤ 4294967280) (w : World) :
    Calls Tryz.prog 186 #[.string ⟨#[48]⟩, .int .i64 m] w fun e w' => e = .returned (.string (bs (List.replicate m.toNat 48))) ∧ Bel w w' := by
  obtain ⟨n, rfl⟩ := Int.eq_ofNat_of_zero_le h0
  exact repeat_c n (by omega) w

theorem add_str (a b : ByteArray) (h : a.size + b.size ≤ 4294967296) (t : TypeId) (w : World) : (binOp .add t (.string a) (.string b)).run Tryz.prog w = .ok (.string (a ++ b)) w := by
  simp only [binOp]
  exact run_string_add_sum w a b (by omega)

/-- The text of a number in its one form. -/
def textC (l : List UInt8) (sc : Int) : List UInt8 :=
  if sc = 0 then l
  else
    let s := List.replicate (max 0 (sc + 1 - l.length)).toNat 48 ++ l
    s.take (s.length - sc.toNat) ++ 46 :: s.drop (s.length - sc.toNat)
def textE (l : List UInt8) (sc : Int) : List UInt8 × Nat := if checkN l sc = 0 then (textC (canonL l sc).1 (canonL l sc).2, 0) else ([], checkN l sc)
def RetTextE (r : List UInt8 × Nat) (w : World) (e : Ending) (w' : World) : Prop := e = .returned (.tuple #[.string (bs r.1), .int .i64 r.2]) ∧ Bel w w'

theorem text_join (X : ByteArray) (k : Nat) : X.extract 0 k ++ ⟨#[46]⟩ ++ X.extract k X.size = bs ((dl X).take k ++ 46 :: (dl X).drop k) := by
  rw [Lib.extract_upto, Lib.extract_from]
  apply ByteArray.ext
  apply Array.ext'
  simp [bs, dl]

set_option maxHeartbeats 4000000 in
theorem ntext_c (d : ByteArray) (hs : d.size ≤ maxLen) (sc : Int) (w : World) (hE : EnvN w) :
    Calls Tryz.prog 169 #[.agg #[.string d, .int .i64 sc]] w (RetTextE (textE (dl d) sc) w) := by
  have h1 := fun w1 => ncheck_c d hs sc w1
  have hcan := @canon_c d
  have hcc := canon_can (dl d)
  obtain ⟨R, hR⟩ : ∃ R, textE (dl d) sc = R := ⟨_, rfl⟩
  rw [hR]
  unfold textE at hR
  obtain ⟨n, hn⟩ : ∃ n, checkN (dl d) sc = n := ⟨_, rfl⟩
  have hz := @checkN_zero (dl d) sc
  have hds := dl_size d
  rw [hn] at h1 hR hz
  have H1 := Lib.hid h1
  have HE := Lib.hid hE
  clear h1 hn hE
  by_cases h0 : n = 0
  · obtain ⟨hd, _, hl, hs0, hs1⟩ := hz h0
    rw [if_pos h0] at hR
    subst h0
    obtain ⟨S, rfl⟩ := Int.eq_ofNat_of_zero_le hs0
    have h2 := fun w1 => hcan (by omega) S hs0 (by omega) w1
    obtain ⟨C1, C2, hC, _, _, hC2, _, hC1⟩ := hcc S hd (by omega)
    rw [hC] at h2 hR
    dsimp only at hR
    obtain ⟨B, hB⟩ : ∃ B : ByteArray, B = bs C1 := ⟨_, rfl⟩
    have hB1 : dl B = C1 := by rw [hB]; rfl
    have h2' : ∀ w1, Calls Tryz.prog 183 #[.agg #[.string d, .int .i64 S]] w1 fun e w' => e = .returned (.agg #[.string B, .int .i64 C2]) ∧ Bel w1 w' := by rw [hB]; exact h2
    have hBs : B.size = C1.length := by rw [hB, bs_size]
    rw [← hBs] at hC1
    rw [← hB1] at hR
    have H2 := Lib.hid h2'
    have HR := Lib.hid hR
    have hB3 : B.size ≤ 1000 := by omega
    have hC3 : (C2 : Int) ≤ 1000 := by omega
    clear h2 h2' hR hC hcan hz hds hl hs1 hs hcc hd hB hB1 hC1 hBs hC2 hs0
    by_cases hc0 : C2 = 0
    · subst hc0
      go_enter Tryz.func169, Tryz.ntmps169
      go_wp2_with fail
      refine (H1.out _).mono ?_
      rintro e w1 ⟨v, rfl, ⟨_, rfl⟩ | ⟨h, _⟩, hb1⟩
      · obtain ⟨hc, hf⟩ := bcell hb1
        have hz : w.heap.size < w1.heap.size := by have := hb1.size; simp at this; omega
        go_wp2_with fail
        refine (H2.out _).mono ?_
        rintro e w2 ⟨rfl, hb2⟩
        obtain ⟨hc2, hf2⟩ := bcell hb2
        have hz2 : w1.heap.size ≤ w2.heap.size := hb2.size
        go_wp2_with fail
        go_ret2
        refine ⟨?_, by (repeat (first | exact Bel.refl _ | assumption | refine Bel.to_drewN ?_ _ | refine Bel.to_drew ?_ | refine Bel.to_setCell ?_ (by first | exact Nat.le_refl _ | (simp; done) | (simp; omega) | omega) _ | refine Bel.to_alloc ?_ _ | refine Bel.trans ?_ (by assumption)))⟩
        rw [← HR.out]; rfl
      · exact absurd rfl h
    · go_enter Tryz.func169, Tryz.ntmps169
      go_wp2_with fail
      refine (H1.out _).mono ?_
      rintro e w1 ⟨v, rfl, ⟨_, rfl⟩ | ⟨h, _⟩, hb1⟩
      · obtain ⟨hc, hf⟩ := bcell hb1
        have hz : w.heap.size < w1.heap.size := by have := hb1.size; simp at this; omega
        have hcz : ((C2 : Int) == 0) = false := by simpa using hc0
        go_wp2_with fail
        refine (H2.out _).mono ?_
        rintro e w2 ⟨rfl, hb2⟩
        obtain ⟨hc2, hf2⟩ := bcell hb2
        have hz2 : w1.heap.size ≤ w2.heap.size := hb2.size
        have hz3 : w.heap.size < w2.heap.size := by omega
        have HC0 := Lib.hid hc0
        clear hc0
        go_wp2_with fail
        have k0 : ((w2.setCell ⟨w.heap.size, 0, none⟩ (.string B)).setCell ⟨w.heap.size, 1, none⟩ (.int .i64 C2)).cell? ⟨w.heap.size, 0, none⟩ = some (.string B) := by go_simp
        have k1 : ((w2.setCell ⟨w.heap.size, 0, none⟩ (.string B)).setCell ⟨w.heap.size, 1, none⟩ (.int .i64 C2)).cell? ⟨w.heap.size, 1, none⟩ = some (.int .i64 C2) := by go_simp
        obtain ⟨W0, hW0⟩ : ∃ W0, (w2.setCell ⟨w.heap.size, 0, none⟩ (.string B)).setCell ⟨w.heap.size, 1, none⟩ (.int .i64 C2) = W0 := ⟨_, rfl⟩
        have hb0 : Bel w W0 := by rw [← hW0]; (repeat (first | exact Bel.refl _ | assumption | refine Bel.to_drewN ?_ _ | refine Bel.to_drew ?_ | refine Bel.to_setCell ?_ (by first | exact Nat.le_refl _ | (simp; done) | (simp; omega) | omega) _ | refine Bel.to_alloc ?_ _ | refine Bel.trans ?_ (by assumption)))
        rw [hW0] at k0 k1 ⊢
        clear hW0 hc2 hf2 hc hf hz hz2 hz3 hb1 hb2
        have HB0 := Lib.hid hb0
        clear hb0
        obtain ⟨M, hM⟩ : ∃ M : Int, max 0 ((C2 : Int) + 1 - (B.size : Int)) = M := ⟨_, rfl⟩
        have hM0 : 0 ≤ M := by omega
        have hM1 : M ≤ 1001 := by omega
        have hM2 : (C2 : Int) < M + B.size := by omega
        obtain ⟨m, rfl⟩ := Int.eq_ofNat_of_zero_le hM0
        have h4 := fun w1 => repeat_c m (by omega) w1
        obtain ⟨Z, hZ⟩ : ∃ Z : ByteArray, Z = bs (List.replicate m 48) := ⟨_, rfl⟩
        rw [← hZ] at h4
        have hZs : Z.size = m := by rw [hZ, bs_size, List.length_replicate]
        have hZl : dl Z = List.replicate m 48 := by rw [hZ]; rfl
        have hr := HR.out
        unfold textC at hr
        rw [if_neg (by have := HC0.out; omega), dl_size, hM] at hr
        simp only [Int.toNat_natCast] at hr
        rw [← hZl] at hr
        have H4 := Lib.hid h4
        have HRR := Lib.hid hr
        have HM := Lib.hid hM
        have HZ := Lib.hid hZs
        have f1 : IntKind.i64.wrap ((C2 : Int) + 1) = (C2 : Int) + 1 := IntWalk.i64_in _ (by omega)
        have f2 : IntKind.i64.wrap ((C2 : Int) + 1 - (B.size : Int)) = (C2 : Int) + 1 - (B.size : Int) := IntWalk.i64_in _ (by omega)
        have f3 : ¬ (9223372036854775807 < Z.size + B.size) := by omega
        clear h4 hr hZ hZs hZl HR
        go_region_held3 (fun w' => w'.cell? ⟨w.heap.size, 0, none⟩ = some (.string B) ∧ w'.cell? ⟨w.heap.size, 1, none⟩ = some (.int .i64 C2) ∧ Bel W0 w')
          (((try dsimp only); (try go_split_ands); (refine ⟨?_, ?_, ?_⟩ <;> first | assumption | exact Bel.keep (by assumption) (by assumption) | ((repeat (first | exact Bel.refl _ | assumption | refine Bel.to_drewN ?_ _ | refine Bel.to_drew ?_ | refine Bel.to_setCell ?_ (by first | exact Nat.le_refl _ | (simp; done) | (simp; omega) | omega) _ | refine Bel.to_alloc ?_ _ | refine Bel.trans ?_ (by assumption))); done) | (go_keep; done))))
          (first
            | (go_at_call 186; refine (H4.out _).mono ?_; rintro e w3 ⟨rfl, hb3⟩))
        obtain ⟨X, hX⟩ : ∃ X, Z ++ B = X := ⟨_, rfl⟩
        have hXs : X.size = m + B.size := by rw [← hX, ByteArray.size_append, HZ.out]
        have hXl : dl Z ++ dl B = dl X := by rw [← hX]; simp [dl]
        have hr := HRR.out
        rw [hXl, dl_size] at hr
        obtain ⟨k, hk⟩ : ∃ k, X.size - C2 = k := ⟨_, rfl⟩
        have hki : (X.size : Int) - C2 = k := by omega
        rw [hk] at hr
        have HR3 := Lib.hid hr
        have g0 : (C2 : Int) ≤ X.size := by omega
        have g1 : k ≤ X.size := by omega
        have g2 : X.size ≤ 4294967296 := by omega
        have HK := Lib.hid hki
        go_split_ands
        rename_i q0 q1 q2
        rw [hX]
        clear hr hXl hX hXs hki hk f1 f2 f3 hM2 hM0 hM1 k0 k1 HM HZ HRR H1 H2 H4
        go_wp2_with fail
        rw [HK.out]
        have e1 : (X.extract 0 k).size = k := by simp; omega
        have e2 : (X.extract k X.size).size = X.size - k := by simp
        have e3 : ((X.extract 0 k) ++ ⟨#[46]⟩).size = k + 1 := by rw [ByteArray.size_append, e1]; rfl
        have g3 : ¬ (9223372036854775807 < (X.extract 0 k).size + 1) := by omega
        have g4 : ¬ (9223372036854775807 < ((X.extract 0 k) ++ ⟨#[46]⟩ : ByteArray).size + (X.extract k X.size).size) := by omega
        have g5 : (0 : Int) ≤ k := by omega
        have g6 : (k : Int) ≤ X.size := by omega
        go_region
        go_wp2_with fail
        go_ret2
        refine ⟨?_, Bel.trans HB0.out (Bel.to_drew (by assumption))⟩
        rw [← HR3.out, text_join]
        rfl
      · exact absurd rfl h
  · rw [if_neg h0] at hR
    have HR := Lib.hid hR
    clear hR hcan hz hds hcc
    go_enter Tryz.func169, Tryz.ntmps169
    go_wp2_with fail
    refine (H1.out _).mono ?_
    rintro e w1 ⟨v, rfl, ⟨h, _⟩ | ⟨h, b, rfl, hcb⟩, hb1⟩
    · exact absurd h h0
    · have h3 := told_c _ n w1 (HE.out.bel ((Bel.alloc w _).trans hb1)).1 (.inr ⟨h, b, rfl, hcb⟩)
      have H3 := Lib.hid h3
      clear h3 hcb
      go_wp2_with fail
      refine H3.out.mono ?_
      rintro e w2 ⟨rfl, hb2⟩
      go_wp2_with fail
      go_ret2
      refine ⟨?_, by (repeat (first | exact Bel.refl _ | assumption | refine Bel.to_drewN ?_ _ | refine Bel.to_drew ?_ | refine Bel.to_setCell ?_ (by first | exact Nat.le_refl _ | (simp; done) | (simp; omega) | omega) _ | refine Bel.to_alloc ?_ _ | refine Bel.trans ?_ (by assumption)))⟩
      rw [← HR.out]; rfl
end Go.Proofs.YtchbhcjhoocjaaaGreatDoor
