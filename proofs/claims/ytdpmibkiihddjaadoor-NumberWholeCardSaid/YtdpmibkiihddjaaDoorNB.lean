/-
  Plain laws of numbers: a number's value; the one form is the only one of a value; digits, sums, and what is more, by values: no program in sight.
-/
import Derived.Test.YtdpmibkiihddjaaDoorNA
import Derived.Lib.Bytealg
namespace Go.Proofs.YtdpmibkiihddjaaDoor
open Go.Lib

def dg (c : UInt8) : Nat := c.toNat - 48
/-- The value of digits, the lowest one first. -/
def valR : List UInt8 → Nat
  | [] => 0
  | c :: l => dg c + 10 * valR l
def val (l : List UInt8) : Nat := valR l.reverse
/-- A number's value, times 10 to the power of 1000. -/
def V (l : List UInt8) (sc : Nat) : Nat := 10 ^ (1000 - sc) * val l

theorem dg_lt {c : UInt8} (h : isDig c = true) : dg c < 10 := by
  unfold isDig at h; unfold dg; simp only [decide_eq_true_eq] at h; omega
theorem dg_inj {c d : UInt8} (hc : isDig c = true) (hd : isDig d = true) (h : dg c = dg d) : c = d := by
  unfold isDig at hc hd; unfold dg at h; simp only [decide_eq_true_eq] at hc hd
  exact UInt8.toNat_inj.1 (by omega)
theorem dg_zero {c : UInt8} (hc : isDig c = true) (h : dg c = 0) : c = 48 := dg_inj hc (by decide) h
theorem isDig48 : isDig 48 = true := by decide

theorem valR_append (a b : List UInt8) : valR (a ++ b) = valR a + 10 ^ a.length * valR b := by
  induction a with
  | nil => simp [valR]
  | cons c l ih =>
    simp only [List.cons_append, valR, ih, List.length_cons, Nat.pow_succ]
    rw [Nat.mul_add, ← Nat.add_assoc, ← Nat.mul_assoc, Nat.mul_comm 10 (10 ^ l.length)]
theorem valR_lt : ∀ l : List UInt8, l.all isDig = true → valR l < 10 ^ l.length
  | [], _ => by simp [valR]
  | c :: l, h => by
    rw [List.all_cons, Bool.and_eq_true] at h
    have h1 := dg_lt h.1
    have h2 := valR_lt l h.2
    simp only [valR, List.length_cons, Nat.pow_succ]
    omega
theorem valR_zeros (k : Nat) : valR (List.replicate k 48) = 0 := by
  induction k with
  | zero => rfl
  | succ k ih => rw [List.replicate_succ, valR, ih]; rfl
theorem valR_zeros_append (k : Nat) (l : List UInt8) : valR (List.replicate k 48 ++ l) = 10 ^ k * valR l := by
  rw [valR_append, valR_zeros]; simp
theorem valR_append_zeros (l : List UInt8) (k : Nat) : valR (l ++ List.replicate k 48) = valR l := by
  rw [valR_append, valR_zeros]; simp
theorem val_append_zeros (l : List UInt8) (k : Nat) : val (l ++ List.replicate k 48) = 10 ^ k * val l := by
  unfold val; rw [List.reverse_append, List.reverse_replicate, valR_zeros_append]
theorem val_zeros_append (l : List UInt8) (k : Nat) : val (List.replicate k 48 ++ l) = val l := by
  unfold val; rw [List.reverse_append, List.reverse_replicate, valR_append_zeros]
theorem val_append (a b : List UInt8) : val (a ++ b) = val b + 10 ^ b.length * val a := by
  unfold val; rw [List.reverse_append, valR_append, List.length_reverse]
theorem val_cons (c : UInt8) (l : List UInt8) : val (c :: l) = val l + 10 ^ l.length * dg c := by
  have := val_append [c] l
  rw [List.singleton_append] at this
  rw [this]; simp [val, valR]
theorem val_lt (l : List UInt8) (h : l.all isDig = true) : val l < 10 ^ l.length := by
  have := valR_lt l.reverse (by rw [List.all_reverse]; exact h)
  rwa [List.length_reverse] at this

/-- A digit of a value. -/
theorem valR_digit : ∀ (l : List UInt8) (_ : l.all isDig = true) (k : Nat), valR l / 10 ^ k % 10 = dg (l.getD k 48)
  | [], _, k => by simp [valR, dg]
  | c :: l, h, 0 => by
    rw [List.all_cons, Bool.and_eq_true] at h
    have := dg_lt h.1
    simp [valR]; omega
  | c :: l, h, k + 1 => by
    rw [List.all_cons, Bool.and_eq_true] at h
    have h1 := dg_lt h.1
    rw [Nat.pow_succ, Nat.mul_comm, ← Nat.div_div_eq_div_mul, show valR (c :: l) / 10 = valR l from by simp [valR]; omega, valR_digit l h.2 k]
    simp

/-- Values are the same just if the digits are, of as many. -/
theorem valR_inj : ∀ (a b : List UInt8), a.all isDig = true → b.all isDig = true → a.length = b.length → valR a = valR b → a = b
  | [], [], _, _, _, _ => rfl
  | [], _ :: _, _, _, h, _ => by simp at h
  | _ :: _, [], _, _, h, _ => by simp at h
  | c :: a, d :: b, ha, hb, hl, h => by
    rw [List.all_cons, Bool.and_eq_true] at ha hb
    have h1 := dg_lt ha.1
    have h2 := dg_lt hb.1
    simp only [valR] at h
    have e1 : dg c = dg d := by omega
    have e2 : valR a = valR b := by omega
    rw [dg_inj ha.1 hb.1 e1, valR_inj a b ha.2 hb.2 (by simpa using hl) e2]
theorem val_inj (a b : List UInt8) (ha : a.all isDig = true) (hb : b.all isDig = true) (hl : a.length = b.length) (h : val a = val b) : a = b := by
  have := valR_inj a.reverse b.reverse (by rw [List.all_reverse]; exact ha) (by rw [List.all_reverse]; exact hb) (by simpa using hl) h
  exact List.reverse_inj.1 this

theorem val_ge (c : UInt8) (l : List UInt8) (hc : isDig c = true) (h : c ≠ 48) : 10 ^ l.length ≤ val (c :: l) := by
  rw [val_cons]
  have : 1 ≤ dg c := by
    rcases Nat.eq_zero_or_pos (dg c) with h0 | h0
    · exact absurd (dg_zero hc h0) h
    · exact h0
  have := Nat.mul_le_mul_left (10 ^ l.length) this
  omega

/-- The one form. -/
def Can (l : List UInt8) (sc : Nat) : Prop := (l = [48] ∧ sc = 0) ∨ (l ≠ [] ∧ l.head? ≠ some 48 ∧ (0 < sc → l.getLast? ≠ some 48))

theorem val_pos {l : List UInt8} (hd : l.all isDig = true) (h : l ≠ []) (hh : l.head? ≠ some 48) : 10 ^ (l.length - 1) ≤ val l := by
  cases l with
  | nil => exact absurd rfl h
  | cons c l =>
    rw [List.all_cons, Bool.and_eq_true] at hd
    simpa using val_ge c l hd.1 (by simpa using hh)
theorem val_mod (l : List UInt8) (hd : l.all isDig = true) (h : l.getLast? ≠ some 48) (hne : l ≠ []) : val l % 10 ≠ 0 := by
  have h1 := valR_digit l.reverse (by rw [List.all_reverse]; exact hd) 0
  rw [Nat.pow_zero, Nat.div_one] at h1
  unfold val
  rw [h1]
  intro h0
  obtain ⟨c, m, hm⟩ : ∃ c m, l.reverse = c :: m := by
    cases hr : l.reverse with
    | nil => exact absurd (List.reverse_eq_nil_iff.1 hr) hne
    | cons c m => exact ⟨c, m, rfl⟩
  have hl : l.getLast? = some c := by rw [← List.head?_reverse, hm]; rfl
  have hc : isDig c = true := by
    have : c ∈ l := by rw [← List.mem_reverse, hm]; simp
    exact List.all_eq_true.1 hd c this
  rw [hm, List.getD_cons_zero] at h0
  exact h (by rw [hl, dg_zero hc h0])

theorem can_len {a b : List UInt8} (ha : a.all isDig = true) (hb : b.all isDig = true) (na : a ≠ []) (nb : b ≠ []) (h1 : a.head? ≠ some 48) (h2 : b.head? ≠ some 48) (h : val a = val b) : a.length = b.length := by
  have p1 := val_pos ha na h1
  have p2 := val_pos hb nb h2
  have q1 := val_lt a ha
  have q2 := val_lt b hb
  have l1 : 0 < a.length := List.length_pos_iff.2 na
  have l2 : 0 < b.length := List.length_pos_iff.2 nb
  have r1 : a.length - 1 < b.length := (Nat.pow_lt_pow_iff_right (by omega : 1 < 10)).1 (by omega)
  have r2 : b.length - 1 < a.length := (Nat.pow_lt_pow_iff_right (by omega : 1 < 10)).1 (by omega)
  omega

theorem can_uniq_aux (l l' : List UInt8) (s s' : Nat) (hl : l.all isDig = true) (hl' : l'.all isDig = true) (h : Can l s) (h' : Can l' s') (hs : s ≤ 1000) (_hs' : s' ≤ 1000) (hle : s' ≤ s) (hV : V l s = V l' s') : l = l' ∧ s = s' := by
  unfold V at hV
  rw [show 1000 - s' = (1000 - s) + (s - s') from by omega, Nat.pow_add, Nat.mul_assoc] at hV
  have hval : val l = 10 ^ (s - s') * val l' := Nat.eq_of_mul_eq_mul_left (Nat.pow_pos (by omega)) hV
  have h48 : val [48] = 0 := rfl
  rcases h with ⟨rfl, rfl⟩ | ⟨hn, hh, ht⟩
  · obtain rfl : s' = 0 := by omega
    rcases h' with ⟨rfl, _⟩ | ⟨hn', hh', _⟩
    · exact ⟨rfl, rfl⟩
    · have := val_pos hl' hn' hh'
      have hp : 0 < 10 ^ (l'.length - 1) := Nat.pow_pos (by omega)
      rw [h48] at hval; simp at hval; omega
  · have hp := val_pos hl hn hh
    have hp0 : 0 < 10 ^ (l.length - 1) := Nat.pow_pos (by omega)
    rcases h' with ⟨rfl, rfl⟩ | ⟨hn', hh', _⟩
    · rw [h48] at hval; omega
    · by_cases hss : s = s'
      · subst hss
        rw [Nat.sub_self, Nat.pow_zero, Nat.one_mul] at hval
        exact ⟨val_inj l l' hl hl' (can_len hl hl' hn hn' hh hh' hval) hval, rfl⟩
      · have hm := val_mod l hl (ht (by omega)) hn
        obtain ⟨k, hk⟩ : ∃ k, s - s' = k + 1 := ⟨s - s' - 1, by omega⟩
        rw [hval, hk, Nat.pow_succ, Nat.mul_comm _ 10, Nat.mul_assoc, Nat.mul_mod_right] at hm
        exact absurd rfl hm
/-- The one form is the only one of a value. -/
theorem can_uniq (l l' : List UInt8) (s s' : Nat) (hl : l.all isDig = true) (hl' : l'.all isDig = true) (h : Can l s) (h' : Can l' s') (hs : s ≤ 1000) (hs' : s' ≤ 1000) (hV : V l s = V l' s') : l = l' ∧ s = s' := by
  rcases Nat.le_total s' s with hle | hle
  · exact can_uniq_aux l l' s s' hl hl' h h' hs hs' hle hV
  · obtain ⟨a, b⟩ := can_uniq_aux l' l s' s hl' hl h' h hs' hs hle hV.symm
    exact ⟨a.symm, b.symm⟩

theorem takeWhile_48 (l : List UInt8) : l.takeWhile (· == 48) = List.replicate (l.takeWhile (· == 48)).length 48 := by
  induction l with
  | nil => rfl
  | cons c l ih =>
    by_cases hc : c = 48
    · subst hc
      simp only [List.takeWhile_cons, beq_self_eq_true, if_true, List.length_cons, List.replicate_succ]
      rw [← ih]
    · simp [hc]
theorem trimLeft_spec (l : List UInt8) : ∃ k, l = List.replicate k 48 ++ trimLeftB l 48 ∧ (trimLeftB l 48).head? ≠ some 48 := by
  refine ⟨(l.takeWhile (· == 48)).length, ?_, ?_⟩
  · rw [← takeWhile_48]; exact (List.takeWhile_append_dropWhile).symm
  · intro h
    have := dropWhile_head _ l 48 h
    simp at this
theorem trimRight_spec (l : List UInt8) : ∃ k, l = trimRightB l 48 ++ List.replicate k 48 ∧ (trimRightB l 48).getLast? ≠ some 48 := by
  obtain ⟨k, h1, h2⟩ := trimLeft_spec l.reverse
  refine ⟨k, ?_, ?_⟩
  · unfold trimRightB; unfold trimLeftB at h1
    have := congrArg List.reverse h1
    rw [List.reverse_reverse, List.reverse_append, List.reverse_replicate] at this
    exact this
  · unfold trimRightB; unfold trimLeftB at h2
    rw [List.getLast?_reverse]; exact h2

/-- The program's one form is one, and of the same value. -/
theorem canon_can (l : List UInt8) (sc : Nat) (hl : l.all isDig = true) (hs : sc ≤ 1000) :
    ∃ d s : _, canonL l sc = (d, ((s : Nat) : Int)) ∧ Can d s ∧ d.all isDig = true ∧ s ≤ sc ∧ V d s = V l sc ∧ d.length ≤ max l.length 1 := by
  obtain ⟨k, hk, hh⟩ := trimLeft_spec l
  unfold canonL
  obtain ⟨d, hd⟩ : ∃ d, trimLeftB l 48 = d := ⟨_, rfl⟩
  rw [hd] at hk hh ⊢
  have hvl : val l = val d := by rw [hk, val_zeros_append]
  have hdd : d.all isDig = true := by rw [hk, List.all_append, Bool.and_eq_true] at hl; exact hl.2
  by_cases hz : d = []
  · rw [if_pos hz]
    obtain ⟨z, hz0⟩ : ∃ z : Nat, z = 0 := ⟨0, rfl⟩
    refine ⟨[48], z, by rw [hz0]; rfl, Or.inl ⟨rfl, hz0⟩, by decide, by omega, ?_, by simp; omega⟩
    unfold V
    rw [hvl, hz, show val [48] = 0 from rfl, show val [] = 0 from rfl, Nat.mul_zero, Nat.mul_zero]
  · rw [if_neg hz]
    obtain ⟨tw, ht, hlast⟩ := trimRight_spec d
    obtain ⟨t, htt⟩ : ∃ t, trimRightB d 48 = t := ⟨_, rfl⟩
    rw [htt] at ht hlast ⊢
    have hlen : d.length = t.length + tw := by rw [ht]; simp
    have htn : t ≠ [] := by
      intro e
      subst e
      cases tw with
      | zero => rw [ht] at hz; exact hz rfl
      | succ n => rw [ht] at hh; exact hh rfl
    have hmin : min ((d.length : Int) - (t.length : Int)) (sc : Int) = ((min tw sc : Nat) : Int) := by omega
    rw [hmin]
    obtain ⟨c, hc⟩ : ∃ c, min tw sc = c := ⟨_, rfl⟩
    rw [hc]
    have hsplit : d = (t ++ List.replicate (tw - c) 48) ++ List.replicate c 48 := by
      rw [List.append_assoc, List.replicate_append_replicate, show tw - c + c = tw from by omega]; exact ht
    have htake : d.take (d.length - ((c : Nat) : Int).toNat) = t ++ List.replicate (tw - c) 48 := by
      rw [hsplit, List.take_append_of_le_length (by simp; omega), List.take_of_length_le (by simp; omega)]
    refine ⟨t ++ List.replicate (tw - c) 48, sc - c, ?_, Or.inr ⟨?_, ?_, ?_⟩, ?_, Nat.sub_le _ _, ?_, ?_⟩
    · rw [htake]
      refine Prod.ext rfl ?_
      show (sc : Int) - (c : Int) = ((sc - c : Nat) : Int)
      omega
    · simp [htn]
    · intro h
      apply hh
      rw [hsplit, List.head?_append, h]; rfl
    · intro h0 h
      have : tw - c = 0 := by omega
      rw [this, List.replicate_zero, List.append_nil] at h
      exact hlast h
    · rw [hsplit, List.all_append, Bool.and_eq_true] at hdd; exact hdd.1
    · unfold V
      have h1 : val d = 10 ^ c * val (t ++ List.replicate (tw - c) 48) := by
        conv => lhs; rw [hsplit]
        exact val_append_zeros _ _
      rw [hvl, h1, ← Nat.mul_assoc, ← Nat.pow_add, show 1000 - sc + c = 1000 - (sc - c) from by omega]
    · have h1 : l.length = k + d.length := by
        have := congrArg List.length hk
        simpa using this
      simp; omega
/-- A number that is in its one form stays. -/
theorem canon_id (l : List UInt8) (sc : Nat) (hl : l.all isDig = true) (hs : sc ≤ 1000) (h : Can l sc) : canonL l sc = (l, (sc : Int)) := by
  obtain ⟨d, s, he, hc, hd, hle, hV, _⟩ := canon_can l sc hl hs
  obtain ⟨rfl, rfl⟩ := can_uniq d l s sc hd hl hc h (by omega) hs hV
  exact he
/-- One forms are the same just if the values are. -/
theorem canon_iff (l l' : List UInt8) (s s' : Nat) (hl : l.all isDig = true) (hl' : l'.all isDig = true) (hs : s ≤ 1000) (hs' : s' ≤ 1000) : canonL l s = canonL l' s' ↔ V l s = V l' s' := by
  obtain ⟨d, t, he, hc, hd, hle, hV, _⟩ := canon_can l s hl hs
  obtain ⟨d', t', he', hc', hd', hle', hV', _⟩ := canon_can l' s' hl' hs'
  rw [he, he', ← hV, ← hV']
  constructor
  · intro h
    have h1 : d = d' := congrArg Prod.fst h
    have h2 : (t : Int) = t' := congrArg Prod.snd h
    have h3 : t = t' := by omega
    rw [h1, h3]
  · intro h
    obtain ⟨rfl, rfl⟩ := can_uniq d d' t t' hd hd' hc hc' (by omega) (by omega) h
    rfl

/-- Which of two is more. -/
def cmpN (a b : Nat) : Int := if a < b then -1 else if b < a then 1 else 0

/-- Digits by place, from the highest. -/
def scanP (U W : Nat) : Nat → Int
  | 0 => 0
  | k + 1 => if U / 10 ^ k % 10 < W / 10 ^ k % 10 then -1 else if W / 10 ^ k % 10 < U / 10 ^ k % 10 then 1 else scanP U W k
theorem scanP_cmp (U W : Nat) : ∀ k, U / 10 ^ k = W / 10 ^ k → scanP U W k = cmpN U W
  | 0, h => by simp at h; subst h; simp [scanP, cmpN]
  | k + 1, h => by
    rw [Nat.pow_succ, ← Nat.div_div_eq_div_mul, ← Nat.div_div_eq_div_mul] at h
    have hp : 0 < 10 ^ k := Nat.pow_pos (by omega)
    have lt_of : ∀ {x y : Nat}, x / 10 ^ k < y / 10 ^ k → x < y := fun {x y} h => by
      rcases Nat.lt_or_ge x y with h1 | h1
      · exact h1
      · exact absurd (Nat.div_le_div_right (c := 10 ^ k) h1) (by omega)
    unfold scanP
    by_cases h1 : U / 10 ^ k % 10 < W / 10 ^ k % 10
    · have h2 : U < W := lt_of (by omega)
      rw [if_pos h1, cmpN, if_pos h2]
    · rw [if_neg h1]
      by_cases h2 : W / 10 ^ k % 10 < U / 10 ^ k % 10
      · have h3 : W < U := lt_of (by omega)
        rw [if_pos h2, cmpN, if_neg (by omega), if_pos h3]
      · rw [if_neg h2]
        exact scanP_cmp U W k (by omega)
theorem scanP_all (U W k : Nat) (hU : U < 10 ^ k) (hW : W < 10 ^ k) : scanP U W k = cmpN U W :=
  scanP_cmp U W k (by rw [Nat.div_eq_of_lt hU, Nat.div_eq_of_lt hW])

theorem cmpN_mul (c a b : Nat) (hc : 0 < c) : cmpN (c * a) (c * b) = cmpN a b := by
  unfold cmpN
  simp only [Nat.mul_lt_mul_left hc]

/-- Texts of as many digits are held against each other as their values. -/
theorem compare_val : ∀ (a b : List UInt8), a.all isDig = true → b.all isDig = true → a.length = b.length → compareBytes a b = cmpN (val a) (val b)
  | [], [], _, _, _ => rfl
  | [], _ :: _, _, _, h => by simp at h
  | _ :: _, [], _, _, h => by simp at h
  | c :: a, d :: b, ha, hb, hl => by
    rw [List.all_cons, Bool.and_eq_true] at ha hb
    have hl' : a.length = b.length := by simpa using hl
    have l1 := val_lt a ha.2
    have l2 := val_lt b hb.2
    rw [compareBytes, val_cons, val_cons, hl']
    rw [hl'] at l1
    have hlt : ∀ {x y : UInt8}, isDig x = true → isDig y = true → (x < y ↔ dg x < dg y) := fun {x y} hx hy => by
      unfold isDig at hx hy; unfold dg; simp only [decide_eq_true_eq] at hx hy
      rw [UInt8.lt_iff_toNat_lt]; omega
    obtain ⟨p, hp⟩ : ∃ p, 10 ^ b.length = p := ⟨_, rfl⟩
    rw [hp] at l1 l2 ⊢
    by_cases h1 : c < d
    · rw [if_pos h1]
      have h2 := (hlt ha.1 hb.1).1 h1
      have h3 : p * (dg c + 1) ≤ p * dg d := Nat.mul_le_mul_left p h2
      rw [Nat.mul_add, Nat.mul_one] at h3
      rw [cmpN, if_pos (by omega)]
    · rw [if_neg h1]
      by_cases h2 : d < c
      · rw [if_pos h2]
        have h2' := (hlt hb.1 ha.1).1 h2
        have h3 : p * (dg d + 1) ≤ p * dg c := Nat.mul_le_mul_left p h2'
        rw [Nat.mul_add, Nat.mul_one] at h3
        rw [cmpN, if_neg (by omega), if_pos (by omega)]
      · rw [if_neg h2, compare_val a b ha.2 hb.2 hl']
        have e : dg c = dg d := by
          have a1 : ¬ dg c < dg d := fun h => h1 ((hlt ha.1 hb.1).2 h)
          have a2 : ¬ dg d < dg c := fun h => h2 ((hlt hb.1 ha.1).2 h)
          omega
        rw [e]
        unfold cmpN
        simp only [Nat.add_lt_add_iff_right]

/-- The digits of one of two, with as many behind the point, and as many in all. -/
def levelX (a b : List UInt8) (s t : Nat) : List UInt8 :=
  List.replicate (max (a.length + (max s t - s)) (b.length + (max s t - t)) - (a.length + (max s t - s))) 48 ++ (a ++ List.replicate (max s t - s) 48)
theorem levelX_length (a b : List UInt8) (s t : Nat) : (levelX a b s t).length = max (a.length + (max s t - s)) (b.length + (max s t - t)) := by
  simp [levelX]; omega
theorem levelX_dig (a b : List UInt8) (s t : Nat) (ha : a.all isDig = true) : (levelX a b s t).all isDig = true := by
  have h48 := isDig48
  simp [levelX, List.all_append, ha, List.all_replicate, h48]
theorem levelX_val (a b : List UInt8) (s t : Nat) (hs : s ≤ 1000) (ht : t ≤ 1000) : 10 ^ (1000 - max s t) * val (levelX a b s t) = V a s := by
  unfold levelX V
  rw [val_zeros_append, val_append_zeros, ← Nat.mul_assoc, ← Nat.pow_add, show 1000 - max s t + (max s t - s) = 1000 - s from by omega]
theorem level_compare (a b : List UInt8) (s t : Nat) (ha : a.all isDig = true) (hb : b.all isDig = true) (hs : s ≤ 1000) (ht : t ≤ 1000) :
    compareBytes (levelX a b s t) (levelX b a t s) = cmpN (V a s) (V b t) := by
  rw [compare_val _ _ (levelX_dig a b s t ha) (levelX_dig b a t s hb) (by rw [levelX_length, levelX_length]; omega), ← levelX_val a b s t hs ht, ← levelX_val b a t s ht hs, Nat.max_comm t s,
    cmpN_mul _ _ _ (Nat.pow_pos (by omega))]

theorem V_lt_any (N : Nat) (l : List UInt8) (s : Nat) (hl : l.all isDig = true) (hn : l.length ≤ N) : 10 ^ (N - s) * val l < 10 ^ (N + N) := by
  have h1 := val_lt l hl
  have h2 : 10 ^ (N - s) ≤ 10 ^ N := Nat.pow_le_pow_right (by omega) (by omega)
  have h3 : 10 ^ l.length ≤ 10 ^ N := Nat.pow_le_pow_right (by omega) hn
  calc 10 ^ (N - s) * val l < 10 ^ (N - s) * 10 ^ l.length := Nat.mul_lt_mul_of_pos_left h1 (Nat.pow_pos (by omega))
    _ ≤ 10 ^ N * 10 ^ N := Nat.mul_le_mul h2 h3
    _ = 10 ^ (N + N) := (Nat.pow_add 10 N N).symm
theorem V_lt (l : List UInt8) (s : Nat) (hl : l.all isDig = true) (hn : l.length ≤ 1000) : V l s < 10 ^ (1000 + 1000) := V_lt_any 1000 l s hl hn

/-- The digit at a place, as the document's answer asks for it. -/
def ratL (l : List UInt8) (sc : Int) (p : Int) : Int :=
  let i : Int := l.length - 1 - sc - p
  if i < 0 ∨ l.length ≤ i then 0 else (l.getD i.toNat 0).toNat - 48
theorem ratL_eq (l : List UInt8) (sc : Nat) (hl : l.all isDig = true) (hs : sc ≤ 1000) (j : Nat) : ratL l sc ((j : Int) - 1000) = ((V l sc / 10 ^ j % 10 : Nat) : Int) := by
  unfold ratL V
  by_cases hj : j < 1000 - sc
  · obtain ⟨d, hd⟩ : ∃ d, 1000 - sc = j + 1 + d := ⟨1000 - sc - j - 1, by omega⟩
    have h1 : 10 ^ (1000 - sc) * val l / 10 ^ j % 10 = 0 := by
      rw [hd, Nat.pow_add, Nat.pow_add, Nat.mul_assoc, Nat.mul_assoc, Nat.mul_div_cancel_left _ (Nat.pow_pos (by omega)), Nat.pow_one, Nat.mul_mod_right]
    rw [h1]
    simp only
    rw [if_pos (by omega)]; rfl
  · obtain ⟨d, hd⟩ : ∃ d, j = 1000 - sc + d := ⟨j - (1000 - sc), by omega⟩
    have h1 : 10 ^ (1000 - sc) * val l / 10 ^ j % 10 = dg (l.reverse.getD d 48) := by
      rw [hd, Nat.pow_add, ← Nat.div_div_eq_div_mul, Nat.mul_div_cancel_left _ (Nat.pow_pos (by omega))]
      exact valR_digit l.reverse (by rw [List.all_reverse]; exact hl) d
    rw [h1]
    simp only
    by_cases hdl : d < l.length
    · rw [if_neg (by omega)]
      have h2 : l.reverse.getD d 48 = l.getD (l.length - 1 - d) 0 := by
        simp only [List.getD_eq_getElem?_getD]
        rw [List.getElem?_reverse hdl, List.getElem?_eq_getElem (by omega)]
        rfl
      rw [h2, show ((l.length : Int) - 1 - (sc : Int) - ((j : Int) - 1000)).toNat = l.length - 1 - d from by omega]
      have h3 : isDig (l.getD (l.length - 1 - d) 0) = true := by
        rw [List.getD_eq_getElem?_getD, List.getElem?_eq_getElem (by omega)]
        exact List.all_eq_true.1 hl _ (List.getElem_mem _)
      unfold isDig at h3; unfold dg; simp only [decide_eq_true_eq] at h3
      omega
    · rw [if_pos (by omega)]
      have h2 : l.reverse.getD d 48 = 48 := by
        rw [List.getD_eq_getElem?_getD, List.getElem?_eq_none (by simp; omega)]; rfl
      rw [h2]; rfl
theorem ratL_bd (l : List UInt8) (sc p : Int) (hl : l.all isDig = true) : 0 ≤ ratL l sc p ∧ ratL l sc p ≤ 9 := by
  unfold ratL
  simp only
  split
  · omega
  · rename_i h
    have h3 : isDig (l.getD ((l.length : Int) - 1 - sc - p).toNat 0) = true := by
      rw [List.getD_eq_getElem?_getD, List.getElem?_eq_getElem (by omega)]
      exact List.all_eq_true.1 hl _ (List.getElem_mem _)
    unfold isDig at h3; simp only [decide_eq_true_eq] at h3
    omega

/-- The sum of two texts' last k digits: what is written, and what is carried. -/
def addR : List UInt8 → List UInt8 → Nat → List UInt8 × Nat
  | c :: a, d :: b, k => let r := addR a b ((dg c + dg d + k) / 10); (UInt8.ofNat (48 + (dg c + dg d + k) % 10) :: r.1, r.2)
  | _, _, k => ([], k)
theorem digit_dig (n : Nat) (h : n < 10) : isDig (UInt8.ofNat (48 + n)) = true ∧ dg (UInt8.ofNat (48 + n)) = n := by
  have : (UInt8.ofNat (48 + n)).toNat = 48 + n := by rw [UInt8.toNat_ofNat']; omega
  unfold isDig dg
  rw [this]
  exact ⟨by simp; omega, by omega⟩
end Go.Proofs.YtdpmibkiihddjaaDoor
