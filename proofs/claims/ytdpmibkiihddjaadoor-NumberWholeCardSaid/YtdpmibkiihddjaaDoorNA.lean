/-
  Plain functions that say what the layer number computes: no program in sight.
-/
import Derived.Lib.TrimByte
import Derived.Lib.CutLaws
import Derived.Test.YtdpmibkiihddjaaDoorU
namespace Go.Proofs.YtdpmibkiihddjaaDoor
open Go.Lib

def isDig (c : UInt8) : Bool := decide (48 ≤ c.toNat ∧ c.toNat ≤ 57)
/-- Digits alone, one at least. -/
def digitsL (l : List UInt8) : Bool := l.all isDig && !l.isEmpty
/-- What is wrong with a number; 0: nothing. -/
def checkN (l : List UInt8) (sc : Int) : Nat :=
  if digitsL l = false then 17 else if 1000 < l.length then 19 else if sc < 0 ∨ 1000 < sc then 3 else 0

/-- A number's one form, as the program makes it. -/
def canonL (l : List UInt8) (sc : Int) : List UInt8 × Int :=
  if trimLeftB l 48 = [] then ([48], 0)
  else ((trimLeftB l 48).take ((trimLeftB l 48).length - (min (((trimLeftB l 48).length : Int) - (trimRightB (trimLeftB l 48) 48).length) sc).toNat), sc - min (((trimLeftB l 48).length : Int) - (trimRightB (trimLeftB l 48) 48).length) sc)

/-- .. as the document does: noughts ahead, but for the last digit. -/
def rstrip : List UInt8 → List UInt8
  | [] => []
  | [c] => [c]
  | c :: d :: l => if c = 48 then rstrip (d :: l) else c :: d :: l
/-- Noughts behind, turned about: as many as the scale. -/
def rback : List UInt8 → Nat → List UInt8 × Nat
  | [], n => ([], n)
  | l, 0 => (l, 0)
  | c :: l, n + 1 => if c = 48 ∧ c :: l ≠ [48] then rback l n else (c :: l, n + 1)
def rcanonL (l : List UInt8) (sc : Nat) : List UInt8 × Nat :=
  let r := rback (rstrip l).reverse sc
  (r.1.reverse, if r.1 = [48] then 0 else r.2)

theorem rstrip_drop : ∀ l : List UInt8, l ≠ [] → rstrip l = if trimLeftB l 48 = [] then [48] else trimLeftB l 48
  | [], h => absurd rfl h
  | [c], _ => by
    by_cases hc : c = 48
    · subst hc; rfl
    · have : trimLeftB [c] 48 = [c] := by simp [trimLeftB, hc]
      rw [this]; simp [rstrip]
  | c :: d :: l, _ => by
    by_cases hc : c = 48
    · subst hc
      have : trimLeftB (48 :: d :: l) 48 = trimLeftB (d :: l) 48 := by simp [trimLeftB]
      rw [this, rstrip, if_pos rfl]
      exact rstrip_drop (d :: l) (by simp)
    · have : trimLeftB (c :: d :: l) 48 = c :: d :: l := by simp [trimLeftB, hc]
      rw [this, rstrip, if_neg hc]; simp

theorem rback_drop : ∀ (r : List UInt8) (n : Nat), (∀ x, r.getLast? = some x → x ≠ 48) → rback r n = (r.drop (min (r.takeWhile (· == 48)).length n), n - min (r.takeWhile (· == 48)).length n)
  | [], n, _ => by simp [rback]
  | c :: l, 0, _ => by simp [rback]
  | c :: l, n + 1, h => by
    by_cases hc : c = 48
    · subst hc
      have hl : l ≠ [] := by
        intro e; subst e
        exact h 48 rfl rfl
      have hne : (48 : UInt8) :: l ≠ [48] := by simpa using hl
      have h2 : ∀ x, l.getLast? = some x → x ≠ 48 := fun x hx => h x (by rw [List.getLast?_cons, hx]; rfl)
      rw [rback, if_pos ⟨rfl, hne⟩, rback_drop l n h2]
      simp [Nat.succ_min_succ]
    · rw [rback, if_neg (fun h => hc h.1)]
      simp [hc]

theorem dropWhile_head (p : UInt8 → Bool) (l : List UInt8) (x : UInt8) (h : (l.dropWhile p).head? = some x) : p x = false := by
  induction l with
  | nil => cases h
  | cons c l ih =>
    rw [List.dropWhile_cons] at h
    split at h
    · exact ih h
    · rename_i hc
      simp at h
      rw [← h]; simpa using hc

/-- The program's one form is the document's. -/
theorem canon_same (l : List UInt8) (h : l ≠ []) (sc : Nat) : canonL l sc = ((rcanonL l sc).1, ((rcanonL l sc).2 : Int)) := by
  unfold rcanonL canonL
  rw [rstrip_drop l h]
  by_cases hz : trimLeftB l 48 = []
  · rw [if_pos hz, if_pos hz]
    cases sc with
    | zero => rfl
    | succ n => rfl
  · rw [if_neg hz, if_neg hz]
    obtain ⟨d, hd⟩ : ∃ d, trimLeftB l 48 = d := ⟨_, rfl⟩
    have hhead : ∀ x, d.head? = some x → x ≠ 48 := by
      intro x hx
      rw [← hd] at hx
      have := dropWhile_head _ l x hx
      intro e; subst e; simp at this
    rw [hd] at hz ⊢
    have hlast : ∀ x, d.reverse.getLast? = some x → x ≠ 48 := fun x hx => hhead x (by rw [List.getLast?_reverse] at hx; exact hx)
    rw [rback_drop d.reverse sc hlast]
    obtain ⟨tw, htw⟩ : ∃ tw, (d.reverse.takeWhile (· == 48)).length = tw := ⟨_, rfl⟩
    have hlen : (trimRightB d 48).length = d.length - tw := by
      unfold trimRightB
      have h1 : (d.reverse.takeWhile (· == 48)).length + (d.reverse.dropWhile (· == 48)).length = d.length := by
        rw [← List.length_append, List.takeWhile_append_dropWhile, List.length_reverse]
      rw [List.length_reverse]; omega
    have htl : tw ≤ d.length := by
      have h1 : (d.reverse.takeWhile (· == 48)).length + (d.reverse.dropWhile (· == 48)).length = d.length := by
        rw [← List.length_append, List.takeWhile_append_dropWhile, List.length_reverse]
      omega
    rw [htw, hlen]
    have hmin : min ((d.length : Int) - ((d.length - tw : Nat) : Int)) (sc : Int) = ((min tw sc : Nat) : Int) := by omega
    rw [hmin]
    have hrev : (d.reverse.drop (min tw sc)).reverse = d.take (d.length - min tw sc) := by
      rw [List.drop_reverse, List.reverse_reverse]
    have hne : d.reverse.drop (min tw sc) ≠ [48] := by
      intro e
      have h1 : d.take (d.length - min tw sc) = [48] := by rw [← hrev, e]; rfl
      have h2 : d.head? = some 48 := by
        cases hdd : d with
        | nil => exact absurd hdd hz
        | cons c r =>
          rw [hdd] at h1
          cases hk : ((c :: r).length - min tw sc) with
          | zero => rw [hk] at h1; simp at h1
          | succ k => rw [hk, List.take_succ_cons] at h1; injection h1 with h1; rw [h1]; rfl
      exact hhead 48 h2 rfl
    simp only [if_neg hne]
    rw [hrev]
    refine Prod.ext ?_ ?_
    · simp
    · show (sc : Int) - ((min tw sc : Nat) : Int) = ((sc - min tw sc : Nat) : Int)
      omega
end Go.Proofs.YtdpmibkiihddjaaDoor
