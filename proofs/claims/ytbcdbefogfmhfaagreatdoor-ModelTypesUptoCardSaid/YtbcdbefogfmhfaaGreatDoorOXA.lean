/-
  order (plain): things that need others, laid one behind the other; what is laid is told by the needs alone.
  order: rows of numbers in memory; the walks of right, Contains (of numbers).
  order: the queue's methods.
  order: the heap (as a bag).
-/
import Derived.Test.YtbcdbefogfmhfaaGreatDoorMB
import Derived.Test.YtbcdbefogfmhfaaGreatDoorMK
import Derived.Test.YtbcdbefogfmhfaaGreatDoorKT
import Derived.Deep.RegionHeld3
import Derived.BigQuiet
import Derived.Deep.QuietTactic
import Derived.Deep.AppendLies
import Derived.Deep.RegionLaw
import Derived.Deep.DeepCutAuto
namespace Go.Proofs.YtbcdbefogfmhfaaGreatDoor

def needAt (N : List (List Nat)) (i : Nat) : List Nat := (N[i]?).getD []
/-- What lay lays. -/
structure LayOK (N : List (List Nat)) (out : List Nat) : Prop where
  nodup : out.Nodup
  lt : ∀ i ∈ out, i < N.length
  full : ∀ i, i < N.length → (∀ k ∈ needAt N i, k ∈ out) → i ∈ out
  behind : ∀ p i s, out = p ++ i :: s → ∀ k ∈ needAt N i, k ∈ p
/-- Nothing leads back to itself. -/
def Acyc (N : List (List Nat)) : Prop := ∃ f : Nat → Nat, ∀ i, i < N.length → ∀ k ∈ needAt N i, f k < f i
theorem LayOK.acyc {N : List (List Nat)} {out : List Nat} (h : LayOK N out) (hall : ∀ i, i < N.length → i ∈ out) : Acyc N := by
  refine ⟨fun i => out.idxOf i, fun i hi k hk => ?_⟩
  obtain ⟨p, s, hps⟩ := List.append_of_mem (hall i hi)
  have hkp := h.behind p i s hps k hk
  have hn := h.nodup
  rw [hps] at hn
  have hip : i ∉ p := fun hip => by
    rw [List.nodup_append] at hn
    exact hn.2.2 i hip i (List.mem_cons_self ..) rfl
  show out.idxOf k < out.idxOf i
  rw [hps, List.idxOf_append, if_pos hkp, List.idxOf_append, if_neg hip, List.idxOf_cons_self]
  have := List.idxOf_lt_length_of_mem hkp
  omega
theorem Acyc.all {N : List (List Nat)} {out : List Nat} (h : LayOK N out) (ha : Acyc N) (hr : ∀ i, i < N.length → ∀ k ∈ needAt N i, k < N.length) : ∀ i, i < N.length → i ∈ out := by
  obtain ⟨f, hf⟩ := ha
  have : ∀ m i, f i < m → i < N.length → i ∈ out := by
    intro m
    induction m with
    | zero => intro i hi; omega
    | succ m ih => exact fun i hi hl => h.full i hl fun k hk => ih k (by have := hf i hl k hk; omega) (hr i hl k hk)
  exact fun i hi => this (f i + 1) i (by omega) hi
/-- Who uses a thing, in order, as often as it needs it. -/
def usersL (N : List (List Nat)) (k : Nat) (j : Nat) : List Nat := (List.range j).flatMap fun i => List.replicate ((needAt N i).count k) i
theorem usersL_succ (N : List (List Nat)) (k j : Nat) : usersL N k (j + 1) = usersL N k j ++ List.replicate ((needAt N j).count k) j := by
  unfold usersL
  rw [List.range_succ, List.flatMap_append]
  simp
theorem usersL_lt {N : List (List Nat)} {k : Nat} : ∀ {j i : Nat}, i ∈ usersL N k j → i < j := fun {j i} h => by
  unfold usersL at h
  obtain ⟨a, ha, hi⟩ := List.mem_flatMap.1 h
  rw [List.eq_of_mem_replicate hi]
  exact List.mem_range.1 ha
theorem usersL_count (N : List (List Nat)) (k i : Nat) : ∀ j, (usersL N k j).count i = if i < j then (needAt N i).count k else 0
  | 0 => by simp [usersL]
  | j + 1 => by
    rw [usersL_succ, List.count_append, usersL_count N k i j, List.count_replicate]
    by_cases h : i = j
    · subst h; simp
    · have h2 : (j == i) = false := by simpa using fun e => h e.symm
      rw [h2]
      by_cases h3 : i < j
      · rw [if_pos h3, if_pos (show i < j + 1 by omega)]; simp
      · rw [if_neg h3, if_neg (show ¬ i < j + 1 by omega)]; simp
/-- How many of a thing's needs aren't laid. -/
def lackN (N : List (List Nat)) (i : Nat) (out : List Nat) : Nat := (needAt N i).countP fun k => !(out.contains k)
theorem lackN_nil (N : List (List Nat)) (i : Nat) : lackN N i [] = (needAt N i).length := by
  unfold lackN
  rw [List.countP_eq_length]
  simp
theorem lackN_zero {N : List (List Nat)} {i : Nat} {out : List Nat} : lackN N i out = 0 ↔ ∀ k ∈ needAt N i, k ∈ out := by
  unfold lackN
  rw [List.countP_eq_zero]
  constructor
  · intro h k hk
    have := h k hk
    simpa using this
  · intro h k hk
    simpa using h k hk
theorem countP_split (x : Nat) (out : List Nat) (hx : x ∉ out) : ∀ l : List Nat, l.countP (fun k => !((out ++ [x]).contains k)) + l.count x = l.countP fun k => !(out.contains k)
  | [] => rfl
  | a :: r => by
    have ih := countP_split x out hx r
    rw [List.countP_cons, List.countP_cons, List.count_cons]
    by_cases h : a = x
    · subst h
      have h1 : (out ++ [a]).contains a = true := by simp
      have h2 : out.contains a = false := by simpa using hx
      rw [h1, h2]
      simp only [beq_self_eq_true, Bool.not_true, Bool.not_false, if_true, Bool.false_eq_true, if_false]
      omega
    · have h1 : (out ++ [x]).contains a = out.contains a := by
        cases hc : out.contains a with
        | true => simp at hc ⊢; exact .inl hc
        | false => simp at hc ⊢; exact ⟨hc, h⟩
      rw [h1]
      have h2 : (a == x) = false := by simpa using h
      rw [h2]
      simp only [Bool.false_eq_true, if_false]
      omega
theorem lackN_snoc (N : List (List Nat)) (i x : Nat) (out : List Nat) (hx : x ∉ out) : lackN N i (out ++ [x]) + (needAt N i).count x = lackN N i out := countP_split x out hx _
/-- What holds between two rounds of lay, and within one: of the users of the thing that is laid last those in U are told. -/
structure LayI (N : List (List Nat)) (lacks : List Nat) (out Q : List Nat) (c0 : Nat → Nat) (U : List Nat) : Prop where
  len : lacks.length = N.length
  nodup : (out ++ Q).Nodup
  lt : ∀ i ∈ out ++ Q, i < N.length
  lack : ∀ i c, lacks[i]? = some c → c + U.count i = c0 i
  zero : ∀ i c, lacks[i]? = some c → (i ∈ out ++ Q ↔ c = 0)
  behind : ∀ p i s, out = p ++ i :: s → ∀ k ∈ needAt N i, k ∈ p
theorem LayI.perm {N : List (List Nat)} {lacks out Q Q' : List Nat} {c0 : Nat → Nat} {U : List Nat} (h : LayI N lacks out Q c0 U) (hp : Q.Perm Q') : LayI N lacks out Q' c0 U where
  len := h.len
  nodup := (hp.append_left out).nodup_iff.1 h.nodup
  lt := fun i hi => h.lt i ((hp.append_left out).mem_iff.2 hi)
  lack := h.lack
  zero := fun i c hc => by rw [← h.zero i c hc]; exact ((hp.append_left out).mem_iff).symm
  behind := h.behind
theorem LayI.step {N : List (List Nat)} {lacks out Q : List Nat} {c0 : Nat → Nat} {U : List Nat} (h : LayI N lacks out Q c0 U) {i c : Nat} (hi : lacks[i]? = some c) (hc : U.count i < c0 i) :
    1 ≤ c ∧ LayI N (lacks.set i (c - 1)) out (if c = 1 then i :: Q else Q) c0 (U ++ [i]) := by
  have h1 := h.lack i c hi
  have hc1 : 1 ≤ c := by omega
  have hil : i < lacks.length := (List.getElem?_eq_some_iff.1 hi).1
  have hnot : i ∉ out ++ Q := fun hm => by have := (h.zero i c hi).1 hm; omega
  have hget : ∀ j d, (lacks.set i (c - 1))[j]? = some d → (j = i ∧ d = c - 1) ∨ (j ≠ i ∧ lacks[j]? = some d) := fun j d hj => by
    by_cases hji : j = i
    · subst hji
      rw [List.getElem?_set_self hil] at hj
      exact .inl ⟨rfl, by injection hj with hj; exact hj.symm⟩
    · rw [List.getElem?_set_ne (fun e => hji e.symm)] at hj
      exact .inr ⟨hji, hj⟩
  have hmem : ∀ j, j ∈ out ++ (if c = 1 then i :: Q else Q) ↔ j ∈ out ++ Q ∨ (c = 1 ∧ j = i) := fun j => by
    by_cases hc1' : c = 1
    · rw [if_pos hc1']
      simp only [List.mem_append, List.mem_cons]
      constructor
      · rintro (h2 | rfl | h2)
        · exact .inl (.inl h2)
        · exact .inr ⟨by assumption, rfl⟩
        · exact .inl (.inr h2)
      · rintro ((h2 | h2) | ⟨_, rfl⟩)
        · exact .inl h2
        · exact .inr (.inr h2)
        · exact .inr (.inl rfl)
    · rw [if_neg hc1']
      exact ⟨.inl, fun h2 => h2.elim id fun e => absurd e.1 hc1'⟩
  refine ⟨hc1, ?_, ?_, ?_, ?_, ?_, h.behind⟩
  · rw [List.length_set]; exact h.len
  · by_cases h1 : c = 1
    · rw [if_pos h1]
      have hp : (out ++ i :: Q).Perm (i :: (out ++ Q)) := List.perm_middle
      rw [hp.nodup_iff, List.nodup_cons]
      exact ⟨hnot, h.nodup⟩
    · rw [if_neg h1]; exact h.nodup
  · intro j hj
    rcases (hmem j).1 hj with h2 | ⟨_, rfl⟩
    · exact h.lt j h2
    · rw [← h.len]; exact hil
  · intro j d hj
    rw [List.count_append, List.count_singleton]
    rcases hget j d hj with ⟨rfl, rfl⟩ | ⟨hne, hj2⟩
    · simp
      omega
    · have := h.lack j d hj2
      have h3 : (i == j) = false := by simpa using fun e => hne e.symm
      rw [h3]
      simp
      omega
  · intro j d hj
    rw [hmem]
    rcases hget j d hj with ⟨rfl, rfl⟩ | ⟨hne, hj2⟩
    · constructor
      · rintro (h2 | ⟨h2, _⟩)
        · exact absurd h2 hnot
        · omega
      · intro h2; exact .inr ⟨by omega, rfl⟩
    · rw [← h.zero j d hj2]
      exact ⟨fun h2 => h2.elim id fun e => absurd e.2 hne, .inl⟩
theorem LayI.pop {N : List (List Nat)} {lacks out Q : List Nat} {x : Nat} (h : LayI N lacks out (x :: Q) (fun i => lackN N i out) []) : LayI N lacks (out ++ [x]) Q (fun i => lackN N i out) [] where
  len := h.len
  nodup := by rw [List.append_assoc]; exact h.nodup
  lt := fun i hi => h.lt i (by rw [List.append_assoc] at hi; exact hi)
  lack := h.lack
  zero := fun i c hc => by rw [← h.zero i c hc, List.append_assoc]; rfl
  behind := fun p i s he k hk => by
    rcases List.append_eq_append_iff.1 he with ⟨a, h1, h2⟩ | ⟨a, h1, h2⟩
    · cases a with
      | nil =>
        simp at h1 h2
        obtain ⟨rfl, rfl⟩ := h2
        have hx : x < lacks.length := by rw [h.len]; exact h.lt x (by simp)
        obtain ⟨c, hc⟩ : ∃ c, lacks[x]? = some c := ⟨_, List.getElem?_eq_getElem hx⟩
        have hz := (h.zero x c hc).1 (by simp)
        have hl := h.lack x c hc
        rw [hz] at hl
        simp at hl
        rw [h1]
        exact lackN_zero.1 hl.symm k hk
      | cons b r =>
        simp at h2
    · cases a with
      | nil =>
        simp at h1 h2
        obtain ⟨rfl, rfl⟩ := h2
        have hx : i < lacks.length := by rw [h.len]; exact h.lt i (by simp)
        obtain ⟨c, hc⟩ : ∃ c, lacks[i]? = some c := ⟨_, List.getElem?_eq_getElem hx⟩
        have hz := (h.zero i c hc).1 (by simp)
        have hl := h.lack i c hc
        rw [hz] at hl
        simp at hl
        rw [← h1]
        exact lackN_zero.1 hl.symm k hk
      | cons b r =>
        rw [List.cons_append] at h2
        injection h2 with h3 h4
        subst h3
        exact h.behind p i r h1 k hk
theorem LayI.next {N : List (List Nat)} {lacks out Q : List Nat} {x : Nat} (h : LayI N lacks (out ++ [x]) Q (fun i => lackN N i out) (usersL N x N.length)) : LayI N lacks (out ++ [x]) Q (fun i => lackN N i (out ++ [x])) [] where
  len := h.len
  nodup := h.nodup
  lt := h.lt
  lack := fun i c hc => by
    have h1 := h.lack i c hc
    have hi : i < N.length := by rw [← h.len]; exact (List.getElem?_eq_some_iff.1 hc).1
    rw [usersL_count, if_pos hi] at h1
    have hx : x ∉ out := fun hm => by
      have hn := h.nodup
      rw [List.append_assoc, List.nodup_append] at hn
      exact hn.2.2 x hm x (by simp) rfl
    have h2 := lackN_snoc N i x out hx
    simp only [List.count_nil]
    omega
  zero := h.zero
  behind := h.behind
theorem LayI.done {N : List (List Nat)} {lacks out : List Nat} (h : LayI N lacks out [] (fun i => lackN N i out) []) : LayOK N out where
  nodup := by have := h.nodup; rwa [List.append_nil] at this
  lt := fun i hi => h.lt i (by rw [List.append_nil]; exact hi)
  full := fun i hi hk => by
    obtain ⟨c, hc⟩ : ∃ c, lacks[i]? = some c := ⟨_, List.getElem?_eq_getElem (by rw [h.len]; exact hi)⟩
    have h1 := h.lack i c hc
    simp only [List.count_nil] at h1
    rw [lackN_zero.2 hk] at h1
    have := (h.zero i c hc).2 (by omega)
    rwa [List.append_nil] at this
  behind := h.behind
theorem LayI.start {N : List (List Nat)} {lacks Q : List Nat} (hl : lacks = N.map List.length) (hQ : Q.Nodup) (hq : ∀ i, i ∈ Q ↔ i < N.length ∧ needAt N i = []) : LayI N lacks [] Q (fun i => lackN N i []) [] where
  len := by rw [hl, List.length_map]
  nodup := hQ
  lt := fun i hi => ((hq i).1 hi).1
  lack := fun i c hc => by
    rw [lackN_nil]
    rw [hl, List.getElem?_map] at hc
    unfold needAt
    cases h : N[i]? with
    | none => rw [h] at hc; cases hc
    | some l => rw [h] at hc; injection hc with hc; rw [← hc]; simp
  zero := fun i c hc => by
    rw [List.nil_append, hq]
    rw [hl, List.getElem?_map] at hc
    unfold needAt
    cases h : N[i]? with
    | none => rw [h] at hc; cases hc
    | some l =>
      rw [h] at hc
      injection hc with hc
      rw [← hc]
      have := (List.getElem?_eq_some_iff.1 h).1
      show i < N.length ∧ l = [] ↔ l.length = 0
      rw [List.length_eq_zero_iff]
      exact ⟨fun h => h.2, fun h => ⟨this, h⟩⟩
  behind := fun p i s he => by simp at he
end Go.Proofs.YtbcdbefogfmhfaaGreatDoor

namespace Go.Proofs.YtbcdbefogfmhfaaGreatDoor
open Go.RowKit

def IntsAt (W : World) (a : Option Addr) (l : List Nat) : Prop := ∀ (j x : Nat), l[j]? = some x → ∃ b off, a = some ⟨b, off, none⟩ ∧ W.cell? ⟨b, off + j, none⟩ = some (.int .i64 x)
theorem IntsAt.bel {W W' : World} {a : Option Addr} {l : List Nat} (h : IntsAt W a l) (hb : Bel W W') : IntsAt W' a l := fun j x hx => by
  obtain ⟨b, off, h1, h2⟩ := h j x hx
  exact ⟨b, off, h1, hb.keep h2⟩
def NeedsAt (W : World) (a : Option Addr) (N : List (List Nat)) : Prop := ∀ (j : Nat) (l : List Nat), N[j]? = some l → ∃ b off la lc, a = some ⟨b, off, none⟩ ∧ W.cell? ⟨b, off + j, none⟩ = some (.slice la l.length lc) ∧ l.length ≤ lc ∧ IntsAt W la l
theorem NeedsAt.bel {W W' : World} {a : Option Addr} {N : List (List Nat)} (h : NeedsAt W a N) (hb : Bel W W') : NeedsAt W' a N := fun j x hx => by
  obtain ⟨b, off, la, lc, h1, h2, h3, h4⟩ := h j x hx
  exact ⟨b, off, la, lc, h1, hb.keep h2, h3, h4.bel hb⟩
theorem drop_at {α : Type} {l : List α} {i : Nat} {x : α} (h : l[i]? = some x) : l.drop i = x :: l.drop (i + 1) := by
  obtain ⟨hi, rfl⟩ := List.getElem?_eq_some_iff.1 h
  exact List.drop_eq_getElem_cons hi
set_option maxRecDepth 100000 in
set_option maxHeartbeats 4000000 in
theorem indexI_c (l : List Nat) (a : Option Addr) (n c x : Nat) (w : World) (hn : l.length = n) (hn2 : n ≤ 1073741824) (hat : IntsAt w a l) :
    Calls Tryz.prog 146 #[.slice a n c, .int .i64 x] w fun e w' => ∃ r : Int, e = .returned (.int .i64 r) ∧ (0 ≤ r ↔ x ∈ l) ∧ w = w' := by
  have HN := Lib.hid hn
  have HAT := Lib.hid hat
  clear hn hat
  go_enter Tryz.func146, Tryz.ntmps146
  go_wp2_with fail
  go_loopw [8] (fun i wr => ∃ k : Nat, k ≤ n ∧ i = .int .i64 k ∧ Hid (x ∈ l ↔ x ∈ l.drop k) ∧ w = wr) (fun i _ => n - (intOf i).toNat)
  case atStart => exact ⟨0, Nat.zero_le _, rfl, Lib.hid (by rw [List.drop_zero]), rfl⟩
  case round =>
    obtain ⟨k, hk, rfl, HK, rfl⟩ := hrel
    by_cases hkn : k < n
    · have hki : (k : Int) < n := by omega
      obtain ⟨y, hy⟩ : ∃ y, l[k]? = some y := ⟨_, List.getElem?_eq_getElem (by have := HN.out; omega)⟩
      obtain ⟨b, off, rfl, g0⟩ := HAT.out k y hy
      have hd := drop_at hy
      by_cases hxy : x = y
      · subst hxy
        have HX : Hid (x ∈ l) := Lib.hid (List.mem_of_getElem? hy)
        clear hy hd HK
        go_wp2_with fail
        go_ret
        exact ⟨k, rfl, ⟨fun _ => HX.out, fun _ => by omega⟩, rfl⟩
      · have hxi : ((x : Int) == y) = false := by simp; omega
        have HX : Hid (x ∈ l ↔ x ∈ l.drop (k + 1)) := Lib.hid (by rw [HK.out, hd, List.mem_cons]; exact ⟨fun h => h.resolve_left hxy, .inr⟩)
        clear hy hd hxy HK
        go_wp2_with fail
        exact ⟨⟨k + 1, by omega, by go_num, HX, trivial⟩, by simp [intOf]; omega⟩
    · have hki : ¬ (k : Int) < n := by omega
      have HX : Hid (x ∉ l) := Lib.hid (by rw [HK.out, List.drop_of_length_le (by have := HN.out; omega)]; simp)
      clear HK
      go_wp2_with fail
      go_ret
      exact ⟨-1, rfl, ⟨fun h => absurd h (by decide), fun h => absurd h HX.out⟩, rfl⟩
set_option maxHeartbeats 400000 in
theorem containsI_c (l : List Nat) (a : Option Addr) (n c x : Nat) (w : World) (hn : l.length = n) (hn2 : n ≤ 1073741824) (hat : IntsAt w a l) :
    Calls Tryz.prog 124 #[.slice a n c, .int .i64 x] w fun e w' => e = .returned (.bool (decide (x ∈ l))) ∧ w = w' := by
  have HI := Lib.hid (indexI_c l a n c x w hn hn2 hat)
  obtain ⟨D, hD⟩ : ∃ D, decide (x ∈ l) = D := ⟨_, rfl⟩
  have hD2 := Lib.hid hD
  rw [hD]
  clear hD hat
  go_enter Tryz.func124, Tryz.ntmps124
  go_wp2_with fail
  refine HI.out.mono ?_
  rintro e w1 ⟨r, rfl, hr, rfl⟩
  go_wp2_with fail
  go_ret
  exact ⟨ret_bool (by first | (rw [← hD2.out]; done) | (rw [← hD2.out]; exact decide_eq_decide.2 hr)), rfl⟩
/-! right: all numbers are those of things. -/
set_option maxRecDepth 100000 in
set_option maxHeartbeats 4000000 in
theorem rightI_c (k n pb : Nat) (a : Option Addr) (c : Nat) (w : World) (hk : k < n) (hcell : w.cell? ⟨pb, 0, none⟩ = some (.slice a n c)) :
    Calls Tryz.prog 105 #[.int .i64 k, .pointer (some ⟨pb, 0, none⟩)] w fun e w' => e = .returned (.bool false) ∧ w = w' := by
  have hk1 : ¬ (k : Int) < 0 := by omega
  have hk2 : ¬ (n : Int) ≤ k := by omega
  go_enter Tryz.func105, Tryz.ntmps105
  go_wp2_with fail
  go_ret
  exact ⟨rfl, rfl⟩
set_option maxRecDepth 100000 in
set_option maxHeartbeats 4000000 in
theorem rindexI_c (l : List Nat) (a : Option Addr) (m lc n pb : Nat) (na : Option Addr) (nc : Nat) (w : World) (hm : l.length = m) (hm2 : m ≤ 1073741824) (hat : IntsAt w a l) (hl : ∀ k ∈ l, k < n) (hcell : w.cell? ⟨pb, 0, none⟩ = some (.slice na n nc)) :
    Calls Tryz.prog 128 #[.slice a m lc, .func (.func 105) #[] #[.pointer (some ⟨pb, 0, none⟩)]] w fun e w' => e = .returned (.int .i64 (-1)) ∧ w = w' := by
  have HM := Lib.hid hm
  have HAT := Lib.hid hat
  have HC := Lib.hid fun k hk => rightI_c k n pb na nc w (hl k hk) hcell
  have hen := fun args w1 => enters_of Tryz.func105 (by kernel_rfl) rfl args w1
  clear hm hat hcell
  go_enter Tryz.func128, Tryz.ntmps128
  go_wp2_with fail
  go_loopw [8] (fun i wr => ∃ k : Nat, k ≤ m ∧ i = .int .i64 k ∧ w = wr) (fun i _ => m - (intOf i).toNat)
  case atStart => exact ⟨0, Nat.zero_le _, rfl, rfl⟩
  case round =>
    obtain ⟨k, hk, rfl, rfl⟩ := hrel
    by_cases hkn : k < m
    · have hki : (k : Int) < m := by omega
      obtain ⟨y, hy⟩ : ∃ y, l[k]? = some y := ⟨_, List.getElem?_eq_getElem (by have := HM.out; omega)⟩
      obtain ⟨b, off, rfl, g0⟩ := HAT.out k y hy
      have HC2 := Lib.hid (HC.out y (List.mem_of_getElem? hy))
      clear hy
      go_wp2_with ((with_reducible refine HC2.out.mono ?_); rintro e w1 ⟨rfl, rfl⟩)
      exact ⟨⟨k + 1, by omega, by go_num, trivial⟩, by simp [intOf]; omega⟩
    · have hki : ¬ (k : Int) < m := by omega
      go_wp2_with fail
      go_ret
      exact ⟨rfl, rfl⟩
set_option maxHeartbeats 400000 in
theorem rcontI_c (l : List Nat) (a : Option Addr) (m lc n pb : Nat) (na : Option Addr) (nc : Nat) (w : World) (hm : l.length = m) (hm2 : m ≤ 1073741824) (hat : IntsAt w a l) (hl : ∀ k ∈ l, k < n) (hcell : w.cell? ⟨pb, 0, none⟩ = some (.slice na n nc)) :
    Calls Tryz.prog 104 #[.slice a m lc, .func (.func 105) #[] #[.pointer (some ⟨pb, 0, none⟩)]] w fun e w' => e = .returned (.bool false) ∧ w = w' := by
  have HI := Lib.hid (rindexI_c l a m lc n pb na nc w hm hm2 hat hl hcell)
  clear hat hl hcell hm
  go_enter Tryz.func104, Tryz.ntmps104
  go_wp2_with (go_at_call 128; refine HI.out.mono ?_; rintro e w1 ⟨rfl, rfl⟩)
  go_ret
  exact ⟨rfl, rfl⟩
set_option maxHeartbeats 400000 in
theorem right1_c (l : List Nat) (a : Option Addr) (m lc n pb : Nat) (na : Option Addr) (nc : Nat) (w : World) (hm : l.length = m) (hm2 : m ≤ 1073741824) (hat : IntsAt w a l) (hl : ∀ k ∈ l, k < n) (hcell : w.cell? ⟨pb, 0, none⟩ = some (.slice na n nc)) :
    Calls Tryz.prog 103 #[.slice a m lc, .pointer (some ⟨pb, 0, none⟩)] w fun e w' => e = .returned (.bool false) ∧ w = w' := by
  have HI := Lib.hid (rcontI_c l a m lc n pb na nc w hm hm2 hat hl hcell)
  clear hat hl hcell hm
  go_enter Tryz.func103, Tryz.ntmps103
  go_wp2_with (go_at_call 104; refine HI.out.mono ?_; rintro e w1 ⟨rfl, rfl⟩)
  go_ret
  exact ⟨rfl, rfl⟩
set_option maxRecDepth 100000 in
set_option maxHeartbeats 4000000 in
theorem rindexN_c (N : List (List Nat)) (a : Option Addr) (n c pb : Nat) (w : World) (hn : N.length = n) (hn2 : n ≤ 1073741824) (hat : NeedsAt w a N) (hl : ∀ l ∈ N, l.length ≤ 1073741824 ∧ ∀ k ∈ l, k < n) (hcell : w.cell? ⟨pb, 0, none⟩ = some (.slice a n c)) :
    Calls Tryz.prog 127 #[.slice a n c, .func (.func 103) #[] #[.pointer (some ⟨pb, 0, none⟩)]] w fun e w' => e = .returned (.int .i64 (-1)) ∧ w = w' := by
  have HM := Lib.hid hn
  have HAT := Lib.hid hat
  have HC := Lib.hid fun l (hm : l ∈ N) la lc (h : IntsAt w la l) => right1_c l la l.length lc n pb a c w rfl (hl l hm).1 h (hl l hm).2 hcell
  have hen := fun args w1 => enters_of Tryz.func103 (by kernel_rfl) rfl args w1
  clear hn hat hcell hl
  go_enter Tryz.func127, Tryz.ntmps127
  go_wp2_with fail
  go_loopw [8] (fun i wr => ∃ k : Nat, k ≤ n ∧ i = .int .i64 k ∧ w = wr) (fun i _ => n - (intOf i).toNat)
  case atStart => exact ⟨0, Nat.zero_le _, rfl, rfl⟩
  case round =>
    obtain ⟨k, hk, rfl, rfl⟩ := hrel
    by_cases hkn : k < n
    · have hki : (k : Int) < n := by omega
      obtain ⟨y, hy⟩ : ∃ y, N[k]? = some y := ⟨_, List.getElem?_eq_getElem (by have := HM.out; omega)⟩
      obtain ⟨b, off, la, lc, rfl, g0, _, hia⟩ := HAT.out k y hy
      have HC2 := Lib.hid (HC.out y (List.mem_of_getElem? hy) la lc hia)
      obtain ⟨m, hm⟩ : ∃ m, y.length = m := ⟨_, rfl⟩
      rw [hm] at g0 HC2
      clear hy hia hm
      go_wp2_with ((with_reducible refine HC2.out.mono ?_); rintro e w1 ⟨rfl, rfl⟩)
      exact ⟨⟨k + 1, by omega, by go_num, trivial⟩, by simp [intOf]; omega⟩
    · have hki : ¬ (k : Int) < n := by omega
      go_wp2_with fail
      go_ret
      exact ⟨rfl, rfl⟩
set_option maxHeartbeats 400000 in
theorem rcontN_c (N : List (List Nat)) (a : Option Addr) (n c pb : Nat) (w : World) (hn : N.length = n) (hn2 : n ≤ 1073741824) (hat : NeedsAt w a N) (hl : ∀ l ∈ N, l.length ≤ 1073741824 ∧ ∀ k ∈ l, k < n) (hcell : w.cell? ⟨pb, 0, none⟩ = some (.slice a n c)) :
    Calls Tryz.prog 102 #[.slice a n c, .func (.func 103) #[] #[.pointer (some ⟨pb, 0, none⟩)]] w fun e w' => e = .returned (.bool false) ∧ w = w' := by
  have HI := Lib.hid (rindexN_c N a n c pb w hn hn2 hat hl hcell)
  clear hat hl hcell hn
  go_enter Tryz.func102, Tryz.ntmps102
  go_wp2_with (go_at_call 127; refine HI.out.mono ?_; rintro e w1 ⟨rfl, rfl⟩)
  go_ret
  exact ⟨rfl, rfl⟩
set_option maxRecDepth 100000 in
set_option maxHeartbeats 4000000 in
theorem oright_c (N : List (List Nat)) (a : Option Addr) (n c : Nat) (w : World) (hn : N.length = n) (hn2 : n ≤ 1073741824) (hat : NeedsAt w a N) (hl : ∀ l ∈ N, l.length ≤ 1073741824 ∧ ∀ k ∈ l, k < n) :
    Calls Tryz.prog 63 #[.slice a n c] w (RetBel (.bool true) w) := by
  have b0 := Bel.alloc w (.cells #[.slice a n c] 87)
  have HC := Lib.hid (rcontN_c N a n c w.heap.size (w.alloc (.cells #[.slice a n c] 87)) hn hn2 (hat.bel b0) hl ((Blk.new w 87 [.slice a n c]).at 0))
  clear hat hl hn
  go_enter Tryz.func63, Tryz.ntmps63
  go_wp2_with fail
  refine HC.out.mono ?_
  rintro e w1 ⟨rfl, rfl⟩
  go_wp2_with fail
  go_ret
  exact ⟨rfl, b0⟩
end Go.Proofs.YtbcdbefogfmhfaaGreatDoor

namespace Go.Proofs.YtbcdbefogfmhfaaGreatDoor
open Go.RowKit

theorem meth_less {a : Addr} {w : World} {v : Value} (hc : w.cell? a = some v) : (method 438 155 (.pointer (some a)) "Less").run Tryz.prog w = .ok (258, v) w := by
  have h : (method 438 155 (.pointer (some a)) "Less").run Tryz.prog w = (match w.cell? a with
      | some v => .ok (258, v) w
      | none => match w.farLoad Tryz.prog a false with
        | .ok (v, _) => .ok (258, v) w
        | .error h => .halt h w) := by kernel_rfl
  rw [h, hc]
theorem meth_len {a : Addr} {w : World} {v : Value} (hc : w.cell? a = some v) : (method 438 155 (.pointer (some a)) "Len").run Tryz.prog w = .ok (107, v) w := by
  have h : (method 438 155 (.pointer (some a)) "Len").run Tryz.prog w = (match w.cell? a with
      | some v => .ok (107, v) w
      | none => match w.farLoad Tryz.prog a false with
        | .ok (v, _) => .ok (107, v) w
        | .error h => .halt h w) := by kernel_rfl
  rw [h, hc]
theorem meth_swap {a : Addr} {w : World} {v : Value} (hc : w.cell? a = some v) : (method 438 155 (.pointer (some a)) "Swap").run Tryz.prog w = .ok (261, v) w := by
  have h : (method 438 155 (.pointer (some a)) "Swap").run Tryz.prog w = (match w.cell? a with
      | some v => .ok (261, v) w
      | none => match w.farLoad Tryz.prog a false with
        | .ok (v, _) => .ok (261, v) w
        | .error h => .halt h w) := by kernel_rfl
  rw [h, hc]
theorem alloc_stepO (w : World) (t : TypeId) (cs : List Value) : ∃ W, w.alloc (.cells cs.toArray t) = W ∧ Blk W w.heap.size t cs ∧ Bel w W ∧ W.heap.size = w.heap.size + 1 :=
  ⟨_, rfl, Blk.new w t cs, Bel.alloc w _, World.size_alloc w _⟩
theorem meth_push (a : Addr) (w : World) : (method 438 155 (.pointer (some a)) "Push").run Tryz.prog w = .ok (260, .pointer (some a)) w := by kernel_rfl
theorem meth_pop (a : Addr) (w : World) : (method 438 155 (.pointer (some a)) "Pop").run Tryz.prog w = .ok (259, .pointer (some a)) w := by kernel_rfl
/-- A thing: its name, its number. -/
abbrev Th := ByteArray × Nat
def encH (x : Th) : List Value := [.string x.1, .int .i64 x.2]
theorem flatH_len : ∀ l : List Th, (l.flatMap encH).length = l.length * 2
  | [] => rfl
  | x :: r => by
    rw [List.flatMap_cons, List.length_append, flatH_len r, List.length_cons]
    show 2 + r.length * 2 = (r.length + 1) * 2
    omega
theorem flatH_get : ∀ (l : List Th) (i : Nat) (x : Th) (c : Nat), l[i]? = some x → c < 2 → (l.flatMap encH)[i * 2 + c]? = (encH x)[c]?
  | [], _, _, _, h, _ => by cases h
  | y :: r, 0, x, c, h, hc => by
    cases h
    rw [List.flatMap_cons, Nat.zero_mul, Nat.zero_add, List.getElem?_append_left (by show c < 2; exact hc)]
  | y :: r, i + 1, x, c, h, hc => by
    rw [List.flatMap_cons, List.getElem?_append_right (by show 2 ≤ (i + 1) * 2 + c; omega)]
    rw [show (i + 1) * 2 + c - (encH y).length = i * 2 + c from by show (i + 1) * 2 + c - 2 = _; omega]
    exact flatH_get r i x c h hc
/-- The queue's row. -/
abbrev OwnH (B : Nat) (T : List Th) (w : World) (v : Value) : Prop := w.ownsRow B 160 2 v T.length (T.flatMap encH)
def keepH (t : TypeId) : Bool := !(t == 160 || t == 157)
theorem keepH_types : keepH 160 = false ∧ keepH 157 = false ∧ keepH 3 = true ∧ keepH 84 = true ∧ keepH 9 = true := by decide
theorem ownH_form {B : Nat} {T : List Th} {w : World} {v : Value} (h : OwnH B T w v) : ∃ a c, v = .slice a T.length c ∧ T.length ≤ c ∧ ∀ i x, T[i]? = some x → ∃ g, a = some ⟨g, 0, none⟩ ∧ B ≤ g ∧ g < w.heap.size ∧ w.cell? ⟨g, i * 2, none⟩ = some (.string x.1) ∧ w.cell? ⟨g, i * 2 + 1, none⟩ = some (.int .i64 x.2) ∧ ∀ j, w.frozen? ⟨g, j, none⟩ = false := by
  obtain ⟨hl, ⟨hv, h0⟩ | ⟨g, cap, cur, hv, hg, hh, hn, _, hsz, ht⟩⟩ := h
  · have : T = [] := List.eq_nil_of_length_eq_zero h0
    subst this
    exact ⟨none, 0, hv, Nat.le_refl _, fun i x hx => by cases hx⟩
  · refine ⟨some ⟨g, 0, none⟩, cap, hv, hn, fun i x hx => ⟨g, rfl, hg, (Array.getElem?_eq_some_iff.1 hh).1, ?_⟩⟩
    have hi := (List.getElem?_eq_some_iff.1 hx).1
    have hc : ∀ k u, k < 2 → (encH x)[k]? = some u → w.cell? ⟨g, i * 2 + k, none⟩ = some u := fun k u hk hu => by
      have h1 := (flatH_get T i x k hx hk).trans hu
      rw [← ht, List.getElem?_take_of_lt (by omega)] at h1
      simpa [World.cell?, hh] using h1
    refine ⟨hc 0 _ (by omega) rfl, hc 1 _ (by omega) rfl, fun j => ?_⟩
    simp [World.frozen?, hh]
set_option maxRecDepth 100000 in
theorem qlen_c (a : Option Addr) (n c : Nat) (w : World) : Calls Tryz.prog 107 #[.slice a n c] w fun e w' => e = .returned (.int .i64 n) ∧ w = w' := by
  go_enter Tryz.func107, Tryz.ntmps107
  go_wp2_with fail
  go_ret
  exact ⟨rfl, rfl⟩
set_option maxRecDepth 100000 in
set_option maxHeartbeats 4000000 in
theorem qless_c (B : Nat) (T : List Th) (v : Value) (i j : Nat) (w : World) (ho : OwnH B T w v) (hi : i < T.length) (hj : j < T.length) (_hs : T.length ≤ 1073741824) :
    Calls Tryz.prog 258 #[v, .int .i64 i, .int .i64 j] w fun e w' => ∃ b, e = .returned (.bool b) ∧ Bel w w' := by
  obtain ⟨a, c, rfl, hc, hat⟩ := ownH_form ho
  obtain ⟨x, hx⟩ : ∃ x, T[i]? = some x := ⟨_, List.getElem?_eq_getElem hi⟩
  obtain ⟨y, hy⟩ : ∃ y, T[j]? = some y := ⟨_, List.getElem?_eq_getElem hj⟩
  obtain ⟨g, rfl, _, _, x0, x1, _⟩ := hat i x hx
  obtain ⟨g', hg', _, _, y0, y1, _⟩ := hat j y hy
  injection hg' with hg'
  injection hg' with hg'
  subst hg'
  obtain ⟨n, hn⟩ : ∃ n, T.length = n := ⟨_, rfl⟩
  rw [hn] at hi hj _hs ⊢
  have hii : (i : Int) < n := by omega
  have hji : (j : Int) < n := by omega
  obtain ⟨xs, xi⟩ := x
  obtain ⟨ys, yi⟩ := y
  dsimp only at x0 x1 y0 y1
  clear ho hc hat hx hy hn
  have h1 : (xs.toList != ys.toList) = !(xs.toList == ys.toList) := rfl
  cases h : (xs.toList == ys.toList)
  · rw [h] at h1
    rw [show (!false) = true from rfl] at h1
    go_enter Tryz.func258, Tryz.ntmps258
    go_wp2_with fail
    go_quiet (fail)
    go_wp2_with fail
    go_quiet (fail)
    go_wp2_with fail
    go_ret
    exact ⟨_, rfl, by (repeat (first | exact Bel.refl _ | assumption | refine Bel.to_drewN ?_ _ | refine Bel.to_drew ?_ | refine Bel.to_setCell ?_ (by first | exact Nat.le_refl _ | (simp; done) | (simp; omega) | omega) _ | refine Bel.to_alloc ?_ _ | refine Bel.trans ?_ (by assumption)))⟩
  · rw [h] at h1
    rw [show (!true) = false from rfl] at h1
    go_enter Tryz.func258, Tryz.ntmps258
    go_wp2_with fail
    go_quiet (fail)
    go_wp2_with fail
    go_quiet (fail)
    go_wp2_with fail
    go_ret
    exact ⟨_, rfl, by (repeat (first | exact Bel.refl _ | assumption | refine Bel.to_drewN ?_ _ | refine Bel.to_drew ?_ | refine Bel.to_setCell ?_ (by first | exact Nat.le_refl _ | (simp; done) | (simp; omega) | omega) _ | refine Bel.to_alloc ?_ _ | refine Bel.trans ?_ (by assumption)))⟩
theorem ownH_put {w : World} {B g cap n m j : Nat} {e : TypeId} {cs : List Value} (h : w.ownsRow B e m (.slice (some ⟨g, 0, none⟩) n cap) n cs) (v : Value) :
    (w.setCell ⟨g, j, none⟩ v).ownsRow B e m (.slice (some ⟨g, 0, none⟩) n cap) n (cs.set j v) := by
  obtain ⟨hl, ⟨e0, _⟩ | ⟨g', cap', cur, e0, hg, hh, hc, hm, hs, ht⟩⟩ := h
  · cases e0
  · injection e0 with e1 _ e3
    injection e1 with e1
    injection e1 with e1
    subst e1
    subst e3
    refine ⟨by rw [List.length_set]; exact hl, .inr ⟨g, cap, cur.setIfInBounds j v, rfl, hg, ?_, hc, hm, by simpa using hs, ?_⟩⟩
    · simp [World.setCell, Array.getElem?_modify, hh]
    · rw [← ht, Array.toList_setIfInBounds, List.take_set]
theorem set2H : ∀ (L : List Th) (i : Nat) (x y : Th), L[i]? = some x → ((L.flatMap encH).set (i * 2) (.string y.1)).set (i * 2 + 1) (.int .i64 y.2) = (L.set i y).flatMap encH
  | z :: r, 0, x, y, h => by
    simp only [List.flatMap_cons, encH, Nat.zero_mul, Nat.zero_add, List.cons_append, List.nil_append, List.set_cons_zero, List.set_cons_succ]
  | z :: r, i + 1, x, y, h => by
    have ih := set2H r i x y h
    rw [List.set_cons_succ, List.flatMap_cons, List.flatMap_cons, ← ih]
    rw [show (i + 1) * 2 = i * 2 + 2 from by omega]
    simp only [encH, List.cons_append, List.nil_append, show ∀ a b : Nat, a + 2 + b = (a + b) + 2 from fun a b => by omega, List.set_cons_succ]
def put2 (w : World) (g o : Nat) (y : Th) : World := (w.setCell ⟨g, o, none⟩ (.string y.1)).setCell ⟨g, o + 1, none⟩ (.int .i64 y.2)
theorem put2_own {w : World} {B g cap j : Nat} {T : List Th} {x : Th} (y : Th) (h : OwnH B T w (.slice (some ⟨g, 0, none⟩) T.length cap)) (hx : T[j]? = some x) : OwnH B (T.set j y) (put2 w g (j * 2) y) (.slice (some ⟨g, 0, none⟩) T.length cap) := by
  unfold OwnH
  rw [List.length_set, ← set2H T j x y hx]
  exact ownH_put (ownH_put h _) _
theorem put2_below {w W : World} {B g : Nat} (h : Below B w W) (hg : B ≤ g) (o : Nat) (y : Th) : Below B w (put2 W g o y) := (h.setCell (p := ⟨g, o, none⟩) hg _).setCell (p := ⟨g, o + 1, none⟩) hg _
theorem KeepT.setH {p : TypeId → Bool} {W : World} {g cap n m : Nat} {e : TypeId} {B : Nat} {cs : List Value} (h : W.ownsRow B e m (.slice (some ⟨g, 0, none⟩) n cap) n cs) (hp : p e = false) (j : Nat) (z : Value) : KeepT p W (W.setCell ⟨g, j, none⟩ z) :=
  ⟨by simp [World.setCell], fun k cs' t' fr hk hp' => Below.heap_setCell W ⟨g, j, none⟩ z k (fun e' => by
    obtain ⟨_, ⟨e0, _⟩ | ⟨g', cap', cur, e0, _, hh, _⟩⟩ := h
    · cases e0
    · injection e0 with e1
      injection e1 with e1
      injection e1 with e1
      rw [show k = g from e', e1, hh] at hk
      injection hk with hk
      injection hk with _ ht _
      rw [← ht, hp] at hp'
      cases hp')⟩
theorem put2_keep {W : World} {g cap j : Nat} {B : Nat} {T : List Th} {x : Th} (y : Th) (h : OwnH B T W (.slice (some ⟨g, 0, none⟩) T.length cap)) (_hx : T[j]? = some x) {p : TypeId → Bool} (hp : p 160 = false) : KeepT p W (put2 W g (j * 2) y) :=
  (KeepT.setH h hp _ _).trans (KeepT.setH (ownH_put h _) hp _ _)
theorem swap_set {T : List Th} {i j : Nat} {x y : Th} (hx : T[i]? = some x) (hy : T[j]? = some y) : ((T.set i y).set j x).Perm T := by
  obtain ⟨hi, rfl⟩ := List.getElem?_eq_some_iff.1 hx
  obtain ⟨hj, rfl⟩ := List.getElem?_eq_some_iff.1 hy
  exact List.set_set_perm hi hj
set_option maxRecDepth 100000 in
set_option maxHeartbeats 8000000 in
theorem qswap_c (B : Nat) (T : List Th) (v : Value) (i j : Nat) (w : World) (hB : B ≤ w.heap.size) (ho : OwnH B T w v) (hi : i < T.length) (hj : j < T.length) (_hs : T.length ≤ 1073741824) :
    Calls Tryz.prog 261 #[v, .int .i64 i, .int .i64 j] w fun e w' => e = .returned (.tuple #[]) ∧ (∃ T', T'.Perm T ∧ OwnH B T' w' v) ∧ Below B w w' ∧ ∀ p : TypeId → Bool, p 160 = false → KeepT p w w' := by
  have HO := Lib.hid ho
  have hform := ownH_form ho
  obtain ⟨x, hx⟩ : ∃ x, T[i]? = some x := ⟨_, List.getElem?_eq_getElem hi⟩
  obtain ⟨y, hy⟩ : ∃ y, T[j]? = some y := ⟨_, List.getElem?_eq_getElem hj⟩
  obtain ⟨a, c, rfl, hc, hat⟩ := hform
  obtain ⟨g, rfl, hBg, hgl, x0, x1, fz⟩ := hat i x hx
  obtain ⟨g', hg', _, _, y0, y1, _⟩ := hat j y hy
  injection hg' with hg'
  injection hg' with hg'
  subst hg'
  have HA := Lib.hid (put2_own y ho hx)
  have hjx : ∃ z, (T.set i y)[j]? = some z := ⟨_, List.getElem?_eq_getElem (by rw [List.length_set]; exact hj)⟩
  obtain ⟨z, hz⟩ := hjx
  have hlen : (T.set i y).length = T.length := List.length_set
  have hA := HA.out
  rw [← hlen] at hA
  have HB := Lib.hid (put2_own x hA hz)
  have HKB : Hid (∀ p : TypeId → Bool, p 160 = false → KeepT p w (put2 (put2 w g (i * 2) y) g (j * 2) x)) := Lib.hid fun p hp => (put2_keep y ho hx hp).trans (put2_keep x hA hz hp)
  have HBB : Hid (Below B w (put2 (put2 w g (i * 2) y) g (j * 2) x)) := Lib.hid (put2_below (put2_below (Below.refl B w) hBg _ _) hBg _ _)
  have HPE : Hid (((T.set i y).set j x).Perm T) := Lib.hid (swap_set hx hy)
  obtain ⟨_, _, e1, _, hat2⟩ := ownH_form hA
  injection e1 with e1 _ e3
  obtain ⟨g2, e4, _, _, z0, z1, fz2⟩ := hat2 j z hz
  rw [← e1] at e4
  injection e4 with e4
  injection e4 with e4
  subst e4
  obtain ⟨n, hn⟩ : ∃ n, T.length = n := ⟨_, rfl⟩
  have HN := Lib.hid hn
  rw [hn] at hi hj _hs ⊢
  have hii : (i : Int) < n := by omega
  have hji : (j : Int) < n := by omega
  have fi0 := fz (i * 2)
  have fi1 := fz (i * 2 + 1)
  have fj0 := fz2 (j * 2)
  have fj1 := fz2 (j * 2 + 1)
  obtain ⟨xs, xi⟩ := x
  obtain ⟨ys, yi⟩ := y
  obtain ⟨zs, zi⟩ := z
  unfold put2 at z0 z1 fj0 fj1
  dsimp only at x0 x1 y0 y1 z0 z1 fj0 fj1
  clear ho hc hat hx hy hn hA hlen hz hat2 e1 e3 fz fz2
  go_enter Tryz.func261, Tryz.ntmps261
  go_wp2_with fail
  go_big_region
  obtain ⟨W2, hW2⟩ : ∃ W, put2 (put2 w g (i * 2) (ys, yi)) g (j * 2) (xs, xi) = W := ⟨_, rfl⟩
  rw [hW2] at HB HKB HBB
  unfold put2 at hW2
  dsimp only at hW2
  rw [hW2]
  have hbd : Bel W2 W2.drew := Bel.drew W2
  clear hW2 x0 x1 y0 y1 z0 z1 fi0 fi1 fj0 fj1
  go_wp2_with fail
  go_end0
  have hl2 : ((T.set i (ys, yi)).set j (xs, xi)).length = n := by rw [List.length_set, List.length_set]; exact HN.out
  have ho := own_bel HB.out hbd
  exact ⟨rfl, ⟨_, HPE.out, by simp only [List.length_set, HN.out] at ho; simp only [OwnH, List.length_set, HN.out]; exact ho⟩, HBB.out.trans (hbd.mono (Nat.le_trans hB HBB.out.size)), fun p hp => (HKB.out p hp).trans (KeepT.of_bel hbd)⟩
/-- The queue's variable and its row. -/
abbrev QAt (B qb : Nat) (T : List Th) (w : World) : Prop := ∃ v, Blk w qb 157 [v] ∧ OwnH B T w v
def RetQ (B qb : Nat) (T : List Th) (w : World) (e : Ending) (w' : World) : Prop := e = .returned (.tuple #[]) ∧ QAt B qb T w' ∧ Below B w w' ∧ KeepT keepH w w'
theorem ownH_below {w w' : World} {B n m : Nat} {e : TypeId} {v : Value} {xs : List Value} (hB : B ≤ w.heap.size) (ho : w.ownsRow B e m v n xs) (hg : w.grownBy w' v.ownBlock) : Below B w w' :=
  Below.grown (Below.refl B w) hg hB (fun k e => by
    rcases ho.2 with ⟨e0, _⟩ | ⟨g', cap2, cur, e0, hge, _⟩
    · rw [e0] at e; cases e
    · rw [e0] at e
      simp only [Value.ownBlock, Option.some.injEq] at e
      omega)
set_option maxRecDepth 100000 in
set_option maxHeartbeats 8000000 in
theorem qpush_c (B qb : Nat) (T : List Th) (v : Value) (x : Th) (w : World) (hB : B ≤ w.heap.size) (hqb : B ≤ qb) (hq : Blk w qb 157 [v]) (ho : OwnH B T w v) (hs : T.length ≤ 1073741824) :
    Calls Tryz.prog 260 #[.pointer (some ⟨qb, 0, none⟩), .iface 160 (.agg #[.string x.1, .int .i64 x.2])] w (RetQ B qb (T ++ [x]) w) := by
  obtain ⟨a, c, rfl, hc, hat⟩ := ownH_form ho
  obtain ⟨xs, xi⟩ := x
  have c0 := hq.at 0
  have f0 := hq.fz 0
  have hinfo : (Tryz.prog.info? 160).map (fun i => (i.zero, i.size, i.bytes)) = some (some (.agg #[.string ⟨#[]⟩, .int .i64 0]), 2, 24) := by kernel_rfl
  obtain ⟨i, hi, hz, hi1, hi2⟩ := info_parts hinfo
  have hta : ∀ W, (Instr.typeAssert (.iface 160 (.agg #[.string xs, .int .i64 xi])) 20 160 false).run Tryz.prog W = .ok (.agg #[.string xs, .int .i64 xi]) W := fun _ => by kernel_rfl
  have hbx : Bel w (w.alloc (.cells #[.string xs, .int .i64 xi] 160)).drew := (Bel.alloc _ _).trans (Bel.drew _)
  have HOW : Hid ((w.alloc (.cells #[.string xs, .int .i64 xi] 160)).drew.ownsRow B 160 2 (.slice a T.length c) T.length (T.flatMap encH)) := Lib.hid (own_bel ho hbx)
  have HNW : Hid (∀ j u, [Value.string xs, .int .i64 xi][j]? = some u → (w.alloc (.cells #[.string xs, .int .i64 xi] 160)).drew.cell? ((⟨w.heap.size, 0, none⟩ : Addr).add j) = some u) := Lib.hid fun j u hu => by
    rw [show ((⟨w.heap.size, 0, none⟩ : Addr).add j) = ⟨w.heap.size, j, none⟩ from by simp [Addr.add]; omega]
    exact (Bel.drew _).keep (((Blk.new w 160 [.string xs, .int .i64 xi]).at j).trans hu)
  have HON : Hid (∀ u ∈ [Value.string xs, .int .i64 xi], u.oneCell' = true) := Lib.hid (by simp [Value.oneCell'])
  have HBS : Hid (B ≤ (w.alloc (.cells #[.string xs, .int .i64 xi] 160)).drew.heap.size) := Lib.hid (Nat.le_trans hB hbx.size)
  have HQX := Lib.hid (hq.bel hbx)
  have cA : (w.alloc (.cells #[.string xs, .int .i64 xi] 160)).cell? ⟨qb, 0, none⟩ = some (.slice a T.length c) := (hq.bel (Bel.alloc w (.cells #[.string xs, .int .i64 xi] 160))).at 0
  go_enter Tryz.func260, Tryz.ntmps260
  go_wp2_with fail
  go_region_law (refine step_append_lies _ rfl (.tmp 7) (.tmp 10) 157 rfl B 160 i (.agg #[.string ⟨#[]⟩, .int .i64 0]) 2 24 Tryz.underlying157 hi hz hi1 hi2 rfl (by decide) (.slice a T.length c) T.length (T.flatMap encH) (by simp [Act.eval]) HOW.out ⟨w.heap.size, 0, none⟩ 1 1 [.string xs, .int .i64 xi] (by simp [Act.eval]) rfl HNW.out HON.out (by decide) (by unfold maxLen; omega) (by omega) HBS.out _ rfl ?_; intro g cap w7 hown7 hg7 hat7 hlt7; have HX7 := Lib.hid (And.intro hown7 hg7); have q7 := HQX.out.grown HOW.out hg7 (by decide); have c7 := q7.at 0; have f7 := q7.fz 0; have HQ7 := Lib.hid q7; clear hown7 hg7 hat7 hlt7 q7)
  all_goals (
    have hset := Lib.hid (own_set HX7.out.1 (p := ⟨qb, 0, none⟩) (own_ne HX7.out.1 HQ7.out (by decide)) (.slice (some ⟨g, 0, none⟩) (T.length + 1) cap))
    have hbel : Below B w w7 := (hbx.mono hB).trans (ownH_below HBS.out HOW.out HX7.out.2)
    have hkp : KeepT keepH w w7 := (KeepT.of_bel hbx).trans (KeepT.grow HOW.out keepH_types.1 HX7.out.2)
    have HFI : Hid (RetQ B qb (T ++ [(xs, xi)]) w (.returned (.tuple #[])) (w7.setCell ⟨qb, 0, none⟩ (.slice (some ⟨g, 0, none⟩) (T.length + 1) cap))) := Lib.hid ⟨rfl, ⟨_, HQ7.out.set 0 _, by unfold OwnH; rw [List.length_append, List.flatMap_append]; exact hset.out⟩, hbel.setCell (p := ⟨qb, 0, none⟩) hqb _, hkp.trans (KeepT.set HQ7.out keepH_types.2.1 0 _)⟩
    clear hset hbel hkp c7 f7
    go_wp2_with fail
    go_end0
    exact HFI.out)
theorem ownH_init {B : Nat} {T : List Th} {x : Th} {w : World} {a : Option Addr} {c n : Nat} (h : OwnH B (T ++ [x]) w (.slice a (n + 1) c)) (hn : T.length = n) : OwnH B T w (.slice a n c) := by
  obtain ⟨hl, ⟨hv, _⟩ | ⟨g, cap, cur, hv, hg, hh, hc, hm, hsz, ht⟩⟩ := h
  · injection hv with _ hv; omega
  · injection hv with h1 h2 h3
    subst h1 h3
    rw [List.length_append, List.length_singleton] at hc ht
    refine ⟨flatH_len T, .inr ⟨g, c, cur, by rw [hn], hg, hh, by omega, hm, hsz, ?_⟩⟩
    have := congrArg (List.take (T.length * 2)) ht
    rw [List.take_take, List.flatMap_append, List.take_append_of_le_length (by rw [flatH_len]; exact Nat.le_refl _), List.take_of_length_le (l := T.flatMap encH) (by rw [flatH_len]; exact Nat.le_refl _)] at this
    rw [← this]
    congr 1
    omega
set_option maxRecDepth 100000 in
set_option maxHeartbeats 8000000 in
theorem qpop_c (B qb : Nat) (T : List Th) (x : Th) (w : World) (hB : B ≤ w.heap.size) (hqb : B ≤ qb) (hq : QAt B qb (T ++ [x]) w) (hs : T.length ≤ 1073741824) :
    Calls Tryz.prog 259 #[.pointer (some ⟨qb, 0, none⟩)] w fun e w' => e = .returned (.iface 160 (.agg #[.string x.1, .int .i64 x.2])) ∧ QAt B qb T w' ∧ Below B w w' ∧ KeepT keepH w w' := by
  obtain ⟨v, hb, ho⟩ := hq
  obtain ⟨a, c, rfl, hc, hat⟩ := ownH_form ho
  obtain ⟨g, rfl, hBg, hgl, x0, x1, fz⟩ := hat T.length x (by simp)
  obtain ⟨n, hn⟩ : ∃ n, T.length = n := ⟨_, rfl⟩
  have hl : (T ++ [x]).length = n + 1 := by rw [List.length_append, hn]; rfl
  rw [hl] at hb ho hc
  rw [hn] at x0 x1 hs
  have HIN := Lib.hid (ownH_init ho hn)
  obtain ⟨xs, xi⟩ := x
  dsimp only at x0 x1
  obtain ⟨V1, h1, q1, l1, s1⟩ := alloc_stepO w 160 [.string xs, .int .i64 xi]
  have HV1 := Lib.hid h1
  have HQ1 := Lib.hid q1
  have L1 := Lib.hid l1
  have HB0 := Lib.hid hb
  have HB1 := Lib.hid (hb.bel l1)
  have c0 := hb.at 0
  have w1 : IntKind.i64.wrap ((n + 1 : Nat) - 1 : Int) = n := by rw [IntWalk.i64_in _ (by omega)]; omega
  have w2 : IntKind.i64.wrap ((n : Int) + 1 - 1) = n := by rw [IntWalk.i64_in _ (by omega)]; omega
  have w3 : ((n + 1 : Nat) : Int) - 1 = n := by omega
  have hni : (n : Int) < (n + 1 : Nat) := by omega
  clear hat fz hl ho h1 q1 l1 s1 hb
  go_enter Tryz.func259, Tryz.ntmps259
  go_upto_region 3 with fail
  rw [show w.alloc (.cells #[.string xs, .int .i64 xi] 160) = V1 from HV1.out]
  clear HV1
  have b0 := HB1.out.at 0
  have bf := HB1.out.fz 0
  obtain ⟨W2, hW2⟩ : ∃ W, V1.setCell ⟨qb, 0, none⟩ (.slice (some ⟨g, 0, none⟩) n c) = W := ⟨_, rfl⟩
  have q2 : Blk W2 w.heap.size 160 [.string xs, .int .i64 xi] := by rw [← hW2]; exact HQ1.out.far (p := ⟨qb, 0, none⟩) (by have := HB0.out.lt; show w.heap.size ≠ qb; omega) _
  have e0 := q2.at 0
  have e1 := q2.at 1
  have HFI : Hid (QAt B qb T W2 ∧ Below B w W2 ∧ KeepT keepH w W2) := Lib.hid (by
    rw [← hW2]
    have hin := own_bel HIN.out L1.out
    refine ⟨⟨_, HB1.out.set 0 _, own_set hin (p := ⟨qb, 0, none⟩) (own_ne hin HB1.out (by decide)) _⟩, (L1.out.mono hB).setCell (p := ⟨qb, 0, none⟩) hqb _, (KeepT.of_bel L1.out).trans (KeepT.set HB1.out keepH_types.2.1 0 _)⟩)
  have HW2 := Lib.hid hW2
  clear hW2 q2 c0 x0 x1
  go_upto_region 4 with fail
  rw [show V1.setCell ⟨qb, 0, none⟩ (.slice (some ⟨g, 0, none⟩) n c) = W2 from HW2.out]
  go_wp2_with fail
  go_ret
  exact ⟨rfl, HFI.out⟩
end Go.Proofs.YtbcdbefogfmhfaaGreatDoor

namespace Go.Proofs.YtbcdbefogfmhfaaGreatDoor
open Go.RowKit

/-- A bag of things in the queue, in some order. -/
def BagQ (B qb : Nat) (T : List Th) (w0 w : World) : Prop := ∃ T', T'.Perm T ∧ QAt B qb T' w ∧ Below B w0 w ∧ KeepT keepH w0 w
theorem BagQ.form {B qb : Nat} {T : List Th} {w0 w : World} (h : BagQ B qb T w0 w) : ∃ (T' : List Th) (a : Option Addr) (c : Nat), T'.Perm T ∧ T'.length = T.length ∧ w.cell? ⟨qb, 0, none⟩ = some (.slice a T.length c) ∧ OwnH B T' w (.slice a T.length c) ∧ Blk w qb 157 [.slice a T.length c] := by
  obtain ⟨T', hp, ⟨v, hb, ho⟩, _, _⟩ := h
  obtain ⟨a, c, rfl, _⟩ := ownH_form ho
  have hl := hp.length_eq
  rw [hl] at hb
  have ho' : OwnH B T' w (.slice a T.length c) := by rw [← hl]; exact ho
  exact ⟨T', a, c, hp, hl, hb.at 0, ho', hb⟩
theorem BagQ.bel {B qb : Nat} {T : List Th} {w0 w w' : World} (h : BagQ B qb T w0 w) (hB : B ≤ w.heap.size) (hb : Bel w w') : BagQ B qb T w0 w' := by
  obtain ⟨T', hp, ⟨v, hq, ho⟩, h1, h2⟩ := h
  exact ⟨T', hp, ⟨v, hq.bel hb, own_bel ho hb⟩, h1.trans (hb.mono hB), h2.trans (KeepT.of_bel hb)⟩
def keepG (t : TypeId) : Bool := !(t == 160)
theorem keepG_types : keepG 160 = false ∧ keepG 157 = true := by decide
theorem Blk.keepT {W W' : World} {p : TypeId → Bool} {b t : Nat} {cs : List Value} (h : Blk W b t cs) (k : KeepT p W W') (hp : p t = true) : Blk W' b t cs := (k.2 b _ _ _ h hp).trans h
def RetBag (B qb : Nat) (T : List Th) (w : World) (e : Ending) (w' : World) : Prop := e = .returned (.tuple #[]) ∧ BagQ B qb T w w'
/-- What Swap leaves. -/
theorem BagQ.swap {B qb : Nat} {T T1 T2 : List Th} {w0 w w' : World} {v : Value} (h : BagQ B qb T w0 w) (hp1 : T1.Perm T) (hq : Blk w qb 157 [v]) (hp2 : T2.Perm T1) (ho2 : OwnH B T2 w' v) (hb : Below B w w') (hk : ∀ p : TypeId → Bool, p 160 = false → KeepT p w w') : BagQ B qb T w0 w' := by
  obtain ⟨_, _, _, h1, h2⟩ := h
  exact ⟨T2, hp2.trans hp1, ⟨v, hq.keepT (hk keepG keepG_types.1) keepG_types.2, ho2⟩, h1.trans hb, h2.trans (hk keepH keepH_types.1)⟩
set_option maxRecDepth 100000 in
set_option maxHeartbeats 8000000 in
theorem hup_c (B qb : Nat) (T : List Th) (j : Nat) (w : World) (hB : B ≤ w.heap.size) (hq : BagQ B qb T w w) (hj : j < T.length) (hs : T.length ≤ 1073741824) :
    Calls Tryz.prog 129 #[.iface 155 (.pointer (some ⟨qb, 0, none⟩)), .int .i64 j] w (RetBag B qb T w) := by
  have HQ := Lib.hid hq
  obtain ⟨n, hn⟩ : ∃ n, T.length = n := ⟨_, rfl⟩
  have HN := Lib.hid hn
  rw [hn] at hj hs
  clear hq hn
  go_enter Tryz.func129, Tryz.ntmps129
  go_wp2_with fail
  go_loopw [1] (fun i wr => ∃ k : Nat, i = .int .i64 k ∧ k < n ∧ Hid (BagQ B qb T w wr)) (fun i _ => (intOf i).toNat)
  case atStart => exact ⟨j, rfl, hj, HQ⟩
  case round =>
    obtain ⟨k, rfl, hk, HK⟩ := hrel
    by_cases hk0 : k = 0
    · subst hk0
      have h1 : IntKind.i64.wrap (((0 : Nat) : Int) - 1) = -1 := by decide
      have h2 : (-1 : Int).tdiv 2 = 0 := by decide
      go_wp2_with fail
      go_end0
      exact ⟨rfl, HK.out⟩
    · have h1 : IntKind.i64.wrap ((k : Int) - 1) = k - 1 := by rw [IntWalk.i64_in _ (by omega)]
      obtain ⟨q, hq, hqk⟩ : ∃ q : Nat, ((k : Int) - 1).tdiv 2 = q ∧ q < k := ⟨(((k : Int) - 1).tdiv 2).toNat, by rw [Int.tdiv_eq_ediv_of_nonneg (by omega)]; omega, by rw [Int.tdiv_eq_ediv_of_nonneg (by omega)]; omega⟩
      have hwq : IntKind.i64.wrap (q : Int) = q := IntWalk.i64_in _ (by omega)
      have hwq2 : wrap64 (q : Int) = q := IntWalk.wrap64_in _ (by omega)
      have hqe : ((q : Int) == k) = false := by simp; omega
      obtain ⟨T1, a, c, hp1, hl1, c0, ho1, hb1⟩ := HK.out.form
      rw [HN.out] at hl1 c0 ho1 hb1
      have hBw : B ≤ wr.heap.size := by obtain ⟨_, _, _, h3, _⟩ := HK.out; have := h3.size; omega
      have hml := meth_less c0
      have HCL := Lib.hid (qless_c B T1 _ k q wr ho1 (by omega) (by omega) (by omega))
      have HP1 := Lib.hid hp1
      have HO1 := Lib.hid ho1
      have HB1 := Lib.hid hb1
      have HL1 := Lib.hid hl1
      have HBW := Lib.hid hBw
      clear hp1 hl1 ho1 hb1 hBw
      go_wp2_with fail
      refine HCL.out.mono ?_
      rintro e1 w1 ⟨b, rfl, hb⟩
      have c1 := hb.keep c0
      have HK1 := Lib.hid (HK.out.bel HBW.out hb)
      have hms := meth_swap c1
      have HCS := Lib.hid (qswap_c B T1 _ q k w1 (Nat.le_trans HBW.out hb.size) (own_bel HO1.out hb) (by have := HL1.out; omega) (by have := HL1.out; omega) (by have := HL1.out; omega))
      have HO2 := Lib.hid (HB1.out.bel hb)
      clear hml c0 hb HCL HBW HK
      cases b with
      | false =>
        go_wp2_with fail
        go_end0
        exact ⟨rfl, HK1.out⟩
      | true =>
        go_wp2_with fail
        refine HCS.out.mono ?_
        rintro e2 w2 ⟨rfl, ⟨T2, hp2, ho2⟩, hb2, hk2⟩
        have HX := Lib.hid (HK1.out.swap HP1.out HO2.out hp2 ho2 hb2 hk2)
        clear hms c1 hp2 ho2 hb2 hk2 HCS
        go_wp2_with fail
        exact ⟨⟨q, rfl, by omega, HX⟩, by simp [intOf]; omega⟩
set_option maxRecDepth 100000 in
set_option maxHeartbeats 16000000 in
theorem hdown_c (B qb : Nat) (T : List Th) (i0 n0 : Nat) (w : World) (hB : B ≤ w.heap.size) (hq : BagQ B qb T w w) (hi : i0 < T.length) (hn0 : n0 ≤ T.length) (hs : T.length ≤ 1073741824) :
    Calls Tryz.prog 130 #[.iface 155 (.pointer (some ⟨qb, 0, none⟩)), .int .i64 i0, .int .i64 n0] w fun e w' => ∃ b, e = .returned (.bool b) ∧ BagQ B qb T w w' := by
  have HQ := Lib.hid hq
  obtain ⟨n, hn⟩ : ∃ n, T.length = n := ⟨_, rfl⟩
  have HN := Lib.hid hn
  rw [hn] at hi hn0 hs
  clear hq hn
  go_enter Tryz.func130, Tryz.ntmps130
  go_wp2_with fail
  go_loopw [7] (fun i wr => ∃ k : Nat, i = .int .i64 k ∧ k < n ∧ Hid (BagQ B qb T w wr)) (fun i _ => n - (intOf i).toNat)
  case atStart => exact ⟨i0, rfl, hi, HQ⟩
  case round =>
    obtain ⟨k, rfl, hk, HK⟩ := hrel
    have g1 : IntKind.i64.wrap (2 * (k : Int)) = 2 * k := IntWalk.i64_in _ (by omega)
    obtain ⟨j1, hj1⟩ : ∃ j1, j1 = 2 * k + 1 := ⟨_, rfl⟩
    have g2 : IntKind.i64.wrap (2 * (k : Int) + 1) = j1 := by rw [IntWalk.i64_in _ (by omega)]; omega
    have HJ1 := Lib.hid hj1
    have hkj : k < j1 := by omega
    have hj1b : j1 ≤ 2147483649 := by omega
    clear hj1
    by_cases h1 : j1 < n0
    · have h1i : ¬ (n0 : Int) ≤ j1 := by omega
      have h1j : ¬ (j1 : Int) < 0 := by omega
      obtain ⟨j2, hj2⟩ : ∃ j2, j2 = j1 + 1 := ⟨_, rfl⟩
      have g3 : IntKind.i64.wrap ((j1 : Int) + 1) = j2 := by rw [IntWalk.i64_in _ (by omega)]; omega
      have hkj2 : k < j2 := by omega
      have hj2b : j2 ≤ 2147483650 := by omega
      clear hj2
      obtain ⟨T1, a, c, hp1, hl1, c0, ho1, hb1⟩ := HK.out.form
      rw [HN.out] at hl1 c0 ho1 hb1
      have hBw : B ≤ wr.heap.size := by obtain ⟨_, _, _, h3, _⟩ := HK.out; have := h3.size; omega
      have HP1 := Lib.hid hp1
      have HO1 := Lib.hid ho1
      have HB1 := Lib.hid hb1
      have HL1 := Lib.hid hl1
      have HBW := Lib.hid hBw
      clear hp1 hl1 ho1 hb1 hBw
      by_cases h2 : j2 < n0
      · have h2i : (j2 : Int) < n0 := by omega
        have hml := meth_less c0
        have HCL := Lib.hid (qless_c B T1 _ j2 j1 wr HO1.out (by have := HL1.out; omega) (by have := HL1.out; omega) (by have := HL1.out; omega))
        go_wp2_with fail
        refine HCL.out.mono ?_
        rintro e1 w1 ⟨b, rfl, hb⟩
        have c1 := hb.keep c0
        have HBX := Lib.hid hb
        clear hml c0 hb HCL
        cases b with
        | true =>
          have hmk := meth_less c1
          have HCM := Lib.hid (qless_c B T1 _ j2 k w1 (own_bel HO1.out HBX.out) (by have := HL1.out; omega) (by have := HL1.out; omega) (by have := HL1.out; omega))
          have HBE := Lib.hid (HBX.out)
          go_wp2_with fail
          refine HCM.out.mono ?_
          rintro e5 w5 ⟨b5, rfl, hb5⟩
          have c5 := hb5.keep c1
          have HK5 := Lib.hid (HK.out.bel HBW.out (HBE.out.trans hb5))
          have hms := meth_swap c5
          have HCS := Lib.hid (qswap_c B T1 _ k j2 w5 (Nat.le_trans HBW.out (HBE.out.trans hb5).size) (own_bel HO1.out (HBE.out.trans hb5)) (by have := HL1.out; omega) (by have := HL1.out; omega) (by have := HL1.out; omega))
          have HO5 := Lib.hid (HB1.out.bel (HBE.out.trans hb5))
          clear hmk c1 hb5 HCM HBE
          cases b5 with
          | false =>
            go_wp2_with fail
            go_ret
            exact ⟨_, rfl, HK5.out⟩
          | true =>
            go_wp2_with fail
            refine HCS.out.mono ?_
            rintro e6 w6 ⟨rfl, ⟨T2, hp2, ho2⟩, hb6, hk6⟩
            have HX := Lib.hid (HK5.out.swap HP1.out HO5.out hp2 ho2 hb6 hk6)
            clear hms c5 hp2 ho2 hb6 hk6 HCS
            go_wp2_with fail
            exact ⟨⟨j2, rfl, by omega, HX⟩, by simp [intOf]; omega⟩
        | false =>
          have hmk := meth_less c1
          have HCM := Lib.hid (qless_c B T1 _ j1 k w1 (own_bel HO1.out HBX.out) (by have := HL1.out; omega) (by have := HL1.out; omega) (by have := HL1.out; omega))
          have HBE := Lib.hid (HBX.out)
          go_wp2_with fail
          refine HCM.out.mono ?_
          rintro e5 w5 ⟨b5, rfl, hb5⟩
          have c5 := hb5.keep c1
          have HK5 := Lib.hid (HK.out.bel HBW.out (HBE.out.trans hb5))
          have hms := meth_swap c5
          have HCS := Lib.hid (qswap_c B T1 _ k j1 w5 (Nat.le_trans HBW.out (HBE.out.trans hb5).size) (own_bel HO1.out (HBE.out.trans hb5)) (by have := HL1.out; omega) (by have := HL1.out; omega) (by have := HL1.out; omega))
          have HO5 := Lib.hid (HB1.out.bel (HBE.out.trans hb5))
          clear hmk c1 hb5 HCM HBE
          cases b5 with
          | false =>
            go_wp2_with fail
            go_ret
            exact ⟨_, rfl, HK5.out⟩
          | true =>
            go_wp2_with fail
            refine HCS.out.mono ?_
            rintro e6 w6 ⟨rfl, ⟨T2, hp2, ho2⟩, hb6, hk6⟩
            have HX := Lib.hid (HK5.out.swap HP1.out HO5.out hp2 ho2 hb6 hk6)
            clear hms c5 hp2 ho2 hb6 hk6 HCS
            go_wp2_with fail
            exact ⟨⟨j1, rfl, by omega, HX⟩, by simp [intOf]; omega⟩
      · have h2i : ¬ (j2 : Int) < n0 := by omega
        have hmk := meth_less c0
        have HCM := Lib.hid (qless_c B T1 _ j1 k wr (own_bel HO1.out (Bel.refl wr)) (by have := HL1.out; omega) (by have := HL1.out; omega) (by have := HL1.out; omega))
        have HBE := Lib.hid ((Bel.refl wr))
        go_wp2_with fail
        refine HCM.out.mono ?_
        rintro e5 w5 ⟨b5, rfl, hb5⟩
        have c5 := hb5.keep c0
        have HK5 := Lib.hid (HK.out.bel HBW.out (HBE.out.trans hb5))
        have hms := meth_swap c5
        have HCS := Lib.hid (qswap_c B T1 _ k j1 w5 (Nat.le_trans HBW.out (HBE.out.trans hb5).size) (own_bel HO1.out (HBE.out.trans hb5)) (by have := HL1.out; omega) (by have := HL1.out; omega) (by have := HL1.out; omega))
        have HO5 := Lib.hid (HB1.out.bel (HBE.out.trans hb5))
        clear hmk c0 hb5 HCM HBE
        cases b5 with
        | false =>
          go_wp2_with fail
          go_ret
          exact ⟨_, rfl, HK5.out⟩
        | true =>
          go_wp2_with fail
          refine HCS.out.mono ?_
          rintro e6 w6 ⟨rfl, ⟨T2, hp2, ho2⟩, hb6, hk6⟩
          have HX := Lib.hid (HK5.out.swap HP1.out HO5.out hp2 ho2 hb6 hk6)
          clear hms c5 hp2 ho2 hb6 hk6 HCS
          go_wp2_with fail
          exact ⟨⟨j1, rfl, by omega, HX⟩, by simp [intOf]; omega⟩
    · have h1i : (n0 : Int) ≤ j1 := by omega
      go_wp2_with fail
      go_ret
      exact ⟨_, rfl, HK.out⟩
set_option maxRecDepth 100000 in
set_option maxHeartbeats 8000000 in
/-- heap.Push. -/
theorem hpush_c (B qb : Nat) (T : List Th) (x : Th) (w : World) (hB : B ≤ w.heap.size) (hqb : B ≤ qb) (hq : QAt B qb T w) (hs : T.length ≤ 1073741820) :
    Calls Tryz.prog 106 #[.iface 155 (.pointer (some ⟨qb, 0, none⟩)), .iface 160 (.agg #[.string x.1, .int .i64 x.2])] w (RetBag B qb (T ++ [x]) w) := by
  obtain ⟨v, hb, ho⟩ := hq
  have HC := Lib.hid (qpush_c B qb T v x w hB hqb hb ho (by omega))
  have hm := meth_push ⟨qb, 0, none⟩
  have hl : (T ++ [x]).length = T.length + 1 := by rw [List.length_append]; rfl
  obtain ⟨n, hn⟩ : ∃ n, T.length = n := ⟨_, rfl⟩
  rw [hn] at hl hs
  have HL := Lib.hid hl
  clear hb ho hn hl
  go_enter Tryz.func106, Tryz.ntmps106
  go_wp2_with fail
  refine HC.out.mono ?_
  rintro e1 w1 ⟨rfl, ⟨v1, hb1, ho1⟩, hbl, hkp⟩
  have hB1 : B ≤ w1.heap.size := Nat.le_trans hB hbl.size
  have hbag : BagQ B qb (T ++ [x]) w1 w1 := ⟨T ++ [x], List.Perm.refl _, ⟨v1, hb1, ho1⟩, Below.refl _ _, KeepT.refl _ _⟩
  obtain ⟨a, c, rfl, _⟩ := ownH_form ho1
  rw [HL.out] at hb1
  have c1 := hb1.at 0
  have hme := meth_len c1
  have HCU := Lib.hid (hup_c B qb (T ++ [x]) n w1 hB1 hbag (by have := HL.out; omega) (by have := HL.out; omega))
  have HB1 := Lib.hid hbl
  have HK1 := Lib.hid hkp
  have g1 : IntKind.i64.wrap (((n + 1 : Nat) : Int) - 1) = n := by rw [IntWalk.i64_in _ (by omega)]; omega
  have g2 : IntKind.i64.wrap ((n : Int) + 1 - 1) = n := by rw [IntWalk.i64_in _ (by omega)]; omega
  have g3 : ((n + 1 : Nat) : Int) - 1 = n := by omega
  have HQL := Lib.hid fun W => qlen_c a (n + 1) c W
  clear hb1 ho1 hbl hkp hbag HC hB1
  go_wp2_with fail
  refine (HQL.out _).mono ?_
  rintro e2 w2 ⟨rfl, rfl⟩
  go_wp2_with fail
  refine HCU.out.mono ?_
  rintro e3 w3 ⟨rfl, T', hp, hq3, hb3, hk3⟩
  have HX : Hid (BagQ B qb (T ++ [x]) w w3) := Lib.hid ⟨T', hp, hq3, HB1.out.trans hb3, HK1.out.trans hk3⟩
  clear hp hq3 hb3 hk3
  go_wp2_with fail
  go_end0
  exact ⟨rfl, HX.out⟩
/-- What heap.Pop leaves: one of the bag is told, the others stay. -/
def RetPop (B qb : Nat) (T : List Th) (w : World) (e : Ending) (w' : World) : Prop := ∃ (x : Th) (R : List Th), (x :: R).Perm T ∧ e = .returned (.iface 160 (.agg #[.string x.1, .int .i64 x.2])) ∧ QAt B qb R w' ∧ Below B w w' ∧ KeepT keepH w w'
set_option maxRecDepth 100000 in
set_option maxHeartbeats 8000000 in
theorem hpop_c (B qb : Nat) (T : List Th) (w : World) (hB : B ≤ w.heap.size) (hqb : B ≤ qb) (hq : QAt B qb T w) (h0 : 0 < T.length) (hs : T.length ≤ 1073741820) :
    Calls Tryz.prog 108 #[.iface 155 (.pointer (some ⟨qb, 0, none⟩))] w (RetPop B qb T w) := by
  have hbag : BagQ B qb T w w := ⟨T, List.Perm.refl _, hq, Below.refl _ _, KeepT.refl _ _⟩
  obtain ⟨T1, a, c, hp1, hl1, c0, ho1, hb1⟩ := hbag.form
  obtain ⟨n, hn⟩ : ∃ n, T.length = n + 1 := ⟨T.length - 1, by omega⟩
  rw [hn] at hl1 c0 ho1 hb1 hs
  have hme := meth_len c0
  have hms := meth_swap c0
  have HCS := Lib.hid (qswap_c B T1 _ 0 n w hB ho1 (by omega) (by omega) (by omega))
  have HBG := Lib.hid hbag
  have HP1 := Lib.hid hp1
  have HB1 := Lib.hid hb1
  have HN := Lib.hid hn
  have HQL := Lib.hid fun W => qlen_c a (n + 1) c W
  have g1 : IntKind.i64.wrap (((n + 1 : Nat) : Int) - 1) = n := by rw [IntWalk.i64_in _ (by omega)]; omega
  have g2 : IntKind.i64.wrap ((n : Int) + 1 - 1) = n := by rw [IntWalk.i64_in _ (by omega)]; omega
  have g3 : ((n + 1 : Nat) : Int) - 1 = n := by omega
  clear hbag hp1 hl1 ho1 hb1 hn hq h0
  go_enter Tryz.func108, Tryz.ntmps108
  go_wp2_with fail
  refine (HQL.out _).mono ?_
  rintro e1 w1 ⟨rfl, rfl⟩
  go_wp2_with fail
  refine HCS.out.mono ?_
  rintro e2 w2 ⟨rfl, ⟨T2, hp2, ho2⟩, hb2, hk2⟩
  have hx := HBG.out.swap HP1.out HB1.out hp2 ho2 hb2 hk2
  have hB2 : B ≤ w2.heap.size := Nat.le_trans hB hb2.size
  obtain ⟨T3, hp3, hq3, hb3, hk3⟩ := hx
  have HB3 := Lib.hid hb3
  have HK3 := Lib.hid hk3
  have hbag2 : BagQ B qb T w2 w2 := ⟨T3, hp3, hq3, Below.refl _ _, KeepT.refl _ _⟩
  have HCD := Lib.hid (hdown_c B qb T 0 n w2 hB2 hbag2 (by have := HN.out; omega) (by have := HN.out; omega) (by have := HN.out; omega))
  have HB2 := Lib.hid hB2
  have hmp := meth_pop ⟨qb, 0, none⟩
  clear hme hms c0 hp2 ho2 hb2 hk2 hB2 hp3 hq3 hb3 hk3 hbag2 HCS HBG HP1 HB1
  go_wp2_with fail
  refine HCD.out.mono ?_
  rintro e3 w3 ⟨b3, rfl, T4, hp4, hq4, hb4, hk4⟩
  have hl4 := hp4.length_eq
  rw [HN.out] at hl4
  obtain ⟨R, x, rfl⟩ : ∃ R x, T4 = R ++ [x] := ⟨T4.dropLast, T4.getLast (by intro e; rw [e] at hl4; simp at hl4), (List.dropLast_concat_getLast _).symm⟩
  rw [List.length_append, List.length_singleton] at hl4
  have HCP := Lib.hid (qpop_c B qb R x w3 (Nat.le_trans HB2.out hb4.size) hqb hq4 (by omega))
  have HB4 := Lib.hid (HB3.out.trans hb4)
  have HK4 := Lib.hid (HK3.out.trans hk4)
  have HP4 := Lib.hid (show (x :: R).Perm T from (List.perm_append_singleton x R).symm.trans hp4)
  clear hp4 hq4 hb4 hk4 hl4 HCD
  go_wp2_with fail
  refine HCP.out.mono ?_
  rintro e5 w5 ⟨rfl, hq5, hb5, hk5⟩
  have HX : Hid (RetPop B qb T w (.returned (.iface 160 (.agg #[.string x.1, .int .i64 x.2]))) w5) := Lib.hid ⟨x, R, HP4.out, rfl, hq5, HB4.out.trans hb5, HK4.out.trans hk5⟩
  clear hq5 hb5 hk5
  go_wp2_with fail
  go_ret
  exact HX.out
end Go.Proofs.YtbcdbefogfmhfaaGreatDoor
