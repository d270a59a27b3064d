/-
  The walk of the law ExprTests: whatever the expression and the kind: true.
-/
import Derived.Test.YtgfikaagoflbbaaGreatDoorLawExprScopes
namespace Go.Proofs.YtgfikaagoflbbaaGreatDoor
open Go.RowKit

def tE (s : ByteArray) (e : Ex) : Ex := .mk 19 s [] [e]
def inE (a b : Ex) : Ex := .mk 7 ⟨#[]⟩ [] [a, b]
def negE (a : Ex) : Ex := .mk 4 ⟨#[]⟩ [] [a]
def listE (l : List Ex) : Ex := .mk 16 ⟨#[]⟩ [] l
theorem check_any {e : Ex} (h : e.k ≠ 19) (t : Bool) : checkE e t = checkE e true := by
  rw [checkE_eq, checkE_eq]
  have : ownK e.k e.s e.ns e.l.length t = ownK e.k e.s e.ns e.l.length true := by
    unfold ownK formE
    rw [decide_eq_false h]
    simp
  rw [this]
theorem own_t {s : ByteArray} (hs : s ∈ testS) : ownK 19 s [] 1 true = 0 ∧ ownK 19 s [] 1 false = 17 := by
  have h : ∀ t, ownK 19 s [] 1 t = if t = true then 0 else 17 := by
    intro t
    unfold ownK formE
    have h1 : textK 19 s = true := by unfold textK; simp [hs]
    rw [h1]
    cases t <;> simp [partsK, namesK, namedK]
  exact ⟨h true, h false⟩
theorem check_one (k : Int) (s : ByteArray) (a : Ex) (t : Bool) : checkE (.mk k s [] [a]) t = if ownK k s [] 1 t = 0 then checkE a false else ownK k s [] 1 t := by
  rw [checkE_eq]
  show (if ownK k s [] 1 t = 0 then checksE (decide (k = 7)) 0 [a] else ownK k s [] 1 t) = _
  unfold checksE checksE
  simp
  split
  · split <;> simp_all
  · rfl
theorem check_two (k : Int) (s : ByteArray) (a b : Ex) (t : Bool) : checkE (.mk k s [] [a, b]) t = if ownK k s [] 2 t = 0 then (if checkE a false = 0 then checkE b (decide (k = 7)) else checkE a false) else ownK k s [] 2 t := by
  rw [checkE_eq]
  show (if ownK k s [] 2 t = 0 then checksE (decide (k = 7)) 0 [a, b] else ownK k s [] 2 t) = _
  unfold checksE checksE checksE
  simp
  split
  · split
    · split <;> simp_all
    · rfl
  · rfl
theorem check_te {s : ByteArray} (hs : s ∈ testS) {e : Ex} (h : checkE e true = 0) (hk : e.k ≠ 19) : checkE (tE s e) true = 0 ∧ checkE (tE s e) false = 17 := by
  unfold tE
  rw [check_one, check_one, (own_t hs).1, (own_t hs).2, check_any hk, h]
  simp
theorem own_in (t : Bool) : ownK 7 ⟨#[]⟩ [] 2 t = 0 := by cases t <;> decide +kernel
theorem own_neg (t : Bool) : ownK 4 ⟨#[]⟩ [] 1 t = 0 := by cases t <;> decide +kernel
theorem own_list1 (t : Bool) : ownK 16 ⟨#[]⟩ [] 1 t = 0 := by cases t <;> decide +kernel
theorem own_list2 (t : Bool) : ownK 16 ⟨#[]⟩ [] 2 t = 0 := by cases t <;> decide +kernel
theorem deep_le {e : Ex} (h : dE e ≤ 200) : deepE e 200 = false := by rw [deepE_iff]; simp; omega
theorem check_top {e : Ex} (h : dE e ≤ 200) : CheckE e = checkE e true := by unfold CheckE; rw [deep_le h]; simp
theorem d_in {a b : Ex} {n : Nat} (ha : dE a ≤ n) (hb : dE b ≤ n) : dE (inE a b) ≤ n + 1 := by unfold inE dE dsE dsE dsE; omega
section
variable {e : Ex} {s : ByteArray} (hs : s ∈ testS) (h : checkE e true = 0) (hk : e.k ≠ 19) (hd : dE e ≤ 100)
include hd
theorem d_t : dE (tE s e) ≤ 101 := by unfold tE dE dsE dsE; omega
include hs h hk
theorem tests_t : CheckE (tE s e) = 0 := by
  rw [check_top (Nat.le_trans (d_t hd) (by decide)), (check_te hs h hk).1]
theorem tests_in : CheckE (inE e (tE s e)) = 0 := by
  rw [check_top (Nat.le_trans (d_in (n := 101) (by omega) (d_t hd)) (by decide))]
  unfold inE
  rw [check_two, own_in, check_any hk, h]
  simp [(check_te hs h hk).1]
theorem tests_out : CheckE (inE (tE s e) e) = 17 := by
  rw [check_top (Nat.le_trans (d_in (n := 101) (d_t hd) (by omega)) (by decide))]
  unfold inE
  rw [check_two, own_in, (check_te hs h hk).2]
  simp
theorem tests_neg : CheckE (negE (tE s e)) = 17 := by
  rw [check_top (by have := d_t (s := s) hd; unfold negE dE dsE dsE; omega)]
  unfold negE
  rw [check_one, own_neg, (check_te hs h hk).2]
  simp
theorem tests_list : CheckE (listE [e, tE s e]) = 17 := by
  rw [check_top (by have := d_t (s := s) hd; unfold listE dE dsE dsE dsE; omega)]
  unfold listE
  rw [check_two, own_list2, check_any hk, h]
  simp [(check_te hs h hk).2]
theorem tests_test {u : ByteArray} (hu : u ∈ testS) : CheckE (tE u (tE s e)) = 17 := by
  rw [check_top (by have := d_t (s := s) hd; unfold tE at this ⊢; unfold dE dsE dsE; omega)]
  conv => lhs; unfold tE
  rw [check_one, (own_t hu).1]
  have := (check_te hs h hk).2
  unfold tE at this
  simp [this]
theorem tests_deep : CheckE (inE e (listE [tE s e])) = 17 := by
  rw [check_top (by have := d_t (s := s) hd; exact Nat.le_trans (d_in (n := 102) (by omega) (by unfold listE dE dsE dsE; omega)) (by decide))]
  unfold inE
  rw [check_two, own_in, check_any hk, h]
  have : checkE (listE [tE s e]) true = 17 := by
    unfold listE
    rw [check_one, own_list1, (check_te hs h hk).2]
    simp
  simp [this]
end
theorem free_no3 {k : Int} {s : ByteArray} {l : List Ex} (hk : k ≠ 3) (B : List ByteArray) : freeE (.mk k s [] l) B = freesE k s [] 0 l B := by
  unfold freeE
  rw [if_neg (fun h => hk h.1), List.nil_append]
theorem given_7 (i : Nat) : givenK 7 (⟨#[]⟩ : ByteArray) [] i = [] := by unfold givenK; simp
theorem given_19 (s : ByteArray) (i : Nat) : givenK 19 s [] i = [] := by unfold givenK; simp
theorem tests_free (s : ByteArray) (e : Ex) : uniqS (freeE (inE e (tE s e)) []) = uniqS (freeE e []) := by
  refine uniq_ext fun x => ?_
  unfold inE tE
  rw [free_no3 (by decide)]
  unfold freesE freesE freesE
  rw [given_7, given_7, free_no3 (by decide)]
  unfold freesE freesE
  rw [given_19]
  simp
theorem tests_count (s : ByteArray) (e : Ex) : cE (inE e (tE s e)) = 2 * cE e + 2 := by
  unfold inE tE
  rw [cE_eq]
  show csE [e, .mk 19 s [] [e]] + 1 = _
  unfold csE csE csE
  rw [cE_eq (.mk 19 s [] [e])]
  show cE e + (csE [e] + 1 + 0) + 1 = _
  unfold csE csE
  omega
theorem bulk_te (s : ByteArray) (e : Ex) : (tE s e).bulk = s.size + e.bulk + 1 := by
  rw [bulk_eq]
  show s.size + 0 + Ex.bulk.bulks [e] + 1 = _
  unfold Ex.bulk.bulks Ex.bulk.bulks
  omega
theorem bulk_in (a b : Ex) : (inE a b).bulk = a.bulk + b.bulk + 1 := by
  rw [bulk_eq]
  show 0 + 0 + Ex.bulk.bulks [a, b] + 1 = _
  unfold Ex.bulk.bulks Ex.bulk.bulks Ex.bulk.bulks
  omega
theorem bulk_neg (a : Ex) : (negE a).bulk = a.bulk + 1 := by
  rw [bulk_eq]
  show 0 + 0 + Ex.bulk.bulks [a] + 1 = _
  unfold Ex.bulk.bulks Ex.bulk.bulks
  omega
theorem bulk_list1 (a : Ex) : (listE [a]).bulk = a.bulk + 1 := by
  rw [bulk_eq]
  show 0 + 0 + Ex.bulk.bulks [a] + 1 = _
  unfold Ex.bulk.bulks Ex.bulk.bulks
  omega
theorem bulk_list2 (a b : Ex) : (listE [a, b]).bulk = a.bulk + b.bulk + 1 := by
  rw [bulk_eq]
  show 0 + 0 + Ex.bulk.bulks [a, b] + 1 = _
  unfold Ex.bulk.bulks Ex.bulk.bulks Ex.bulk.bulks
  omega
end Go.Proofs.YtgfikaagoflbbaaGreatDoor
