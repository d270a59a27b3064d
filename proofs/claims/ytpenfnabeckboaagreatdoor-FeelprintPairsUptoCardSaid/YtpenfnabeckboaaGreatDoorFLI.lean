/-
  feelprint: what Lex tells of the texts; tokens without parentheses (plain).
-/
import Derived.Test.YtpenfnabeckboaaGreatDoorFTD
import Derived.Test.YtpenfnabeckboaaGreatDoorFLY
import Derived.Test.YtpenfnabeckboaaGreatDoorFPO
namespace Go.Proofs.YtpenfnabeckboaaGreatDoor

def unT (x : Int × Nat × ByteArray) : TK := (x.1, x.2.2)
/-- A right expression's text has these tokens. -/
theorem lex_text {e : Ex} (h : CheckE e = 0) (bare : Bool) : ∃ n, ∃ L : List (Int × Nat × ByteArray), lexS (textE2 bare e) = (L, n, 0) ∧ L.map unT = tkE bare e ++ [(5, ⟨#[]⟩)] := by
  have hp := (pr_lex bare e.bulk e (Nat.le_refl _) (okE_of h)).1
  obtain ⟨h1, m, h2, h3⟩ := hp
  have ht : textE2 bare e = ⟨(prE qB bare e).toArray⟩ := by unfold textE2; rw [if_pos h]
  rw [ht]
  refine ⟨_, _, toks_lexS _ h1 m h2, ?_⟩
  rw [List.map_append, ← h3]
  rfl
/-- Is it a parenthesis? -/
def parT (x : Int × Nat × ByteArray) : Bool := decide (x.1 = 4) && (decide (x.2.2 = ⟨#[40]⟩) || decide (x.2.2 = ⟨#[41]⟩))
def plainT (L : List (Int × Nat × ByteArray)) : List (Int × Nat × ByteArray) := L.filter fun x => !parT x
theorem plainT_snoc (L : List (Int × Nat × ByteArray)) (x : Int × Nat × ByteArray) : plainT (L ++ [x]) = if parT x = true then plainT L else plainT L ++ [x] := by
  unfold plainT
  rw [List.filter_append, List.filter_cons, List.filter_nil]
  cases parT x
  · simp
  · simp
theorem plainT_map (L : List (Int × Nat × ByteArray)) : (plainT L).map unT = plainK (L.map unT) := by
  unfold plainT plainK
  rw [List.filter_map]
  congr 1
  apply List.filter_congr
  intro x _
  obtain ⟨k, i, s⟩ := x
  show (!parT (k, i, s)) = !(decide ((k, s) = sg 40) || decide ((k, s) = sg 41))
  unfold parT sg
  by_cases h1 : k = 4
  · subst h1; simp
  · simp [h1]
theorem plainT_le (L : List (Int × Nat × ByteArray)) : (plainT L).length ≤ L.length := List.length_filter_le _ _
/-- The tokens of both texts. -/
theorem lexes {e : Ex} (h : CheckE e = 0) : ∃ n m, ∃ La Lb : List (Int × Nat × ByteArray), lexS (textE2 false e) = (La, n, 0) ∧ lexS (textE2 true e) = (Lb, m, 0) ∧ La.length ≤ Lb.length ∧ (plainT La).map unT = (plainT Lb).map unT := by
  obtain ⟨n, La, h1, h2⟩ := lex_text h false
  obtain ⟨m, Lb, h3, h4⟩ := lex_text h true
  refine ⟨n, m, La, Lb, h1, h3, ?_, ?_⟩
  · have e1 := congrArg List.length h2
    have e2 := congrArg List.length h4
    have := tk_le e.bulk e (Nat.le_refl _) (okE_of h)
    simp only [List.length_map, List.length_append, List.length_cons, List.length_nil] at e1 e2
    omega
  · rw [plainT_map, plainT_map, h2, h4, plainK_append, plainK_append, pr_plain e.bulk e (Nat.le_refl _) (okE_of h)]
theorem text_size {e : Ex} (h : CheckE e = 0) (bare : Bool) : (textE2 bare e).size + 20 ≤ 60 * e.bulk := by
  have ht : textE2 bare e = ⟨(prE qB bare e).toArray⟩ := by unfold textE2; rw [if_pos h]
  rw [ht, size_mk]
  exact pr_size bare e.bulk e (Nat.le_refl _) (okE_of h)
/-- The i-th tokens of two lists that are the same but for the places. -/
theorem un_at {L M : List (Int × Nat × ByteArray)} (h : L.map unT = M.map unT) {i : Nat} {x y : Int × Nat × ByteArray} (hx : L[i]? = some x) (hy : M[i]? = some y) : x.1 = y.1 ∧ x.2.2 = y.2.2 := by
  have := congrArg (fun l => l[i]?) h
  simp only [List.getElem?_map, hx, hy, Option.map_some, Option.some.injEq] at this
  exact ⟨congrArg (fun t : TK => t.1) this, congrArg (fun t : TK => t.2) this⟩
end Go.Proofs.YtpenfnabeckboaaGreatDoor
