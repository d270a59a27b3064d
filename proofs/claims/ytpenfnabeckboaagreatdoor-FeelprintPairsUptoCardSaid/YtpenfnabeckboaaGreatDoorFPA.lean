/-
  feelprint: expressions' texts (plain).
-/
import Derived.Test.YtpenfnabeckboaaGreatDoorEXD
import Derived.Test.YtpenfnabeckboaaGreatDoorMJ
namespace Go.Proofs.YtpenfnabeckboaaGreatDoor
open Go.RowKit

/-- A text's bytes. -/
def btsOf (s : ByteArray) : List UInt8 := s.data.toList
/-- How an expression's own text is quoted. -/
def qB (s : ByteArray) : List UInt8 := btsOf (quoteB s)
def signsP : List (ByteArray × Nat) := [(⟨#[111, 114]⟩, 1), (⟨#[97, 110, 100]⟩, 2), (⟨#[61]⟩, 3), (⟨#[33, 61]⟩, 3), (⟨#[60]⟩, 3), (⟨#[60, 61]⟩, 3), (⟨#[62]⟩, 3), (⟨#[62, 61]⟩, 3), (⟨#[43]⟩, 4), (⟨#[45]⟩, 4), (⟨#[42]⟩, 5), (⟨#[47]⟩, 5), (⟨#[42, 42]⟩, 6)]
def signLv (s : ByteArray) : Option Nat := (signsP.reverse.find? fun x => decide (x.1 = s)).map (·.2)
/-- How tightly one holds together. -/
def levelE (e : Ex) : Nat :=
  if 11 ≤ e.k ∧ e.k ≤ 15 then 0 else if e.k = 6 ∨ e.k = 7 ∨ e.k = 19 then 3 else if e.k = 4 then 7 else if e.k = 5 then (signLv e.s).getD 8 else 8
/-- A part: its kind, its level, its text. -/
structure Pt where
  k : Int
  lv : Nat
  t : List UInt8
def partT (bare : Bool) (lev : Nat) (p : Pt) : List UInt8 := if bare = true ∨ p.lv < lev then [40] ++ p.t ++ [41] else p.t
def atT (bare : Bool) (lev : Nat) (P : List Pt) (i : Nat) : List UInt8 := match P[i]? with | some p => partT bare lev p | none => []
/-- Parts in a row, with what stands ahead of each. -/
def listT (bare : Bool) (ns : List ByteArray) : Nat → List Pt → List UInt8
  | _, [] => []
  | i, p :: r => (if i = 0 then [] else [44, 32]) ++ ((match ns[i]? with | some x => btsOf x ++ [58, 32] | none => []) ++ (partT bare 0 p ++ listT bare ns (i + 1) r))
def wordsT (bare : Bool) (P : List Pt) (ws : List (List UInt8)) : List UInt8 := (P.zip ws).flatMap fun x => x.2 ++ partT bare 0 x.1
def joinT : List ByteArray → List UInt8
  | [] => []
  | [x] => btsOf x
  | x :: y :: r => btsOf x ++ ([44, 32] ++ joinT (y :: r))
/-- A form, of its parts' texts; q: how a text is quoted. -/
def shapeT (q : ByteArray → List UInt8) (bare : Bool) (k : Int) (s : ByteArray) (ns : List ByteArray) (P : List Pt) : List UInt8 :=
  if k = 0 ∨ k = 2 ∨ k = 3 then btsOf s
  else if k = 1 then q s
  else if k = 4 then [45] ++ atT bare 7 P 0
  else if k = 5 then (atT bare (if (signLv s).getD 0 = 3 then 4 else (signLv s).getD 0) P 0 ++ ([32] ++ btsOf s ++ [32])) ++ atT bare ((signLv s).getD 0 + 1) P 1
  else if k = 6 then atT bare 4 P 0 ++ [32, 98, 101, 116, 119, 101, 101, 110, 32] ++ atT bare 4 P 1 ++ [32, 97, 110, 100, 32] ++ atT bare 4 P 2
  else if k = 7 then atT bare 4 P 0 ++ [32, 105, 110, 32] ++ (match P[1]? with | some p => if p.k = 19 then p.t else partT bare 4 p | none => [])
  else if k = 8 then atT bare 8 P 0 ++ ([46] ++ btsOf s)
  else if k = 9 then atT bare 8 P 0 ++ [91] ++ atT bare 0 P 1 ++ [93]
  else if k = 10 then atT bare 8 P 0 ++ [40] ++ listT bare [] 0 P.tail ++ [41]
  else if k = 11 then wordsT bare P [[105, 102, 32], [32, 116, 104, 101, 110, 32], [32, 101, 108, 115, 101, 32]]
  else if k = 12 then wordsT bare P [[102, 111, 114, 32] ++ btsOf s ++ [32, 105, 110, 32], [32, 114, 101, 116, 117, 114, 110, 32]]
  else if k = 13 then wordsT bare P [[115, 111, 109, 101, 32] ++ btsOf s ++ [32, 105, 110, 32], [32, 115, 97, 116, 105, 115, 102, 105, 101, 115, 32]]
  else if k = 14 then wordsT bare P [[101, 118, 101, 114, 121, 32] ++ btsOf s ++ [32, 105, 110, 32], [32, 115, 97, 116, 105, 115, 102, 105, 101, 115, 32]]
  else if k = 15 then wordsT bare P [[102, 117, 110, 99, 116, 105, 111, 110, 40] ++ joinT ns ++ [41, 32]]
  else if k = 16 then [91] ++ listT bare [] 0 P ++ [93]
  else if k = 17 then [123] ++ listT bare ns 0 P ++ [125]
  else if k = 18 then wordsT bare P [(btsOf s).take 1, [46, 46]] ++ (btsOf s).drop 1
  else btsOf s ++ [32] ++ atT bare 4 P 0
mutual
/-- An expression's text. -/
def prE (q : ByteArray → List UInt8) (bare : Bool) : Ex → List UInt8
  | .mk k s ns l => shapeT q bare k s ns (prsE q bare l)
def prsE (q : ByteArray → List UInt8) (bare : Bool) : List Ex → List Pt
  | [] => []
  | x :: r => ⟨x.k, levelE x, prE q bare x⟩ :: prsE q bare r
end
theorem prE_eq (q : ByteArray → List UInt8) (bare : Bool) (e : Ex) : prE q bare e = shapeT q bare e.k e.s e.ns (prsE q bare e.l) := by
  obtain ⟨k, s, ns, l⟩ := e; unfold prE; rfl
theorem prsE_map (q : ByteArray → List UInt8) (bare : Bool) : ∀ l : List Ex, prsE q bare l = l.map fun x => ⟨x.k, levelE x, prE q bare x⟩
  | [] => by unfold prsE; rfl
  | x :: r => by unfold prsE; rw [prsE_map q bare r]; rfl
/-- The law FeelprintPrecedes' two trees. -/
def numX (d : UInt8) : Ex := .mk 0 ⟨#[d]⟩ [] []
def binX (s : ByteArray) (a b : Ex) : Ex := .mk 5 s [] [a, b]
def signX (i : Nat) : ByteArray := (signsP[i]?.map (·.1)).getD ⟨#[]⟩
def lvX (i : Nat) : Nat := (signsP[i]?.map (·.2)).getD 0
def leftX (i k : Nat) : Ex := binX (signX k) (binX (signX i) (numX 49) (numX 50)) (numX 51)
def rightX (i k : Nat) : Ex := binX (signX k) (numX 49) (binX (signX i) (numX 50) (numX 51))
def wantL (i k : Nat) : List UInt8 :=
  if lvX i < lvX k ∨ lvX i = 3 ∧ lvX k = 3 then [40, 49, 32] ++ btsOf (signX i) ++ [32, 50, 41, 32] ++ btsOf (signX k) ++ [32, 51]
  else [49, 32] ++ btsOf (signX i) ++ [32, 50, 32] ++ btsOf (signX k) ++ [32, 51]
def wantR (i k : Nat) : List UInt8 :=
  if lvX i ≤ lvX k then [49, 32] ++ btsOf (signX k) ++ [32, 40, 50, 32] ++ btsOf (signX i) ++ [32, 51, 41]
  else [49, 32] ++ btsOf (signX k) ++ [32, 50, 32] ++ btsOf (signX i) ++ [32, 51]
theorem precedes : ∀ i : Fin 13, ∀ k : Fin 13, prE qB false (leftX i k) = wantL i k ∧ prE qB false (rightX i k) = wantR i k := by decide +kernel
theorem precedes_ok : ∀ i : Fin 13, ∀ k : Fin 13, CheckE (leftX i k) = 0 ∧ CheckE (rightX i k) = 0 := by decide +kernel
end Go.Proofs.YtpenfnabeckboaaGreatDoor
