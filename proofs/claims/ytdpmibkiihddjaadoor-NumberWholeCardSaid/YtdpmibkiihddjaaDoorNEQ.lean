/-
  Two numbers (a text and a scale) held against each other by '==' and '!='.
-/
import Derived.Test.YtdpmibkiihddjaaDoorProg
import Derived.Test.YtdpmibkiihddjaaDoorU
import Derived.Laws.StructEq
import Derived.Lib.TrimByte
namespace Go.Proofs.YtdpmibkiihddjaaDoor
open Go.RowKit

/-- Are they the same? -/
def numEq (s : ByteArray) (a : Int) (t : ByteArray) (b : Int) : Bool := decide (s = t ∧ a = b)
theorem numEq_true {s : ByteArray} {a : Int} {t : ByteArray} {b : Int} : numEq s a t b = true ↔ s = t ∧ a = b := by simp [numEq]
theorem numFields : Tryd.prog.underlying 24 = some (.struct (Tryd.prog.fieldsOf 24)) := by kernel_rfl
theorem numStood : Tryd.prog.stoodInHeld 24 = false := by kernel_rfl
theorem numGuard : Tryd.prog.eqGuardType Tryd.prog.depth 24 = false := by kernel_rfl
set_option maxRecDepth 100000 in
theorem num_eqFields (n : Nat) (s : ByteArray) (a : Int) (t : ByteArray) (b : Int) (w : World) :
    (Op.eqFields (n + 1) #[.string s, .int .i64 a] #[.string t, .int .i64 b] (Tryd.prog.fieldsOf 24).toList).run Tryd.prog w = .ok (numEq s a t b) w := by
  have hfs := numFields
  rw [Tryd.underlying24] at hfs
  have e1 : ∀ (s t : ByteArray) w1, (Op.equalIn (n + 1) 9 (.string s) (.string t)).run Tryd.prog w1 = .ok (s.toList == t.toList) w1 := fun s t w1 => run_equalIn_string (P := Tryd.prog) w1 n 9 s t Tryd.underlying9
  have e2 : ∀ (a b : Int) w1, (Op.equalIn (n + 1) 3 (.int .i64 a) (.int .i64 b)).run Tryd.prog w1 = .ok (a == b) w1 := fun a b w1 => run_equalIn_int (P := Tryd.prog) w1 n 3 .i64 .i64 a b Tryd.underlying3
  have p0 : ∀ (x y : Value) w1, (part 9 #[x, y] 0).run Tryd.prog w1 = .ok x w1 := fun x y w1 => by kernel_rfl
  have p1 : ∀ (x y : Value) w1, (part 3 #[x, y] 1).run Tryd.prog w1 = .ok y w1 := fun x y w1 => by kernel_rfl
  unfold numEq
  have hst : (s.toList == t.toList) = decide (s = t) := by
    by_cases h : s = t
    · subst h; simp
    · rw [decide_eq_false h]
      refine beq_eq_false_iff_ne.2 fun e => h ?_
      rw [Lib.toList_data, Lib.toList_data] at e
      exact ByteArray.ext (Array.ext' e)
  have hab : (a == b) = decide (a = b) := by
    by_cases h : a = b
    · subst h; simp
    · rw [decide_eq_false h]; exact beq_eq_false_iff_ne.2 h
  have hfs2 := Option.some.inj hfs
  injection hfs2 with hfs3
  rw [← hfs3]
  have hsf : s ≠ t → (s.toList == t.toList) = false := fun h => by rw [hst, decide_eq_false h]
  have haf : a ≠ b → (a == b) = false := fun h => by rw [hab, decide_eq_false h]
  clear hst hab hfs
  by_cases h1 : s = t
  · subst h1
    by_cases h2 : a = b
    · subst h2
      simp [Op.eqFields, Sem.run_bind, p0, p1, e1, e2, Result.andThen_ok]
    · have := haf h2
      simp [h2, Op.eqFields, Sem.run_bind, p0, p1, e1, e2, Result.andThen_ok]
  · have := hsf h1
    simp [h1, this, Op.eqFields, Sem.run_bind, p0, p1, e1, e2, Result.andThen_ok]
theorem eql_num (s : ByteArray) (a : Int) (t : ByteArray) (b : Int) (w : World) :
    (binOp .eql 24 (.agg #[.string s, .int .i64 a]) (.agg #[.string t, .int .i64 b])).run Tryd.prog w = .ok (.bool (numEq s a t b)) w := by
  rw [run_eql_struct, show (10000 : Nat) = 9999 + 1 from rfl, run_equalIn_agg w 9999 24 _ _ numFields numStood, show (9999 : Nat) = 9998 + 1 from rfl, num_eqFields]; rfl
theorem neq_num (s : ByteArray) (a : Int) (t : ByteArray) (b : Int) (w : World) :
    (binOp .neq 24 (.agg #[.string s, .int .i64 a]) (.agg #[.string t, .int .i64 b])).run Tryd.prog w = .ok (.bool (!numEq s a t b)) w := by
  rw [run_neq_struct, show (10000 : Nat) = 9999 + 1 from rfl, run_equalIn_agg w 9999 24 _ _ numFields numStood, show (9999 : Nat) = 9998 + 1 from rfl, num_eqFields]; rfl
theorem eqGuard_num (op : BinOp) (x y : Operand) (xs ys : Array Value) (w : World) : (eqGuard op 24 x y (.agg xs) (.agg ys)).run Tryd.prog w = .ok () w :=
  run_eqGuard_agg w op 24 x y xs ys numGuard
end Go.Proofs.YtdpmibkiihddjaaDoor
