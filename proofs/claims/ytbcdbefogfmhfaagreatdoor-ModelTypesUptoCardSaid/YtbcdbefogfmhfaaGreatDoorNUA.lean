/-
  Two numbers (a text and a scale) held against each other by '==' and '!='.
  Plain functions that say what the layer number computes: no program in sight.
  Plain laws of numbers: a number's value; the one form is the only one of a value; digits, sums, and what is more, by values: no program in sight.
  errors.As at the layer number's own errors: nil; an error of that type; and what number.told tells. (The steps after the kit's worked text ToyasAs, turned to this claim's numbers.)
  The walks of the layer number: digits, fail, check, both.
  The walks of the layer number: canon.
  The walks of the layer number: Canon, Right.
  The walks of the layer number: Text.
-/
import Derived.Test.YtbcdbefogfmhfaaGreatDoorProg
import Derived.Test.YtbcdbefogfmhfaaGreatDoorMB
import Derived.Laws.StructEq
import Derived.Lib.TrimByte
import Derived.Lib.CutLaws
import Derived.Lib.Bytealg
import Derived.LaidEql
import Derived.Stop.Asserts
import Derived.RowKitTokens
import Derived.IntWalk
import Derived.Test.YtbcdbefogfmhfaaGreatDoorShelf
import Derived.RegionTactic
import Derived.ChangeAlike
import Derived.Deep.RegionHeld3
namespace Go.Proofs.YtbcdbefogfmhfaaGreatDoor
open Go.RowKit
/-- Are they the same? -/
def numEq (s : ByteArray) (a : Int) (t : ByteArray) (b : Int) : Bool := decide (s = t ∧ a = b)
theorem numFields : Tryz.prog.underlying 221 = some (.struct (Tryz.prog.fieldsOf 221)) := by kernel_rfl
theorem numStood : Tryz.prog.stoodInHeld 221 = false := by kernel_rfl
theorem numGuard : Tryz.prog.eqGuardType Tryz.prog.depth 221 = false := by kernel_rfl
set_option maxRecDepth 100000 in
theorem num_eqFields (n : Nat) (s : ByteArray) (a : Int) (t : ByteArray) (b : Int) (w : World) :
    (Op.eqFields (n + 1) #[.string s, .int .i64 a] #[.string t, .int .i64 b] (Tryz.prog.fieldsOf 221).toList).run Tryz.prog w = .ok (numEq s a t b) w := by
  have hfs := numFields
  rw [Tryz.underlying221] at hfs
  have e1 : ∀ (s t : ByteArray) w1, (Op.equalIn (n + 1) 9 (.string s) (.string t)).run Tryz.prog w1 = .ok (s.toList == t.toList) w1 := fun s t w1 => run_equalIn_string (P := Tryz.prog) w1 n 9 s t Tryz.underlying9
  have e2 : ∀ (a b : Int) w1, (Op.equalIn (n + 1) 3 (.int .i64 a) (.int .i64 b)).run Tryz.prog w1 = .ok (a == b) w1 := fun a b w1 => run_equalIn_int (P := Tryz.prog) w1 n 3 .i64 .i64 a b Tryz.underlying3
  have p0 : ∀ (x y : Value) w1, (part 9 #[x, y] 0).run Tryz.prog w1 = .ok x w1 := fun x y w1 => by kernel_rfl
  have p1 : ∀ (x y : Value) w1, (part 3 #[x, y] 1).run Tryz.prog w1 = .ok y w1 := fun x y w1 => by kernel_rfl
  unfold numEq
  have hst : (s.toList == t.toList) = decide (s = t) := by
    by_cases h : s = t
    · subst h; simp
    · rw [decide_eq_false h]
      refine beq_eq_false_iff_ne.2 fun e => h ?_
      rw [Lib.toList_data, Lib.toList_data] at e
      exact ByteArray.ext (Array.ext' e)
  have hab : (a == b) = decide (a = b) := by
    by_cases h : a = b
    · subst h; simp
    · rw [decide_eq_false h]; exact beq_eq_false_iff_ne.2 h
  have hfs2 := Option.some.inj hfs
  injection hfs2 with hfs3
  rw [← hfs3]
  have hsf : s ≠ t → (s.toList == t.toList) = false := fun h => by rw [hst, decide_eq_false h]
  have haf : a ≠ b → (a == b) = false := fun h => by rw [hab, decide_eq_false h]
  clear hst hab hfs
  by_cases h1 : s = t
  · subst h1
    by_cases h2 : a = b
    · subst h2
      simp [Op.eqFields, Sem.run_bind, p0, p1, e1, e2, Result.andThen_ok]
    · have := haf h2
      simp [h2, Op.eqFields, Sem.run_bind, p0, p1, e1, e2, Result.andThen_ok]
  · have := hsf h1
    simp [h1, this, Op.eqFields, Sem.run_bind, p0, p1, e1, e2, Result.andThen_ok]
theorem eql_num (s : ByteArray) (a : Int) (t : ByteArray) (b : Int) (w : World) :
    (binOp .eql 221 (.agg #[.string s, .int .i64 a]) (.agg #[.string t, .int .i64 b])).run Tryz.prog w = .ok (.bool (numEq s a t b)) w := by
  rw [run_eql_struct, show (10000 : Nat) = 9999 + 1 from rfl, run_equalIn_agg w 9999 221 _ _ numFields numStood, show (9999 : Nat) = 9998 + 1 from rfl, num_eqFields]; rfl
theorem neq_num (s : ByteArray) (a : Int) (t : ByteArray) (b : Int) (w : World) :
    (binOp .neq 221 (.agg #[.string s, .int .i64 a]) (.agg #[.string t, .int .i64 b])).run Tryz.prog w = .ok (.bool (!numEq s a t b)) w := by
  rw [run_neq_struct, show (10000 : Nat) = 9999 + 1 from rfl, run_equalIn_agg w 9999 221 _ _ numFields numStood, show (9999 : Nat) = 9998 + 1 from rfl, num_eqFields]; rfl
theorem eqGuard_num (op : BinOp) (x y : Operand) (xs ys : Array Value) (w : World) : (eqGuard op 221 x y (.agg xs) (.agg ys)).run Tryz.prog w = .ok () w :=
  run_eqGuard_agg w op 221 x y xs ys numGuard
end Go.Proofs.YtbcdbefogfmhfaaGreatDoor

namespace Go.Proofs.YtbcdbefogfmhfaaGreatDoor
open Go.Lib
def isDig (c : UInt8) : Bool := decide (48 ≤ c.toNat ∧ c.toNat ≤ 57)
/-- Digits alone, one at least. -/
def digitsL (l : List UInt8) : Bool := l.all isDig && !l.isEmpty
/-- What is wrong with a number; 0: nothing. -/
def checkN (l : List UInt8) (sc : Int) : Nat :=
  if digitsL l = false then 17 else if 1000 < l.length then 19 else if sc < 0 ∨ 1000 < sc then 3 else 0
/-- A number's one form, as the program makes it. -/
def canonL (l : List UInt8) (sc : Int) : List UInt8 × Int :=
  if trimLeftB l 48 = [] then ([48], 0)
  else ((trimLeftB l 48).take ((trimLeftB l 48).length - (min (((trimLeftB l 48).length : Int) - (trimRightB (trimLeftB l 48) 48).length) sc).toNat), sc - min (((trimLeftB l 48).length : Int) - (trimRightB (trimLeftB l 48) 48).length) sc)
/-- .. as the document does: noughts ahead, but for the last digit. -/
def rstrip : List UInt8 → List UInt8
  | [] => []
  | [c] => [c]
  | c :: d :: l => if c = 48 then rstrip (d :: l) else c :: d :: l
theorem dropWhile_head (p : UInt8 → Bool) (l : List UInt8) (x : UInt8) (h : (l.dropWhile p).head? = some x) : p x = false := by
  induction l with
  | nil => cases h
  | cons c l ih =>
    rw [List.dropWhile_cons] at h
    split at h
    · exact ih h
    · rename_i hc
      simp at h
      rw [← h]; simpa using hc
end Go.Proofs.YtbcdbefogfmhfaaGreatDoor

namespace Go.Proofs.YtbcdbefogfmhfaaGreatDoor
open Go.Lib
def dg (c : UInt8) : Nat := c.toNat - 48
/-- The value of digits, the lowest one first. -/
def valR : List UInt8 → Nat
  | [] => 0
  | c :: l => dg c + 10 * valR l
def val (l : List UInt8) : Nat := valR l.reverse
/-- A number's value, times 10 to the power of 1000. -/
def V (l : List UInt8) (sc : Nat) : Nat := 10 ^ (1000 - sc) * val l
theorem valR_append (a b : List UInt8) : valR (a ++ b) = valR a + 10 ^ a.length * valR b := by
  induction a with
  | nil => simp [valR]
  | cons c l ih =>
    simp only [List.cons_append, valR, ih, List.length_cons, Nat.pow_succ]
    rw [Nat.mul_add, ← Nat.add_assoc, ← Nat.mul_assoc, Nat.mul_comm 10 (10 ^ l.length)]
theorem valR_zeros (k : Nat) : valR (List.replicate k 48) = 0 := by
  induction k with
  | zero => rfl
  | succ k ih => rw [List.replicate_succ, valR, ih]; rfl
theorem valR_zeros_append (k : Nat) (l : List UInt8) : valR (List.replicate k 48 ++ l) = 10 ^ k * valR l := by
  rw [valR_append, valR_zeros]; simp
theorem valR_append_zeros (l : List UInt8) (k : Nat) : valR (l ++ List.replicate k 48) = valR l := by
  rw [valR_append, valR_zeros]; simp
theorem val_append_zeros (l : List UInt8) (k : Nat) : val (l ++ List.replicate k 48) = 10 ^ k * val l := by
  unfold val; rw [List.reverse_append, List.reverse_replicate, valR_zeros_append]
theorem val_zeros_append (l : List UInt8) (k : Nat) : val (List.replicate k 48 ++ l) = val l := by
  unfold val; rw [List.reverse_append, List.reverse_replicate, valR_append_zeros]
/-- The one form. -/
def Can (l : List UInt8) (sc : Nat) : Prop := (l = [48] ∧ sc = 0) ∨ (l ≠ [] ∧ l.head? ≠ some 48 ∧ (0 < sc → l.getLast? ≠ some 48))
theorem takeWhile_48 (l : List UInt8) : l.takeWhile (· == 48) = List.replicate (l.takeWhile (· == 48)).length 48 := by
  induction l with
  | nil => rfl
  | cons c l ih =>
    by_cases hc : c = 48
    · subst hc
      simp only [List.takeWhile_cons, beq_self_eq_true, if_true, List.length_cons, List.replicate_succ]
      rw [← ih]
    · simp [hc]
theorem trimLeft_spec (l : List UInt8) : ∃ k, l = List.replicate k 48 ++ trimLeftB l 48 ∧ (trimLeftB l 48).head? ≠ some 48 := by
  refine ⟨(l.takeWhile (· == 48)).length, ?_, ?_⟩
  · rw [← takeWhile_48]; exact (List.takeWhile_append_dropWhile).symm
  · intro h
    have := dropWhile_head _ l 48 h
    simp at this
theorem trimRight_spec (l : List UInt8) : ∃ k, l = trimRightB l 48 ++ List.replicate k 48 ∧ (trimRightB l 48).getLast? ≠ some 48 := by
  obtain ⟨k, h1, h2⟩ := trimLeft_spec l.reverse
  refine ⟨k, ?_, ?_⟩
  · unfold trimRightB; unfold trimLeftB at h1
    have := congrArg List.reverse h1
    rw [List.reverse_reverse, List.reverse_append, List.reverse_replicate] at this
    exact this
  · unfold trimRightB; unfold trimLeftB at h2
    rw [List.getLast?_reverse]; exact h2
/-- The program's one form is one, and of the same value. -/
theorem canon_can (l : List UInt8) (sc : Nat) (hl : l.all isDig = true) (hs : sc ≤ 1000) :
    ∃ d s : _, canonL l sc = (d, ((s : Nat) : Int)) ∧ Can d s ∧ d.all isDig = true ∧ s ≤ sc ∧ V d s = V l sc ∧ d.length ≤ max l.length 1 := by
  obtain ⟨k, hk, hh⟩ := trimLeft_spec l
  unfold canonL
  obtain ⟨d, hd⟩ : ∃ d, trimLeftB l 48 = d := ⟨_, rfl⟩
  rw [hd] at hk hh ⊢
  have hvl : val l = val d := by rw [hk, val_zeros_append]
  have hdd : d.all isDig = true := by rw [hk, List.all_append, Bool.and_eq_true] at hl; exact hl.2
  by_cases hz : d = []
  · rw [if_pos hz]
    obtain ⟨z, hz0⟩ : ∃ z : Nat, z = 0 := ⟨0, rfl⟩
    refine ⟨[48], z, by rw [hz0]; rfl, Or.inl ⟨rfl, hz0⟩, by decide, by omega, ?_, by simp; omega⟩
    unfold V
    rw [hvl, hz, show val [48] = 0 from rfl, show val [] = 0 from rfl, Nat.mul_zero, Nat.mul_zero]
  · rw [if_neg hz]
    obtain ⟨tw, ht, hlast⟩ := trimRight_spec d
    obtain ⟨t, htt⟩ : ∃ t, trimRightB d 48 = t := ⟨_, rfl⟩
    rw [htt] at ht hlast ⊢
    have hlen : d.length = t.length + tw := by rw [ht]; simp
    have htn : t ≠ [] := by
      intro e
      subst e
      cases tw with
      | zero => rw [ht] at hz; exact hz rfl
      | succ n => rw [ht] at hh; exact hh rfl
    have hmin : min ((d.length : Int) - (t.length : Int)) (sc : Int) = ((min tw sc : Nat) : Int) := by omega
    rw [hmin]
    obtain ⟨c, hc⟩ : ∃ c, min tw sc = c := ⟨_, rfl⟩
    rw [hc]
    have hsplit : d = (t ++ List.replicate (tw - c) 48) ++ List.replicate c 48 := by
      rw [List.append_assoc, List.replicate_append_replicate, show tw - c + c = tw from by omega]; exact ht
    have htake : d.take (d.length - ((c : Nat) : Int).toNat) = t ++ List.replicate (tw - c) 48 := by
      rw [hsplit, List.take_append_of_le_length (by simp; omega), List.take_of_length_le (by simp; omega)]
    refine ⟨t ++ List.replicate (tw - c) 48, sc - c, ?_, Or.inr ⟨?_, ?_, ?_⟩, ?_, Nat.sub_le _ _, ?_, ?_⟩
    · rw [htake]
      refine Prod.ext rfl ?_
      show (sc : Int) - (c : Int) = ((sc - c : Nat) : Int)
      omega
    · simp [htn]
    · intro h
      apply hh
      rw [hsplit, List.head?_append, h]; rfl
    · intro h0 h
      have : tw - c = 0 := by omega
      rw [this, List.replicate_zero, List.append_nil] at h
      exact hlast h
    · rw [hsplit, List.all_append, Bool.and_eq_true] at hdd; exact hdd.1
    · unfold V
      have h1 : val d = 10 ^ c * val (t ++ List.replicate (tw - c) 48) := by
        conv => lhs; rw [hsplit]
        exact val_append_zeros _ _
      rw [hvl, h1, ← Nat.mul_assoc, ← Nat.pow_add, show 1000 - sc + c = 1000 - (sc - c) from by omega]
    · have h1 : l.length = k + d.length := by
        have := congrArg List.length hk
        simpa using this
      simp; omega
end Go.Proofs.YtbcdbefogfmhfaaGreatDoor

namespace Go.Proofs.YtbcdbefogfmhfaaGreatDoor
open Go.RowKit Go.Extern.Stop Go.Stop Go.Extern
/-- errors.As(nil, target). -/
theorem as_nil (t : Value) (w : World) :
    Calls Tryz.prog 199 #[.nilIface, t] w fun e w' => e = .returned (.bool false) ∧ w' = w := by
  go_enter Tryz.func199, Tryz.ntmps199
  go_wp2
  go_ret
  exact ⟨rfl, rfl⟩
theorem As.valueOf27 (t : Addr) (w : World) : (ReflectliteValue.unpack (.iface 255 (.pointer (some t)))).run Tryz.prog w
    = .ok (.agg #[.pointer (some ⟨6, 255, none⟩), .pointer (some ⟨w.heap.size, 0, none⟩), .int .u64 150]) (w.alloc (.cells #[.pointer (some t)] 255)) := by kernel_rfl
theorem As.type27 (a : Addr) (w : World) : (ReflectliteValue.methodAny (ReflectliteValue.valueError "reflectlite.Value.Type" 0) (fun t _ _ _ => ReflectliteType.toType t) #[.agg #[.pointer (some ⟨6, 255, none⟩), .pointer (some a), .int .u64 150]]).run Tryz.prog w
    = .ok (.iface 296 (.agg #[.pointer (some ⟨6, 255, none⟩)])) w := by kernel_rfl
theorem As.methodKind (h : Value) (w : World) : (Go.method 438 296 (.agg #[h]) "Kind").run Tryz.prog w = .ok (253, h) w := by kernel_rfl
theorem As.kind27 (w : World) : ((ReflectliteType.abiMethod fun t => (fun a : Nat => Value.int IntKind.u8 (a : Int)) <$> Rtype.kind t) #[.pointer (some ⟨6, 255, none⟩)]).run Tryz.prog w = .ok (.int .u8 22) w := by kernel_rfl
theorem As.kind25 (w : World) : ((ReflectliteType.abiMethod fun t => (fun a : Nat => Value.int IntKind.u8 (a : Int)) <$> Rtype.kind t) #[.pointer (some ⟨6, 253, none⟩)]).run Tryz.prog w = .ok (.int .u8 22) w := by kernel_rfl
theorem rlm (z : Sem Value) (f : TypeId → Addr → Nat → Nat → Sem Value) (v : Value) :
    ReflectliteValue.method z f #[v] = (do match ← ReflectliteValue.parts v with | none => z | some (t, a, fl) => f t a fl (fl % 32)) := rfl
theorem As.parts27 (a : Addr) (w : World) : (ReflectliteValue.parts (.agg #[.pointer (some ⟨6, 255, none⟩), .pointer (some a), .int .u64 150])).run Tryz.prog w = .ok (some (255, a, 150)) w := by kernel_rfl
/-- (Value).IsNil at the Value of a **p.E that is not nil. -/
theorem As.isNil27 (a p : Addr) (W : World) (ha : W.cell? a = some (.pointer (some p))) :
    (ReflectliteValue.method (ReflectliteValue.valueError "reflectlite.Value.IsNil" 0) ReflectliteValue.isNil #[.agg #[.pointer (some ⟨6, 255, none⟩), .pointer (some a), .int .u64 150]]).run Tryz.prog W = .ok (.bool false) W := by
  rw [rlm]
  simp only [Sem.run_bind, As.parts27, Result.andThen]
  simp [ReflectliteValue.isNil, loadVar, isAgg, underlying, Tryz.underlying255, ha, Result.andThen]
theorem As.methodElem (h : Value) (w : World) : (Go.method 438 296 (.agg #[h]) "Elem").run Tryz.prog w = .ok (271, .agg #[h]) w := by kernel_rfl
theorem As.methodImplements (h : Value) (w : World) : (Go.method 438 296 (.agg #[h]) "Implements").run Tryz.prog w = .ok (272, .agg #[h]) w := by kernel_rfl
theorem As.methodAssignableTo (h : Value) (w : World) : (Go.method 438 296 (.agg #[h]) "AssignableTo").run Tryz.prog w = .ok (269, .agg #[h]) w := by kernel_rfl
theorem As.elem27 (w : World) : (ReflectliteType.method ReflectliteType.elem #[.agg #[.pointer (some ⟨6, 255, none⟩)]]).run Tryz.prog w = .ok (.iface 296 (.agg #[.pointer (some ⟨6, 253, none⟩)])) w := by kernel_rfl
theorem As.implements25 (w : World) : (ReflectliteType.relation "Implements" ReflectliteType.implements_ #[.agg #[.pointer (some ⟨6, 253, none⟩)], .iface 296 (.agg #[.pointer (some ⟨6, 241, none⟩)])]).run Tryz.prog w = .ok (.bool true) w := by kernel_rfl
theorem As.typeOf25 (v : Value) (w : World) : (ReflectliteType.typeOf #[.iface 253 v]).run Tryz.prog w = .ok (.iface 296 (.agg #[.pointer (some ⟨6, 253, none⟩)])) w := by kernel_rfl
theorem As.assignable25 (w : World) : (ReflectliteType.relation "AssignableTo" ReflectliteType.assignableTo #[.agg #[.pointer (some ⟨6, 253, none⟩)], .iface 296 (.agg #[.pointer (some ⟨6, 253, none⟩)])]).run Tryz.prog w = .ok (.bool true) w := by kernel_rfl
theorem As.valueOf25 (e : Addr) (w : World) : (ReflectliteValue.unpack (.iface 253 (.pointer (some e)))).run Tryz.prog w
    = .ok (.agg #[.pointer (some ⟨6, 253, none⟩), .pointer (some ⟨w.heap.size, 0, none⟩), .int .u64 150]) (w.alloc (.cells #[.pointer (some e)] 253)) := by kernel_rfl
theorem As.elemOf27 (w : World) : (Rtype.elem? 255).run Tryz.prog w = .ok (some 253) w := by kernel_rfl
theorem As.mk25 (p : Addr) (w : World) : (ReflectliteValue.mk 253 p ReflectliteValue.flagAddr).run Tryz.prog w = .ok (.agg #[.pointer (some ⟨6, 253, none⟩), .pointer (some p), .int .u64 406]) w := by kernel_rfl
/-- (Value).Elem at the Value of a **p.E that is not nil: the Value of the *p.E variable that it points to, addressable. -/
theorem As.elemV27 (a p : Addr) (W : World) (ha : W.cell? a = some (.pointer (some p))) :
    (ReflectliteValue.method (ReflectliteValue.valueError "reflectlite.Value.Elem" 0) ReflectliteValue.elem #[.agg #[.pointer (some ⟨6, 255, none⟩), .pointer (some a), .int .u64 150]]).run Tryz.prog W
      = .ok (.agg #[.pointer (some ⟨6, 253, none⟩), .pointer (some p), .int .u64 406]) W := by
  rw [rlm]
  simp only [Sem.run_bind, As.parts27, Result.andThen]
  simp [ReflectliteValue.elem, loadVar, isAgg, underlying, Tryz.underlying255, ha, Result.andThen, As.elemOf27, As.mk25]
theorem rls (v x : Value) : ReflectliteValue.set #[v, x] = (do
    let (some (dst, a, fl), some (src, b, _)) := (← ReflectliteValue.parts v, ← ReflectliteValue.parts x)
      | unsupported (.noEntry "extern/(internal/reflectlite.Value).Set.zeroValue")
    if fl / ReflectliteValue.flagAddr % 2 == 0 then unsupported (.noEntry "extern/(internal/reflectlite.Value).Set.unaddressable")
    let val ← loadVar src b
    if ← Rtype.directlyAssignable dst src then storeVar dst a val
    else if ← Rtype.implements dst src then
      if (← Rtype.kind src) == 20 then
        match val with
        | .nilIface => unsupported (.noEntry "extern/reflectlite: a nil value of one interface type handed on as a value of another")
        | _ => storeVar dst a val
      else storeVar dst a (.iface src val)
    else panicString ("reflectlite.Set: value of type " ++ (← Rtype.spelt src) ++ " is not assignable to type " ++ (← Rtype.spelt dst))
    pure (.tuple #[])) := rfl
theorem As.parts25a (a : Addr) (w : World) : (ReflectliteValue.parts (.agg #[.pointer (some ⟨6, 253, none⟩), .pointer (some a), .int .u64 406])).run Tryz.prog w = .ok (some (253, a, 406)) w := by kernel_rfl
theorem As.parts25 (a : Addr) (w : World) : (ReflectliteValue.parts (.agg #[.pointer (some ⟨6, 253, none⟩), .pointer (some a), .int .u64 150])).run Tryz.prog w = .ok (some (253, a, 150)) w := by kernel_rfl
theorem As.direct25 (w : World) : (Rtype.directlyAssignable 253 253).run Tryz.prog w = .ok true w := by kernel_rfl
/-- (Value).Set: the *p.E variable at 'ta' gets what the Value's own variable 'b' holds. -/
theorem As.set25 (ta b e : Addr) (old : Value) (W : World) (hb : W.cell? b = some (.pointer (some e))) (ht : W.cell? ta = some old) (hf : W.frozen? ta = false) :
    (ReflectliteValue.set #[.agg #[.pointer (some ⟨6, 253, none⟩), .pointer (some ta), .int .u64 406], .agg #[.pointer (some ⟨6, 253, none⟩), .pointer (some b), .int .u64 150]]).run Tryz.prog W
      = .ok (.tuple #[]) (W.setCell ta (.pointer (some e))) := by
  rw [rls]
  simp only [Sem.run_bind, As.parts25a, As.parts25, Result.andThen]
  simp [ReflectliteValue.flagAddr, loadVar, isAgg, underlying, Tryz.underlying253, hb, Result.andThen, As.direct25, storeVar, Value.cells, storeCells, Addr.add]
  rw [run_store Tryz.prog W ta _ _ (by rfl)]
  simp [ht, hf]
set_option maxHeartbeats 4000000 in
theorem as_hit (e t : Addr) (old : Value) (w : World) (hg : w.cell? ⟨5, 0, none⟩ = some (.iface 296 (.agg #[.pointer (some ⟨6, 241, none⟩)]))) (ht0 : w.cell? t = some old) (hf0 : w.frozen? t = false) :
    Calls Tryz.prog 199 #[.iface 253 (.pointer (some e)), .iface 255 (.pointer (some t))] w fun ev w' => ev = .returned (.bool true) ∧ w' = ((((w.alloc (.cells #[.pointer (some t)] 255)).alloc (.cells #[.pointer (some ⟨6, 255, none⟩), .pointer (some ⟨w.heap.size, 0, none⟩), .int .u64 150] 278)).alloc (.cells #[.pointer (some ⟨6, 255, none⟩), .pointer (some ⟨w.heap.size, 0, none⟩), .int .u64 150] 278)).alloc (.cells #[.pointer (some e)] 253)).setCell t (.pointer (some e)) := by
  have h6 := @run_callFunc_extern Tryz.prog 217 _ (fun args => ReflectliteValue.unpack (args.getD 0 (.tuple #[]))) Tryz.func217 (by kernel_rfl) (by kernel_rfl) (by kernel_rfl) (by kernel_rfl)
  have h7 := @run_callFunc_extern Tryz.prog 218 _ (ReflectliteValue.methodAny (ReflectliteValue.valueError "reflectlite.Value.Type" 0) (fun t _ _ _ => ReflectliteType.toType t)) Tryz.func218 (by kernel_rfl) (by kernel_rfl) (by kernel_rfl) (by kernel_rfl)
  have h8 := @run_callFunc_extern Tryz.prog 219 _ (ReflectliteValue.method (ReflectliteValue.valueError "reflectlite.Value.IsNil" 0) ReflectliteValue.isNil) Tryz.func219 (by kernel_rfl) (by kernel_rfl) (by kernel_rfl) (by kernel_rfl)
  have h27 := @run_callFunc_extern Tryz.prog 253 _ (ReflectliteType.abiMethod fun t => do pure (.int .u8 (← Rtype.kind t))) Tryz.func253 (by kernel_rfl) (by kernel_rfl) (by kernel_rfl) (by kernel_rfl)
  have h37 := @run_callFunc_extern Tryz.prog 271 _ (ReflectliteType.method ReflectliteType.elem) Tryz.func271 (by kernel_rfl) (by kernel_rfl) (by kernel_rfl) (by kernel_rfl)
  have h38 := @run_callFunc_extern Tryz.prog 272 _ (ReflectliteType.relation "Implements" ReflectliteType.implements_) Tryz.func272 (by kernel_rfl) (by kernel_rfl) (by kernel_rfl) (by kernel_rfl)
  have h10 := @run_callFunc_extern Tryz.prog 231 _ ReflectliteType.typeOf Tryz.func231 (by kernel_rfl) (by kernel_rfl) (by kernel_rfl) (by kernel_rfl)
  have h35 := @run_callFunc_extern Tryz.prog 269 _ (ReflectliteType.relation "AssignableTo" ReflectliteType.assignableTo) Tryz.func269 (by kernel_rfl) (by kernel_rfl) (by kernel_rfl) (by kernel_rfl)
  have h11 := @run_callFunc_extern Tryz.prog 232 _ (ReflectliteValue.method (ReflectliteValue.valueError "reflectlite.Value.Elem" 0) ReflectliteValue.elem) Tryz.func232 (by kernel_rfl) (by kernel_rfl) (by kernel_rfl) (by kernel_rfl)
  have h12 := @run_callFunc_extern Tryz.prog 233 _ ReflectliteValue.set Tryz.func233 (by kernel_rfl) (by kernel_rfl) (by kernel_rfl) (by kernel_rfl)
  have tO := As.typeOf25
  have mA := As.methodAssignableTo
  have a25 := As.assignable25
  have v25 := As.valueOf25
  have f6 := As.valueOf27
  have f7 := As.type27
  have mK := As.methodKind
  have mE := As.methodElem
  have mI := As.methodImplements
  have k27 := As.kind27
  have k25 := As.kind25
  have e27 := As.elem27
  have i25 := As.implements25
  have n8 := As.isNil27 ⟨w.heap.size, 0, none⟩ t ((w.alloc (.cells #[.pointer (some t)] 255)).alloc (.cells #[.pointer (some ⟨6, 255, none⟩), .pointer (some ⟨w.heap.size, 0, none⟩), .int .u64 150] 278)) (by simp)
  have hlt : 5 < w.heap.size := cell_lt hg
  have hg2 : ((w.alloc (.cells #[.pointer (some t)] 255)).alloc (.cells #[.pointer (some ⟨6, 255, none⟩), .pointer (some ⟨w.heap.size, 0, none⟩), .int .u64 150] 278)).cell? ⟨5, 0, none⟩ = some (.iface 296 (.agg #[.pointer (some ⟨6, 241, none⟩)])) := by
    rw [World.cell?_alloc_lt _ _ ⟨5, 0, none⟩ (by simp; omega), World.cell?_alloc_lt _ _ ⟨5, 0, none⟩ hlt]; exact hg
  have htl : t.block < w.heap.size := by
    rcases Nat.lt_or_ge t.block w.heap.size with h | h
    · exact h
    · simp [World.cell?, Array.getElem?_eq_none h] at ht0
  have el := As.elemV27 ⟨w.heap.size, 0, none⟩ t (((w.alloc (.cells #[.pointer (some t)] 255)).alloc (.cells #[.pointer (some ⟨6, 255, none⟩), .pointer (some ⟨w.heap.size, 0, none⟩), .int .u64 150] 278)).alloc (.cells #[.pointer (some ⟨6, 255, none⟩), .pointer (some ⟨w.heap.size, 0, none⟩), .int .u64 150] 278)) (by rw [World.cell?_alloc_lt _ _ ⟨w.heap.size, 0, none⟩ (by simp; omega)]; simp)
  have st := As.set25 t ⟨w.heap.size + 1 + 1 + 1, 0, none⟩ e old ((((w.alloc (.cells #[.pointer (some t)] 255)).alloc (.cells #[.pointer (some ⟨6, 255, none⟩), .pointer (some ⟨w.heap.size, 0, none⟩), .int .u64 150] 278)).alloc (.cells #[.pointer (some ⟨6, 255, none⟩), .pointer (some ⟨w.heap.size, 0, none⟩), .int .u64 150] 278)).alloc (.cells #[.pointer (some e)] 253))
    (by rw [World.cell?_alloc_at _ _ _ _ (by simp)]; rfl)
    (by rw [World.cell?_alloc_lt _ _ t (by simp; omega), World.cell?_alloc_lt _ _ t (by simp; omega), World.cell?_alloc_lt _ _ t (by simp; omega), World.cell?_alloc_lt _ _ t htl]; exact ht0)
    (by rw [World.frozen?_alloc_old _ _ t (by simp; omega), World.frozen?_alloc_old _ _ t (by simp; omega), World.frozen?_alloc_old _ _ t (by simp; omega), World.frozen?_alloc_old _ _ t (Nat.ne_of_lt htl)]; exact hf0)
  go_enter Tryz.func199, Tryz.ntmps199
  go_wp2
  refine wp_loop_rounds 1 ?_
  rw [rounds_succ]
  go_wp2
  go_ret
  exact ⟨rfl, rfl⟩
/-- errors.errorType holds the type error. -/
def ErrT (w : World) : Prop := w.cell? ⟨5, 0, none⟩ = some (.iface 296 (.agg #[.pointer (some ⟨6, 241, none⟩)]))
/-- v is an error of number, of that kind; or nil, if it is 0. -/
def ErrAt (w : World) (v : Value) (n : Nat) : Prop := (n = 0 ∧ v = .nilIface) ∨ (n ≠ 0 ∧ ∃ b, v = .iface 253 (.pointer (some ⟨b, 0, none⟩)) ∧ w.cell? ⟨b, 0, none⟩ = some (.int .i64 n))
theorem ErrAt.bel {w w' : World} {v : Value} {n : Nat} (h : ErrAt w v n) (hb : Bel w w') : ErrAt w' v n := by
  rcases h with h | ⟨h0, b, h1, h2⟩
  · exact .inl h
  · exact .inr ⟨h0, b, h1, hb.keep h2⟩
set_option maxHeartbeats 4000000 in
theorem told_c (v : Value) (n : Nat) (w : World) (hE : ErrT w) (hv : ErrAt w v n) :
    Calls Tryz.prog 187 #[v] w fun e w' => e = .returned (.int .i64 n) ∧ Bel w w' := by
  rcases hv with ⟨rfl, rfl⟩ | ⟨h0, b, rfl, hc⟩
  · go_enter Tryz.func187, Tryz.ntmps187
    go_wp2_with (go_at_call 199; refine (as_nil _ _).mono ?_; rintro e w' ⟨rfl, rfl⟩)
    go_ret
    exact ⟨rfl, Bel.alloc _ _⟩
  · have hlt := cell_lt hE
    have hbl := cell_lt hc
    have hgA : (w.alloc (.cells #[.pointer none] 253)).cell? ⟨5, 0, none⟩ = some (.iface 296 (.agg #[.pointer (some ⟨6, 241, none⟩)])) := by
      rw [World.cell?_alloc_lt _ _ ⟨5, 0, none⟩ hlt]; exact hE
    have hcw : ∀ o1 o2 o3 o4 o5, (((((w.alloc o1).alloc o2).alloc o3).alloc o4).alloc o5).cell? ⟨b, 0, none⟩ = some (.int .i64 n) := fun o1 o2 o3 o4 o5 =>
      (((((Bel.alloc w o1).to_alloc o2).to_alloc o3).to_alloc o4).to_alloc o5).keep hc
    have HA := Lib.hid hgA
    have HE := Lib.hid hE
    clear hgA hE hc
    go_enter Tryz.func187, Tryz.ntmps187
    go_wp2_with (go_at_call 199; refine (as_hit _ _ (.pointer none) _ HA.out (by simp) (by simp)).mono ?_; rintro e w' ⟨rfl, rfl⟩)
    go_ret
    exact ⟨rfl, ((((Bel.alloc w _).to_alloc _).to_alloc _).to_alloc _).to_alloc _⟩
end Go.Proofs.YtbcdbefogfmhfaaGreatDoor

namespace Go.Proofs.YtbcdbefogfmhfaaGreatDoor
open Go.RowKit
def dl (s : ByteArray) : List UInt8 := s.data.toList
theorem dl_size (s : ByteArray) : (dl s).length = s.size := rfl
theorem dl_empty (s : ByteArray) : s.toList.isEmpty = (dl s).isEmpty := by rw [Lib.toList_data]; rfl
theorem dl_drop (s : ByteArray) (k : Nat) (h : k < s.size) : (dl s).drop k = s.get! k :: (dl s).drop (k + 1) := by
  have hl : k < s.data.toList.length := h
  unfold dl
  rw [List.drop_eq_getElem_cons hl, get_bang s k h]
  simp
set_option maxHeartbeats 1000000 in
theorem ndigits_c (s : ByteArray) (hs : s.size ≤ maxLen) (w : World) :
    Calls Tryz.prog 184 #[.string s] w fun e w' => e = .returned (.bool (digitsL (dl s))) ∧ w = w' := by
  unfold maxLen at hs
  obtain ⟨A, hA⟩ : ∃ A, (dl s).all isDig = A := ⟨_, rfl⟩
  have hd : digitsL (dl s) = (A && !(dl s).isEmpty) := by rw [← hA]; rfl
  have HA := Lib.hid hA
  have HD := Lib.hid hd
  clear hA hd
  go_enter Tryz.func184, Tryz.ntmps184
  go_wp2_with fail
  go_loop [6] (fun i => ∃ k : Nat, k ≤ s.size ∧ i = .int .i64 k ∧ ((dl s).drop k).all isDig = A) (fun i => s.size - (intOf i).toNat)
  case atStart => exact ⟨0, Nat.zero_le _, rfl, HA.out⟩
  case round =>
    obtain ⟨k, hk, rfl, hall⟩ := hrel
    by_cases hlt : k < s.size
    · rw [dl_drop s k hlt, List.all_cons] at hall
      have hc : isDig (s.get! k) = decide (48 ≤ ((s[k]).toNat : Int) ∧ ((s[k]).toNat : Int) ≤ 57) := by
        have : s.get! k = s[k] := by simpa using get_at s k hlt
        rw [this]; unfold isDig; rw [Bool.eq_iff_iff]; simp only [decide_eq_true_eq]; omega
      rw [hc] at hall
      have H := Lib.hid hall
      clear hall hc
      go_wp2_with fail
      · have hA1 : A = false := by rw [← H.out, decide_eq_false (by omega)]; rfl
        go_ret
        refine ⟨ret_bool ?_, rfl⟩
        rw [HD.out, hA1]; rfl
      · refine ⟨⟨k + 1, by omega, by go_num, ?_⟩, by simp [intOf]; omega⟩
        rw [← H.out, decide_eq_true (by omega)]; rfl
      · have hA1 : A = false := by rw [← H.out, decide_eq_false (by omega)]; rfl
        go_ret
        refine ⟨ret_bool ?_, rfl⟩
        rw [HD.out, hA1]; rfl
    · obtain rfl : k = s.size := by omega
      have hA1 : A = true := by rw [← hall, List.drop_of_length_le (by rw [dl_size]; omega)]; rfl
      have H := Lib.hid hA1
      clear hall hA1
      go_wp2_with fail
      go_ret
      refine ⟨ret_bool ?_, rfl⟩
      rw [HD.out, H.out, ← dl_empty]; simp
theorem fail_c (n : Int) (w : World) :
    Calls Tryz.prog 198 #[.int .i64 n] w fun e w' => e = .returned (.iface 253 (.pointer (some ⟨w.heap.size, 0, none⟩))) ∧ w' = w.alloc (.cells #[.int .i64 n] 257) := by
  go_enter Tryz.func198, Tryz.ntmps198
  go_wp2_with fail
  go_ret
  exact ⟨rfl, rfl⟩
/-- An error of that kind is returned; or nil, if it is 0. -/
def RetErr (n : Nat) (w : World) (e : Ending) (w' : World) : Prop := ∃ v, e = .returned v ∧ ErrAt w' v n ∧ Bel w w'
theorem retErr_some {n : Nat} {w w1 : World} {m : Int} {k : Nat} (hm : m = n) (hn : n ≠ 0) (hb : Bel w w1) (hk : k = w1.heap.size) {e : Ending} (he : e = .returned (.iface 253 (.pointer (some ⟨k, 0, none⟩)))) : RetErr n w e (w1.alloc (.cells #[.int .i64 m] 257)) :=
  ⟨_, he, .inr ⟨hn, _, rfl, by simp [hm, hk]⟩, hb.to_alloc _⟩
theorem retErr_nil {w w1 : World} (hb : Bel w w1) : RetErr 0 w (.returned .nilIface) w1 := ⟨_, rfl, .inl ⟨rfl, rfl⟩, hb⟩
set_option maxHeartbeats 1000000 in
theorem ncheck_c (d : ByteArray) (hs : d.size ≤ maxLen) (sc : Int) (w : World) :
    Calls Tryz.prog 186 #[.agg #[.string d, .int .i64 sc]] w (RetErr (checkN (dl d) sc) w) := by
  have hdig := fun w1 => ndigits_c d hs w1
  unfold maxLen at hs
  obtain ⟨D, hD⟩ : ∃ D, digitsL (dl d) = D := ⟨_, rfl⟩
  rw [hD] at hdig
  have HG := Lib.hid hdig
  have hn : checkN (dl d) sc = if D = false then 17 else if 1000 < d.size then 19 else if sc < 0 ∨ 1000 < sc then 3 else 0 := by unfold checkN; rw [hD]; rfl
  rw [hn]
  clear hdig hD hn
  cases D
  · rw [if_pos rfl]
    go_enter Tryz.func186, Tryz.ntmps186
    go_wp2_with (first
      | (go_at_call 184; refine (HG.out _).mono ?_; rintro e w' ⟨rfl, rfl⟩)
      | (go_at_call 198; refine (fail_c _ _).mono ?_; rintro e w' ⟨rfl, rfl⟩))
    go_ret
    exact retErr_some (n := 17) rfl (by decide) (Bel.alloc _ _) (by simp) rfl
  · rw [if_neg (by simp)]
    by_cases hl : 1000 < d.size
    · rw [if_pos hl]
      have hl2 : (1000 : Int) < d.size := by omega
      go_enter Tryz.func186, Tryz.ntmps186
      go_wp2_with (first
        | (go_at_call 184; refine (HG.out _).mono ?_; rintro e w' ⟨rfl, rfl⟩)
        | (go_at_call 198; refine (fail_c _ _).mono ?_; rintro e w' ⟨rfl, rfl⟩))
      go_ret
      exact retErr_some (n := 19) rfl (by decide) (Bel.alloc _ _) (by simp) rfl
    · rw [if_neg hl]
      have hl2 : (d.size : Int) ≤ 1000 := by omega
      by_cases h3 : sc < 0 ∨ 1000 < sc
      · rw [if_pos h3]
        have H3 := Lib.hid h3
        clear h3
        rcases H3.out with h3 | h3
        all_goals
          go_enter Tryz.func186, Tryz.ntmps186
          go_wp2_with (first
            | (go_at_call 184; refine (HG.out _).mono ?_; rintro e w' ⟨rfl, rfl⟩)
            | (go_at_call 198; refine (fail_c _ _).mono ?_; rintro e w' ⟨rfl, rfl⟩))
          go_ret
          exact retErr_some (n := 3) rfl (by decide) (Bel.alloc _ _) (by simp) rfl
      · rw [if_neg h3]
        have h4 : 0 ≤ sc := by omega
        have h5 : sc ≤ 1000 := by omega
        clear h3
        go_enter Tryz.func186, Tryz.ntmps186
        go_wp2_with (first
          | (go_at_call 184; refine (HG.out _).mono ?_; rintro e w' ⟨rfl, rfl⟩)
          | (go_at_call 198; refine (fail_c _ _).mono ?_; rintro e w' ⟨rfl, rfl⟩))
        go_ret
        exact retErr_nil (Bel.alloc _ _)
end Go.Proofs.YtbcdbefogfmhfaaGreatDoor

namespace Go.Proofs.YtbcdbefogfmhfaaGreatDoor
open Go.RowKit
/-- A text of bytes. -/
def bs (l : List UInt8) : ByteArray := ⟨l.toArray⟩
theorem dl_bs (l : List UInt8) : dl (bs l) = l := rfl
theorem bs_size (l : List UInt8) : (bs l).size = l.length := by simp [bs, ByteArray.size]
def RetNum (r : List UInt8 × Int) (w : World) (e : Ending) (w' : World) : Prop := e = .returned (.agg #[.string (bs r.1), .int .i64 r.2]) ∧ Bel w w'
theorem trimLeft_le (l : List UInt8) : (Lib.trimLeftB l 48).length ≤ l.length := by
  obtain ⟨k, h, _⟩ := trimLeft_spec l
  have := congrArg List.length h
  simp at this; omega
theorem trimRight_le (l : List UInt8) : (Lib.trimRightB l 48).length ≤ l.length := by
  obtain ⟨k, h, _⟩ := trimRight_spec l
  have := congrArg List.length h
  simp at this; omega
set_option maxHeartbeats 2000000 in
theorem canon_c (d : ByteArray) (hs : d.size ≤ 4294967280) (sc : Int) (h0 : 0 ≤ sc) (hsc : sc ≤ 4294967280) (w : World) :
    Calls Tryz.prog 185 #[.agg #[.string d, .int .i64 sc]] w (RetNum (canonL (dl d) sc) w) := by
  have hl := trimLeft_le (dl d)
  have hd := dl_size d
  have h1 := fun w1 => Tryz.strings_TrimLeft_one d 48 (by decide) w1
  obtain ⟨R, hR⟩ : ∃ R, canonL (dl d) sc = R := ⟨_, rfl⟩
  rw [hR]
  obtain ⟨D, hD⟩ : ∃ D, Lib.trimLeftB (dl d) 48 = D := ⟨_, rfl⟩
  rw [show Lib.trimLeftB d.data.toList 48 = D from hD] at h1
  rw [hD] at hl
  unfold canonL at hR
  rw [hD] at hR
  by_cases hz : D = []
  · rw [if_pos hz] at hR
    subst hz
    have H1 := Lib.hid h1
    have HR := Lib.hid hR
    clear h1 hR hD hl
    go_enter Tryz.func185, Tryz.ntmps185
    go_wp2_with (go_at_call 196; refine (H1.out _).mono ?_; rintro e w' ⟨rfl, rfl⟩)
    refine bodyPost_ret (v := .agg #[.string ⟨#[48]⟩, .int .i64 0]) (by simp [results, Tryz.results185, go_sem]) rfl ?_
    rw [← HR.out]
    exact ⟨rfl, by first | exact Bel.to_setCell ((Bel.alloc w _).to_alloc _) (by simp) _ | exact (Bel.alloc w _).to_alloc _⟩
  · rw [if_neg hz] at hR
    have hr := trimRight_le D
    obtain ⟨T, hT⟩ : ∃ T, bs D = T := ⟨_, rfl⟩
    have hDT : dl T = D := by rw [← hT]; rfl
    have h2 := fun w1 => Tryz.strings_TrimRight_one T 48 (by decide) w1 (by rw [← hT, bs_size]; omega)
    obtain ⟨E, hE⟩ : ∃ E, Lib.trimRightB D 48 = E := ⟨_, rfl⟩
    rw [show Lib.trimRightB T.data.toList 48 = E from by rw [← hE, ← hDT]; rfl] at h2
    rw [hE] at hr hR
    obtain ⟨S, hS⟩ : ∃ S, bs E = S := ⟨_, rfl⟩
    have hSn : S.size = E.length := by rw [← hS, bs_size]
    have hTn : T.size = D.length := by rw [← hT, bs_size]
    have hne : T.toList.isEmpty = false := by
      rw [dl_empty, hDT]
      cases D with
      | nil => exact absurd rfl hz
      | cons c l => rfl
    have h1' : ∀ w1, Calls Tryz.prog 196 #[.string d, .string ⟨#[48]⟩] w1 fun e w' => e = .returned (.string T) ∧ w' = w1 := fun w1 => by rw [← hT]; exact h1 w1
    have h2' : ∀ w1, Calls Tryz.prog 197 #[.string T, .string ⟨#[48]⟩] w1 fun e w' => e = .returned (.string S) ∧ w' = w1 := fun w1 => by rw [← hS]; exact h2 w1
    have hne2 : T.toList ≠ [] := fun h => by rw [h] at hne; cases hne
    rw [← hTn, ← hSn] at hR
    rw [← hSn, ← hTn] at hr
    rw [← hTn] at hl
    obtain ⟨c, hc⟩ : ∃ c, min ((T.size : Int) - (S.size : Int)) sc = c := ⟨_, rfl⟩
    rw [hc] at hR
    have hc0 : 0 ≤ c := by omega
    have hc1 : c ≤ T.size := by omega
    have hc2 : c ≤ sc := by omega
    have HC := Lib.hid hc
    have H1 := Lib.hid h1'
    have H2 := Lib.hid h2'
    have HR := Lib.hid hR
    clear h1 h2 h1' h2' hR hc hS hT hD hE hSn hTn hz
    go_enter Tryz.func185, Tryz.ntmps185
    go_wp2_with (first
      | (go_at_call 196; refine (H1.out _).mono ?_; rintro e w' ⟨rfl, rfl⟩)
      | (go_at_call 197; refine (H2.out _).mono ?_; rintro e w' ⟨rfl, rfl⟩))
    rw [HC.out]
    have hcn : ((c.toNat : Nat) : Int) = c := by omega
    obtain ⟨k, rfl⟩ : ∃ k : Nat, c = k := ⟨c.toNat, hcn.symm⟩
    have f1 : IntKind.i64.wrap ((T.size : Int) - k) = (T.size : Int) - k := IntWalk.i64_in _ (by omega)
    have f2 : (0 : Int) ≤ (T.size : Int) - k := by omega
    have f3 : ((T.size : Int) - k).toNat = T.size - k := by omega
    have f4 : (T.size : Int) - k ≤ T.size := by omega
    have f5 : IntKind.i64.wrap (sc - k) = sc - k := IntWalk.i64_in _ (by omega)
    clear hcn
    go_region
    go_wp2_with fail
    refine bodyPost_ret (v := .agg #[.string (T.extract 0 (T.size - k)), .int .i64 (sc - k)]) (by simp [results, Tryz.results185, go_sem]) rfl ?_
    refine ⟨?_, ?_⟩
    · rw [← HR.out, ← hDT]
      simp only [Int.toNat_natCast]
      rw [Lib.extract_upto]; rfl
    · exact ((Bel.alloc w _).to_alloc _).to_drew
/-- What Read answers: the number, the error. -/
def readL (l : List UInt8) : (List UInt8 × Int) × Nat :=
  let t := Lib.cut l [46]
  if (digitsL t.1 = false ∧ ¬ (t.1 = [] ∧ t.2.2 = true)) ∨ (t.2.2 = true ∧ digitsL t.2.1 = false) then (([], 0), 17)
  else if 1000 < t.1.length + t.2.1.length then (([], 0), 19)
  else (canonL (t.1 ++ t.2.1) t.2.1.length, 0)
def RetNumE (r : (List UInt8 × Int) × Nat) (w : World) (e : Ending) (w' : World) : Prop := e = .returned (.tuple #[.agg #[.string (bs r.1.1), .int .i64 r.1.2], .int .i64 r.2]) ∧ Bel w w'
/-- bytealg's one variable holds some number. -/
def MaxT (w : World) : Prop := ∃ m, w.cell? ⟨4, 0, none⟩ = some (.int .i64 m)
theorem MaxT.bel {w w' : World} (h : MaxT w) (hb : Bel w w') : MaxT w' := by
  obtain ⟨m, h⟩ := h
  exact ⟨m, hb.keep h⟩
theorem cut_len (l : List UInt8) (c : UInt8) : (Lib.cut l [c]).1.length + (Lib.cut l [c]).2.1.length ≤ l.length := by
  unfold Lib.cut; simp; split <;> simp
  omega
set_option maxHeartbeats 2000000 in
theorem read_c (s : ByteArray) (hs : s.size ≤ 4294967280) (w : World) (hM : MaxT w) :
    Calls Tryz.prog 171 #[.string s] w (RetNumE (readL (dl s)) w) := by
  have hlen := cut_len (dl s) 46
  have hds := dl_size s
  obtain ⟨R, hR⟩ : ∃ R, readL (dl s) = R := ⟨_, rfl⟩
  rw [hR]
  obtain ⟨m, hm⟩ := hM
  have hcut := fun w1 (hM1 : MaxT w1) => Tryz.strings_Cut s ⟨#[46]⟩ hM1.choose w1 (by omega) hM1.choose_spec
  dsimp only at hcut
  unfold readL at hR
  dsimp only at hR
  obtain ⟨⟨a, b, t⟩, hab⟩ : ∃ x, Lib.cut (dl s) [46] = x := ⟨_, rfl⟩
  have hab2 : Lib.cut s.data.toList [46] = (a, b, t) := hab
  simp only [hab] at hR hlen
  simp only [hab2] at hcut
  obtain ⟨A, hA⟩ : ∃ A : ByteArray, A = bs a := ⟨_, rfl⟩
  obtain ⟨B, hB⟩ : ∃ B : ByteArray, B = bs b := ⟨_, rfl⟩
  have hA2 : dl A = a := by rw [hA]; rfl
  have hB2 : dl B = b := by rw [hB]; rfl
  have hcut' : ∀ w1, MaxT w1 → Calls Tryz.prog 183 #[.string s, .string ⟨#[46]⟩] w1 fun e w' => e = .returned (.tuple #[.string A, .string B, .bool t]) ∧ ∃ n, w' = w1.drewN n := by
    rw [hA, hB]; exact hcut
  have hAs : A.size = a.length := by rw [hA, bs_size]
  have hBs : B.size = b.length := by rw [hB, bs_size]
  have hd1 := fun w1 => ndigits_c A (by unfold maxLen; omega) w1
  have hd2 := fun w1 => ndigits_c B (by unfold maxLen; omega) w1
  obtain ⟨D, hD⟩ : ∃ D, digitsL a = D := ⟨_, rfl⟩
  obtain ⟨E, hE⟩ : ∃ E, digitsL b = E := ⟨_, rfl⟩
  rw [hA2, hD] at hd1
  rw [hB2, hE] at hd2
  rw [hD, hE, ← hAs, ← hBs] at hR
  have hab3 : (A ++ B).size = A.size + B.size := ByteArray.size_append
  have hdl : dl (A ++ B) = a ++ b := by rw [← hA2, ← hB2]; simp [dl]
  have hcan := fun w1 => canon_c (A ++ B) (by rw [hab3]; omega) B.size (by omega) (by omega) w1
  rw [hdl] at hcan
  have hAe : A.toList.isEmpty = decide (a = []) := by rw [dl_empty, hA2]; cases a <;> simp
  rw [← hAs, ← hBs] at hlen
  have H1 := Lib.hid hcut'
  have H2 := Lib.hid hd1
  have H3 := Lib.hid hd2
  have H4 := Lib.hid hcan
  have HR := Lib.hid hR
  have HM : Hid (MaxT w) := Lib.hid ⟨m, hm⟩
  have H5 := Lib.hid hab3
  clear hcut hcut' hd1 hd2 hcan hR hm hab hab2 hA hB hdl hAs hBs hab3 hD hE
  have hba : A.size + B.size ≤ 4294967280 := by omega
  clear hlen hds
  have key : ∀ em : Bool, decide (a = []) = em → Calls Tryz.prog 171 #[.string s] w (RetNumE R w) := by
    intro em hem
    have hR := HR.out
    have hAe1 : A.toList.isEmpty = em := by rw [hAe, hem]
    have hema : a = [] ↔ em = true := by rw [← hem]; simp
    simp only [hema] at hR
    have hAe2 : (A.toList = []) = (em = true) := by rw [← hAe1, List.isEmpty_iff]
    by_cases hbig : 1000 < A.size + B.size
    · have hbi : (1000 : Int) < (A.size : Int) + B.size := by omega
      rw [if_pos hbig] at hR
      have HR2 := Lib.hid hR
      clear hR HR hema hem hAe
      cases D <;> cases t <;> cases E <;> cases em
      all_goals
        simp only [Bool.false_eq_true, eq_iff_iff, iff_false, iff_true] at hAe2
        go_enter Tryz.func171, Tryz.ntmps171
        go_wp2_with (first
          | (go_at_call 183; refine (H1.out _ (HM.out.bel (by first | exact Bel.alloc _ _ | exact Bel.refl _))).mono ?_; rintro e w' ⟨rfl, n, rfl⟩)
          | ((with_reducible refine (H2.out _).mono ?_); rintro e w' ⟨rfl, rfl⟩)
          | ((with_reducible refine (H3.out _).mono ?_); rintro e w' ⟨rfl, rfl⟩))
        have hr := HR2.out
        simp at hr
        refine bodyPost_ret (v := .tuple #[.agg #[.string (bs R.1.1), .int .i64 R.1.2], .int .i64 R.2]) (by simp [results, Tryz.results171, go_sem, ← hr, bs]) rfl ⟨rfl, by (repeat (first | exact Bel.refl _ | assumption | refine Bel.to_drewN ?_ _ | refine Bel.to_drew ?_ | refine Bel.to_setCell ?_ (by first | exact Nat.le_refl _ | (simp; done) | (simp; omega) | omega) _ | refine Bel.to_alloc ?_ _ | refine Bel.trans ?_ (by assumption)))⟩
    · have hbi : (A.size : Int) + B.size ≤ 1000 := by omega
      rw [if_neg hbig] at hR
      obtain ⟨C, hC⟩ : ∃ C, canonL (a ++ b) B.size = C := ⟨_, rfl⟩
      have h4 := fun w1 => H4.out w1
      rw [hC] at h4 hR
      have H6 := Lib.hid h4
      have HR2 := Lib.hid hR
      clear hR HR hema hem hAe h4 H4 hC
      cases D <;> cases t <;> cases E <;> cases em
      all_goals
        simp only [Bool.false_eq_true, eq_iff_iff, iff_false, iff_true] at hAe2
        go_enter Tryz.func171, Tryz.ntmps171
        go_wp2_with (first
          | (go_at_call 183; refine (H1.out _ (HM.out.bel (by first | exact Bel.alloc _ _ | exact Bel.refl _))).mono ?_; rintro e w' ⟨rfl, n, rfl⟩)
          | ((with_reducible refine (H2.out _).mono ?_); rintro e w' ⟨rfl, rfl⟩)
          | ((with_reducible refine (H3.out _).mono ?_); rintro e w' ⟨rfl, rfl⟩)
          | (go_at_call 185; refine (H6.out _).mono ?_; rintro e w2 ⟨rfl, hb⟩; obtain ⟨hc, hf⟩ := bcell hb; have hz : w.heap.size < w2.heap.size := by have := hb.size; simp at this; omega))
        have hr := HR2.out
        simp at hr
        refine bodyPost_ret (v := .tuple #[.agg #[.string (bs R.1.1), .int .i64 R.1.2], .int .i64 R.2]) (by first | (simp [results, Tryz.results171, go_sem, ← hr, bs]; done) | (simp [results, Tryz.results171, go_sem, ← hr, hc]; done) | (simp [results, Tryz.results171, go_sem, ← hr, hc, hz]; trace_state; fail)) rfl ⟨rfl, by first | ((repeat (first | exact Bel.refl _ | assumption | refine Bel.to_drewN ?_ _ | refine Bel.to_drew ?_ | refine Bel.to_setCell ?_ (by first | exact Nat.le_refl _ | (simp; done) | (simp; omega) | omega) _ | refine Bel.to_alloc ?_ _ | refine Bel.trans ?_ (by assumption))); done) | (have hb' : Bel _ _ := hb; refine Bel.to_setCell (Bel.to_setCell (Bel.trans ?_ hb) (Nat.le_refl _) _) (Nat.le_refl _) _; (repeat (first | exact Bel.refl _ | assumption | refine Bel.to_drewN ?_ _ | refine Bel.to_drew ?_ | refine Bel.to_setCell ?_ (by first | exact Nat.le_refl _ | (simp; done) | (simp; omega) | omega) _ | refine Bel.to_alloc ?_ _ | refine Bel.trans ?_ (by assumption))))⟩
  exact key _ rfl
end Go.Proofs.YtbcdbefogfmhfaaGreatDoor

namespace Go.Proofs.YtbcdbefogfmhfaaGreatDoor
open Go.RowKit
attribute [local go_sem] eql_num neq_num eqGuard_num
/-- What the walks of number ask of the world. -/
def EnvN (w : World) : Prop := ErrT w ∧ MaxT w
theorem EnvN.bel {w w' : World} (h : EnvN w) (hb : Bel w w') : EnvN w' := ⟨hb.keep h.1, h.2.bel hb⟩
theorem checkN_zero {l : List UInt8} {sc : Int} (h : checkN l sc = 0) : l.all isDig = true ∧ l ≠ [] ∧ l.length ≤ 1000 ∧ 0 ≤ sc ∧ sc ≤ 1000 := by
  unfold checkN at h
  split at h
  · cases h
  · rename_i h1
    simp only [Bool.not_eq_false] at h1
    unfold digitsL at h1
    rw [Bool.and_eq_true] at h1
    split at h
    · cases h
    · split at h
      · cases h
      · exact ⟨h1.1, by intro e; subst e; simp at h1, by omega, by omega, by omega⟩
end Go.Proofs.YtbcdbefogfmhfaaGreatDoor

namespace Go.Proofs.YtbcdbefogfmhfaaGreatDoor
open Go.RowKit
theorem repeatL_48 (m : Nat) : Lib.repeatL [48] m = List.replicate m 48 := by
  induction m with
  | zero => rfl
  | succ m ih => simp [Lib.repeatL] at ih ⊢; simp [List.replicate_succ, ih]
theorem repeat_c (m : Nat) (hm : m ≤ 4294967280) (w : World) :
    Calls Tryz.prog 188 #[.string ⟨#[48]⟩, .int .i64 m] w fun e w' => e = .returned (.string (bs (List.replicate m 48))) ∧ Bel w w' :=
  (Tryz.strings_Repeat ⟨#[48]⟩ m w (by omega) (by show 1 * m ≤ _; omega)).mono fun e w' ⟨he, hw⟩ => ⟨by rw [he, ← repeatL_48]; rfl, hw⟩
/-- The text of a number in its one form. -/
def textC (l : List UInt8) (sc : Int) : List UInt8 :=
  if sc = 0 then l
  else
    let s := List.replicate (max 0 (sc + 1 - l.length)).toNat 48 ++ l
    s.take (s.length - sc.toNat) ++ 46 :: s.drop (s.length - sc.toNat)
def textE (l : List UInt8) (sc : Int) : List UInt8 × Nat := if checkN l sc = 0 then (textC (canonL l sc).1 (canonL l sc).2, 0) else ([], checkN l sc)
def RetTextE (r : List UInt8 × Nat) (w : World) (e : Ending) (w' : World) : Prop := e = .returned (.tuple #[.string (bs r.1), .int .i64 r.2]) ∧ Bel w w'
theorem text_join (X : ByteArray) (k : Nat) : X.extract 0 k ++ ⟨#[46]⟩ ++ X.extract k X.size = bs ((dl X).take k ++ 46 :: (dl X).drop k) := by
  rw [Lib.extract_upto, Lib.extract_from]
  apply ByteArray.ext
  apply Array.ext'
  simp [bs, dl]
set_option maxHeartbeats 4000000 in
theorem ntext_c (d : ByteArray) (hs : d.size ≤ maxLen) (sc : Int) (w : World) (hE : EnvN w) :
    Calls Tryz.prog 172 #[.agg #[.string d, .int .i64 sc]] w (RetTextE (textE (dl d) sc) w) := by
  have h1 := fun w1 => ncheck_c d hs sc w1
  have hcan := @canon_c d
  have hcc := canon_can (dl d)
  obtain ⟨R, hR⟩ : ∃ R, textE (dl d) sc = R := ⟨_, rfl⟩
  rw [hR]
  unfold textE at hR
  obtain ⟨n, hn⟩ : ∃ n, checkN (dl d) sc = n := ⟨_, rfl⟩
  have hz := @checkN_zero (dl d) sc
  have hds := dl_size d
  rw [hn] at h1 hR hz
  have H1 := Lib.hid h1
  have HE := Lib.hid hE
  clear h1 hn hE
  by_cases h0 : n = 0
  · obtain ⟨hd, _, hl, hs0, hs1⟩ := hz h0
    rw [if_pos h0] at hR
    subst h0
    obtain ⟨S, rfl⟩ := Int.eq_ofNat_of_zero_le hs0
    have h2 := fun w1 => hcan (by omega) S hs0 (by omega) w1
    obtain ⟨C1, C2, hC, _, _, hC2, _, hC1⟩ := hcc S hd (by omega)
    rw [hC] at h2 hR
    dsimp only at hR
    obtain ⟨B, hB⟩ : ∃ B : ByteArray, B = bs C1 := ⟨_, rfl⟩
    have hB1 : dl B = C1 := by rw [hB]; rfl
    have h2' : ∀ w1, Calls Tryz.prog 185 #[.agg #[.string d, .int .i64 S]] w1 fun e w' => e = .returned (.agg #[.string B, .int .i64 C2]) ∧ Bel w1 w' := by rw [hB]; exact h2
    have hBs : B.size = C1.length := by rw [hB, bs_size]
    rw [← hBs] at hC1
    rw [← hB1] at hR
    have H2 := Lib.hid h2'
    have HR := Lib.hid hR
    have hB3 : B.size ≤ 1000 := by omega
    have hC3 : (C2 : Int) ≤ 1000 := by omega
    clear h2 h2' hR hC hcan hz hds hl hs1 hs hcc hd hB hB1 hC1 hBs hC2 hs0
    by_cases hc0 : C2 = 0
    · subst hc0
      go_enter Tryz.func172, Tryz.ntmps172
      go_wp2_with fail
      refine (H1.out _).mono ?_
      rintro e w1 ⟨v, rfl, ⟨_, rfl⟩ | ⟨h, _⟩, hb1⟩
      · obtain ⟨hc, hf⟩ := bcell hb1
        have hz : w.heap.size < w1.heap.size := by have := hb1.size; simp at this; omega
        go_wp2_with fail
        refine (H2.out _).mono ?_
        rintro e w2 ⟨rfl, hb2⟩
        obtain ⟨hc2, hf2⟩ := bcell hb2
        have hz2 : w1.heap.size ≤ w2.heap.size := hb2.size
        go_wp2_with fail
        go_ret2
        refine ⟨?_, by (repeat (first | exact Bel.refl _ | assumption | refine Bel.to_drewN ?_ _ | refine Bel.to_drew ?_ | refine Bel.to_setCell ?_ (by first | exact Nat.le_refl _ | (simp; done) | (simp; omega) | omega) _ | refine Bel.to_alloc ?_ _ | refine Bel.trans ?_ (by assumption)))⟩
        rw [← HR.out]; rfl
      · exact absurd rfl h
    · go_enter Tryz.func172, Tryz.ntmps172
      go_wp2_with fail
      refine (H1.out _).mono ?_
      rintro e w1 ⟨v, rfl, ⟨_, rfl⟩ | ⟨h, _⟩, hb1⟩
      · obtain ⟨hc, hf⟩ := bcell hb1
        have hz : w.heap.size < w1.heap.size := by have := hb1.size; simp at this; omega
        have hcz : ((C2 : Int) == 0) = false := by simpa using hc0
        go_wp2_with fail
        refine (H2.out _).mono ?_
        rintro e w2 ⟨rfl, hb2⟩
        obtain ⟨hc2, hf2⟩ := bcell hb2
        have hz2 : w1.heap.size ≤ w2.heap.size := hb2.size
        have hz3 : w.heap.size < w2.heap.size := by omega
        have HC0 := Lib.hid hc0
        clear hc0
        go_wp2_with fail
        have k0 : ((w2.setCell ⟨w.heap.size, 0, none⟩ (.string B)).setCell ⟨w.heap.size, 1, none⟩ (.int .i64 C2)).cell? ⟨w.heap.size, 0, none⟩ = some (.string B) := by go_simp
        have k1 : ((w2.setCell ⟨w.heap.size, 0, none⟩ (.string B)).setCell ⟨w.heap.size, 1, none⟩ (.int .i64 C2)).cell? ⟨w.heap.size, 1, none⟩ = some (.int .i64 C2) := by go_simp
        obtain ⟨W0, hW0⟩ : ∃ W0, (w2.setCell ⟨w.heap.size, 0, none⟩ (.string B)).setCell ⟨w.heap.size, 1, none⟩ (.int .i64 C2) = W0 := ⟨_, rfl⟩
        have hb0 : Bel w W0 := by rw [← hW0]; (repeat (first | exact Bel.refl _ | assumption | refine Bel.to_drewN ?_ _ | refine Bel.to_drew ?_ | refine Bel.to_setCell ?_ (by first | exact Nat.le_refl _ | (simp; done) | (simp; omega) | omega) _ | refine Bel.to_alloc ?_ _ | refine Bel.trans ?_ (by assumption)))
        rw [hW0] at k0 k1 ⊢
        clear hW0 hc2 hf2 hc hf hz hz2 hz3 hb1 hb2
        have HB0 := Lib.hid hb0
        clear hb0
        obtain ⟨M, hM⟩ : ∃ M : Int, max 0 ((C2 : Int) + 1 - (B.size : Int)) = M := ⟨_, rfl⟩
        have hM0 : 0 ≤ M := by omega
        have hM1 : M ≤ 1001 := by omega
        have hM2 : (C2 : Int) < M + B.size := by omega
        obtain ⟨m, rfl⟩ := Int.eq_ofNat_of_zero_le hM0
        have h4 := fun w1 => repeat_c m (by omega) w1
        obtain ⟨Z, hZ⟩ : ∃ Z : ByteArray, Z = bs (List.replicate m 48) := ⟨_, rfl⟩
        rw [← hZ] at h4
        have hZs : Z.size = m := by rw [hZ, bs_size, List.length_replicate]
        have hZl : dl Z = List.replicate m 48 := by rw [hZ]; rfl
        have hr := HR.out
        unfold textC at hr
        rw [if_neg (by have := HC0.out; omega), dl_size, hM] at hr
        simp only [Int.toNat_natCast] at hr
        rw [← hZl] at hr
        have H4 := Lib.hid h4
        have HRR := Lib.hid hr
        have HM := Lib.hid hM
        have HZ := Lib.hid hZs
        have f1 : IntKind.i64.wrap ((C2 : Int) + 1) = (C2 : Int) + 1 := IntWalk.i64_in _ (by omega)
        have f2 : IntKind.i64.wrap ((C2 : Int) + 1 - (B.size : Int)) = (C2 : Int) + 1 - (B.size : Int) := IntWalk.i64_in _ (by omega)
        have f3 : ¬ (9223372036854775807 < Z.size + B.size) := by omega
        clear h4 hr hZ hZs hZl HR
        go_region_held3 (fun w' => w'.cell? ⟨w.heap.size, 0, none⟩ = some (.string B) ∧ w'.cell? ⟨w.heap.size, 1, none⟩ = some (.int .i64 C2) ∧ Bel W0 w')
          (((try dsimp only); (try go_split_ands); (refine ⟨?_, ?_, ?_⟩ <;> first | assumption | exact Bel.keep (by assumption) (by assumption) | ((repeat (first | exact Bel.refl _ | assumption | refine Bel.to_drewN ?_ _ | refine Bel.to_drew ?_ | refine Bel.to_setCell ?_ (by first | exact Nat.le_refl _ | (simp; done) | (simp; omega) | omega) _ | refine Bel.to_alloc ?_ _ | refine Bel.trans ?_ (by assumption))); done) | (go_keep; done))))
          (first
            | (go_at_call 188; refine (H4.out _).mono ?_; rintro e w3 ⟨rfl, hb3⟩))
        obtain ⟨X, hX⟩ : ∃ X, Z ++ B = X := ⟨_, rfl⟩
        have hXs : X.size = m + B.size := by rw [← hX, ByteArray.size_append, HZ.out]
        have hXl : dl Z ++ dl B = dl X := by rw [← hX]; simp [dl]
        have hr := HRR.out
        rw [hXl, dl_size] at hr
        obtain ⟨k, hk⟩ : ∃ k, X.size - C2 = k := ⟨_, rfl⟩
        have hki : (X.size : Int) - C2 = k := by omega
        rw [hk] at hr
        have HR3 := Lib.hid hr
        have g0 : (C2 : Int) ≤ X.size := by omega
        have g1 : k ≤ X.size := by omega
        have g2 : X.size ≤ 4294967296 := by omega
        have HK := Lib.hid hki
        go_split_ands
        rename_i q0 q1 q2
        rw [hX]
        clear hr hXl hX hXs hki hk f1 f2 f3 hM2 hM0 hM1 k0 k1 HM HZ HRR H1 H2 H4
        go_wp2_with fail
        rw [HK.out]
        have e1 : (X.extract 0 k).size = k := by simp; omega
        have e2 : (X.extract k X.size).size = X.size - k := by simp
        have e3 : ((X.extract 0 k) ++ ⟨#[46]⟩).size = k + 1 := by rw [ByteArray.size_append, e1]; rfl
        have g3 : ¬ (9223372036854775807 < (X.extract 0 k).size + 1) := by omega
        have g4 : ¬ (9223372036854775807 < ((X.extract 0 k) ++ ⟨#[46]⟩ : ByteArray).size + (X.extract k X.size).size) := by omega
        have g5 : (0 : Int) ≤ k := by omega
        have g6 : (k : Int) ≤ X.size := by omega
        go_region
        go_wp2_with fail
        go_ret2
        refine ⟨?_, Bel.trans HB0.out (Bel.to_drew (by assumption))⟩
        rw [← HR3.out, text_join]
        rfl
      · exact absurd rfl h
  · rw [if_neg h0] at hR
    have HR := Lib.hid hR
    clear hR hcan hz hds hcc
    go_enter Tryz.func172, Tryz.ntmps172
    go_wp2_with fail
    refine (H1.out _).mono ?_
    rintro e w1 ⟨v, rfl, ⟨h, _⟩ | ⟨h, b, rfl, hcb⟩, hb1⟩
    · exact absurd h h0
    · have h3 := told_c _ n w1 (HE.out.bel ((Bel.alloc w _).trans hb1)).1 (.inr ⟨h, b, rfl, hcb⟩)
      have H3 := Lib.hid h3
      clear h3 hcb
      go_wp2_with fail
      refine H3.out.mono ?_
      rintro e w2 ⟨rfl, hb2⟩
      go_wp2_with fail
      go_ret2
      refine ⟨?_, by (repeat (first | exact Bel.refl _ | assumption | refine Bel.to_drewN ?_ _ | refine Bel.to_drew ?_ | refine Bel.to_setCell ?_ (by first | exact Nat.le_refl _ | (simp; done) | (simp; omega) | omega) _ | refine Bel.to_alloc ?_ _ | refine Bel.trans ?_ (by assumption)))⟩
      rw [← HR.out]; rfl
end Go.Proofs.YtbcdbefogfmhfaaGreatDoor
