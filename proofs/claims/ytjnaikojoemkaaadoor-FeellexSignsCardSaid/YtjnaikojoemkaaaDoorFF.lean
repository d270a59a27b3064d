/-
  feellex: escapes.
-/
import Derived.Test.YtjnaikojoemkaaaDoorFE
import Derived.Maps.OwnSet
namespace Go.Proofs.YtjnaikojoemkaaaDoor
open Go.RowKit Go.Maps Go.WideMaps

set_option maxHeartbeats 400000 in
theorem ppuint_c (s : ByteArray) (h4 : s.size = 4) (hx : s.data.toList.all hexC = true) (w : World) :
    Calls Tryd.prog 48 #[.string s, .int .i64 16, .int .i64 32] w fun e w' => e = .returned (.tuple #[.int .u64 (hexN s.data.toList), .nilIface]) ∧ Bel w w' := by
  have h := Lib.hid (puint_c s h4 hx w)
  go_enter Tryd.func48, Tryd.ntmps48
  go_wp2_with fail
  refine h.out.mono ?_
  rintro e w1 ⟨rfl, hb⟩
  go_wp2_with fail
  go_ret2
  exact ⟨rfl, hb⟩

/-- 'm[k] = v' of a literal's entry. -/
theorem wpL_insert {H : Type} {P : Program} (w : World) {ops : Array Oper} {rest : List Oper} {o : Oper} {a : Act} {Q : Exit → Act → World → Prop}
    (hg : o.guard = none) (m x v : Operand) (t : TypeId) (hop : o.op = Op.insert t m x v)
    (k e : TypeId) (K : Maps.Keyed P k) (ht : P.underlying t = some (.map k e)) (R : Value → Option (DataW H × List MemPlace)) (b n : Nat) (D : DataW H)
    (hm : a.eval m = .map (some b)) (hown : w.ownsMap P k R b n D) (hn : n < maxLen) (key val : Value) (kl : Lit) (hx : a.eval x = key) (hv : a.eval v = val) (hkey : keyOf P k key = some kl)
    (d : DataW H) (ps : List MemPlace) (hval : R val = some (d, ps))
    (hK : ∀ w', w'.ownsMap P k R b (n + 1) (D.put kl d) → w.grownBy w' (some b) → wpList P ops Q rest (a.put o.dst undef) w') :
    wpList P ops Q (o :: rest) a w := by
  refine wpList_plain hg fun K' hK' => ?_
  obtain ⟨w', hrun, r1, r2⟩ := hown.update K ht hn hkey hval
  unfold Oper.wp
  simp [execOp, hop, hm, hx, hv, hrun, Result.andThen]
  exact hK' _ _ (hK w' r1 r2)

def escD : DataW Unit := (((((DataW.map []).put (.int .u8 34) (.lit (.int .u8 34))).put (.int .u8 92) (.lit (.int .u8 92))).put (.int .u8 110) (.lit (.int .u8 10))).put (.int .u8 114) (.lit (.int .u8 13))).put (.int .u8 116) (.lit (.int .u8 9))

set_option maxRecDepth 100000 in
set_option maxHeartbeats 1000000 in
theorem escapes_c (w : World) :
    Calls Tryd.prog 46 #[] w fun e w' => e = .returned (.map (some w.heap.size)) ∧ w'.ownsMap Tryd.prog 5 (plainElem (H := Unit) Tryd.prog 5) w.heap.size 5 escD ∧ Bel w w' := by
  have hmm := @run_makeMap Tryd.prog
  go_enter Tryd.func46, Tryd.ntmps46
  have h0 := World.ownsMap_made w Tryd.prog 5 (plainElem (H := Unit) Tryd.prog 5)
  have b0 : Bel w (w.alloc (.map #[] 0)) := Bel.alloc _ _
  go_wp2_with (refine wpL_insert _ rfl _ _ _ 84 rfl 5 5 (int_keyed Tryd.underlying5) Tryd.underlying84 _ w.heap.size _ _ rfl (by assumption) (by unfold maxLen; omega) _ _ _ rfl rfl (keyOf_int_mk Tryd.underlying5 (by decide)) _ [] (plainElem_int Tryd.underlying5 (by decide)) ?_; intro w1 hown1 hgrow1; have hb1 : Bel w w1 := Below.grown (by assumption) hgrow1 (Bel.size (by assumption)) (fun k e => by cases e; exact Nat.le_refl _); clear hgrow1)
  go_ret
  exact ⟨rfl, by assumption, by assumption⟩
end Go.Proofs.YtjnaikojoemkaaaDoor
