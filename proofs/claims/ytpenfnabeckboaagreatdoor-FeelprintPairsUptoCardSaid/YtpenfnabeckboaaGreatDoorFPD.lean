/-
  feelprint: the levels of signs, a map literal.
-/
import Derived.Test.YtpenfnabeckboaaGreatDoorFPC
import Derived.Test.YtpenfnabeckboaaGreatDoorEXC
import Derived.Test.YtpenfnabeckboaaGreatDoorMG
import Derived.Test.YtpenfnabeckboaaGreatDoorUCA
namespace Go.Proofs.YtpenfnabeckboaaGreatDoor
open Go.RowKit Go.Maps Go.WideMaps

/-- Entries that were put in, the last one first. -/
def putsD : List (ByteArray × Nat) → DataW Unit
  | [] => .map []
  | x :: r => (putsD r).put (keyS x.1) (.lit (.int .i64 x.2))
theorem putsD_map : ∀ l, IsMap (putsD l)
  | [] => isMap_empty
  | _ :: r => (putsD_map r).put _ _
theorem putsD_at (s : ByteArray) (z : DataW Unit) : ∀ l : List (ByteArray × Nat), (putsD l).atKey (keyS s) z = match (l.find? fun x => decide (x.1 = s)).map (·.2) with | some n => .lit (.int .i64 n) | none => z
  | [] => rfl
  | x :: r => by
    unfold putsD
    rw [List.find?_cons]
    by_cases h : x.1 = s
    · subst h
      rw [atKey_put_same (putsD_map r) (by trivial)]
      simp
    · rw [atKey_put_other (keyS_ne fun e => h e.symm), putsD_at s z r]
      simp [h]
theorem putsD_has (s : ByteArray) : ∀ l : List (ByteArray × Nat), Maps.has (putsD l) (keyS s) = ((l.find? fun x => decide (x.1 = s)).map (·.2)).isSome
  | [] => rfl
  | x :: r => by
    unfold putsD
    rw [List.find?_cons]
    by_cases h : x.1 = s
    · subst h
      rw [has_put_same (putsD_map r) (by trivial)]
      simp
    · rw [has_put_other (keyS_ne fun e => h e.symm), putsD_has s r]
      simp [h]
/-- The map of the signs. -/
def SgAt (W : World) (mb : Nat) : Prop := W.ownsMap Tryz.prog 9 (plainElem (H := Unit) Tryz.prog 3) mb 13 (putsD signsP.reverse)
theorem SgAt.bel {W W' : World} {mb : Nat} (h : SgAt W mb) (hb : Bel W W') : SgAt W' mb := own_mapBel h hb
theorem sg_look2 {W : World} {mb : Nat} (h : SgAt W mb) (s : ByteArray) (hs : s.size ≤ maxLen) :
    (Instr.lookup 64 (.map (some mb)) (.string s) true).run Tryz.prog W = .ok (.tuple #[.int .i64 ((signLv s).getD 0), .bool (signLv s).isSome]) W := by
  have hz : (zeroValue 3).run Tryz.prog W = .ok (.int .i64 0) W := by kernel_rfl
  obtain ⟨v, ps, hrun, hv⟩ := h.look_ok lawS Tryz.underlying64 hz (plainElem_int Tryz.underlying3 (by decide)) (keyS_of hs)
  obtain ⟨k, rfl, hk, _⟩ := plainElem_int_inv Tryz.underlying3 hv
  have hk2 := congrArg Prod.fst hk
  rw [putsD_has] at hrun
  dsimp only at hk2
  rw [putsD_at] at hk2
  show _ = Result.ok (Value.tuple #[.int .i64 (((signsP.reverse.find? fun x => decide (x.1 = s)).map (·.2)).getD 0 : Nat), .bool _]) W
  unfold signLv
  cases hx : (signsP.reverse.find? fun x => decide (x.1 = s)).map (·.2) with
  | none => rw [hx] at hk2 hrun; have hk0 : k = 0 := (by simp at hk2; omega); rw [hrun, hk0]; rfl
  | some n => rw [hx] at hk2 hrun; simp at hk2; rw [hrun, ← hk2]; rfl
theorem sg_look1 {W : World} {mb : Nat} (h : SgAt W mb) (s : ByteArray) (hs : s.size ≤ maxLen) :
    (Instr.lookup 64 (.map (some mb)) (.string s) false).run Tryz.prog W = .ok (.int .i64 ((signLv s).getD 0)) W := by
  have hz : (zeroValue 3).run Tryz.prog W = .ok (.int .i64 0) W := by kernel_rfl
  obtain ⟨v, ps, hrun, hv⟩ := h.lookup lawS Tryz.underlying64 hz (plainElem_int Tryz.underlying3 (by decide)) (keyS_of hs)
  obtain ⟨k, rfl, hk, _⟩ := plainElem_int_inv Tryz.underlying3 hv
  have hk2 := congrArg Prod.fst hk
  dsimp only at hk2
  rw [putsD_at] at hk2
  unfold signLv
  cases hx : (signsP.reverse.find? fun x => decide (x.1 = s)).map (·.2) with
  | none => rw [hx] at hk2; have hk0 : k = 0 := (by simp at hk2; omega); rw [hrun, hk0]; rfl
  | some n => rw [hx] at hk2; simp at hk2; rw [hrun, ← hk2]; rfl
set_option maxRecDepth 100000 in
set_option maxHeartbeats 2000000 in
theorem signs_c (w : World) : Calls Tryz.prog 36 #[] w fun e w' => e = .returned (.map (some w.heap.size)) ∧ SgAt w' w.heap.size ∧ Bel w w' := by
  have hmm := @run_makeMap Tryz.prog
  go_enter Tryz.func36, Tryz.ntmps36
  have h0 := World.ownsMap_made w Tryz.prog 9 (plainElem (H := Unit) Tryz.prog 3)
  have b0 : Bel w (w.alloc (.map #[] 0)) := Bel.alloc _ _
  go_wp2_with (refine wpL_insert _ rfl _ _ _ 64 rfl 9 3 lawS Tryz.underlying64 _ w.heap.size _ _ rfl (by assumption) (by unfold maxLen; omega) _ _ _ rfl rfl (keyS_of (by unfold maxLen; decide)) _ [] (plainElem_int Tryz.underlying3 (by decide)) ?_; intro w1 hown1 hgrow1; have hb1 : Bel w w1 := Below.grown (by assumption) hgrow1 (Bel.size (by assumption)) (fun k e => by cases e; exact Nat.le_refl _); clear hgrow1)
  go_ret
  exact ⟨rfl, by assumption, by assumption⟩
/-- A sign's level, looked up in the map that was just made. -/
theorem signs_look (s : ByteArray) (hs : s.size ≤ maxLen) (w : World) : Calls Tryz.prog 36 #[] w fun e w' => e = .returned (.map (some w.heap.size)) ∧ (Instr.lookup 64 (.map (some w.heap.size)) (.string s) true).run Tryz.prog w' = .ok (.tuple #[.int .i64 ((signLv s).getD 0), .bool (signLv s).isSome]) w' ∧ Bel w w' := by
  refine (signs_c w).mono ?_
  rintro e w' ⟨rfl, hm, hb⟩
  exact ⟨rfl, sg_look2 hm s hs, hb⟩
end Go.Proofs.YtpenfnabeckboaaGreatDoor
