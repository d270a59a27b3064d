/-
  feelprint's laws: the examples, built in memory, and printed.
-/
import Derived.Test.YtpenfnabeckboaaGreatDoorFPO
import Derived.Test.YtpenfnabeckboaaGreatDoorEXE
import Derived.Test.YtpenfnabeckboaaGreatDoorEHW
namespace Go.Proofs.YtpenfnabeckboaaGreatDoor
open Go.RowKit

set_option maxHeartbeats 1000000 in
theorem fn_c (s : ByteArray) (w : World) : Calls Tryz.prog 19 #[.string s] w (RetBel (.agg #[.int .i64 0, .string s, .slice none 0 0, .slice none 0 0]) w) := by
  go_enter Tryz.func19, Tryz.ntmps19
  go_wp2_with fail
  refine bodyPost_ret (results_cellE rfl _ _ w.heap.size _ rfl (load_ex (Blk.new w 25 [.int .i64 0, .string s, .slice none 0 0, .slice none 0 0]))) rfl ?_
  exact ⟨rfl, by (repeat (first | exact Bel.refl _ | assumption | refine Bel.to_drewN ?_ _ | refine Bel.to_drew ?_ | refine Bel.to_setCell ?_ (by first | exact Nat.le_refl _ | (simp; done) | (simp; omega) | omega) _ | refine Bel.to_alloc ?_ _ | refine Bel.trans ?_ (by assumption)))⟩
set_option maxHeartbeats 1000000 in
theorem pn_c (s : ByteArray) (w : World) : Calls Tryz.prog 12 #[.string s] w (RetBel (.agg #[.int .i64 0, .string s, .slice none 0 0, .slice none 0 0]) w) := by
  go_enter Tryz.func12, Tryz.ntmps12
  go_wp2_with fail
  refine bodyPost_ret (results_cellE rfl _ _ w.heap.size _ rfl (load_ex (Blk.new w 25 [.int .i64 0, .string s, .slice none 0 0, .slice none 0 0]))) rfl ?_
  exact ⟨rfl, by (repeat (first | exact Bel.refl _ | assumption | refine Bel.to_drewN ?_ _ | refine Bel.to_drew ?_ | refine Bel.to_setCell ?_ (by first | exact Nat.le_refl _ | (simp; done) | (simp; omega) | omega) _ | refine Bel.to_alloc ?_ _ | refine Bel.trans ?_ (by assumption)))⟩
/-- What a closure that makes an expression of kind 5 answers. -/
def Ret_fbin_c (s : ByteArray) (l : List Ex) (w : World) (e : Ending) (w' : World) : Prop := ∃ g, e = .returned (.agg #[.int .i64 5, .string s, .slice none 0 0, .slice (some ⟨g, 0, none⟩) 2 2]) ∧ Bel w w' ∧ ExAt w' (.mk 5 s [] l) (.slice none 0 0) (.slice (some ⟨g, 0, none⟩) 2 2)
set_option maxRecDepth 100000 in
set_option maxHeartbeats 4000000 in
theorem fbin_c (s : ByteArray) (x y : Ex) (nap : Option Addr) (nnp ncp : Nat) (lap : Option Addr) (lnp lcp : Nat) (naq : Option Addr) (nnq ncq : Nat) (laq : Option Addr) (lnq lcq : Nat) (w : World) (hp : ExAt w x (.slice nap nnp ncp) (.slice lap lnp lcp)) (hq : ExAt w y (.slice naq nnq ncq) (.slice laq lnq lcq)) :
    Calls Tryz.prog 20 #[.string s, .agg #[.int .i64 x.k, .string x.s, .slice nap nnp ncp, .slice lap lnp lcp], .agg #[.int .i64 y.k, .string y.s, .slice naq nnq ncq, .slice laq lnq lcq]] w (Ret_fbin_c s [x, y] w) := by
  obtain ⟨Bp, bp, kp, lp, sp⟩ := alloc_step w 25 [.int .i64 x.k, .string x.s, .slice nap nnp ncp, .slice lap lnp lcp]
  have HBp := Lib.hid bp
  obtain ⟨Bq, bq, kq, lq, sq⟩ := alloc_step Bp 25 [.int .i64 y.k, .string y.s, .slice naq nnq ncq, .slice laq lnq lcq]
  have HBq := Lib.hid bq
  obtain ⟨V1, h1, k1, l1, s1⟩ := alloc_step Bq 25 [.int .i64 0, .string ⟨#[]⟩, .slice none 0 0, .slice none 0 0]
  obtain ⟨V2, h2, k2, l2, s2⟩ := alloc_step V1 25 [.int .i64 x.k, .string x.s, .slice nap nnp ncp, .slice lap lnp lcp, .int .i64 y.k, .string y.s, .slice naq nnq ncq, .slice laq lnq lcq]
  rw [sp] at kq sq
  rw [sq] at k1 s1
  have HBW := Lib.hid (((lp.trans lq).trans l1).trans l2)
  have mp := kp.bel (lq.trans l1)
  have yp0 := mp.at 0
  have yp1 := mp.at 1
  have yp2 := mp.at 2
  have yp3 := mp.at 3
  have Xp := Lib.hid hp
  have mq := kq.bel l1
  have yq0 := mq.at 0
  have yq1 := mq.at 1
  have yq2 := mq.at 2
  have yq3 := mq.at 3
  have Xq := Lib.hid hq
  have HV1 := Lib.hid h1
  have HV2 := Lib.hid h2
  have K2 := Lib.hid k2
  have K1 := Lib.hid (k1.bel l2)
  have HS := Lib.hid s1
  clear h1 k1 l1 s1 h2 k2 l2 s2 bp kp lp sp mp hp bq kq lq sq mq hq
  go_enter Tryz.func20, Tryz.ntmps20
  go_upto_region 1 with fail
  rw [show w.alloc (.cells #[.int .i64 x.k, .string x.s, .slice nap nnp ncp, .slice lap lnp lcp] 25) = Bp from HBp.out]
  rw [show Bp.alloc (.cells #[.int .i64 y.k, .string y.s, .slice naq nnq ncq, .slice laq lnq lcq] 25) = Bq from HBq.out]
  rw [show Bq.alloc (.cells #[.int .i64 0, .string ⟨#[]⟩, .slice none 0 0, .slice none 0 0] 25) = V1 from HV1.out]
  have KA : Blk (V1.alloc (.cells #[.int .i64 x.k, .string x.s, .slice nap nnp ncp, .slice lap lnp lcp, .int .i64 y.k, .string y.s, .slice naq nnq ncq, .slice laq lnq lcq] 25)) (w.heap.size + 1 + 1) 25 [.int .i64 0, .string ⟨#[]⟩, .slice none 0 0, .slice none 0 0] := by rw [HV2.out]; exact K1.out
  have z0 := KA.at 0
  have fz0 := KA.fz 0
  have z1 := KA.at 1
  have fz1 := KA.fz 1
  have z2 := KA.at 2
  have fz2 := KA.fz 2
  have z3 := KA.at 3
  have fz3 := KA.fz 3
  clear KA
  go_wp2_with fail
  rw [HV2.out]
  obtain ⟨m1, m2, m3⟩ := store_ex (.int .i64 5) (.string s) (.slice none 0 0) (.slice (some ⟨V1.heap.size, 0, none⟩) 2 2) K1.out rfl HBW.out (by omega)
  have k2 := m3 _ _ _ (by have := HS.out; omega) K2.out
  refine bodyPost_ret (results_cellE rfl _ _ (w.heap.size + 1 + 1) _ rfl (load_ex m1)) rfl ?_
  refine ⟨_, rfl, m2, exAt_mk (by decide) (rowE_nil _) (exs_two k2 rfl (ExAt.bel m2 _ Xp.out) (ExAt.bel m2 _ Xq.out)) rfl k2.lt⟩
/-- What a closure that makes an expression of kind 4 answers. -/
def Ret_fneg_c (l : List Ex) (w : World) (e : Ending) (w' : World) : Prop := ∃ g, e = .returned (.agg #[.int .i64 4, .string ⟨#[]⟩, .slice none 0 0, .slice (some ⟨g, 0, none⟩) 1 1]) ∧ Bel w w' ∧ ExAt w' (.mk 4 ⟨#[]⟩ [] l) (.slice none 0 0) (.slice (some ⟨g, 0, none⟩) 1 1)
set_option maxRecDepth 100000 in
set_option maxHeartbeats 4000000 in
theorem fneg_c (x : Ex) (nap : Option Addr) (nnp ncp : Nat) (lap : Option Addr) (lnp lcp : Nat) (w : World) (hp : ExAt w x (.slice nap nnp ncp) (.slice lap lnp lcp)) :
    Calls Tryz.prog 21 #[.agg #[.int .i64 x.k, .string x.s, .slice nap nnp ncp, .slice lap lnp lcp]] w (Ret_fneg_c [x] w) := by
  obtain ⟨Bp, bp, kp, lp, sp⟩ := alloc_step w 25 [.int .i64 x.k, .string x.s, .slice nap nnp ncp, .slice lap lnp lcp]
  have HBp := Lib.hid bp
  obtain ⟨V1, h1, k1, l1, s1⟩ := alloc_step Bp 25 [.int .i64 0, .string ⟨#[]⟩, .slice none 0 0, .slice none 0 0]
  obtain ⟨V2, h2, k2, l2, s2⟩ := alloc_step V1 25 [.int .i64 x.k, .string x.s, .slice nap nnp ncp, .slice lap lnp lcp]
  rw [sp] at k1 s1
  have HBW := Lib.hid ((lp.trans l1).trans l2)
  have mp := kp.bel l1
  have yp0 := mp.at 0
  have yp1 := mp.at 1
  have yp2 := mp.at 2
  have yp3 := mp.at 3
  have Xp := Lib.hid hp
  have HV1 := Lib.hid h1
  have HV2 := Lib.hid h2
  have K2 := Lib.hid k2
  have K1 := Lib.hid (k1.bel l2)
  have HS := Lib.hid s1
  clear h1 k1 l1 s1 h2 k2 l2 s2 bp kp lp sp mp hp
  go_enter Tryz.func21, Tryz.ntmps21
  go_upto_region 1 with fail
  rw [show w.alloc (.cells #[.int .i64 x.k, .string x.s, .slice nap nnp ncp, .slice lap lnp lcp] 25) = Bp from HBp.out]
  rw [show Bp.alloc (.cells #[.int .i64 0, .string ⟨#[]⟩, .slice none 0 0, .slice none 0 0] 25) = V1 from HV1.out]
  have KA : Blk (V1.alloc (.cells #[.int .i64 x.k, .string x.s, .slice nap nnp ncp, .slice lap lnp lcp] 25)) (w.heap.size + 1) 25 [.int .i64 0, .string ⟨#[]⟩, .slice none 0 0, .slice none 0 0] := by rw [HV2.out]; exact K1.out
  have z0 := KA.at 0
  have fz0 := KA.fz 0
  have z1 := KA.at 1
  have fz1 := KA.fz 1
  have z2 := KA.at 2
  have fz2 := KA.fz 2
  have z3 := KA.at 3
  have fz3 := KA.fz 3
  clear KA
  go_wp2_with fail
  rw [HV2.out]
  obtain ⟨m1, m2, m3⟩ := store_ex (.int .i64 4) (.string ⟨#[]⟩) (.slice none 0 0) (.slice (some ⟨V1.heap.size, 0, none⟩) 1 1) K1.out rfl HBW.out (by omega)
  have k2 := m3 _ _ _ (by have := HS.out; omega) K2.out
  refine bodyPost_ret (results_cellE rfl _ _ (w.heap.size + 1) _ rfl (load_ex m1)) rfl ?_
  refine ⟨_, rfl, m2, exAt_mk (by decide) (rowE_nil _) (exs_one k2 rfl (ExAt.bel m2 _ Xp.out)) rfl k2.lt⟩
/-- What a closure that makes an expression of kind 5 answers. -/
def Ret_pbin_c (s : ByteArray) (l : List Ex) (w : World) (e : Ending) (w' : World) : Prop := ∃ g, e = .returned (.agg #[.int .i64 5, .string s, .slice none 0 0, .slice (some ⟨g, 0, none⟩) 2 2]) ∧ Bel w w' ∧ ExAt w' (.mk 5 s [] l) (.slice none 0 0) (.slice (some ⟨g, 0, none⟩) 2 2)
set_option maxRecDepth 100000 in
set_option maxHeartbeats 4000000 in
theorem pbin_c (s : ByteArray) (x y : Ex) (nap : Option Addr) (nnp ncp : Nat) (lap : Option Addr) (lnp lcp : Nat) (naq : Option Addr) (nnq ncq : Nat) (laq : Option Addr) (lnq lcq : Nat) (w : World) (hp : ExAt w x (.slice nap nnp ncp) (.slice lap lnp lcp)) (hq : ExAt w y (.slice naq nnq ncq) (.slice laq lnq lcq)) :
    Calls Tryz.prog 13 #[.string s, .agg #[.int .i64 x.k, .string x.s, .slice nap nnp ncp, .slice lap lnp lcp], .agg #[.int .i64 y.k, .string y.s, .slice naq nnq ncq, .slice laq lnq lcq]] w (Ret_pbin_c s [x, y] w) := by
  obtain ⟨Bp, bp, kp, lp, sp⟩ := alloc_step w 25 [.int .i64 x.k, .string x.s, .slice nap nnp ncp, .slice lap lnp lcp]
  have HBp := Lib.hid bp
  obtain ⟨Bq, bq, kq, lq, sq⟩ := alloc_step Bp 25 [.int .i64 y.k, .string y.s, .slice naq nnq ncq, .slice laq lnq lcq]
  have HBq := Lib.hid bq
  obtain ⟨V1, h1, k1, l1, s1⟩ := alloc_step Bq 25 [.int .i64 0, .string ⟨#[]⟩, .slice none 0 0, .slice none 0 0]
  obtain ⟨V2, h2, k2, l2, s2⟩ := alloc_step V1 25 [.int .i64 x.k, .string x.s, .slice nap nnp ncp, .slice lap lnp lcp, .int .i64 y.k, .string y.s, .slice naq nnq ncq, .slice laq lnq lcq]
  rw [sp] at kq sq
  rw [sq] at k1 s1
  have HBW := Lib.hid (((lp.trans lq).trans l1).trans l2)
  have mp := kp.bel (lq.trans l1)
  have yp0 := mp.at 0
  have yp1 := mp.at 1
  have yp2 := mp.at 2
  have yp3 := mp.at 3
  have Xp := Lib.hid hp
  have mq := kq.bel l1
  have yq0 := mq.at 0
  have yq1 := mq.at 1
  have yq2 := mq.at 2
  have yq3 := mq.at 3
  have Xq := Lib.hid hq
  have HV1 := Lib.hid h1
  have HV2 := Lib.hid h2
  have K2 := Lib.hid k2
  have K1 := Lib.hid (k1.bel l2)
  have HS := Lib.hid s1
  clear h1 k1 l1 s1 h2 k2 l2 s2 bp kp lp sp mp hp bq kq lq sq mq hq
  go_enter Tryz.func13, Tryz.ntmps13
  go_upto_region 1 with fail
  rw [show w.alloc (.cells #[.int .i64 x.k, .string x.s, .slice nap nnp ncp, .slice lap lnp lcp] 25) = Bp from HBp.out]
  rw [show Bp.alloc (.cells #[.int .i64 y.k, .string y.s, .slice naq nnq ncq, .slice laq lnq lcq] 25) = Bq from HBq.out]
  rw [show Bq.alloc (.cells #[.int .i64 0, .string ⟨#[]⟩, .slice none 0 0, .slice none 0 0] 25) = V1 from HV1.out]
  have KA : Blk (V1.alloc (.cells #[.int .i64 x.k, .string x.s, .slice nap nnp ncp, .slice lap lnp lcp, .int .i64 y.k, .string y.s, .slice naq nnq ncq, .slice laq lnq lcq] 25)) (w.heap.size + 1 + 1) 25 [.int .i64 0, .string ⟨#[]⟩, .slice none 0 0, .slice none 0 0] := by rw [HV2.out]; exact K1.out
  have z0 := KA.at 0
  have fz0 := KA.fz 0
  have z1 := KA.at 1
  have fz1 := KA.fz 1
  have z2 := KA.at 2
  have fz2 := KA.fz 2
  have z3 := KA.at 3
  have fz3 := KA.fz 3
  clear KA
  go_wp2_with fail
  rw [HV2.out]
  obtain ⟨m1, m2, m3⟩ := store_ex (.int .i64 5) (.string s) (.slice none 0 0) (.slice (some ⟨V1.heap.size, 0, none⟩) 2 2) K1.out rfl HBW.out (by omega)
  have k2 := m3 _ _ _ (by have := HS.out; omega) K2.out
  refine bodyPost_ret (results_cellE rfl _ _ (w.heap.size + 1 + 1) _ rfl (load_ex m1)) rfl ?_
  refine ⟨_, rfl, m2, exAt_mk (by decide) (rowE_nil _) (exs_two k2 rfl (ExAt.bel m2 _ Xp.out) (ExAt.bel m2 _ Xq.out)) rfl k2.lt⟩
end Go.Proofs.YtpenfnabeckboaaGreatDoor
