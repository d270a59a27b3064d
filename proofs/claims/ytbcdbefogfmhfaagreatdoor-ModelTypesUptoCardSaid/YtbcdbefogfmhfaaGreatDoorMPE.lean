/-
  model's laws: the document's examples (printed by wip/mk_mpe.py).
-/
import Derived.Test.YtbcdbefogfmhfaaGreatDoorMPA
import Derived.Test.YtbcdbefogfmhfaaGreatDoorMPL
namespace Go.Proofs.YtbcdbefogfmhfaaGreatDoor
open Go.RowKit

def litL : Lg := .mk 0 (.mk 3 ⟨#[97]⟩ [] []) ⟨#[]⟩ [] [] [] [] []
def aM1 : Md := ⟨⟨#[109]⟩, ⟨#[109]⟩, ⟨#[]⟩, [], [⟨⟨#[105]⟩, ⟨#[97]⟩, ⟨#[]⟩⟩], [], [⟨⟨#[100]⟩, ⟨#[100]⟩, ⟨#[]⟩, [⟨#[105]⟩], [], litL⟩]⟩
def aM2 : Md := ⟨⟨#[109]⟩, ⟨#[109]⟩, ⟨#[]⟩, [], [], [], [⟨⟨#[100]⟩, ⟨#[97]⟩, ⟨#[]⟩, [⟨#[100]⟩], [], litL⟩]⟩
def aM3 : Md := ⟨⟨#[109]⟩, ⟨#[109]⟩, ⟨#[]⟩, [], [⟨⟨#[105]⟩, ⟨#[97]⟩, ⟨#[]⟩⟩], [], [⟨⟨#[100]⟩, ⟨#[100]⟩, ⟨#[]⟩, [], [], litL⟩]⟩
theorem acyc_none {N : List (List Nat)} (h : N.all List.isEmpty = true) : Acyc N := ⟨fun _ => 0, fun i hi k hk => by
  have h1 := List.all_eq_true.1 h _ (List.getElem_mem hi)
  unfold needAt at hk
  rw [List.getElem?_eq_getElem hi, List.isEmpty_iff.1 h1] at hk
  cases hk⟩
set_option maxRecDepth 100000 in
theorem am1_right : CheckM aM1 = 0 := check_zero.2 ⟨by decide +kernel, by decide +kernel, circ_zero.2 ⟨acyc_none (by decide +kernel), acyc_none (by decide +kernel), acyc_none (by decide +kernel)⟩, by decide +kernel⟩
set_option maxRecDepth 100000 in
theorem am2_wrong : CheckM aM2 = 16 := by
  have h1 : namedM aM2 = 0 := by decide +kernel
  have h2 : referredM aM2 = 0 := by decide +kernel
  have h3 : circM aM2 = 16 := by
    unfold circM
    have e1 : circE (basesM aM2) = 0 := if_pos (acyc_none (by decide +kernel))
    have e2 : circE (knowsM aM2) = 0 := if_pos (acyc_none (by decide +kernel))
    have e3 : circE (needsM aM2) = 16 := if_neg fun ⟨f, hf⟩ => by
      have hn : needsM aM2 = [[0]] := by decide +kernel
      rw [hn] at hf
      have := hf 0 (by decide) 0 (by simp [needAt])
      omega
    rw [e1, e2, e3]
    rfl
  unfold CheckM
  rw [h1, h2, h3]
  rfl
set_option maxRecDepth 100000 in
theorem am3_wrong : CheckM aM3 = 13 := by
  have h1 : namedM aM3 = 0 := by decide +kernel
  have h2 : referredM aM3 = 0 := by decide +kernel
  have h3 : circM aM3 = 0 := circ_zero.2 ⟨acyc_none (by decide +kernel), acyc_none (by decide +kernel), acyc_none (by decide +kernel)⟩
  have h4 : logM aM3 = 13 := by decide +kernel
  unfold CheckM
  rw [h1, h2, h3, h4]
  rfl
theorem lit_at (W : World) : LgAt W litL ⟨.slice none 0 0, .slice none 0 0, .slice none 0 0, .slice none 0 0, .slice none 0 0, .slice none 0 0, .slice none 0 0⟩ :=
  lgAt_mk (by decide) (exAt_leaf W 3 ⟨#[97]⟩ (by decide)) (exsV_nil W) (strV_nil W) (rusV_nil W) (strV_nil W) (a := none) (c := 0) rfl (Nat.le_refl _) (.inl rfl)
theorem cells_of {W : World} {b t : Nat} {cs : List Value} (h : Blk W b t cs) : CellsAt W b 0 cs := fun j v hj => by
  rw [Nat.zero_add]
  exact (h.at j).trans hj
theorem des_one {W : World} {b : Nat} {x : De} {vn vk : Value} {q : LgQ} (h : Blk W b 46 (deL x vn vk q)) (h1 : StrV W vn x.nd) (h2 : StrV W vk x.kw) (h3 : LgAt W x.lg q) : DesAt W (some ⟨b, 0, none⟩) [x] := fun j y hy => by
  cases j with
  | succ j => cases hy
  | zero =>
    cases hy
    exact ⟨b, 0, rfl, vn, vk, q, by rw [Nat.zero_mul]; exact cells_of h, h1, h2, h3⟩
theorem ins_one {W : World} {b : Nat} {x : Inp} (h : Blk W b 33 (inpL x)) : InpsAt W (some ⟨b, 0, none⟩) [x] := fun j y hy => by
  cases j with
  | succ j => cases hy
  | zero =>
    cases hy
    exact ⟨b, 0, rfl, by rw [Nat.zero_mul]; exact cells_of h⟩
theorem str_one {W : World} {b : Nat} {x : ByteArray} (h : Blk W b 9 [.string x]) : StrV W (.slice (some ⟨b, 0, none⟩) 1 1) [x] := ⟨_, _, rfl, Nat.le_refl _, fun j y hy => by
  cases j with
  | succ j => cases hy
  | zero =>
    cases hy
    exact ⟨b, 0, rfl, h.at 0⟩⟩
theorem none_at {α : Type} {n : Nat} {P : Nat → Nat → α → Prop} : ThingsAt n P none [] := fun j x hx => by cases hx

set_option maxRecDepth 100000 in
set_option maxHeartbeats 8000000 in
theorem malive_c (w : World) (hE : EnvM w) : Calls Tryz.prog 8 #[] w (RetBel (.bool true) w) := by
  obtain ⟨b0, hb0⟩ : ∃ x, w.heap.size = x := ⟨_, rfl⟩
  obtain ⟨b1, hb1⟩ : ∃ x, b0 + 1 = x := ⟨_, rfl⟩
  obtain ⟨b2, hb2⟩ : ∃ x, b1 + 1 = x := ⟨_, rfl⟩
  obtain ⟨b3, hb3⟩ : ∃ x, b2 + 1 = x := ⟨_, rfl⟩
  obtain ⟨b4, hb4⟩ : ∃ x, b3 + 1 = x := ⟨_, rfl⟩
  obtain ⟨b5, hb5⟩ : ∃ x, b4 + 1 = x := ⟨_, rfl⟩
  obtain ⟨b6, hb6⟩ : ∃ x, b5 + 1 = x := ⟨_, rfl⟩
  obtain ⟨b7, hb7⟩ : ∃ x, b6 + 1 = x := ⟨_, rfl⟩
  obtain ⟨b8, hb8⟩ : ∃ x, b7 + 1 = x := ⟨_, rfl⟩
  obtain ⟨b9, hb9⟩ : ∃ x, b8 + 1 = x := ⟨_, rfl⟩
  obtain ⟨A0, h0, q0, l0, s0⟩ := alloc_step w 42 [.int .i64 0, .int .i64 3, .string ⟨#[97]⟩, .slice none 0 0, .slice none 0 0, .string ⟨#[]⟩, .slice none 0 0, .slice none 0 0, .slice none 0 0, .slice none 0 0, .slice none 0 0]
  have e0 : A0.heap.size = b1 := by rw [s0, hb0, hb1]
  rw [hb0] at q0
  obtain ⟨A1, h1, q1, l1, s1⟩ := alloc_step A0 33 [.string ⟨#[105]⟩, .string ⟨#[97]⟩, .string ⟨#[]⟩]
  have e1 : A1.heap.size = b2 := by rw [s1, e0]; exact hb2
  rw [e0] at q1
  obtain ⟨A2, h2, q2, l2, s2⟩ := alloc_step A1 9 [.string ⟨#[105]⟩]
  have e2 : A2.heap.size = b3 := by rw [s2, e1]; exact hb3
  rw [e1] at q2
  obtain ⟨A3, h3, q3, l3, s3⟩ := alloc_step A2 46 [.string ⟨#[100]⟩, .string ⟨#[100]⟩, .string ⟨#[]⟩, .slice (some ⟨b2, 0, none⟩) 1 1, .slice none 0 0, .int .i64 0, .int .i64 3, .string ⟨#[97]⟩, .slice none 0 0, .slice none 0 0, .string ⟨#[]⟩, .slice none 0 0, .slice none 0 0, .slice none 0 0, .slice none 0 0, .slice none 0 0]
  have e3 : A3.heap.size = b4 := by rw [s3, e2]; exact hb4
  rw [e2] at q3
  obtain ⟨A4, h4, q4, l4, s4⟩ := alloc_step A3 27 [.string ⟨#[109]⟩, .string ⟨#[109]⟩, .string ⟨#[]⟩, .slice none 0 0, .slice (some ⟨b1, 0, none⟩) 1 1, .slice none 0 0, .slice (some ⟨b3, 0, none⟩) 1 1]
  have e4 : A4.heap.size = b5 := by rw [s4, e3]; exact hb5
  rw [e3] at q4
  obtain ⟨A5, h5, q5, l5, s5⟩ := alloc_step A4 9 [.string ⟨#[100]⟩]
  have e5 : A5.heap.size = b6 := by rw [s5, e4]; exact hb6
  rw [e4] at q5
  obtain ⟨A6, h6, q6, l6, s6⟩ := alloc_step A5 46 [.string ⟨#[100]⟩, .string ⟨#[97]⟩, .string ⟨#[]⟩, .slice (some ⟨b5, 0, none⟩) 1 1, .slice none 0 0, .int .i64 0, .int .i64 3, .string ⟨#[97]⟩, .slice none 0 0, .slice none 0 0, .string ⟨#[]⟩, .slice none 0 0, .slice none 0 0, .slice none 0 0, .slice none 0 0, .slice none 0 0]
  have e6 : A6.heap.size = b7 := by rw [s6, e5]; exact hb7
  rw [e5] at q6
  obtain ⟨A7, h7, q7, l7, s7⟩ := alloc_step A6 27 [.string ⟨#[109]⟩, .string ⟨#[109]⟩, .string ⟨#[]⟩, .slice none 0 0, .slice none 0 0, .slice none 0 0, .slice (some ⟨b6, 0, none⟩) 1 1]
  have e7 : A7.heap.size = b8 := by rw [s7, e6]; exact hb8
  rw [e6] at q7
  obtain ⟨A8, h8, q8, l8, s8⟩ := alloc_step A7 46 [.string ⟨#[100]⟩, .string ⟨#[100]⟩, .string ⟨#[]⟩, .slice none 0 0, .slice none 0 0, .int .i64 0, .int .i64 3, .string ⟨#[97]⟩, .slice none 0 0, .slice none 0 0, .string ⟨#[]⟩, .slice none 0 0, .slice none 0 0, .slice none 0 0, .slice none 0 0, .slice none 0 0]
  have e8 : A8.heap.size = b9 := by rw [s8, e7]; exact hb9
  rw [e7] at q8
  obtain ⟨A9, h9, q9, l9, s9⟩ := alloc_step A8 27 [.string ⟨#[109]⟩, .string ⟨#[109]⟩, .string ⟨#[]⟩, .slice none 0 0, .slice (some ⟨b1, 0, none⟩) 1 1, .slice none 0 0, .slice (some ⟨b8, 0, none⟩) 1 1]
  have e9 : A9.heap.size = b9 + 1 := by rw [s9, e8]
  rw [e8] at q9
  have g0 := q0.bel ((((((((l1.trans l2).trans l3).trans l4).trans l5).trans l6).trans l7).trans l8).trans l9)
  have g1 := q1.bel (((((((l2.trans l3).trans l4).trans l5).trans l6).trans l7).trans l8).trans l9)
  have g2 := q2.bel ((((((l3.trans l4).trans l5).trans l6).trans l7).trans l8).trans l9)
  have g3 := q3.bel (((((l4.trans l5).trans l6).trans l7).trans l8).trans l9)
  have g4 := q4.bel ((((l5.trans l6).trans l7).trans l8).trans l9)
  have g5 := q5.bel (((l6.trans l7).trans l8).trans l9)
  have g6 := q6.bel ((l7.trans l8).trans l9)
  have g7 := q7.bel (l8.trans l9)
  have g8 := q8.bel l9
  have g9 := q9.bel (Bel.refl _)
  have hbl := (((((((((l0.trans l1).trans l2).trans l3).trans l4).trans l5).trans l6).trans l7).trans l8).trans l9)
  have m1 : MdAt A9 aM1 ⟨none, 0, 0, some ⟨b1, 0, none⟩, 1, 1, none, 0, 0, some ⟨b3, 0, none⟩, 1, 1⟩ := ⟨rfl, rfl, rfl, rfl, Nat.le_refl _, Nat.le_refl _, Nat.le_refl _, Nat.le_refl _, none_at, ins_one g1, none_at, des_one (x := ⟨⟨#[100]⟩, ⟨#[100]⟩, ⟨#[]⟩, [⟨#[105]⟩], [], litL⟩) (vn := .slice (some ⟨b2, 0, none⟩) 1 1) (vk := .slice none 0 0) (q := ⟨.slice none 0 0, .slice none 0 0, .slice none 0 0, .slice none 0 0, .slice none 0 0, .slice none 0 0, .slice none 0 0⟩) g3 (str_one g2) (strV_nil _) (lit_at _)⟩
  have m2 : MdAt A9 aM2 ⟨none, 0, 0, none, 0, 0, none, 0, 0, some ⟨b6, 0, none⟩, 1, 1⟩ := ⟨rfl, rfl, rfl, rfl, Nat.le_refl _, Nat.le_refl _, Nat.le_refl _, Nat.le_refl _, none_at, none_at, none_at, des_one (x := ⟨⟨#[100]⟩, ⟨#[97]⟩, ⟨#[]⟩, [⟨#[100]⟩], [], litL⟩) (vn := .slice (some ⟨b5, 0, none⟩) 1 1) (vk := .slice none 0 0) (q := ⟨.slice none 0 0, .slice none 0 0, .slice none 0 0, .slice none 0 0, .slice none 0 0, .slice none 0 0, .slice none 0 0⟩) g6 (str_one g5) (strV_nil _) (lit_at _)⟩
  have m3 : MdAt A9 aM3 ⟨none, 0, 0, some ⟨b1, 0, none⟩, 1, 1, none, 0, 0, some ⟨b8, 0, none⟩, 1, 1⟩ := ⟨rfl, rfl, rfl, rfl, Nat.le_refl _, Nat.le_refl _, Nat.le_refl _, Nat.le_refl _, none_at, ins_one g1, none_at, des_one (x := ⟨⟨#[100]⟩, ⟨#[100]⟩, ⟨#[]⟩, [], [], litL⟩) (vn := .slice none 0 0) (vk := .slice none 0 0) (q := ⟨.slice none 0 0, .slice none 0 0, .slice none 0 0, .slice none 0 0, .slice none 0 0, .slice none 0 0, .slice none 0 0⟩) g8 (strV_nil _) (strV_nil _) (lit_at _)⟩
  have HM1 := Lib.hid fun W (hW : Bel A9 W) => mcheck_c aM1 _ W ((hE.bel hbl).bel hW) (by decide +kernel) (m1.bel hW)
  rw [am1_right] at HM1
  unfold mdV mdL aM1 at HM1
  dsimp only at HM1
  have HM2 := Lib.hid fun W (hW : Bel A9 W) => mcheck_c aM2 _ W ((hE.bel hbl).bel hW) (by decide +kernel) (m2.bel hW)
  rw [am2_wrong] at HM2
  unfold mdV mdL aM2 at HM2
  dsimp only at HM2
  have HM3 := Lib.hid fun W (hW : Bel A9 W) => mcheck_c aM3 _ W ((hE.bel hbl).bel hW) (by decide +kernel) (m3.bel hW)
  rw [am3_wrong] at HM3
  unfold mdV mdL aM3 at HM3
  dsimp only at HM3
  have HBA := Lib.hid fun t W (hW : Bel A9 W) => basic_c t W ((hE.bel hbl).bel hW).b
  have HBL := Lib.hid hbl
  have H0 := Lib.hid h0
  have E0 := Lib.hid hb0
  have Q0 := Lib.hid q0
  have L0 := Lib.hid l0
  have H1 := Lib.hid h1
  have E1 := Lib.hid hb1
  have Q1 := Lib.hid q1
  have L1 := Lib.hid l1
  have H2 := Lib.hid h2
  have E2 := Lib.hid hb2
  have Q2 := Lib.hid q2
  have L2 := Lib.hid l2
  have H3 := Lib.hid h3
  have E3 := Lib.hid hb3
  have Q3 := Lib.hid q3
  have L3 := Lib.hid l3
  have H4 := Lib.hid h4
  have E4 := Lib.hid hb4
  have Q4 := Lib.hid q4
  have L4 := Lib.hid l4
  have H5 := Lib.hid h5
  have E5 := Lib.hid hb5
  have Q5 := Lib.hid q5
  have L5 := Lib.hid l5
  have H6 := Lib.hid h6
  have E6 := Lib.hid hb6
  have Q6 := Lib.hid q6
  have L6 := Lib.hid l6
  have H7 := Lib.hid h7
  have E7 := Lib.hid hb7
  have Q7 := Lib.hid q7
  have L7 := Lib.hid l7
  have H8 := Lib.hid h8
  have E8 := Lib.hid hb8
  have Q8 := Lib.hid q8
  have L8 := Lib.hid l8
  have H9 := Lib.hid h9
  have E9 := Lib.hid hb9
  have Q9 := Lib.hid q9
  have L9 := Lib.hid l9
  have ES0 := Lib.hid e0
  have ES1 := Lib.hid e1
  have ES2 := Lib.hid e2
  have ES3 := Lib.hid e3
  have ES4 := Lib.hid e4
  have ES5 := Lib.hid e5
  have ES6 := Lib.hid e6
  have ES7 := Lib.hid e7
  have ES8 := Lib.hid e8
  have G2 := Lib.hid g4
  have G3 := Lib.hid g7
  have G4 := Lib.hid g9
  clear h0 q0 l0 s0 e0 g0 hb0 h1 q1 l1 s1 e1 g1 hb1 h2 q2 l2 s2 e2 g2 hb2 h3 q3 l3 s3 e3 g3 hb3 h4 q4 l4 s4 e4 g4 hb4 h5 q5 l5 s5 e5 g5 hb5 h6 q6 l6 s6 e6 g6 hb6 h7 q7 l7 s7 e7 g7 hb7 h8 q8 l8 s8 e8 g8 hb8 h9 q9 l9 s9 e9 g9 hb9 hbl m1 m2 m3 hE
  go_enter Tryz.func8, Tryz.ntmps8
  go_upto_region 2 with fail
  rw [E0.out, show w.alloc (.cells #[.int .i64 0, .int .i64 3, .string ⟨#[97]⟩, .slice none 0 0, .slice none 0 0, .string ⟨#[]⟩, .slice none 0 0, .slice none 0 0, .slice none 0 0, .slice none 0 0, .slice none 0 0] 42) = A0 from H0.out]
  have z0 : A0.cell? ⟨b0, 0, none⟩ = some (.int .i64 0) := (Q0.out.bel (Bel.refl _)).at 0
  have z1 : A0.cell? ⟨b0, 1, none⟩ = some (.int .i64 3) := (Q0.out.bel (Bel.refl _)).at 1
  have z2 : A0.cell? ⟨b0, 2, none⟩ = some (.string ⟨#[97]⟩) := (Q0.out.bel (Bel.refl _)).at 2
  have z3 : A0.cell? ⟨b0, 3, none⟩ = some (.slice none 0 0) := (Q0.out.bel (Bel.refl _)).at 3
  have z4 : A0.cell? ⟨b0, 4, none⟩ = some (.slice none 0 0) := (Q0.out.bel (Bel.refl _)).at 4
  have z5 : A0.cell? ⟨b0, 5, none⟩ = some (.string ⟨#[]⟩) := (Q0.out.bel (Bel.refl _)).at 5
  have z6 : A0.cell? ⟨b0, 6, none⟩ = some (.slice none 0 0) := (Q0.out.bel (Bel.refl _)).at 6
  have z7 : A0.cell? ⟨b0, 7, none⟩ = some (.slice none 0 0) := (Q0.out.bel (Bel.refl _)).at 7
  have z8 : A0.cell? ⟨b0, 8, none⟩ = some (.slice none 0 0) := (Q0.out.bel (Bel.refl _)).at 8
  have z9 : A0.cell? ⟨b0, 9, none⟩ = some (.slice none 0 0) := (Q0.out.bel (Bel.refl _)).at 9
  have z10 : A0.cell? ⟨b0, 10, none⟩ = some (.slice none 0 0) := (Q0.out.bel (Bel.refl _)).at 10
  have hlt : b0 < A0.heap.size := by have := ES0.out; have := E1.out; omega
  go_upto_region 3 with fail
  rw [ES0.out, E2.out, E3.out, E4.out, show A0.alloc (.cells #[.string ⟨#[105]⟩, .string ⟨#[97]⟩, .string ⟨#[]⟩] 33) = A1 from H1.out, show A1.alloc (.cells #[.string ⟨#[105]⟩] 9) = A2 from H2.out, show A2.alloc (.cells #[.string ⟨#[100]⟩, .string ⟨#[100]⟩, .string ⟨#[]⟩, .slice (some ⟨b2, 0, none⟩) 1 1, .slice none 0 0, .int .i64 0, .int .i64 3, .string ⟨#[97]⟩, .slice none 0 0, .slice none 0 0, .string ⟨#[]⟩, .slice none 0 0, .slice none 0 0, .slice none 0 0, .slice none 0 0, .slice none 0 0] 46) = A3 from H3.out, show A3.alloc (.cells #[.string ⟨#[109]⟩, .string ⟨#[109]⟩, .string ⟨#[]⟩, .slice none 0 0, .slice (some ⟨b1, 0, none⟩) 1 1, .slice none 0 0, .slice (some ⟨b3, 0, none⟩) 1 1] 27) = A4 from H4.out]
  clear hlt z0 z1 z2 z3 z4 z5 z6 z7 z8 z9 z10 
  have z0 : A4.cell? ⟨b0, 0, none⟩ = some (.int .i64 0) := (Q0.out.bel (((L1.out.trans L2.out).trans L3.out).trans L4.out)).at 0
  have z1 : A4.cell? ⟨b0, 1, none⟩ = some (.int .i64 3) := (Q0.out.bel (((L1.out.trans L2.out).trans L3.out).trans L4.out)).at 1
  have z2 : A4.cell? ⟨b0, 2, none⟩ = some (.string ⟨#[97]⟩) := (Q0.out.bel (((L1.out.trans L2.out).trans L3.out).trans L4.out)).at 2
  have z3 : A4.cell? ⟨b0, 3, none⟩ = some (.slice none 0 0) := (Q0.out.bel (((L1.out.trans L2.out).trans L3.out).trans L4.out)).at 3
  have z4 : A4.cell? ⟨b0, 4, none⟩ = some (.slice none 0 0) := (Q0.out.bel (((L1.out.trans L2.out).trans L3.out).trans L4.out)).at 4
  have z5 : A4.cell? ⟨b0, 5, none⟩ = some (.string ⟨#[]⟩) := (Q0.out.bel (((L1.out.trans L2.out).trans L3.out).trans L4.out)).at 5
  have z6 : A4.cell? ⟨b0, 6, none⟩ = some (.slice none 0 0) := (Q0.out.bel (((L1.out.trans L2.out).trans L3.out).trans L4.out)).at 6
  have z7 : A4.cell? ⟨b0, 7, none⟩ = some (.slice none 0 0) := (Q0.out.bel (((L1.out.trans L2.out).trans L3.out).trans L4.out)).at 7
  have z8 : A4.cell? ⟨b0, 8, none⟩ = some (.slice none 0 0) := (Q0.out.bel (((L1.out.trans L2.out).trans L3.out).trans L4.out)).at 8
  have z9 : A4.cell? ⟨b0, 9, none⟩ = some (.slice none 0 0) := (Q0.out.bel (((L1.out.trans L2.out).trans L3.out).trans L4.out)).at 9
  have z10 : A4.cell? ⟨b0, 10, none⟩ = some (.slice none 0 0) := (Q0.out.bel (((L1.out.trans L2.out).trans L3.out).trans L4.out)).at 10
  have hlt : b0 < A4.heap.size := by have := ES4.out; have := E1.out; have := E2.out; have := E3.out; have := E4.out; have := E5.out; omega
  go_upto_region 4 with fail
  rw [ES4.out, E6.out, E7.out, show A4.alloc (.cells #[.string ⟨#[100]⟩] 9) = A5 from H5.out, show A5.alloc (.cells #[.string ⟨#[100]⟩, .string ⟨#[97]⟩, .string ⟨#[]⟩, .slice (some ⟨b5, 0, none⟩) 1 1, .slice none 0 0, .int .i64 0, .int .i64 3, .string ⟨#[97]⟩, .slice none 0 0, .slice none 0 0, .string ⟨#[]⟩, .slice none 0 0, .slice none 0 0, .slice none 0 0, .slice none 0 0, .slice none 0 0] 46) = A6 from H6.out, show A6.alloc (.cells #[.string ⟨#[109]⟩, .string ⟨#[109]⟩, .string ⟨#[]⟩, .slice none 0 0, .slice none 0 0, .slice none 0 0, .slice (some ⟨b6, 0, none⟩) 1 1] 27) = A7 from H7.out]
  clear hlt z0 z1 z2 z3 z4 z5 z6 z7 z8 z9 z10 
  have z0 : A7.cell? ⟨b0, 0, none⟩ = some (.int .i64 0) := (Q0.out.bel ((((((L1.out.trans L2.out).trans L3.out).trans L4.out).trans L5.out).trans L6.out).trans L7.out)).at 0
  have z1 : A7.cell? ⟨b0, 1, none⟩ = some (.int .i64 3) := (Q0.out.bel ((((((L1.out.trans L2.out).trans L3.out).trans L4.out).trans L5.out).trans L6.out).trans L7.out)).at 1
  have z2 : A7.cell? ⟨b0, 2, none⟩ = some (.string ⟨#[97]⟩) := (Q0.out.bel ((((((L1.out.trans L2.out).trans L3.out).trans L4.out).trans L5.out).trans L6.out).trans L7.out)).at 2
  have z3 : A7.cell? ⟨b0, 3, none⟩ = some (.slice none 0 0) := (Q0.out.bel ((((((L1.out.trans L2.out).trans L3.out).trans L4.out).trans L5.out).trans L6.out).trans L7.out)).at 3
  have z4 : A7.cell? ⟨b0, 4, none⟩ = some (.slice none 0 0) := (Q0.out.bel ((((((L1.out.trans L2.out).trans L3.out).trans L4.out).trans L5.out).trans L6.out).trans L7.out)).at 4
  have z5 : A7.cell? ⟨b0, 5, none⟩ = some (.string ⟨#[]⟩) := (Q0.out.bel ((((((L1.out.trans L2.out).trans L3.out).trans L4.out).trans L5.out).trans L6.out).trans L7.out)).at 5
  have z6 : A7.cell? ⟨b0, 6, none⟩ = some (.slice none 0 0) := (Q0.out.bel ((((((L1.out.trans L2.out).trans L3.out).trans L4.out).trans L5.out).trans L6.out).trans L7.out)).at 6
  have z7 : A7.cell? ⟨b0, 7, none⟩ = some (.slice none 0 0) := (Q0.out.bel ((((((L1.out.trans L2.out).trans L3.out).trans L4.out).trans L5.out).trans L6.out).trans L7.out)).at 7
  have z8 : A7.cell? ⟨b0, 8, none⟩ = some (.slice none 0 0) := (Q0.out.bel ((((((L1.out.trans L2.out).trans L3.out).trans L4.out).trans L5.out).trans L6.out).trans L7.out)).at 8
  have z9 : A7.cell? ⟨b0, 9, none⟩ = some (.slice none 0 0) := (Q0.out.bel ((((((L1.out.trans L2.out).trans L3.out).trans L4.out).trans L5.out).trans L6.out).trans L7.out)).at 9
  have z10 : A7.cell? ⟨b0, 10, none⟩ = some (.slice none 0 0) := (Q0.out.bel ((((((L1.out.trans L2.out).trans L3.out).trans L4.out).trans L5.out).trans L6.out).trans L7.out)).at 10
  have hlt : b0 < A7.heap.size := by have := ES7.out; have := E1.out; have := E2.out; have := E3.out; have := E4.out; have := E5.out; have := E6.out; have := E7.out; have := E8.out; omega
  have y4 : A7.cell? ⟨b4, 4, none⟩ = some (.slice (some ⟨b1, 0, none⟩) 1 1) := (Q4.out.bel ((L5.out.trans L6.out).trans L7.out)).at 4
  have hl4 : b4 < A7.heap.size := by have := ES7.out; have := E5.out; have := E6.out; have := E7.out; have := E8.out; omega
  go_upto_region 5 with fail
  rw [ES7.out, E9.out, show A7.alloc (.cells #[.string ⟨#[100]⟩, .string ⟨#[100]⟩, .string ⟨#[]⟩, .slice none 0 0, .slice none 0 0, .int .i64 0, .int .i64 3, .string ⟨#[97]⟩, .slice none 0 0, .slice none 0 0, .string ⟨#[]⟩, .slice none 0 0, .slice none 0 0, .slice none 0 0, .slice none 0 0, .slice none 0 0] 46) = A8 from H8.out, show A8.alloc (.cells #[.string ⟨#[109]⟩, .string ⟨#[109]⟩, .string ⟨#[]⟩, .slice none 0 0, .slice (some ⟨b1, 0, none⟩) 1 1, .slice none 0 0, .slice (some ⟨b8, 0, none⟩) 1 1] 27) = A9 from H9.out]
  clear hlt z0 z1 z2 z3 z4 z5 z6 z7 z8 z9 z10 y4 hl4
  have x0 : A9.cell? ⟨b4, 0, none⟩ = some (.string ⟨#[109]⟩) := G2.out.at 0
  have x1 : A9.cell? ⟨b4, 1, none⟩ = some (.string ⟨#[109]⟩) := G2.out.at 1
  have x2 : A9.cell? ⟨b4, 2, none⟩ = some (.string ⟨#[]⟩) := G2.out.at 2
  have x3 : A9.cell? ⟨b4, 3, none⟩ = some (.slice none 0 0) := G2.out.at 3
  have x4 : A9.cell? ⟨b4, 4, none⟩ = some (.slice (some ⟨b1, 0, none⟩) 1 1) := G2.out.at 4
  have x5 : A9.cell? ⟨b4, 5, none⟩ = some (.slice none 0 0) := G2.out.at 5
  have x6 : A9.cell? ⟨b4, 6, none⟩ = some (.slice (some ⟨b3, 0, none⟩) 1 1) := G2.out.at 6
  go_wp2_with fail
  refine (HM1.out A9 (Bel.refl _)).mono ?_
  rintro e1 w1 ⟨rfl, hb1⟩
  have K1 := Lib.hid hb1
  clear hb1 HM1 x0 x1 x2 x3 x4 x5 x6
  have x0 : w1.cell? ⟨b7, 0, none⟩ = some (.string ⟨#[109]⟩) := (G3.out.bel K1.out).at 0
  have x1 : w1.cell? ⟨b7, 1, none⟩ = some (.string ⟨#[109]⟩) := (G3.out.bel K1.out).at 1
  have x2 : w1.cell? ⟨b7, 2, none⟩ = some (.string ⟨#[]⟩) := (G3.out.bel K1.out).at 2
  have x3 : w1.cell? ⟨b7, 3, none⟩ = some (.slice none 0 0) := (G3.out.bel K1.out).at 3
  have x4 : w1.cell? ⟨b7, 4, none⟩ = some (.slice none 0 0) := (G3.out.bel K1.out).at 4
  have x5 : w1.cell? ⟨b7, 5, none⟩ = some (.slice none 0 0) := (G3.out.bel K1.out).at 5
  have x6 : w1.cell? ⟨b7, 6, none⟩ = some (.slice (some ⟨b6, 0, none⟩) 1 1) := (G3.out.bel K1.out).at 6
  go_wp2_with fail
  refine (HM2.out w1 K1.out).mono ?_
  rintro e2 w2 ⟨rfl, hb2⟩
  have K2 := Lib.hid (K1.out.trans hb2)
  clear hb2 HM2 x0 x1 x2 x3 x4 x5 x6
  have x0 : w2.cell? ⟨b9, 0, none⟩ = some (.string ⟨#[109]⟩) := (G4.out.bel K2.out).at 0
  have x1 : w2.cell? ⟨b9, 1, none⟩ = some (.string ⟨#[109]⟩) := (G4.out.bel K2.out).at 1
  have x2 : w2.cell? ⟨b9, 2, none⟩ = some (.string ⟨#[]⟩) := (G4.out.bel K2.out).at 2
  have x3 : w2.cell? ⟨b9, 3, none⟩ = some (.slice none 0 0) := (G4.out.bel K2.out).at 3
  have x4 : w2.cell? ⟨b9, 4, none⟩ = some (.slice (some ⟨b1, 0, none⟩) 1 1) := (G4.out.bel K2.out).at 4
  have x5 : w2.cell? ⟨b9, 5, none⟩ = some (.slice none 0 0) := (G4.out.bel K2.out).at 5
  have x6 : w2.cell? ⟨b9, 6, none⟩ = some (.slice (some ⟨b8, 0, none⟩) 1 1) := (G4.out.bel K2.out).at 6
  go_wp2_with fail
  refine (HM3.out w2 K2.out).mono ?_
  rintro e3 w3 ⟨rfl, hb3⟩
  have K3 := Lib.hid (K2.out.trans hb3)
  have hn1 := HBA.out ⟨#[110, 117, 109, 98, 101, 114]⟩ w3 K3.out
  rw [show decide (_ ∈ basicS) = true from by decide +kernel] at hn1
  clear hb3 HM3 x0 x1 x2 x3 x4 x5 x6
  go_wp2_with fail
  refine hn1.mono ?_
  rintro e4 w4 ⟨rfl, hb4⟩
  have K4 := Lib.hid (K3.out.trans hb4)
  have hn2 := HBA.out ⟨#[105, 110, 116, 101, 103, 101, 114]⟩ w4 K4.out
  rw [show decide (_ ∈ basicS) = false from by decide +kernel] at hn2
  clear hb4 hn1
  go_wp2_with fail
  refine hn2.mono ?_
  rintro e5 w5 ⟨rfl, hb5⟩
  have K5 := Lib.hid (K4.out.trans hb5)
  clear hb5 hn2
  go_wp2_with fail
  go_ret
  exact ⟨rfl, HBL.out.trans K5.out⟩
end Go.Proofs.YtbcdbefogfmhfaaGreatDoor
