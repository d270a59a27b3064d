/-
  feelprint's laws: their examples are as the document says.
-/
import Derived.Test.YtpenfnabeckboaaGreatDoorFPL
namespace Go.Proofs.YtpenfnabeckboaaGreatDoor
open Go.RowKit

theorem al0 : (textE2 false (.mk 5 ⟨#[42]⟩ [] [(.mk 5 ⟨#[43]⟩ [] [(numX 49), (numX 50)]), (numX 51)]), CheckE (.mk 5 ⟨#[42]⟩ [] [(.mk 5 ⟨#[43]⟩ [] [(numX 49), (numX 50)]), (numX 51)]), decide (Ex.bulk (.mk 5 ⟨#[42]⟩ [] [(.mk 5 ⟨#[43]⟩ [] [(numX 49), (numX 50)]), (numX 51)]) ≤ 1073741824)) = (⟨#[40, 49, 32, 43, 32, 50, 41, 32, 42, 32, 51]⟩, 0, true) := by decide +kernel
theorem alt0 : textE2 false (.mk 5 ⟨#[42]⟩ [] [(.mk 5 ⟨#[43]⟩ [] [(numX 49), (numX 50)]), (numX 51)]) = ⟨#[40, 49, 32, 43, 32, 50, 41, 32, 42, 32, 51]⟩ := congrArg Prod.fst al0
theorem alc0 : CheckE (.mk 5 ⟨#[42]⟩ [] [(.mk 5 ⟨#[43]⟩ [] [(numX 49), (numX 50)]), (numX 51)]) = 0 := congrArg (fun x => x.2.1) al0
theorem al1 : (textE2 false (.mk 5 ⟨#[43]⟩ [] [(numX 49), (.mk 5 ⟨#[42]⟩ [] [(numX 50), (numX 51)])]), CheckE (.mk 5 ⟨#[43]⟩ [] [(numX 49), (.mk 5 ⟨#[42]⟩ [] [(numX 50), (numX 51)])]), decide (Ex.bulk (.mk 5 ⟨#[43]⟩ [] [(numX 49), (.mk 5 ⟨#[42]⟩ [] [(numX 50), (numX 51)])]) ≤ 1073741824)) = (⟨#[49, 32, 43, 32, 50, 32, 42, 32, 51]⟩, 0, true) := by decide +kernel
theorem alt1 : textE2 false (.mk 5 ⟨#[43]⟩ [] [(numX 49), (.mk 5 ⟨#[42]⟩ [] [(numX 50), (numX 51)])]) = ⟨#[49, 32, 43, 32, 50, 32, 42, 32, 51]⟩ := congrArg Prod.fst al1
theorem alc1 : CheckE (.mk 5 ⟨#[43]⟩ [] [(numX 49), (.mk 5 ⟨#[42]⟩ [] [(numX 50), (numX 51)])]) = 0 := congrArg (fun x => x.2.1) al1
theorem al2 : (textE2 false (.mk 4 ⟨#[]⟩ [] [(.mk 4 ⟨#[]⟩ [] [(numX 53)])]), CheckE (.mk 4 ⟨#[]⟩ [] [(.mk 4 ⟨#[]⟩ [] [(numX 53)])]), decide (Ex.bulk (.mk 4 ⟨#[]⟩ [] [(.mk 4 ⟨#[]⟩ [] [(numX 53)])]) ≤ 1073741824)) = (⟨#[45, 45, 53]⟩, 0, true) := by decide +kernel
theorem alt2 : textE2 false (.mk 4 ⟨#[]⟩ [] [(.mk 4 ⟨#[]⟩ [] [(numX 53)])]) = ⟨#[45, 45, 53]⟩ := congrArg Prod.fst al2
theorem alc2 : CheckE (.mk 4 ⟨#[]⟩ [] [(.mk 4 ⟨#[]⟩ [] [(numX 53)])]) = 0 := congrArg (fun x => x.2.1) al2
theorem al3 : (textE2 true (.mk 5 ⟨#[43]⟩ [] [(numX 49), (numX 50)]), CheckE (.mk 5 ⟨#[43]⟩ [] [(numX 49), (numX 50)]), decide (Ex.bulk (.mk 5 ⟨#[43]⟩ [] [(numX 49), (numX 50)]) ≤ 1073741824)) = (⟨#[40, 49, 41, 32, 43, 32, 40, 50, 41]⟩, 0, true) := by decide +kernel
theorem alt3 : textE2 true (.mk 5 ⟨#[43]⟩ [] [(numX 49), (numX 50)]) = ⟨#[40, 49, 41, 32, 43, 32, 40, 50, 41]⟩ := congrArg Prod.fst al3
theorem alc3 : CheckE (.mk 5 ⟨#[43]⟩ [] [(numX 49), (numX 50)]) = 0 := congrArg (fun x => x.2.1) al3
set_option maxRecDepth 100000 in
set_option maxHeartbeats 8000000 in
theorem falive_c (w : World) (hE : EnvX w) : Calls Tryz.prog 7 #[] w (RetBel (.bool true) w) := by
  have hen1 := fun args w1 => enters_of Tryz.func19 (by kernel_rfl) rfl args w1
  have hen2 := fun args w1 => enters_of Tryz.func20 (by kernel_rfl) rfl args w1
  have hen3 := fun args w1 => enters_of Tryz.func21 (by kernel_rfl) rfl args w1
  have HN := Lib.hid fn_c
  have HBN := Lib.hid fbin_c
  have HNG := Lib.hid fneg_c
  have HP0 : Hid (∀ (na : Option Addr) (nn nc : Nat) (la : Option Addr) (ln lc : Nat) (W : World), Bel w W → ExAt W (.mk 5 ⟨#[42]⟩ [] [(.mk 5 ⟨#[43]⟩ [] [(numX 49), (numX 50)]), (numX 51)]) (.slice na nn nc) (.slice la ln lc) → Calls Tryz.prog 10 #[.agg #[.int .i64 (Ex.k (.mk 5 ⟨#[42]⟩ [] [(.mk 5 ⟨#[43]⟩ [] [(numX 49), (numX 50)]), (numX 51)])), .string (Ex.s (.mk 5 ⟨#[42]⟩ [] [(.mk 5 ⟨#[43]⟩ [] [(numX 49), (numX 50)]), (numX 51)])), .slice na nn nc, .slice la ln lc]] W (RetBel (.tuple #[.string ⟨#[40, 49, 32, 43, 32, 50, 41, 32, 42, 32, 51]⟩, .int .i64 0]) W)) := Lib.hid (fun na nn nc la ln lc W hW hat => by
    have h := print_c (.mk 5 ⟨#[42]⟩ [] [(.mk 5 ⟨#[43]⟩ [] [(numX 49), (numX 50)]), (numX 51)]) na nn nc la ln lc W (hE.bel hW) (of_decide_eq_true (congrArg (fun x => x.2.2) al0)) hat
    rw [alt0, alc0] at h
    exact h)
  have HP1 : Hid (∀ (na : Option Addr) (nn nc : Nat) (la : Option Addr) (ln lc : Nat) (W : World), Bel w W → ExAt W (.mk 5 ⟨#[43]⟩ [] [(numX 49), (.mk 5 ⟨#[42]⟩ [] [(numX 50), (numX 51)])]) (.slice na nn nc) (.slice la ln lc) → Calls Tryz.prog 10 #[.agg #[.int .i64 (Ex.k (.mk 5 ⟨#[43]⟩ [] [(numX 49), (.mk 5 ⟨#[42]⟩ [] [(numX 50), (numX 51)])])), .string (Ex.s (.mk 5 ⟨#[43]⟩ [] [(numX 49), (.mk 5 ⟨#[42]⟩ [] [(numX 50), (numX 51)])])), .slice na nn nc, .slice la ln lc]] W (RetBel (.tuple #[.string ⟨#[49, 32, 43, 32, 50, 32, 42, 32, 51]⟩, .int .i64 0]) W)) := Lib.hid (fun na nn nc la ln lc W hW hat => by
    have h := print_c (.mk 5 ⟨#[43]⟩ [] [(numX 49), (.mk 5 ⟨#[42]⟩ [] [(numX 50), (numX 51)])]) na nn nc la ln lc W (hE.bel hW) (of_decide_eq_true (congrArg (fun x => x.2.2) al1)) hat
    rw [alt1, alc1] at h
    exact h)
  have HP2 : Hid (∀ (na : Option Addr) (nn nc : Nat) (la : Option Addr) (ln lc : Nat) (W : World), Bel w W → ExAt W (.mk 4 ⟨#[]⟩ [] [(.mk 4 ⟨#[]⟩ [] [(numX 53)])]) (.slice na nn nc) (.slice la ln lc) → Calls Tryz.prog 10 #[.agg #[.int .i64 (Ex.k (.mk 4 ⟨#[]⟩ [] [(.mk 4 ⟨#[]⟩ [] [(numX 53)])])), .string (Ex.s (.mk 4 ⟨#[]⟩ [] [(.mk 4 ⟨#[]⟩ [] [(numX 53)])])), .slice na nn nc, .slice la ln lc]] W (RetBel (.tuple #[.string ⟨#[45, 45, 53]⟩, .int .i64 0]) W)) := Lib.hid (fun na nn nc la ln lc W hW hat => by
    have h := print_c (.mk 4 ⟨#[]⟩ [] [(.mk 4 ⟨#[]⟩ [] [(numX 53)])]) na nn nc la ln lc W (hE.bel hW) (of_decide_eq_true (congrArg (fun x => x.2.2) al2)) hat
    rw [alt2, alc2] at h
    exact h)
  have HP3 : Hid (∀ (na : Option Addr) (nn nc : Nat) (la : Option Addr) (ln lc : Nat) (W : World), Bel w W → ExAt W (.mk 5 ⟨#[43]⟩ [] [(numX 49), (numX 50)]) (.slice na nn nc) (.slice la ln lc) → Calls Tryz.prog 14 #[.agg #[.int .i64 (Ex.k (.mk 5 ⟨#[43]⟩ [] [(numX 49), (numX 50)])), .string (Ex.s (.mk 5 ⟨#[43]⟩ [] [(numX 49), (numX 50)])), .slice na nn nc, .slice la ln lc]] W (RetBel (.tuple #[.string ⟨#[40, 49, 41, 32, 43, 32, 40, 50, 41]⟩, .int .i64 0]) W)) := Lib.hid (fun na nn nc la ln lc W hW hat => by
    have h := bare_c (.mk 5 ⟨#[43]⟩ [] [(numX 49), (numX 50)]) na nn nc la ln lc W (hE.bel hW) (of_decide_eq_true (congrArg (fun x => x.2.2) al3)) hat
    rw [alt3, alc3] at h
    exact h)
  have HB0 := Lib.hid (Bel.refl w)
  clear hE
  go_enter Tryz.func7, Tryz.ntmps7
  go_wp2_with fail
  refine (HN.out ⟨#[49]⟩ _).mono ?_
  rintro e1 w1 ⟨rfl, hb1⟩
  have HB1 := Lib.hid (HB0.out.trans hb1)
  clear hb1 HB0
  go_wp2_with fail
  refine (HN.out ⟨#[50]⟩ _).mono ?_
  rintro e2 w2 ⟨rfl, hb2⟩
  have HB2 := Lib.hid (HB1.out.trans hb2)
  clear hb2 HB1
  go_wp2_with fail
  refine (HBN.out ⟨#[43]⟩ (numX 49) (numX 50) none 0 0 none 0 0 none 0 0 none 0 0 _ (exAt_leaf _ 0 _ (by decide)) (exAt_leaf _ 0 _ (by decide))).mono ?_
  rintro e3 w3 ⟨g3, rfl, hb3, hx3⟩
  have HB3 := Lib.hid (HB2.out.trans hb3)
  have X3 := Lib.hid hx3
  clear hb3 hx3 HB2
  go_wp2_with fail
  refine (HN.out ⟨#[51]⟩ _).mono ?_
  rintro e4 w4 ⟨rfl, hb4⟩
  have HB4 := Lib.hid (HB3.out.trans hb4)
  replace X3 := Lib.hid (ExAt.bel hb4 _ X3.out)
  clear hb4 HB3
  go_wp2_with fail
  refine (HBN.out ⟨#[42]⟩ (.mk 5 ⟨#[43]⟩ [] [(numX 49), (numX 50)]) (numX 51) none 0 0 (some ⟨g3, 0, none⟩) 2 2 none 0 0 none 0 0 _ X3.out (exAt_leaf _ 0 _ (by decide))).mono ?_
  rintro e5 w5 ⟨g5, rfl, hb5, hx5⟩
  have HB5 := Lib.hid (HB4.out.trans hb5)
  have X5 := Lib.hid hx5
  clear hb5 hx5 HB4
  go_wp2_with fail
  refine (HP0.out none 0 0 (some ⟨g5, 0, none⟩) 2 2 _ HB5.out X5.out).mono ?_
  rintro e6 w6 ⟨rfl, hb6⟩
  have HB6 := Lib.hid (HB5.out.trans hb6)
  clear hb6 HB5 X5
  go_wp2_with fail
  refine (HN.out ⟨#[49]⟩ _).mono ?_
  rintro e7 w7 ⟨rfl, hb7⟩
  have HB7 := Lib.hid (HB6.out.trans hb7)
  clear hb7 HB6
  go_wp2_with fail
  refine (HN.out ⟨#[50]⟩ _).mono ?_
  rintro e8 w8 ⟨rfl, hb8⟩
  have HB8 := Lib.hid (HB7.out.trans hb8)
  clear hb8 HB7
  go_wp2_with fail
  refine (HN.out ⟨#[51]⟩ _).mono ?_
  rintro e9 w9 ⟨rfl, hb9⟩
  have HB9 := Lib.hid (HB8.out.trans hb9)
  clear hb9 HB8
  go_wp2_with fail
  refine (HBN.out ⟨#[42]⟩ (numX 50) (numX 51) none 0 0 none 0 0 none 0 0 none 0 0 _ (exAt_leaf _ 0 _ (by decide)) (exAt_leaf _ 0 _ (by decide))).mono ?_
  rintro e10 w10 ⟨g10, rfl, hb10, hx10⟩
  have HB10 := Lib.hid (HB9.out.trans hb10)
  have X10 := Lib.hid hx10
  clear hb10 hx10 HB9
  go_wp2_with fail
  refine (HBN.out ⟨#[43]⟩ (numX 49) (.mk 5 ⟨#[42]⟩ [] [(numX 50), (numX 51)]) none 0 0 none 0 0 none 0 0 (some ⟨g10, 0, none⟩) 2 2 _ (exAt_leaf _ 0 _ (by decide)) X10.out).mono ?_
  rintro e11 w11 ⟨g11, rfl, hb11, hx11⟩
  have HB11 := Lib.hid (HB10.out.trans hb11)
  have X11 := Lib.hid hx11
  clear hb11 hx11 HB10
  go_wp2_with fail
  refine (HP1.out none 0 0 (some ⟨g11, 0, none⟩) 2 2 _ HB11.out X11.out).mono ?_
  rintro e12 w12 ⟨rfl, hb12⟩
  have HB12 := Lib.hid (HB11.out.trans hb12)
  clear hb12 HB11 X11
  go_wp2_with fail
  refine (HN.out ⟨#[53]⟩ _).mono ?_
  rintro e13 w13 ⟨rfl, hb13⟩
  have HB13 := Lib.hid (HB12.out.trans hb13)
  clear hb13 HB12
  go_wp2_with fail
  refine (HNG.out (numX 53) none 0 0 none 0 0 _ (exAt_leaf _ 0 _ (by decide))).mono ?_
  rintro e14 w14 ⟨g14, rfl, hb14, hx14⟩
  have HB14 := Lib.hid (HB13.out.trans hb14)
  have X14 := Lib.hid hx14
  clear hb14 hx14 HB13
  go_wp2_with fail
  refine (HNG.out (.mk 4 ⟨#[]⟩ [] [(numX 53)]) none 0 0 (some ⟨g14, 0, none⟩) 1 1 _ X14.out).mono ?_
  rintro e15 w15 ⟨g15, rfl, hb15, hx15⟩
  have HB15 := Lib.hid (HB14.out.trans hb15)
  have X15 := Lib.hid hx15
  clear hb15 hx15 HB14
  go_wp2_with fail
  refine (HP2.out none 0 0 (some ⟨g15, 0, none⟩) 1 1 _ HB15.out X15.out).mono ?_
  rintro e16 w16 ⟨rfl, hb16⟩
  have HB16 := Lib.hid (HB15.out.trans hb16)
  clear hb16 HB15 X15
  go_wp2_with fail
  refine (HN.out ⟨#[49]⟩ _).mono ?_
  rintro e17 w17 ⟨rfl, hb17⟩
  have HB17 := Lib.hid (HB16.out.trans hb17)
  clear hb17 HB16
  go_wp2_with fail
  refine (HN.out ⟨#[50]⟩ _).mono ?_
  rintro e18 w18 ⟨rfl, hb18⟩
  have HB18 := Lib.hid (HB17.out.trans hb18)
  clear hb18 HB17
  go_wp2_with fail
  refine (HBN.out ⟨#[43]⟩ (numX 49) (numX 50) none 0 0 none 0 0 none 0 0 none 0 0 _ (exAt_leaf _ 0 _ (by decide)) (exAt_leaf _ 0 _ (by decide))).mono ?_
  rintro e19 w19 ⟨g19, rfl, hb19, hx19⟩
  have HB19 := Lib.hid (HB18.out.trans hb19)
  have X19 := Lib.hid hx19
  clear hb19 hx19 HB18
  go_wp2_with fail
  refine (HP3.out none 0 0 (some ⟨g19, 0, none⟩) 2 2 _ HB19.out X19.out).mono ?_
  rintro e20 w20 ⟨rfl, hb20⟩
  have HB20 := Lib.hid (HB19.out.trans hb20)
  clear hb20 HB19 X19
  go_wp2_with fail
  go_ret
  exact ⟨rfl, HB20.out⟩
end Go.Proofs.YtpenfnabeckboaaGreatDoor
