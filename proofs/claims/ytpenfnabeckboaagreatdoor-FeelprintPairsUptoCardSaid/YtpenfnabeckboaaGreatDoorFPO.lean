/-
  feelprint: the walks of written, Print, Bare.
-/
import Derived.Test.YtpenfnabeckboaaGreatDoorFPJ
import Derived.Test.YtpenfnabeckboaaGreatDoorEXE
namespace Go.Proofs.YtpenfnabeckboaaGreatDoor
open Go.RowKit

theorem okE_of {e : Ex} (h : CheckE e = 0) : OkE e := by
  unfold CheckE at h
  split at h
  · exact absurd h (by decide)
  · exact ⟨true, h⟩
/-- What Print, Bare answer. -/
def textE2 (bare : Bool) (e : Ex) : ByteArray := if CheckE e = 0 then ⟨(prE qB bare e).toArray⟩ else ⟨#[]⟩
set_option maxRecDepth 100000 in
set_option maxHeartbeats 4000000 in
theorem written_c (e : Ex) (bare : Bool) (na : Option Addr) (nn nc : Nat) (la : Option Addr) (ln lc : Nat) (w : World) (hE : EnvX w) (hb : e.bulk ≤ 1073741824) (hat : ExAt w e (.slice na nn nc) (.slice la ln lc)) :
    Calls Tryz.prog 26 #[.agg #[.int .i64 e.k, .string e.s, .slice na nn nc, .slice la ln lc], .bool bare] w (RetBel (.tuple #[.string (textE2 bare e), .int .i64 (CheckE e)]) w) := by
  have HCK := Lib.hid (fun W (hW : Bel w W) => check_x e (.slice na nn nc) (.slice la ln lc) W (hE.bel hW) hb (ExAt.bel hW e hat))
  have HSG := Lib.hid (fun W => signs_c W)
  have HEX := Lib.hid (fun (hok : CheckE e = 0) u (hu : Bel w u) mb (hsg : SgAt u mb) b W (hW : PR u b mb bare [] W) => expr_c u b mb bare (hE.1.bel hu) hsg e.bulk e (Nat.le_refl _) hb (okE_of hok) na nn nc la ln lc [] W (ExAt.bel hu e hat) hW (by have := pr_size bare e.bulk e (Nat.le_refl _) (okE_of hok); simp; omega))
  have HNE := Lib.hid (fun (hok : CheckE e = 0) => pr_ne qB qB_ne bare e (okE_of hok))
  unfold textE2
  obtain ⟨c, hc⟩ : ∃ c, CheckE e = c := ⟨_, rfl⟩
  obtain ⟨TT, hTT⟩ : ∃ T, prE qB bare e = T := ⟨_, rfl⟩
  rw [hc, hTT]
  rw [hc] at HCK HEX HNE
  rw [hTT] at HEX HNE
  obtain ⟨k, hkk⟩ : ∃ k, e.k = k := ⟨_, rfl⟩
  obtain ⟨s, hss⟩ : ∃ s, e.s = s := ⟨_, rfl⟩
  rw [hkk, hss] at HCK HEX ⊢
  clear hE hb hat hc hTT hkk hss
  obtain ⟨V1, h1, k1, l1, s1⟩ := alloc_step w 25 [.int .i64 k, .string s, .slice na nn nc, .slice la ln lc]
  have HV1 := Lib.hid h1
  have y0 := k1.at 0
  have y1 := k1.at 1
  have y2 := k1.at 2
  have y3 := k1.at 3
  have HK := Lib.hid k1
  have HB := Lib.hid l1
  clear h1 k1 l1 s1
  by_cases h0 : c = 0
  · subst h0
    rw [if_pos rfl]
    go_enter Tryz.func26, Tryz.ntmps26
    go_upto_region 1 with fail
    rw [show w.alloc (.cells #[.int .i64 k, .string s, .slice na nn nc, .slice la ln lc] 25) = V1 from HV1.out]
    go_wp2_with fail
    refine (HCK.out _ HB.out).mono ?_
    rintro e2 w2 ⟨rfl, hb2⟩
    have HB2 := Lib.hid (HB.out.trans hb2)
    have HK2 := Lib.hid (HK.out.bel hb2)
    clear y0 y1 y2 y3 hb2
    go_wp2_with fail
    refine (HSG.out _).mono ?_
    rintro e3 w3 ⟨rfl, hsg, hb3⟩
    have HB3 := Lib.hid (HB2.out.trans hb3)
    have HK3 := Lib.hid (HK2.out.bel hb3)
    have HSG3 := Lib.hid hsg
    obtain ⟨mb, hmb⟩ : ∃ mb, w2.heap.size = mb := ⟨_, rfl⟩
    rw [hmb] at HSG3 ⊢
    clear hb3 hsg
    obtain ⟨V4, h4, k4, l4, s4⟩ := alloc_step w3 70 [.pointer none, .slice none 0 0, .map (some mb), .bool bare]
    have hpr : PR w3 w3.heap.size mb bare [] V4 := ⟨by rw [← h4]; exact EB.new w3 (Nat.le_refl _), l4⟩
    have HPR := Lib.hid hpr
    have k5 := HK3.out.bel l4
    have y0 := k5.at 0
    have y1 := k5.at 1
    have y2 := k5.at 2
    have y3 := k5.at 3
    have HV4 := Lib.hid h4
    clear h4 k4 l4 s4 hpr k5 hmb
    go_upto_region 5 with fail
    rw [show w3.alloc (.cells #[.pointer none, .slice none 0 0, .map (some mb), .bool bare] 70) = V4 from HV4.out]
    go_wp2_with fail
    refine (HEX.out (by trivial) w3 HB3.out mb HSG3.out _ V4 HPR.out).mono ?_
    rintro e5 w5 ⟨rfl, hp5, ht5⟩
    have HP5 := Lib.hid hp5
    clear hp5 ht5 y0 y1 y2 y3
    go_wp2_with fail
    refine (estr_c 70 w3.heap.size _ _ TT w5 HP5.out.1 (HNE.out (by trivial))).mono ?_
    rintro e6 w6 ⟨rfl, hb6⟩
    go_wp2_with fail
    go_ret2
    exact ⟨rfl, HB3.out.trans (Below.trans HP5.out.2 hb6)⟩
  · rw [if_neg h0]
    have hci : ((c : Int) != 0) = true := by simpa using h0
    go_enter Tryz.func26, Tryz.ntmps26
    go_upto_region 1 with fail
    rw [show w.alloc (.cells #[.int .i64 k, .string s, .slice na nn nc, .slice la ln lc] 25) = V1 from HV1.out]
    go_wp2_with fail
    refine (HCK.out _ HB.out).mono ?_
    rintro e2 w2 ⟨rfl, hb2⟩
    go_wp2_with fail
    go_ret2
    exact ⟨rfl, HB.out.trans hb2⟩
set_option maxHeartbeats 1000000 in
theorem print_c (e : Ex) (na : Option Addr) (nn nc : Nat) (la : Option Addr) (ln lc : Nat) (w : World) (hE : EnvX w) (hb : e.bulk ≤ 1073741824) (hat : ExAt w e (.slice na nn nc) (.slice la ln lc)) :
    Calls Tryz.prog 10 #[.agg #[.int .i64 e.k, .string e.s, .slice na nn nc, .slice la ln lc]] w (RetBel (.tuple #[.string (textE2 false e), .int .i64 (CheckE e)]) w) := by
  have HW := Lib.hid (fun W (hW : Bel w W) => written_c e false na nn nc la ln lc W (hE.bel hW) hb (ExAt.bel hW e hat))
  obtain ⟨c, hc⟩ : ∃ c, CheckE e = c := ⟨_, rfl⟩
  obtain ⟨T, hT⟩ : ∃ T, textE2 false e = T := ⟨_, rfl⟩
  rw [hc, hT] at HW ⊢
  clear hE hb hat hc hT
  go_enter Tryz.func10, Tryz.ntmps10
  go_wp2_with fail
  refine (HW.out _ (Bel.alloc _ _)).mono ?_
  rintro e2 w2 ⟨rfl, hb2⟩
  go_wp2_with fail
  go_ret2
  exact ⟨rfl, (Bel.alloc _ _).trans hb2⟩
set_option maxHeartbeats 1000000 in
theorem bare_c (e : Ex) (na : Option Addr) (nn nc : Nat) (la : Option Addr) (ln lc : Nat) (w : World) (hE : EnvX w) (hb : e.bulk ≤ 1073741824) (hat : ExAt w e (.slice na nn nc) (.slice la ln lc)) :
    Calls Tryz.prog 14 #[.agg #[.int .i64 e.k, .string e.s, .slice na nn nc, .slice la ln lc]] w (RetBel (.tuple #[.string (textE2 true e), .int .i64 (CheckE e)]) w) := by
  have HW := Lib.hid (fun W (hW : Bel w W) => written_c e true na nn nc la ln lc W (hE.bel hW) hb (ExAt.bel hW e hat))
  obtain ⟨c, hc⟩ : ∃ c, CheckE e = c := ⟨_, rfl⟩
  obtain ⟨T, hT⟩ : ∃ T, textE2 true e = T := ⟨_, rfl⟩
  rw [hc, hT] at HW ⊢
  clear hE hb hat hc hT
  go_enter Tryz.func14, Tryz.ntmps14
  go_wp2_with fail
  refine (HW.out _ (Bel.alloc _ _)).mono ?_
  rintro e2 w2 ⟨rfl, hb2⟩
  go_wp2_with fail
  go_ret2
  exact ⟨rfl, (Bel.alloc _ _).trans hb2⟩
end Go.Proofs.YtpenfnabeckboaaGreatDoor
