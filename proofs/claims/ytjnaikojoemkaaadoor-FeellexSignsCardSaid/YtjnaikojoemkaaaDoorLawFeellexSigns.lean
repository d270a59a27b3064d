/-
  feellex: the law FeellexSigns is true.
-/
import Derived.Test.YtjnaikojoemkaaaDoorFW
namespace Go.Proofs.YtjnaikojoemkaaaDoor
open Go.RowKit

def sgL : List UInt8 := [43, 45, 42, 47, 60, 62, 61, 40, 41, 91, 93, 123, 125, 44, 58, 46]
def sgB : ByteArray := ⟨#[43, 45, 42, 47, 60, 62, 61, 40, 41, 91, 93, 123, 125, 44, 58, 46]⟩
def sgOne (i : Nat) : ByteArray := ⟨#[sgL.getD i 0]⟩
def isTwo (s : ByteArray) : Bool := s.toList == [42, 42] || s.toList == [60, 61] || s.toList == [62, 61] || s.toList == [46, 46]
def sgToks (i j : Nat) : List Lx := if isTwo (sgOne i ++ sgOne j) = true then [(4, 0, sgOne i ++ sgOne j), (5, 2, ⟨#[]⟩)] else [(4, 0, sgOne i), (4, 1, sgOne j), (5, 2, ⟨#[]⟩)]
set_option maxRecDepth 100000 in
theorem sg_all : ((List.range 16).all fun i => (List.range 16).all fun j => decide (((lexS (sgOne i ++ sgOne j)).1.map toLx, (lexS (sgOne i ++ sgOne j)).2.1, (lexS (sgOne i ++ sgOne j)).2.2) = (sgToks i j, 2, 0))) = true := by decide +kernel
theorem sg_at (i j : Nat) (hi : i < 16) (hj : j < 16) : ((lexS (sgOne i ++ sgOne j)).1.map toLx, (lexS (sgOne i ++ sgOne j)).2.1, (lexS (sgOne i ++ sgOne j)).2.2) = (sgToks i j, 2, 0) :=
  of_decide_eq_true (List.all_eq_true.1 (List.all_eq_true.1 sg_all i (List.mem_range.2 hi)) j (List.mem_range.2 hj))
theorem sg_cut : ((List.range 16).all fun i => decide ((sgB.extract i 16).extract 0 1 = sgOne i)) = true := by decide +kernel
theorem sg_cut_at (i : Nat) (hi : i < 16) : (sgB.extract i 16).extract 0 1 = sgOne i := of_decide_eq_true (List.all_eq_true.1 sg_cut i (List.mem_range.2 hi))

set_option maxRecDepth 100000 in
set_option maxHeartbeats 4000000 in
theorem signs_c {w : World} (a : Int) (ha : (Lit.int .u8 a).wf = true) (b : Int) (hb : (Lit.int .u8 b).wf = true) (hE : Env w ∧ SignsAt w) :
    Calls Tryd.prog 4 #[.int .u8 a, .int .u8 b] w (RetBel (.bool true) w) := by
  have ha1 : 0 ≤ a ∧ a ≤ 255 := by simp [Lit.wf, IntKind.min, IntKind.max, IntKind.bits, IntKind.signed] at ha; omega
  have hb1 : 0 ≤ b ∧ b ≤ 255 := by simp [Lit.wf, IntKind.min, IntKind.max, IntKind.bits, IntKind.signed] at hb; omega
  obtain ⟨a0, a1⟩ := ha1
  obtain ⟨b0, b1⟩ := hb1
  obtain ⟨hE, hw⟩ := hE
  have HAL : Hid (∀ w1, Bel w w1 → Calls Tryd.prog 7 #[] w1 (RetBel (.bool true) w1)) := Lib.hid fun w1 hb => alive_c w1 (hE.bel hb) (signs_bel hw hb)
  obtain ⟨i, hi⟩ : ∃ i : Nat, (a % 16) = i := ⟨(a % 16).toNat, by omega⟩
  obtain ⟨j, hj⟩ : ∃ j : Nat, (b % 16) = j := ⟨(b % 16).toNat, by omega⟩
  have hi16 : i < 16 := by omega
  have hj16 : j < 16 := by omega
  have HLX : Hid (∀ w1, Bel w w1 → Calls Tryd.prog 8 #[.string (sgOne i ++ sgOne j)] w1 fun x w' => ∃ v, x = .returned (.tuple #[v, .int .i64 2, .int .i64 0]) ∧ RowL w' v (sgToks i j) ∧ Bel w1 w') := Lib.hid fun w1 hb => lex_row (sgOne i ++ sgOne j) (by show 2 ≤ 4294967280; omega) w1 (hE.bel hb) (signs_bel hw hb) _ _ _ (sg_at i j hi16 hj16)
  have hci : ((⟨#[43, 45, 42, 47, 60, 62, 61, 40, 41, 91, 93, 123, 125, 44, 58, 46]⟩ : ByteArray).extract i 16).extract 0 1 = sgOne i := sg_cut_at i hi16
  have hcj : ((⟨#[43, 45, 42, 47, 60, 62, 61, 40, 41, 91, 93, 123, 125, 44, 58, 46]⟩ : ByteArray).extract j 16).extract 0 1 = sgOne j := sg_cut_at j hj16
  have hx0 : (sgOne i ++ sgOne j).extract 0 1 = sgOne i := rfl
  have hx1 : (sgOne i ++ sgOne j).extract 1 2 = sgOne j := rfl
  have hxs : (sgOne i ++ sgOne j).size = 2 := rfl
  have hs1 : (sgOne i).size = 1 := rfl
  have hs2 : (sgOne j).size = 1 := rfl
  obtain ⟨x, hx⟩ : ∃ x, sgOne i = x := ⟨_, rfl⟩
  obtain ⟨y, hy⟩ : ∃ y, sgOne j = y := ⟨_, rfl⟩
  unfold sgToks at HLX
  rw [hx] at hci hx0 hx1 hxs hs1 HLX
  rw [hy] at hcj hx0 hx1 hxs hs2 HLX
  obtain ⟨s, hs⟩ : ∃ s, x ++ y = s := ⟨_, rfl⟩
  rw [hs] at hx0 hx1 hxs HLX
  clear ha hb hE hw hx hy
  cases hT : isTwo s
  · rw [hT] at HLX
    unfold isTwo at hT
    simp only [Bool.or_eq_false_iff] at hT
    obtain ⟨⟨⟨q1, q2⟩, q3⟩, q4⟩ := hT
    go_enter Tryd.func4, Tryd.ntmps4
    go_wp2_with fail
    go_quiet (fail)
    go_wp2_with fail
    refine (HLX.out _ ((Bel.refl _).to_drewN _)).mono ?_
    rintro e w1 ⟨v, rfl, hr, hb1⟩
    obtain ⟨v1, c1, hv, h1⟩ := rowL_form hr
    rcases h1 with h1 | ⟨g, off, rfl, hk, hlt, hc⟩
    · cases h1
    rw [if_neg (by decide)] at hv hk
    simp only [List.length_cons, List.length_nil, Nat.zero_add, Nat.reduceAdd] at hv hk
    subst hv
    have c0 := hc 0 _ rfl
    have c1' := hc 1 _ rfl
    have c2 := hc 2 _ rfl
    have C0 := Lib.hid c0.2.2
    have C1 := Lib.hid c1'.2.2
    have C1a := Lib.hid c1'.2.1
    have C2 := Lib.hid c2.1
    clear hc c0 c1' c2 hr
    go_wp2_with fail
    refine (HAL.out _ (((Bel.refl _).to_drewN _).trans hb1)).mono ?_
    rintro e w2 ⟨rfl, hb2⟩
    have d0 : w2.cell? ⟨g, off + 0 * 3 + 2, none⟩ = some (.string x) := hb2.keep C0.out
    have d1 : w2.cell? ⟨g, off + 1 * 3 + 2, none⟩ = some (.string y) := hb2.keep C1.out
    have d2 : w2.cell? ⟨g, off + 1 * 3 + 1, none⟩ = some (.int .i64 1) := hb2.keep C1a.out
    have d3 : w2.cell? ⟨g, off + 2 * 3, none⟩ = some (.int .i64 5) := hb2.keep C2.out
    go_wp2_with fail
    go_quiet (fail)
    go_wp2_with fail
    go_ret
    exact ⟨rfl, by (repeat (first | exact Bel.refl _ | assumption | refine Bel.to_drewN ?_ _ | refine Bel.to_drew ?_ | refine Bel.to_setCell ?_ (by first | exact Nat.le_refl _ | (simp; done) | (simp; omega) | omega) _ | refine Bel.to_alloc ?_ _ | refine Bel.trans ?_ (by assumption)))⟩
  · rw [hT] at HLX
    have hq : (s.toList == [42, 42]) = true ∨ ((s.toList == [42, 42]) = false ∧ (s.toList == [60, 61]) = true) ∨ ((s.toList == [42, 42]) = false ∧ (s.toList == [60, 61]) = false ∧ (s.toList == [62, 61]) = true) ∨
        ((s.toList == [42, 42]) = false ∧ (s.toList == [60, 61]) = false ∧ (s.toList == [62, 61]) = false ∧ (s.toList == [46, 46]) = true) := by
      unfold isTwo at hT
      cases h1 : (s.toList == [42, 42]) <;> cases h2 : (s.toList == [60, 61]) <;> cases h3 : (s.toList == [62, 61]) <;> cases h4 : (s.toList == [46, 46]) <;> rw [h1, h2, h3, h4] at hT <;> simp at hT ⊢
    have hss : (s.toList == s.toList) = true := by simp
    clear hT hx0 hx1
    rcases hq with q1 | ⟨q1, q2⟩ | ⟨q1, q2, q3⟩ | ⟨q1, q2, q3, q4⟩
    all_goals
      go_enter Tryd.func4, Tryd.ntmps4
      go_wp2_with fail
      go_quiet (fail)
      go_wp2_with fail
      refine (HLX.out _ ((Bel.refl _).to_drewN _)).mono ?_
      rintro e w1 ⟨v, rfl, hr, hb1⟩
      rw [if_pos trivial] at hr
      obtain ⟨v1, c1, hv, h1⟩ := rowL_form hr
      rcases h1 with h1 | ⟨g, off, rfl, hk, hlt, hc⟩
      · cases h1
      simp only [List.length_cons, List.length_nil, Nat.zero_add, Nat.reduceAdd] at hv hk
      subst hv
      have c0 := hc 0 _ rfl
      have C0 := Lib.hid c0.2.2
      have C0k := Lib.hid c0.1
      clear hc c0 hr
      go_wp2_with fail
      refine (HAL.out _ (((Bel.refl _).to_drewN _).trans hb1)).mono ?_
      rintro e w2 ⟨rfl, hb2⟩
      have d0 : w2.cell? ⟨g, off + 0 * 3 + 2, none⟩ = some (.string s) := hb2.keep C0.out
      have d1 : w2.cell? ⟨g, off, none⟩ = some (.int .i64 4) := by have := hb2.keep C0k.out; simpa using this
      go_wp2_with fail
      go_ret
      exact ⟨rfl, by (repeat (first | exact Bel.refl _ | assumption | refine Bel.to_drewN ?_ _ | refine Bel.to_drew ?_ | refine Bel.to_setCell ?_ (by first | exact Nat.le_refl _ | (simp; done) | (simp; omega) | omega) _ | refine Bel.to_alloc ?_ _ | refine Bel.trans ?_ (by assumption)))⟩
end Go.Proofs.YtjnaikojoemkaaaDoor
