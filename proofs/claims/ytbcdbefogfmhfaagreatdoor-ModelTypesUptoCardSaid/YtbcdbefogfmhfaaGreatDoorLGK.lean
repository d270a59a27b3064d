/-
  logic: the walks of whether two are the same, of how deep one is (printed by wip/mk_lgk.py).
-/
import Derived.Test.YtbcdbefogfmhfaaGreatDoorLGX
namespace Go.Proofs.YtbcdbefogfmhfaaGreatDoor
open Go.RowKit
/-- The same, one by one. -/
def all2 {α : Type} (f : α → α → Bool) : List α → List α → Bool
  | [], [] => true
  | x :: a, y :: b => f x y && all2 f a b
  | _, _ => false
theorem all2_drop {α : Type} (f : α → α → Bool) (a b : List α) (i : Nat) (x y : α) (h1 : a[i]? = some x) (h2 : b[i]? = some y) : all2 f (a.drop i) (b.drop i) = (f x y && all2 f (a.drop (i + 1)) (b.drop (i + 1))) := by
  obtain ⟨hi, hx⟩ := List.getElem?_eq_some_iff.1 h1
  obtain ⟨hj, hy⟩ := List.getElem?_eq_some_iff.1 h2
  rw [List.drop_eq_getElem_cons hi, List.drop_eq_getElem_cons hj, hx, hy]
  conv => lhs; unfold all2
theorem all2_len {α : Type} (f : α → α → Bool) : ∀ a b : List α, a.length ≠ b.length → all2 f a b = false
  | [], [], h => absurd rfl h
  | [], y :: b, _ => by unfold all2; rfl
  | x :: a, [], _ => by unfold all2; rfl
  | x :: a, y :: b, h => by
    unfold all2
    rw [all2_len f a b (by simpa using h), Bool.and_false]
theorem all2_end {α : Type} (f : α → α → Bool) (a b : List α) (i : Nat) (h1 : a.length ≤ i) (h2 : b.length ≤ i) : all2 f (a.drop i) (b.drop i) = true := by
  rw [List.drop_of_length_le h1, List.drop_of_length_le h2]
  unfold all2
  rfl
theorem samesT_all : ∀ a b : List Te, samesT a b = all2 sameT a b
  | [], [] => by unfold samesT all2; rfl
  | [], y :: b => by unfold samesT all2; rfl
  | x :: a, [] => by unfold samesT all2; rfl
  | x :: a, y :: b => by unfold samesT all2; rw [samesT_all a b]
theorem samesR_all : ∀ a b : List Ru, samesR a b = all2 sameR a b
  | [], [] => by unfold samesR all2; rfl
  | [], y :: b => by unfold samesR all2; rfl
  | x :: a, [] => by unfold samesR all2; rfl
  | x :: a, y :: b => by unfold samesR all2; rw [samesR_all a b]
theorem samesL_all : ∀ a b : List Lg, samesL a b = all2 sameL a b
  | [], [] => by unfold samesL all2; rfl
  | [], y :: b => by unfold samesL all2; rfl
  | x :: a, [] => by unfold samesL all2; rfl
  | x :: a, y :: b => by unfold samesL all2; rw [samesL_all a b]
def TeV (W : World) (t : Te) (v : Value) : Prop := ∃ a n c, v = .agg #[.bool t.any, .bool t.no, .slice a n c] ∧ t.l.length = n ∧ n ≤ c ∧ PartsAt W a t.l
def RuV (W : World) (r : Ru) (v : Value) : Prop := ∃ a n c a' n' c', v = .agg #[.slice a n c, .slice a' n' c'] ∧ r.ins.length = n ∧ n ≤ c ∧ TesAt W a r.ins ∧ r.out.length = n' ∧ n' ≤ c' ∧ PartsAt W a' r.out
def LgVal (W : World) (l : Lg) (v : Value) : Prop := ∃ q, v = lgV l q ∧ LgAt W l q
set_option maxRecDepth 100000 in
set_option maxHeartbeats 4000000 in
theorem equalT_c (l1 l2 : List Te) (a1 a2 : Option Addr) (n1 c1 n2 c2 h : Nat) (f : Te → Te → Bool) (w : World) (hen : ∀ args w, (callFunc h args).run Tryz.prog w = .ok (.enter h args) w) (h1 : l1.length = n1) (h2 : l2.length = n2) (hn1 : n1 ≤ 1073741824) (hn2 : n2 ≤ 1073741824) (hs1 : TesAt w a1 l1) (hs2 : TesAt w a2 l2)
    (hcall : ∀ x ∈ l1, ∀ y ∈ l2, ∀ vx vy wr, Bel w wr → TeV wr x vx → TeV wr y vy → Calls Tryz.prog h #[vx, vy] wr (RetBel (.bool (f x y)) wr)) :
    Calls Tryz.prog 58 #[.slice a1 n1 c1, .slice a2 n2 c2, .func (.func h) #[] #[]] w (RetBel (.bool (all2 f l1 l2)) w) := by
  have H1 := Lib.hid h1
  have H2 := Lib.hid h2
  have S1 := Lib.hid hs1
  have S2 := Lib.hid hs2
  have HCALL := Lib.hid hcall
  obtain ⟨R, hR⟩ : ∃ R, all2 f l1 l2 = R := ⟨_, rfl⟩
  rw [hR]
  have HR := Lib.hid hR
  clear hR h1 h2 hs1 hs2 hcall
  by_cases he : n1 = n2
  · subst he
    go_enter Tryz.func58, Tryz.ntmps58
    go_wp2_with fail
    go_loopw [17] (fun i wr => ∃ k : Nat, k ≤ n1 ∧ i = .int .i64 k ∧ Bel w wr ∧ all2 f (l1.drop k) (l2.drop k) = R) (fun i _ => n1 - (intOf i).toNat)
    case atStart => exact ⟨0, Nat.zero_le _, rfl, Bel.refl _, HR.out⟩
    case round =>
      obtain ⟨k, hk, rfl, hbel, htk⟩ := hrel
      by_cases hkn : k < n1
      · have hki : (k : Int) < n1 := by omega
        obtain ⟨x, hx⟩ : ∃ x, l1[k]? = some x := ⟨_, List.getElem?_eq_getElem (by have := H1.out; omega)⟩
        obtain ⟨y, hy⟩ : ∃ y, l2[k]? = some y := ⟨_, List.getElem?_eq_getElem (by have := H2.out; omega)⟩
        obtain ⟨b1, xoff, rfl, xv, xhx, xa, xc, rfl, xhc, xhy⟩ := S1.out k x hx
        obtain ⟨xn, xhn⟩ : ∃ n, x.l.length = n := ⟨_, rfl⟩
        rw [xhn] at xhx xhc
        have xg0 := xhx.get0
        have xg1 := xhx.get 1 rfl
        have xg2 := xhx.get 2 rfl
        obtain ⟨b2, yoff, rfl, yv, yhx, ya, yc, rfl, yhc, yhy⟩ := S2.out k y hy
        obtain ⟨yn, yhn⟩ : ∃ n, y.l.length = n := ⟨_, rfl⟩
        rw [yhn] at yhx yhc
        have yg0 := yhx.get0
        have yg1 := yhx.get 1 rfl
        have yg2 := yhx.get 2 rfl
        have f0 := hbel.keep xg0
        have f1 := hbel.keep xg1
        have f2 := hbel.keep xg2
        have e0 := (hbel.to_alloc (.cells #[.bool x.any, .bool x.no, .slice xa xn xc] 52)).keep yg0
        have e1 := (hbel.to_alloc (.cells #[.bool x.any, .bool x.no, .slice xa xn xc] 52)).keep yg1
        have e2 := (hbel.to_alloc (.cells #[.bool x.any, .bool x.no, .slice xa xn xc] 52)).keep yg2
        have hc := fun W (hb : Bel wr W) => HCALL.out x (List.mem_of_getElem? hx) y (List.mem_of_getElem? hy) (.agg #[.bool x.any, .bool x.no, .slice xa xn xc]) (.agg #[.bool y.any, .bool y.no, .slice ya yn yc]) W (hbel.trans hb) (⟨_, _, _, rfl, xhn, xhc, xhy.bel (hbel.trans hb)⟩) (⟨_, _, _, rfl, yhn, yhc, yhy.bel (hbel.trans hb)⟩)
        rw [all2_drop f l1 l2 k x y hx hy] at htk
        obtain ⟨S, hS⟩ : ∃ S, f x y = S := ⟨_, rfl⟩
        rw [hS] at hc htk
        have HC := Lib.hid hc
        have HT := Lib.hid htk
        have HB := Lib.hid hbel
        clear xg0 xg1 xg2 yg0 yg1 yg2 xhx xhy xhn xhc yhx yhy yhn yhc hc htk hS hx hy hbel
        go_wp2_with fail
        refine (HC.out _ ((Bel.alloc _ _).trans (Bel.alloc _ _))).mono ?_
        rintro e w1 ⟨rfl, hb1⟩
        have HB1 := Lib.hid (HB.out.trans (((Bel.alloc _ _).trans (Bel.alloc _ _)).trans hb1))
        clear hb1 HC
        cases S with
        | true =>
          go_wp2_with fail
          exact ⟨⟨k + 1, by omega, by go_num, HB1.out, by simpa using HT.out⟩, by simp [intOf]; omega⟩
        | false =>
          go_wp2_with fail
          go_ret
          exact ⟨ret_bool (by simpa using HT.out), HB1.out⟩
      · obtain rfl : k = n1 := by omega
        have hr : R = true := by
          rw [← htk, all2_end f l1 l2 k (by have := H1.out; omega) (by have := H2.out; omega)]
        subst hr
        clear HR htk
        go_wp2_with fail
        go_ret
        exact ⟨rfl, hbel⟩
  · have hf : R = false := by
      rw [← HR.out]
      exact all2_len f l1 l2 (by rw [H1.out, H2.out]; exact he)
    subst hf
    have e1 : ((n1 : Int) == n2) = false := by simp; omega
    have e2 : ((n1 : Int) != n2) = true := by simp; omega
    clear he
    go_enter Tryz.func58, Tryz.ntmps58
    go_wp2_with fail
    go_ret
    exact ⟨rfl, by (repeat (first | exact Bel.refl _ | assumption | refine Bel.to_drewN ?_ _ | refine Bel.to_drew ?_ | refine Bel.to_setCell ?_ (by first | exact Nat.le_refl _ | (simp; done) | (simp; omega) | omega) _ | refine Bel.to_alloc ?_ _ | refine Bel.trans ?_ (by assumption)))⟩
set_option maxRecDepth 100000 in
set_option maxHeartbeats 4000000 in
theorem equalR_c (l1 l2 : List Ru) (a1 a2 : Option Addr) (n1 c1 n2 c2 h : Nat) (f : Ru → Ru → Bool) (w : World) (hen : ∀ args w, (callFunc h args).run Tryz.prog w = .ok (.enter h args) w) (h1 : l1.length = n1) (h2 : l2.length = n2) (hn1 : n1 ≤ 1073741824) (hn2 : n2 ≤ 1073741824) (hs1 : RusAt w a1 l1) (hs2 : RusAt w a2 l2)
    (hcall : ∀ x ∈ l1, ∀ y ∈ l2, ∀ vx vy wr, Bel w wr → RuV wr x vx → RuV wr y vy → Calls Tryz.prog h #[vx, vy] wr (RetBel (.bool (f x y)) wr)) :
    Calls Tryz.prog 56 #[.slice a1 n1 c1, .slice a2 n2 c2, .func (.func h) #[] #[]] w (RetBel (.bool (all2 f l1 l2)) w) := by
  have H1 := Lib.hid h1
  have H2 := Lib.hid h2
  have S1 := Lib.hid hs1
  have S2 := Lib.hid hs2
  have HCALL := Lib.hid hcall
  obtain ⟨R, hR⟩ : ∃ R, all2 f l1 l2 = R := ⟨_, rfl⟩
  rw [hR]
  have HR := Lib.hid hR
  clear hR h1 h2 hs1 hs2 hcall
  by_cases he : n1 = n2
  · subst he
    go_enter Tryz.func56, Tryz.ntmps56
    go_wp2_with fail
    go_loopw [17] (fun i wr => ∃ k : Nat, k ≤ n1 ∧ i = .int .i64 k ∧ Bel w wr ∧ all2 f (l1.drop k) (l2.drop k) = R) (fun i _ => n1 - (intOf i).toNat)
    case atStart => exact ⟨0, Nat.zero_le _, rfl, Bel.refl _, HR.out⟩
    case round =>
      obtain ⟨k, hk, rfl, hbel, htk⟩ := hrel
      by_cases hkn : k < n1
      · have hki : (k : Int) < n1 := by omega
        obtain ⟨x, hx⟩ : ∃ x, l1[k]? = some x := ⟨_, List.getElem?_eq_getElem (by have := H1.out; omega)⟩
        obtain ⟨y, hy⟩ : ∃ y, l2[k]? = some y := ⟨_, List.getElem?_eq_getElem (by have := H2.out; omega)⟩
        obtain ⟨b1, xoff, rfl, xvi, xvo, xhx, ⟨xa, xc, rfl, xhc, xhi⟩, xd, xe, rfl, xhd, xho⟩ := S1.out k x hx
        obtain ⟨xn, xhn⟩ : ∃ n, x.ins.length = n := ⟨_, rfl⟩
        obtain ⟨xm, xhm⟩ : ∃ n, x.out.length = n := ⟨_, rfl⟩
        rw [xhn] at xhx xhc
        rw [xhm] at xhx xhd
        have xg0 := xhx.get0
        have xg1 := xhx.get 1 rfl
        obtain ⟨b2, yoff, rfl, yvi, yvo, yhx, ⟨ya, yc, rfl, yhc, yhi⟩, yd, ye, rfl, yhd, yho⟩ := S2.out k y hy
        obtain ⟨yn, yhn⟩ : ∃ n, y.ins.length = n := ⟨_, rfl⟩
        obtain ⟨ym, yhm⟩ : ∃ n, y.out.length = n := ⟨_, rfl⟩
        rw [yhn] at yhx yhc
        rw [yhm] at yhx yhd
        have yg0 := yhx.get0
        have yg1 := yhx.get 1 rfl
        have f0 := hbel.keep xg0
        have f1 := hbel.keep xg1
        have e0 := (hbel.to_alloc (.cells #[.slice xa xn xc, .slice xd xm xe] 108)).keep yg0
        have e1 := (hbel.to_alloc (.cells #[.slice xa xn xc, .slice xd xm xe] 108)).keep yg1
        have hc := fun W (hb : Bel wr W) => HCALL.out x (List.mem_of_getElem? hx) y (List.mem_of_getElem? hy) (.agg #[.slice xa xn xc, .slice xd xm xe]) (.agg #[.slice ya yn yc, .slice yd ym ye]) W (hbel.trans hb) (⟨_, _, _, _, _, _, rfl, xhn, xhc, xhi.bel (hbel.trans hb), xhm, xhd, xho.bel (hbel.trans hb)⟩) (⟨_, _, _, _, _, _, rfl, yhn, yhc, yhi.bel (hbel.trans hb), yhm, yhd, yho.bel (hbel.trans hb)⟩)
        rw [all2_drop f l1 l2 k x y hx hy] at htk
        obtain ⟨S, hS⟩ : ∃ S, f x y = S := ⟨_, rfl⟩
        rw [hS] at hc htk
        have HC := Lib.hid hc
        have HT := Lib.hid htk
        have HB := Lib.hid hbel
        clear xg0 xg1 yg0 yg1 xhx yhx xhi xho yhi yho xhc yhc xhd yhd xhm xhn yhm yhn hc htk hS hx hy hbel
        go_wp2_with fail
        refine (HC.out _ ((Bel.alloc _ _).trans (Bel.alloc _ _))).mono ?_
        rintro e w1 ⟨rfl, hb1⟩
        have HB1 := Lib.hid (HB.out.trans (((Bel.alloc _ _).trans (Bel.alloc _ _)).trans hb1))
        clear hb1 HC
        cases S with
        | true =>
          go_wp2_with fail
          exact ⟨⟨k + 1, by omega, by go_num, HB1.out, by simpa using HT.out⟩, by simp [intOf]; omega⟩
        | false =>
          go_wp2_with fail
          go_ret
          exact ⟨ret_bool (by simpa using HT.out), HB1.out⟩
      · obtain rfl : k = n1 := by omega
        have hr : R = true := by
          rw [← htk, all2_end f l1 l2 k (by have := H1.out; omega) (by have := H2.out; omega)]
        subst hr
        clear HR htk
        go_wp2_with fail
        go_ret
        exact ⟨rfl, hbel⟩
  · have hf : R = false := by
      rw [← HR.out]
      exact all2_len f l1 l2 (by rw [H1.out, H2.out]; exact he)
    subst hf
    have e1 : ((n1 : Int) == n2) = false := by simp; omega
    have e2 : ((n1 : Int) != n2) = true := by simp; omega
    clear he
    go_enter Tryz.func56, Tryz.ntmps56
    go_wp2_with fail
    go_ret
    exact ⟨rfl, by (repeat (first | exact Bel.refl _ | assumption | refine Bel.to_drewN ?_ _ | refine Bel.to_drew ?_ | refine Bel.to_setCell ?_ (by first | exact Nat.le_refl _ | (simp; done) | (simp; omega) | omega) _ | refine Bel.to_alloc ?_ _ | refine Bel.trans ?_ (by assumption)))⟩
set_option maxRecDepth 100000 in
set_option maxHeartbeats 4000000 in
theorem equalL_c (l1 l2 : List Lg) (a1 a2 : Option Addr) (n1 c1 n2 c2 h : Nat) (f : Lg → Lg → Bool) (w : World) (hen : ∀ args w, (callFunc h args).run Tryz.prog w = .ok (.enter h args) w) (h1 : l1.length = n1) (h2 : l2.length = n2) (hn1 : n1 ≤ 1073741824) (hn2 : n2 ≤ 1073741824) (hs1 : KidsAt w a1 l1) (hs2 : KidsAt w a2 l2)
    (hcall : ∀ x ∈ l1, ∀ y ∈ l2, ∀ vx vy wr, Bel w wr → LgVal wr x vx → LgVal wr y vy → Calls Tryz.prog h #[vx, vy] wr (RetBel (.bool (f x y)) wr)) :
    Calls Tryz.prog 59 #[.slice a1 n1 c1, .slice a2 n2 c2, .func (.func h) #[] #[]] w (RetBel (.bool (all2 f l1 l2)) w) := by
  have H1 := Lib.hid h1
  have H2 := Lib.hid h2
  have S1 := Lib.hid hs1
  have S2 := Lib.hid hs2
  have HCALL := Lib.hid hcall
  obtain ⟨R, hR⟩ : ∃ R, all2 f l1 l2 = R := ⟨_, rfl⟩
  rw [hR]
  have HR := Lib.hid hR
  clear hR h1 h2 hs1 hs2 hcall
  by_cases he : n1 = n2
  · subst he
    go_enter Tryz.func59, Tryz.ntmps59
    go_wp2_with fail
    go_loopw [17] (fun i wr => ∃ k : Nat, k ≤ n1 ∧ i = .int .i64 k ∧ Bel w wr ∧ all2 f (l1.drop k) (l2.drop k) = R) (fun i _ => n1 - (intOf i).toNat)
    case atStart => exact ⟨0, Nat.zero_le _, rfl, Bel.refl _, HR.out⟩
    case round =>
      obtain ⟨k, hk, rfl, hbel, htk⟩ := hrel
      by_cases hkn : k < n1
      · have hki : (k : Int) < n1 := by omega
        obtain ⟨x, hx⟩ : ∃ x, l1[k]? = some x := ⟨_, List.getElem?_eq_getElem (by have := H1.out; omega)⟩
        obtain ⟨y, hy⟩ : ∃ y, l2[k]? = some y := ⟨_, List.getElem?_eq_getElem (by have := H2.out; omega)⟩
        obtain ⟨b1, xoff, xq, rfl, xhx, xhxa⟩ := S1.out k x hx
        have xhxb := xhxa
        obtain ⟨xnea, xnen, xnec, xlea, xlen, xlec, xia, xim, xic, xoa, xom, xoc, xra, xrm, xrc, xna, xnm, xnc, xla, xlm, xlc, rfl, ⟨xhim, xhom, xhrm, xhnm, xhlm⟩, ⟨xhci, xhco, xhcr, xhcn, xhcl⟩, ⟨xhbi, xhbo, xhbr, xhbn, xhbl⟩, xhex, xhpi, xhpo, xhpr, xhpn, xhpl⟩ := LgAt.opened xhxb
        have xg0 := CellsAt.get0 xhx
        have xg1 := CellsAt.get xhx 1 rfl
        have xg2 := CellsAt.get xhx 2 rfl
        have xg3 := CellsAt.get xhx 3 rfl
        have xg4 := CellsAt.get xhx 4 rfl
        have xg5 := CellsAt.get xhx 5 rfl
        have xg6 := CellsAt.get xhx 6 rfl
        have xg7 := CellsAt.get xhx 7 rfl
        have xg8 := CellsAt.get xhx 8 rfl
        have xg9 := CellsAt.get xhx 9 rfl
        have xg10 := CellsAt.get xhx 10 rfl
        obtain ⟨b2, yoff, yq, rfl, yhx, yhxa⟩ := S2.out k y hy
        have yhxb := yhxa
        obtain ⟨ynea, ynen, ynec, ylea, ylen, ylec, yia, yim, yic, yoa, yom, yoc, yra, yrm, yrc, yna, ynm, ync, yla, ylm, ylc, rfl, ⟨yhim, yhom, yhrm, yhnm, yhlm⟩, ⟨yhci, yhco, yhcr, yhcn, yhcl⟩, ⟨yhbi, yhbo, yhbr, yhbn, yhbl⟩, yhex, yhpi, yhpo, yhpr, yhpn, yhpl⟩ := LgAt.opened yhxb
        have yg0 := CellsAt.get0 yhx
        have yg1 := CellsAt.get yhx 1 rfl
        have yg2 := CellsAt.get yhx 2 rfl
        have yg3 := CellsAt.get yhx 3 rfl
        have yg4 := CellsAt.get yhx 4 rfl
        have yg5 := CellsAt.get yhx 5 rfl
        have yg6 := CellsAt.get yhx 6 rfl
        have yg7 := CellsAt.get yhx 7 rfl
        have yg8 := CellsAt.get yhx 8 rfl
        have yg9 := CellsAt.get yhx 9 rfl
        have yg10 := CellsAt.get yhx 10 rfl
        have f0 := hbel.keep xg0
        have f1 := hbel.keep xg1
        have f2 := hbel.keep xg2
        have f3 := hbel.keep xg3
        have f4 := hbel.keep xg4
        have f5 := hbel.keep xg5
        have f6 := hbel.keep xg6
        have f7 := hbel.keep xg7
        have f8 := hbel.keep xg8
        have f9 := hbel.keep xg9
        have f10 := hbel.keep xg10
        have e0 := (hbel.to_alloc (.cells #[.int .i64 x.k, .int .i64 x.e.k, .string x.e.s, .slice xnea xnen xnec, .slice xlea xlen xlec, .string x.p, .slice xia xim xic, .slice xoa xom xoc, .slice xra xrm xrc, .slice xna xnm xnc, .slice xla xlm xlc] 42)).keep yg0
        have e1 := (hbel.to_alloc (.cells #[.int .i64 x.k, .int .i64 x.e.k, .string x.e.s, .slice xnea xnen xnec, .slice xlea xlen xlec, .string x.p, .slice xia xim xic, .slice xoa xom xoc, .slice xra xrm xrc, .slice xna xnm xnc, .slice xla xlm xlc] 42)).keep yg1
        have e2 := (hbel.to_alloc (.cells #[.int .i64 x.k, .int .i64 x.e.k, .string x.e.s, .slice xnea xnen xnec, .slice xlea xlen xlec, .string x.p, .slice xia xim xic, .slice xoa xom xoc, .slice xra xrm xrc, .slice xna xnm xnc, .slice xla xlm xlc] 42)).keep yg2
        have e3 := (hbel.to_alloc (.cells #[.int .i64 x.k, .int .i64 x.e.k, .string x.e.s, .slice xnea xnen xnec, .slice xlea xlen xlec, .string x.p, .slice xia xim xic, .slice xoa xom xoc, .slice xra xrm xrc, .slice xna xnm xnc, .slice xla xlm xlc] 42)).keep yg3
        have e4 := (hbel.to_alloc (.cells #[.int .i64 x.k, .int .i64 x.e.k, .string x.e.s, .slice xnea xnen xnec, .slice xlea xlen xlec, .string x.p, .slice xia xim xic, .slice xoa xom xoc, .slice xra xrm xrc, .slice xna xnm xnc, .slice xla xlm xlc] 42)).keep yg4
        have e5 := (hbel.to_alloc (.cells #[.int .i64 x.k, .int .i64 x.e.k, .string x.e.s, .slice xnea xnen xnec, .slice xlea xlen xlec, .string x.p, .slice xia xim xic, .slice xoa xom xoc, .slice xra xrm xrc, .slice xna xnm xnc, .slice xla xlm xlc] 42)).keep yg5
        have e6 := (hbel.to_alloc (.cells #[.int .i64 x.k, .int .i64 x.e.k, .string x.e.s, .slice xnea xnen xnec, .slice xlea xlen xlec, .string x.p, .slice xia xim xic, .slice xoa xom xoc, .slice xra xrm xrc, .slice xna xnm xnc, .slice xla xlm xlc] 42)).keep yg6
        have e7 := (hbel.to_alloc (.cells #[.int .i64 x.k, .int .i64 x.e.k, .string x.e.s, .slice xnea xnen xnec, .slice xlea xlen xlec, .string x.p, .slice xia xim xic, .slice xoa xom xoc, .slice xra xrm xrc, .slice xna xnm xnc, .slice xla xlm xlc] 42)).keep yg7
        have e8 := (hbel.to_alloc (.cells #[.int .i64 x.k, .int .i64 x.e.k, .string x.e.s, .slice xnea xnen xnec, .slice xlea xlen xlec, .string x.p, .slice xia xim xic, .slice xoa xom xoc, .slice xra xrm xrc, .slice xna xnm xnc, .slice xla xlm xlc] 42)).keep yg8
        have e9 := (hbel.to_alloc (.cells #[.int .i64 x.k, .int .i64 x.e.k, .string x.e.s, .slice xnea xnen xnec, .slice xlea xlen xlec, .string x.p, .slice xia xim xic, .slice xoa xom xoc, .slice xra xrm xrc, .slice xna xnm xnc, .slice xla xlm xlc] 42)).keep yg9
        have e10 := (hbel.to_alloc (.cells #[.int .i64 x.k, .int .i64 x.e.k, .string x.e.s, .slice xnea xnen xnec, .slice xlea xlen xlec, .string x.p, .slice xia xim xic, .slice xoa xom xoc, .slice xra xrm xrc, .slice xna xnm xnc, .slice xla xlm xlc] 42)).keep yg10
        have hc := fun W (hb : Bel wr W) => HCALL.out x (List.mem_of_getElem? hx) y (List.mem_of_getElem? hy) (.agg #[.int .i64 x.k, .int .i64 x.e.k, .string x.e.s, .slice xnea xnen xnec, .slice xlea xlen xlec, .string x.p, .slice xia xim xic, .slice xoa xom xoc, .slice xra xrm xrc, .slice xna xnm xnc, .slice xla xlm xlc]) (.agg #[.int .i64 y.k, .int .i64 y.e.k, .string y.e.s, .slice ynea ynen ynec, .slice ylea ylen ylec, .string y.p, .slice yia yim yic, .slice yoa yom yoc, .slice yra yrm yrc, .slice yna ynm ync, .slice yla ylm ylc]) W (hbel.trans hb) (⟨⟨.slice xnea xnen xnec, .slice xlea xlen xlec, .slice xia xim xic, .slice xoa xom xoc, .slice xra xrm xrc, .slice xna xnm xnc, .slice xla xlm xlc⟩, rfl, LgAt.bel (hbel.trans hb) x xhxa⟩) (⟨⟨.slice ynea ynen ynec, .slice ylea ylen ylec, .slice yia yim yic, .slice yoa yom yoc, .slice yra yrm yrc, .slice yna ynm ync, .slice yla ylm ylc⟩, rfl, LgAt.bel (hbel.trans hb) y yhxa⟩)
        rw [all2_drop f l1 l2 k x y hx hy] at htk
        obtain ⟨S, hS⟩ : ∃ S, f x y = S := ⟨_, rfl⟩
        rw [hS] at hc htk
        have HC := Lib.hid hc
        have HT := Lib.hid htk
        have HB := Lib.hid hbel
        clear xg0 xg1 xg2 xg3 xg4 xg5 xg6 xg7 xg8 xg9 xg10 yg0 yg1 yg2 yg3 yg4 yg5 yg6 yg7 yg8 yg9 yg10 xhx yhx xhxa yhxa xhim xhom xhrm xhnm xhlm xhex xhpi xhpo xhpr xhpn xhpl yhim yhom yhrm yhnm yhlm yhex yhpi yhpo yhpr yhpn yhpl hc htk hS hx hy hbel
        go_wp2_with fail
        refine (HC.out _ ((Bel.alloc _ _).trans (Bel.alloc _ _))).mono ?_
        rintro e w1 ⟨rfl, hb1⟩
        have HB1 := Lib.hid (HB.out.trans (((Bel.alloc _ _).trans (Bel.alloc _ _)).trans hb1))
        clear hb1 HC
        cases S with
        | true =>
          go_wp2_with fail
          exact ⟨⟨k + 1, by omega, by go_num, HB1.out, by simpa using HT.out⟩, by simp [intOf]; omega⟩
        | false =>
          go_wp2_with fail
          go_ret
          exact ⟨ret_bool (by simpa using HT.out), HB1.out⟩
      · obtain rfl : k = n1 := by omega
        have hr : R = true := by
          rw [← htk, all2_end f l1 l2 k (by have := H1.out; omega) (by have := H2.out; omega)]
        subst hr
        clear HR htk
        go_wp2_with fail
        go_ret
        exact ⟨rfl, hbel⟩
  · have hf : R = false := by
      rw [← HR.out]
      exact all2_len f l1 l2 (by rw [H1.out, H2.out]; exact he)
    subst hf
    have e1 : ((n1 : Int) == n2) = false := by simp; omega
    have e2 : ((n1 : Int) != n2) = true := by simp; omega
    clear he
    go_enter Tryz.func59, Tryz.ntmps59
    go_wp2_with fail
    go_ret
    exact ⟨rfl, by (repeat (first | exact Bel.refl _ | assumption | refine Bel.to_drewN ?_ _ | refine Bel.to_drew ?_ | refine Bel.to_setCell ?_ (by first | exact Nat.le_refl _ | (simp; done) | (simp; omega) | omega) _ | refine Bel.to_alloc ?_ _ | refine Bel.trans ?_ (by assumption)))⟩
theorem same_list (l1 l2 : List Ex) (a1 a2 : Option Addr) (n1 c1 n2 c2 : Nat) (w : World) (h1 : l1.length = n1) (h2 : l2.length = n2) (hn1 : n1 ≤ 1073741824) (hn2 : n2 ≤ 1073741824) (hb1 : ∀ x ∈ l1, x.bulk ≤ 1073741824) (hb2 : ∀ x ∈ l2, x.bulk ≤ 1073741824) (hs1 : PartsAt w a1 l1) (hs2 : PartsAt w a2 l2) :
    Calls Tryz.prog 54 #[.slice a1 n1 c1, .slice a2 n2 c2, .func (.func 55) #[] #[]] w (RetBel (.bool (samesE l1 l2)) w) :=
  equalX_c l1 l2 a1 a2 n1 c1 n2 c2 w h1 h2 hn1 hn2 hs1 hs2 fun x hx y xn xl yn yl wr _ hy ex ey => same_e x.bulk x (Nat.le_refl _) (hb1 x hx) y xn xl yn yl wr (hb2 y hy) ex ey
theorem beq_texts (a b : ByteArray) : (a.toList == b.toList) = decide (a = b) := by
  rw [Bool.eq_iff_iff]
  simp only [decide_eq_true_eq, beq_iff_eq]
  exact ⟨fun h => toList_eq (by simp [h]), fun h => by rw [h]⟩
set_option maxRecDepth 100000 in
set_option maxHeartbeats 4000000 in
theorem usame_c (x y : Te) (vx vy : Value) (w : World) (hx : TeV w x vx) (hy : TeV w y vy) (hbx : Ex.bulk.bulks x.l ≤ 1073741824) (hby : Ex.bulk.bulks y.l ≤ 1073741824) : Calls Tryz.prog 26 #[vx, vy] w (RetBel (.bool (sameT x y)) w) := by
  obtain ⟨a, n, c, rfl, hn, hc, hp⟩ := hx
  obtain ⟨a', n', c', rfl, hn', hc', hp'⟩ := hy
  have HEF := Lib.hid (fun W (hW : Bel w W) => same_list x.l y.l a a' n c n' c' W hn hn' (by have := bulks_len x.l; omega) (by have := bulks_len y.l; omega) (ex_mem_bulk hbx) (ex_mem_bulk hby) (hp.bel hW) (hp'.bel hW))
  obtain ⟨xa, xn, xl⟩ := x
  obtain ⟨ya, yn, yl⟩ := y
  unfold sameT
  dsimp only at *
  obtain ⟨q, hq⟩ : ∃ q, samesE xl yl = q := ⟨_, rfl⟩
  rw [hq] at HEF ⊢
  clear hq hp hp' hn hn' hbx hby
  cases xa <;> cases ya <;> cases xn <;> cases yn
  all_goals
    go_enter Tryz.func26, Tryz.ntmps26
    go_wp2_with (go_at_call 54; refine (HEF.out _ ((Bel.alloc _ _).trans (Bel.alloc _ _))).mono ?_; rintro e1 w1 ⟨rfl, hb1⟩)
    go_ret
    first
      | exact ⟨ret_bool (by simp), ((Bel.alloc _ _).trans (Bel.alloc _ _)).trans (by assumption)⟩
      | exact ⟨ret_bool (by simp), (Bel.alloc _ _).trans (Bel.alloc _ _)⟩
set_option maxRecDepth 100000 in
set_option maxHeartbeats 4000000 in
theorem rusame_c (x y : Ru) (vx vy : Value) (w : World) (hx : RuV w x vx) (hy : RuV w y vy) (hbx : x.bulk ≤ 1073741824) (hby : y.bulk ≤ 1073741824) : Calls Tryz.prog 57 #[vx, vy] w (RetBel (.bool (sameR x y)) w) := by
  obtain ⟨a, n, c, b, m, d, rfl, hn, hc, hp, hm, hd, hr⟩ := hx
  obtain ⟨a', n', c', b', m', d', rfl, hn', hc', hp', hm', hd', hr'⟩ := hy
  unfold Ru.bulk at hbx hby
  have hen := enters_of Tryz.func26 (by kernel_rfl) rfl
  have HET := Lib.hid (fun W (hW : Bel w W) => equalT_c x.ins y.ins a a' n c n' c' 26 sameT W hen hn hn' (by have := tbulks_len x.ins; omega) (by have := tbulks_len y.ins; omega) (hp.bel hW) (hp'.bel hW) (fun s hs t ht vs vt wr _ h1 h2 =>
    usame_c s t vs vt wr h1 h2 (by have := tbulks_mem hs; unfold Te.bulk at this; omega) (by have := tbulks_mem ht; unfold Te.bulk at this; omega)))
  have HEX := Lib.hid (fun W (hW : Bel w W) => same_list x.out y.out b b' m d m' d' W hm hm' (by have := bulks_len x.out; omega) (by have := bulks_len y.out; omega) (ex_mem_bulk (by omega)) (ex_mem_bulk (by omega)) (hr.bel hW) (hr'.bel hW))
  unfold sameR
  rw [samesT_all]
  obtain ⟨q1, hq1⟩ : ∃ q, all2 sameT x.ins y.ins = q := ⟨_, rfl⟩
  obtain ⟨q2, hq2⟩ : ∃ q, samesE x.out y.out = q := ⟨_, rfl⟩
  rw [hq1] at HET ⊢
  rw [hq2] at HEX ⊢
  have ta := (Blk.new w 108 [.slice a n c, .slice b m d]).bel (Bel.alloc _ (.cells #[.slice a' n' c', .slice b' m' d'] 108))
  have tb := Blk.new (w.alloc (.cells #[.slice a n c, .slice b m d] 108)) 108 [.slice a' n' c', .slice b' m' d']
  rw [World.size_alloc] at tb
  have TA := Lib.hid ta
  have TB := Lib.hid tb
  clear hq1 hq2 hp hp' hr hr' hn hn' hm hm' hbx hby ta tb
  go_enter Tryz.func57, Tryz.ntmps57
  go_wp2_with fail
  refine (HET.out _ ((Bel.alloc _ _).trans (Bel.alloc _ _))).mono ?_
  rintro e1 w1 ⟨rfl, hb1⟩
  have z1 := (TA.out.bel hb1).at 1
  have z2 := (TB.out.bel hb1).at 1
  have HB1 := Lib.hid (((Bel.alloc w (.cells #[.slice a n c, .slice b m d] 108)).trans (Bel.alloc _ (.cells #[.slice a' n' c', .slice b' m' d'] 108))).trans hb1)
  clear hb1 TA TB HET
  cases q1 with
  | false =>
    go_wp2_with fail
    go_ret
    exact ⟨rfl, HB1.out⟩
  | true =>
    go_wp2_with fail
    refine (HEX.out _ HB1.out).mono ?_
    rintro e2 w2 ⟨rfl, hb2⟩
    go_wp2_with fail
    go_ret
    exact ⟨ret_bool (by simp), HB1.out.trans hb2⟩
set_option maxRecDepth 100000 in
set_option maxHeartbeats 16000000 in
theorem same_l : ∀ (n : Nat) (a : Lg), a.bulk ≤ n → n ≤ 1073741824 → ∀ (b : Lg) (qa qb : LgQ) (w : World), b.bulk ≤ 1073741824 → LgAt w a qa → LgAt w b qb →
    Calls Tryz.prog 30 #[lgV a qa, lgV b qb] w (RetBel (.bool (sameL a b)) w) := by
  intro n
  induction n with
  | zero => intro e he; exfalso; have := lbulk_pos e; omega
  | succ n ih =>
    intro a ha hn b qa qb w hb hat1 hat2
    have hba := lbulk_eq a
    have hbb := lbulk_eq b
    obtain ⟨xnea, xnen, xnec, xlea, xlen, xlec, xia, xim, xic, xoa, xom, xoc, xra, xrm, xrc, xna, xnm, xnc, xla, xlm, xlc, rfl, ⟨xhim, xhom, xhrm, xhnm, xhlm⟩, ⟨xhci, xhco, xhcr, xhcn, xhcl⟩, ⟨xhbi, xhbo, xhbr, xhbn, xhbl⟩, xhex, xhpi, xhpo, xhpr, xhpn, xhpl⟩ := LgAt.opened hat1
    obtain ⟨ynea, ynen, ynec, ylea, ylen, ylec, yia, yim, yic, yoa, yom, yoc, yra, yrm, yrc, yna, ynm, ync, yla, ylm, ylc, rfl, ⟨yhim, yhom, yhrm, yhnm, yhlm⟩, ⟨yhci, yhco, yhcr, yhcn, yhcl⟩, ⟨yhbi, yhbo, yhbr, yhbn, yhbl⟩, yhex, yhpi, yhpo, yhpr, yhpn, yhpl⟩ := LgAt.opened hat2
    unfold lgV
    dsimp only
    have henR := enters_of Tryz.func57 (by kernel_rfl) rfl
    have henL := enters_of Tryz.func30 (by kernel_rfl) rfl
    have HE := Lib.hid (fun W (hW : Bel w W) => same_e a.e.bulk a.e (Nat.le_refl _) (by omega) b.e _ _ _ _ W (by omega) (ExAt.bel hW _ xhex) (ExAt.bel hW _ yhex))
    have HI := Lib.hid (fun W (hW : Bel w W) => same_list a.ins b.ins xia yia xim xic yim yic W xhim yhim (by omega) (by omega) (ex_mem_bulk (by omega)) (ex_mem_bulk (by omega)) (xhpi.bel hW) (yhpi.bel hW))
    have HO := Lib.hid (fun W (hW : Bel w W) => equal_c a.outs b.outs xoa yoa xom xoc yom yoc W xhom yhom (by omega) (by omega) (xhpo.bel hW) (yhpo.bel hW))
    have HN := Lib.hid (fun W (hW : Bel w W) => equal_c a.ns b.ns xna yna xnm xnc ynm ync W xhnm yhnm (by omega) (by omega) (xhpn.bel hW) (yhpn.bel hW))
    have HRU := Lib.hid (fun W (hW : Bel w W) => equalR_c a.rs b.rs xra yra xrm xrc yrm yrc 57 sameR W henR xhrm yhrm (by omega) (by omega) (xhpr.bel hW) (yhpr.bel hW) (fun s hs t ht vs vt wr _ h1 h2 =>
      rusame_c s t vs vt wr h1 h2 (by have := rbulks_mem hs; omega) (by have := rbulks_mem ht; omega)))
    have HLG := Lib.hid (fun W (hW : Bel w W) => equalL_c a.l b.l xla yla xlm xlc ylm ylc 30 sameL W henL xhlm yhlm (by omega) (by omega) (xhpl.bel hW) (yhpl.bel hW) (fun s hs t ht vs vt wr _ h1 h2 => by
      obtain ⟨q1, rfl, g1⟩ := h1
      obtain ⟨q2, rfl, g2⟩ := h2
      exact ih s (by have := lbulks_mem hs; omega) (by omega) t q1 q2 wr (by have := lbulks_mem ht; omega) g1 g2))
    have hR : sameL a b = ((a.k == b.k) && ((a.p.toList == b.p.toList) && (sameE a.e b.e && (samesE a.ins b.ins && (decide (a.outs = b.outs) && (decide (a.ns = b.ns) && (all2 sameR a.rs b.rs && all2 sameL a.l b.l))))))) := by
      obtain ⟨k, e, p, ins, outs, rs, ns, l⟩ := a
      obtain ⟨k', e', p', ins', outs', rs', ns', l'⟩ := b
      rw [beq_texts, ← samesR_all, ← samesL_all]
      unfold sameL
      rfl
    obtain ⟨k1, hk1⟩ : ∃ k, a.k = k := ⟨_, rfl⟩
    obtain ⟨k2, hk2⟩ : ∃ k, b.k = k := ⟨_, rfl⟩
    obtain ⟨p1, hp1⟩ : ∃ k, a.p = k := ⟨_, rfl⟩
    obtain ⟨p2, hp2⟩ : ∃ k, b.p = k := ⟨_, rfl⟩
    rw [hR, hk1, hk2, hp1, hp2]
    obtain ⟨q1, hq1⟩ : ∃ q, (k1 == k2) = q := ⟨_, rfl⟩
    obtain ⟨q2, hq2⟩ : ∃ q, (p1.toList == p2.toList) = q := ⟨_, rfl⟩
    obtain ⟨q3, hq3⟩ : ∃ q, sameE a.e b.e = q := ⟨_, rfl⟩
    obtain ⟨q4, hq4⟩ : ∃ q, samesE a.ins b.ins = q := ⟨_, rfl⟩
    obtain ⟨q5, hq5⟩ : ∃ q, decide (a.outs = b.outs) = q := ⟨_, rfl⟩
    obtain ⟨q6, hq6⟩ : ∃ q, decide (a.ns = b.ns) = q := ⟨_, rfl⟩
    obtain ⟨q7, hq7⟩ : ∃ q, all2 sameR a.rs b.rs = q := ⟨_, rfl⟩
    obtain ⟨q8, hq8⟩ : ∃ q, all2 sameL a.l b.l = q := ⟨_, rfl⟩
    rw [hq3] at HE
    rw [hq4] at HI
    rw [hq5] at HO
    rw [hq6] at HN
    rw [hq7] at HRU
    rw [hq8] at HLG
    rw [hq1, hq2, hq3, hq4, hq5, hq6, hq7, hq8]
    obtain ⟨V1, h1, m1, l1, s1⟩ := alloc_step w 42 [.int .i64 k1, .int .i64 a.e.k, .string a.e.s, .slice xnea xnen xnec, .slice xlea xlen xlec, .string p1, .slice xia xim xic, .slice xoa xom xoc, .slice xra xrm xrc, .slice xna xnm xnc, .slice xla xlm xlc]
    obtain ⟨V2, h2, m2, l2, s2⟩ := alloc_step V1 42 [.int .i64 k2, .int .i64 b.e.k, .string b.e.s, .slice ynea ynen ynec, .slice ylea ylen ylec, .string p2, .slice yia yim yic, .slice yoa yom yoc, .slice yra yrm yrc, .slice yna ynm ync, .slice yla ylm ylc]
    rw [s1] at m2
    have TA := Lib.hid (m1.bel l2)
    have TB := Lib.hid m2
    have HB := Lib.hid (l1.trans l2)
    have HV1 := Lib.hid h1
    have HV2 := Lib.hid h2
    have hsv : V1.heap.size = w.heap.size + 1 := s1
    have HSV := Lib.hid hsv
    have c0 := TA.out.at 0
    have d0 := TB.out.at 0
    have c5 := TA.out.at 5
    have d5 := TB.out.at 5
    have c1 := TA.out.at 1
    have d1 := TB.out.at 1
    have c2 := TA.out.at 2
    have d2 := TB.out.at 2
    have c3 := TA.out.at 3
    have d3 := TB.out.at 3
    have c4 := TA.out.at 4
    have d4 := TB.out.at 4
    clear ih hba hbb hat1 hat2 xhim xhom xhrm xhnm xhlm xhex xhpi xhpo xhpr xhpn xhpl yhim yhom yhrm yhnm yhlm yhex yhpi yhpo yhpr yhpn yhpl hR hk1 hk2 hp1 hp2 hq3 hq4 hq5 hq6 hq7 hq8 h1 h2 m1 m2 l1 l2 s1 s2 hsv
    go_enter Tryz.func30, Tryz.ntmps30
    go_upto_region 1 with fail
    rw [show w.alloc (.cells #[.int .i64 k1, .int .i64 a.e.k, .string a.e.s, .slice xnea xnen xnec, .slice xlea xlen xlec, .string p1, .slice xia xim xic, .slice xoa xom xoc, .slice xra xrm xrc, .slice xna xnm xnc, .slice xla xlm xlc] 42) = V1 from HV1.out, show V1.alloc (.cells #[.int .i64 k2, .int .i64 b.e.k, .string b.e.s, .slice ynea ynen ynec, .slice ylea ylen ylec, .string p2, .slice yia yim yic, .slice yoa yom yoc, .slice yra yrm yrc, .slice yna ynm ync, .slice yla ylm ylc] 42) = V2 from HV2.out]
    clear HV1 HV2 HSV
    cases q1 with
    | false =>
      go_wp2_with fail
      go_ret
      exact ⟨ret_bool (by simp), HB.out⟩
    | true =>
    cases q2 with
    | false =>
      go_wp2_with fail
      go_ret
      exact ⟨ret_bool (by simp), HB.out⟩
    | true =>
    go_wp2_with fail
    refine (HE.out _ HB.out).mono ?_
    rintro e3 w3 ⟨rfl, hb3⟩
    have TA3 := Lib.hid (TA.out.bel hb3)
    have TB3 := Lib.hid (TB.out.bel hb3)
    have c6 := TA3.out.at 6
    have d6 := TB3.out.at 6
    have HB3 := Lib.hid (HB.out.trans hb3)
    clear hb3 HE c0 d0 c5 d5 c1 d1 c2 d2 c3 d3 c4 d4 TA TB
    cases q3 with
    | false =>
      go_wp2_with fail
      go_ret
      exact ⟨ret_bool (by simp), HB3.out⟩
    | true =>
    go_wp2_with fail
    refine (HI.out _ HB3.out).mono ?_
    rintro e4 w4 ⟨rfl, hb4⟩
    have TA4 := Lib.hid (TA3.out.bel hb4)
    have TB4 := Lib.hid (TB3.out.bel hb4)
    have c7 := TA4.out.at 7
    have d7 := TB4.out.at 7
    have HB4 := Lib.hid (HB3.out.trans hb4)
    clear hb4 HI TA3 TB3 c6 d6
    cases q4 with
    | false =>
      go_wp2_with fail
      go_ret
      exact ⟨ret_bool (by simp), HB4.out⟩
    | true =>
    go_wp2_with fail
    refine (HO.out _ HB4.out).mono ?_
    rintro e5 w5 ⟨rfl, hb5⟩
    have TA5 := Lib.hid (TA4.out.bel hb5)
    have TB5 := Lib.hid (TB4.out.bel hb5)
    have c9 := TA5.out.at 9
    have d9 := TB5.out.at 9
    have HB5 := Lib.hid (HB4.out.trans hb5)
    clear hb5 HO TA4 TB4 c7 d7
    cases q5 with
    | false =>
      go_wp2_with fail
      go_ret
      exact ⟨ret_bool (by simp), HB5.out⟩
    | true =>
    go_wp2_with fail
    refine (HN.out _ HB5.out).mono ?_
    rintro e6 w6 ⟨rfl, hb6⟩
    have TA6 := Lib.hid (TA5.out.bel hb6)
    have TB6 := Lib.hid (TB5.out.bel hb6)
    have c8 := TA6.out.at 8
    have d8 := TB6.out.at 8
    have HB6 := Lib.hid (HB5.out.trans hb6)
    clear hb6 HN TA5 TB5 c9 d9
    cases q6 with
    | false =>
      go_wp2_with fail
      go_ret
      exact ⟨ret_bool (by simp), HB6.out⟩
    | true =>
    go_wp2_with fail
    refine (HRU.out _ HB6.out).mono ?_
    rintro e7 w7 ⟨rfl, hb7⟩
    have TA7 := Lib.hid (TA6.out.bel hb7)
    have TB7 := Lib.hid (TB6.out.bel hb7)
    have c10 := TA7.out.at 10
    have d10 := TB7.out.at 10
    have HB7 := Lib.hid (HB6.out.trans hb7)
    clear hb7 HRU TA6 TB6 c8 d8
    cases q7 with
    | false =>
      go_wp2_with fail
      go_ret
      exact ⟨ret_bool (by simp), HB7.out⟩
    | true =>
    go_wp2_with fail
    refine (HLG.out _ HB7.out).mono ?_
    rintro e8 w8 ⟨rfl, hb8⟩
    have HB8 := Lib.hid (HB7.out.trans hb8)
    clear hb8 HLG TA7 TB7 c10 d10
    go_wp2_with fail
    go_ret
    exact ⟨ret_bool (by simp), HB8.out⟩
end Go.Proofs.YtbcdbefogfmhfaaGreatDoor
