/-
  logic's laws: what all of them begin with: which logics are more than are looked at; the document's example.
-/
import Derived.Test.YtchbhcjhoocjaaaGreatDoorRLB
import Derived.Test.YtchbhcjhoocjaaaGreatDoorLGJ
import Derived.Test.YtchbhcjhoocjaaaGreatDoorLGG
import Derived.Test.YtchbhcjhoocjaaaGreatDoorRG
namespace Go.Proofs.YtchbhcjhoocjaaaGreatDoor
open Go.RowKit Go.Shelf

def greatL (l : Lg) : Bool := decide (5000 < l.bulk)
theorem greatL_false {l : Lg} (h : greatL l = false) : l.bulk ≤ 5000 := by unfold greatL at h; simpa using h
set_option maxRecDepth 100000 in
set_option maxHeartbeats 4000000 in
theorem lgreat_c (l : List Lg) (a : Option Addr) (n c : Nat) (w : World) (hn : l.length = n) (hn2 : n ≤ 1073741824) (hps : KidsAt w a l) (hbk : ∀ x ∈ l, x.bulk ≤ 1073741824) :
    Calls Tryz.prog 13 #[.slice a n c] w (RetBel (.int .i64 (oneIf (l.any greatL))) w) := by
  obtain ⟨R, hR⟩ : ∃ R, l.any greatL = R := ⟨_, rfl⟩
  rw [hR]
  have HR := Lib.hid hR
  have HM := Lib.hid hn
  have PS := Lib.hid hps
  have HBK := Lib.hid hbk
  clear hR hn hps hbk
  go_enter Tryz.func13, Tryz.ntmps13
  go_wp2_with fail
  go_loopw [7] (fun i wr => ∃ j : Nat, j ≤ n ∧ i = .int .i64 j ∧ Bel w wr ∧ (l.drop j).any greatL = R) (fun i _ => n - (intOf i).toNat)
  case atStart => exact ⟨0, Nat.zero_le _, rfl, Bel.refl _, HR.out⟩
  case round =>
    obtain ⟨j, hj, rfl, hbel, hck⟩ := hrel
    by_cases hlt : j < n
    · have hlti : (j : Int) < n := by omega
      obtain ⟨x, hx⟩ : ∃ x, l[j]? = some x := ⟨_, List.getElem?_eq_getElem (by have := HM.out; omega)⟩
      obtain ⟨b, off, xq, rfl, hxc, hxa⟩ := PS.out j x hx
      have g1 := hxc.bel hbel
      have HC := Lib.hid (fun W (hW : Bel w W) => rcountL_c x.bulk x (Nat.le_refl _) (HBK.out x (List.mem_of_getElem? hx)) xq W 5000 (by omega) (by omega) (LgAt.bel hW x hxa))
      have hxb := HBK.out x (List.mem_of_getElem? hx)
      obtain ⟨xnea, xnen, xnec, xlea, xlen, xlec, xia, xim, xic, xoa, xom, xoc, xra, xrm, xrc, xna, xnm, xnc, xla, xlm, xlc, rfl, ⟨xhim, xhom, xhrm, xhnm, xhlm⟩, ⟨xhci, xhco, xhcr, xhcn, xhcl⟩, ⟨xhbi, xhbo, xhbr, xhbn, xhbl⟩, xhex, xhpi, xhpo, xhpr, xhpn, xhpl⟩ := LgAt.opened hxa
      unfold lgV at HC
      dsimp only at HC
      have f0 := CellsAt.get0 g1
      have f1 := CellsAt.get g1 1 rfl
      have f2 := CellsAt.get g1 2 rfl
      have f3 := CellsAt.get g1 3 rfl
      have f4 := CellsAt.get g1 4 rfl
      have f5 := CellsAt.get g1 5 rfl
      have f6 := CellsAt.get g1 6 rfl
      have f7 := CellsAt.get g1 7 rfl
      have f8 := CellsAt.get g1 8 rfl
      have f9 := CellsAt.get g1 9 rfl
      have f10 := CellsAt.get g1 10 rfl
      rw [drop_cons hx, List.any_cons] at hck
      unfold greatL at hck
      obtain ⟨B, hB⟩ : ∃ B, x.bulk = B := ⟨_, rfl⟩
      rw [hB] at HC hck hxb
      have HCK := Lib.hid hck
      have HBL := Lib.hid hbel
      clear hxc g1 hxa hx hck hB hbel xhim xhom xhrm xhnm xhlm xhex xhpi xhpo xhpr xhpn xhpl xhbi xhbo xhbr xhbn xhbl
      go_wp2_with fail
      refine (HC.out _ (HBL.out.to_alloc _)).mono ?_
      rintro e2 w2 ⟨d, rfl, hd, hb2⟩
      have HB2 := Lib.hid (HBL.out.trans ((Bel.alloc _ _).trans hb2))
      have hd1 := hd.1
      have hd2 := hd.2
      clear hb2 HC hd
      by_cases hg : 5000 < B
      · have hdi : (5000 : Int) < d := by omega
        have HF : Hid (true = R) := Lib.hid (by have := HCK.out; rw [decide_eq_true hg] at this; simpa using this)
        clear HCK hd1 hd2
        go_wp2_with fail
        go_ret
        exact ⟨by rw [← HF.out]; rfl, HB2.out⟩
      · have hdi : ¬ (5000 : Int) < d := by omega
        have HF : Hid ((l.drop (j + 1)).any greatL = R) := Lib.hid (by have := HCK.out; rw [decide_eq_false hg, Bool.false_or] at this; exact this)
        clear HCK hd1 hd2
        go_wp2_with fail
        exact ⟨⟨j + 1, by omega, by go_num, HB2.out, HF.out⟩, by simp [intOf]; omega⟩
    · obtain rfl : j = n := by omega
      rw [drop_end (by have := HM.out; omega)] at hck
      have hck : false = R := hck
      subst hck
      go_wp2_with fail
      go_ret
      exact ⟨rfl, hbel⟩
set_option maxRecDepth 100000 in
set_option maxHeartbeats 4000000 in
theorem lsame_c (l1 l2 : List ByteArray) (a1 a2 : Option Addr) (n1 c1 n2 c2 : Nat) (w : World) (h1 : l1.length = n1) (h2 : l2.length = n2) (hn1 : n1 ≤ 1073741824) (hn2 : n2 ≤ 1073741824) (hs1 : NamesAt w a1 l1) (hs2 : NamesAt w a2 l2) :
    Calls Tryz.prog 16 #[.slice a1 n1 c1, .slice a2 n2 c2] w (RetBel (.bool (decide (l1 = l2))) w) := by
  have H1 := Lib.hid h1
  have H2 := Lib.hid h2
  have S1 := Lib.hid hs1
  have S2 := Lib.hid hs2
  obtain ⟨R, hR⟩ : ∃ R, decide (l1 = l2) = R := ⟨_, rfl⟩
  rw [hR]
  have HR := Lib.hid hR
  clear hR h1 h2 hs1 hs2
  by_cases he : n1 = n2
  · subst he
    go_enter Tryz.func16, Tryz.ntmps16
    go_wp2_with fail
    go_loopw [13] (fun i wr => ∃ k : Nat, k ≤ n1 ∧ i = .int .i64 k ∧ Bel w wr ∧ l1.take k = l2.take k) (fun i _ => n1 - (intOf i).toNat)
    case atStart => exact ⟨0, Nat.zero_le _, rfl, Bel.refl _, by simp⟩
    case round =>
      obtain ⟨k, hk, rfl, hbel, htk⟩ := hrel
      by_cases hkn : k < n1
      · have hki : (k : Int) < n1 := by omega
        obtain ⟨x, hx⟩ : ∃ x, l1[k]? = some x := ⟨_, List.getElem?_eq_getElem (by have := H1.out; omega)⟩
        obtain ⟨y, hy⟩ : ∃ y, l2[k]? = some y := ⟨_, List.getElem?_eq_getElem (by have := H2.out; omega)⟩
        obtain ⟨b1, o1, rfl, hc1⟩ := S1.out k x hx
        obtain ⟨b2, o2, rfl, hc2⟩ := S2.out k y hy
        have d1 := hbel.keep hc1
        have d2 := hbel.keep hc2
        have HX := Lib.hid hx
        have HY := Lib.hid hy
        have HT := Lib.hid htk
        clear hx hy htk hc1 hc2
        go_wp2_with fail
        go_quiet (fail)
        go_wp2_with fail
        · have hxy : (!x.toList == y.toList) = true := by assumption
          go_ret
          have hr : R = false := by
            rw [← HR.out]
            refine decide_eq_false (fun h => ?_)
            subst h
            have h2 := HX.out.symm.trans HY.out
            injection h2 with h2
            rw [h2] at hxy
            simp at hxy
          exact ⟨ret_bool hr.symm, hbel.to_drewN nq⟩
        · have hxy : (!x.toList == y.toList) = false := by assumption
          have h2 : x = y := toList_eq (by simpa using hxy)
          exact ⟨⟨k + 1, by omega, by go_num, hbel.to_drewN nq, take_eq_snoc HT.out HX.out (by rw [h2]; exact HY.out)⟩, by simp [intOf]; omega⟩
      · obtain rfl : k = n1 := by omega
        have hr : R = true := by
          rw [← HR.out]
          exact decide_eq_true (names_eq H1.out H2.out htk)
        subst hr
        clear HR htk
        go_wp2_with fail
        go_ret
        exact ⟨rfl, hbel⟩
  · have hf : R = false := by
      rw [← HR.out]
      simp
      intro e
      rw [e] at H1
      have := H1.out
      have := H2.out
      omega
    subst hf
    have e1 : ((n1 : Int) == n2) = false := by simp; omega
    have e2 : ((n1 : Int) != n2) = true := by simp; omega
    clear he
    go_enter Tryz.func16, Tryz.ntmps16
    go_wp2_with fail
    go_ret
    exact ⟨rfl, by (repeat (first | exact Bel.refl _ | assumption | refine Bel.to_drewN ?_ _ | refine Bel.to_drew ?_ | refine Bel.to_setCell ?_ (by first | exact Nat.le_refl _ | (simp; done) | (simp; omega) | omega) _ | refine Bel.to_alloc ?_ _ | refine Bel.trans ?_ (by assumption)))⟩

/-! The policies, one by one. -/
def polF (j : Nat) : Str := ⟨polS.getD j ⟨#[]⟩, by
  unfold polS maxLen
  match j with
  | 0 => decide
  | 1 => decide
  | 2 => decide
  | 3 => decide
  | 4 => decide
  | 5 => decide
  | 6 => decide
  | j + 7 => exact Nat.zero_le _⟩
def polA : Value := .agg #[.string ⟨#[65, 78, 89]⟩, .string ⟨#[67, 79, 76, 76, 69, 67, 84]⟩, .string ⟨#[70, 73, 82, 83, 84]⟩, .string ⟨#[79, 85, 84, 80, 85, 84, 32, 79, 82, 68, 69, 82]⟩, .string ⟨#[80, 82, 73, 79, 82, 73, 84, 89]⟩, .string ⟨#[82, 85, 76, 69, 32, 79, 82, 68, 69, 82]⟩, .string ⟨#[85, 78, 73, 81, 85, 69]⟩]

attribute [local go_sem] Oper.semAt_some
theorem pol_cell {W : World} (h : PolAt W) (j : Nat) (x : ByteArray) (hx : polS[j]? = some x) : W.cell? ⟨0, j, none⟩ = some (.string x) := by
  obtain ⟨b, off, e, hc⟩ := h j x hx
  cases e
  rwa [Nat.zero_add] at hc
set_option maxRecDepth 100000 in
set_option maxHeartbeats 8000000 in
theorem pol_iter (n : Nat) (hn : 1 ≤ n) (l : Nat) (J : List Str → World → Prop) (W : World) (hP : PolAt W) (h0 : J [] W)
    (hY : ∀ pre x W, J pre W → pre.length < 7 → YieldAt Fence.wide (n - 1) Tryz.prog l #[.string x.1] W fun e W' => e = .returned (.bool true) ∧ J (pre ++ [x]) W') :
    CallsIn Fence.wide n Tryz.prog 71 #[.func (.yield l) #[] #[]] W fun e W' => (∃ v, e = .returned v) ∧ J (upto polF 7) W' := by
  have c0 := pol_cell hP 0 _ rfl
  have c1 := pol_cell hP 1 _ rfl
  have c2 := pol_cell hP 2 _ rfl
  have c3 := pol_cell hP 3 _ rfl
  have c4 := pol_cell hP 4 _ rfl
  have c5 := pol_cell hP 5 _ rfl
  have c6 := pol_cell hP 6 _ rfl
  have i0 : ∀ w, (Instr.index 94 polA (.int .i64 0)).run Tryz.prog w = .ok (.string (polF 0).1) w := fun _ => by kernel_rfl
  have i1 : ∀ w, (Instr.index 94 polA (.int .i64 1)).run Tryz.prog w = .ok (.string (polF 1).1) w := fun _ => by kernel_rfl
  have i2 : ∀ w, (Instr.index 94 polA (.int .i64 2)).run Tryz.prog w = .ok (.string (polF 2).1) w := fun _ => by kernel_rfl
  have i3 : ∀ w, (Instr.index 94 polA (.int .i64 3)).run Tryz.prog w = .ok (.string (polF 3).1) w := fun _ => by kernel_rfl
  have i4 : ∀ w, (Instr.index 94 polA (.int .i64 4)).run Tryz.prog w = .ok (.string (polF 4).1) w := fun _ => by kernel_rfl
  have i5 : ∀ w, (Instr.index 94 polA (.int .i64 5)).run Tryz.prog w = .ok (.string (polF 5).1) w := fun _ => by kernel_rfl
  have i6 : ∀ w, (Instr.index 94 polA (.int .i64 6)).run Tryz.prog w = .ok (.string (polF 6).1) w := fun _ => by kernel_rfl
  refine callsIn_of_wp Tryz.func71 rfl trivial ?_ rfl
  simp only [Tryz.ntmps71, List.size_toArray, List.length_cons, List.length_nil, Nat.reduceAdd, Nat.reduceSub, Array.replicate_succ, Array.replicate_zero, List.push_toArray, List.append_toArray, List.nil_append, List.cons_append]
  unfold polA at i0 i1 i2 i3 i4 i5 i6
  gi_wp2
  clear c0 c1 c2 c3 c4 c5 c6
  gi_loopw [5] (fun i wr => ∃ k : Nat, k ≤ 7 ∧ i = .int .i64 k ∧ J (upto polF k) wr) (fun i _ => 7 - (intOf i).toNat)
  case atStart => exact ⟨0, Nat.zero_le _, rfl, h0⟩
  case round =>
    obtain ⟨k, hk, rfl, hJ⟩ := hrel
    by_cases hlt : k < 7
    · obtain ⟨fn, tmps, assign, body, hy, hR⟩ := hY _ (polF k) wr hJ (by rw [upto_length]; exact hlt)
      have HJS := Lib.hid (fun W (h : J (upto polF k ++ [polF k]) W) => show J (upto polF (k + 1)) W by rw [upto_succ]; exact h)
      have hcase : k = 0 ∨ k = 1 ∨ k = 2 ∨ k = 3 ∨ k = 4 ∨ k = 5 ∨ k = 6 := by omega
      clear hlt hk
      rcases hcase with rfl | rfl | rfl | rfl | rfl | rfl | rfl
      all_goals
        gi_wp2
        refine hR.mono ?_
        rintro e W3 ⟨rfl, hJ3⟩
        gi_wp2
        go_roundw
        case rel => exact ⟨_, by decide, rfl, HJS.out _ hJ3⟩
        case measure => simp [intOf]
    · obtain rfl : k = 7 := by omega
      gi_wp2
      go_end0
      exact ⟨⟨_, rfl⟩, hJ⟩
end Go.Proofs.YtchbhcjhoocjaaaGreatDoor
