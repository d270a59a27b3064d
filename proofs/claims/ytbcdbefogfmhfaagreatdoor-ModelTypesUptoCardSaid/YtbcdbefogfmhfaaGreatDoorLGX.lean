/-
  logic: the walks of what is asked of a logic: its depth, its names, its expressions, its tests.
  logic: the walks of what is wrong with one.
  logic: the walks of what is wrong with one: its rules, all of it.
-/
import Derived.Test.YtbcdbefogfmhfaaGreatDoorLGA
namespace Go.Proofs.YtbcdbefogfmhfaaGreatDoor
open Go.RowKit
/-- The place of the first one; -1: there is none. -/
def idxL (p : Lg → Bool) : Nat → List Lg → Int
  | _, [] => -1
  | k, x :: l => if p x = true then k else idxL p (k + 1) l
theorem idxL_any (p : Lg → Bool) : ∀ (l : List Lg) (k : Nat), decide (0 ≤ idxL p k l) = l.any p
  | [], _ => rfl
  | x :: l, k => by
    unfold idxL
    by_cases h : p x = true
    · rw [if_pos h]; simp [h]
    · rw [if_neg h, idxL_any p l (k + 1)]; simp [h]
theorem idxL_drop (p : Lg → Bool) (l : List Lg) (i k : Nat) (x : Lg) (h : l[i]? = some x) : idxL p k (l.drop i) = if p x = true then (k : Int) else idxL p (k + 1) (l.drop (i + 1)) := by
  obtain ⟨hi, hx⟩ := List.getElem?_eq_some_iff.1 h
  rw [List.drop_eq_getElem_cons hi, hx]; rfl
set_option maxRecDepth 100000 in
set_option maxHeartbeats 4000000 in
theorem indexL_c (l : List Lg) (r : Lg → Bool) (la : Option Addr) (m lc pb : Nat) (w : World) (hm : l.length = m) (hl : m ≤ 1073741824) (hps : KidsAt w la l)
    (hcall : ∀ x ∈ l, ∀ q wr, Bel w wr → LgAt wr x q → Calls Tryz.prog 71 #[lgV x q, .pointer (some ⟨pb, 0, none⟩)] wr (RetBel (.bool (r x)) wr)) :
    Calls Tryz.prog 109 #[.slice la m lc, .func (.func 71) #[] #[.pointer (some ⟨pb, 0, none⟩)]] w (RetBel (.int .i64 (idxL r 0 l)) w) := by
  obtain ⟨R, hR⟩ : ∃ R, idxL r 0 l = R := ⟨_, rfl⟩
  rw [hR]
  have HR := Lib.hid hR
  have HM := Lib.hid hm
  have PS := Lib.hid hps
  have HCALL := Lib.hid hcall
  have hen := fun args w1 => enters_of Tryz.func71 (by kernel_rfl) rfl args w1
  clear hR hm hps hcall
  go_enter Tryz.func109, Tryz.ntmps109
  go_wp2_with fail
  go_loopw [8] (fun i wr => ∃ k : Nat, k ≤ m ∧ i = .int .i64 k ∧ Bel w wr ∧ idxL r k (l.drop k) = R) (fun i _ => m - (intOf i).toNat)
  case atStart => exact ⟨0, Nat.zero_le _, rfl, Bel.refl _, HR.out⟩
  case round =>
    obtain ⟨k, hk, rfl, hbel, hix⟩ := hrel
    by_cases hkn : k < m
    · have hki : (k : Int) < m := by omega
      obtain ⟨x, hx⟩ : ∃ x, l[k]? = some x := ⟨_, List.getElem?_eq_getElem (by have := HM.out; omega)⟩
      obtain ⟨b, off, q, rfl, g0, hxa⟩ := PS.out k x hx
      have hc := HCALL.out x (List.mem_of_getElem? hx) _ wr hbel (LgAt.bel hbel x hxa)
      have g1 := g0.bel hbel
      obtain ⟨xnea, xnen, xnec, xlea, xlen, xlec, xia, xim, xic, xoa, xom, xoc, xra, xrm, xrc, xna, xnm, xnc, xla, xlm, xlc, rfl, ⟨xhim, xhom, xhrm, xhnm, xhlm⟩, ⟨xhci, xhco, xhcr, xhcn, xhcl⟩, ⟨xhbi, xhbo, xhbr, xhbn, xhbl⟩, xhex, xhpi, xhpo, xhpr, xhpn, xhpl⟩ := LgAt.opened hxa
      unfold lgV at hc
      dsimp only at hc
      have f0 := CellsAt.get0 g1
      have f1 := CellsAt.get g1 1 rfl
      have f2 := CellsAt.get g1 2 rfl
      have f3 := CellsAt.get g1 3 rfl
      have f4 := CellsAt.get g1 4 rfl
      have f5 := CellsAt.get g1 5 rfl
      have f6 := CellsAt.get g1 6 rfl
      have f7 := CellsAt.get g1 7 rfl
      have f8 := CellsAt.get g1 8 rfl
      have f9 := CellsAt.get g1 9 rfl
      have f10 := CellsAt.get g1 10 rfl
      rw [idxL_drop r l k k x hx] at hix
      have HB := Lib.hid hbel
      have HIX := Lib.hid hix
      obtain ⟨F, hF⟩ : ∃ F, r x = F := ⟨_, rfl⟩
      rw [hF] at hc HIX
      have HC := Lib.hid hc
      clear g0 g1 hxa hc hF hix hx hbel xhim xhom xhrm xhnm xhlm xhex xhpi xhpo xhpr xhpn xhpl
      cases F
      · go_wp2_with ((with_reducible refine HC.out.mono ?_); rintro e w1 ⟨rfl, hb1⟩)
        refine ⟨⟨k + 1, by omega, by go_num, HB.out.trans (by assumption), ?_⟩, by simp [intOf]; omega⟩
        have := HIX.out
        rwa [if_neg (by simp)] at this
      · go_wp2_with ((with_reducible refine HC.out.mono ?_); rintro e w1 ⟨rfl, hb1⟩)
        go_ret
        have := HIX.out
        rw [if_pos trivial] at this
        exact ⟨ret_int this, HB.out.trans (by assumption)⟩
    · obtain rfl : k = m := by omega
      rw [List.drop_of_length_le (by have := HM.out; omega)] at hix
      have HIX := Lib.hid hix
      clear hix
      go_wp2_with fail
      go_ret
      exact ⟨ret_int HIX.out, hbel⟩
set_option maxHeartbeats 400000 in
theorem containsL_c (l : List Lg) (r : Lg → Bool) (la : Option Addr) (m lc pb : Nat) (w : World) (hm : l.length = m) (hl : m ≤ 1073741824) (hps : KidsAt w la l)
    (hcall : ∀ x ∈ l, ∀ q wr, Bel w wr → LgAt wr x q → Calls Tryz.prog 71 #[lgV x q, .pointer (some ⟨pb, 0, none⟩)] wr (RetBel (.bool (r x)) wr)) :
    Calls Tryz.prog 70 #[.slice la m lc, .func (.func 71) #[] #[.pointer (some ⟨pb, 0, none⟩)]] w (RetBel (.bool (l.any r)) w) := by
  have hi := indexL_c l r la m lc pb w hm hl hps hcall
  have hany := idxL_any r l 0
  obtain ⟨R, hR⟩ : ∃ R, idxL r 0 l = R := ⟨_, rfl⟩
  rw [hR] at hi hany
  rw [← hany]
  have HI := Lib.hid hi
  clear hi hany hR hcall hps hm
  go_enter Tryz.func70, Tryz.ntmps70
  go_wp2_with (go_at_call 109; refine HI.out.mono ?_; rintro e w1 ⟨rfl, hb⟩)
  go_ret
  exact ⟨rfl, by assumption⟩
set_option maxRecDepth 100000 in
set_option maxHeartbeats 4000000 in
theorem ldeep1_c (x : Lg) (q : LgQ) (pb : Nat) (T : Int) (h0 : 1 ≤ T) (h1 : T ≤ 1099511627776) (b : Bool) (w : World) (hat : LgAt w x q) (hcell : w.cell? ⟨pb, 0, none⟩ = some (.int .i64 T))
    (hc : ∀ W, Bel w W → Calls Tryz.prog 40 #[lgV x q, .int .i64 (T - 1)] W (RetBel (.bool b) W)) :
    Calls Tryz.prog 71 #[lgV x q, .pointer (some ⟨pb, 0, none⟩)] w (RetBel (.bool b) w) := by
  obtain ⟨xnea, xnen, xnec, xlea, xlen, xlec, xia, xim, xic, xoa, xom, xoc, xra, xrm, xrc, xna, xnm, xnc, xla, xlm, xlc, rfl, ⟨xhim, xhom, xhrm, xhnm, xhlm⟩, ⟨xhci, xhco, xhcr, xhcn, xhcl⟩, ⟨xhbi, xhbo, xhbr, xhbn, xhbl⟩, xhex, xhpi, xhpo, xhpr, xhpn, xhpl⟩ := LgAt.opened hat
  unfold lgV at hc ⊢
  dsimp only at hc ⊢
  have HC := Lib.hid hc
  have hc2 := (Bel.alloc w (.cells #[.int .i64 x.k, .int .i64 x.e.k, .string x.e.s, .slice xnea xnen xnec, .slice xlea xlen xlec, .string x.p, .slice xia xim xic, .slice xoa xom xoc, .slice xra xrm xrc, .slice xna xnm xnc, .slice xla xlm xlc] 42)).keep hcell
  clear hc xhim xhom xhrm xhnm xhlm xhex xhpi xhpo xhpr xhpn xhpl hat
  go_enter Tryz.func71, Tryz.ntmps71
  go_wp2_with (go_at_call 40; refine (HC.out _ (Bel.alloc _ _)).mono ?_; rintro e w1 ⟨rfl, hb⟩)
  go_ret
  exact ⟨rfl, by (repeat (first | exact Bel.refl _ | assumption | refine Bel.to_drewN ?_ _ | refine Bel.to_drew ?_ | refine Bel.to_setCell ?_ (by first | exact Nat.le_refl _ | (simp; done) | (simp; omega) | omega) _ | refine Bel.to_alloc ?_ _ | refine Bel.trans ?_ (by assumption)))⟩
set_option maxRecDepth 100000 in
set_option maxHeartbeats 4000000 in
theorem ldeep_c : ∀ (n : Nat) (l : Lg), l.bulk ≤ n → n ≤ 1073741824 → ∀ (q : LgQ) (w : World) (T : Int), 0 ≤ T → T ≤ 1099511627776 → LgAt w l q →
    Calls Tryz.prog 40 #[lgV l q, .int .i64 T] w (RetBel (.bool (deepL l T.toNat)) w) := by
  intro n
  induction n with
  | zero => intro l hl; exfalso; have := lbulk_pos l; omega
  | succ n ih =>
    intro l hl hn q w T h0 h1 hat
    have hat' := hat
    obtain ⟨nea, nen, nec, lea, len, lec, ia, im, ic, oa, om, oc, ra, rm, rc, na, nm, nc, la, lm, lc, rfl, ⟨him, hom, hrm, hnm, hlm⟩, ⟨hci, hco, hcr, hcn, hcl⟩, ⟨hbi, hbo, hbr, hbn, hbl⟩, hex, hpi, hpo, hpr, hpn, hpl⟩ := LgAt.opened hat
    unfold lgV
    dsimp only
    by_cases hT : T = 0
    · subst hT
      have hr : deepL l (0 : Int).toNat = true := deepL_zero l
      rw [hr]
      clear ih him hom hrm hnm hlm hex hpi hpo hpr hpn hpl hat hr hat'
      go_enter Tryz.func40, Tryz.ntmps40
      go_wp2_with fail
      go_ret
      exact ⟨rfl, by (repeat (first | exact Bel.refl _ | assumption | refine Bel.to_drewN ?_ _ | refine Bel.to_drew ?_ | refine Bel.to_setCell ?_ (by first | exact Nat.le_refl _ | (simp; done) | (simp; omega) | omega) _ | refine Bel.to_alloc ?_ _ | refine Bel.trans ?_ (by assumption)))⟩
    · have hTb : (T == 0) = false := by simpa using hT
      have hr : deepL l T.toNat = l.l.any fun x => deepL x (T - 1).toNat := by
        rw [show T.toNat = (T - 1).toNat + 1 from by omega, deepL_succ]
      rw [hr]
      obtain ⟨W2, hW2⟩ : ∃ W2, (w.alloc (.cells #[.int .i64 l.k, .int .i64 l.e.k, .string l.e.s, .slice nea nen nec, .slice lea len lec, .string l.p, .slice ia im ic, .slice oa om oc, .slice ra rm rc, .slice na nm nc, .slice la lm lc] 42)).alloc (.cells #[.int .i64 T] 3) = W2 := ⟨_, rfl⟩
      have hb2 : Bel w W2 := by rw [← hW2]; exact (Bel.alloc _ _).trans (Bel.alloc _ _)
      have hcell : W2.cell? ⟨w.heap.size + 1, 0, none⟩ = some (.int .i64 T) := by
        rw [← hW2]
        have := (Blk.new (w.alloc (.cells #[.int .i64 l.k, .int .i64 l.e.k, .string l.e.s, .slice nea nen nec, .slice lea len lec, .string l.p, .slice ia im ic, .slice oa om oc, .slice ra rm rc, .slice na nm nc, .slice la lm lc] 42)) 3 [.int .i64 T]).at 0
        rw [World.size_alloc] at this; exact this
      have hcf := containsL_c l.l (fun x => deepL x (T - 1).toNat) la lm lc (w.heap.size + 1) W2 hlm (by omega) (hpl.bel hb2) (fun x hx q wr hbw hxa => by
        obtain ⟨i, hi⟩ := List.getElem?_of_mem hx
        have hxb := lbulk_part hi
        exact ldeep1_c x _ _ T (by omega) (by omega) _ wr hxa (hbw.keep hcell) (fun W hW => ih x (by omega) (by omega) _ W (T - 1) (by omega) (by omega) (LgAt.bel hW x hxa)))
      obtain ⟨B, hB⟩ : ∃ B, (l.l.any fun x => deepL x (T - 1).toNat) = B := ⟨_, rfl⟩
      rw [hB] at hcf ⊢
      subst hW2
      have HCF := Lib.hid hcf
      have HB2 := Lib.hid hb2
      clear ih him hom hrm hnm hlm hex hpi hpo hpr hpn hpl hat hat' hr hcf hcell hb2 hB
      go_enter Tryz.func40, Tryz.ntmps40
      go_wp2_with fail
      refine HCF.out.mono ?_
      rintro e2 w2 ⟨rfl, hb3⟩
      go_wp2_with fail
      go_ret
      exact ⟨rfl, HB2.out.trans hb3⟩
set_option maxRecDepth 100000 in
set_option maxHeartbeats 4000000 in
theorem exprs_c (l : List Ex) (a : Option Addr) (n c : Nat) (w : World) (hE : EnvX w) (hn : l.length = n) (hn2 : n ≤ 1073741824) (hbk : ∀ x ∈ l, x.bulk ≤ 1073741824) (hps : PartsAt w a l) :
    Calls Tryz.prog 78 #[.slice a n c] w (RetBel (.int .i64 (exprsE l)) w) := by
  obtain ⟨R, hR⟩ : ∃ R, exprsE l = R := ⟨_, rfl⟩
  rw [hR]
  unfold exprsE at hR
  have HR := Lib.hid hR
  have HM := Lib.hid hn
  have PS := Lib.hid hps
  have HBK := Lib.hid hbk
  have HE := Lib.hid hE
  clear hR hn hps hbk hE
  go_enter Tryz.func78, Tryz.ntmps78
  go_wp2_with fail
  go_loopw [8] (fun i wr => ∃ j : Nat, j ≤ n ∧ i = .int .i64 j ∧ Bel w wr ∧ nz ((l.drop j).map exprE) = R) (fun i _ => n - (intOf i).toNat)
  case atStart => exact ⟨0, Nat.zero_le _, rfl, Bel.refl _, HR.out⟩
  case round =>
    obtain ⟨j, hj, rfl, hbel, hck⟩ := hrel
    by_cases hlt : j < n
    · have hlti : (j : Int) < n := by omega
      obtain ⟨x, hx⟩ : ∃ x, l[j]? = some x := ⟨_, List.getElem?_eq_getElem (by have := HM.out; omega)⟩
      obtain ⟨b, off, xna, xnn, xnc, xla, xln, xlc, rfl, g0, g1, g2, g3, hxa⟩ := PS.out j x hx
      have f0 := hbel.keep g0
      have f1 := hbel.keep g1
      have f2 := hbel.keep g2
      have f3 := hbel.keep g3
      have HC := Lib.hid (fun W (hW : Bel w W) => check_x x _ _ W (HE.out.bel hW) (HBK.out x (List.mem_of_getElem? hx)) (ExAt.bel hW x hxa))
      rw [nz_map_drop exprE l j x hx] at hck
      rw [show exprE x = if CheckE x = 0 then (if x.k = 19 then 17 else 0) else CheckE x from rfl] at hck
      obtain ⟨k, hk⟩ : ∃ k, CheckE x = k := ⟨_, rfl⟩
      rw [hk] at HC hck
      obtain ⟨b19, hb19⟩ : ∃ b, (x.k == 19) = b := ⟨_, rfl⟩
      rw [show (if x.k = 19 then 17 else 0) = if b19 = true then 17 else 0 from by rw [← hb19]; simp] at hck
      have HB := Lib.hid hbel
      have HCK := Lib.hid hck
      clear g0 g1 g2 g3 hxa hx hck hbel hk
      go_wp2_with fail
      have t0 := Blk.new wr 38 [.int .i64 x.k, .string x.s, .slice xna xnn xnc, .slice xla xln xlc]
      refine (HC.out _ (HB.out.to_alloc _)).mono ?_
      rintro e2 w2 ⟨rfl, hb2⟩
      have c0 := (t0.bel hb2).at 0
      have HB2 := Lib.hid (HB.out.trans ((Bel.alloc _ _).trans hb2))
      clear t0 hb2 HC
      by_cases hk0 : k = 0
      · subst hk0
        cases b19
        · go_wp2_with fail
          exact ⟨⟨j + 1, by omega, by go_num, HB2.out, by have := HCK.out; simpa using this⟩, by simp [intOf]; omega⟩
        · have HF : Hid (17 = R) := Lib.hid (by have := HCK.out; simpa using this)
          clear HCK
          go_wp2_with fail
          go_ret
          exact ⟨ret_int (by rw [← HF.out]; rfl), HB2.out⟩
      · have hc2 : ((k : Int) == 0) = false := by simpa using hk0
        have hc3 : ((k : Int) != 0) = true := by simpa using hk0
        have HF : Hid (k = R) := Lib.hid (by have := HCK.out; simpa [hk0] using this)
        clear hk0 HCK
        go_wp2_with fail
        go_ret
        exact ⟨ret_int (by rw [HF.out]), HB2.out⟩
    · obtain rfl : j = n := by omega
      rw [nz_map_end _ _ _ (by have := HM.out; omega)] at hck
      subst hck
      go_wp2_with fail
      go_ret
      exact ⟨rfl, hbel⟩
set_option maxRecDepth 100000 in
set_option maxHeartbeats 4000000 in
theorem ueach_c (l : List Ex) (a : Option Addr) (n c : Nat) (w : World) (hE : EnvX w) (hn : l.length = n) (hn2 : n ≤ 1073741824) (hbk : ∀ x ∈ l, x.bulk ≤ 1073741824) (hps : PartsAt w a l) :
    Calls Tryz.prog 125 #[.slice a n c, .func (.func 113) #[] #[]] w (RetBel (.int .i64 (nz (l.map CheckE) : Nat)) w) := by
  obtain ⟨R, hR⟩ : ∃ R, nz (l.map CheckE) = R := ⟨_, rfl⟩
  rw [hR]
  have HR := Lib.hid hR
  have HM := Lib.hid hn
  have PS := Lib.hid hps
  have HBK := Lib.hid hbk
  have HE := Lib.hid hE
  have hen := fun args w1 => enters_of Tryz.func113 (by kernel_rfl) rfl args w1
  clear hR hn hps hbk hE
  go_enter Tryz.func125, Tryz.ntmps125
  go_wp2_with fail
  go_loopw [10] (fun i wr => ∃ j : Nat, j ≤ n ∧ i = .int .i64 j ∧ Bel w wr ∧ nz ((l.drop j).map CheckE) = R) (fun i _ => n - (intOf i).toNat)
  case atStart => exact ⟨0, Nat.zero_le _, rfl, Bel.refl _, HR.out⟩
  case round =>
    obtain ⟨j, hj, rfl, hbel, hck⟩ := hrel
    by_cases hlt : j < n
    · have hlti : (j : Int) < n := by omega
      obtain ⟨x, hx⟩ : ∃ x, l[j]? = some x := ⟨_, List.getElem?_eq_getElem (by have := HM.out; omega)⟩
      obtain ⟨b, off, xna, xnn, xnc, xla, xln, xlc, rfl, g0, g1, g2, g3, hxa⟩ := PS.out j x hx
      have f0 := hbel.keep g0
      have f1 := hbel.keep g1
      have f2 := hbel.keep g2
      have f3 := hbel.keep g3
      have HC := Lib.hid (fun W (hW : Bel w W) => check_x x _ _ W (HE.out.bel hW) (HBK.out x (List.mem_of_getElem? hx)) (ExAt.bel hW x hxa))
      rw [nz_map_drop CheckE l j x hx] at hck
      obtain ⟨k, hk⟩ : ∃ k, CheckE x = k := ⟨_, rfl⟩
      rw [hk] at HC hck
      have HB := Lib.hid hbel
      have HCK := Lib.hid hck
      clear g0 g1 g2 g3 hxa hx hck hbel hk
      go_wp2_with fail
      refine (HC.out _ (HB.out.to_alloc _)).mono ?_
      rintro e2 w2 ⟨rfl, hb2⟩
      have HB2 := Lib.hid (HB.out.trans ((Bel.alloc _ _).trans hb2))
      clear hb2 HC
      by_cases hk0 : k = 0
      · subst hk0
        go_wp2_with fail
        exact ⟨⟨j + 1, by omega, by go_num, HB2.out, by have := HCK.out; simpa using this⟩, by simp [intOf]; omega⟩
      · have hc2 : ((k : Int) == 0) = false := by simpa using hk0
        have hc3 : ((k : Int) != 0) = true := by simpa using hk0
        have HF : Hid (k = R) := Lib.hid (by have := HCK.out; simpa [hk0] using this)
        clear hk0 HCK
        go_wp2_with fail
        go_ret
        exact ⟨ret_int (by rw [HF.out]), HB2.out⟩
    · obtain rfl : j = n := by omega
      rw [nz_map_end _ _ _ (by have := HM.out; omega)] at hck
      subst hck
      go_wp2_with fail
      go_ret
      exact ⟨rfl, hbel⟩
end Go.Proofs.YtbcdbefogfmhfaaGreatDoor

namespace Go.Proofs.YtbcdbefogfmhfaaGreatDoor
open Go.RowKit
set_option maxRecDepth 100000 in
set_option maxHeartbeats 4000000 in
theorem ucheck_c (t : Te) (a : Option Addr) (n c : Nat) (w : World) (hE : EnvX w) (hn : t.l.length = n) (hn2 : n ≤ 1073741824) (hbk : ∀ x ∈ t.l, x.bulk ≤ 1073741824) (hps : PartsAt w a t.l) :
    Calls Tryz.prog 99 #[.agg #[.bool t.any, .bool t.no, .slice a n c]] w (RetBel (.int .i64 (CheckT t)) w) := by
  obtain ⟨any, no, l⟩ := t
  have HC := Lib.hid (fun W (hW : Bel w W) => ueach_c l a n c W (hE.bel hW) hn hn2 hbk (hps.bel hW))
  unfold CheckT
  dsimp only at hn ⊢
  rw [hn]
  obtain ⟨z, hz⟩ : ∃ z, ((n : Int) == 0) = z := ⟨_, rfl⟩
  rw [show decide (n = 0) = z from by rw [← hz, Bool.eq_iff_iff]; simp]
  obtain ⟨R, hR⟩ : ∃ R, nz (l.map CheckE) = R := ⟨_, rfl⟩
  rw [hR] at HC ⊢
  clear hE hn hbk hps hR
  cases any <;> cases no <;> cases z
  all_goals
    go_enter Tryz.func99, Tryz.ntmps99
    go_wp2_with (go_at_call 125; refine (HC.out _ (by (repeat (first | exact Bel.refl _ | assumption | refine Bel.to_drewN ?_ _ | refine Bel.to_drew ?_ | refine Bel.to_setCell ?_ (by first | exact Nat.le_refl _ | (simp; done) | (simp; omega) | omega) _ | refine Bel.to_alloc ?_ _ | refine Bel.trans ?_ (by assumption))))).mono ?_; rintro e w1 ⟨rfl, hb1⟩)
    go_ret
    first
      | exact ⟨rfl, by (repeat (first | exact Bel.refl _ | assumption | refine Bel.to_drewN ?_ _ | refine Bel.to_drew ?_ | refine Bel.to_setCell ?_ (by first | exact Nat.le_refl _ | (simp; done) | (simp; omega) | omega) _ | refine Bel.to_alloc ?_ _ | refine Bel.trans ?_ (by assumption)))⟩
      | (simp only [Bool.and_self, Bool.and_false, Bool.false_and, Bool.and_true, Bool.true_and, Bool.bne_false, Bool.bne_true, Bool.or_false, Bool.false_or, Bool.or_true, Bool.true_or, Bool.not_false, Bool.not_true]; exact ⟨rfl, by (repeat (first | exact Bel.refl _ | assumption | refine Bel.to_drewN ?_ _ | refine Bel.to_drew ?_ | refine Bel.to_setCell ?_ (by first | exact Nat.le_refl _ | (simp; done) | (simp; omega) | omega) _ | refine Bel.to_alloc ?_ _ | refine Bel.trans ?_ (by assumption)))⟩)
/-- Function values without arguments that answer errors. -/
def FunsAt (W : World) (fs : List Value) (es : List Nat) : Prop :=
  fs.length = es.length ∧ ∀ (j : Nat) (v : Value) (e : Nat), fs[j]? = some v → es[j]? = some e → ∃ h caps, v = .func (.func h) #[] caps ∧ (∀ args w, (callFunc h args).run Tryz.prog w = .ok (.enter h args) w) ∧
    ∀ W', Bel W W' → Calls Tryz.prog h caps W' (RetBel (.int .i64 e) W')
theorem nz_drop (l : List Nat) (i x : Nat) (h : l[i]? = some x) : nz (l.drop i) = if x = 0 then nz (l.drop (i + 1)) else x := by
  have := nz_map_drop id l i x h
  simpa using this
set_option maxRecDepth 100000 in
set_option maxHeartbeats 4000000 in
theorem lfirst_c (fs : List Value) (es : List Nat) (b t n c : Nat) (w : World) (hn : fs.length = n) (hn2 : n ≤ 1073741824) (hblk : Blk w b t fs) (hfs : FunsAt w fs es) :
    Calls Tryz.prog 73 #[.slice (some ⟨b, 0, none⟩) n c] w (RetBel (.int .i64 (nz es)) w) := by
  obtain ⟨R, hR⟩ : ∃ R, nz es = R := ⟨_, rfl⟩
  rw [hR]
  have HR := Lib.hid hR
  have HM := Lib.hid hn
  have HB := Lib.hid hblk
  have HF := Lib.hid hfs
  clear hR hn hblk hfs
  go_enter Tryz.func73, Tryz.ntmps73
  go_wp2_with fail
  go_loopw [8] (fun i wr => ∃ j : Nat, j ≤ n ∧ i = .int .i64 j ∧ Bel w wr ∧ nz (es.drop j) = R) (fun i _ => n - (intOf i).toNat)
  case atStart => exact ⟨0, Nat.zero_le _, rfl, Bel.refl _, HR.out⟩
  case round =>
    obtain ⟨j, hj, rfl, hbel, hck⟩ := hrel
    by_cases hlt : j < n
    · have hlti : (j : Int) < n := by omega
      obtain ⟨v, hv⟩ : ∃ v, fs[j]? = some v := ⟨_, List.getElem?_eq_getElem (by have := HM.out; omega)⟩
      obtain ⟨e, he⟩ : ∃ e, es[j]? = some e := ⟨_, List.getElem?_eq_getElem (by have := HM.out; have := HF.out.1; omega)⟩
      obtain ⟨h, caps, rfl, hen, hcall⟩ := HF.out.2 j v e hv he
      have f0 : wr.cell? ⟨b, 0 + j, none⟩ = some (.func (.func h) #[] caps) := by rw [Nat.zero_add, (HB.out.bel hbel).at, hv]
      rw [Nat.zero_add] at f0
      rw [nz_drop es j e he] at hck
      have HC := Lib.hid (hcall wr hbel)
      have HBE := Lib.hid hbel
      have HCK := Lib.hid hck
      clear hcall hbel hck hv he
      go_wp2_with fail
      refine HC.out.mono ?_
      rintro e2 w2 ⟨rfl, hb2⟩
      have HB2 := Lib.hid (HBE.out.trans hb2)
      clear hb2 HC
      by_cases hk0 : e = 0
      · subst hk0
        go_wp2_with fail
        exact ⟨⟨j + 1, by omega, by go_num, HB2.out, by have := HCK.out; simpa using this⟩, by simp [intOf]; omega⟩
      · have hc2 : ((e : Int) == 0) = false := by simpa using hk0
        have hc3 : ((e : Int) != 0) = true := by simpa using hk0
        have HF : Hid (e = R) := Lib.hid (by have := HCK.out; simpa [hk0] using this)
        clear hk0 HCK
        go_wp2_with fail
        go_ret
        exact ⟨ret_int (by rw [HF.out]), HB2.out⟩
    · obtain rfl : j = n := by omega
      rw [List.drop_of_length_le (by have := HM.out; have := HF.out.1; omega)] at hck
      have hck : 0 = R := hck
      subst hck
      go_wp2_with fail
      go_ret
      exact ⟨rfl, hbel⟩
set_option maxHeartbeats 400000 in
theorem lnotright_c (s : ByteArray) (hs : s.size ≤ 4294967280) (w : World) (hE : Env w) :
    Calls Tryz.prog 112 #[.string s] w fun e w' => e = .returned (.bool (!rightS s)) ∧ Bel w w' := by
  have h := right_c s hs w hE
  obtain ⟨R, hR⟩ : ∃ R, (wordsS s).isSome = R := ⟨_, rfl⟩
  unfold rightS
  rw [hR] at h ⊢
  have H := Lib.hid h
  clear h hR
  go_enter Tryz.func112, Tryz.ntmps112
  go_wp2_with fail
  refine H.out.mono ?_
  rintro e w1 ⟨rfl, hb⟩
  go_wp2_with fail
  go_ret
  exact ⟨rfl, hb⟩
theorem asks_lnotright : AsksS 112 (fun s => !rightS s) (fun s => s.size ≤ 4294967280) := ⟨enters_of Tryz.func112 (by kernel_rfl) rfl, fun s w h hE => lnotright_c s h w hE⟩
set_option maxRecDepth 100000 in
set_option maxHeartbeats 4000000 in
theorem named_c (l : List ByteArray) (a : Option Addr) (n c : Nat) (w : World) (hE : EnvX w) (hn : l.length = n) (hc : n ≤ c) (hn2 : n ≤ 1073741824) (hs : ∀ x ∈ l, x.size ≤ 1073741824) (hat : NamesAt w a l) :
    Calls Tryz.prog 75 #[.slice a n c] w (RetBel (.int .i64 (namedS l)) w) := by
  have hrow := hat.row hn hc
  have HCF := Lib.hid (containsFunc_c (.slice a n c) l _ _ _ asks_lnotright w hE.1 (fun x hx => by have := hs x hx; omega) hrow (by omega))
  have HV := Lib.hid (fun W (hW : Bel w W) => values_s W l (.slice a n c) W (Bel.refl _) (hrow.bel hW))
  have HSO := Lib.hid (fun W0 W p (h : IterS W0 l W p) => sorted_s W0 l W p h (by omega) (fun x hx => by have := hs x hx; unfold maxLen; omega))
  have HCO := Lib.hid (fun W0 W v (h : OwnS W0 l W v) => compact_s W0 l W v h (by omega))
  have hul := uniq_lt l
  rw [hn] at hul
  unfold namedS
  obtain ⟨q, hq⟩ : ∃ q, (l.any fun x => !rightS x) = q := ⟨_, rfl⟩
  obtain ⟨d, hd⟩ : ∃ d, decide l.Nodup = d := ⟨_, rfl⟩
  obtain ⟨u, hu⟩ : ∃ u, (uniqS l).length = u := ⟨_, rfl⟩
  have hul2 : u ≤ 1073741824 := by rw [← hu]; have := uniqS_len l; omega
  rw [hq] at HCF ⊢
  rw [hd, hu] at hul
  rw [hu] at HCO
  rw [show (if ¬ l.Nodup then 8 else 0) = if d = false then 8 else 0 from by rw [← hd]; simp]
  obtain ⟨R, hR⟩ : ∃ R, (if q = true then 6 else if d = false then 8 else 0) = R := ⟨_, rfl⟩
  rw [hR]
  have HR := Lib.hid hR
  have hul3 : decide ((u : Int) < n) = !d := by rw [← hul, decide_eq_decide]; omega
  have HU := Lib.hid hul3
  clear hrow hE hn hs hat hq hd hu hul hul3 hR
  go_enter Tryz.func75, Tryz.ntmps75
  go_wp2_with fail
  refine HCF.out.mono ?_
  rintro e1 w1 ⟨rfl, hb1⟩
  cases q with
  | true =>
    go_wp2_with fail
    go_ret
    exact ⟨ret_int (by rw [← HR.out]; rfl), hb1⟩
  | false =>
    go_wp2_with fail
    refine (HV.out _ hb1).mono ?_
    rintro e2 w2 ⟨p, rfl, hp, hb2⟩
    go_wp2_with fail
    refine (HSO.out _ _ _ hp).mono ?_
    rintro e3 w3 ⟨sa, sn, sc, rfl, hown, hb3⟩
    go_wp2_with fail
    refine (HCO.out _ _ _ hown).mono ?_
    rintro e4 w4 ⟨ca, cc, rfl, hb4⟩
    have HB := Lib.hid (hb1.trans hb4)
    clear hb1 hb2 hb3 hb4 hp hown
    have hu := HU.out
    cases d with
    | true =>
      have hlt : ¬ (u : Int) < n := by simpa using hu
      clear hu
      go_wp2_with fail
      go_ret
      exact ⟨ret_int (by rw [← HR.out]; rfl), HB.out⟩
    | false =>
      have hlt : (u : Int) < n := by simpa using hu
      clear hu
      go_wp2_with fail
      go_ret
      exact ⟨ret_int (by rw [← HR.out]; rfl), HB.out⟩
theorem lisEmpty (s : ByteArray) : s.toList.isEmpty = decide (s.size = 0) := by
  rw [Lib.toList_data, Lib.size_eq]
  cases s.data.toList <;> simp
set_option maxRecDepth 100000 in
set_option maxHeartbeats 4000000 in
theorem bare_c (l : Lg) (q : LgQ) (w : World) (hat : LgAt w l q) (hb : l.bulk ≤ 1073741824) : Calls Tryz.prog 110 #[lgV l q] w (RetBel (.bool (bareL l)) w) := by
  obtain ⟨nea, nen, nec, lea, len, lec, ia, im, ic, oa, om, oc, ra, rm, rc, na, nm, nc, la, lm, lc, rfl, ⟨him, hom, hrm, hnm, hlm⟩, ⟨hci, hco, hcr, hcn, hcl⟩, ⟨hbi, hbo, hbr, hbn, hbl⟩, hex, hpi, hpo, hpr, hpn, hpl⟩ := LgAt.opened hat
  unfold lgV
  dsimp only
  unfold bareL
  rw [him, hom, hrm]
  have he := lisEmpty l.p
  obtain ⟨z, hz⟩ : ∃ z, ((im : Int) + om + rm == 0) = z := ⟨_, rfl⟩
  rw [show decide (im + om + rm = 0) = z from by rw [← hz, Bool.eq_iff_iff]; simp; omega]
  obtain ⟨p, hp⟩ : ∃ p, l.p = p := ⟨_, rfl⟩
  rw [hp] at he ⊢
  have hi2 : im ≤ 1073741824 := by omega
  have ho2 : om ≤ 1073741824 := by omega
  have hr2 : rm ≤ 1073741824 := by omega
  by_cases h0 : p.size = 0
  · obtain rfl : p = ⟨#[]⟩ := ByteArray.ext (Array.eq_empty_of_size_eq_zero h0)
    clear him hom hrm hnm hlm hex hpi hpo hpr hpn hpl hat he h0 hp
    go_enter Tryz.func110, Tryz.ntmps110
    go_wp2_with fail
    go_ret
    exact ⟨ret_bool (by simp), by (repeat (first | exact Bel.refl _ | assumption | refine Bel.to_drewN ?_ _ | refine Bel.to_drew ?_ | refine Bel.to_setCell ?_ (by first | exact Nat.le_refl _ | (simp; done) | (simp; omega) | omega) _ | refine Bel.to_alloc ?_ _ | refine Bel.trans ?_ (by assumption)))⟩
  · have hpe : decide (p = (⟨#[]⟩ : ByteArray)) = false := by
      rw [decide_eq_false_iff_not]; rintro rfl; exact h0 rfl
    rw [decide_eq_false h0] at he
    have he2 : (!p.toList.isEmpty) = true := by rw [he]; rfl
    rw [hpe]
    clear him hom hrm hnm hlm hex hpi hpo hpr hpn hpl hat h0 hp hpe
    go_enter Tryz.func110, Tryz.ntmps110
    go_wp2_with fail
    go_ret
    exact ⟨rfl, by (repeat (first | exact Bel.refl _ | assumption | refine Bel.to_drewN ?_ _ | refine Bel.to_drew ?_ | refine Bel.to_setCell ?_ (by first | exact Nat.le_refl _ | (simp; done) | (simp; omega) | omega) _ | refine Bel.to_alloc ?_ _ | refine Bel.trans ?_ (by assumption)))⟩
end Go.Proofs.YtbcdbefogfmhfaaGreatDoor

namespace Go.Proofs.YtbcdbefogfmhfaaGreatDoor
open Go.RowKit
set_option maxRecDepth 100000 in
set_option maxHeartbeats 8000000 in
theorem rules_c (l : Lg) (q : LgQ) (w : World) (hE : EnvX w) (hat : LgAt w l q) (hb : l.bulk ≤ 1073741824) :
    Calls Tryz.prog 81 #[lgV l q] w (RetBel (.int .i64 (rusE l.ins.length l.outs.length l.rs)) w) := by
  obtain ⟨nea, nen, nec, lea, len, lec, ia, im, ic, oa, om, oc, ra, rm, rc, na, nm, nc, la, lm, lc, rfl, ⟨him, hom, hrm, hnm, hlm⟩, ⟨hci, hco, hcr, hcn, hcl⟩, ⟨hbi, hbo, hbr, hbn, hbl⟩, hex, hpi, hpo, hpr, hpn, hpl⟩ := LgAt.opened hat
  unfold lgV
  dsimp only
  obtain ⟨R, hR⟩ : ∃ R, rusE l.ins.length l.outs.length l.rs = R := ⟨_, rfl⟩
  rw [hR]
  rw [him, hom] at hR
  unfold rusE at hR
  have HR := Lib.hid hR
  have HRS := Lib.hid hpr
  have HRM := Lib.hid hrm
  have HE := Lib.hid hE
  have HRB : Hid (rbulks l.rs ≤ 1073741824) := Lib.hid (by have := lbulk_eq l; omega)
  have hi2 : im ≤ 1073741824 := by omega
  have ho2 : om ≤ 1073741824 := by omega
  have hr2 : rm ≤ 1073741824 := by omega
  have t0 := Blk.new w 42 [.int .i64 l.k, .int .i64 l.e.k, .string l.e.s, .slice nea nen nec, .slice lea len lec, .string l.p, .slice ia im ic, .slice oa om oc, .slice ra rm rc, .slice na nm nc, .slice la lm lc]
  have hb0 : Bel w (w.alloc (.cells #[.int .i64 l.k, .int .i64 l.e.k, .string l.e.s, .slice nea nen nec, .slice lea len lec, .string l.p, .slice ia im ic, .slice oa om oc, .slice ra rm rc, .slice na nm nc, .slice la lm lc] 42)) := Bel.alloc _ _
  clear him hom hrm hnm hlm hex hpi hpo hpr hpn hpl hat hR hE
  go_enter Tryz.func81, Tryz.ntmps81
  go_wp2_with fail
  obtain ⟨W0, hW0⟩ : ∃ W0, w.alloc (.cells #[.int .i64 l.k, .int .i64 l.e.k, .string l.e.s, .slice nea nen nec, .slice lea len lec, .string l.p, .slice ia im ic, .slice oa om oc, .slice ra rm rc, .slice na nm nc, .slice la lm lc] 42) = W0 := ⟨_, rfl⟩
  rw [show w.alloc (.cells [.int .i64 l.k, .int .i64 l.e.k, .string l.e.s, .slice nea nen nec, .slice lea len lec, .string l.p, .slice ia im ic, .slice oa om oc, .slice ra rm rc, .slice na nm nc, .slice la lm lc].toArray 42) = W0 from hW0] at t0
  rw [hW0] at hb0 ⊢
  have T0 := Lib.hid t0
  have HB0 := Lib.hid hb0
  clear t0 hb0 hW0
  go_loopw [12] (fun i wr => ∃ j : Nat, j ≤ rm ∧ i = .int .i64 j ∧ Bel W0 wr ∧ nz ((l.rs.drop j).map (ruE im om)) = R) (fun i _ => rm - (intOf i).toNat)
  case atStart => exact ⟨0, Nat.zero_le _, rfl, Bel.refl _, HR.out⟩
  case round =>
    obtain ⟨j, hj, rfl, hbel, hck⟩ := hrel
    by_cases hlt : j < rm
    · have hlti : (j : Int) < rm := by omega
      obtain ⟨x, hx⟩ : ∃ x, l.rs[j]? = some x := ⟨_, List.getElem?_eq_getElem (by have := HRM.out; omega)⟩
      obtain ⟨b, off, rfl, vi, vo, hxc, ⟨ta, tc, rfl, htc, hti⟩, ya, yc, rfl, hyc, hyo⟩ := HRS.out j x hx
      have hbw := HB0.out.trans hbel
      have g0 := hbw.keep hxc.get0
      have g1 := hbw.keep (hxc.get 1 rfl)
      obtain ⟨tn, htn⟩ : ∃ n, x.ins.length = n := ⟨_, rfl⟩
      obtain ⟨un, hun⟩ : ∃ n, x.out.length = n := ⟨_, rfl⟩
      have hxb : tbulks x.ins + Ex.bulk.bulks x.out ≤ 1073741824 := by have := rbulks_mem (List.mem_of_getElem? hx); have := HRB.out; unfold Ru.bulk at *; omega
      have htn2 : tn ≤ 1073741824 := by have := tbulks_len x.ins; omega
      have hun2 : un ≤ 1073741824 := by have := bulks_len x.out; omega
      rw [htn] at g0 htc
      rw [hun] at g1 hyc
      rw [nz_map_drop _ l.rs j x hx] at hck
      have d6 := hbel.keep (T0.out.at 6)
      have d7 := hbel.keep (T0.out.at 7)
      have hwl : w.heap.size < wr.heap.size := cell_lt d6
      by_cases h1 : tn = im
      · by_cases h2 : un = om
        · have hru : ruE im om x = if nz (x.ins.map CheckT) = 0 then exprsE x.out else nz (x.ins.map CheckT) := by
            unfold ruE; rw [htn, hun, if_neg (by omega)]
          rw [hru] at hck
          subst h1 h2
          obtain ⟨T, hT⟩ : ∃ T, nz (x.ins.map CheckT) = T := ⟨_, rfl⟩
          rw [hT] at hck
          have HT := Lib.hid hT
          have HTI := Lib.hid hti
          have HTN := Lib.hid htn
          have HXO := Lib.hid (fun W (hW : Bel w W) => exprs_c x.out ya un yc W (HE.out.bel hW) hun hun2 (ex_mem_bulk (by omega)) (hyo.bel hW))
          have HXB := Lib.hid hxb
          have HCK := Lib.hid hck
          have HBW := Lib.hid hbw
          have HBL := Lib.hid hbel
          obtain ⟨wo, hwo⟩ : ∃ W, W = wr := ⟨_, rfl⟩
          subst hwo
          clear hxc hti hyo hx hck hbel hbw hru hT hxb htn hun HR
          go_wp2_with fail
          obtain ⟨W1, hW1, k1, l1, s1⟩ := alloc_step wo 108 [.slice ta tn tc, .slice ya un yc]
          rw [hW1]
          have K1 := Lib.hid k1
          have L1 := Lib.hid l1
          clear hW1 k1 l1 s1
          go_loopw [35] (fun i wr => ∃ p : Nat, p ≤ tn ∧ i = .int .i64 p ∧ Bel W1 wr ∧ nz ((x.ins.drop p).map CheckT) = T) (fun i _ => tn - (intOf i).toNat)
          case atStart => exact ⟨0, Nat.zero_le _, rfl, Bel.refl _, HT.out⟩
          case round =>
            obtain ⟨p, hp, rfl, hbel, hck⟩ := hrel
            by_cases hltp : p < tn
            · have hltpi : (p : Int) < tn := by omega
              obtain ⟨y, hy⟩ : ∃ y, x.ins[p]? = some y := ⟨_, List.getElem?_eq_getElem (by have := HTN.out; omega)⟩
              obtain ⟨b2, off2, rfl, v, hyc2, za, zc, rfl, hzc, hzo⟩ := HTI.out p y hy
              have hbw := HBW.out.trans (L1.out.trans hbel)
              have f0 := hbw.keep hyc2.get0
              have f1 := hbw.keep (hyc2.get 1 rfl)
              have f2 := hbw.keep (hyc2.get 2 rfl)
              obtain ⟨zn, hzn⟩ : ∃ n, y.l.length = n := ⟨_, rfl⟩
              rw [hzn] at f2 hzc
              have hyb : Ex.bulk.bulks y.l ≤ 1073741824 := by have := tbulks_mem (List.mem_of_getElem? hy); have := HXB.out; unfold Te.bulk at *; omega
              have hzn2 : zn ≤ 1073741824 := by have := bulks_len y.l; omega
              have HC := Lib.hid (fun W (hW : Bel w W) => ucheck_c y za zn zc W (HE.out.bel hW) hzn hzn2 (ex_mem_bulk hyb) (hzo.bel hW))
              rw [nz_map_drop _ x.ins p y hy] at hck
              obtain ⟨c, hc⟩ : ∃ c, CheckT y = c := ⟨_, rfl⟩
              rw [hc] at HC hck
              have HBP := Lib.hid hbel
              have HBWP := Lib.hid hbw
              have HCP := Lib.hid hck
              clear hyc2 hzo hy hbw hbel hck hc hyb hzn
              go_wp2_with fail
              refine (HC.out _ (HBWP.out.to_alloc _)).mono ?_
              rintro e2 w2 ⟨rfl, hb2⟩
              have HB2 := Lib.hid (HBP.out.trans ((Bel.alloc _ _).trans hb2))
              clear hb2 HC
              by_cases hc0 : c = 0
              · subst hc0
                go_wp2_with fail
                exact ⟨⟨p + 1, by omega, by go_num, HB2.out, by have := HCP.out; simpa using this⟩, by simp [intOf]; omega⟩
              · have hc2 : ((c : Int) == 0) = false := by simpa using hc0
                have hc3 : ((c : Int) != 0) = true := by simpa using hc0
                have HF : Hid (c = R) := Lib.hid (by have h := HCP.out; rw [if_neg hc0] at h; subst h; have := HCK.out; simpa [hc0] using this)
                clear hc0 HCK HCP
                go_wp2_with fail
                go_ret
                exact ⟨ret_int (by rw [HF.out]), HBW.out.trans (L1.out.trans HB2.out)⟩
            · obtain rfl : p = tn := by omega
              rw [nz_map_end _ _ _ (by have := HTN.out; omega)] at hck
              subst hck
              have hck := HCK.out
              rw [if_pos rfl] at hck
              have HX2 := Lib.hid (HXO.out wr (HBW.out.trans (L1.out.trans hbel)))
              obtain ⟨c, hc⟩ : ∃ c, exprsE x.out = c := ⟨_, rfl⟩
              rw [hc] at HX2 hck
              have HCK2 := Lib.hid hck
              have r1 := hbel.keep (K1.out.at 1)
              have hwo2 : wo.heap.size < wr.heap.size := cell_lt r1
              have HBP := Lib.hid hbel
              clear hck hc hbel HCK HXO
              go_wp2_with fail
              refine HX2.out.mono ?_
              rintro e2 w2 ⟨rfl, hb2⟩
              have HB2 := Lib.hid (HBP.out.trans hb2)
              clear hb2 HX2
              by_cases hc0 : c = 0
              · subst hc0
                go_wp2_with fail
                exact ⟨⟨j + 1, by omega, by go_num, HBL.out.trans (L1.out.trans HB2.out), by have := HCK2.out; simpa using this⟩, by simp [intOf]; omega⟩
              · have hc2 : ((c : Int) == 0) = false := by simpa using hc0
                have hc3 : ((c : Int) != 0) = true := by simpa using hc0
                have HF : Hid (c = R) := Lib.hid (by have := HCK2.out; simpa [hc0] using this)
                clear hc0 HCK2
                go_wp2_with fail
                go_ret
                exact ⟨ret_int (by rw [HF.out]), HBW.out.trans (L1.out.trans HB2.out)⟩
        · have HF : Hid (17 = R) := Lib.hid (by have h := hck; rw [show ruE im om x = 17 from by unfold ruE; rw [htn, hun, if_pos (Or.inr h2)]] at h; simpa using h)
          subst h1
          have hne : ((un : Int) != om) = true := by simp; omega
          have hne2 : ((un : Int) == om) = false := by simp; omega
          have HBW := Lib.hid hbw
          clear hxc hti hyo hx hck hbel hbw htn hun HR h2
          go_wp2_with fail
          go_ret
          exact ⟨ret_int (by rw [← HF.out]; rfl), by have := HBW.out; (repeat (first | exact Bel.refl _ | assumption | refine Bel.to_drewN ?_ _ | refine Bel.to_drew ?_ | refine Bel.to_setCell ?_ (by first | exact Nat.le_refl _ | (simp; done) | (simp; omega) | omega) _ | refine Bel.to_alloc ?_ _ | refine Bel.trans ?_ (by assumption)))⟩
      · have HF : Hid (17 = R) := Lib.hid (by have h := hck; rw [show ruE im om x = 17 from by unfold ruE; rw [htn, hun, if_pos (Or.inl h1)]] at h; simpa using h)
        have hne : ((tn : Int) != im) = true := by simp; omega
        have hne2 : ((tn : Int) == im) = false := by simp; omega
        have HBW := Lib.hid hbw
        clear hxc hti hyo hx hck hbel hbw htn hun HR h1
        go_wp2_with fail
        go_ret
        exact ⟨ret_int (by rw [← HF.out]; rfl), by have := HBW.out; (repeat (first | exact Bel.refl _ | assumption | refine Bel.to_drewN ?_ _ | refine Bel.to_drew ?_ | refine Bel.to_setCell ?_ (by first | exact Nat.le_refl _ | (simp; done) | (simp; omega) | omega) _ | refine Bel.to_alloc ?_ _ | refine Bel.trans ?_ (by assumption)))⟩
    · obtain rfl : j = rm := by omega
      rw [nz_map_end _ _ _ (by have := HRM.out; omega)] at hck
      subst hck
      clear HR
      go_wp2_with fail
      go_ret
      exact ⟨rfl, HB0.out.trans hbel⟩
set_option maxRecDepth 100000 in
set_option maxHeartbeats 2000000 in
theorem check1_c (gb : Nat) (a : Option Addr) (n c : Nat) (e : Nat) (w : World) (hcell : w.cell? ⟨gb, 0, none⟩ = some (.slice a n c)) (hc : Calls Tryz.prog 75 #[.slice a n c] w (RetBel (.int .i64 e) w)) :
    Calls Tryz.prog 74 #[.pointer (some ⟨gb, 0, none⟩)] w (RetBel (.int .i64 e) w) := by
  have HC := Lib.hid hc
  clear hc
  go_enter Tryz.func74, Tryz.ntmps74
  go_wp2_with fail
  refine HC.out.mono ?_
  rintro e1 w1 ⟨rfl, hb1⟩
  go_wp2_with fail
  go_ret
  exact ⟨rfl, hb1⟩
set_option maxRecDepth 100000 in
set_option maxHeartbeats 2000000 in
theorem check2_c (lb : Nat) (a : Option Addr) (n c : Nat) (e : Nat) (w : World) (hcell : w.cell? ⟨lb, 7, none⟩ = some (.slice a n c)) (hc : Calls Tryz.prog 75 #[.slice a n c] w (RetBel (.int .i64 e) w)) :
    Calls Tryz.prog 76 #[.pointer (some ⟨lb, 0, none⟩)] w (RetBel (.int .i64 e) w) := by
  have HC := Lib.hid hc
  clear hc
  go_enter Tryz.func76, Tryz.ntmps76
  go_wp2_with fail
  refine HC.out.mono ?_
  rintro e1 w1 ⟨rfl, hb1⟩
  go_wp2_with fail
  go_ret
  exact ⟨rfl, hb1⟩
set_option maxRecDepth 100000 in
set_option maxHeartbeats 2000000 in
theorem check3_c (lb : Nat) (k : Int) (x : Ex) (xna : Option Addr) (xnn xnc : Nat) (xla : Option Addr) (xln xlc : Nat) (w : World) (hE : EnvX w) (h0 : w.cell? ⟨lb, 0, none⟩ = some (.int .i64 k)) (h1 : w.cell? ⟨lb, 1, none⟩ = some (.int .i64 x.k)) (h2 : w.cell? ⟨lb, 2, none⟩ = some (.string x.s))
    (h3 : w.cell? ⟨lb, 3, none⟩ = some (.slice xna xnn xnc)) (h4 : w.cell? ⟨lb, 4, none⟩ = some (.slice xla xln xlc)) (hx : ExAt w x (.slice xna xnn xnc) (.slice xla xln xlc)) (hb : x.bulk ≤ 1073741824) :
    Calls Tryz.prog 77 #[.pointer (some ⟨lb, 0, none⟩)] w (RetBel (.int .i64 ((if k = 0 ∨ k = 3 then exprsE [x] else 0 : Nat) : Int)) w) := by
  have HC : Hid (∀ W b, Bel w W → Blk W b 38 [.int .i64 x.k, .string x.s, .slice xna xnn xnc, .slice xla xln xlc] → Calls Tryz.prog 78 #[.slice (some ⟨b, 0, none⟩) 1 1] W (RetBel (.int .i64 (exprsE [x])) W)) :=
    Lib.hid fun W b hW hbk => exprs_c [x] _ 1 1 W (hE.bel hW) rfl (by omega) (by intro y hy; rw [List.mem_singleton.1 hy]; exact hb) (parts_of_exs (exs_one hbk rfl (ExAt.bel hW x hx)))
  obtain ⟨R, hR⟩ : ∃ R, exprsE [x] = R := ⟨_, rfl⟩
  rw [hR] at HC ⊢
  clear hE hx hR
  by_cases hk : k = 0 ∨ k = 3
  · rw [if_pos hk]
    have HB := Lib.hid (HC.out _ w.heap.size (Bel.alloc w _) (Blk.new w 38 [.int .i64 x.k, .string x.s, .slice xna xnn xnc, .slice xla xln xlc]))
    rcases hk with rfl | rfl
    all_goals
      go_enter Tryz.func77, Tryz.ntmps77
      go_wp2_with fail
      refine HB.out.mono ?_
      rintro e1 w1 ⟨rfl, hb1⟩
      go_wp2_with fail
      go_ret
      exact ⟨rfl, (Bel.alloc _ _).trans hb1⟩
  · rw [if_neg hk]
    have n0 : (k == 0) = false := by simp; omega
    have n3 : (k == 3) = false := by simp; omega
    clear hk
    go_enter Tryz.func77, Tryz.ntmps77
    go_wp2_with fail
    go_ret
    exact ⟨rfl, Bel.refl _⟩
set_option maxRecDepth 100000 in
set_option maxHeartbeats 2000000 in
theorem check4_c (lb : Nat) (a : Option Addr) (n c : Nat) (e : Nat) (w : World) (hcell : w.cell? ⟨lb, 6, none⟩ = some (.slice a n c)) (hc : Calls Tryz.prog 78 #[.slice a n c] w (RetBel (.int .i64 e) w)) :
    Calls Tryz.prog 79 #[.pointer (some ⟨lb, 0, none⟩)] w (RetBel (.int .i64 e) w) := by
  have HC := Lib.hid hc
  clear hc
  go_enter Tryz.func79, Tryz.ntmps79
  go_wp2_with fail
  refine HC.out.mono ?_
  rintro e1 w1 ⟨rfl, hb1⟩
  go_wp2_with fail
  go_ret
  exact ⟨rfl, hb1⟩
set_option maxRecDepth 100000 in
set_option maxHeartbeats 2000000 in
theorem check5_c (lb : Nat) (l : Lg) (q : LgQ) (e : Nat) (w : World) (hat : LgAt w l q) (hcells : CellsAt w lb 0 (lgC l q)) (hc : Calls Tryz.prog 81 #[lgV l q] w (RetBel (.int .i64 e) w)) :
    Calls Tryz.prog 80 #[.pointer (some ⟨lb, 0, none⟩)] w (RetBel (.int .i64 e) w) := by
  obtain ⟨nea, nen, nec, lea, len, lec, ia, im, ic, oa, om, oc, ra, rm, rc, na, nm, nc, la, lm, lc, rfl, ⟨him, hom, hrm, hnm, hlm⟩, ⟨hci, hco, hcr, hcn, hcl⟩, ⟨hbi, hbo, hbr, hbn, hbl⟩, hex, hpi, hpo, hpr, hpn, hpl⟩ := LgAt.opened hat
  unfold lgV at hc
  dsimp only at hc
  have c0 := CellsAt.get0 hcells
  have c1 := CellsAt.get hcells 1 rfl
  have c2 := CellsAt.get hcells 2 rfl
  have c3 := CellsAt.get hcells 3 rfl
  have c4 := CellsAt.get hcells 4 rfl
  have c5 := CellsAt.get hcells 5 rfl
  have c6 := CellsAt.get hcells 6 rfl
  have c7 := CellsAt.get hcells 7 rfl
  have c8 := CellsAt.get hcells 8 rfl
  have c9 := CellsAt.get hcells 9 rfl
  have c10 := CellsAt.get hcells 10 rfl
  simp only [Nat.zero_add] at c1 c2 c3 c4 c5 c6 c7 c8 c9 c10
  have HC := Lib.hid hc
  clear hc him hom hrm hnm hlm hex hpi hpo hpr hpn hpl hat hcells
  go_enter Tryz.func80, Tryz.ntmps80
  go_wp2_with fail
  refine HC.out.mono ?_
  rintro e1 w1 ⟨rfl, hb1⟩
  go_wp2_with fail
  go_ret
  exact ⟨rfl, hb1⟩
/-- The five questions' values. -/
def fiveV (gb lb : Nat) : List Value := [.func (.func 74) #[] #[.pointer (some ⟨gb, 0, none⟩)], .func (.func 76) #[] #[.pointer (some ⟨lb, 0, none⟩)], .func (.func 77) #[] #[.pointer (some ⟨lb, 0, none⟩)], .func (.func 79) #[] #[.pointer (some ⟨lb, 0, none⟩)], .func (.func 80) #[] #[.pointer (some ⟨lb, 0, none⟩)]]
theorem five_funs (l : Lg) (q : LgQ) (gb lb : Nat) (ga : Option Addr) (gn gc : Nat) (w : World) (hE : EnvX w) (hat : LgAt w l q) (hb : l.bulk ≤ 1073741824) (hg : w.cell? ⟨gb, 0, none⟩ = some (.slice ga gn gc)) (hgn : (givenL l.k l.ns).length = gn) (hgc : gn ≤ gc) (hga : NamesAt w ga (givenL l.k l.ns))
    (hcells : CellsAt w lb 0 (lgC l q)) : FunsAt w (fiveV gb lb) (fiveL l) := by
  refine ⟨rfl, fun j v e hv he => ?_⟩
  have hbe := lbulk_eq l
  have hat' := hat
  obtain ⟨nea, nen, nec, lea, len, lec, ia, im, ic, oa, om, oc, ra, rm, rc, na, nm, nc, la, lm, lc, rfl, ⟨him, hom, hrm, hnm, hlm⟩, ⟨hci, hco, hcr, hcn, hcl⟩, ⟨hbi, hbo, hbr, hbn, hbl⟩, hex, hpi, hpo, hpr, hpn, hpl⟩ := LgAt.opened hat
  have hgs : ∀ x ∈ givenL l.k l.ns, x.size ≤ 1073741824 := fun x hx => by
    refine str_mem_size (l := l.ns) (by omega) x ?_
    unfold givenL at hx
    split at hx
    · exact List.mem_of_mem_take hx
    · exact hx
  have hgn2 : gn ≤ 1073741824 := by
    rw [← hgn]
    have : (givenL l.k l.ns).length ≤ l.ns.length := by
      unfold givenL
      split
      · rw [List.length_take]; omega
      · exact Nat.le_refl _
    omega
  have k0 := fun W (hW : Bel w W) => hW.keep hcells.get0
  have kk : ∀ (j : Nat) (v : Value) W, Bel w W → (lgC l ⟨.slice nea nen nec, .slice lea len lec, .slice ia im ic, .slice oa om oc, .slice ra rm rc, .slice na nm nc, .slice la lm lc⟩)[j]? = some v → W.cell? ⟨lb, j, none⟩ = some v := fun j v W hW hj => by
    have := hW.keep (hcells.get j hj)
    rwa [Nat.zero_add] at this
  match j, hv, he with
  | 0, hv, he =>
    cases hv; cases he
    exact ⟨_, _, rfl, enters_of Tryz.func74 (by kernel_rfl) rfl, fun W hW => check1_c gb ga gn gc _ W (hW.keep hg) (named_c _ ga gn gc W (hE.bel hW) hgn hgc hgn2 hgs (hga.bel hW))⟩
  | 1, hv, he =>
    cases hv; cases he
    exact ⟨_, _, rfl, enters_of Tryz.func76 (by kernel_rfl) rfl, fun W hW => check2_c lb oa om oc _ W (kk 7 _ W hW rfl) (named_c _ oa om oc W (hE.bel hW) hom hco (by omega) (str_mem_size (by omega)) (hpo.bel hW))⟩
  | 2, hv, he =>
    cases hv; cases he
    exact ⟨_, _, rfl, enters_of Tryz.func77 (by kernel_rfl) rfl, fun W hW => check3_c lb l.k l.e nea nen nec lea len lec W (hE.bel hW) (kk 0 _ W hW rfl) (kk 1 _ W hW rfl) (kk 2 _ W hW rfl) (kk 3 _ W hW rfl) (kk 4 _ W hW rfl) (ExAt.bel hW _ hex) (by omega)⟩
  | 3, hv, he =>
    cases hv; cases he
    exact ⟨_, _, rfl, enters_of Tryz.func79 (by kernel_rfl) rfl, fun W hW => check4_c lb ia im ic _ W (kk 6 _ W hW rfl) (exprs_c _ ia im ic W (hE.bel hW) him (by omega) (ex_mem_bulk (by omega)) (hpi.bel hW))⟩
  | 4, hv, he =>
    cases hv; cases he
    exact ⟨_, _, rfl, enters_of Tryz.func80 (by kernel_rfl) rfl, fun W hW => check5_c lb l _ _ W (LgAt.bel hW l hat') (hcells.bel hW) (rules_c l _ W (hE.bel hW) (LgAt.bel hW l hat') hb)⟩
  | j + 5, hv, he => cases hv
theorem blk_cells {W : World} {b t : Nat} {cs : List Value} (h : Blk W b t cs) : CellsAt W b 0 cs := fun j v hj => by rw [Nat.zero_add, h.at, hj]
end Go.Proofs.YtbcdbefogfmhfaaGreatDoor
