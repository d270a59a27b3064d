/-
  logic: the walks of what is asked of a logic: its depth, its names, its expressions, its tests.
-/
import Derived.Test.YtchbhcjhoocjaaaGreatDoorLGA
namespace Go.Proofs.YtchbhcjhoocjaaaGreatDoor
open Go.RowKit

/-- The place of the first one; -1: there is none. -/
def idxL (p : Lg → Bool) : Nat → List Lg → Int
  | _, [] => -1
  | k, x :: l => if p x = true then k else idxL p (k + 1) l
theorem idxL_any (p : Lg → Bool) : ∀ (l : List Lg) (k : Nat), decide (0 ≤ idxL p k l) = l.any p
  | [], _ => rfl
  | x :: l, k => by
    unfold idxL
    by_cases h : p x = true
    · rw [if_pos h]; simp [h]
    · rw [if_neg h, idxL_any p l (k + 1)]; simp [h]
theorem idxL_drop (p : Lg → Bool) (l : List Lg) (i k : Nat) (x : Lg) (h : l[i]? = some x) : idxL p k (l.drop i) = if p x = true then (k : Int) else idxL p (k + 1) (l.drop (i + 1)) := by
  obtain ⟨hi, hx⟩ := List.getElem?_eq_some_iff.1 h
  rw [List.drop_eq_getElem_cons hi, hx]; rfl
set_option maxRecDepth 100000 in
set_option maxHeartbeats 4000000 in
theorem indexL_c (l : List Lg) (r : Lg → Bool) (la : Option Addr) (m lc pb : Nat) (w : World) (hm : l.length = m) (hl : m ≤ 1073741824) (hps : KidsAt w la l)
    (hcall : ∀ x ∈ l, ∀ q wr, Bel w wr → LgAt wr x q → Calls Tryz.prog 60 #[lgV x q, .pointer (some ⟨pb, 0, none⟩)] wr (RetBel (.bool (r x)) wr)) :
    Calls Tryz.prog 92 #[.slice la m lc, .func (.func 60) #[] #[.pointer (some ⟨pb, 0, none⟩)]] w (RetBel (.int .i64 (idxL r 0 l)) w) := by
  obtain ⟨R, hR⟩ : ∃ R, idxL r 0 l = R := ⟨_, rfl⟩
  rw [hR]
  have HR := Lib.hid hR
  have HM := Lib.hid hm
  have PS := Lib.hid hps
  have HCALL := Lib.hid hcall
  have hen := fun args w1 => enters_of Tryz.func60 (by kernel_rfl) rfl args w1
  clear hR hm hps hcall
  go_enter Tryz.func92, Tryz.ntmps92
  go_wp2_with fail
  go_loopw [8] (fun i wr => ∃ k : Nat, k ≤ m ∧ i = .int .i64 k ∧ Bel w wr ∧ idxL r k (l.drop k) = R) (fun i _ => m - (intOf i).toNat)
  case atStart => exact ⟨0, Nat.zero_le _, rfl, Bel.refl _, HR.out⟩
  case round =>
    obtain ⟨k, hk, rfl, hbel, hix⟩ := hrel
    by_cases hkn : k < m
    · have hki : (k : Int) < m := by omega
      obtain ⟨x, hx⟩ : ∃ x, l[k]? = some x := ⟨_, List.getElem?_eq_getElem (by have := HM.out; omega)⟩
      obtain ⟨b, off, q, rfl, g0, hxa⟩ := PS.out k x hx
      have hc := HCALL.out x (List.mem_of_getElem? hx) _ wr hbel (LgAt.bel hbel x hxa)
      have g1 := g0.bel hbel
      obtain ⟨xnea, xnen, xnec, xlea, xlen, xlec, xia, xim, xic, xoa, xom, xoc, xra, xrm, xrc, xna, xnm, xnc, xla, xlm, xlc, rfl, ⟨xhim, xhom, xhrm, xhnm, xhlm⟩, ⟨xhci, xhco, xhcr, xhcn, xhcl⟩, ⟨xhbi, xhbo, xhbr, xhbn, xhbl⟩, xhex, xhpi, xhpo, xhpr, xhpn, xhpl⟩ := LgAt.opened hxa
      unfold lgV at hc
      dsimp only at hc
      have f0 := CellsAt.get0 g1
      have f1 := CellsAt.get g1 1 rfl
      have f2 := CellsAt.get g1 2 rfl
      have f3 := CellsAt.get g1 3 rfl
      have f4 := CellsAt.get g1 4 rfl
      have f5 := CellsAt.get g1 5 rfl
      have f6 := CellsAt.get g1 6 rfl
      have f7 := CellsAt.get g1 7 rfl
      have f8 := CellsAt.get g1 8 rfl
      have f9 := CellsAt.get g1 9 rfl
      have f10 := CellsAt.get g1 10 rfl
      rw [idxL_drop r l k k x hx] at hix
      have HB := Lib.hid hbel
      have HIX := Lib.hid hix
      obtain ⟨F, hF⟩ : ∃ F, r x = F := ⟨_, rfl⟩
      rw [hF] at hc HIX
      have HC := Lib.hid hc
      clear g0 g1 hxa hc hF hix hx hbel xhim xhom xhrm xhnm xhlm xhex xhpi xhpo xhpr xhpn xhpl
      cases F
      · go_wp2_with ((with_reducible refine HC.out.mono ?_); rintro e w1 ⟨rfl, hb1⟩)
        refine ⟨⟨k + 1, by omega, by go_num, HB.out.trans (by assumption), ?_⟩, by simp [intOf]; omega⟩
        have := HIX.out
        rwa [if_neg (by simp)] at this
      · go_wp2_with ((with_reducible refine HC.out.mono ?_); rintro e w1 ⟨rfl, hb1⟩)
        go_ret
        have := HIX.out
        rw [if_pos trivial] at this
        exact ⟨ret_int this, HB.out.trans (by assumption)⟩
    · obtain rfl : k = m := by omega
      rw [List.drop_of_length_le (by have := HM.out; omega)] at hix
      have HIX := Lib.hid hix
      clear hix
      go_wp2_with fail
      go_ret
      exact ⟨ret_int HIX.out, hbel⟩

set_option maxHeartbeats 400000 in
theorem containsL_c (l : List Lg) (r : Lg → Bool) (la : Option Addr) (m lc pb : Nat) (w : World) (hm : l.length = m) (hl : m ≤ 1073741824) (hps : KidsAt w la l)
    (hcall : ∀ x ∈ l, ∀ q wr, Bel w wr → LgAt wr x q → Calls Tryz.prog 60 #[lgV x q, .pointer (some ⟨pb, 0, none⟩)] wr (RetBel (.bool (r x)) wr)) :
    Calls Tryz.prog 59 #[.slice la m lc, .func (.func 60) #[] #[.pointer (some ⟨pb, 0, none⟩)]] w (RetBel (.bool (l.any r)) w) := by
  have hi := indexL_c l r la m lc pb w hm hl hps hcall
  have hany := idxL_any r l 0
  obtain ⟨R, hR⟩ : ∃ R, idxL r 0 l = R := ⟨_, rfl⟩
  rw [hR] at hi hany
  rw [← hany]
  have HI := Lib.hid hi
  clear hi hany hR hcall hps hm
  go_enter Tryz.func59, Tryz.ntmps59
  go_wp2_with (go_at_call 92; refine HI.out.mono ?_; rintro e w1 ⟨rfl, hb⟩)
  go_ret
  exact ⟨rfl, by assumption⟩

set_option maxRecDepth 100000 in
set_option maxHeartbeats 4000000 in
theorem ldeep1_c (x : Lg) (q : LgQ) (pb : Nat) (T : Int) (h0 : 1 ≤ T) (h1 : T ≤ 1099511627776) (b : Bool) (w : World) (hat : LgAt w x q) (hcell : w.cell? ⟨pb, 0, none⟩ = some (.int .i64 T))
    (hc : ∀ W, Bel w W → Calls Tryz.prog 25 #[lgV x q, .int .i64 (T - 1)] W (RetBel (.bool b) W)) :
    Calls Tryz.prog 60 #[lgV x q, .pointer (some ⟨pb, 0, none⟩)] w (RetBel (.bool b) w) := by
  obtain ⟨xnea, xnen, xnec, xlea, xlen, xlec, xia, xim, xic, xoa, xom, xoc, xra, xrm, xrc, xna, xnm, xnc, xla, xlm, xlc, rfl, ⟨xhim, xhom, xhrm, xhnm, xhlm⟩, ⟨xhci, xhco, xhcr, xhcn, xhcl⟩, ⟨xhbi, xhbo, xhbr, xhbn, xhbl⟩, xhex, xhpi, xhpo, xhpr, xhpn, xhpl⟩ := LgAt.opened hat
  unfold lgV at hc ⊢
  dsimp only at hc ⊢
  have HC := Lib.hid hc
  have hc2 := (Bel.alloc w (.cells #[.int .i64 x.k, .int .i64 x.e.k, .string x.e.s, .slice xnea xnen xnec, .slice xlea xlen xlec, .string x.p, .slice xia xim xic, .slice xoa xom xoc, .slice xra xrm xrc, .slice xna xnm xnc, .slice xla xlm xlc] 30)).keep hcell
  clear hc xhim xhom xhrm xhnm xhlm xhex xhpi xhpo xhpr xhpn xhpl hat
  go_enter Tryz.func60, Tryz.ntmps60
  go_wp2_with (go_at_call 25; refine (HC.out _ (Bel.alloc _ _)).mono ?_; rintro e w1 ⟨rfl, hb⟩)
  go_ret
  exact ⟨rfl, by (repeat (first | exact Bel.refl _ | assumption | refine Bel.to_drewN ?_ _ | refine Bel.to_drew ?_ | refine Bel.to_setCell ?_ (by first | exact Nat.le_refl _ | (simp; done) | (simp; omega) | omega) _ | refine Bel.to_alloc ?_ _ | refine Bel.trans ?_ (by assumption)))⟩

set_option maxRecDepth 100000 in
set_option maxHeartbeats 4000000 in
theorem ldeep_c : ∀ (n : Nat) (l : Lg), l.bulk ≤ n → n ≤ 1073741824 → ∀ (q : LgQ) (w : World) (T : Int), 0 ≤ T → T ≤ 1099511627776 → LgAt w l q →
    Calls Tryz.prog 25 #[lgV l q, .int .i64 T] w (RetBel (.bool (deepL l T.toNat)) w) := by
  intro n
  induction n with
  | zero => intro l hl; exfalso; have := lbulk_pos l; omega
  | succ n ih =>
    intro l hl hn q w T h0 h1 hat
    have hat' := hat
    obtain ⟨nea, nen, nec, lea, len, lec, ia, im, ic, oa, om, oc, ra, rm, rc, na, nm, nc, la, lm, lc, rfl, ⟨him, hom, hrm, hnm, hlm⟩, ⟨hci, hco, hcr, hcn, hcl⟩, ⟨hbi, hbo, hbr, hbn, hbl⟩, hex, hpi, hpo, hpr, hpn, hpl⟩ := LgAt.opened hat
    unfold lgV
    dsimp only
    by_cases hT : T = 0
    · subst hT
      have hr : deepL l (0 : Int).toNat = true := deepL_zero l
      rw [hr]
      clear ih him hom hrm hnm hlm hex hpi hpo hpr hpn hpl hat hr hat'
      go_enter Tryz.func25, Tryz.ntmps25
      go_wp2_with fail
      go_ret
      exact ⟨rfl, by (repeat (first | exact Bel.refl _ | assumption | refine Bel.to_drewN ?_ _ | refine Bel.to_drew ?_ | refine Bel.to_setCell ?_ (by first | exact Nat.le_refl _ | (simp; done) | (simp; omega) | omega) _ | refine Bel.to_alloc ?_ _ | refine Bel.trans ?_ (by assumption)))⟩
    · have hTb : (T == 0) = false := by simpa using hT
      have hr : deepL l T.toNat = l.l.any fun x => deepL x (T - 1).toNat := by
        rw [show T.toNat = (T - 1).toNat + 1 from by omega, deepL_succ]
      rw [hr]
      obtain ⟨W2, hW2⟩ : ∃ W2, (w.alloc (.cells #[.int .i64 l.k, .int .i64 l.e.k, .string l.e.s, .slice nea nen nec, .slice lea len lec, .string l.p, .slice ia im ic, .slice oa om oc, .slice ra rm rc, .slice na nm nc, .slice la lm lc] 30)).alloc (.cells #[.int .i64 T] 3) = W2 := ⟨_, rfl⟩
      have hb2 : Bel w W2 := by rw [← hW2]; exact (Bel.alloc _ _).trans (Bel.alloc _ _)
      have hcell : W2.cell? ⟨w.heap.size + 1, 0, none⟩ = some (.int .i64 T) := by
        rw [← hW2]
        have := (Blk.new (w.alloc (.cells #[.int .i64 l.k, .int .i64 l.e.k, .string l.e.s, .slice nea nen nec, .slice lea len lec, .string l.p, .slice ia im ic, .slice oa om oc, .slice ra rm rc, .slice na nm nc, .slice la lm lc] 30)) 3 [.int .i64 T]).at 0
        rw [World.size_alloc] at this; exact this
      have hcf := containsL_c l.l (fun x => deepL x (T - 1).toNat) la lm lc (w.heap.size + 1) W2 hlm (by omega) (hpl.bel hb2) (fun x hx q wr hbw hxa => by
        obtain ⟨i, hi⟩ := List.getElem?_of_mem hx
        have hxb := lbulk_part hi
        exact ldeep1_c x _ _ T (by omega) (by omega) _ wr hxa (hbw.keep hcell) (fun W hW => ih x (by omega) (by omega) _ W (T - 1) (by omega) (by omega) (LgAt.bel hW x hxa)))
      obtain ⟨B, hB⟩ : ∃ B, (l.l.any fun x => deepL x (T - 1).toNat) = B := ⟨_, rfl⟩
      rw [hB] at hcf ⊢
      subst hW2
      have HCF := Lib.hid hcf
      have HB2 := Lib.hid hb2
      clear ih him hom hrm hnm hlm hex hpi hpo hpr hpn hpl hat hat' hr hcf hcell hb2 hB
      go_enter Tryz.func25, Tryz.ntmps25
      go_wp2_with fail
      refine HCF.out.mono ?_
      rintro e2 w2 ⟨rfl, hb3⟩
      go_wp2_with fail
      go_ret
      exact ⟨rfl, HB2.out.trans hb3⟩

set_option maxRecDepth 100000 in
set_option maxHeartbeats 4000000 in
theorem exprs_c (l : List Ex) (a : Option Addr) (n c : Nat) (w : World) (hE : EnvX w) (hn : l.length = n) (hn2 : n ≤ 1073741824) (hbk : ∀ x ∈ l, x.bulk ≤ 1073741824) (hps : PartsAt w a l) :
    Calls Tryz.prog 67 #[.slice a n c] w (RetBel (.int .i64 (exprsE l)) w) := by
  obtain ⟨R, hR⟩ : ∃ R, exprsE l = R := ⟨_, rfl⟩
  rw [hR]
  unfold exprsE at hR
  have HR := Lib.hid hR
  have HM := Lib.hid hn
  have PS := Lib.hid hps
  have HBK := Lib.hid hbk
  have HE := Lib.hid hE
  clear hR hn hps hbk hE
  go_enter Tryz.func67, Tryz.ntmps67
  go_wp2_with fail
  go_loopw [8] (fun i wr => ∃ j : Nat, j ≤ n ∧ i = .int .i64 j ∧ Bel w wr ∧ nz ((l.drop j).map exprE) = R) (fun i _ => n - (intOf i).toNat)
  case atStart => exact ⟨0, Nat.zero_le _, rfl, Bel.refl _, HR.out⟩
  case round =>
    obtain ⟨j, hj, rfl, hbel, hck⟩ := hrel
    by_cases hlt : j < n
    · have hlti : (j : Int) < n := by omega
      obtain ⟨x, hx⟩ : ∃ x, l[j]? = some x := ⟨_, List.getElem?_eq_getElem (by have := HM.out; omega)⟩
      obtain ⟨b, off, xna, xnn, xnc, xla, xln, xlc, rfl, g0, g1, g2, g3, hxa⟩ := PS.out j x hx
      have f0 := hbel.keep g0
      have f1 := hbel.keep g1
      have f2 := hbel.keep g2
      have f3 := hbel.keep g3
      have HC := Lib.hid (fun W (hW : Bel w W) => check_x x _ _ W (HE.out.bel hW) (HBK.out x (List.mem_of_getElem? hx)) (ExAt.bel hW x hxa))
      rw [nz_map_drop exprE l j x hx] at hck
      rw [show exprE x = if CheckE x = 0 then (if x.k = 19 then 17 else 0) else CheckE x from rfl] at hck
      obtain ⟨k, hk⟩ : ∃ k, CheckE x = k := ⟨_, rfl⟩
      rw [hk] at HC hck
      obtain ⟨b19, hb19⟩ : ∃ b, (x.k == 19) = b := ⟨_, rfl⟩
      rw [show (if x.k = 19 then 17 else 0) = if b19 = true then 17 else 0 from by rw [← hb19]; simp] at hck
      have HB := Lib.hid hbel
      have HCK := Lib.hid hck
      clear g0 g1 g2 g3 hxa hx hck hbel hk
      go_wp2_with fail
      have t0 := Blk.new wr 26 [.int .i64 x.k, .string x.s, .slice xna xnn xnc, .slice xla xln xlc]
      refine (HC.out _ (HB.out.to_alloc _)).mono ?_
      rintro e2 w2 ⟨rfl, hb2⟩
      have c0 := (t0.bel hb2).at 0
      have HB2 := Lib.hid (HB.out.trans ((Bel.alloc _ _).trans hb2))
      clear t0 hb2 HC
      by_cases hk0 : k = 0
      · subst hk0
        cases b19
        · go_wp2_with fail
          exact ⟨⟨j + 1, by omega, by go_num, HB2.out, by have := HCK.out; simpa using this⟩, by simp [intOf]; omega⟩
        · have HF : Hid (17 = R) := Lib.hid (by have := HCK.out; simpa using this)
          clear HCK
          go_wp2_with fail
          go_ret
          exact ⟨ret_int (by rw [← HF.out]; rfl), HB2.out⟩
      · have hc2 : ((k : Int) == 0) = false := by simpa using hk0
        have hc3 : ((k : Int) != 0) = true := by simpa using hk0
        have HF : Hid (k = R) := Lib.hid (by have := HCK.out; simpa [hk0] using this)
        clear hk0 HCK
        go_wp2_with fail
        go_ret
        exact ⟨ret_int (by rw [HF.out]), HB2.out⟩
    · obtain rfl : j = n := by omega
      rw [nz_map_end _ _ _ (by have := HM.out; omega)] at hck
      subst hck
      go_wp2_with fail
      go_ret
      exact ⟨rfl, hbel⟩

set_option maxRecDepth 100000 in
set_option maxHeartbeats 4000000 in
theorem ueach_c (l : List Ex) (a : Option Addr) (n c : Nat) (w : World) (hE : EnvX w) (hn : l.length = n) (hn2 : n ≤ 1073741824) (hbk : ∀ x ∈ l, x.bulk ≤ 1073741824) (hps : PartsAt w a l) :
    Calls Tryz.prog 127 #[.slice a n c, .func (.func 96) #[] #[]] w (RetBel (.int .i64 (nz (l.map CheckE) : Nat)) w) := by
  obtain ⟨R, hR⟩ : ∃ R, nz (l.map CheckE) = R := ⟨_, rfl⟩
  rw [hR]
  have HR := Lib.hid hR
  have HM := Lib.hid hn
  have PS := Lib.hid hps
  have HBK := Lib.hid hbk
  have HE := Lib.hid hE
  have hen := fun args w1 => enters_of Tryz.func96 (by kernel_rfl) rfl args w1
  clear hR hn hps hbk hE
  go_enter Tryz.func127, Tryz.ntmps127
  go_wp2_with fail
  go_loopw [10] (fun i wr => ∃ j : Nat, j ≤ n ∧ i = .int .i64 j ∧ Bel w wr ∧ nz ((l.drop j).map CheckE) = R) (fun i _ => n - (intOf i).toNat)
  case atStart => exact ⟨0, Nat.zero_le _, rfl, Bel.refl _, HR.out⟩
  case round =>
    obtain ⟨j, hj, rfl, hbel, hck⟩ := hrel
    by_cases hlt : j < n
    · have hlti : (j : Int) < n := by omega
      obtain ⟨x, hx⟩ : ∃ x, l[j]? = some x := ⟨_, List.getElem?_eq_getElem (by have := HM.out; omega)⟩
      obtain ⟨b, off, xna, xnn, xnc, xla, xln, xlc, rfl, g0, g1, g2, g3, hxa⟩ := PS.out j x hx
      have f0 := hbel.keep g0
      have f1 := hbel.keep g1
      have f2 := hbel.keep g2
      have f3 := hbel.keep g3
      have HC := Lib.hid (fun W (hW : Bel w W) => check_x x _ _ W (HE.out.bel hW) (HBK.out x (List.mem_of_getElem? hx)) (ExAt.bel hW x hxa))
      rw [nz_map_drop CheckE l j x hx] at hck
      obtain ⟨k, hk⟩ : ∃ k, CheckE x = k := ⟨_, rfl⟩
      rw [hk] at HC hck
      have HB := Lib.hid hbel
      have HCK := Lib.hid hck
      clear g0 g1 g2 g3 hxa hx hck hbel hk
      go_wp2_with fail
      refine (HC.out _ (HB.out.to_alloc _)).mono ?_
      rintro e2 w2 ⟨rfl, hb2⟩
      have HB2 := Lib.hid (HB.out.trans ((Bel.alloc _ _).trans hb2))
      clear hb2 HC
      by_cases hk0 : k = 0
      · subst hk0
        go_wp2_with fail
        exact ⟨⟨j + 1, by omega, by go_num, HB2.out, by have := HCK.out; simpa using this⟩, by simp [intOf]; omega⟩
      · have hc2 : ((k : Int) == 0) = false := by simpa using hk0
        have hc3 : ((k : Int) != 0) = true := by simpa using hk0
        have HF : Hid (k = R) := Lib.hid (by have := HCK.out; simpa [hk0] using this)
        clear hk0 HCK
        go_wp2_with fail
        go_ret
        exact ⟨ret_int (by rw [HF.out]), HB2.out⟩
    · obtain rfl : j = n := by omega
      rw [nz_map_end _ _ _ (by have := HM.out; omega)] at hck
      subst hck
      go_wp2_with fail
      go_ret
      exact ⟨rfl, hbel⟩
end Go.Proofs.YtchbhcjhoocjaaaGreatDoor
