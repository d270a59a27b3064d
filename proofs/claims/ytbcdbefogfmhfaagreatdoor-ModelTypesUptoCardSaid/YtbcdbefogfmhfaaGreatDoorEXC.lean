/-
  expr: what Free keeps: how often names are bound, which are found; how much is written.
  expr: the walk of find.
  expr: the walk of Free.
  expr: the walk of Scoped.
-/
import Derived.Test.YtbcdbefogfmhfaaGreatDoorEXB
import Derived.Maps.OwnSet
import Derived.Maps.OwnOps
import Derived.Sort.KeysCollected
import Derived.StringKeys
import Derived.Deep.DeepCutAuto
import Derived.BigQuiet
import Derived.Deep.QuietTactic
import Derived.Test.YtbcdbefogfmhfaaGreatDoorSPA
import Derived.Maps.RangeWalk
import Derived.Carry
namespace Go.Proofs.YtbcdbefogfmhfaaGreatDoor
open Go.RowKit Go.Maps
theorem given_mem {k : Int} {s : ByteArray} {ns : List ByteArray} {i : Nat} {x : ByteArray} (h : x ∈ givenK k s ns i) : x ∈ ns ∨ x = s ∨ x = ⟨#[105, 116, 101, 109]⟩ := by
  unfold givenK at h
  split at h
  · exact .inl h
  · split at h
    · exact .inl (List.mem_of_mem_take h)
    · split at h
      · cases h
      · split at h
        · exact .inr (.inr (List.mem_singleton.1 h))
        · split at h
          · exact .inr (.inl (List.mem_singleton.1 h))
          · cases h
/-- A name as a map's key. -/
def keyS (s : ByteArray) : Lit := .string s.data.toList
theorem keyS_ne {a b : ByteArray} (h : a ≠ b) : keyS a ≠ keyS b := fun e => h (data_ext (by unfold keyS at e; injection e))
/-- How often a name stands there. -/
def cnt (s : ByteArray) (B : List ByteArray) : Nat := B.countP fun x => decide (x = s)
/-- How often each name is bound. -/
def CntD (D : DataW Unit) (B : List ByteArray) : Prop := IsMap D ∧ ∀ s : ByteArray, D.atKey (keyS s) (.lit (.int .i64 0)) = .lit (.int .i64 (cnt s B))
theorem CntD.start : CntD (.map []) [] := ⟨isMap_empty, fun _ => rfl⟩
theorem CntD.at {D : DataW Unit} {B : List ByteArray} (h : CntD D B) {s : ByteArray} {c : Int} (hat : D.atKey (keyS s) (.lit (.int .i64 0)) = .lit (.int .i64 c)) : c = cnt s B := by
  rw [h.2 s] at hat
  simp at hat
  exact hat.symm
theorem CntD.put {D : DataW Unit} {B B' : List ByteArray} (h : CntD D B) (s : ByteArray) {c : Int} (hc : c = cnt s B') (ho : ∀ x, x ≠ s → cnt x B' = cnt x B) : CntD (D.put (keyS s) (.lit (.int .i64 c))) B' := by
  refine ⟨h.1.put _ _, fun x => ?_⟩
  by_cases hx : x = s
  · subst hx
    rw [atKey_put_same h.1 (by trivial), hc]
  · rw [atKey_put_other (keyS_ne hx), h.2 x, ho x hx]
/-- Which names are found. -/
def HasD (D : DataW Unit) (F : List ByteArray) : Prop := IsMap D ∧ ∀ s : ByteArray, Maps.has D (keyS s) = decide (s ∈ F)
theorem HasD.start : HasD (.map []) [] := ⟨isMap_empty, fun _ => by simp [Maps.has]⟩
theorem HasD.put {D : DataW Unit} {F : List ByteArray} (h : HasD D F) (s : ByteArray) (d : DataW Unit) : HasD (D.put (keyS s) d) (F ++ [s]) := by
  refine ⟨h.1.put _ _, fun x => ?_⟩
  by_cases hx : x = s
  · subst hx
    rw [has_put_same h.1 (by trivial)]
    simp
  · rw [has_put_other (keyS_ne hx), h.2 x]
    simp [hx]
/-- Nothing but two blocks has turned. -/
structure But (p q : Nat) (w w' : World) : Prop where
  os : w'.os = w.os
  tape : w'.tape = w.tape
  output : w'.output = w.output
  size : w.heap.size ≤ w'.heap.size
  block : ∀ k, k < w.heap.size → k ≠ p → k ≠ q → w'.heap[k]? = w.heap[k]?
theorem But.refl (p q : Nat) (w : World) : But p q w w := ⟨rfl, rfl, rfl, Nat.le_refl _, fun _ _ _ _ => rfl⟩
theorem But.trans {p q : Nat} {a b c : World} (h : But p q a b) (k : But p q b c) : But p q a c :=
  ⟨k.os.trans h.os, k.tape.trans h.tape, k.output.trans h.output, Nat.le_trans h.size k.size, fun i hi h1 h2 => (k.block i (Nat.lt_of_lt_of_le hi h.size) h1 h2).trans (h.block i hi h1 h2)⟩
theorem Bel.but {w w' : World} (h : Bel w w') (p q : Nat) : But p q w w' := ⟨Below.os h, Below.tape h, Below.output h, Bel.size h, fun _ hk _ _ => h.block hk⟩
theorem But.of_p {p q : Nat} {w w' : World} (h : w.grownBy w' (some p)) : But p q w w' := ⟨h.os, h.tape, h.output, h.size, fun k hk h1 _ => h.block k hk (fun e => h1 (Option.some.inj e))⟩
theorem But.keep {p q : Nat} {w w' : World} (h : But p q w w') {b o : Nat} {v : Value} (hc : w.cell? ⟨b, o, none⟩ = some v) (h1 : b ≠ p) (h2 : b ≠ q) : w'.cell? ⟨b, o, none⟩ = some v := by
  rw [← hc]
  exact World.cell?_of_block (w := w) (a := ⟨b, o, none⟩) (h.block b (cell_lt hc) h1 h2)
theorem But.bel {p q : Nat} {u w w' : World} (h : But p q w w') (hb : Bel u w) (h1 : u.heap.size ≤ p) (h2 : u.heap.size ≤ q) : Bel u w' :=
  ⟨h.os.trans (Below.os hb), h.tape.trans (Below.tape hb), h.output.trans (Below.output hb), Nat.le_trans hb.size h.size, fun k hk => (h.block k (Nat.lt_of_lt_of_le hk hb.size) (by omega) (by omega)).trans (hb.block hk)⟩
/-- What a finder holds: two maps. -/
structure FindW (u W : World) (po bb bf : Nat) (B F : List ByteArray) (n : Nat) : Prop where
  bel : Bel u W
  lb : u.heap.size ≤ bb
  lf : u.heap.size ≤ bf
  nbf : bb ≠ bf
  nbo : po ≠ bb
  nfo : po ≠ bf
  c0 : W.cell? ⟨po, 0, none⟩ = some (.map (some bb))
  c1 : W.cell? ⟨po, 1, none⟩ = some (.map (some bf))
  bound : ∃ D, W.ownsMap Tryz.prog 9 (plainElem Tryz.prog 3) bb n D ∧ CntD D B
  found : ∃ D, W.ownsMap Tryz.prog 9 (plainElem Tryz.prog 4) bf n D ∧ HasD D F
  len : B.length ≤ n
theorem FindW.mono {u W : World} {po bb bf : Nat} {B F : List ByteArray} {n n' : Nat} (h : FindW u W po bb bf B F n) (hn : n ≤ n') : FindW u W po bb bf B F n' := by
  obtain ⟨h1, h2, h3, h4, h5, h6, h7, h8, ⟨D, h9, h10⟩, ⟨D', h11, h12⟩, h13⟩ := h
  exact ⟨h1, h2, h3, h4, h5, h6, h7, h8, ⟨D, h9.mono hn, h10⟩, ⟨D', h11.mono hn, h12⟩, Nat.le_trans h13 hn⟩
theorem FindW.to {u W W' : World} {po bb bf : Nat} {B F : List ByteArray} {n : Nat} (h : FindW u W po bb bf B F n) (hb : Bel W W') : FindW u W' po bb bf B F n := by
  obtain ⟨h1, h2, h3, h4, h5, h6, h7, h8, ⟨D, h9, h10⟩, ⟨D', h11, h12⟩, h13⟩ := h
  exact ⟨h1.trans hb, h2, h3, h4, h5, h6, hb.keep h7, hb.keep h8, ⟨D, own_mapBel h9 hb, h10⟩, ⟨D', own_mapBel h11 hb, h12⟩, h13⟩
end Go.Proofs.YtbcdbefogfmhfaaGreatDoor

namespace Go.Proofs.YtbcdbefogfmhfaaGreatDoor
open Go.RowKit Go.Maps
theorem own_cell_ne {P : Program} {k : TypeId} {R : Value → Option (DataW Unit × List MemPlace)} {w : World} {b n : Nat} {D : DataW Unit} (h : w.ownsMap P k R b n D) {c o : Nat} {v : Value} (hc : w.cell? ⟨c, o, none⟩ = some v) : c ≠ b := by
  obtain ⟨es, ck, hh, _⟩ := h
  rintro rfl
  simp [World.cell?, hh] at hc
theorem FindW.keep {u W W' : World} {po bb bf : Nat} {B F : List ByteArray} {n : Nat} (h : FindW u W po bb bf B F n) (hb : But bb bf W W') {c o : Nat} {v : Value} (hc : W.cell? ⟨c, o, none⟩ = some v) : W'.cell? ⟨c, o, none⟩ = some v := by
  obtain ⟨D, h1, _⟩ := h.bound
  obtain ⟨D', h2, _⟩ := h.found
  exact hb.keep hc (own_cell_ne h1 hc) (own_cell_ne h2 hc)
theorem FindW.names {u W W' : World} {po bb bf : Nat} {B F : List ByteArray} {n : Nat} (h : FindW u W po bb bf B F n) (hb : But bb bf W W') {a : Option Addr} {l : List ByteArray} (hn : NamesAt W a l) : NamesAt W' a l := fun j x hx => by
  obtain ⟨b, off, h1, h2⟩ := hn j x hx
  exact ⟨b, off, h1, h.keep hb h2⟩
theorem Blk.but {u W W' : World} {po bb bf : Nat} {B F : List ByteArray} {n : Nat} {b t : Nat} {l : List Value} (ht : Blk W b t l) (h : FindW u W po bb bf B F n) (hb : But bb bf W W') : Blk W' b t l := by
  obtain ⟨D, ⟨es, ck, h1, _⟩, _⟩ := h.bound
  obtain ⟨D', ⟨es', ck', h2, _⟩, _⟩ := h.found
  unfold Blk at ht ⊢
  rw [← ht]
  exact hb.block b (Array.getElem?_eq_some_iff.1 ht).1 (by rintro rfl; rw [h1] at ht; cases ht) (by rintro rfl; rw [h2] at ht; cases ht)
end Go.Proofs.YtbcdbefogfmhfaaGreatDoor

namespace Go.Proofs.YtbcdbefogfmhfaaGreatDoor
open Go.RowKit Go.Maps
theorem info_str4 : (Tryz.prog.info? 9).map (fun i => (i.zero, i.size, i.bytes)) = some (some (.string ⟨#[]⟩), 1, 16) := by kernel_rfl
end Go.Proofs.YtbcdbefogfmhfaaGreatDoor

namespace Go.Proofs.YtbcdbefogfmhfaaGreatDoor
open Go.RowKit Go.Maps
theorem withS_err {N l : List ByteArray} {r : Option (List ByteArray) × Nat} (h : withS N l = r) : (∃ M, r = (some M, 0)) ∨ (∃ c, r = (none, c) ∧ c ≠ 0) := by
  subst h
  unfold withS
  split
  · exact .inr ⟨6, rfl, by decide⟩
  · split
    · exact .inr ⟨19, rfl, by decide⟩
    · exact .inl ⟨_, rfl⟩
theorem given_size {e : Ex} {i : Nat} (hb : e.bulk ≤ 1073741824) : ∀ x ∈ givenK e.k e.s e.ns i, x.size ≤ 4294967280 := fun x hx => by
  rcases given_mem hx with h | h | h
  · have := bulk_name h; omega
  · subst h; have := bulk_s e; omega
  · subst h; decide
theorem given_len {e : Ex} {i : Nat} (hb : e.bulk ≤ 1073741824) : (givenK e.k e.s e.ns i).length ≤ 1073741824 := by
  have h1 := len_names e.ns
  have h2 := bulk_eq e
  unfold givenK
  split
  · omega
  · split
    · rw [List.length_take]; omega
    · split
      · simp
      · split
        · simp
        · split <;> simp
set_option maxRecDepth 100000 in
set_option maxHeartbeats 8000000 in
theorem scoped_e : ∀ (n : Nat) (e : Ex), e.bulk ≤ n → n ≤ 1073741824 → ∀ (vn vl v : Value) (N : List ByteArray) (w : World), EnvX w → ScopeIs w v N → ExAt w e vn vl →
    Calls Tryz.prog 44 #[.agg #[.int .i64 e.k, .string e.s, vn, vl], v] w (RetBel (.int .i64 (scopedE e N)) w) := by
  intro n
  induction n with
  | zero => intro e he; exfalso; have := bulk_eq e; omega
  | succ n ih =>
    intro e he hn vn vl v N w hE hsc hat
    have HAT := Lib.hid hat
    obtain ⟨po, rfl⟩ := scope_ptr hsc
    obtain ⟨na, la, nn, nc, m, lc, rfl, rfl, hnn, hm, hnc, hlc, hnb, hmb, hns, hps⟩ := hat.opened
    have HG := Lib.hid (fun (i : Nat) W (hb : Bel w W) (hi : i ≤ 1073741824) => given_c e _ _ i W (by omega) hi (ExAt.bel hb e HAT.out))
    have HW := Lib.hid (fun (i : Nat) W (hb : Bel w W) sl (hv : RowAt0 W sl (strsV (givenK e.k e.s e.ns i))) => with_c (.pointer po) N sl _ W (hE.1.bel hb) (hsc.bel hb) hv (by have := given_len (e := e) (i := i) (by omega); omega) (given_size (by omega)))
    have HH := Lib.hid (fun W (hb : Bel w W) => has_c (.pointer po) N e.s W (hsc.bel hb))
    have PS := Lib.hid hps
    have HM := Lib.hid hm
    have HE := Lib.hid hE
    have HS := Lib.hid hsc
    have HIH : Hid (∀ (x : Ex), x.bulk < e.bulk → ∀ xn xl u M W, EnvX W → ScopeIs W u M → ExAt W x xn xl → Calls Tryz.prog 44 #[.agg #[.int .i64 x.k, .string x.s, xn, xl], u] W (RetBel (.int .i64 (scopedE x M)) W)) := Lib.hid fun x hx xn xl u M W h1 h2 h3 => ih x (by omega) (by omega) xn xl u M W h1 h2 h3
    have hm2 : m ≤ 1073741824 := by omega
    obtain ⟨R, hR⟩ : ∃ R, scopedE e N = R := ⟨_, rfl⟩
    rw [hR]
    rw [scopedE_eq] at hR
    obtain ⟨k, hk⟩ : ∃ k, e.k = k := ⟨_, rfl⟩
    obtain ⟨b3, hb3⟩ : ∃ b, (k == 3) = b := ⟨_, rfl⟩
    rw [hk] at HG HW hR ⊢
    obtain ⟨F, hF⟩ : ∃ F, decide (e.s ∈ N) = F := ⟨_, rfl⟩
    rw [hF] at HH
    rw [show (if k = 3 ∧ e.s ∉ N then 13 else scopedsE k e.s e.ns 0 e.l N) = if (b3 && !F) = true then 13 else scopedsE k e.s e.ns 0 e.l N from by rw [← hb3, ← hF]; simp] at hR
    have HRR := Lib.hid hR
    clear ih hps hm hnn hns hat hE hR hsc hF hk
    go_enter Tryz.func44, Tryz.ntmps44
    go_upto_region 1 with fail
    have t0 := Blk.new w 38 [.int .i64 k, .string e.s, .slice na nn nc, .slice la m lc]
    have hb0 : Bel w (w.alloc (.cells #[.int .i64 k, .string e.s, .slice na nn nc, .slice la m lc] 38)) := Bel.alloc _ _
    go_cut [21] (fun v wx => v = .bool (b3 && !F) ∧ Bel (w.alloc (.cells #[.int .i64 k, .string e.s, .slice na nn nc, .slice la m lc] 38)) wx)
    case first =>
      cases b3 with
      | false =>
        go_wp2_with fail
        go_meet
        exact ⟨bool_eq (by simp), Bel.refl _⟩
      | true =>
        go_wp2_with fail
        refine (HH.out _ hb0).mono ?_
        rintro e1 w1 ⟨rfl, hb1⟩
        go_wp2_with fail
        go_meet
        exact ⟨bool_eq (by simp), hb1⟩
    case rest =>
    obtain ⟨rfl, hb1⟩ := hcut
    have t1 := t0.bel hb1
    have hbw := hb0.trans hb1
    generalize wc = w1 at t1 hbw ⊢
    have HB1 := Lib.hid hbw
    have T1 := Lib.hid t1
    have c3 := t1.at 3
    obtain ⟨Q, hQ⟩ : ∃ Q, (b3 && !F) = Q := ⟨_, rfl⟩
    rw [hQ] at HRR ⊢
    clear hQ hb3 t0 hb0 hb1 t1 hbw HH
    cases Q with
    | true =>
      have hf : R = 13 := by have := HRR.out; simp at this; exact this.symm
      have HFF := Lib.hid hf
      clear hf
      go_wp2_with fail
      go_ret
      exact ⟨ret_int (by rw [HFF.out]; rfl), HB1.out⟩
    | false =>
    have HR2 : Hid (scopedsE k e.s e.ns 0 e.l N = R) := Lib.hid (by have := HRR.out; simpa using this)
    clear HRR
    go_wp2_with fail
    go_loopw [25] (fun i wr => ∃ j : Nat, j ≤ m ∧ i = .int .i64 j ∧ Bel w1 wr ∧ scopedsE k e.s e.ns j (e.l.drop j) N = R) (fun i _ => m - (intOf i).toNat)
    case atStart => exact ⟨0, Nat.zero_le _, rfl, Bel.refl _, HR2.out⟩
    case round =>
      obtain ⟨j, hj, rfl, hbel, hck⟩ := hrel
      by_cases hlt : j < m
      · have hlti : (j : Int) < m := by omega
        obtain ⟨x, hx⟩ : ∃ x, e.l[j]? = some x := ⟨_, List.getElem?_eq_getElem (by have := HM.out; omega)⟩
        obtain ⟨b, off, xna, xnn, xnc, xla, xln, xlc, rfl, g0, g1, g2, g3, hxa⟩ := PS.out j x hx
        have hbw := HB1.out.trans hbel
        have f0 := hbw.keep g0
        have f1 := hbw.keep g1
        have f2 := hbw.keep g2
        have f3 := hbw.keep g3
        have d0 := hbel.keep (T1.out.at 0)
        have d1 := hbel.keep (T1.out.at 1)
        have d2 := hbel.keep (T1.out.at 2)
        have d3 := hbel.keep c3
        have hwl : w.heap.size < wr.heap.size := cell_lt d0
        rw [scopedsE_drop k e.s e.ns e.l N j x hx] at hck
        have HGJ : Hid (∀ W, Bel w W → Calls Tryz.prog 82 #[.agg #[.int .i64 k, .string e.s, .slice na nn nc, .slice (some ⟨b, off, none⟩) m lc], .int .i64 j] W (RetNames (givenK k e.s e.ns j) W)) := Lib.hid fun W hW => HG.out j W hW (by omega)
        have HWJ : Hid (∀ W (hb : Bel w W) sl (hv : RowAt0 W sl (strsV (givenK k e.s e.ns j))), Calls Tryz.prog 45 #[.pointer po, sl] W (RetWith (withS N (givenK k e.s e.ns j)) W)) := Lib.hid fun W hb sl hv => HW.out j W hb sl hv
        obtain ⟨G, hG⟩ : ∃ G, givenK k e.s e.ns j = G := ⟨_, rfl⟩
        rw [hG] at HGJ HWJ hck
        have HXC : Hid (∀ W u M, Bel w W → ScopeIs W u M → Calls Tryz.prog 44 #[.agg #[.int .i64 x.k, .string x.s, .slice xna xnn xnc, .slice xla xln xlc], u] W (RetBel (.int .i64 (scopedE x M)) W)) := Lib.hid fun W u M hb hs => HIH.out x (bulk_part hx) _ _ u M W (HE.out.bel hb) hs (ExAt.bel hb x hxa)
        have HCK := Lib.hid hck
        have HBW := Lib.hid hbw
        have HBL := Lib.hid hbel
        clear g0 g1 g2 g3 hxa hx hbel hck hbw hG HR2
        go_wp2_with fail
        refine (HGJ.out _ (HBW.out.to_alloc _)).mono ?_
        rintro e2 w2 ⟨ga, gn, gc, rfl, hgn, hgc, hgs, hb2⟩
        have y0 := (Blk.new wr 38 [.int .i64 x.k, .string x.s, .slice xna xnn xnc, .slice xla xln xlc]).bel hb2
        have HB2 := Lib.hid (HBW.out.trans ((Bel.alloc _ _).trans hb2))
        have HBL2 := Lib.hid (HBL.out.trans ((Bel.alloc _ _).trans hb2))
        have HRW := Lib.hid (hgs.row hgn hgc)
        have HGN := Lib.hid hgn
        have Y0 := Lib.hid y0
        clear hgn hgs hb2 y0 f0 f1 f2 f3 d0 d1 d2 d3 HGJ
        by_cases hz : gn = 0
        · subst hz
          have hG0 : G = [] := List.eq_nil_of_length_eq_zero HGN.out
          have hck := HCK.out
          unfold innerS at hck
          rw [if_pos hG0] at hck
          replace hck : (if scopedE x N = 0 then scopedsE k e.s e.ns (j + 1) (e.l.drop (j + 1)) N else scopedE x N) = R := hck
          have HX := Lib.hid (HXC.out w2 (.pointer po) N HB2.out (HS.out.bel HB2.out))
          obtain ⟨c, hc⟩ : ∃ c, scopedE x N = c := ⟨_, rfl⟩
          rw [hc] at HX hck
          have HCK2 := Lib.hid hck
          have z0 := Y0.out.at 0
          have z1 := Y0.out.at 1
          have z2 := Y0.out.at 2
          have z3 := Y0.out.at 3
          clear hck hc HCK HXC HWJ hG0
          go_wp2_with fail
          refine HX.out.mono ?_
          rintro e3 w3 ⟨rfl, hb3⟩
          have HB3 := Lib.hid hb3
          clear hb3 z0 z1 z2 z3 HX
          by_cases hc0 : c = 0
          · subst hc0
            go_wp2_with fail
            exact ⟨⟨j + 1, by omega, by go_num, HBL2.out.trans HB3.out, by have := HCK2.out; simpa using this⟩, by simp [intOf]; omega⟩
          · have hc2 : ((c : Int) == 0) = false := by simpa using hc0
            have hc3 : ((c : Int) != 0) = true := by simpa using hc0
            have HF : Hid (c = R) := Lib.hid (by have := HCK2.out; rwa [if_neg hc0] at this)
            clear hc0 HCK2
            go_wp2_with fail
            go_ret
            exact ⟨ret_int (by rw [HF.out]), HB2.out.trans HB3.out⟩
        · have hG0 : G ≠ [] := fun h => hz (by rw [← HGN.out, h]; rfl)
          have hzi : (0 : Int) < gn := by omega
          have hck := HCK.out
          unfold innerS at hck
          rw [if_neg hG0] at hck
          have HWW := HWJ.out w2 HB2.out _ (HRW.out.to0 (fun h => hG0 (by simpa [strsV] using h)))
          rcases withS_err (N := N) (l := G) (r := withS N G) rfl with ⟨M, hM⟩ | ⟨c, hM, hcz⟩
          · rw [hM] at hck HWW
            replace hck : (if scopedE x M = 0 then scopedsE k e.s e.ns (j + 1) (e.l.drop (j + 1)) N else scopedE x M) = R := hck
            have HX := Lib.hid (fun W u hb hs => HXC.out W u M hb hs)
            obtain ⟨c, hc⟩ : ∃ c, scopedE x M = c := ⟨_, rfl⟩
            rw [hc] at HX hck
            have HCK2 := Lib.hid hck
            have HW3 := Lib.hid HWW
            clear hck hc HCK HXC HWJ hG0 HWW hM hz
            go_wp2_with fail
            refine HW3.out.mono ?_
            rintro e3 w3 ⟨hb3, p, rfl, hsp⟩
            obtain ⟨pp, rfl⟩ := scope_ptr hsp
            have z0 := hb3.keep (Y0.out.at 0)
            have z1 := hb3.keep (Y0.out.at 1)
            have z2 := hb3.keep (Y0.out.at 2)
            have z3 := hb3.keep (Y0.out.at 3)
            have HX2 := Lib.hid (HX.out w3 _ (HB2.out.trans hb3) hsp)
            have HB3 := Lib.hid hb3
            clear hb3 hsp HX HW3
            go_wp2_with fail
            refine HX2.out.mono ?_
            rintro e4 w4 ⟨rfl, hb4⟩
            have HB4 := Lib.hid (HB3.out.trans hb4)
            clear hb4 z0 z1 z2 z3 HX2
            by_cases hc0 : c = 0
            · subst hc0
              go_wp2_with fail
              exact ⟨⟨j + 1, by omega, by go_num, HBL2.out.trans HB4.out, by have := HCK2.out; simpa using this⟩, by simp [intOf]; omega⟩
            · have hc2 : ((c : Int) == 0) = false := by simpa using hc0
              have hc3 : ((c : Int) != 0) = true := by simpa using hc0
              have HF : Hid (c = R) := Lib.hid (by have := HCK2.out; rwa [if_neg hc0] at this)
              clear hc0 HCK2
              go_wp2_with fail
              go_ret
              exact ⟨ret_int (by rw [HF.out]), HB2.out.trans HB4.out⟩
          · rw [hM] at hck HWW
            have HF : Hid (c = R) := Lib.hid hck
            have HW3 := Lib.hid HWW
            have hc2 : ((c : Int) == 0) = false := by simpa using hcz
            have hc3 : ((c : Int) != 0) = true := by simpa using hcz
            clear hck HCK HXC HWJ hG0 HWW hM hz hcz
            go_wp2_with fail
            refine HW3.out.mono ?_
            rintro e3 w3 ⟨hb3, rfl⟩
            go_wp2_with fail
            go_ret
            exact ⟨ret_int (by rw [HF.out]), HB2.out.trans hb3⟩
      · obtain rfl : j = m := by omega
        rw [scopedsE_end _ _ _ _ _ _ (by have := HM.out; omega)] at hck
        subst hck
        clear HR2
        go_wp2_with fail
        go_ret
        exact ⟨rfl, HB1.out.trans hbel⟩
end Go.Proofs.YtbcdbefogfmhfaaGreatDoor
