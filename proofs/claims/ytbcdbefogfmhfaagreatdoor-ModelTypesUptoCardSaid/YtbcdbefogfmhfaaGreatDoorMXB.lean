/-
  model: the walks of Basic, typed, numbers, name.
  model: the walk of needs.
  model: the walk of refs.
-/
import Derived.Test.YtbcdbefogfmhfaaGreatDoorMXA
import Derived.Test.YtbcdbefogfmhfaaGreatDoorOXB
import Derived.Laws.StructEq
namespace Go.Proofs.YtbcdbefogfmhfaaGreatDoor
open Go.RowKit Go.Maps

/-- The basic types as the variable has them. -/
def EnvB (w : World) : Prop := NamesAt w (some ⟨0, 0, none⟩) basicS
theorem EnvB.bel {w w' : World} (h : EnvB w) (hb : Bel w w') : EnvB w' := NamesAt.bel h hb
set_option maxRecDepth 100000 in
set_option maxHeartbeats 4000000 in
theorem basic_c (t : ByteArray) (w : World) (hB : EnvB w) : Calls Tryz.prog 20 #[.string t] w (RetBel (.bool (decide (t ∈ basicS))) w) := by
  have HC := Lib.hid (scontains_c (some ⟨0, 0, none⟩) 6 6 basicS t w rfl (by decide) hB)
  clear hB
  go_enter Tryz.func20, Tryz.ntmps20
  go_wp2_with fail
  refine HC.out.mono ?_
  rintro e w1 ⟨rfl, hb⟩
  go_wp2_with fail
  go_ret
  exact ⟨rfl, hb⟩
/-- A checker behind named. -/
structure CkS (u : World) (cb bb tb : Nat) (m : Md) (q : MdQ) (W : World) : Prop where
  bel : Bel u W
  bc : Blk W cb 93 (ckL m q bb tb)
  by' : ByM W bb m.things.length (atT m.things)
  ty : MapV W tb m.typ.length int0 (typC m.typ)
  at' : MdAt u m q
theorem CkS.go {u W W' : World} {cb bb tb : Nat} {m : Md} {q : MdQ} (h : CkS u cb bb tb m q W) (hb : Bel W W') : CkS u cb bb tb m q W' := ⟨h.bel.trans hb, h.bc.bel hb, h.by'.bel hb, h.ty.bel hb, h.at'⟩
set_option maxRecDepth 100000 in
set_option maxHeartbeats 4000000 in
theorem typed_c {u W : World} {cb bb tb : Nat} {m : Md} {q : MdQ} (h : CkS u cb bb tb m q W) (hB : EnvB u) (t : ByteArray) (ht : t.size ≤ 1073741824) :
    Calls Tryz.prog 96 #[.pointer (some ⟨cb, 0, none⟩), .string t] W (RetBel (.bool (typedM m t)) W) := by
  have HBC := Lib.hid (basic_c t W (hB.bel h.bel))
  have c8 : W.cell? ⟨cb, 8, none⟩ = some (.map (some tb)) := h.bc.at 8
  have hlk := mv_ask h.ty Tryz.underlying60 (zero_int W) (s := t) (by unfold maxLen; omega)
  rw [typC_some] at hlk
  unfold typedM
  clear h hB
  by_cases hm : t ∈ m.typ
  · rw [decide_eq_true hm] at hlk
    rw [decide_eq_true hm, Bool.true_or]
    have hx : (typC m.typ t).getD int0 = .int .i64 (idxB m.typ t) := by unfold typC; rw [if_pos hm]; rfl
    rw [hx] at hlk
    clear hx hm
    go_enter Tryz.func96, Tryz.ntmps96
    go_wp2_with fail
    go_ret
    exact ⟨rfl, Bel.refl _⟩
  · rw [decide_eq_false hm] at hlk
    rw [decide_eq_false hm, Bool.false_or]
    have hx : (typC m.typ t).getD int0 = .int .i64 0 := by unfold typC; rw [if_neg hm]; rfl
    rw [hx] at hlk
    clear hx hm
    go_enter Tryz.func96, Tryz.ntmps96
    go_wp2_with fail
    refine HBC.out.mono ?_
    rintro e w1 ⟨rfl, hb⟩
    go_wp2_with fail
    go_ret
    exact ⟨rfl, hb⟩
/-! Numbers of a kind's things. -/
/-- A row of numbers in a block of numbers. -/
def IntsB (W : World) (v : Value) (l : List Nat) : Prop := ∃ (a : Option Addr) (c : Nat), v = .slice a l.length c ∧ l.length ≤ c ∧ (l = [] ∨ ∃ g off cs fr, a = some ⟨g, off, none⟩ ∧ W.heap[g]? = some (.cells cs 3 fr) ∧ ∀ (j x : Nat), l[j]? = some x → cs[off + j]? = some (.int .i64 x))
theorem IntsB.keepT {W W' : World} {v : Value} {l : List Nat} {p : TypeId → Bool} (h : IntsB W v l) (k : KeepT p W W') (hp : p 3 = true) : IntsB W' v l := by
  obtain ⟨a, c, h1, h2, h3⟩ := h
  refine ⟨a, c, h1, h2, h3.imp id ?_⟩
  rintro ⟨g, off, cs, fr, h4, h5, h6⟩
  exact ⟨g, off, cs, fr, h4, (k.2 g cs _ fr h5 hp).trans h5, h6⟩
theorem IntsB.bel {W W' : World} {v : Value} {l : List Nat} (h : IntsB W v l) (hb : Bel W W') : IntsB W' v l := h.keepT (KeepT.of_bel (p := fun _ => true) hb) rfl
theorem IntsB.at' {W : World} {v : Value} {l : List Nat} (h : IntsB W v l) : ∃ a c, v = .slice a l.length c ∧ l.length ≤ c ∧ IntsAt W a l := by
  obtain ⟨a, c, h1, h2, h3⟩ := h
  refine ⟨a, c, h1, h2, fun j x hx => ?_⟩
  rcases h3 with rfl | ⟨g, off, cs, fr, h4, h5, h6⟩
  · cases hx
  · exact ⟨g, off, h4, by simp [World.cell?, h5, h6 j x hx]⟩
theorem intsB_own {B : Nat} {W : World} {v : Value} {l : List Nat} (h : OwnI B l W v) : IntsB W v l := by
  obtain ⟨hl, ⟨hv, h0⟩ | ⟨g, cap, cur, hv, hg, hh, hn, _, hsz, ht⟩⟩ := h
  · have : l = [] := List.eq_nil_of_length_eq_zero h0
    subst this
    exact ⟨none, 0, hv, Nat.le_refl _, .inl rfl⟩
  · refine ⟨some ⟨g, 0, none⟩, cap, hv, hn, .inr ⟨g, 0, _, _, rfl, hh, fun j x hx => ?_⟩⟩
    have h1 := ints_get hx
    have hj := (List.getElem?_eq_some_iff.1 hx).1
    rw [← ht, List.getElem?_take_of_lt (by omega)] at h1
    rw [Nat.zero_add]
    simpa using h1
theorem intsB_nil (W : World) : IntsB W (.slice none 0 0) [] := ⟨none, 0, rfl, Nat.le_refl _, .inl rfl⟩
theorem intsB_one (W : World) (i : Nat) : IntsB (W.alloc (.cells #[.int .i64 i] 3)) (.slice (some ⟨W.heap.size, 0, none⟩) 1 1) [i] := ⟨_, _, rfl, Nat.le_refl _, .inr ⟨W.heap.size, 0, _, _, rfl, World.alloc_heap_new _ _, fun j x hx => by
  cases j with
  | zero => cases hx; rfl
  | succ j => cases hx⟩⟩
def RetInts (N : List Nat) (w : World) (e : Ending) (w' : World) : Prop := ∃ v, e = .returned v ∧ IntsB w' v N ∧ Bel w w'
theorem numE_eq (T : List Thg) {k : Nat} (hk : k ≠ 0) (x : ByteArray) : numE T k x = if ((atT T x).getD (0, 0)).1 = k then some ((atT T x).getD (0, 0)).2 else none := by
  unfold numE
  cases atT T x with
  | none => exact (if_neg (fun h => hk h.symm)).symm
  | some y => rfl
theorem nums_snoc (T : List Thg) {k : Nat} (hk : k ≠ 0) (l : List ByteArray) (x : ByteArray) : numsM T k (l ++ [x]) = numsM T k l ++ if ((atT T x).getD (0, 0)).1 = k then [((atT T x).getD (0, 0)).2] else [] := by
  unfold numsM
  rw [List.filterMap_append, List.filterMap_cons, numE_eq T hk x]
  by_cases h : ((atT T x).getD (0, 0)).1 = k
  · rw [if_pos h, if_pos h]; rfl
  · rw [if_neg h, if_neg h]; rfl
theorem nums_le (T : List Thg) (k : Nat) (l : List ByteArray) : (numsM T k l).length ≤ l.length := by unfold numsM; exact List.length_filterMap_le _ _
set_option maxRecDepth 100000 in
set_option maxHeartbeats 8000000 in
theorem numbers_c {u W : World} {cb bb tb : Nat} {m : Md} {q : MdQ} (h : CkS u cb bb tb m q W) (l : List ByteArray) (a : Option Addr) (n c k : Nat) (kz : Int) (hkz : (k : Int) = kz) (hk : k ≠ 0) (hl : l.length = n) (hn : n ≤ 1048576) (hla : NamesAt W a l) (hls : ∀ x ∈ l, x.size ≤ 1073741824) :
    Calls Tryz.prog 65 #[.pointer (some ⟨cb, 0, none⟩), .slice a n c, .int .i64 kz] W (RetInts (numsM m.things k l) W) := by
  subst hkz
  have HS := Lib.hid h
  have HL := Lib.hid hl
  have HLA := Lib.hid hla
  have HLS := Lib.hid hls
  have HK := Lib.hid hk
  clear h hl hla hls hk
  have hinfo : (Tryz.prog.info? 3).map (fun i => (i.zero, i.size, i.bytes)) = some (some (.int .i64 0), 1, 8) := by kernel_rfl
  go_enter Tryz.func65, Tryz.ntmps65
  go_wp2_with fail
  go_loopw [7, 13] (fun o i wr => ∃ (j sn : Nat) (oa : Option Addr) (oc : Nat), i = .int .i64 j ∧ o = .slice oa sn oc ∧ j ≤ n ∧ sn ≤ j ∧ Hid ((numsM m.things k (l.take j)).length = sn ∧ OwnI W.heap.size (numsM m.things k (l.take j)) wr (.slice oa sn oc)) ∧ Hid (Bel W wr)) (fun _ i _ => n - (intOf i).toNat)
  case atStart => exact ⟨0, 0, none, 0, rfl, rfl, Nat.zero_le _, Nat.le_refl _, Lib.hid ⟨rfl, World.ownsRow_nil _ _ _ _⟩, Lib.hid (Bel.refl _)⟩
  case round =>
    obtain ⟨j, sn, oa, oc, rfl, rfl, hj, hsn, HOW, HB⟩ := hrel
    by_cases hjn : j < n
    · as_aux_lemma =>
      have hji : (j : Int) < n := by omega
      obtain ⟨x, hx⟩ : ∃ x, l[j]? = some x := ⟨_, List.getElem?_eq_getElem (by have := HL.out; omega)⟩
      obtain ⟨b, off, rfl, g0⟩ := HLA.out j x hx
      have f0 := HB.out.keep g0
      have c7 : wr.cell? ⟨cb, 7, none⟩ = some (.map (some bb)) := (HS.out.bc.bel HB.out).at 7
      have hlk := by_look (HS.out.by'.bel HB.out) (s := x) (by have := HLS.out x (List.mem_of_getElem? hx); unfold maxLen; omega)
      have hst := nums_snoc m.things HK.out (l.take j) x
      rw [show l.take j ++ [x] = l.take (j + 1) from by rw [List.take_add_one, hx]; rfl] at hst
      obtain ⟨y, hy⟩ : ∃ y, (atT m.things x).getD (0, 0) = y := ⟨_, rfl⟩
      obtain ⟨y1, y2⟩ := y
      rw [hy] at hlk hst
      dsimp only at hst
      unfold thgV at hlk
      dsimp only at hlk
      obtain ⟨V, hV, hxV, hbV, hsV⟩ := alloc_step wr 90 [.int .i64 y1, .int .i64 y2]
      obtain ⟨ib, hib⟩ : ∃ x, wr.heap.size = x := ⟨_, rfl⟩
      rw [hib] at hxV
      have z0 : V.cell? ⟨ib, 0, none⟩ = some (.int .i64 y1) := hxV.at 0
      have z1 : V.cell? ⟨ib, 1, none⟩ = some (.int .i64 y2) := hxV.at 1
      have HBV := Lib.hid (HB.out.trans hbV)
      have HOV := Lib.hid (own_bel HOW.out.2 hbV)
      have HVN := Lib.hid hV
      have HIB := Lib.hid hib
      have hV8 := hV
      clear hx hy g0 hV hxV hbV hsV hib hV8
      go_upto_region 6 with fail
      rw [show wr.alloc (.cells #[.int .i64 y1, .int .i64 y2] 90) = V from HVN.out, HIB.out]
      clear HVN hlk f0 c7
      by_cases hk : y1 = k
      · subst hk
        rw [if_pos rfl] at hst
        have HX : Hid ((numsM m.things y1 (l.take (j + 1))).length = sn + 1 ∧ ints (numsM m.things y1 (l.take (j + 1))) = ints (numsM m.things y1 (l.take j)) ++ [.int .i64 y2]) := Lib.hid (by rw [hst, List.length_append, HOW.out.1, ints_snoc]; exact ⟨rfl, rfl⟩)
        have HOW1 : Hid (V.ownsRow W.heap.size 3 1 (.slice oa sn oc) sn (ints (numsM m.things y1 (l.take j)))) := Lib.hid (by have := HOV.out; unfold OwnI at this; rwa [HOW.out.1] at this)
        have hyy : ((y1 : Int) == y1) = true := by simp
        clear hst HOW HOV
        go_wp2_with (at_builtin; refine wpL_append1 rfl _ _ 84 rfl W 3 (.int .i64 0) 1 8 Tryz.underlying84 hinfo rfl (by decide) (by decide) _ sn _ rfl (HOW1.out.alloc _) ⟨V.heap.size, 0, none⟩ 1 [.int .i64 y2] rfl rfl (cell_one_new _ _ _) (by simp [Value.oneCell']) (by omega) (HBV.out.to_alloc _) ?_; intro g cap w4 hown4 hb4 _; have HOW4 : Hid ((numsM m.things y1 (l.take (j + 1))).length = sn + 1 ∧ OwnI W.heap.size (numsM m.things y1 (l.take (j + 1))) w4 (.slice (some ⟨g, 0, none⟩) (sn + 1) cap)) := Lib.hid ⟨HX.out.1, by unfold OwnI; rw [HX.out.1, HX.out.2]; exact hown4⟩; have HB4 := Lib.hid hb4; clear hown4 hb4)
        exact ⟨⟨j + 1, sn + 1, _, _, by go_num, rfl, by omega, by omega, HOW4, HB4⟩, by simp [intOf]; omega⟩
      · rw [if_neg hk, List.append_nil] at hst
        have hyy : ((y1 : Int) == k) = false := by simp; omega
        have HX : Hid ((numsM m.things k (l.take (j + 1))).length = sn ∧ OwnI W.heap.size (numsM m.things k (l.take (j + 1))) V (.slice oa sn oc)) := Lib.hid (by rw [hst]; exact ⟨HOW.out.1, HOV.out⟩)
        clear hst HOW HOV hk
        go_wp2_with fail
        exact ⟨⟨j + 1, sn, _, _, by go_num, rfl, by omega, by omega, HX, HBV⟩, by simp [intOf]; omega⟩
    · have hji : ¬ (j : Int) < n := by omega
      have HZ : Hid (IntsB wr (.slice oa sn oc) (numsM m.things k l)) := Lib.hid (by
        have h1 := HOW.out
        rw [List.take_of_length_le (by have := HL.out; omega)] at h1
        exact intsB_own h1.2)
      clear HOW
      go_wp2_with fail
      go_ret
      exact ⟨_, rfl, HZ.out, HB.out⟩
/-! Rows of rows of numbers. -/
structure RowsI (B : Nat) (N : List (List Nat)) (v : Value) (W : World) : Prop where
  own : ∃ vs : List Value, W.ownsRow B 84 1 v N.length vs ∧ vs.length = N.length ∧ ∀ (k : Nat) x l, vs[k]? = some x → N[k]? = some l → IntsB W x l
theorem RowsI.bel {B : Nat} {N : List (List Nat)} {v : Value} {W W' : World} (h : RowsI B N v W) (hb : Bel W W') : RowsI B N v W' := by
  obtain ⟨vs, h1, h2, h3⟩ := h.own
  exact ⟨vs, own_bel h1 hb, h2, fun k x l hk hl => (h3 k x l hk hl).bel hb⟩
theorem RowsI.nil (B : Nat) (W : World) : RowsI B [] (.slice none 0 0) W := ⟨[], World.ownsRow_nil _ _ _ _, rfl, fun k x l hk => by cases hk⟩
theorem RowsI.at' {B : Nat} {N : List (List Nat)} {v : Value} {W : World} (h : RowsI B N v W) : ∃ a c, v = .slice a N.length c ∧ N.length ≤ c ∧ NeedsAt W a N := by
  obtain ⟨vs, ⟨hl, ⟨hv, h0⟩ | ⟨g, cap, cur, hv, hg, hh, hn, _, hsz, ht⟩⟩, h2, h3⟩ := h.own
  · have : N = [] := List.eq_nil_of_length_eq_zero h0
    subst this
    exact ⟨none, 0, hv, Nat.le_refl _, fun j x hx => by cases hx⟩
  · refine ⟨some ⟨g, 0, none⟩, cap, hv, hn, fun j l hx => ?_⟩
    have hj := (List.getElem?_eq_some_iff.1 hx).1
    obtain ⟨x, hxv⟩ : ∃ x, vs[j]? = some x := ⟨_, List.getElem?_eq_getElem (by omega)⟩
    obtain ⟨la, lc, rfl, hlc, hia⟩ := (h3 j x l hxv hx).at'
    refine ⟨g, 0, la, lc, rfl, ?_, hlc, hia⟩
    rw [← ht, List.getElem?_take_of_lt (by omega)] at hxv
    rw [Nat.zero_add]
    simpa [World.cell?, hh] using hxv
theorem RowsI.snoc {B n oc g cap : Nat} {N : List (List Nat)} {oa : Option Addr} {W W' : World} {x : Value} {l : List Nat} {vs : List Value} (h1 : W.ownsRow B 84 1 (.slice oa n oc) n vs) (h2 : vs.length = N.length) (hn : N.length = n) (h3 : ∀ (k : Nat) x l, vs[k]? = some x → N[k]? = some l → IntsB W x l) (hx : IntsB W x l)
    (hown : W'.ownsRow B 84 1 (.slice (some ⟨g, 0, none⟩) (n + 1) cap) (n + 1) (vs ++ [x])) (hg : W.grownBy W' (Value.slice oa n oc).ownBlock) : RowsI B (N ++ [l]) (.slice (some ⟨g, 0, none⟩) (n + 1) cap) W' := by
  have hk : KeepT (fun t => !(t == 84)) W W' := KeepT.grow h1 (by decide) hg
  refine ⟨vs ++ [x], by rw [List.length_append, List.length_singleton, hn]; exact hown, by rw [List.length_append, List.length_append, h2]; rfl, fun k y r hy hr => ?_⟩
  by_cases hkn : k < N.length
  · rw [List.getElem?_append_left (by omega)] at hy
    rw [List.getElem?_append_left hkn] at hr
    exact (h3 k y r hy hr).keepT hk (by decide)
  · rw [List.getElem?_append_right (by omega)] at hy
    rw [List.getElem?_append_right (by omega)] at hr
    rw [h2] at hy
    cases hd : k - N.length with
    | zero =>
      rw [hd] at hy hr
      cases hy
      cases hr
      exact hx.keepT hk (by decide)
    | succ z => rw [hd] at hy; cases hy
end Go.Proofs.YtbcdbefogfmhfaaGreatDoor

namespace Go.Proofs.YtbcdbefogfmhfaaGreatDoor
open Go.RowKit Go.Maps

def RetRows (N : List (List Nat)) (w : World) (e : Ending) (w' : World) : Prop := ∃ v, e = .returned v ∧ RowsI w.heap.size N v w' ∧ Bel w w'
theorem info_row : (Tryz.prog.info? 84).map (fun i => (i.zero, i.size, i.bytes)) = some (some (.slice none 0 0), 1, 24) := by kernel_rfl
set_option maxRecDepth 100000 in
set_option maxHeartbeats 8000000 in
theorem needs_c {u W : World} {cb bb tb : Nat} {m : Md} {q : MdQ} (h : CkS u cb bb tb m q W) (hbk : m.bulk ≤ 1048576) :
    Calls Tryz.prog 37 #[.pointer (some ⟨cb, 0, none⟩)] W (RetRows (needsM m) W) := by
  have HS := Lib.hid h
  have HBK := Lib.hid hbk
  obtain ⟨da, hda⟩ : ∃ a, q.da = a := ⟨_, rfl⟩
  obtain ⟨dn, hdn⟩ : ∃ a, q.dm = a := ⟨_, rfl⟩
  obtain ⟨dc, hdc⟩ : ∃ a, q.dc = a := ⟨_, rfl⟩
  have c6 : W.cell? ⟨cb, 6, none⟩ = some (.slice da dn dc) := by rw [← hda, ← hdn, ← hdc]; exact h.bc.at 6
  have HDS : Hid (DesAt u da m.des ∧ m.des.length = dn ∧ dn ≤ 1048576) := Lib.hid ⟨hda ▸ h.at'.des, hdn ▸ h.at'.ld, by have := m.bulk_len; have := h.at'.ld; omega⟩
  have hdn2 : dn ≤ 1048576 := HDS.out.2.2
  clear h hbk hda hdn hdc
  go_enter Tryz.func37, Tryz.ntmps37
  go_wp2_with fail
  go_loopw [3, 12] (fun o i wr => ∃ (j : Nat) (oa : Option Addr) (oc : Nat), i = .int .i64 j ∧ o = .slice oa j oc ∧ j ≤ dn ∧ Hid (RowsI W.heap.size ((needsM m).take j) (.slice oa j oc) wr) ∧ Hid (Bel W wr)) (fun _ i _ => dn - (intOf i).toNat)
  case atStart => exact ⟨0, none, 0, rfl, rfl, Nat.zero_le _, Lib.hid (RowsI.nil _ _), Lib.hid (Bel.refl _)⟩
  case round =>
    obtain ⟨j, oa, oc, rfl, rfl, hj, HRW, HB⟩ := hrel
    by_cases hjn : j < dn
    · as_aux_lemma =>
      have hji : (j : Int) < dn := by omega
      obtain ⟨x, hx⟩ : ∃ x, m.des[j]? = some x := ⟨_, List.getElem?_eq_getElem (by have := HDS.out; omega)⟩
      obtain ⟨b, off, rfl, vn, vk, qq, hcl, ⟨pa, pc, rfl, hpc, hpa⟩, ⟨ka, kc, rfl, _, _⟩, hlg⟩ := HDS.out.1 j x hx
      obtain ⟨nea, nen, nec, lea, len, lec, lia, lim, lic, sa, om, sc, ra, rm, rc, lna, lnm, lnc, la, lm, lc, rfl, _, _, _, _, _, _, _, _, _⟩ := hlg.opened
      obtain ⟨pn, hpn⟩ : ∃ n, x.nd.length = n := ⟨_, rfl⟩
      obtain ⟨kn, hkn⟩ : ∃ n, x.kw.length = n := ⟨_, rfl⟩
      rw [hpn, hkn] at hcl
      have hcl2 := hcl.bel (HS.out.bel.trans HB.out)
      have g0 := hcl2.get0
      have g1 := hcl2.get 1 rfl
      have g2 := hcl2.get 2 rfl
      have g3 := hcl2.get 3 rfl
      have g4 := hcl2.get 4 rfl
      have g5 := hcl2.get 5 rfl
      have g6 := hcl2.get 6 rfl
      have g7 := hcl2.get 7 rfl
      have g8 := hcl2.get 8 rfl
      have g9 := hcl2.get 9 rfl
      have g10 := hcl2.get 10 rfl
      have g11 := hcl2.get 11 rfl
      have g12 := hcl2.get 12 rfl
      have g13 := hcl2.get 13 rfl
      have g14 := hcl2.get 14 rfl
      have g15 := hcl2.get 15 rfl
      have hxb := Md.bulk_des (List.mem_of_getElem? hx)
      have hnn : (needsM m)[j]? = some (numsM m.things 3 x.nd) := by unfold needsM; rw [List.getElem?_map, hx]; rfl
      have hns : x.nd.length ≤ 1048576 ∧ ∀ y ∈ x.nd, y.size ≤ 1073741824 := by
        have := HBK.out
        have h1 : sumS x.nd ≤ 1048576 := by unfold De.bulk at hxb; omega
        exact ⟨by have := len_sumS x.nd; omega, fun y hy => by have := mem_sumS x.nd y hy; omega⟩
      obtain ⟨V, hV, hxV, hbV, hsV⟩ := alloc_step wr 46 (deL x (.slice pa pn pc) (.slice ka kn kc) ⟨.slice nea nen nec, .slice lea len lec, .slice lia lim lic, .slice sa om sc, .slice ra rm rc, .slice lna lnm lnc, .slice la lm lc⟩)
      obtain ⟨ib, hib⟩ : ∃ x, wr.heap.size = x := ⟨_, rfl⟩
      rw [hib] at hxV
      have z3 : V.cell? ⟨ib, 3, none⟩ = some (.slice pa pn pc) := hxV.at 3
      have HNU := Lib.hid (numbers_c (HS.out.go (HB.out.trans hbV)) x.nd pa pn pc 3 3 rfl (by decide) hpn (by omega) ((hpa.bel HS.out.bel).bel (HB.out.trans hbV)) hns.2)
      have HTK : Hid ((needsM m).take (j + 1) = (needsM m).take j ++ [numsM m.things 3 x.nd]) := Lib.hid (by rw [List.take_add_one, hnn]; rfl)
      have HTL : Hid (((needsM m).take j).length = j) := Lib.hid (by rw [List.length_take]; have := (List.getElem?_eq_some_iff.1 hnn).1; omega)
      have HBV := Lib.hid (HB.out.trans hbV)
      have HRV := Lib.hid (HRW.out.bel hbV)
      have HVN := Lib.hid hV
      have HIB := Lib.hid hib
      clear hx hcl hcl2 hpa hpc hlg hpn hkn hxb hnn hns hV hxV hbV hsV hib c6 HRW HB
      unfold deL lgC at HVN
      go_upto_region 5 with fail
      rw [show wr.alloc (.cells #[.string x.id, .string x.nm, .string x.ty, .slice pa pn pc, .slice ka kn kc, .int .i64 x.lg.k, .int .i64 x.lg.e.k, .string x.lg.e.s, .slice nea nen nec, .slice lea len lec, .string x.lg.p, .slice lia lim lic, .slice sa om sc, .slice ra rm rc, .slice lna lnm lnc, .slice la lm lc] 46) = V from HVN.out, HIB.out]
      clear HVN g0 g1 g2 g3 g4 g5 g6 g7 g8 g9 g10 g11 g12 g13 g14 g15
      go_wp2_with fail
      refine HNU.out.mono ?_
      rintro e5 w5 ⟨v5, rfl, hi5, hb5⟩
      have HB5 := Lib.hid (HBV.out.trans hb5)
      obtain ⟨a5, c5, rfl, hc5, _⟩ := hi5.at'
      obtain ⟨vs, hown, hvl, hvs⟩ := (HRV.out.bel hb5).own
      rw [HTL.out] at hown
      obtain ⟨nl, hnl⟩ : ∃ n, (numsM m.things 3 x.nd).length = n := ⟨_, rfl⟩
      rw [hnl] at hi5
      have HOWN := Lib.hid hown
      have HVL := Lib.hid hvl
      have HVS := Lib.hid hvs
      have HI5 := Lib.hid hi5
      rw [hnl]
      clear hown hvl hvs hi5 hnl hc5 hb5 z3 HNU HRV
      go_wp2_with (at_builtin; refine wpL_append1k rfl _ _ 87 rfl W.heap.size (by have := HB5.out.size; rw [World.size_alloc]; omega) 84 (.slice none 0 0) 1 24 Tryz.underlying87 info_row rfl (by decide) (by decide) _ j vs rfl (own_bel HOWN.out (Bel.alloc _ _)) ⟨w5.heap.size, 0, none⟩ 1 [.slice a5 nl c5] rfl rfl (cell_one_new _ _ _) (by simp [Value.oneCell']) (by omega) ?_; intro g cap w6 hown6 hg6; have HR6 := Lib.hid (RowsI.snoc (own_bel HOWN.out (Bel.alloc _ _)) HVL.out HTL.out (fun k x l hk hl => (HVS.out k x l hk hl).bel (Bel.alloc _ _)) (HI5.out.bel (Bel.alloc _ _)) hown6 hg6); have HB6 := Lib.hid (own_grown (own_bel HOWN.out (Bel.alloc _ _)) (HB5.out.to_alloc _) hg6 (Nat.le_refl _)); clear hown6 hg6)
      rw [← HTK.out] at HR6
      exact ⟨⟨j + 1, _, _, by go_num, rfl, by omega, HR6, HB6⟩, by simp [intOf]; omega⟩
    · have hji : ¬ (j : Int) < dn := by omega
      have HZ : Hid (RowsI W.heap.size (needsM m) (.slice oa j oc) wr) := Lib.hid (by
        have h1 := HRW.out
        rwa [List.take_of_length_le (by unfold needsM; rw [List.length_map]; have := HDS.out; omega)] at h1)
      clear HRW
      go_wp2_with fail
      go_ret
      exact ⟨_, rfl, HZ.out, HB.out⟩
end Go.Proofs.YtbcdbefogfmhfaaGreatDoor

namespace Go.Proofs.YtbcdbefogfmhfaaGreatDoor
open Go.RowKit Go.Maps

theorem thgFields : Tryz.prog.underlying 90 = some (.struct (Tryz.prog.fieldsOf 90)) := by kernel_rfl
theorem thgStood : Tryz.prog.stoodInHeld 90 = false := by kernel_rfl
def thgZ (a b : Nat) : Bool := decide ((a, b) = ((0, 0) : Nat × Nat))
set_option maxRecDepth 100000 in
theorem thg_eqFields (n : Nat) (a b : Nat) (w : World) :
    (Op.eqFields (n + 1) #[.int .i64 a, .int .i64 b] #[.int .i64 0, .int .i64 0] (Tryz.prog.fieldsOf 90).toList).run Tryz.prog w = .ok (thgZ a b) w := by
  have hfs := thgFields
  rw [Tryz.underlying90] at hfs
  have e1 : ∀ (s t : Int) w1, (Op.equalIn (n + 1) 3 (.int .i64 s) (.int .i64 t)).run Tryz.prog w1 = .ok (s == t) w1 := fun s t w1 => run_equalIn_int (P := Tryz.prog) w1 n 3 .i64 .i64 s t Tryz.underlying3
  have p0 : ∀ (x y : Value) w1, (part 3 #[x, y] 0).run Tryz.prog w1 = .ok x w1 := fun x y w1 => by kernel_rfl
  have p1 : ∀ (x y : Value) w1, (part 3 #[x, y] 1).run Tryz.prog w1 = .ok y w1 := fun x y w1 => by kernel_rfl
  have hfs2 := Option.some.inj hfs
  injection hfs2 with hfs3
  rw [← hfs3]
  clear hfs
  unfold thgZ
  by_cases h1 : a = 0
  · subst h1
    by_cases h2 : b = 0
    · subst h2
      simp [Op.eqFields, Sem.run_bind, p0, p1, e1, Result.andThen_ok]
    · simp [h2, Op.eqFields, Sem.run_bind, p0, p1, e1, Result.andThen_ok]
  · simp [h1, Op.eqFields, Sem.run_bind, p0, p1, e1, Result.andThen_ok]
theorem eql_thg (a b : Nat) (w : World) :
    (binOp .eql 90 (.agg #[.int .i64 a, .int .i64 b]) (.agg #[.int .i64 0, .int .i64 0])).run Tryz.prog w = .ok (.bool (thgZ a b)) w := by
  rw [run_eql_struct, show (10000 : Nat) = 9999 + 1 from rfl, run_equalIn_agg w 9999 90 _ _ thgFields thgStood, show (9999 : Nat) = 9998 + 1 from rfl, thg_eqFields]; rfl
theorem refsE_cons (T : List Thg) (ok : List Nat) (seen : List ByteArray) (x : ByteArray) (r : List ByteArray) : refsE T ok seen (x :: r) = match atT T x with
    | none => 15
    | some y => if y = (0, 0) ∨ y.1 ∉ ok then 15 else if x ∈ seen then 8 else refsE T ok (seen ++ [x]) r := rfl
set_option maxRecDepth 100000 in
set_option maxHeartbeats 8000000 in
theorem refs_c {u W : World} {cb bb tb : Nat} {m : Md} {q : MdQ} (h : CkS u cb bb tb m q W) (l : List ByteArray) (a : Option Addr) (n c : Nat) (hl : l.length = n) (hn : n ≤ 1048576) (hnc : n ≤ c) (hla : NamesAt W a l) (hls : ∀ x ∈ l, x.size ≤ 1073741824) (ok : List Nat) (ka : Option Addr) (kn kc : Nat) (hok : ok.length = kn) (hkn : kn ≤ 1048576) (hki : IntsAt W ka ok) :
    Calls Tryz.prog 97 #[.pointer (some ⟨cb, 0, none⟩), .slice a n c, .slice ka kn kc] W (RetBel (.int .i64 (refsE m.things ok [] l)) W) := by
  obtain ⟨R, hR⟩ : ∃ R, refsE m.things ok [] l = R := ⟨_, rfl⟩
  rw [hR]
  have HS := Lib.hid h
  have HL := Lib.hid hl
  have HLA := Lib.hid hla
  have HLS := Lib.hid hls
  have HR := Lib.hid hR
  have HCI := Lib.hid fun y1 w1 (hb : Bel W w1) => containsI_c ok ka kn kc y1 w1 hok (by omega) (hki.bel hb)
  clear h hl hla hls hR hok hki
  go_enter Tryz.func97, Tryz.ntmps97
  go_wp2_with fail
  go_loopw [13] (fun i wr => ∃ j : Nat, i = .int .i64 j ∧ j ≤ n ∧ Hid (refsE m.things ok (l.take j) (l.drop j) = R) ∧ Hid (Bel W wr)) (fun i _ => n - (intOf i).toNat)
  case atStart => exact ⟨0, rfl, Nat.zero_le _, HR, Lib.hid (Bel.refl _)⟩
  case round =>
    obtain ⟨j, rfl, hj, HRJ, HB⟩ := hrel
    by_cases hjn : j < n
    · have hji : (j : Int) < n := by omega
      have hjc : j ≤ c := by omega
      obtain ⟨x, hx⟩ : ∃ x, l[j]? = some x := ⟨_, List.getElem?_eq_getElem (by have := HL.out; omega)⟩
      have HTK : Hid (l.take (j + 1) = l.take j ++ [x]) := Lib.hid (by rw [List.take_add_one, hx]; rfl)
      have HTL : Hid ((l.take j).length = j) := Lib.hid (by rw [List.length_take]; have := HL.out; omega)
      have HNT : Hid (NamesAt W a (l.take j)) := Lib.hid fun k y hy => by
        by_cases hk : k < j
        · rw [List.getElem?_take_of_lt hk] at hy; exact HLA.out k y hy
        · rw [List.getElem?_eq_none (by rw [List.length_take]; omega)] at hy; cases hy
      obtain ⟨b, off, rfl, g0⟩ := HLA.out j x hx
      have f0 := HB.out.keep g0
      have c7 : wr.cell? ⟨cb, 7, none⟩ = some (.map (some bb)) := (HS.out.bc.bel HB.out).at 7
      have hlk := by_ask (HS.out.by'.bel HB.out) (s := x) (by have := HLS.out x (List.mem_of_getElem? hx); unfold maxLen; omega)
      have hre := HRJ.out
      rw [drop_at hx, refsE_cons] at hre
      obtain ⟨y, hy⟩ : ∃ y, (atT m.things x).getD (0, 0) = y := ⟨_, rfl⟩
      obtain ⟨y1, y2⟩ := y
      have HY := Lib.hid hy
      rw [hy] at hlk
      unfold thgV at hlk
      dsimp only at hlk
      obtain ⟨V, hV, hxV, hbV, hsV⟩ := alloc_step wr 90 [.int .i64 y1, .int .i64 y2]
      obtain ⟨ib, hib⟩ : ∃ x, wr.heap.size = x := ⟨_, rfl⟩
      rw [hib] at hxV
      have z0 : V.cell? ⟨ib, 0, none⟩ = some (.int .i64 y1) := hxV.at 0
      have z1 : V.cell? ⟨ib, 1, none⟩ = some (.int .i64 y2) := hxV.at 1
      have HBV := Lib.hid (HB.out.trans hbV)
      have HVN := Lib.hid hV
      have HIB := Lib.hid hib
      have heq := fun W => eql_thg y1 y2 W
      have HCV := Lib.hid (HCI.out y1 V HBV.out)
      have HSC := Lib.hid (scontains_c (some ⟨b, off, none⟩) j c (l.take j) x V HTL.out (by omega) (HNT.out.bel HBV.out))
      have HX := Lib.hid hx
      clear hx hy g0 hV hxV hbV hsV hib HNT HCI
      cases hat : atT m.things x with
      | none =>
        rw [hat] at hlk hre
        dsimp only at hre
        simp only [Option.isSome] at hlk
        have HRE := Lib.hid hre
        clear hre hat heq
        go_upto_region 5 with fail
        rw [show wr.alloc (.cells #[.int .i64 y1, .int .i64 y2] 90) = V from HVN.out, HIB.out]
        clear HVN hlk f0 c7
        go_wp2_with fail
        go_ret
        exact ⟨by rw [← HRE.out]; rfl, HBV.out⟩
      | some y =>
        have hyy : y = (y1, y2) := by have := HY.out; rw [hat] at this; exact this
        subst hyy
        rw [hat] at hlk hre
        dsimp only at hre
        simp only [Option.isSome] at hlk
        clear hat
        obtain ⟨Z, hZ⟩ : ∃ Z, thgZ y1 y2 = Z := ⟨_, rfl⟩
        have hz2 : ((y1, y2) = ((0, 0) : Nat × Nat)) ↔ Z = true := by rw [← hZ]; unfold thgZ; simp
        rw [hZ] at heq
        obtain ⟨K, hK2⟩ : ∃ K, decide (y1 ∈ ok) = K := ⟨_, rfl⟩
        have hk2 : (y1 ∉ ok) ↔ K = false := by rw [← hK2]; simp
        rw [hK2] at HCV
        obtain ⟨D, hD⟩ : ∃ D, decide (x ∈ l.take j) = D := ⟨_, rfl⟩
        have hd2 : (x ∈ l.take j) ↔ D = true := by rw [← hD]; simp
        rw [hD] at HSC
        have HA : Hid ((Z = true ∨ K = false) → R = 15) := Lib.hid fun h => by
          rw [← hre, if_pos]
          exact h.imp hz2.2 hk2.2
        have HB2 : Hid (Z = false → K = true → D = true → R = 8) := Lib.hid fun h1 h2 h3 => by
          rw [← hre, if_neg, if_pos (hd2.2 h3)]
          rintro (h | h)
          · rw [hz2.1 h] at h1; cases h1
          · rw [hk2.1 h] at h2; cases h2
        have HC2 : Hid (Z = false → K = true → D = false → refsE m.things ok (l.take (j + 1)) (l.drop (j + 1)) = R) := Lib.hid fun h1 h2 h3 => by
          rw [← hre, if_neg, if_neg, HTK.out]
          · intro h
            rw [hd2.1 h] at h3; cases h3
          · rintro (h | h)
            · rw [hz2.1 h] at h1; cases h1
            · rw [hk2.1 h] at h2; cases h2
        clear hre hZ hz2 hK2 hk2 hD hd2
        go_upto_region 5 with fail
        rw [show wr.alloc (.cells #[.int .i64 y1, .int .i64 y2] 90) = V from HVN.out, HIB.out]
        clear HVN hlk f0 c7
        cases Z with
        | true =>
          have HRE := Lib.hid (HA.out (.inl rfl))
          clear HA HB2 HC2
          go_wp2_with fail
          go_ret
          exact ⟨by rw [HRE.out]; rfl, HBV.out⟩
        | false =>
          cases K with
          | false =>
            have HRE := Lib.hid (HA.out (.inr rfl))
            clear HA HB2 HC2
            go_wp2_with fail
            refine HCV.out.mono ?_
            rintro e5 w5 ⟨rfl, rfl⟩
            go_wp2_with fail
            go_ret
            exact ⟨by rw [HRE.out]; rfl, HBV.out⟩
          | true =>
            cases D with
            | true =>
              have HRE := Lib.hid (HB2.out rfl rfl rfl)
              clear HA HB2 HC2
              go_wp2_with fail
              refine HCV.out.mono ?_
              rintro e5 w5 ⟨rfl, rfl⟩
              go_wp2_with fail
              refine HSC.out.mono ?_
              rintro e6 w6 ⟨rfl, hb6⟩
              have HB6 := Lib.hid (HBV.out.trans hb6)
              clear hb6
              go_wp2_with fail
              go_ret
              exact ⟨by rw [HRE.out]; rfl, HB6.out⟩
            | false =>
              have HRE := Lib.hid (HC2.out rfl rfl rfl)
              clear HA HB2 HC2
              go_wp2_with fail
              refine HCV.out.mono ?_
              rintro e5 w5 ⟨rfl, rfl⟩
              go_wp2_with fail
              refine HSC.out.mono ?_
              rintro e6 w6 ⟨rfl, hb6⟩
              have HB6 := Lib.hid (HBV.out.trans hb6)
              clear hb6
              go_wp2_with fail
              exact ⟨⟨j + 1, by go_num, by omega, HRE, HB6⟩, by simp [intOf]; omega⟩
    · have hji : ¬ (j : Int) < n := by omega
      have hR0 : R = 0 := by
        have h1 := HRJ.out
        rw [List.drop_of_length_le (by have := HL.out; omega)] at h1
        rw [← h1]; rfl
      subst hR0
      clear HRJ
      go_wp2_with fail
      go_ret
      exact ⟨rfl, HB.out⟩
end Go.Proofs.YtbcdbefogfmhfaaGreatDoor
