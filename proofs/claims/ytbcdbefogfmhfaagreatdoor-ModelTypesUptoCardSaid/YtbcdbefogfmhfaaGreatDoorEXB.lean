/-
  expr: the walks of one, canonical, rows.
  expr: the walk of rows.
  expr: the walks of deep, and of slices.ContainsFunc with it.
  expr: the walk of own.
  expr: the walks of check and Check.
  expr: the walk of given.
-/
import Derived.Test.YtbcdbefogfmhfaaGreatDoorEXA
import Derived.Test.YtbcdbefogfmhfaaGreatDoorUCA
import Derived.Test.YtbcdbefogfmhfaaGreatDoorSPA
import Derived.Deep.DeepCutAuto
import Derived.Deep.RegionHeld3
import Derived.Laws.EntriesVeiled
namespace Go.Proofs.YtbcdbefogfmhfaaGreatDoor
open Go.RowKit Go.Maps Go.WideMaps
def EnvX (w : World) : Prop := Env w ∧ EnvN w
theorem EnvX.bel {w w' : World} (h : EnvX w) (hb : Bel w w') : EnvX w' := ⟨h.1.bel hb, h.2.bel hb⟩
theorem RowE.names {W : World} {v : Value} {l : List ByteArray} (h : RowE W v (strsV l)) : ∃ na n c, v = .slice na n c ∧ l.length = n ∧ n ≤ c ∧ NamesAt W na l := by
  obtain ⟨na, c, rfl, hc, hz⟩ := h
  rw [strsV_length] at hc
  refine ⟨na, l.length, c, by rw [strsV_length], rfl, hc, fun j x hx => ?_⟩
  obtain ⟨hj, hxx⟩ := List.getElem?_eq_some_iff.1 hx
  rcases hz with h0 | ⟨b, off, ha, hlt, hce⟩
  · have := congrArg List.length h0; rw [strsV_length] at this; simp at this; rw [this] at hj; simp at hj
  · exact ⟨b, off, ha, by rw [hce j (by rw [strsV_length]; exact hj)]; simp [strsV, hxx]⟩
def RetIdx (p : Bool) (w : World) (e : Ending) (w' : World) : Prop := ∃ i : Int, e = .returned (.int .i64 i) ∧ decide (0 ≤ i) = p ∧ Bel w w'
set_option maxHeartbeats 1000000 in
theorem sindex_c (na : Option Addr) (n c : Nat) (l : List ByteArray) (x : ByteArray) (w : World) (hn : l.length = n) (hn2 : n ≤ 4294967290) (hs : NamesAt w na l) :
    Calls Tryz.prog 90 #[.slice na n c, .string x] w (RetIdx (decide (x ∈ l)) w) := by
  obtain ⟨R, hR⟩ : ∃ R, decide (x ∈ l) = R := ⟨_, rfl⟩
  rw [hR]
  have HR := Lib.hid hR
  have HN := Lib.hid hn
  have NS := Lib.hid hs
  clear hR hn hs
  go_enter Tryz.func90, Tryz.ntmps90
  go_wp2_with fail
  go_loopw [8] (fun i wr => ∃ k : Nat, k ≤ n ∧ i = .int .i64 k ∧ Bel w wr ∧ decide (x ∈ l.drop k) = R) (fun i _ => n - (intOf i).toNat)
  case atStart => exact ⟨0, Nat.zero_le _, rfl, Bel.refl _, HR.out⟩
  case round =>
    obtain ⟨k, hk, rfl, hbel, hd⟩ := hrel
    by_cases hkn : k < n
    · have hkl : k < l.length := by rw [HN.out]; exact hkn
      obtain ⟨y, hy⟩ : ∃ y, l[k] = y := ⟨_, rfl⟩
      obtain ⟨b, off, rfl, hc⟩ := NS.out k y (by rw [List.getElem?_eq_getElem hkl, hy])
      rw [List.drop_eq_getElem_cons hkl, hy] at hd
      have hcell := hbel.keep hc
      have HD := Lib.hid hd
      clear hy hd hc
      go_wp2_with fail
      · have hxy : (x.toList == y.toList) = true := by assumption
        go_ret
        refine ⟨k, rfl, ?_, hbel⟩
        rw [← HD.out, toList_eq hxy]
        simp
      · have hxy : (x.toList == y.toList) = false := by assumption
        refine ⟨⟨k + 1, by omega, by go_num, hbel, ?_⟩, by simp [intOf]; omega⟩
        rw [← HD.out]
        have := toList_ne hxy
        simp [this]
    · obtain rfl : k = n := by omega
      rw [List.drop_of_length_le (by have := HN.out; omega)] at hd
      obtain rfl : R = false := by rw [← hd]; simp
      go_wp2_with fail
      go_ret
      exact ⟨-1, rfl, by simp, hbel⟩
set_option maxHeartbeats 400000 in
theorem scontains_c (na : Option Addr) (n c : Nat) (l : List ByteArray) (x : ByteArray) (w : World) (hn : l.length = n) (hn2 : n ≤ 4294967290) (hs : NamesAt w na l) :
    Calls Tryz.prog 47 #[.slice na n c, .string x] w (RetBel (.bool (decide (x ∈ l))) w) := by
  have h := sindex_c na n c l x w hn hn2 hs
  obtain ⟨R, hR⟩ : ∃ R, decide (x ∈ l) = R := ⟨_, rfl⟩
  rw [hR] at h ⊢
  have H := Lib.hid h
  clear h hR hs hn
  go_enter Tryz.func47, Tryz.ntmps47
  go_wp2_with fail
  refine H.out.mono ?_
  rintro e w1 ⟨i, rfl, hi, hb⟩
  go_wp2_with fail
  go_ret
  exact ⟨rfl, hb⟩
/-- Block pb holds a slice that reads as l. -/
def OneAt (W : World) (pb : Nat) (l : List ByteArray) : Prop := ∃ rb, W.heap[pb]? = some (.cells #[.slice (some ⟨rb, 0, none⟩) l.length l.length] 35 (0, 0)) ∧ W.heap[rb]? = some (.cells (strsV l).toArray 9 (0, 0))
theorem OneAt.bel {W W' : World} {pb : Nat} {l : List ByteArray} (h : OneAt W pb l) (hb : Bel W W') : OneAt W' pb l := by
  obtain ⟨rb, h1, h2⟩ := h
  exact ⟨rb, (hb.block (Array.getElem?_eq_some_iff.1 h1).1).trans h1, (hb.block (Array.getElem?_eq_some_iff.1 h2).1).trans h2⟩
theorem OneAt.grow {W W' : World} {pb B : Nat} {l : List ByteArray} {es : Array MapEntry} {ck : Nat} (h : OneAt W pb l) (hB : W.heap[B]? = some (.map es ck)) (hg : W.grownBy W' (some B)) : OneAt W' pb l := by
  obtain ⟨rb, h1, h2⟩ := h
  refine ⟨rb, (hg.block _ (Array.getElem?_eq_some_iff.1 h1).1 fun e => ?_).trans h1, (hg.block _ (Array.getElem?_eq_some_iff.1 h2).1 fun e => ?_).trans h2⟩
  · injection e with e; rw [e, hB] at h1; simp at h1
  · injection e with e; rw [e, hB] at h2; simp at h2
theorem OneAt.at {W : World} {pb : Nat} {l : List ByteArray} (h : OneAt W pb l) : ∃ rb, W.cell? ⟨pb, 0, none⟩ = some (.slice (some ⟨rb, 0, none⟩) l.length l.length) ∧ NamesAt W (some ⟨rb, 0, none⟩) l := by
  obtain ⟨rb, h1, h2⟩ := h
  refine ⟨rb, by simp [World.cell?, h1], fun j x hx => ⟨rb, 0, rfl, ?_⟩⟩
  simp [World.cell?, h2, strsV, hx]
theorem OneAt.new (w : World) (l : List ByteArray) : OneAt ((w.alloc (.cells (strsV l).toArray 9)).alloc (.cells #[.slice (some ⟨w.heap.size, 0, none⟩) l.length l.length] 35)) (w.heap.size + 1) l := by
  refine ⟨w.heap.size, ?_, ?_⟩
  · have := World.alloc_heap_new (w.alloc (.cells (strsV l).toArray 9)) (.cells #[.slice (some ⟨w.heap.size, 0, none⟩) l.length l.length] 35)
    rw [World.size_alloc] at this
    exact this
  · exact (Below.heap_alloc _ _ _ (by rw [World.size_alloc]; omega)).trans (World.alloc_heap_new _ _)
set_option maxHeartbeats 400000 in
theorem one_c (v : Value) (w : World) (hv : ∃ a n c, v = .slice a n c) :
    Calls Tryz.prog 150 #[v] w fun e w' => e = .returned (.func (.func 170) #[] #[.pointer (some ⟨w.heap.size, 0, none⟩)]) ∧ w.alloc (.cells #[v] 35) = w' := by
  obtain ⟨a, n, c, rfl⟩ := hv
  go_enter Tryz.func150, Tryz.ntmps150
  go_wp2_with fail
  go_ret
  exact ⟨rfl, rfl⟩
/-- A function value that answers a bool of a text. -/
def AskV (W : World) (fv : Value) (r : ByteArray → Bool) : Prop :=
  ∃ h caps, fv = .func (.func h) #[] caps ∧ (∀ args w, (callFunc h args).run Tryz.prog w = .ok (.enter h args) w) ∧
    ∀ s W', s.size ≤ 1073741824 → EnvX W' → Bel W W' → Calls Tryz.prog h (#[.string s] ++ caps) W' (RetBel (.bool (r s)) W')
theorem AskV.bel {W W' : World} {fv : Value} {r : ByteArray → Bool} (h : AskV W fv r) (hb : Bel W W') : AskV W' fv r := by
  obtain ⟨h1, caps, rfl, h2, h3⟩ := h
  exact ⟨h1, caps, rfl, h2, fun s W2 hs hE hb2 => h3 s W2 hs hE (hb.trans hb2)⟩
set_option maxHeartbeats 400000 in
theorem one_asks {W : World} {pb : Nat} {l : List ByteArray} (h : OneAt W pb l) (hl : l.length ≤ 4294967290) : AskV W (.func (.func 170) #[] #[.pointer (some ⟨pb, 0, none⟩)]) (fun s => decide (s ∈ l)) := by
  refine ⟨_, _, rfl, enters_of Tryz.func170 (by kernel_rfl) rfl, fun s W' hs _ hb => ?_⟩
  obtain ⟨rb, h1, h2⟩ := (h.bel hb).at
  show Calls Tryz.prog 170 #[.string s, .pointer (some ⟨pb, 0, none⟩)] W' (RetBel (.bool (decide (s ∈ l))) W')
  have hc := fun w1 (hb1 : Bel W' w1) => scontains_c (some ⟨rb, 0, none⟩) l.length l.length l s w1 rfl hl (h2.bel hb1)
  obtain ⟨R, hR⟩ : ∃ R, decide (s ∈ l) = R := ⟨_, rfl⟩
  rw [hR] at hc ⊢
  obtain ⟨n, hn⟩ : ∃ n, l.length = n := ⟨_, rfl⟩
  rw [hn] at hc h1
  have HC := Lib.hid hc
  clear hc hR hn h2 h
  go_enter Tryz.func170, Tryz.ntmps170
  go_wp2_with fail
  refine (HC.out _ (Bel.refl _)).mono ?_
  rintro e w1 ⟨rfl, hb1⟩
  go_wp2_with fail
  go_ret
  exact ⟨rfl, hb1⟩
set_option maxHeartbeats 400000 in
theorem all_asks (W : World) : AskV W (.func (.func 151) #[] #[]) (fun _ => true) := by
  refine ⟨_, _, rfl, enters_of Tryz.func151 (by kernel_rfl) rfl, fun s W' hs _ hb => ?_⟩
  show Calls Tryz.prog 151 #[.string s] W' _
  go_enter Tryz.func151, Tryz.ntmps151
  go_wp2_with fail
  go_ret
  exact ⟨rfl, Bel.refl _⟩
theorem canonL_len (l : List UInt8) (sc : Int) : (canonL l sc).1.length ≤ l.length + 1 := by
  unfold canonL
  have := trimLeft_le l
  split
  · simp
  · rw [List.length_take]; omega
theorem readL_len (l : List UInt8) : (readL l).1.1.length ≤ l.length + 1 := by
  unfold readL
  have h := cut_len l 46
  dsimp only
  split
  · simp
  · split
    · simp
    · have := canonL_len ((Lib.cut l [46]).1 ++ (Lib.cut l [46]).2.1) (Lib.cut l [46]).2.1.length
      rw [List.length_append] at this
      exact Nat.le_trans this (by omega)
set_option maxHeartbeats 1000000 in
theorem canonical_c (s : ByteArray) (hs : s.size ≤ 1073741824) (w : World) (hE : EnvX w) :
    Calls Tryz.prog 152 #[.string s] w (RetBel (.bool (canonS s)) w) := by
  have h1 := read_c s (by omega) w hE.2.2
  obtain ⟨⟨⟨d, sc⟩, k⟩, hr⟩ : ∃ r, readL (dl s) = r := ⟨_, rfl⟩
  have h2 := fun (hd : (bs d).size ≤ maxLen) w1 (hb : Bel w w1) => ntext_c (bs d) hd sc w1 (hE.2.bel hb)
  rw [dl_bs] at h2
  have hds : d.length ≤ 1073741825 := by
    have := readL_len (dl s)
    rw [hr] at this
    have h3 : (dl s).length = s.size := dl_size s
    simp at this; omega
  obtain ⟨R, hR⟩ : ∃ R, canonS s = R := ⟨_, rfl⟩
  rw [hR]
  unfold canonS at hR
  rw [hr] at h1 hR
  obtain ⟨⟨t, k2⟩, ht⟩ : ∃ r, textE d sc = r := ⟨_, rfl⟩
  simp only [ht] at h2 hR
  have H1 := Lib.hid h1
  have H2 := Lib.hid (h2 (by rw [bs_size]; unfold maxLen; omega))
  have HR := Lib.hid hR
  clear h1 h2 hR ht hr
  obtain ⟨D, hD⟩ : ∃ D, bs d = D := ⟨_, rfl⟩
  have H1' : Hid (Calls Tryz.prog 171 #[.string s] w fun e w' => e = .returned (.tuple #[.agg #[.string D, .int .i64 sc], .int .i64 k]) ∧ Bel w w') := Lib.hid (by have := H1.out; unfold RetNumE at this; rw [← hD]; exact this)
  rw [hD] at H2
  clear H1 hD hds
  by_cases hk : k = 0
  · subst hk
    go_enter Tryz.func152, Tryz.ntmps152
    go_wp2_with fail
    refine H1'.out.mono ?_
    rintro e w1 ⟨rfl, hb1⟩
    go_wp2_with fail
    refine (H2.out _ (hb1.trans (Bel.alloc _ _))).mono ?_
    rintro e w2 ⟨rfl, hb2⟩
    obtain ⟨T, hT⟩ : ∃ T, bs t = T := ⟨_, rfl⟩
    have HT := Lib.hid hT
    dsimp only
    rw [hT]
    clear hT
    by_cases hk2 : k2 = 0
    · subst hk2
      go_wp2_with fail
      go_ret
      refine ⟨ret_bool ?_, by (repeat (first | exact Bel.refl _ | assumption | refine Bel.to_drewN ?_ _ | refine Bel.to_drew ?_ | refine Bel.to_setCell ?_ (by first | exact Nat.le_refl _ | (simp; done) | (simp; omega) | omega) _ | refine Bel.to_alloc ?_ _ | refine Bel.trans ?_ (by assumption)))⟩
      rw [← HR.out, HT.out]
      simp
      cases hq : T.toList == s.toList with
      | true => exact (decide_eq_true (toList_eq hq)).symm
      | false => exact (decide_eq_false (toList_ne hq)).symm
    · have hk3 : ((k2 : Int) == 0) = false := by simpa using hk2
      have HK := Lib.hid hk2
      clear hk2
      go_wp2_with fail
      go_ret
      refine ⟨ret_bool ?_, by (repeat (first | exact Bel.refl _ | assumption | refine Bel.to_drewN ?_ _ | refine Bel.to_drew ?_ | refine Bel.to_setCell ?_ (by first | exact Nat.le_refl _ | (simp; done) | (simp; omega) | omega) _ | refine Bel.to_alloc ?_ _ | refine Bel.trans ?_ (by assumption)))⟩
      rw [← HR.out, decide_eq_false HK.out]
      simp
  · have hk3 : ((k : Int) == 0) = false := by simpa using hk
    have hk4 : ((k : Int) != 0) = true := by simpa using hk
    have HK := Lib.hid hk
    clear hk
    go_enter Tryz.func152, Tryz.ntmps152
    go_wp2_with fail
    refine H1'.out.mono ?_
    rintro e w1 ⟨rfl, hb1⟩
    go_wp2_with fail
    go_ret
    refine ⟨ret_bool ?_, by (repeat (first | exact Bel.refl _ | assumption | refine Bel.to_drewN ?_ _ | refine Bel.to_drew ?_ | refine Bel.to_setCell ?_ (by first | exact Nat.le_refl _ | (simp; done) | (simp; omega) | omega) _ | refine Bel.to_alloc ?_ _ | refine Bel.trans ?_ (by assumption)))⟩
    rw [← HR.out, decide_eq_false HK.out]
    rfl
/-- A row of the table, and what it stands for in a map. -/
def rowV (p : Int) (n m : Bool) (h : Nat) (c : Option Nat) : Value := .agg #[.int .i64 p, .bool n, .bool m, .func (.func h) #[] (match c with | none => #[] | some b => #[.pointer (some ⟨b, 0, none⟩)])]
def rowD (p : Int) (n m : Bool) (h : Nat) (c : Option Nat) : DataW Unit :=
  .slice [.lit (.int .i64 p), .lit (.bool n), .lit (.bool m), .lit (.int .i64 h), .slice (match c with | none => [] | some b => [.lit (.int .i64 b)]) []] []
def rowR : Value → Option (DataW Unit × List MemPlace)
  | .agg ⟨[.int .i64 p, .bool n, .bool m, .func (.func h) ⟨[]⟩ ⟨[]⟩]⟩ => some (rowD p n m h none, [])
  | .agg ⟨[.int .i64 p, .bool n, .bool m, .func (.func h) ⟨[]⟩ ⟨[.pointer (some ⟨b, 0, none⟩)]⟩]⟩ => some (rowD p n m h (some b), [])
  | .agg ⟨[.int .i64 _, .bool _, .bool _, .nilFunc]⟩ => some (.slice [] [], [])
  | _ => none
theorem rowR_inv {v : Value} {p : Int} {n m : Bool} {h : Nat} {c : Option Nat} {ps : List MemPlace} (hv : rowR v = some (rowD p n m h c, ps)) : v = rowV p n m h c := by
  unfold rowR at hv
  split at hv
  · simp [rowD] at hv
    obtain ⟨⟨rfl, rfl, rfl, h4, h5⟩, rfl⟩ := hv
    have h6 := Int.ofNat_inj.1 h4
    subst h6
    cases c <;> simp at h5
    rfl
  · simp [rowD] at hv
    obtain ⟨⟨rfl, rfl, rfl, h4, h5⟩, rfl⟩ := hv
    have h6 := Int.ofNat_inj.1 h4
    subst h6
    cases c <;> simp at h5
    have h7 := Int.ofNat_inj.1 h5
    subst h7
    rfl
  · simp [rowD] at hv
  · cases hv
/-- What lies there while the table is filled: the map, the slices that its closures hold. -/
def RowsW (w0 W : World) (b n : Nat) (D : DataW Unit) (L : List (Nat × List ByteArray)) : Prop :=
  W.ownsMap Tryz.prog 3 rowR b n D ∧ Bel w0 W ∧ w0.heap.size ≤ b ∧ ∀ q ∈ L, OneAt W q.1 q.2
theorem RowsW.own {w0 W : World} {b n : Nat} {D : DataW Unit} {L : List (Nat × List ByteArray)} (h : RowsW w0 W b n D L) : W.ownsMap Tryz.prog 3 rowR b n D := h.1
theorem RowsW.bel {w0 W : World} {b n : Nat} {D : DataW Unit} {L : List (Nat × List ByteArray)} (h : RowsW w0 W b n D L) : Bel w0 W := h.2.1
theorem RowsW.step {w0 W W' : World} {b n : Nat} {D D' : DataW Unit} {L : List (Nat × List ByteArray)} (h : RowsW w0 W b n D L) (hown : W'.ownsMap Tryz.prog 3 rowR b (n + 1) D') (hg : W.grownBy W' (some b)) : RowsW w0 W' b (n + 1) D' L := by
  obtain ⟨ho, hb, hge, hL⟩ := h
  refine ⟨hown, Below.grown hb hg hb.size (fun j e => by cases e; exact hge), hge, fun q hq => ?_⟩
  obtain ⟨es, ck, hh, _⟩ := ho
  exact (hL q hq).grow hh hg
set_option maxRecDepth 100000 in
/-- An entry of the table, at an operation that is half run. -/
theorem upon_insert {w : World} (w0 : World) {o : Oper} {a : Act} {K : Act → World → Prop} {E : Exit → Act → World → Prop} {mv key val : Value}
    (hx : ∃ b n D L k p nb mb h c, RowsW w0 w b n D L ∧ mv = .map (some b) ∧ key = .int .i64 k ∧ val = rowV p nb mb h c ∧ n < 100 ∧ (Lit.int .i64 k).wf = true ∧
      ∀ w', RowsW w0 w' b (n + 1) (D.put (.int .i64 k) (rowD p nb mb h c)) L → Oper.upon Tryz.prog o a K E (.ok Next.skip w')) :
    Oper.upon Tryz.prog o a K E (((Instr.mapUpdate 186 mv key val).run Tryz.prog w).andThen fun _ w' => .ok Next.skip w') := by
  obtain ⟨b, n, D, L, k, p, nb, mb, h, c, hR, rfl, rfl, rfl, hn, hk, hK⟩ := hx
  obtain ⟨w', hrun, r1, r2⟩ := hR.own.update (int_keyed Tryz.underlying3) Tryz.underlying186 (by unfold maxLen; omega) (keyOf_int_mk Tryz.underlying3 hk) (show rowR (rowV p nb mb h c) = some (rowD p nb mb h c, []) by cases c <;> rfl)
  rw [hrun]
  exact hK w' (hR.step r1 r2)
set_option maxHeartbeats 400000 in
theorem one_r (w0 W : World) (b n : Nat) (D : DataW Unit) (L : List (Nat × List ByteArray)) (l : List ByteArray) (k : Nat) (hk : l.length = k) (hR : RowsW w0 W b n D L) :
    Calls Tryz.prog 150 #[.slice (some ⟨W.heap.size, 0, none⟩) k k] (W.alloc (.cells (strsV l).toArray 9)) fun e w' => e = .returned (.func (.func 170) #[] #[.pointer (some ⟨W.heap.size + 1, 0, none⟩)]) ∧ RowsW w0 w' b n D ((W.heap.size + 1, l) :: L) := by
  subst hk
  refine (one_c _ _ ⟨_, _, _, rfl⟩).mono ?_
  rintro e w' ⟨rfl, rfl⟩
  obtain ⟨h1, h2, h3, h4⟩ := hR
  refine ⟨by rw [World.size_alloc], (h1.alloc _).alloc _, (h2.to_alloc _).to_alloc _, h3, fun q hq => ?_⟩
  rcases List.mem_cons.1 hq with rfl | hq
  · exact OneAt.new W l
  · exact ((h4 q hq).bel (Bel.alloc _ _)).bel (Bel.alloc _ _)
/-- The table: what each kind asks. -/
def RowsAt (W : World) (mv : Value) : Prop := ∀ W', Bel W W' → ∀ k : Int, (Lit.int .i64 k).wf = true →
  (0 ≤ k ∧ k ≤ 19 → ∃ fv, (Instr.lookup 186 mv (.int .i64 k) true).run Tryz.prog W' = .ok (.tuple #[.agg #[.int .i64 (partsK k), .bool (namedK k), .bool (namesK k), fv], .bool true]) W' ∧ AskV W' fv (textK k)) ∧
  (¬ (0 ≤ k ∧ k ≤ 19) → ∃ p n m, (Instr.lookup 186 mv (.int .i64 k) true).run Tryz.prog W' = .ok (.tuple #[.agg #[.int .i64 p, .bool n, .bool m, .nilFunc], .bool false]) W')
theorem RowsAt.bel {W W' : World} {mv : Value} (h : RowsAt W mv) (hb : Bel W W') : RowsAt W' mv := fun W2 hb2 => h W2 (hb.trans hb2)
theorem canonical_asks (W : World) : AskV W (.func (.func 152) #[] #[]) canonS :=
  ⟨_, _, rfl, enters_of Tryz.func152 (by kernel_rfl) rfl, fun s W' hs hE _ => canonical_c s hs W' hE⟩
def rowsL (p0 p2 p5 p18 p19 : Nat) : List (Int × DataW Unit) := [(19, rowD 1 false false 170 (some p19)), (18, rowD 2 false false 170 (some p18)), (17, rowD (-1) false true 170 (some p0)), (16, rowD (-1) false false 170 (some p0)), (15, rowD 1 false true 170 (some p0)), (14, rowD 2 true false 151 none), (13, rowD 2 true false 151 none), (12, rowD 2 true false 151 none), (11, rowD 3 false false 170 (some p0)), (10, rowD (-2) false false 170 (some p0)), (9, rowD 2 false false 170 (some p0)), (8, rowD 1 true false 151 none), (7, rowD 2 false false 170 (some p0)), (6, rowD 3 false false 170 (some p0)), (5, rowD 2 false false 170 (some p5)), (4, rowD 1 false false 170 (some p0)), (3, rowD 0 true false 151 none), (2, rowD 0 false false 170 (some p2)), (1, rowD 0 false false 151 none), (0, rowD 0 false false 152 none)]
set_option maxRecDepth 100000 in
set_option maxHeartbeats 1000000 in
theorem rows_done {w W : World} {b n p0 p2 p5 p18 p19 : Nat} (h : RowsW w W b n (mkR (rowsL p0 p2 p5 p18 p19)) [(p19, testS), (p18, spanS), (p5, binS), (p2, constS), (p0, [⟨#[]⟩])]) : RowsAt W (.map (some b)) := by
  intro W' hb k hk
  obtain ⟨hown, _, _, hL⟩ := h
  have h0 := one_asks (l := [⟨#[]⟩]) ((hL (p0, [⟨#[]⟩]) (by simp)).bel hb) (by decide)
  have h2 := one_asks (l := constS) ((hL (p2, constS) (by simp)).bel hb) (by decide)
  have h5 := one_asks (l := binS) ((hL (p5, binS) (by simp)).bel hb) (by decide)
  have h18 := one_asks (l := spanS) ((hL (p18, spanS) (by simp)).bel hb) (by decide)
  have h19 := one_asks (l := testS) ((hL (p19, testS) (by simp)).bel hb) (by decide)
  have hz : (zeroValue 199).run Tryz.prog W' = .ok (.agg #[.int .i64 0, .bool false, .bool false, .nilFunc]) W' := by kernel_rfl
  obtain ⟨v, ps, hrun, hv⟩ := (own_mapBel hown hb).look_ok (int_keyed Tryz.underlying3) Tryz.underlying186 hz (zd := .slice [] []) (zp := []) rfl (keyOf_int_mk Tryz.underlying3 hk)
  rw [mkR_at] at hv
  rw [mkR_has] at hrun
  constructor
  · intro hr
    have hc : k = 0 ∨ k = 1 ∨ k = 2 ∨ k = 3 ∨ k = 4 ∨ k = 5 ∨ k = 6 ∨ k = 7 ∨ k = 8 ∨ k = 9 ∨ k = 10 ∨ k = 11 ∨ k = 12 ∨ k = 13 ∨ k = 14 ∨ k = 15 ∨ k = 16 ∨ k = 17 ∨ k = 18 ∨ k = 19 := by omega
    rcases hc with rfl | rfl | rfl | rfl | rfl | rfl | rfl | rfl | rfl | rfl | rfl | rfl | rfl | rfl | rfl | rfl | rfl | rfl | rfl | rfl
    · rw [show (rowsL p0 p2 p5 p18 p19).find? (fun p => p.1 == (0 : Int)) = some (0, rowD 0 false false 152 none) from rfl] at hv hrun
      obtain rfl := rowR_inv (show rowR v = some (rowD 0 false false 152 none, ps) from hv)
      exact ⟨_, hrun, canonical_asks W'⟩
    · rw [show (rowsL p0 p2 p5 p18 p19).find? (fun p => p.1 == (1 : Int)) = some (1, rowD 0 false false 151 none) from rfl] at hv hrun
      obtain rfl := rowR_inv (show rowR v = some (rowD 0 false false 151 none, ps) from hv)
      exact ⟨_, hrun, all_asks W'⟩
    · rw [show (rowsL p0 p2 p5 p18 p19).find? (fun p => p.1 == (2 : Int)) = some (2, rowD 0 false false 170 (some p2)) from rfl] at hv hrun
      obtain rfl := rowR_inv (show rowR v = some (rowD 0 false false 170 (some p2), ps) from hv)
      exact ⟨_, hrun, h2⟩
    · rw [show (rowsL p0 p2 p5 p18 p19).find? (fun p => p.1 == (3 : Int)) = some (3, rowD 0 true false 151 none) from rfl] at hv hrun
      obtain rfl := rowR_inv (show rowR v = some (rowD 0 true false 151 none, ps) from hv)
      exact ⟨_, hrun, all_asks W'⟩
    · rw [show (rowsL p0 p2 p5 p18 p19).find? (fun p => p.1 == (4 : Int)) = some (4, rowD 1 false false 170 (some p0)) from rfl] at hv hrun
      obtain rfl := rowR_inv (show rowR v = some (rowD 1 false false 170 (some p0), ps) from hv)
      exact ⟨_, hrun, h0⟩
    · rw [show (rowsL p0 p2 p5 p18 p19).find? (fun p => p.1 == (5 : Int)) = some (5, rowD 2 false false 170 (some p5)) from rfl] at hv hrun
      obtain rfl := rowR_inv (show rowR v = some (rowD 2 false false 170 (some p5), ps) from hv)
      exact ⟨_, hrun, h5⟩
    · rw [show (rowsL p0 p2 p5 p18 p19).find? (fun p => p.1 == (6 : Int)) = some (6, rowD 3 false false 170 (some p0)) from rfl] at hv hrun
      obtain rfl := rowR_inv (show rowR v = some (rowD 3 false false 170 (some p0), ps) from hv)
      exact ⟨_, hrun, h0⟩
    · rw [show (rowsL p0 p2 p5 p18 p19).find? (fun p => p.1 == (7 : Int)) = some (7, rowD 2 false false 170 (some p0)) from rfl] at hv hrun
      obtain rfl := rowR_inv (show rowR v = some (rowD 2 false false 170 (some p0), ps) from hv)
      exact ⟨_, hrun, h0⟩
    · rw [show (rowsL p0 p2 p5 p18 p19).find? (fun p => p.1 == (8 : Int)) = some (8, rowD 1 true false 151 none) from rfl] at hv hrun
      obtain rfl := rowR_inv (show rowR v = some (rowD 1 true false 151 none, ps) from hv)
      exact ⟨_, hrun, all_asks W'⟩
    · rw [show (rowsL p0 p2 p5 p18 p19).find? (fun p => p.1 == (9 : Int)) = some (9, rowD 2 false false 170 (some p0)) from rfl] at hv hrun
      obtain rfl := rowR_inv (show rowR v = some (rowD 2 false false 170 (some p0), ps) from hv)
      exact ⟨_, hrun, h0⟩
    · rw [show (rowsL p0 p2 p5 p18 p19).find? (fun p => p.1 == (10 : Int)) = some (10, rowD (-2) false false 170 (some p0)) from rfl] at hv hrun
      obtain rfl := rowR_inv (show rowR v = some (rowD (-2) false false 170 (some p0), ps) from hv)
      exact ⟨_, hrun, h0⟩
    · rw [show (rowsL p0 p2 p5 p18 p19).find? (fun p => p.1 == (11 : Int)) = some (11, rowD 3 false false 170 (some p0)) from rfl] at hv hrun
      obtain rfl := rowR_inv (show rowR v = some (rowD 3 false false 170 (some p0), ps) from hv)
      exact ⟨_, hrun, h0⟩
    · rw [show (rowsL p0 p2 p5 p18 p19).find? (fun p => p.1 == (12 : Int)) = some (12, rowD 2 true false 151 none) from rfl] at hv hrun
      obtain rfl := rowR_inv (show rowR v = some (rowD 2 true false 151 none, ps) from hv)
      exact ⟨_, hrun, all_asks W'⟩
    · rw [show (rowsL p0 p2 p5 p18 p19).find? (fun p => p.1 == (13 : Int)) = some (13, rowD 2 true false 151 none) from rfl] at hv hrun
      obtain rfl := rowR_inv (show rowR v = some (rowD 2 true false 151 none, ps) from hv)
      exact ⟨_, hrun, all_asks W'⟩
    · rw [show (rowsL p0 p2 p5 p18 p19).find? (fun p => p.1 == (14 : Int)) = some (14, rowD 2 true false 151 none) from rfl] at hv hrun
      obtain rfl := rowR_inv (show rowR v = some (rowD 2 true false 151 none, ps) from hv)
      exact ⟨_, hrun, all_asks W'⟩
    · rw [show (rowsL p0 p2 p5 p18 p19).find? (fun p => p.1 == (15 : Int)) = some (15, rowD 1 false true 170 (some p0)) from rfl] at hv hrun
      obtain rfl := rowR_inv (show rowR v = some (rowD 1 false true 170 (some p0), ps) from hv)
      exact ⟨_, hrun, h0⟩
    · rw [show (rowsL p0 p2 p5 p18 p19).find? (fun p => p.1 == (16 : Int)) = some (16, rowD (-1) false false 170 (some p0)) from rfl] at hv hrun
      obtain rfl := rowR_inv (show rowR v = some (rowD (-1) false false 170 (some p0), ps) from hv)
      exact ⟨_, hrun, h0⟩
    · rw [show (rowsL p0 p2 p5 p18 p19).find? (fun p => p.1 == (17 : Int)) = some (17, rowD (-1) false true 170 (some p0)) from rfl] at hv hrun
      obtain rfl := rowR_inv (show rowR v = some (rowD (-1) false true 170 (some p0), ps) from hv)
      exact ⟨_, hrun, h0⟩
    · rw [show (rowsL p0 p2 p5 p18 p19).find? (fun p => p.1 == (18 : Int)) = some (18, rowD 2 false false 170 (some p18)) from rfl] at hv hrun
      obtain rfl := rowR_inv (show rowR v = some (rowD 2 false false 170 (some p18), ps) from hv)
      exact ⟨_, hrun, h18⟩
    · rw [show (rowsL p0 p2 p5 p18 p19).find? (fun p => p.1 == (19 : Int)) = some (19, rowD 1 false false 170 (some p19)) from rfl] at hv hrun
      obtain rfl := rowR_inv (show rowR v = some (rowD 1 false false 170 (some p19), ps) from hv)
      exact ⟨_, hrun, h19⟩
  · intro hr
    have hf : (rowsL p0 p2 p5 p18 p19).find? (fun p => p.1 == k) = none := by
      unfold rowsL
      simp only [List.find?_eq_none, List.mem_cons, List.not_mem_nil, or_false, beq_iff_eq, forall_eq_or_imp, forall_eq]
      omega
    rw [hf] at hv hrun
    have hv2 : rowR v = some (.slice [] [], ps) := hv
    unfold rowR at hv2
    split at hv2
    · simp [rowD] at hv2
    · simp [rowD] at hv2
    · exact ⟨_, _, _, hrun⟩
    · cases hv2
end Go.Proofs.YtbcdbefogfmhfaaGreatDoor

namespace Go.Proofs.YtbcdbefogfmhfaaGreatDoor
open Go.RowKit Go.Maps Go.WideMaps
set_option maxRecDepth 100000 in
set_option maxHeartbeats 4000000 in
theorem rows_c (w : World) : Calls Tryz.prog 134 #[] w fun e w' => ∃ mb, e = .returned (.map (some mb)) ∧ RowsAt w' (.map (some mb)) ∧ Bel w w' := by
  have hmm := @run_makeMap Tryz.prog
  have hR := fun W b n D L => one_r w W b n D L
  have h0 := one_c (.slice (some ⟨w.heap.size, 0, none⟩) 1 1) (w.alloc (.cells #[.string ⟨#[]⟩] 9)) ⟨_, _, _, rfl⟩
  have HR := Lib.hid hR
  have H0 := Lib.hid h0
  clear hR h0
  go_enter Tryz.func134, Tryz.ntmps134
  go_wp2_with fail
  refine H0.out.mono ?_
  rintro e w1 ⟨rfl, rfl⟩
  have hw : RowsW w ((((w.alloc (.cells #[.string ⟨#[]⟩] 9)).alloc (.cells #[.slice (some ⟨w.heap.size, 0, none⟩) 1 1] 35))).alloc (.map #[] 0)) (w.heap.size + 1 + 1) 0 (.map []) [(w.heap.size + 1, [⟨#[]⟩])] := by
    refine ⟨?_, ((Bel.alloc _ _).to_alloc _).to_alloc _, by omega, fun q hq => ?_⟩
    · have := World.ownsMap_made ((w.alloc (.cells #[.string ⟨#[]⟩] 9)).alloc (.cells #[.slice (some ⟨w.heap.size, 0, none⟩) 1 1] 35)) Tryz.prog 3 rowR
      rw [World.size_alloc, World.size_alloc] at this
      exact this
    · obtain rfl := List.mem_singleton.1 hq
      exact (OneAt.new w [⟨#[]⟩]).bel (Bel.alloc _ _)
  go_wp2_with (first
    | (go_at_call 150; refine (HR.out _ _ _ _ _ constS _ rfl (by assumption)).mono ?_; rintro e w2 ⟨rfl, hw2⟩)
    | (go_at_call 150; refine (HR.out _ _ _ _ _ binS _ rfl (by assumption)).mono ?_; rintro e w2 ⟨rfl, hw2⟩)
    | (go_at_call 150; refine (HR.out _ _ _ _ _ spanS _ rfl (by assumption)).mono ?_; rintro e w2 ⟨rfl, hw2⟩)
    | (go_at_call 150; refine (HR.out _ _ _ _ _ testS _ rfl (by assumption)).mono ?_; rintro e w2 ⟨rfl, hw2⟩)
    | (refine upon_insert w ?_; refine ⟨_, _, _, _, _, _, _, _, _, none, by assumption, rfl, rfl, rfl, ?_, ?_, ?_⟩; (· decide); (· decide); intro w1 hw1)
    | (refine upon_insert w ?_; refine ⟨_, _, _, _, _, _, _, _, _, some _, by assumption, rfl, rfl, rfl, ?_, ?_, ?_⟩; (· decide); (· decide); intro w1 hw1))
  go_ret
  exact ⟨_, rfl, rows_done (by assumption), RowsW.bel (by assumption)⟩
end Go.Proofs.YtbcdbefogfmhfaaGreatDoor

namespace Go.Proofs.YtbcdbefogfmhfaaGreatDoor
open Go.RowKit
/-- The place of the first one; -1: there is none. -/
def idxE (p : Ex → Bool) : Nat → List Ex → Int
  | _, [] => -1
  | k, x :: l => if p x = true then k else idxE p (k + 1) l
theorem idxE_any (p : Ex → Bool) : ∀ (l : List Ex) (k : Nat), decide (0 ≤ idxE p k l) = l.any p
  | [], _ => rfl
  | x :: l, k => by
    unfold idxE
    by_cases h : p x = true
    · rw [if_pos h]; simp [h]
    · rw [if_neg h, idxE_any p l (k + 1)]; simp [h]
theorem idxE_drop (p : Ex → Bool) (l : List Ex) (i k : Nat) (x : Ex) (h : l[i]? = some x) : idxE p k (l.drop i) = if p x = true then (k : Int) else idxE p (k + 1) (l.drop (i + 1)) := by
  obtain ⟨hi, hx⟩ := List.getElem?_eq_some_iff.1 h
  rw [List.drop_eq_getElem_cons hi, hx]; rfl
set_option maxRecDepth 100000 in
set_option maxHeartbeats 4000000 in
theorem indexX_c (l : List Ex) (r : Ex → Bool) (la : Option Addr) (m lc pb : Nat) (w : World) (hm : l.length = m) (hl : m ≤ 1073741824) (hps : PartsAt w la l)
    (hcall : ∀ x ∈ l, ∀ xn xl wr, Bel w wr → ExAt wr x xn xl → Calls Tryz.prog 148 #[.agg #[.int .i64 x.k, .string x.s, xn, xl], .pointer (some ⟨pb, 0, none⟩)] wr (RetBel (.bool (r x)) wr)) :
    Calls Tryz.prog 168 #[.slice la m lc, .func (.func 148) #[] #[.pointer (some ⟨pb, 0, none⟩)]] w (RetBel (.int .i64 (idxE r 0 l)) w) := by
  obtain ⟨R, hR⟩ : ∃ R, idxE r 0 l = R := ⟨_, rfl⟩
  rw [hR]
  have HR := Lib.hid hR
  have HM := Lib.hid hm
  have PS := Lib.hid hps
  have HCALL := Lib.hid hcall
  have hen := fun args w1 => enters_of Tryz.func148 (by kernel_rfl) rfl args w1
  clear hR hm hps hcall
  go_enter Tryz.func168, Tryz.ntmps168
  go_wp2_with fail
  go_loopw [8] (fun i wr => ∃ k : Nat, k ≤ m ∧ i = .int .i64 k ∧ Bel w wr ∧ idxE r k (l.drop k) = R) (fun i _ => m - (intOf i).toNat)
  case atStart => exact ⟨0, Nat.zero_le _, rfl, Bel.refl _, HR.out⟩
  case round =>
    obtain ⟨k, hk, rfl, hbel, hix⟩ := hrel
    by_cases hkn : k < m
    · have hki : (k : Int) < m := by omega
      obtain ⟨x, hx⟩ : ∃ x, l[k]? = some x := ⟨_, List.getElem?_eq_getElem (by have := HM.out; omega)⟩
      obtain ⟨b, off, xna, xnn, xnc, xla, xln, xlc, rfl, g0, g1, g2, g3, hxa⟩ := PS.out k x hx
      have f0 := hbel.keep g0
      have f1 := hbel.keep g1
      have f2 := hbel.keep g2
      have f3 := hbel.keep g3
      have hc := HCALL.out x (List.mem_of_getElem? hx) _ _ wr hbel (ExAt.bel hbel x hxa)
      rw [idxE_drop r l k k x hx] at hix
      have HB := Lib.hid hbel
      have HIX := Lib.hid hix
      obtain ⟨F, hF⟩ : ∃ F, r x = F := ⟨_, rfl⟩
      rw [hF] at hc HIX
      have HC := Lib.hid hc
      clear g0 g1 g2 g3 hxa hc hF hix hx hbel
      cases F
      · go_wp2_with ((with_reducible refine HC.out.mono ?_); rintro e w1 ⟨rfl, hb1⟩)
        refine ⟨⟨k + 1, by omega, by go_num, HB.out.trans (by assumption), ?_⟩, by simp [intOf]; omega⟩
        have := HIX.out
        rwa [if_neg (by simp)] at this
      · go_wp2_with ((with_reducible refine HC.out.mono ?_); rintro e w1 ⟨rfl, hb1⟩)
        go_ret
        have := HIX.out
        rw [if_pos trivial] at this
        exact ⟨ret_int this, HB.out.trans (by assumption)⟩
    · obtain rfl : k = m := by omega
      rw [List.drop_of_length_le (by have := HM.out; omega)] at hix
      have HIX := Lib.hid hix
      clear hix
      go_wp2_with fail
      go_ret
      exact ⟨ret_int HIX.out, hbel⟩
set_option maxHeartbeats 400000 in
theorem containsX_c (l : List Ex) (r : Ex → Bool) (la : Option Addr) (m lc pb : Nat) (w : World) (hm : l.length = m) (hl : m ≤ 1073741824) (hps : PartsAt w la l)
    (hcall : ∀ x ∈ l, ∀ xn xl wr, Bel w wr → ExAt wr x xn xl → Calls Tryz.prog 148 #[.agg #[.int .i64 x.k, .string x.s, xn, xl], .pointer (some ⟨pb, 0, none⟩)] wr (RetBel (.bool (r x)) wr)) :
    Calls Tryz.prog 147 #[.slice la m lc, .func (.func 148) #[] #[.pointer (some ⟨pb, 0, none⟩)]] w (RetBel (.bool (l.any r)) w) := by
  have hi := indexX_c l r la m lc pb w hm hl hps hcall
  have hany := idxE_any r l 0
  obtain ⟨R, hR⟩ : ∃ R, idxE r 0 l = R := ⟨_, rfl⟩
  rw [hR] at hi hany
  rw [← hany]
  have HI := Lib.hid hi
  clear hi hany hR hcall hps hm
  go_enter Tryz.func147, Tryz.ntmps147
  go_wp2_with (go_at_call 168; refine HI.out.mono ?_; rintro e w1 ⟨rfl, hb⟩)
  go_ret
  exact ⟨rfl, by assumption⟩
theorem deepsE_any : ∀ (l : List Ex) (n : Nat), deepsE l n = l.any fun x => deepE x n
  | [], n => by unfold deepsE; rfl
  | x :: r, n => by unfold deepsE; rw [deepsE_any r n]; rfl
theorem deepE_succ (e : Ex) (n : Nat) : deepE e (n + 1) = e.l.any fun x => deepE x n := by
  obtain ⟨k, s, ns, l⟩ := e; rw [deepE]; exact deepsE_any l n
theorem deepE_zero (e : Ex) : deepE e 0 = true := by obtain ⟨k, s, ns, l⟩ := e; unfold deepE; rfl
set_option maxRecDepth 100000 in
set_option maxHeartbeats 4000000 in
theorem deep1_c (x : Ex) (xna : Option Addr) (xnn xnc : Nat) (xla : Option Addr) (xln xlc : Nat) (pb : Nat) (T : Int) (h0 : 1 ≤ T) (h1 : T ≤ 1099511627776) (b : Bool) (w : World) (hcell : w.cell? ⟨pb, 0, none⟩ = some (.int .i64 T))
    (hc : ∀ W, Bel w W → Calls Tryz.prog 132 #[.agg #[.int .i64 x.k, .string x.s, .slice xna xnn xnc, .slice xla xln xlc], .int .i64 (T - 1)] W (RetBel (.bool b) W)) :
    Calls Tryz.prog 148 #[.agg #[.int .i64 x.k, .string x.s, .slice xna xnn xnc, .slice xla xln xlc], .pointer (some ⟨pb, 0, none⟩)] w (RetBel (.bool b) w) := by
  have HC := Lib.hid hc
  have hc2 := (Bel.alloc w (.cells #[.int .i64 x.k, .string x.s, .slice xna xnn xnc, .slice xla xln xlc] 38)).keep hcell
  clear hc
  go_enter Tryz.func148, Tryz.ntmps148
  go_wp2_with (go_at_call 132; refine (HC.out _ (Bel.alloc _ _)).mono ?_; rintro e w1 ⟨rfl, hb⟩)
  go_ret
  exact ⟨rfl, by (repeat (first | exact Bel.refl _ | assumption | refine Bel.to_drewN ?_ _ | refine Bel.to_drew ?_ | refine Bel.to_setCell ?_ (by first | exact Nat.le_refl _ | (simp; done) | (simp; omega) | omega) _ | refine Bel.to_alloc ?_ _ | refine Bel.trans ?_ (by assumption)))⟩
set_option maxRecDepth 100000 in
set_option maxHeartbeats 4000000 in
theorem deep_c : ∀ (n : Nat) (e : Ex), e.bulk ≤ n → n ≤ 1073741824 → ∀ (vn vl : Value) (w : World) (T : Int), 0 ≤ T → T ≤ 1099511627776 → ExAt w e vn vl →
    Calls Tryz.prog 132 #[.agg #[.int .i64 e.k, .string e.s, vn, vl], .int .i64 T] w (RetBel (.bool (deepE e T.toNat)) w) := by
  intro n
  induction n with
  | zero => intro e he; exfalso; have := bulk_eq e; omega
  | succ n ih =>
    intro e he hn vn vl w T h0 h1 hat
    obtain ⟨na, la, nn, nc, m, lc, rfl, rfl, hnn, hm, hnc, hlc, hnb, hmb, hns, hps⟩ := hat.opened
    by_cases hT : T = 0
    · subst hT
      have hr : deepE e (0 : Int).toNat = true := deepE_zero e
      rw [hr]
      clear ih hps hm hnn hns hat hr
      go_enter Tryz.func132, Tryz.ntmps132
      go_wp2_with fail
      go_ret
      exact ⟨rfl, by (repeat (first | exact Bel.refl _ | assumption | refine Bel.to_drewN ?_ _ | refine Bel.to_drew ?_ | refine Bel.to_setCell ?_ (by first | exact Nat.le_refl _ | (simp; done) | (simp; omega) | omega) _ | refine Bel.to_alloc ?_ _ | refine Bel.trans ?_ (by assumption)))⟩
    · have hTb : (T == 0) = false := by simpa using hT
      have hr : deepE e T.toNat = e.l.any fun x => deepE x (T - 1).toNat := by
        rw [show T.toNat = (T - 1).toNat + 1 from by omega, deepE_succ]
      rw [hr]
      obtain ⟨W2, hW2⟩ : ∃ W2, (w.alloc (.cells #[.int .i64 e.k, .string e.s, .slice na nn nc, .slice la m lc] 38)).alloc (.cells #[.int .i64 T] 3) = W2 := ⟨_, rfl⟩
      have hb2 : Bel w W2 := by rw [← hW2]; exact (Bel.alloc _ _).trans (Bel.alloc _ _)
      have hcell : W2.cell? ⟨w.heap.size + 1, 0, none⟩ = some (.int .i64 T) := by
        rw [← hW2]
        have := (Blk.new (w.alloc (.cells #[.int .i64 e.k, .string e.s, .slice na nn nc, .slice la m lc] 38)) 3 [.int .i64 T]).at 0
        rw [World.size_alloc] at this; exact this
      have hcf := containsX_c e.l (fun x => deepE x (T - 1).toNat) la m lc (w.heap.size + 1) W2 hm (by omega) (hps.bel hb2) (fun x hx xn xl wr hbw hxa => by
        obtain ⟨i, hi⟩ := List.getElem?_of_mem hx
        have hxb := bulk_part hi
        obtain ⟨⟨xna, xnc, rfl, _⟩, xla, xlc, rfl, _⟩ := hxa.parts
        exact deep1_c x _ _ _ _ _ _ _ T (by omega) (by omega) _ wr (hbw.keep hcell) (fun W hW => ih x (by omega) (by omega) _ _ W (T - 1) (by omega) (by omega) (ExAt.bel hW x hxa)))
      obtain ⟨B, hB⟩ : ∃ B, (e.l.any fun x => deepE x (T - 1).toNat) = B := ⟨_, rfl⟩
      rw [hB] at hcf ⊢
      subst hW2
      have HCF := Lib.hid hcf
      have HB2 := Lib.hid hb2
      clear ih hps hm hnn hns hat hr hcf hcell hb2 hB
      go_enter Tryz.func132, Tryz.ntmps132
      go_wp2_with fail
      refine HCF.out.mono ?_
      rintro e2 w2 ⟨rfl, hb3⟩
      go_wp2_with fail
      go_ret
      exact ⟨rfl, HB2.out.trans hb3⟩
end Go.Proofs.YtbcdbefogfmhfaaGreatDoor

namespace Go.Proofs.YtbcdbefogfmhfaaGreatDoor
open Go.RowKit Go.Maps
theorem NamesAt.row {W : World} {na : Option Addr} {ns : List ByteArray} {n c : Nat} (h : NamesAt W na ns) (hn : ns.length = n) (hc : n ≤ c) : RowE W (.slice na n c) (strsV ns) := by
  subst hn
  refine ⟨na, c, by rw [strsV_length], by rw [strsV_length]; exact hc, ?_⟩
  cases ns with
  | nil => exact .inl rfl
  | cons x r =>
    obtain ⟨b, off, rfl, h0⟩ := h 0 x rfl
    refine .inr ⟨b, off, rfl, cell_lt h0, fun j hj => ?_⟩
    have hj2 : j < (x :: r).length := by rw [strsV_length] at hj; exact hj
    obtain ⟨b', off', e, h1⟩ := h j _ (List.getElem?_eq_getElem hj2)
    cases e
    rw [h1]
    simp only [strsV, List.getElem_map]
theorem len_le_of_mem {α : Type} [DecidableEq α] : ∀ (l u : List α), u.Nodup → (∀ x ∈ u, x ∈ l) → u.length ≤ l.length
  | [], u, _, h => by
    cases u with
    | nil => exact Nat.le_refl _
    | cons x r => exact absurd (h x (by simp)) (by simp)
  | a :: l, u, hu, h => by
    have h1 := len_le_of_mem l (u.erase a) (hu.erase a) fun x hx => by
      have h2 := (List.Nodup.mem_erase_iff hu).1 hx
      exact (List.mem_cons.1 (h x h2.2)).resolve_left h2.1
    have h2 := List.length_erase (a := a) (l := u)
    rw [List.length_cons]
    split at h2 <;> omega
theorem len_lt_of_mem {α : Type} [DecidableEq α] : ∀ (l u : List α), ¬ l.Nodup → u.Nodup → (∀ x ∈ u, x ∈ l) → u.length < l.length
  | [], _, h, _, _ => absurd List.nodup_nil h
  | a :: l, u, hl, hu, h => by
    rw [List.length_cons]
    by_cases ha : a ∈ l
    · have := len_le_of_mem l u hu fun x hx => (List.mem_cons.1 (h x hx)).elim (fun e => e ▸ ha) id
      omega
    · have hl2 : ¬ l.Nodup := fun h2 => hl (List.nodup_cons.2 ⟨ha, h2⟩)
      have h1 := len_lt_of_mem l (u.erase a) hl2 (hu.erase a) fun x hx => by
        have h2 := (List.Nodup.mem_erase_iff hu).1 hx
        exact (List.mem_cons.1 (h x h2.2)).resolve_left h2.1
      have h2 := List.length_erase (a := a) (l := u)
      split at h2 <;> omega
theorem uniq_lt (l : List ByteArray) : decide ((uniqS l).length < l.length) = !decide l.Nodup := by
  have h1 := (srt_uniqS l).nodup
  by_cases h : l.Nodup
  · have := len_le_of_mem (uniqS l) l h fun x hx => (mem_uniqS l x).2 hx
    rw [decide_eq_true h, decide_eq_false (by omega)]; rfl
  · have := len_lt_of_mem l (uniqS l) h h1 fun x hx => (mem_uniqS l x).1 hx
    rw [decide_eq_false h, decide_eq_true this]; rfl
set_option maxHeartbeats 400000 in
theorem notright_c (s : ByteArray) (hs : s.size ≤ 4294967280) (w : World) (hE : Env w) :
    Calls Tryz.prog 169 #[.string s] w fun e w' => e = .returned (.bool (!rightS s)) ∧ Bel w w' := by
  have h := right_c s hs w hE
  obtain ⟨R, hR⟩ : ∃ R, (wordsS s).isSome = R := ⟨_, rfl⟩
  unfold rightS
  rw [hR] at h ⊢
  have H := Lib.hid h
  clear h hR
  go_enter Tryz.func169, Tryz.ntmps169
  go_wp2_with fail
  refine H.out.mono ?_
  rintro e w1 ⟨rfl, hb⟩
  go_wp2_with fail
  go_ret
  exact ⟨rfl, hb⟩
theorem asks_notright : AsksS 169 (fun s => !rightS s) (fun s => s.size ≤ 4294967280) := ⟨enters_of Tryz.func169 (by kernel_rfl) rfl, fun s w h hE => notright_c s h w hE⟩
/-- An iterator over texts; a slice of the call's own that is in order. -/
def IterS (W : World) (l : List ByteArray) (w : World) (p : Addr) : Prop := ∃ w0 sl, p = ⟨w0.heap.size, 0, none⟩ ∧ Bel W w0 ∧ RowE w0 sl (strsV l) ∧ Bel (w0.alloc (.cells #[sl] 35)) w
theorem IterS.bel {W w w' : World} {l : List ByteArray} {p : Addr} (h : IterS W l w p) (hb : Bel w w') : IterS W l w' p := by
  obtain ⟨w0, sl, h1, h2, h3, h4⟩ := h
  exact ⟨w0, sl, h1, h2, h3, h4.trans hb⟩
theorem IterS.base {W w : World} {l : List ByteArray} {p : Addr} (h : IterS W l w p) : Bel W w := by
  obtain ⟨w0, sl, h1, h2, h3, h4⟩ := h
  exact h2.trans ((Bel.alloc _ _).trans h4)
def OwnS (W : World) (l : List ByteArray) (w : World) (v : Value) : Prop := ∃ W1, Bel W W1 ∧ w.ownsRow W1.heap.size 9 1 v l.length (strsV (bsL (sortL (l.map (·.data.toList))))) ∧ Bel W1 w
theorem OwnS.bel {W w w' : World} {l : List ByteArray} {v : Value} (h : OwnS W l w v) (hb : Bel w w') : OwnS W l w' v := by
  obtain ⟨W1, h1, h2, h3⟩ := h
  exact ⟨W1, h1, own_bel h2 hb, h3.trans hb⟩
theorem values_s (W : World) (l : List ByteArray) (sl : Value) (w : World) (hb : Bel W w) (hv : RowE W sl (strsV l)) :
    Calls Tryz.prog 87 #[sl] w fun e w' => ∃ p, e = .returned (.func (.func 117) #[] #[.pointer (some p)]) ∧ IterS W l w' p ∧ Bel w w' :=
  (values_c sl l w (hv.bel hb)).mono fun _ _ ⟨he, hw⟩ => ⟨_, he, ⟨w, sl, rfl, hb, hv.bel hb, hw ▸ Bel.refl _⟩, hw ▸ Bel.alloc _ _⟩
theorem sorted_s (W : World) (l : List ByteArray) (w : World) (p : Addr) (h : IterS W l w p) (hl : l.length ≤ 4294967296) (hx : ∀ x ∈ l, x.size ≤ maxLen) :
    Calls Tryz.prog 86 #[.func (.func 117) #[] #[.pointer (some p)]] w fun e w' => ∃ a n c, e = .returned (.slice a n c) ∧ OwnS W l w' (.slice a n c) ∧ Bel w w' := by
  obtain ⟨w0, sl, rfl, h2, h3, h4⟩ := h
  refine (sorted_c sl l w0 h3 hl hx w h4).mono ?_
  rintro e w' ⟨v, rfl, hown, hb⟩
  have hrow := own_row (v := v) (B := w.heap.size) (n := l.length) (xs := strsV (bsL (sortL (l.map (·.data.toList))))) hown
  obtain ⟨a, c, rfl, _⟩ := row0_form hrow _ rfl
  exact ⟨a, _, c, rfl, ⟨w, h2.trans ((Bel.alloc _ _).trans h4), hown, hb⟩, hb⟩
theorem compact_s (W : World) (l : List ByteArray) (w : World) (v : Value) (h : OwnS W l w v) (hl : l.length ≤ 4294967296) :
    Calls Tryz.prog 85 #[v] w fun e w' => ∃ a c, e = .returned (.slice a (uniqS l).length c) ∧ Bel W w' := by
  obtain ⟨W1, h1, h2, h3⟩ := h
  have hsl : (sortL (l.map (·.data.toList))).length = l.length := by rw [sortL_length, List.length_map]
  refine (compact_c W1 v (sortL (l.map (·.data.toList))) w (by rw [hsl]; exact h2) (by omega) h3).mono ?_
  rintro e w' ⟨u, rfl, hrow, hb⟩
  have hrow2 : RowAt0 w' u (strsV (uniqS l)) := hrow
  obtain ⟨a, c, rfl, _⟩ := row0_form hrow2 (uniqS l).length (strsV_length _)
  exact ⟨a, c, rfl, h1.trans hb⟩
set_option maxRecDepth 100000 in
set_option maxHeartbeats 8000000 in
theorem own_c (mv : Value) (e : Ex) (vn vl : Value) (t : Bool) (w : World) (hE : EnvX w) (hbk : e.bulk ≤ 1073741824) (hr : RowsAt w mv) (hat : ExAt w e vn vl) :
    Calls Tryz.prog 149 #[mv, .agg #[.int .i64 e.k, .string e.s, vn, vl], .bool t] w (RetBel (.int .i64 (ownK e.k e.s e.ns e.l.length t)) w) := by
  have hwf := hat.wf
  obtain ⟨na, la, nn, nc, m, lc, rfl, rfl, hnn, hm, hnc, hlc, hnb, hmb, hns, hps⟩ := hat.opened
  obtain ⟨R, hR⟩ : ∃ R, ownK e.k e.s e.ns e.l.length t = R := ⟨_, rfl⟩
  rw [hR]
  rw [hm] at hR
  have hs2 : e.s.size ≤ 1073741824 := by have := bulk_s e; omega
  have hsz : ∀ x ∈ e.ns, x.size ≤ 1073741824 := fun x hx => by have := bulk_name hx; omega
  have hlook := hr _ (Bel.alloc w (.cells #[.int .i64 e.k, .string e.s, .slice na nn nc, .slice la m lc] 38)) e.k hwf
  obtain ⟨k, hk⟩ : ∃ k, e.k = k := ⟨_, rfl⟩
  obtain ⟨s, hs⟩ : ∃ s, e.s = s := ⟨_, rfl⟩
  obtain ⟨ns, hnse⟩ : ∃ ns, e.ns = ns := ⟨_, rfl⟩
  rw [hk, hs] at hlook ⊢
  rw [hk, hs, hnse] at hR
  rw [hs] at hs2
  rw [hnse] at hsz hnn hns
  have hm2 : m ≤ 1073741824 := by omega
  have hn2 : nn ≤ 1073741824 := by omega
  clear hk hs hnse hwf hm hps hat hr hbk hnb hmb
  by_cases hkr : 0 ≤ k ∧ k ≤ 19
  · obtain ⟨fv, hl1, hask⟩ := hlook.1 hkr
    unfold ownK at hR
    rw [if_neg (by simpa using hkr)] at hR
    unfold formE at hR
    have hR2 := Lib.hid hR
    obtain ⟨P, hP⟩ : ∃ P, partsK k = P := ⟨_, rfl⟩
    obtain ⟨N, hN⟩ : ∃ N, namedK k = N := ⟨_, rfl⟩
    obtain ⟨M, hM⟩ : ∃ M, namesK k = M := ⟨_, rfl⟩
    obtain ⟨T, hT⟩ : ∃ T, textK k s = T := ⟨_, rfl⟩
    rw [hP, hN, hM, hT, hnn] at hR2
    rw [hP, hN, hM] at hl1
    obtain ⟨h, caps, rfl, hen, hcall⟩ := hask
    have HCALL := Lib.hid (fun W' (hE' : EnvX W') hb => hcall s W' hs2 hE' hb)
    rw [hT] at HCALL
    clear hlook hcall hT hP hN hM
    go_enter Tryz.func149, Tryz.ntmps149
    go_upto_region 4 with fail
    have tb := (Blk.new w 38 [.int .i64 k, .string s, .slice na nn nc, .slice la m lc]).bel (Bel.alloc _ (.cells #[.int .i64 P, .bool N, .bool M, .func (.func h) #[] caps] 199))
    have tr := Blk.new (w.alloc (.cells #[.int .i64 k, .string s, .slice na nn nc, .slice la m lc] 38)) 199 [.int .i64 P, .bool N, .bool M, .func (.func h) #[] caps]
    have hb2 : Bel w ((w.alloc (.cells #[.int .i64 k, .string s, .slice na nn nc, .slice la m lc] 38)).alloc (.cells #[.int .i64 P, .bool N, .bool M, .func (.func h) #[] caps] 199)) := (Bel.alloc _ _).to_alloc _
    rw [World.size_alloc] at tr
    have hb1 : Bel (w.alloc (.cells #[.int .i64 k, .string s, .slice na nn nc, .slice la m lc] 38)) ((w.alloc (.cells #[.int .i64 k, .string s, .slice na nn nc, .slice la m lc] 38)).alloc (.cells #[.int .i64 P, .bool N, .bool M, .func (.func h) #[] caps] 199)) := Bel.alloc _ _
    generalize hW2 : (w.alloc (.cells #[.int .i64 k, .string s, .slice na nn nc, .slice la m lc] 38)).alloc (.cells #[.int .i64 P, .bool N, .bool M, .func (.func h) #[] caps] 199) = W2 at hb1 hb2 tb tr ⊢
    have c0 : W2.cell? ⟨w.heap.size, 0, none⟩ = some (.int .i64 k) := tb.at 0
    have c1 : W2.cell? ⟨w.heap.size, 1, none⟩ = some (.string s) := tb.at 1
    have c2 : W2.cell? ⟨w.heap.size, 2, none⟩ = some (.slice na nn nc) := tb.at 2
    have c3 : W2.cell? ⟨w.heap.size, 3, none⟩ = some (.slice la m lc) := tb.at 3
    have r0 : W2.cell? ⟨w.heap.size + 1, 0, none⟩ = some (.int .i64 P) := tr.at 0
    have r1 : W2.cell? ⟨w.heap.size + 1, 1, none⟩ = some (.bool N) := tr.at 1
    have r2 : W2.cell? ⟨w.heap.size + 1, 2, none⟩ = some (.bool M) := tr.at 2
    have r3 : W2.cell? ⟨w.heap.size + 1, 3, none⟩ = some (.func (.func h) #[] caps) := tr.at 3
    have HB2 := Lib.hid hb2
    have HC2 := Lib.hid (HCALL.out W2 (hE.bel hb2) hb1)
    have HNN := Lib.hid hnn
    have HNS := Lib.hid hns
    have HSZ := Lib.hid hsz
    have HE := Lib.hid hE
    obtain ⟨q1, hq1⟩ : ∃ q, decide (0 ≤ P ∧ (m : Int) ≠ P) = q := ⟨_, rfl⟩
    obtain ⟨q2, hq2⟩ : ∃ q, decide (P = -2 ∧ m = 0) = q := ⟨_, rfl⟩
    obtain ⟨b17, hb17⟩ : ∃ b, (k == 17) = b := ⟨_, rfl⟩
    obtain ⟨b19, hb19⟩ : ∃ b, (k == 19) = b := ⟨_, rfl⟩
    obtain ⟨b1, hb1k⟩ : ∃ b, (k == 1) = b := ⟨_, rfl⟩
    rw [show decide (k = 17 ∧ nn ≠ m) = (b17 && decide (nn ≠ m)) from by rw [← hb17, Bool.eq_iff_iff]; simp, show decide (k = 19) = b19 from by rw [← hb19, Bool.eq_iff_iff]; simp,
      show (if k = 1 ∧ chkS s < s.size then 4 else 0) = if b1 = true ∧ chkS s < s.size then 4 else 0 from by rw [← hb1k]; simp] at hR2
    obtain ⟨q3, hq3⟩ : ∃ q, (b17 && decide (nn ≠ m)) = q := ⟨_, rfl⟩
    obtain ⟨q4, hq4⟩ : ∃ q, (!M && decide (0 < nn)) = q := ⟨_, rfl⟩
    obtain ⟨q5, hq5⟩ : ∃ q, (b19 && !t) = q := ⟨_, rfl⟩
    obtain ⟨q6, hq6⟩ : ∃ q, (N && !rightS s) = q := ⟨_, rfl⟩
    obtain ⟨q7, hq7⟩ : ∃ q, (ns.any fun x => !rightS x) = q := ⟨_, rfl⟩
    rw [hq1, hq2, hq3, hq4, hq5, hq6, hq7] at hR2
    have Q1 := Lib.hid hq1
    have Q2 := Lib.hid hq2
    have Q3 := Lib.hid hq3
    have Q4 := Lib.hid hq4
    have Q5 := Lib.hid hq5
    have Q6 := Lib.hid hq6
    have Q7 := Lib.hid hq7
    clear hR hnn hns hsz hE hl1 hW2 hb1 hb2 tb tr HCALL hq1 hq2 hq3 hq4 hq5 hq6 hq7
    go_cut [21] (fun v wx => v = .bool q1 ∧ W2 = wx)
    case first =>
      go_wp2_with fail
      all_goals (go_meet; exact ⟨bool_eq (by rw [← Q1.out, Bool.eq_iff_iff]; simp; omega), rfl⟩)
    case rest =>
    obtain ⟨rfl, rfl⟩ := hcut
    go_upto_if 21 with fail
    go_cut [21] (fun v wx => v = .bool (q1 || q2) ∧ W2 = wx)
    case first =>
      go_wp2_with fail
      all_goals (go_meet; exact ⟨bool_eq (by rw [← Q2.out]; by_cases hm0 : m = 0 <;> simp [*]), rfl⟩)
    case rest =>
    obtain ⟨rfl, rfl⟩ := hcut
    have HR2 := hR2
    obtain ⟨B1, hB1⟩ : ∃ B, (q1 || q2) = B := ⟨_, rfl⟩
    rw [hB1] at HR2 ⊢
    clear hB1 hR2
    cases B1 with
    | true =>
      have hf : R = 17 := by have := HR2.out; simp at this; exact this.symm
      have HF := Lib.hid hf
      clear hf
      go_wp2_with fail
      go_ret
      exact ⟨ret_int (by rw [HF.out]; rfl), HB2.out⟩
    | false =>
    go_upto_region 7 with fail
    go_cut [42] (fun v wx => v = .bool q3 ∧ W2 = wx)
    case first =>
      go_wp2_with fail
      all_goals (go_meet; exact ⟨bool_eq (by rw [← Q3.out]; simp [*]; try (first | done | (rw [Bool.eq_iff_iff]; simp <;> omega))), rfl⟩)
    case rest =>
    obtain ⟨rfl, rfl⟩ := hcut
    go_upto_if 42 with fail
    go_cut [42] (fun v wx => v = .bool (q3 || q4) ∧ W2 = wx)
    case first =>
      go_wp2_with fail
      all_goals (go_meet; exact ⟨bool_eq (by rw [← Q4.out]; simp [*]; try (first | done | (rw [Bool.eq_iff_iff]; simp <;> omega))), rfl⟩)
    case rest =>
    obtain ⟨rfl, rfl⟩ := hcut
    obtain ⟨B2, hB2⟩ : ∃ B, (q3 || q4) = B := ⟨_, rfl⟩
    rw [hB2] at HR2 ⊢
    clear hB2
    cases B2 with
    | true =>
      have hf : R = 17 := by have := HR2.out; simp at this; exact this.symm
      have HF := Lib.hid hf
      clear hf
      go_wp2_with fail
      go_ret
      exact ⟨ret_int (by rw [HF.out]; rfl), HB2.out⟩
    | false =>
    go_upto_if 64 with ((with_reducible refine HC2.out.mono ?_); rintro e3 w3 ⟨rfl, hb3⟩)
    have d0 := hb3.keep c0
    have d1 := hb3.keep c1
    have d2 := hb3.keep c2
    have d3 := hb3.keep c3
    have u1 := hb3.keep r1
    have HB3 := Lib.hid (HB2.out.trans hb3)
    clear hb3 c0 c1 c2 c3 r0 r1 r2 r3 hen HC2
    go_cut [64] (fun v wx => v = .bool (!T || q5) ∧ w3 = wx)
    case first =>
      go_wp2_with fail
      all_goals (go_meet; exact ⟨bool_eq (by rw [← Q5.out]; simp [*]; try (first | done | (rw [Bool.eq_iff_iff]; simp <;> omega))), rfl⟩)
    case rest =>
    obtain ⟨rfl, rfl⟩ := hcut
    obtain ⟨B3, hB3⟩ : ∃ B, (!T || q5) = B := ⟨_, rfl⟩
    have HR3 : Hid ((if B3 = true then 17 else if (q6 || q7) = true then 6 else if ¬ ns.Nodup then 8 else if b1 = true ∧ chkS s < s.size then 4 else 0) = R) := Lib.hid (by
      rw [← HR2.out, ← hB3]
      cases T <;> cases q5 <;> rfl)
    rw [hB3]
    clear hB3 HR2
    cases B3 with
    | true =>
      have hf : R = 17 := by have := HR3.out; simp at this; exact this.symm
      have HF := Lib.hid hf
      clear hf
      go_wp2_with fail
      go_ret
      exact ⟨ret_int (by rw [HF.out]; rfl), HB3.out⟩
    | false =>
    have HRI : Hid (∀ w1, Bel w3 w1 → Calls Tryz.prog 84 #[.string s] w1 fun e w' => e = .returned (.bool (rightS s)) ∧ Bel w1 w') := Lib.hid fun w1 hb => right_c s (by omega) w1 ((HE.out.1.bel HB3.out).bel hb)
    obtain ⟨rs, hrs⟩ : ∃ r, rightS s = r := ⟨_, rfl⟩
    rw [hrs] at HRI
    have Q6b : Hid ((N && !rs) = q6) := Lib.hid (by rw [← hrs]; exact Q6.out)
    clear hrs
    go_upto_region 13 with fail
    go_cut [78] (fun v wx => v = .bool q6 ∧ Bel w3 wx)
    case first =>
      go_wp2_with (go_at_call 84; refine (HRI.out _ (Bel.refl _)).mono ?_; rintro e4 w4 ⟨rfl, hb4⟩)
      all_goals (go_meet; exact ⟨bool_eq (by rw [← Q6b.out]; simp [*]), by first | exact Bel.refl _ | assumption⟩)
    case rest =>
    obtain ⟨rfl, hb4⟩ := hcut
    go_upto_if 78 with fail
    generalize wc = W4 at hb4 ⊢
    have HB4 := Lib.hid (HB3.out.trans hb4)
    have x0 := hb4.keep d0
    have x1 := hb4.keep d1
    have x2 := hb4.keep d2
    have x3 := hb4.keep d3
    clear hb4 d0 d1 d2 d3 u1 HRI
    have HCF : Hid (Calls Tryz.prog 111 #[.slice na nn nc, .func (.func 169) #[] #[]] W4 fun e w' => e = .returned (.bool q7) ∧ Bel W4 w') := Lib.hid (by
      have h := containsFunc_c (.slice na nn nc) ns _ _ _ asks_notright W4 (HE.out.1.bel HB4.out) (fun s hs => Nat.le_trans (HSZ.out s hs) (by omega)) ((HNS.out.bel HB4.out).row HNN.out hnc) (by have := HNN.out; omega)
      rw [Q7.out] at h
      exact h)
    go_cut [78] (fun v wx => v = .bool (q6 || q7) ∧ Bel W4 wx)
    case first =>
      go_wp2_with (go_at_call 111; refine HCF.out.mono ?_; rintro e5 w5 ⟨rfl, hb5⟩)
      all_goals (go_meet; exact ⟨bool_eq (by simp [*]), by first | exact Bel.refl _ | assumption⟩)
    case rest =>
    obtain ⟨rfl, hb5⟩ := hcut
    generalize wc = W5 at hb5 ⊢
    have HB5 := Lib.hid (HB4.out.trans hb5)
    have y0 := hb5.keep x0
    have y1 := hb5.keep x1
    have y2 := hb5.keep x2
    clear hb5 x0 x1 x2 x3 HCF
    obtain ⟨B4, hB4⟩ : ∃ B, (q6 || q7) = B := ⟨_, rfl⟩
    rw [hB4] at HR3 ⊢
    clear hB4
    cases B4 with
    | true =>
      have hf : R = 6 := by have := HR3.out; simp at this; exact this.symm
      have HF := Lib.hid hf
      clear hf
      go_wp2_with fail
      go_ret
      exact ⟨ret_int (by rw [HF.out]; rfl), HB5.out⟩
    | false =>
    go_upto_region 16 with fail
    have HVS : Hid (∀ w1, Bel W5 w1 → Calls Tryz.prog 87 #[.slice na nn nc] w1 fun e w' => ∃ p, e = .returned (.func (.func 117) #[] #[.pointer (some p)]) ∧ IterS W5 ns w' p ∧ Bel w1 w') :=
      Lib.hid fun w1 hb => values_s W5 ns _ w1 hb ((HNS.out.bel HB5.out).row HNN.out hnc)
    have HSO := Lib.hid (fun w1 p (h : IterS W5 ns w1 p) => sorted_s W5 ns w1 p h (by have := HNN.out; omega) (fun x hx => by have := HSZ.out x hx; unfold maxLen; omega))
    have HCO := Lib.hid (fun w1 v (h : OwnS W5 ns w1 v) => compact_s W5 ns w1 v h (by have := HNN.out; omega))
    obtain ⟨U, hU⟩ : ∃ U, (uniqS ns).length = U := ⟨_, rfl⟩
    rw [hU] at HCO
    have HU := Lib.hid hU
    clear hU
    go_cut [90] (fun v wx => v = .bool (decide (U < nn)) ∧ Bel W5 wx)
    case first =>
      go_region_held3 (fun w' => w'.cell? ⟨w.heap.size, 2, none⟩ = some (.slice na nn nc) ∧ Bel W5 w') (((try dsimp only); (try go_split_ands); (refine ⟨?_, ?_⟩ <;> first | assumption | exact Bel.keep (by assumption) (by assumption) | ((repeat (first | exact Bel.refl _ | assumption | refine Bel.to_drewN ?_ _ | refine Bel.to_drew ?_ | refine Bel.to_setCell ?_ (by first | exact Nat.le_refl _ | (simp; done) | (simp; omega) | omega) _ | refine Bel.to_alloc ?_ _ | refine Bel.trans ?_ (by assumption))); done) | (go_keep; done))))
        (first
          | (go_at_call 87; refine (HVS.out _ (by (repeat (first | exact Bel.refl _ | assumption | refine Bel.to_drewN ?_ _ | refine Bel.to_drew ?_ | refine Bel.to_setCell ?_ (by first | exact Nat.le_refl _ | (simp; done) | (simp; omega) | omega) _ | refine Bel.to_alloc ?_ _ | refine Bel.trans ?_ (by assumption))))).mono ?_; rintro e6 w6 ⟨p, rfl, hit, hb6⟩; have HIT := Lib.hid hit; clear hit)
          | (go_at_call 86; refine (HSO.out _ _ (HIT.out.bel (by (repeat (first | exact Bel.refl _ | assumption | refine Bel.to_drewN ?_ _ | refine Bel.to_drew ?_ | refine Bel.to_setCell ?_ (by first | exact Nat.le_refl _ | (simp; done) | (simp; omega) | omega) _ | refine Bel.to_alloc ?_ _ | refine Bel.trans ?_ (by assumption)))))).mono ?_; rintro e7 w7 ⟨a7, n7, c7, rfl, how, hb7⟩; have HOW := Lib.hid how; clear how)
          | (go_at_call 85; refine (HCO.out _ _ (HOW.out.bel (by (repeat (first | exact Bel.refl _ | assumption | refine Bel.to_drewN ?_ _ | refine Bel.to_drew ?_ | refine Bel.to_setCell ?_ (by first | exact Nat.le_refl _ | (simp; done) | (simp; omega) | omega) _ | refine Bel.to_alloc ?_ _ | refine Bel.trans ?_ (by assumption)))))).mono ?_; rintro e8 w8 ⟨a8, c8, rfl, hb8⟩))
      all_goals (go_wp2_with fail; go_meet)
      all_goals exact ⟨rfl, by assumption⟩
    case rest =>
    obtain ⟨rfl, hb6⟩ := hcut
    generalize wc = W6 at hb6 ⊢
    have HB6 := Lib.hid (HB5.out.trans hb6)
    have z0 := hb6.keep y0
    have z1 := hb6.keep y1
    clear hb6 y0 y1 y2 HVS HSO HCO
    obtain ⟨D, hD⟩ : ∃ D, decide (U < nn) = D := ⟨_, rfl⟩
    rw [hD]
    have HD : Hid ((!decide ns.Nodup) = D) := Lib.hid (by rw [← hD, ← HU.out, ← HNN.out]; exact (uniq_lt ns).symm)
    clear hD
    cases D with
    | true =>
      have hf : R = 8 := by
        have h1 := HD.out
        have h2 := HR3.out
        simp at h1
        simp [h1] at h2
        exact h2.symm
      have HF := Lib.hid hf
      clear hf
      go_wp2_with fail
      go_ret
      exact ⟨ret_int (by rw [HF.out]; rfl), HB6.out⟩
    | false =>
    have HR4 : Hid ((if b1 = true ∧ chkS s < s.size then 4 else 0) = R) := Lib.hid (by
      have h1 := HD.out
      have h2 := HR3.out
      simp at h1
      simpa [h1] using h2)
    clear HD HR3
    cases b1 with
    | false =>
      have hf : R = 0 := by have := HR4.out; simp at this; exact this.symm
      have HF := Lib.hid hf
      clear hf
      go_wp2_with fail
      go_ret
      exact ⟨ret_int (by rw [HF.out]; rfl), HB6.out⟩
    | true =>
      have HCK := Lib.hid (fun v w1 (hb : Bel W6 w1) (hv : BytesAt w1 v s) => check_c s (by omega) v w1 ((HE.out.1.bel HB6.out).bel hb) hv)
      have hRi : (if chkS s < s.size then (4 : Int) else 0) = R := by
        have := HR4.out
        by_cases hc : chkS s < s.size
        · simp [hc] at this ⊢; omega
        · simp [hc] at this ⊢; omega
      rw [hRi] at HCK
      clear hRi
      go_wp2_with (refine wpL_bytes rfl 9 50 5 _ rfl s rfl Tryz.underlying9 Tryz.underlying50 Tryz.underlying5 ?_; intro v7 w7 hv7 hb7)
      refine (HCK.out _ _ hb7 hv7).mono ?_
      rintro e8 w8 ⟨rfl, hb8⟩
      go_wp2_with fail
      go_ret
      exact ⟨rfl, HB6.out.trans (hb7.trans hb8)⟩
  · obtain ⟨p, n, mm, hl1⟩ := hlook.2 hkr
    unfold ownK at hR
    rw [if_pos (by simpa using hkr)] at hR
    subst hR
    clear hlook
    go_enter Tryz.func149, Tryz.ntmps149
    go_wp2_with fail
    go_ret
    exact ⟨rfl, by (repeat (first | exact Bel.refl _ | assumption | refine Bel.to_drewN ?_ _ | refine Bel.to_drew ?_ | refine Bel.to_setCell ?_ (by first | exact Nat.le_refl _ | (simp; done) | (simp; omega) | omega) _ | refine Bel.to_alloc ?_ _ | refine Bel.trans ?_ (by assumption)))⟩
end Go.Proofs.YtbcdbefogfmhfaaGreatDoor

namespace Go.Proofs.YtbcdbefogfmhfaaGreatDoor
open Go.RowKit Go.Maps
set_option maxRecDepth 100000 in
set_option maxHeartbeats 4000000 in
theorem check_e : ∀ (n : Nat) (e : Ex), e.bulk ≤ n → n ≤ 1073741824 → ∀ (mv vn vl : Value) (t : Bool) (w : World), EnvX w → RowsAt w mv → ExAt w e vn vl →
    Calls Tryz.prog 133 #[mv, .agg #[.int .i64 e.k, .string e.s, vn, vl], .bool t] w (RetBel (.int .i64 (checkE e t)) w) := by
  intro n
  induction n with
  | zero => intro e he; exfalso; have := bulk_eq e; omega
  | succ n ih =>
    intro e he hn mv vn vl t w hE hr hat
    have HAT := Lib.hid hat
    obtain ⟨na, la, nn, nc, m, lc, rfl, rfl, hnn, hm, hnc, hlc, hnb, hmb, hns, hps⟩ := hat.opened
    have HOWN := Lib.hid (fun W (hb : Bel w W) => own_c mv e _ _ t W (hE.bel hb) (by omega) (hr.bel hb) (ExAt.bel hb e HAT.out))
    have PS := Lib.hid hps
    have HM := Lib.hid hm
    have HE := Lib.hid hE
    have HR := Lib.hid hr
    have HIH : Hid (∀ (x : Ex), x.bulk < e.bulk → ∀ xn xl b W, EnvX W → RowsAt W mv → ExAt W x xn xl → Calls Tryz.prog 133 #[mv, .agg #[.int .i64 x.k, .string x.s, xn, xl], .bool b] W (RetBel (.int .i64 (checkE x b)) W)) := Lib.hid fun x hx xn xl b W h1 h2 h3 => ih x (by omega) (by omega) mv xn xl b W h1 h2 h3
    have hm2 : m ≤ 1073741824 := by omega
    obtain ⟨R, hR⟩ : ∃ R, checkE e t = R := ⟨_, rfl⟩
    rw [hR]
    rw [checkE_eq] at hR
    obtain ⟨o, ho⟩ : ∃ o, ownK e.k e.s e.ns e.l.length t = o := ⟨_, rfl⟩
    rw [ho] at HOWN hR
    obtain ⟨b7, hb7⟩ : ∃ b, (e.k == 7) = b := ⟨_, rfl⟩
    rw [show decide (e.k = 7) = b7 from by rw [← hb7, Bool.eq_iff_iff]; simp] at hR
    have HRR := Lib.hid hR
    clear ih hps hm hnn hns hat hE hr hR ho
    go_enter Tryz.func133, Tryz.ntmps133
    go_wp2_with fail
    refine (HOWN.out _ (Bel.alloc _ _)).mono ?_
    rintro e1 w1 ⟨rfl, hb1⟩
    have t0 := (Blk.new w 38 [.int .i64 e.k, .string e.s, .slice na nn nc, .slice la m lc]).bel hb1
    have c0 : w1.cell? ⟨w.heap.size, 0, none⟩ = some (.int .i64 e.k) := t0.at 0
    have c3 : w1.cell? ⟨w.heap.size, 3, none⟩ = some (.slice la m lc) := t0.at 3
    have HB1 := Lib.hid ((Bel.alloc w _).trans hb1)
    clear hb1 t0 HOWN
    by_cases ho : o = 0
    · subst ho
      have HR2 : Hid (checksE b7 0 e.l = R) := Lib.hid (by rw [← HRR.out, if_pos rfl])
      clear HRR
      go_wp2_with fail
      go_loopw [21] (fun i wr => ∃ j : Nat, j ≤ m ∧ i = .int .i64 j ∧ Bel w1 wr ∧ checksE b7 j (e.l.drop j) = R) (fun i _ => m - (intOf i).toNat)
      case atStart => exact ⟨0, Nat.zero_le _, rfl, Bel.refl _, HR2.out⟩
      case round =>
        obtain ⟨j, hj, rfl, hbel, hck⟩ := hrel
        by_cases hlt : j < m
        · have hlti : (j : Int) < m := by omega
          obtain ⟨x, hx⟩ : ∃ x, e.l[j]? = some x := ⟨_, List.getElem?_eq_getElem (by have := HM.out; omega)⟩
          obtain ⟨b, off, xna, xnn, xnc, xla, xln, xlc, rfl, g0, g1, g2, g3, hxa⟩ := PS.out j x hx
          have f0 := (HB1.out.trans hbel).keep g0
          have f1 := (HB1.out.trans hbel).keep g1
          have f2 := (HB1.out.trans hbel).keep g2
          have f3 := (HB1.out.trans hbel).keep g3
          have d0 := hbel.keep c0
          have hwl : w.heap.size < wr.heap.size := cell_lt d0
          have HC := Lib.hid (fun bb W (hbW : Bel wr W) => HIH.out x (bulk_part hx) (.slice xna xnn xnc) (.slice xla xln xlc) bb W (HE.out.bel (HB1.out.trans (hbel.trans hbW))) (HR.out.bel (HB1.out.trans (hbel.trans hbW))) (ExAt.bel (HB1.out.trans (hbel.trans hbW)) x hxa))
          rw [checksE_drop b7 e.l j x hx] at hck
          obtain ⟨bj, hbj⟩ : ∃ b, ((j : Int) == 1) = b := ⟨_, rfl⟩
          rw [show (j == 1) = bj from by rw [← hbj, Bool.eq_iff_iff]; simp; omega] at hck
          obtain ⟨c, hc⟩ : ∃ c, checkE x (b7 && bj) = c := ⟨_, rfl⟩
          rw [hc] at hck
          have HC2 : Hid (∀ W, Bel wr W → Calls Tryz.prog 133 #[mv, .agg #[.int .i64 x.k, .string x.s, .slice xna xnn xnc, .slice xla xln xlc], .bool (b7 && bj)] W (RetBel (.int .i64 c) W)) := Lib.hid (fun W hW => by have := HC.out (b7 && bj) W hW; rw [hc] at this; exact this)
          have HCK := Lib.hid hck
          have HB := Lib.hid hbel
          clear g0 g1 g2 g3 hxa hx hck hc hbel HC
          by_cases hc0 : c = 0
          · subst hc0
            rw [if_pos rfl] at HCK
            cases b7 with
            | false =>
              go_wp2_with fail
              refine (HC2.out _ (Bel.alloc _ _)).mono ?_
              rintro e2 w2 ⟨rfl, hb2⟩
              go_wp2_with fail
              exact ⟨⟨j + 1, by omega, by go_num, HB.out.trans ((Bel.alloc _ _).trans hb2), HCK.out⟩, by simp [intOf]; omega⟩
            | true =>
              go_wp2_with fail
              refine (HC2.out _ (Bel.alloc _ _)).mono ?_
              rintro e2 w2 ⟨rfl, hb2⟩
              go_wp2_with fail
              exact ⟨⟨j + 1, by omega, by go_num, HB.out.trans ((Bel.alloc _ _).trans hb2), HCK.out⟩, by simp [intOf]; omega⟩
          · have hc2 : ((c : Int) == 0) = false := by simpa using hc0
            have hc3 : ((c : Int) != 0) = true := by simpa using hc0
            rw [if_neg hc0] at HCK
            have HC0 := Lib.hid hc0
            clear hc0
            cases b7 with
            | false =>
              go_wp2_with fail
              refine (HC2.out _ (Bel.alloc _ _)).mono ?_
              rintro e2 w2 ⟨rfl, hb2⟩
              go_wp2_with fail
              go_ret
              exact ⟨ret_int (by rw [HCK.out]), HB1.out.trans (HB.out.trans ((Bel.alloc _ _).trans hb2))⟩
            | true =>
              go_wp2_with fail
              refine (HC2.out _ (Bel.alloc _ _)).mono ?_
              rintro e2 w2 ⟨rfl, hb2⟩
              go_wp2_with fail
              go_ret
              exact ⟨ret_int (by rw [HCK.out]), HB1.out.trans (HB.out.trans ((Bel.alloc _ _).trans hb2))⟩
        · obtain rfl : j = m := by omega
          rw [checksE_end b7 e.l j (by have := HM.out; omega)] at hck
          subst hck
          clear HR2
          go_wp2_with fail
          go_ret
          exact ⟨rfl, HB1.out.trans hbel⟩
    · have ho2 : ((o : Int) == 0) = false := by simpa using ho
      have ho3 : ((o : Int) != 0) = true := by simpa using ho
      rw [if_neg ho] at HRR
      have HO := Lib.hid ho
      clear ho
      go_wp2_with fail
      go_ret
      exact ⟨ret_int (by rw [HRR.out]), HB1.out⟩
set_option maxRecDepth 100000 in
set_option maxHeartbeats 4000000 in
theorem check_x (e : Ex) (vn vl : Value) (w : World) (hE : EnvX w) (hb : e.bulk ≤ 1073741824) (hat : ExAt w e vn vl) :
    Calls Tryz.prog 113 #[.agg #[.int .i64 e.k, .string e.s, vn, vl]] w (RetBel (.int .i64 (CheckE e)) w) := by
  have HAT := Lib.hid hat
  obtain ⟨na, la, nn, nc, m, lc, rfl, rfl, _, _, _, _, _, _, _, _⟩ := hat.opened
  have HD := Lib.hid (fun W (hbW : Bel w W) => deep_c e.bulk e (Nat.le_refl _) hb _ _ W 200 (by omega) (by omega) (ExAt.bel hbW e HAT.out))
  have HR := Lib.hid (fun W => rows_c W)
  have HC := Lib.hid (fun mv W (hbW : Bel w W) (hr : RowsAt W mv) => check_e e.bulk e (Nat.le_refl _) hb mv _ _ true W (hE.bel hbW) hr (ExAt.bel hbW e HAT.out))
  obtain ⟨R, hR⟩ : ∃ R, CheckE e = R := ⟨_, rfl⟩
  rw [hR]
  unfold CheckE at hR
  have HD2 : Hid (∀ W, Bel w W → Calls Tryz.prog 132 #[.agg #[.int .i64 e.k, .string e.s, .slice na nn nc, .slice la m lc], .int .i64 200] W (RetBel (.bool (deepE e 200)) W)) := Lib.hid fun W hW => HD.out W hW
  obtain ⟨d, hd⟩ : ∃ d, deepE e 200 = d := ⟨_, rfl⟩
  rw [hd] at HD2 hR
  obtain ⟨c, hc⟩ : ∃ c, checkE e true = c := ⟨_, rfl⟩
  rw [hc] at HC hR
  have HRR := Lib.hid hR
  clear hd hc hR hat HD hE hb
  cases d with
  | true =>
    have hf : R = 9 := by have := HRR.out; simp at this; exact this.symm
    subst hf
    go_enter Tryz.func113, Tryz.ntmps113
    go_wp2_with fail
    refine (HD2.out _ (Bel.alloc _ _)).mono ?_
    rintro e1 w1 ⟨rfl, hb1⟩
    go_wp2_with fail
    go_ret
    exact ⟨rfl, by (repeat (first | exact Bel.refl _ | assumption | refine Bel.to_drewN ?_ _ | refine Bel.to_drew ?_ | refine Bel.to_setCell ?_ (by first | exact Nat.le_refl _ | (simp; done) | (simp; omega) | omega) _ | refine Bel.to_alloc ?_ _ | refine Bel.trans ?_ (by assumption)))⟩
  | false =>
    have hf : R = c := by have := HRR.out; simp at this; exact this.symm
    subst hf
    clear HRR
    go_enter Tryz.func113, Tryz.ntmps113
    go_wp2_with fail
    refine (HD2.out _ (Bel.alloc _ _)).mono ?_
    rintro e1 w1 ⟨rfl, hb1⟩
    have t0 := (Blk.new w 38 [.int .i64 e.k, .string e.s, .slice na nn nc, .slice la m lc]).bel hb1
    have c0 : w1.cell? ⟨w.heap.size, 0, none⟩ = some (.int .i64 e.k) := t0.at 0
    have c1 : w1.cell? ⟨w.heap.size, 1, none⟩ = some (.string e.s) := t0.at 1
    have c2 : w1.cell? ⟨w.heap.size, 2, none⟩ = some (.slice na nn nc) := t0.at 2
    have c3 : w1.cell? ⟨w.heap.size, 3, none⟩ = some (.slice la m lc) := t0.at 3
    have HB1 := Lib.hid ((Bel.alloc w _).trans hb1)
    clear hb1 t0
    go_wp2_with fail
    go_region_held3 (fun w' => w'.cell? ⟨w.heap.size, 0, none⟩ = some (.int .i64 e.k) ∧ w'.cell? ⟨w.heap.size, 1, none⟩ = some (.string e.s) ∧ w'.cell? ⟨w.heap.size, 2, none⟩ = some (.slice na nn nc) ∧ w'.cell? ⟨w.heap.size, 3, none⟩ = some (.slice la m lc) ∧ Bel w1 w') (((try dsimp only); (try go_split_ands); (refine ⟨?_, ?_, ?_, ?_, ?_⟩ <;> first | assumption | exact Bel.keep (by assumption) (by assumption) | ((repeat (first | exact Bel.refl _ | assumption | refine Bel.to_drewN ?_ _ | refine Bel.to_drew ?_ | refine Bel.to_setCell ?_ (by first | exact Nat.le_refl _ | (simp; done) | (simp; omega) | omega) _ | refine Bel.to_alloc ?_ _ | refine Bel.trans ?_ (by assumption))); done) | (go_keep; done))))
      (first
        | (go_at_call 134; refine (HR.out _).mono ?_; rintro e2 w2 ⟨mb, rfl, hrows, hb2⟩; have HROWS := Lib.hid hrows; clear hrows)
        | (go_at_call 133; refine (HC.out _ _ (HB1.out.trans (by (repeat (first | exact Bel.refl _ | assumption | refine Bel.to_drewN ?_ _ | refine Bel.to_drew ?_ | refine Bel.to_setCell ?_ (by first | exact Nat.le_refl _ | (simp; done) | (simp; omega) | omega) _ | refine Bel.to_alloc ?_ _ | refine Bel.trans ?_ (by assumption))))) (HROWS.out.bel (by (repeat (first | exact Bel.refl _ | assumption | refine Bel.to_drewN ?_ _ | refine Bel.to_drew ?_ | refine Bel.to_setCell ?_ (by first | exact Nat.le_refl _ | (simp; done) | (simp; omega) | omega) _ | refine Bel.to_alloc ?_ _ | refine Bel.trans ?_ (by assumption)))))).mono ?_; rintro e3 w3 ⟨rfl, hb3⟩))
    all_goals (go_wp2_with fail; go_ret; go_split_ands; exact ⟨rfl, HB1.out.trans (by assumption)⟩)
end Go.Proofs.YtbcdbefogfmhfaaGreatDoor

namespace Go.Proofs.YtbcdbefogfmhfaaGreatDoor
open Go.RowKit Go.Maps
/-- What is returned is a slice of texts. -/
def RetNames (l : List ByteArray) (w : World) (e : Ending) (w' : World) : Prop := ∃ a n c, e = .returned (.slice a n c) ∧ l.length = n ∧ n ≤ c ∧ NamesAt w' a l ∧ Bel w w'
theorem NamesAt.take {W : World} {na : Option Addr} {ns : List ByteArray} (h : NamesAt W na ns) (i : Nat) : NamesAt W na (ns.take i) := fun j x hx => by
  rw [List.getElem?_take] at hx
  split at hx
  · exact h j x hx
  · cases hx
theorem NamesAt.new (w : World) (l : List ByteArray) : NamesAt (w.alloc (.cells (strsV l).toArray 9)) (some ⟨w.heap.size, 0, none⟩) l := fun j x hx => by
  refine ⟨w.heap.size, 0, rfl, ?_⟩
  simp only [World.cell?, World.alloc_heap_new]
  simp [strsV, hx]
theorem NamesAt.nil (w : World) (a : Option Addr) : NamesAt w a [] := fun j x hx => by simp at hx
set_option maxRecDepth 100000 in
set_option maxHeartbeats 4000000 in
theorem given_c (e : Ex) (vn vl : Value) (i : Nat) (w : World) (hb : e.bulk ≤ 1073741824) (hi : i ≤ 1073741824) (hat : ExAt w e vn vl) :
    Calls Tryz.prog 82 #[.agg #[.int .i64 e.k, .string e.s, vn, vl], .int .i64 i] w (RetNames (givenK e.k e.s e.ns i) w) := by
  obtain ⟨na, la, nn, nc, m, lc, rfl, rfl, hnn, hm, hnc, hlc, hnb, hmb, hns, hps⟩ := hat.opened
  have HNS := Lib.hid hns
  have HNN := Lib.hid hnn
  have hn2 : nn ≤ 1073741824 := by omega
  obtain ⟨k, hk⟩ : ∃ k, e.k = k := ⟨_, rfl⟩
  rw [hk]
  clear hps hm hnn hns hat hk
  by_cases h15 : k = 15
  · have e15 : (k == 15) = true := by simpa using h15
    have hg : givenK k e.s e.ns i = e.ns := by unfold givenK; rw [if_pos h15]
    rw [hg]
    clear h15 hg
    go_enter Tryz.func82, Tryz.ntmps82
    go_wp2_with fail
    go_ret
    exact ⟨_, _, _, rfl, HNN.out, hnc, HNS.out.bel (by (repeat (first | exact Bel.refl _ | assumption | refine Bel.to_drewN ?_ _ | refine Bel.to_drew ?_ | refine Bel.to_setCell ?_ (by first | exact Nat.le_refl _ | (simp; done) | (simp; omega) | omega) _ | refine Bel.to_alloc ?_ _ | refine Bel.trans ?_ (by assumption)))), by (repeat (first | exact Bel.refl _ | assumption | refine Bel.to_drewN ?_ _ | refine Bel.to_drew ?_ | refine Bel.to_setCell ?_ (by first | exact Nat.le_refl _ | (simp; done) | (simp; omega) | omega) _ | refine Bel.to_alloc ?_ _ | refine Bel.trans ?_ (by assumption)))⟩
  · have e15 : (k == 15) = false := by simpa using h15
    have H15 := Lib.hid h15
    clear h15
    by_cases h17 : k = 17
    · have e17 : (k == 17) = true := by simpa using h17
      have hg : givenK k e.s e.ns i = e.ns.take i := by unfold givenK; rw [if_neg H15.out, if_pos h17]
      rw [hg]
      clear h17 hg
      have hlen : Hid ((e.ns.take i).length = (min (i : Int) nn).toNat) := Lib.hid (by rw [List.length_take, HNN.out]; omega)
      go_enter Tryz.func82, Tryz.ntmps82
      go_wp2_with fail
      go_ret
      exact ⟨_, _, _, rfl, hlen.out, by omega, (HNS.out.take i).bel (by (repeat (first | exact Bel.refl _ | assumption | refine Bel.to_drewN ?_ _ | refine Bel.to_drew ?_ | refine Bel.to_setCell ?_ (by first | exact Nat.le_refl _ | (simp; done) | (simp; omega) | omega) _ | refine Bel.to_alloc ?_ _ | refine Bel.trans ?_ (by assumption)))), by (repeat (first | exact Bel.refl _ | assumption | refine Bel.to_drewN ?_ _ | refine Bel.to_drew ?_ | refine Bel.to_setCell ?_ (by first | exact Nat.le_refl _ | (simp; done) | (simp; omega) | omega) _ | refine Bel.to_alloc ?_ _ | refine Bel.trans ?_ (by assumption)))⟩
    · have e17 : (k == 17) = false := by simpa using h17
      have H17 := Lib.hid h17
      clear h17
      by_cases hi1 : i = 1
      · subst hi1
        by_cases h9 : k = 9
        · have e9 : (k == 9) = true := by simpa using h9
          have hg : givenK k e.s e.ns 1 = [⟨#[105, 116, 101, 109]⟩] := by unfold givenK; rw [if_neg H15.out, if_neg H17.out, if_neg (by simp), if_pos h9]
          rw [hg]
          clear h9 hg
          go_enter Tryz.func82, Tryz.ntmps82
          go_wp2_with fail
          go_ret
          exact ⟨_, _, _, rfl, rfl, Nat.le_refl _, by have := NamesAt.new (w.alloc (.cells #[.int .i64 k, .string e.s, .slice na nn nc, .slice la m lc] 38)) [⟨#[105, 116, 101, 109]⟩]; rw [World.size_alloc] at this; exact this, by (repeat (first | exact Bel.refl _ | assumption | refine Bel.to_drewN ?_ _ | refine Bel.to_drew ?_ | refine Bel.to_setCell ?_ (by first | exact Nat.le_refl _ | (simp; done) | (simp; omega) | omega) _ | refine Bel.to_alloc ?_ _ | refine Bel.trans ?_ (by assumption)))⟩
        · have e9 : (k == 9) = false := by simpa using h9
          have H9 := Lib.hid h9
          clear h9
          by_cases h12 : k = 12 ∨ k = 13 ∨ k = 14
          · have hg : givenK k e.s e.ns 1 = [e.s] := by unfold givenK; rw [if_neg H15.out, if_neg H17.out, if_neg (by simp), if_neg H9.out, if_pos h12]
            rw [hg]
            have e12 : (k == 12 || (k == 13 || k == 14)) = true := by simpa using h12
            obtain ⟨b12, hb12⟩ : ∃ b, (k == 12) = b := ⟨_, rfl⟩
            obtain ⟨b13, hb13⟩ : ∃ b, (k == 13) = b := ⟨_, rfl⟩
            obtain ⟨b14, hb14⟩ : ∃ b, (k == 14) = b := ⟨_, rfl⟩
            rw [hb12, hb13, hb14] at e12
            clear h12 hg
            have hn := NamesAt.new (w.alloc (.cells #[.int .i64 k, .string e.s, .slice na nn nc, .slice la m lc] 38)) [e.s]
            rw [World.size_alloc] at hn
            have HN := Lib.hid hn
            clear hn
            cases b12 <;> cases b13 <;> cases b14 <;> simp at e12
            all_goals
              go_enter Tryz.func82, Tryz.ntmps82
              go_wp2_with fail
              go_ret
              exact ⟨_, _, _, rfl, rfl, Nat.le_refl _, HN.out, by (repeat (first | exact Bel.refl _ | assumption | refine Bel.to_drewN ?_ _ | refine Bel.to_drew ?_ | refine Bel.to_setCell ?_ (by first | exact Nat.le_refl _ | (simp; done) | (simp; omega) | omega) _ | refine Bel.to_alloc ?_ _ | refine Bel.trans ?_ (by assumption)))⟩
          · have hg : givenK k e.s e.ns 1 = [] := by unfold givenK; rw [if_neg H15.out, if_neg H17.out, if_neg (by simp), if_neg H9.out, if_neg h12]
            rw [hg]
            have e12 : (k == 12) = false := by simp; omega
            have e13 : (k == 13) = false := by simp; omega
            have e14 : (k == 14) = false := by simp; omega
            clear h12 hg
            go_enter Tryz.func82, Tryz.ntmps82
            go_wp2_with fail
            go_ret
            exact ⟨_, _, _, rfl, rfl, Nat.le_refl _, NamesAt.nil _ _, by (repeat (first | exact Bel.refl _ | assumption | refine Bel.to_drewN ?_ _ | refine Bel.to_drew ?_ | refine Bel.to_setCell ?_ (by first | exact Nat.le_refl _ | (simp; done) | (simp; omega) | omega) _ | refine Bel.to_alloc ?_ _ | refine Bel.trans ?_ (by assumption)))⟩
      · have hi2 : ((i : Int) == 1) = false := by simp; omega
        have hi3 : ((i : Int) != 1) = true := by simp; omega
        have hg : givenK k e.s e.ns i = [] := by unfold givenK; rw [if_neg H15.out, if_neg H17.out, if_pos hi1]
        rw [hg]
        clear hi1 hg
        go_enter Tryz.func82, Tryz.ntmps82
        go_wp2_with fail
        go_ret
        exact ⟨_, _, _, rfl, rfl, Nat.le_refl _, NamesAt.nil _ _, by (repeat (first | exact Bel.refl _ | assumption | refine Bel.to_drewN ?_ _ | refine Bel.to_drew ?_ | refine Bel.to_setCell ?_ (by first | exact Nat.le_refl _ | (simp; done) | (simp; omega) | omega) _ | refine Bel.to_alloc ?_ _ | refine Bel.trans ?_ (by assumption)))⟩
end Go.Proofs.YtbcdbefogfmhfaaGreatDoor
