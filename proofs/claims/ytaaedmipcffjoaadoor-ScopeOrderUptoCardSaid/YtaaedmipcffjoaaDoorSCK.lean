/-
  The walks of the layer scope: Names and its iterator; the scope laws' own 'names'.
-/
import Derived.Test.YtaaedmipcffjoaaDoorSCD
import Derived.Test.YtaaedmipcffjoaaDoorRG
import Derived.Laws.AppendOwnNone
import Derived.OwnWalkIn
namespace Go.Proofs.YtaaedmipcffjoaaDoor
open Go.RowKit Go.Shelf
attribute [local go_sem] Oper.semAt_some

theorem sort_names {N L : List ByteArray} (hs : Srt N) (hp : N.Perm L) : bsL (sortL (L.map (·.data.toList))) = N := by
  have h1 : sortL (L.map (·.data.toList)) = N.map (·.data.toList) := by
    refine List.Perm.eq_of_pairwise (le := fun a b => a ≤ b) (fun a b _ _ h k => List.le_antisymm h k) (sortL_le _) ?_ ((List.mergeSort_perm _ _).trans (hp.symm.map _))
    exact List.pairwise_map.2 (hs.imp fun h => List.le_of_lt h)
  rw [h1]
  unfold bsL
  rw [List.map_map]
  refine (List.map_congr_left fun x _ => ?_).trans (List.map_id _)
  cases x; rfl

theorem room_none {F : Fence} (hd : F.depth = none) (k : Nat) : F.room k := fun d h => by rw [hd] at h; cases h
theorem round_any {F : Fence} (hd : F.depth = none) {m m' : Nat} {P : Program} {l : Nat} {f : FuncId} {tmps : Array Value} {assign body : Code} {w : World} {R : Ending → World → Prop}
    (h : RoundIn F m P l f tmps assign body w R) : RoundIn F m' P l f tmps assign body w R := ⟨h.1, fun c cs _ => h.2 c cs (room_none hd _)⟩
theorem info_str5 : (Tryd.prog.info? 9).map (fun i => (i.zero, i.size, i.bytes)) = some (some (.string ⟨#[]⟩), 1, 16) := by kernel_rfl
theorem strs_one5 (l : List ByteArray) : ∀ y ∈ strsV l, y.oneCell' = true := by
  intro y hy
  obtain ⟨x, _, rfl⟩ := List.mem_map.1 hy
  rfl

/-- append of a slice, a nil one too, onto a slice that the call owns; inside a fence. -/
theorem wpLIn_appendR {F : Fence} {nn : Nat} {P : Program} {ops : Array Oper} {rest : List Oper} {o : Oper} {a : Act} {w : World} {Q : Exit → Act → World → Prop}
    (hg : o.guard = none) (s x : Operand) (t : TypeId) (ho : o.op = .call { callee := .builtin .append, args := #[s, x], argTypes := #[t, t] })
    (B : Nat) (hB : B ≤ w.heap.size) (e : TypeId) (z : Value) (bytes : Nat) (ht : P.underlying t = some (.slice e)) (hinfo : (P.info? e).map (fun i => (i.zero, i.size, i.bytes)) = some (some z, 1, bytes))
    (hzs : z.cells.size = 1) (hby : bytes ≤ 4096) (v : Value) (n : Nat) (xs : List Value) (hs : a.eval s = v) (hown : w.ownsRow B e 1 v n xs)
    (u : Value) (news : List Value) (hx : a.eval x = u) (hnews : RowAt0 w u news) (h1 : ∀ y ∈ news, y.oneCell' = true)
    (hn : n + news.length ≤ 4294967296)
    (hK : ∀ v' w', w'.ownsRow B e 1 v' (n + news.length) (xs ++ news) → w.grownBy w' v.ownBlock → wpListIn F nn P ops Q rest (a.put o.dst v') w') :
    wpListIn F nn P ops Q (o :: rest) a w := by
  obtain ⟨i, hi, hz, hi1, hi2⟩ := info_parts hinfo
  rcases hnews with ⟨rfl, rfl⟩ | ⟨b, off, cap, rfl, _, _, hc⟩
  · refine wpListIn_plain hg fun K hK' => ?_
    have hrun := run_append_owned_none (P := P) (w := w) B t o.type e i 1 ht hi v n xs hown
    unfold Oper.wpIn
    refine ⟨?_, ?_⟩
    · simp [Oper.about, ho, resolve, Target.leads, Sem.run_pure]
    · rw [Oper.semAt_plain F _ _ (by rw [ho]; intro c hc'; cases hc')]
      simp [execOp, ho, resolve, invoke, builtin, hs, hx, hrun, Result.andThen]
      exact hK' _ _ (hK v w (by simpa using hown) (World.grownBy.refl w _))
  · refine wpListIn_append_own w hg s x t ho B e i z 1 bytes ht hi hz hi1 hi2 hzs (by decide) v n xs hs hown ⟨b, off, none⟩ news.length cap news hx (by omega) (fun j y hj => ?_) h1 (by unfold maxLen; omega) ?_ hB (fun v' w' hown' hgrow _ => hK v' w' hown' hgrow)
    · obtain ⟨hj1, hj2⟩ := List.getElem?_eq_some_iff.1 hj
      rw [← hj2, show ((⟨b, off, none⟩ : Addr).add j) = ⟨b, off + j, none⟩ from by simp [Addr.add]]
      exact hc j hj1
    · have : (n + news.length) * bytes ≤ 4294967296 * 4096 := Nat.mul_le_mul hn hby
      omega
theorem scopeAt_len {W : World} : ∀ {E E' : List (List ByteArray)} {v : Value}, ScopeAt W v E → ScopeAt W v E' → E.length = E'.length
  | [], [], _, _, _ => rfl
  | [], _ :: _, _, h, ⟨b, u, sl, h1, _⟩ => by rw [show _ = Value.pointer none from h] at h1; cases h1
  | _ :: _, [], _, ⟨b, u, sl, h1, _⟩, h => by rw [show _ = Value.pointer none from h] at h1; cases h1
  | _ :: E, _ :: E', _, ⟨b, u, sl, h1, h2, _, _, h5⟩, ⟨b', u', sl', k1, k2, _, _, k5⟩ => by
    rw [h1] at k1
    simp at k1
    subst k1
    have e := h2.c0.symm.trans k2.c0
    obtain rfl := Option.some.inj e
    rw [List.length_cons, List.length_cons, scopeAt_len h5 k5]
open Classical in
/-- How many scopes there are in a row. -/
noncomputable def chainLen (W : World) (v : Value) : Nat := if h : ∃ E, ScopeAt W v E then h.choose.length else 0
theorem chainLen_eq {W : World} {v : Value} {E : List (List ByteArray)} (h : ScopeAt W v E) : chainLen W v = E.length := by
  have hh : ∃ E, ScopeAt W v E := ⟨E, h⟩
  unfold chainLen
  rw [dif_pos hh]
  exact scopeAt_len hh.choose_spec h

theorem ownFrom_mono {β : Type} {B B' : Nat} {I : β → World → Prop} (h : OwnFrom B I) (hB : B ≤ B') : OwnFrom B' I := fun s W W' row hs hg hr => h s W W' row hs hg (fun r e => ⟨Nat.le_trans hB (hr r e).1, (hr r e).2⟩)
theorem freeOf_kept {Bl : Nat} {T : TypeId} {W W' : World} {k : Nat} {row : Option Nat} (h : FreeOf Bl T W k) (hg : W.grownBy W' row) (hr : ∀ r, row = some r → ∃ o : Obj, W.heap[r]? = some o ∧ o.isCells = false) (hBl : Bl < W.heap.size) (hne : row ≠ some Bl) : FreeOf Bl T W' k := by
  obtain ⟨⟨cs, t, fr, hc⟩, h2, h3⟩ := h
  have e1 : W'.heap[k]? = W.heap[k]? := hg.block k (Array.getElem?_eq_some_iff.1 hc).1 (fun e => by
    obtain ⟨o, ho, hoc⟩ := hr k e.symm
    rw [hc] at ho; cases ho; cases hoc)
  refine ⟨⟨cs, t, fr, e1.trans hc⟩, h2, fun v hv => h3 v ?_⟩
  unfold Boxed at hv ⊢
  rw [← hg.block Bl hBl (fun e => hne e.symm)]; exact hv
/-- slices.Values of a slice, a nil one too. -/
theorem values_row (F : Fence) (n : Nat) (h7 : F.fn 58) (hro : F.round = none) (hn : 1 ≤ n) (Bs cap : Nat) (ao : Option Addr) (N : List ByteArray) (hx : ∀ x ∈ N, x.size ≤ maxLen) (w : World) (hv : RowAt0 w (.slice ao N.length cap) (strsV N)) (hl : N.length ≤ 4294967296) (hBs : Bs < w.heap.size)
    (hc : w.cell? ⟨Bs, 0, none⟩ = some (.slice ao N.length cap)) :
    ∃ (Kp : World → World → Prop) (Sp : List Str → Prop), SeqStopsK F n Tryd.prog 58 #[.pointer (some ⟨Bs, 0, none⟩)] (fun x : Str => #[Value.string x.1]) Kp (fun ys => ys = upto (strAt N hx) N.length) Sp N.length w ∧
      (∀ {A B C : World}, Kp A B → Kp B C → Kp A C) ∧ (∀ (W : World) (l : Nat) (o o' : Obj), w.heap.size ≤ l → W.heap[l]? = some o → o.isCells = false → o.isWalk = false → Kp W (W.putObj l o')) ∧
      (∀ W W' : World, (∀ g off, ao = some ⟨g, off, none⟩ → W'.heap[g]? = W.heap[g]?) → Kp W W') := by
  rcases hv with ⟨e, h0⟩ | ⟨b, off, c, e, hcap, hlt, hcs⟩
  · simp at e
    obtain ⟨rfl, h1, rfl⟩ := e
    obtain rfl : N = [] := by cases N with
      | nil => rfl
      | cons a l => simp at h1
    exact ⟨fun _ _ => True, fun _ => False, values_none F n h7 hro Bs 0 none w hBs hc, fun _ _ => trivial, fun _ _ _ _ _ _ _ _ => trivial, fun _ _ _ => trivial⟩
  · rw [strsV_length] at e hcap
    simp at e
    obtain ⟨rfl, rfl⟩ := e
    exact ⟨KeepB b, fun pre => pre <+: upto (strAt N hx) N.length, values_stops F n h7 hro hn Bs b off N.length cap (strAt N hx) (by omega) w hBs hlt hc (fun j hj => by
        rw [hcs j (by rw [strsV_length]; exact hj)]
        simp [strsV, strAt, List.getElem?_eq_getElem hj]), KeepB.trans, KeepB.putObj w.heap.size hlt, fun W W' h => h b off rfl⟩

set_option maxRecDepth 100000 in
set_option maxHeartbeats 1000000 in
theorem names_iter (n : Nat) (h2 : 2 ≤ n) (Bl : Nat) (T : TypeId) (I : List Str → World → Prop) (B : Nat) (hI : OwnFrom B I) (hIb : ∀ pre W W', I pre W → Bel W W' → I pre W')
    (v : Value) (N : List ByteArray) (hx : ∀ x ∈ N, x.size ≤ maxLen) (Bs l D : Nat) (r : Loop) (w : World) (hsc : ScopeIs w v N) (hBs : Boxed w Bs 25 v) (hB : B ≤ w.heap.size) (h0 : I [] w)
    (hBl : Bl < w.heap.size) (hfr : ∀ u, Boxed w Bl T u → ∀ k, w.heap.size ≤ k → some k ≠ u.ownBlock)
    (hl : w.heap[l]? = some (.loop r)) (hD : w.heap[D]? = some (.deferred (some [])))
    (hY : ∀ (pre : List Str) (x : Str) (W : World), I pre W → W.heap[l]? = some (.loop r) → pre.length < N.length → YieldAt Fence.wide (n - 1) Tryd.prog l #[.string x.1] W fun e W' => e = .returned (.bool true) ∧ I (pre ++ [x]) W' ∧ KeepsOthers W W' ∧ KeepF Bl T W W') :
    CallsIn Fence.wide n Tryd.prog 67 #[.func (.yield l) #[] #[], .pointer (some ⟨Bs, 0, none⟩)] w fun e W' => (∃ v, e = .returned v) ∧ ∃ xs, xs = upto (strAt N hx) N.length ∧ I xs W' ∧ W'.heap[l]? = some (.loop r) ∧ W'.heap[D]? = some (.deferred (some [])) := by
  obtain ⟨⟨hsrt, _⟩, hle, C, hv, hpm⟩ := hsc
  have HLC := Lib.hid hpm.length_eq
  have h1 : 1 ≤ n := by omega
  refine callsIn_of_wp_marks Tryd.func67 rfl trivial ?_ rfl
  simp only [Tryd.ntmps67, List.size_toArray, List.length_cons, List.length_nil, Nat.reduceAdd, Nat.reduceSub, Array.replicate_succ, Array.replicate_zero, List.push_toArray, List.append_toArray, List.nil_append, List.cons_append]
  have qs : (w.alloc (.cells #[.func (.yield l) #[] #[]] 32)).cell? ⟨Bs, 0, none⟩ = some v := (Bel.alloc w _).keep hBs.cell
  gi_wp2
  have bY := Boxed.new w 32 (.func (.yield l) #[] #[])
  have hb1 := Bel.alloc w (.cells #[.func (.yield l) #[] #[]] 32)
  obtain ⟨W1, hW1⟩ : ∃ W1, w.alloc (.cells #[.func (.yield l) #[] #[]] 32) = W1 := ⟨_, rfl⟩
  rw [hW1] at bY hb1 ⊢
  have hv1 := hv.bel hb1
  have hsz1 := bY.lt
  clear hW1 qs
  gi_loopw [3, 4] (fun a t wr => ∃ (L : List ByteArray) (E : List (List ByteArray)) (o : Value), o = a ∧ ScopeAt W1 t E ∧ L ++ E.flatten = C.flatten ∧ wr.ownsRow W1.heap.size 9 1 o L.length (strsV L) ∧ Bel W1 wr) (fun _ t wr => chainLen wr t)
  case atStart => exact ⟨[], C, _, rfl, hv1, rfl, World.ownsRow_nil _ _ _ _, Bel.refl _⟩
  case round =>
    obtain ⟨L, E, o, rfl, hs, hLE, hown, hb⟩ := hrel
    cases E with
    | nil =>
      obtain rfl : _ = Value.pointer none := hs
      rw [List.flatten_nil, List.append_nil] at hLE
      subst hLE
      obtain ⟨ao, cp, rfl, _⟩ := row0_form (own_row hown) C.flatten.length (strsV_length _)
      have hso := sort_c W1 _ C.flatten wr hown (by have := HLC.out; omega) hb
      rw [sort_names hsrt hpm] at hso
      rw [← HLC.out] at hso ⊢
      have HSO := Lib.hid hso
      clear hso hown
      gi_wp2_with (refine ⟨trivial, ?_⟩; first
        | (gi_at_call 57; refine (callsIn_wide.2 HSO.out).mono ?_; rintro e w2 ⟨rfl, hown2, hb2⟩)
        | (gi_at_call 38; refine (values_in Fence.wide _ trivial rfl _ _ _ _).mono ?_; rintro e w3 ⟨rfl, rfl⟩))
      have cV := Boxed.new w2 22 (.slice ao N.length cp)
      have hb3 : Bel W1 (w2.alloc (.cells #[.slice ao N.length cp] 22)) := hb2.to_alloc _
      have hown3 := hown2.alloc (.cells #[.slice ao N.length cp] 22)
      have hsz3 : w2.heap.size < (w2.alloc (.cells #[.slice ao N.length cp] 22)).heap.size := by simp
      obtain ⟨W3, hW3⟩ : ∃ W3, w2.alloc (.cells #[.slice ao N.length cp] 22) = W3 := ⟨_, rfl⟩
      rw [hW3] at cV hb3 hown3 hsz3 ⊢
      have hsz2 := hb2.size
      obtain ⟨Kp, Sp, hseq, hKt, hKb, hKl⟩ := values_row Fence.wide (n - 1) trivial rfl (by omega) w2.heap.size cp ao N hx W3 (own_row hown3) (by omega) hsz3 cV.cell
      have hbw := hb1.trans hb3
      have hBl3 : Bl < W3.heap.size := Nat.lt_of_lt_of_le hBl hbw.size
      have hboxed : ∀ u, Boxed W3 Bl T u → Boxed w Bl T u := fun u hu => by unfold Boxed at hu ⊢; rw [← hbw.block hBl]; exact hu
      have hf1 : FreeOf Bl T W3 w.heap.size := by
        refine ⟨⟨_, _, _, (hb3.block hsz1).trans bY⟩, by omega, fun u hu => hfr u (hboxed u hu) _ (Nat.le_refl _)⟩
      have hf2 : ∀ g off, ao = some ⟨g, off, none⟩ → FreeOf Bl T W3 g := by
        rintro g off rfl
        rcases hown3.2 with ⟨h, _⟩ | ⟨g', cap', cur, h, hge, hgb, _⟩
        · cases h
        · simp at h
          obtain ⟨⟨rfl, rfl⟩, rfl⟩ := h
          exact ⟨⟨_, _, _, hgb⟩, by omega, fun u hu => hfr u (hboxed u hu) _ (by omega)⟩
      have hl3 : W3.heap[l]? = some (.loop r) := (hbw.block (Array.getElem?_eq_some_iff.1 hl).1).trans hl
      have hD3 : W3.heap[D]? = some (.deferred (some [])) := (hbw.block (Array.getElem?_eq_some_iff.1 hD).1).trans hD
      have hlW := (Array.getElem?_eq_some_iff.1 hl3).1
      have hDW := (Array.getElem?_eq_some_iff.1 hD3).1
      have bY3 : Boxed W3 w.heap.size 32 (.func (.yield l) #[] #[]) := (hb3.block hsz1).trans bY
      refine wpIn_rangeFunc_ownG rfl h1 (gf := 58) (lb := #[.pointer (some ⟨w2.heap.size, 0, none⟩)]) rfl trivial (enters_of Tryd.func58 (by kernel_rfl) rfl)
        hseq hKt hKb (Below.refl _ _) (fun _ => rfl)
        (fun pre W => I pre W ∧ W.heap[l]? = some (.loop r) ∧ W.heap[D]? = some (.deferred (some [])) ∧ Boxed W w.heap.size 32 (.func (.yield l) #[] #[]) ∧ FreeOf Bl T W w.heap.size ∧ (∀ g off, ao = some ⟨g, off, none⟩ → FreeOf Bl T W g) ∧ W3.heap.size ≤ W.heap.size)
        (fun _ _ _ => False)
        (fun s A A' row hs hg hr => by
          obtain ⟨i1, i2, i3, i4, i5, i6, i7⟩ := hs
          have hne : ∀ k, k < W3.heap.size → some k ≠ row := fun k hk e => by have := (hr k e.symm).1; omega
          exact ⟨ownFrom_mono hI (Nat.le_trans hB hbw.size) s A A' row i1 hg hr, (hg.block l (by omega) (hne l hlW)).trans i2, (hg.block D (by omega) (hne D hDW)).trans i3, i4.kept hg (hne _ (by omega)),
            freeOf_kept i5 hg (fun r e => (hr r e).2) (by omega) (fun e => hne Bl hBl3 e.symm), fun g off e => freeOf_kept (i6 g off e) hg (fun r e => (hr r e).2) (by omega) (fun e => hne Bl hBl3 e.symm), Nat.le_trans i7 hg.size⟩)
        (fun _ _ _ _ _ hs _ _ => hs)
        ⟨hIb _ _ _ h0 hbw, hl3, hD3, bY3, hf1, hf2, Nat.le_refl _⟩
        ?act1 ?assign ?body ?done ?stop
      case assign =>
        intro l x W K hK
        gi_wp2
        exact hK
      case body =>
        rintro l2 pre x W ⟨i1, i2, i3, i4, i5, i6, i7⟩ hlt
        obtain ⟨fn, tmps, assign, body, hy, hR⟩ := hY pre x W i1 i2 hlt
        have q4 := i4.cell
        have I1 := Lib.hid i1
        have I2 := Lib.hid i2
        have I3 := Lib.hid i3
        have I6 := Lib.hid i6
        clear i1 i2 i3 i6
        gi_wp2
        refine ⟨fun h => (by cases h), ?_⟩
        refine ((show RoundIn (Fence.wide.inRound l2) (n - 1 - 1 - 1) Tryd.prog l fn tmps assign body W _ from round_any (F := Fence.wide) rfl hR)).mono ?_
        rintro e W' ⟨rfl, j1, j2, j3⟩
        gi_wp2
        exact ⟨j2.from _, hKl _ _ (fun g off e => (j3.2 g (I6.out g off e)).1), j1, j2.same _ _ I2.out rfl, j2.same _ _ I3.out rfl, (j3.2 _ i5).1.trans i4, (j3.2 _ i5).2, fun g off e => (j3.2 g (I6.out g off e)).2, Nat.le_trans i7 j2.size⟩
      case done =>
        rintro D2 ys W hD2 rfl ⟨i1, i2, i3, i4, i5, i6, i7⟩ hK
        gi_wp2
        refine ⟨by simp, .inl ⟨_, _, rfl, run_takeDeferred hK, ?_⟩⟩
        have hDD : W3.heap.size ≤ D2 := hD2
        exact ⟨_, results_none rfl _ _ _, ⟨_, rfl⟩, _, rfl, (ownFrom_mono hI (Nat.le_trans hB hbw.size)).putObj _ i1 hDD hK rfl, (World.putObj_heap_other (by omega)).trans i2, (World.putObj_heap_other (by omega)).trans i3⟩
      case stop =>
        rintro D c pre W _ _ h _
        exact h.elim
    | cons own E =>
      obtain ⟨b, u, sl, rfl, q1, q2, q3, q4⟩ := hs
      have q1' := q1.bel hb
      have c0 := q1'.c0
      have c1 := q1'.c1
      have hLL : L.length + own.length ≤ 4096 := by
        have := congrArg List.length hLE
        rw [List.length_append, List.flatten_cons, List.length_append] at this
        have := HLC.out
        omega
      have HLE := Lib.hid hLE
      clear hLE
      have hbs := hb.size
      have hcl : chainLen wr (.pointer (some ⟨b, 0, none⟩)) = E.length + 1 := chainLen_eq (E := own :: E) (ScopeAt.bel hb (C := own :: E) ⟨b, u, sl, rfl, q1, q2, q3, q4⟩)
      have HCL := Lib.hid hcl
      have HOWN := Lib.hid hown
      have Q1 := Lib.hid q1
      have Q2 := Lib.hid q2
      have Q4 := Lib.hid q4
      have HB := Lib.hid hb
      clear hcl hown q1 q1' q2 q3 q4 hb
      gi_wp2_with (gi_at_builtin; refine wpLIn_appendR rfl _ _ 22 rfl W1.heap.size hbs 9 (.string ⟨#[]⟩) 16 Tryd.underlying22 info_str5 rfl (by decide) o L.length (strsV L) rfl HOWN.out sl (strsV own) rfl (Q2.out.bel HB.out) (strs_one5 _) (by rw [strsV_length]; omega) ?_; intro v2 w2 hown2 hg2; have hb2 : Bel W1 w2 := own_grown HOWN.out HB.out hg2 (Nat.le_refl _); have c0' : w2.cell? ⟨b, 0, none⟩ = some u := (Q1.out.bel hb2).c0; have HO2 := Lib.hid hown2; have HB2 := Lib.hid hb2; clear hown2 hb2 hg2)
      go_roundw
      case rel =>
        have hown2 := HO2.out
        refine ⟨L ++ own, E, _, rfl, Q4.out, ?_, ?_, HB2.out⟩
        · rw [← HLE.out, List.flatten_cons, List.append_assoc]
        · have : strsV L ++ strsV own = strsV (L ++ own) := by simp [strsV]
          rw [strsV_length, this] at hown2
          rw [List.length_append]; exact hown2
      case measure =>
        rw [HCL.out, chainLen_eq (ScopeAt.bel HB2.out Q4.out)]
        omega
end Go.Proofs.YtaaedmipcffjoaaDoor
