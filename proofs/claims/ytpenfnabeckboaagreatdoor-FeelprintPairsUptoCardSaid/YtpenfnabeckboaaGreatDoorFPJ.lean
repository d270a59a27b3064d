/-
  feelprint: the walks of expr, written, Print, Bare.
-/
import Derived.Test.YtpenfnabeckboaaGreatDoorFPH
import Derived.Test.YtpenfnabeckboaaGreatDoorFPN
import Derived.Test.YtpenfnabeckboaaGreatDoorFPK
import Derived.Test.YtpenfnabeckboaaGreatDoorEXD
import Derived.Deep.WholeRow
namespace Go.Proofs.YtpenfnabeckboaaGreatDoor
open Go.RowKit

/-- The printer's methods, by kinds. -/
def kindsF : List Nat := [53, 54, 53, 53, 55, 56, 57, 58, 59, 60, 61, 62, 63, 64, 65, 66, 67, 68, 69, 70]
def kindsV : List Value := [.func (.func 53) #[] #[], .func (.func 54) #[] #[], .func (.func 53) #[] #[], .func (.func 53) #[] #[], .func (.func 55) #[] #[], .func (.func 56) #[] #[], .func (.func 57) #[] #[], .func (.func 58) #[] #[], .func (.func 59) #[] #[], .func (.func 60) #[] #[], .func (.func 61) #[] #[], .func (.func 62) #[] #[], .func (.func 63) #[] #[], .func (.func 64) #[] #[], .func (.func 65) #[] #[], .func (.func 66) #[] #[], .func (.func 67) #[] #[], .func (.func 68) #[] #[], .func (.func 69) #[] #[], .func (.func 70) #[] #[]]
/-- An array of constants, built. -/
theorem wpL_buildE {P : Program} {ops : Array Oper} {rest : List Oper} {o : Oper} {a : Act} {w : World} {Q : Exit → Act → World → Prop} (hg : o.guard = none) (t : TypeId) (parts : Array (Nat × Operand)) (ho : o.op = .build t parts)
    (L : List (Nat × Value)) (hL : (parts.map fun (i, x) => (i, a.eval x)).toList = L) (cells : Array Value) (hc : P.built t L = some cells)
    (h : wpList P ops Q rest (a.put o.dst (.agg cells)) w) : wpList P ops Q (o :: rest) a w := by
  subst hL
  refine wpList_build hg t parts ho (by rw [hc]; rfl) ?_
  rw [hc]
  exact h
def kindsP : List (Nat × Value) := [(0, .func (.func 53) #[] #[]), (1, .func (.func 54) #[] #[]), (2, .func (.func 53) #[] #[]), (3, .func (.func 53) #[] #[]), (4, .func (.func 55) #[] #[]), (5, .func (.func 56) #[] #[]), (6, .func (.func 57) #[] #[]), (7, .func (.func 58) #[] #[]), (8, .func (.func 59) #[] #[]), (9, .func (.func 60) #[] #[]), (10, .func (.func 61) #[] #[]), (11, .func (.func 62) #[] #[]), (12, .func (.func 63) #[] #[]), (13, .func (.func 64) #[] #[]), (14, .func (.func 65) #[] #[]), (15, .func (.func 66) #[] #[]), (16, .func (.func 67) #[] #[]), (17, .func (.func 68) #[] #[]), (18, .func (.func 69) #[] #[]), (19, .func (.func 70) #[] #[])]
theorem built_kinds : Tryz.prog.built 87 kindsP = some kindsV.toArray := by kernel_rfl
theorem wpL_allocE {P : Program} {ops : Array Oper} {rest : List Oper} {o : Oper} {a : Act} {w : World} {Q : Exit → Act → World → Prop} (hg : o.guard = none) (t : TypeId) (ho : o.op = .alloc t) (Z : Array Value) (hz : ∀ w, (zeroValue t).run P w = .ok (.agg Z) w)
    (h : wpList P ops Q rest (a.put o.dst (.pointer (some ⟨w.heap.size, 0, none⟩))) (w.alloc (.cells Z t))) : wpList P ops Q (o :: rest) a w := by
  refine wpList_plain hg fun K hK => ?_
  unfold Oper.wp execOp
  have hr : (Instr.alloc t true (Value.tuple #[])).run P w = .ok (.pointer (some ⟨w.heap.size, 0, none⟩)) (w.alloc (.cells Z t)) := by
    simp [Instr.alloc, newVar, newRow, hz, Value.cells, Result.andThen]
  simp only [ho, Sem.run_bind, hr, Result.andThen_ok, Sem.run_pure]
  exact hK _ _ h
theorem zero_kinds : ∃ Z : Array Value, (∀ w, (zeroValue 87).run Tryz.prog w = .ok (.agg Z) w) ∧ Z.size = 20 := ⟨#[.nilFunc, .nilFunc, .nilFunc, .nilFunc, .nilFunc, .nilFunc, .nilFunc, .nilFunc, .nilFunc, .nilFunc, .nilFunc, .nilFunc, .nilFunc, .nilFunc, .nilFunc, .nilFunc, .nilFunc, .nilFunc, .nilFunc, .nilFunc], (zero_of_info (n := 20) (by kernel_rfl)).1, rfl⟩
/-- A whole array goes into the block that was made last. -/
theorem wpL_store_new {P : Program} {ops : Array Oper} {rest : List Oper} {o : Oper} {a : Act} {w : World} {Q : Exit → Act → World → Prop} (hg : o.guard = none) (ty : TypeId) (x y : Operand) (ho : o.op = .store ty x y)
    (w0 : World) (c c' : Array Value) (hw : w = w0.alloc (.cells c ty)) (hx : a.eval x = .pointer (some ⟨w0.heap.size, 0, none⟩)) (hy : a.eval y = .agg c')
    (hi : (P.info? ty).map (·.size) = some c'.size) (hs : c.size = c'.size) (h1 : c'.all (·.oneCell') = true)
    (h : wpList P ops Q rest (a.put o.dst undef) (w0.alloc (.cells c' ty))) : wpList P ops Q (o :: rest) a w := by
  refine wpList_plain hg fun K hK => ?_
  unfold Oper.wp execOp
  simp only [ho, hx, hy, hw, Sem.run_bind, run_storeAt_new w0 ty c c' hi hs h1, Sem.run_pure, Result.andThen_ok]
  exact hK _ _ h
theorem kindsV_eq : kindsV = kindsF.map fun f => .func (.func f) #[] #[] := rfl
theorem pfuncs : ∀ f ∈ kindsF, ∀ (args : Array Value) (w : World), (callFunc f args).run Tryz.prog w = .ok (.enter f args) w := by
  intro f hf args w
  simp only [kindsF, List.mem_cons, List.not_mem_nil, or_false] at hf
  rcases hf with rfl | rfl | rfl | rfl | rfl | rfl | rfl | rfl | rfl | rfl | rfl | rfl | rfl | rfl | rfl | rfl | rfl | rfl | rfl | rfl
  · exact enters_of Tryz.func53 (by kernel_rfl) rfl args w
  · exact enters_of Tryz.func54 (by kernel_rfl) rfl args w
  · exact enters_of Tryz.func53 (by kernel_rfl) rfl args w
  · exact enters_of Tryz.func53 (by kernel_rfl) rfl args w
  · exact enters_of Tryz.func55 (by kernel_rfl) rfl args w
  · exact enters_of Tryz.func56 (by kernel_rfl) rfl args w
  · exact enters_of Tryz.func57 (by kernel_rfl) rfl args w
  · exact enters_of Tryz.func58 (by kernel_rfl) rfl args w
  · exact enters_of Tryz.func59 (by kernel_rfl) rfl args w
  · exact enters_of Tryz.func60 (by kernel_rfl) rfl args w
  · exact enters_of Tryz.func61 (by kernel_rfl) rfl args w
  · exact enters_of Tryz.func62 (by kernel_rfl) rfl args w
  · exact enters_of Tryz.func63 (by kernel_rfl) rfl args w
  · exact enters_of Tryz.func64 (by kernel_rfl) rfl args w
  · exact enters_of Tryz.func65 (by kernel_rfl) rfl args w
  · exact enters_of Tryz.func66 (by kernel_rfl) rfl args w
  · exact enters_of Tryz.func67 (by kernel_rfl) rfl args w
  · exact enters_of Tryz.func68 (by kernel_rfl) rfl args w
  · exact enters_of Tryz.func69 (by kernel_rfl) rfl args w
  · exact enters_of Tryz.func70 (by kernel_rfl) rfl args w
theorem own_quote {k : Int} {s : ByteArray} {ns : List ByteArray} {n : Nat} {t : Bool} (h : ownK k s ns n t = 0) (hk : k = 1) : ¬ chkS s < s.size := by
  intro hlt
  unfold ownK at h
  rw [if_pos (show k = 1 ∧ chkS s < s.size from ⟨hk, hlt⟩)] at h
  split at h
  · exact absurd h (by decide)
  · split at h
    · exact absurd h (by decide)
    · split at h
      · exact absurd h (by decide)
      · split at h
        · exact absurd h (by decide)
        · exact absurd h (by decide)
theorem span_two {s : ByteArray} (h : s ∈ spanS) : s.size = 2 := by
  have : ∀ x ∈ spanS, x.size = 2 := by decide
  exact this s h
set_option maxHeartbeats 1000000 in
theorem kind_calls (u : World) (b mb : Nat) (bare : Bool) (e : Ex) (hok : OkE e) (hbk : e.bulk ≤ 1073741824) (hE : Env u) (hsg : SgAt u mb) (na : Option Addr) (nn nc : Nat) (la : Option Addr) (ln lc : Nat) (hat : ExAt u e (.slice na nn nc) (.slice la ln lc)) (hx : ∀ x ∈ e.l, PartOk u b mb bare x)
    (bs : List UInt8) (w : World) (h : PR u b mb bare bs w) (hlen : bs.length + (prE qB bare e).length ≤ 140737488355328) :
    ∃ F, kindsF[e.k.toNat]? = some F ∧ Calls Tryz.prog F #[.pointer (some ⟨b, 0, none⟩), .agg #[.int .i64 e.k, .string e.s, .slice na nn nc, .slice la ln lc]] w (RetP u b mb bare (bs ++ prE qB bare e) w) := by
  obtain ⟨t, ho⟩ := hok.own
  have hf := own_form ho
  obtain ⟨h1, h2⟩ := form_len hf
  have hk := own_kind ho
  have hq := own_quote ho
  have ht : textK e.k e.s = true := by
    unfold formE at hf
    simp only [Bool.and_eq_true] at hf
    exact hf.2.2.1
  obtain ⟨na', la', nn', nc', m, lc', e1, e2, hn, hl, hnc, hlc, hnb, hlb, hnm, hp⟩ := hat.opened
  injection e1 with e1 e3 e4
  injection e2 with e2 e5 e6
  subst e1 e2 e3 e4 e5 e6
  have hs := bulk_s e
  rw [prE_eq, prsE_map] at hlen ⊢
  change bs.length + (shapeT qB bare e.k e.s e.ns (e.l.map (ptOf bare))).length ≤ 140737488355328 at hlen
  change ∃ F, kindsF[e.k.toNat]? = some F ∧ Calls Tryz.prog F #[.pointer (some ⟨b, 0, none⟩), .agg #[.int .i64 e.k, .string e.s, .slice na nn nc, .slice la ln lc]] w (RetP u b mb bare (bs ++ shapeT qB bare e.k e.s e.ns (e.l.map (ptOf bare))) w)
  obtain ⟨k, s, ns, l⟩ := e
  simp only [Ex.k, Ex.s, Ex.ns, Ex.l] at hk hq ht h1 h2 hn hl hnm hp hs hx hlen ⊢
  clear hat ho hf hok
  have hs2 : s.size ≤ 1073741824 := by omega
  have hln : ln ≤ 1073741824 := by omega
  have hnn : nn ≤ 1073741824 := by omega
  clear hs hbk hnb hlb
  have one : ∀ {j : Int}, partsK j = 1 → (0 ≤ partsK j → (l.length : Int) = partsK j) → ∃ a, l = [a] := fun hj h => List.length_eq_one_iff.1 (by have := h (by omega); omega)
  have two : ∀ {j : Int}, partsK j = 2 → (0 ≤ partsK j → (l.length : Int) = partsK j) → ∃ a b, l = [a, b] := fun hj h => by
    have hl : l.length = 2 := by have := h (by omega); omega
    match l, hl with
    | [a, b], _ => exact ⟨a, b, rfl⟩
  have three : ∀ {j : Int}, partsK j = 3 → (0 ≤ partsK j → (l.length : Int) = partsK j) → ∃ a b c, l = [a, b, c] := fun hj h => by
    have hl : l.length = 3 := by have := h (by omega); omega
    match l, hl with
    | [a, b, c], _ => exact ⟨a, b, c, rfl⟩
  have hc : k = 0 ∨ k = 1 ∨ k = 2 ∨ k = 3 ∨ k = 4 ∨ k = 5 ∨ k = 6 ∨ k = 7 ∨ k = 8 ∨ k = 9 ∨ k = 10 ∨ k = 11 ∨ k = 12 ∨ k = 13 ∨ k = 14 ∨ k = 15 ∨ k = 16 ∨ k = 17 ∨ k = 18 ∨ k = 19 := by omega
  rcases hc with rfl | rfl | rfl | rfl | rfl | rfl | rfl | rfl | rfl | rfl | rfl | rfl | rfl | rfl | rfl | rfl | rfl | rfl | rfl | rfl
  · obtain rfl : l = [] := List.eq_nil_of_length_eq_zero (by have := h1 (by decide); have e0 : partsK 0 = 0 := rfl; omega)
    exact ⟨_, rfl, p_plain_c u b mb bare 0 s ns na nn nc la ln lc bs w hs2 hl hlc hln hn hnn hp hnm hx h hlen⟩
  · exact ⟨_, rfl, p_text_c u b mb bare 1 s ns l na nn nc la ln lc bs w hs2 hl hlc hln hn hnn hE (hq rfl) hp hnm hx h hlen⟩
  · obtain rfl : l = [] := List.eq_nil_of_length_eq_zero (by have := h1 (by decide); have e0 : partsK 2 = 0 := rfl; omega)
    exact ⟨_, rfl, p_plain_c u b mb bare 2 s ns na nn nc la ln lc bs w hs2 hl hlc hln hn hnn hp hnm hx h hlen⟩
  · obtain rfl : l = [] := List.eq_nil_of_length_eq_zero (by have := h1 (by decide); have e0 : partsK 3 = 0 := rfl; omega)
    exact ⟨_, rfl, p_plain_c u b mb bare 3 s ns na nn nc la ln lc bs w hs2 hl hlc hln hn hnn hp hnm hx h hlen⟩
  · obtain ⟨x0, rfl⟩ := one (j := 4) rfl h1
    exact ⟨_, rfl, p_neg_c u b mb bare 4 s ns x0 na nn nc la ln lc bs w hs2 hl hlc hln hn hnn hp hnm hx h hlen⟩
  · obtain ⟨x0, x1, rfl⟩ := two (j := 5) rfl h1
    exact ⟨_, rfl, p_bin_c u b mb bare 5 s ns x0 x1 na nn nc la ln lc bs w hs2 hl hlc hln hn hnn hsg hp hnm hx h hlen⟩
  · obtain ⟨x0, x1, x2, rfl⟩ := three (j := 6) rfl h1
    exact ⟨_, rfl, p_between_c u b mb bare 6 s ns x0 x1 x2 na nn nc la ln lc bs w hs2 hl hlc hln hn hnn hp hnm hx h hlen⟩
  · obtain ⟨x0, x1, rfl⟩ := two (j := 7) rfl h1
    exact ⟨_, rfl, p_in_c u b mb bare 7 s ns x0 x1 na nn nc la ln lc bs w hs2 hl hlc hln hn hnn hp hnm hx h hlen⟩
  · obtain ⟨x0, rfl⟩ := one (j := 8) rfl h1
    exact ⟨_, rfl, p_path_c u b mb bare 8 s ns x0 na nn nc la ln lc bs w hs2 hl hlc hln hn hnn hp hnm hx h hlen⟩
  · obtain ⟨x0, x1, rfl⟩ := two (j := 9) rfl h1
    exact ⟨_, rfl, p_filter_c u b mb bare 9 s ns x0 x1 na nn nc la ln lc bs w hs2 hl hlc hln hn hnn hp hnm hx h hlen⟩
  · match l, h2 rfl with
    | x0 :: r, _ => exact ⟨_, rfl, p_call_c u b mb bare 10 s ns x0 r na nn nc la ln lc bs w hs2 hl hlc hln hn hnn hp hnm hx h hlen⟩
    | [], h => exact absurd rfl h
  · exact ⟨_, rfl, p_choice_c u b mb bare 11 s ns l na nn nc la ln lc bs w hs2 hl hlc hln hn hnn (by have := h1 (by decide); have e0 : partsK 11 = 3 := rfl; omega) hp hnm hx h hlen⟩
  · exact ⟨_, rfl, p_loop_c u b mb bare 12 s ns l na nn nc la ln lc bs w hs2 hl hlc hln hn hnn (by have := h1 (by decide); have e0 : partsK 12 = 2 := rfl; omega) hp hnm hx h hlen⟩
  · exact ⟨_, rfl, p_some_c u b mb bare 13 s ns l na nn nc la ln lc bs w hs2 hl hlc hln hn hnn (by have := h1 (by decide); have e0 : partsK 13 = 2 := rfl; omega) hp hnm hx h hlen⟩
  · exact ⟨_, rfl, p_every_c u b mb bare 14 s ns l na nn nc la ln lc bs w hs2 hl hlc hln hn hnn (by have := h1 (by decide); have e0 : partsK 14 = 2 := rfl; omega) hp hnm hx h hlen⟩
  · exact ⟨_, rfl, p_function_c u b mb bare 15 s ns l na nn nc la ln lc bs w hs2 hl hlc hln hn hnn (by have := h1 (by decide); have e0 : partsK 15 = 1 := rfl; omega) hnc hp hnm hx h hlen⟩
  · exact ⟨_, rfl, p_row_c u b mb bare 16 s ns l na nn nc la ln lc bs w hs2 hl hlc hln hn hnn hp hnm hx h hlen⟩
  · exact ⟨_, rfl, p_record_c u b mb bare 17 s ns l na nn nc la ln lc bs w hs2 hl hlc hln hn hnn hp hnm hx h hlen⟩
  · exact ⟨_, rfl, p_span_c u b mb bare 18 s ns l na nn nc la ln lc bs w hs2 hl hlc hln hn hnn (by have := h1 (by decide); have e0 : partsK 18 = 2 := rfl; omega) (span_two (of_decide_eq_true ht)) hp hnm hx h hlen⟩
  · obtain ⟨x0, rfl⟩ := one (j := 19) rfl h1
    exact ⟨_, rfl, p_test_c u b mb bare 19 s ns x0 na nn nc la ln lc bs w hs2 hl hlc hln hn hnn hp hnm hx h hlen⟩
set_option maxRecDepth 100000 in
set_option maxHeartbeats 4000000 in
theorem expr_walk (u : World) (b mb : Nat) (bare : Bool) (k : Nat) (hk20 : (k : Int) < 20) (F : Nat) (hF : kindsF[k]? = some F) (s : ByteArray) (na : Option Addr) (nn nc : Nat) (la : Option Addr) (ln lc : Nat) (bs TT : List UInt8) (w : World) (h : PR u b mb bare bs w)
    (HC : Hid (∀ W, PR u b mb bare bs W → Calls Tryz.prog F #[.pointer (some ⟨b, 0, none⟩), .agg #[.int .i64 k, .string s, .slice na nn nc, .slice la ln lc]] W (RetP u b mb bare (bs ++ TT) W))) :
    Calls Tryz.prog 37 #[.pointer (some ⟨b, 0, none⟩), .agg #[.int .i64 k, .string s, .slice na nn nc, .slice la ln lc]] w (RetP u b mb bare (bs ++ TT) w) := by
  have hen := pfuncs F (List.mem_of_getElem? hF)
  obtain ⟨Z, hZ, hZs⟩ := zero_kinds
  obtain ⟨V1, h1, k1, l1, s1⟩ := alloc_step w 25 [.int .i64 k, .string s, .slice na nn nc, .slice la ln lc]
  obtain ⟨V2, h2, k2, l2, s2⟩ := alloc_step V1 87 kindsV
  have y0 := (k1.bel l2).at 0
  have y1 := (k1.bel l2).at 1
  have y2 := (k1.bel l2).at 2
  have y3 := (k1.bel l2).at 3
  have yk : V2.cell? ⟨V1.heap.size, k, none⟩ = some (.func (.func F) #[] #[]) := by
    rw [k2.at, kindsV_eq, List.getElem?_map, hF]; rfl
  have HP := Lib.hid (h.bel (l1.trans l2))
  have HT := Lib.hid (KeepT.of_bel (p := keepP) (l1.trans l2))
  have HV1 := Lib.hid h1
  have hst : (storeCells ⟨V1.heap.size, 0, none⟩ kindsV 0).run Tryz.prog (V1.alloc (.cells Z 87)) = .ok () V2 := by
    have h := run_storeCells_new (P := Tryz.prog) V1 87 Z kindsV.toArray (by kernel_rfl) hZs (by kernel_rfl)
    rw [h2] at h
    exact h
  have HB1 := Lib.hid (k1.bel l2)
  have HB2 := Lib.hid k2
  have HBK := Lib.hid (show V1.heap.size = V1.heap.size ∧ kindsV[k]? = some (.func (.func F) #[] #[]) from ⟨rfl, by rw [kindsV_eq, List.getElem?_map, hF]; rfl⟩)
  clear h1 h2 k1 k2 l1 l2 s1 s2 hF h
  go_enter Tryz.func37, Tryz.ntmps37
  go_upto_region 1 with fail
  rw [show w.alloc (.cells #[.int .i64 k, .string s, .slice na nn nc, .slice la ln lc] 25) = V1 from HV1.out]
  go_upto_region 2 with (first | (refine wpL_buildE rfl _ _ rfl kindsP (by simp [kindsP, Act.eval]) kindsV.toArray built_kinds ?_) | (refine wpL_allocE rfl _ rfl Z hZ ?_))
  refine wp_region_held_drew (S := fun w' => w'.cell? ⟨w.heap.size, 0, none⟩ = some (.int .i64 k) ∧ w'.cell? ⟨w.heap.size, 1, none⟩ = some (.string s) ∧ w'.cell? ⟨w.heap.size, 2, none⟩ = some (.slice na nn nc) ∧ w'.cell? ⟨w.heap.size, 3, none⟩ = some (.slice la ln lc) ∧ w'.cell? ⟨V1.heap.size, k, none⟩ = some (.func (.func F) #[] #[])) (by kernel_rfl) ⟨y0, y1, y2, y3, yk⟩ (fun hHeld => ?_)
  clear y0 y1 y2 y3 yk
  refine wpAnyH_take (i := 0) (oi := _) (v := ?_) rfl (by kernel_rfl) (by kernel_rfl) (by kernel_rfl) (fun _ _ _ h => h) ?_ (by assumption) ?_
  rotate_left 1
  · first
      | (refine Or.inl ⟨by rfl, ?_⟩; intro w9 hSw; (try dsimp only at hSw); go_simp; (try with_reducible rfl); done)
      | (refine Or.inr ⟨by rfl, ?_⟩; rfl)
  simp only [List.getElem_toArray, List.getElem_cons_zero, Act.put, List.setIfInBounds_toArray, List.set_cons_zero, List.set_cons_succ]
  refine wpAnyH_take (i := 1) (oi := _) (v := ?_) rfl (by kernel_rfl) (by kernel_rfl) (by kernel_rfl) (fun _ _ _ h => h) ?_ (by assumption) ?_
  rotate_left 1
  · first
      | (refine Or.inl ⟨by rfl, ?_⟩; intro w9 hSw; (try dsimp only at hSw); go_simp; (try with_reducible rfl); done)
      | (refine Or.inr ⟨by rfl, ?_⟩; rfl)
  simp only [List.getElem_toArray, List.getElem_cons_succ, List.getElem_cons_zero, Act.put, List.setIfInBounds_toArray, List.set_cons_zero, List.set_cons_succ]
  refine wpAnyH_take (i := 2) (oi := _) (v := ?_) rfl (by kernel_rfl) (by kernel_rfl) (by kernel_rfl) (fun _ _ _ h => h) ?_ (by assumption) ?_
  rotate_left 1
  · first
      | (refine Or.inl ⟨by rfl, ?_⟩; intro w9 hSw; (try dsimp only at hSw); go_simp; (try with_reducible rfl); done)
      | (refine Or.inr ⟨by rfl, ?_⟩; rfl)
  simp only [List.getElem_toArray, List.getElem_cons_succ, List.getElem_cons_zero, Act.put, List.setIfInBounds_toArray, List.set_cons_zero, List.set_cons_succ]
  refine wpAnyH_take (i := 3) (oi := _) (v := ?_) rfl (by kernel_rfl) (by kernel_rfl) (by kernel_rfl) (fun _ _ _ h => h) ?_ (by assumption) ?_
  rotate_left 1
  · first
      | (refine Or.inl ⟨by rfl, ?_⟩; intro w9 hSw; (try dsimp only at hSw); go_simp; (try with_reducible rfl); done)
      | (refine Or.inr ⟨by rfl, ?_⟩; rfl)
  simp only [List.getElem_toArray, List.getElem_cons_succ, List.getElem_cons_zero, Act.put, List.setIfInBounds_toArray, List.set_cons_zero, List.set_cons_succ]
  refine wpAnyH_take (i := 4) (oi := _) (v := ?_) rfl (by kernel_rfl) (by kernel_rfl) (by kernel_rfl) (fun _ _ _ h => h) ?_ (by assumption) ?_
  rotate_left 1
  · first
      | (refine Or.inl ⟨by rfl, ?_⟩; intro w9 hSw; (try dsimp only at hSw); go_simp; (try with_reducible rfl); done)
      | (refine Or.inr ⟨by rfl, ?_⟩; rfl)
  simp only [List.getElem_toArray, List.getElem_cons_succ, List.getElem_cons_zero, Act.put, List.setIfInBounds_toArray, List.set_cons_zero, List.set_cons_succ]
  refine wpAnyH_take (i := 5) (oi := _) (v := ?_) rfl (by kernel_rfl) (by kernel_rfl) (by kernel_rfl) (fun _ _ _ h => h) ?_ (by assumption) ?_
  rotate_left 1
  · first
      | (refine Or.inl ⟨by rfl, ?_⟩; intro w9 hSw; (try dsimp only at hSw); go_simp; (try with_reducible rfl); done)
      | (refine Or.inr ⟨by rfl, ?_⟩; rfl)
  simp only [List.getElem_toArray, List.getElem_cons_succ, List.getElem_cons_zero, Act.put, List.setIfInBounds_toArray, List.set_cons_zero, List.set_cons_succ]
  refine wpAnyH_ready (rs := [6]) (by kernel_rfl) (by simp) ?_
  refine AllReadyH.cons (o := _) rfl (fun K hK => ?_) AllReadyH.nil
  go_simp
  go_simp
  refine (HC.out _ (HP.out.bel (Bel.drew _))).mono ?_
  rintro e6 w6 ⟨rfl, hp6, ht6⟩
  dsimp only
  have b1 := ht6.blk HB1.out.drew keep_ex
  have b2 := ht6.blk HB2.out.drew (show keepP 87 = true from by decide)
  refine hK.out _ _ ⟨b1.at 0, b1.at 1, b1.at 2, b1.at 3, by rw [b2.at, HBK.out.2]⟩ (fun hHeld => ?_)
  clear hK K b1 b2
  refine wpAnyH_done (by kernel_rfl) ?_ _
  go_wp2_with fail
  go_end0
  exact ⟨rfl, hp6, (HT.out.trans (KeepT.of_bel (p := keepP) (Bel.drew _))).trans ht6⟩
set_option maxRecDepth 100000 in
set_option maxHeartbeats 4000000 in
theorem expr_c (u : World) (b mb : Nat) (bare : Bool) (hE : Env u) (hsg : SgAt u mb) : ∀ (n : Nat) (e : Ex), e.bulk ≤ n → n ≤ 1073741824 → OkE e → SaysP u b mb bare e := by
  intro n
  induction n with
  | zero => intro e he; exfalso; have := bulk_eq e; omega
  | succ n ih =>
    intro e he hn hok na nn nc la ln lc bs w hat h hlen
    have hx : ∀ x ∈ e.l, PartOk u b mb bare x := fun x hm => by
      obtain ⟨i, hi⟩ := List.getElem?_of_mem hm
      have hb := bulk_part hi
      have hbs := bulk_s x
      obtain ⟨t, ho⟩ := (hok.part hi).own
      exact ⟨ih x (by omega) (by omega) (hok.part hi), by omega, own_kind ho⟩
    obtain ⟨t, ho⟩ := hok.own
    have hk := own_kind ho
    obtain ⟨k, hkk⟩ : ∃ k : Nat, e.k = k := ⟨e.k.toNat, by omega⟩
    have hk20 : (k : Int) < 20 := by omega
    obtain ⟨F, hF⟩ : ∃ F, kindsF[k]? = some F := ⟨_, List.getElem?_eq_getElem (by have : kindsF.length = 20 := rfl; omega)⟩
    have HC : Hid (∀ W, PR u b mb bare bs W → Calls Tryz.prog F #[.pointer (some ⟨b, 0, none⟩), .agg #[.int .i64 e.k, .string e.s, .slice na nn nc, .slice la ln lc]] W (RetP u b mb bare (bs ++ prE qB bare e) W)) := Lib.hid (fun W hW => by
      obtain ⟨F', h1, h2⟩ := kind_calls u b mb bare e hok (by omega) hE hsg na nn nc la ln lc hat hx bs W hW hlen
      rw [hkk, Int.toNat_natCast, hF] at h1
      injection h1 with h1
      rw [h1]
      exact h2)
    rw [hkk] at HC ⊢
    exact expr_walk u b mb bare k hk20 F hF e.s na nn nc la ln lc bs _ w h HC
end Go.Proofs.YtpenfnabeckboaaGreatDoor
