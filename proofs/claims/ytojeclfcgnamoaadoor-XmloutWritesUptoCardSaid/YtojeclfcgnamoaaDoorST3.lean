/-
  append of any slice onto a row of the call's own; slices.Clone of attributes and nodes.
  SortStableFunc on a row of attributes of the call's own.
  The stable sort of no attributes.
  A row of nodes of the call's own: its cells, a store of one node, what it holds at the end.
-/
import Derived.Test.YtojeclfcgnamoaaDoorST1
import Derived.Test.YtojeclfcgnamoaaDoorST2
import Derived.Lib.OwnBridge
namespace Go.Proofs.YtojeclfcgnamoaaDoor
open Go.RowKit Go.Sort Go.Shelf

theorem run_append_empty {P : Program} {w : World} (base : Nat) (t ty e : TypeId) (i : TypeInfo) (size : Nat) (ht : P.underlying t = some (.slice e)) (hi : P.info? e = some i)
    (v : Value) (n : Nat) (xs : List Value) (hown : w.ownsRow base e size v n xs) (c : Nat) :
    (Builtin.append_ #[t, t] ty #[v, .slice none 0 c]).run P w = .ok v w := by
  rcases hown.2 with ⟨rfl, rfl⟩ | ⟨g, cap, cur, rfl, _, _, hnc, _⟩
  · simp [Builtin.append_, run_underlying ht, sizeOf, typeInfo, hi, Builtin.lenOf, Builtin.firstCells]
  · simp [Builtin.append_, run_underlying ht, sizeOf, typeInfo, hi, Builtin.lenOf, Builtin.firstCells, hnc, storeCells]
/-- Where a slice's cells lie. -/
def NewsAt (W : World) (ao : Option Addr) (news : List Value) : Prop := ∀ j u, news[j]? = some u → ∃ b off, ao = some ⟨b, off, none⟩ ∧ W.cell? ⟨b, off + j, none⟩ = some u
theorem NewsAt.bel {W W' : World} {ao : Option Addr} {news : List Value} (h : NewsAt W ao news) (hb : Bel W W') : NewsAt W' ao news := fun j u hj => by
  obtain ⟨b, off, h1, h2⟩ := h j u hj
  exact ⟨b, off, h1, hb.keep h2⟩
theorem wp_appendG {P : Program} {o : Oper} {a : Act} {w : World} {K : Act → World → Prop} {Q : Exit → Act → World → Prop} (s x : Operand) (t : TypeId)
    (ho : o.op = .call { callee := .builtin .append, args := #[s, x], argTypes := #[t, t] })
    (B : Nat) (hB : B ≤ w.heap.size) (e : TypeId) (z : Value) (size bytes : Nat) (ht : P.underlying t = some (.slice e)) (hinfo : (P.info? e).map (fun i => (i.zero, i.size, i.bytes)) = some (some z, size, bytes))
    (hzs : z.cells.size = size) (hsz : 0 < size) (hby : bytes ≤ 4096) (v : Value) (n : Nat) (xs : List Value) (hs : a.eval s = v) (hown : w.ownsRow B e size v n xs)
    (ao : Option Addr) (m c : Nat) (news : List Value) (hx : a.eval x = .slice ao m c) (hl : news.length = m * size) (hnews : NewsAt w ao news) (h1 : ∀ y ∈ news, y.oneCell' = true) (hn : n + m ≤ 4294967296)
    (hK : ∀ v' w', w'.ownsRow B e size v' (n + m) (xs ++ news) → w.grownBy w' v.ownBlock → K (a.put o.dst v') w') :
    o.wp P a w K Q := by
  obtain ⟨i, hi, hz, hi1, hi2⟩ := info_parts hinfo
  cases ao with
  | none =>
    have hm : m = 0 := by
      cases m with
      | zero => rfl
      | succ m =>
        exfalso
        obtain ⟨b, off, h, _⟩ := hnews 0 _ (List.getElem?_eq_getElem (by rw [hl]; exact Nat.mul_pos (Nat.succ_pos m) hsz))
        cases h
    subst hm
    have hn0 : news = [] := List.eq_nil_of_length_eq_zero (by simpa using hl)
    subst hn0
    have hrun := run_append_empty (P := P) (w := w) B t o.type e i size ht hi v n xs hown c
    unfold Oper.wp execOp
    simp only [ho, resolve, invoke, builtin, Sem.run_bind, Sem.run_pure, Result.andThen_ok, List.map_toArray, List.map_cons, List.map_nil, hs, hx, hrun]
    exact hK v w (by simpa using hown) (World.grownBy.refl w _)
  | some ad =>
    refine wp_append_own w s x t ho B e i z size bytes ht hi hz hi1 hi2 hzs hsz v n xs hs hown ad m c news hx hl (fun j y hj => ?_) h1 (by unfold maxLen; omega) ?_ hB (fun v' w' hown' hgrow _ => hK v' w' hown' hgrow)
    · obtain ⟨b, off, h, hc⟩ := hnews j y hj
      cases h
      rw [show ((⟨b, off, none⟩ : Addr).add j) = ⟨b, off + j, none⟩ from by simp [Addr.add]]
      exact hc
    · have : (n + m) * bytes ≤ 4294967296 * 4096 := Nat.mul_le_mul hn hby
      omega
theorem wpL_appendG2 {P : Program} {ops : Array Oper} {rest : List Oper} {o : Oper} {a : Act} {w : World} {Q : Exit → Act → World → Prop} (hg : o.guard = none) (s x : Operand) (t : TypeId)
    (ho : o.op = .call { callee := .builtin .append, args := #[s, x], argTypes := #[t, t] })
    (B : Nat) (hB : B ≤ w.heap.size) (e : TypeId) (z : Value) (size bytes : Nat) (ht : P.underlying t = some (.slice e)) (hinfo : (P.info? e).map (fun i => (i.zero, i.size, i.bytes)) = some (some z, size, bytes))
    (hzs : z.cells.size = size) (hsz : 0 < size) (hby : bytes ≤ 4096) (v : Value) (n : Nat) (xs : List Value) (hs : a.eval s = v) (hown : w.ownsRow B e size v n xs)
    (ao : Option Addr) (m c : Nat) (news : List Value) (hx : a.eval x = .slice ao m c) (hl : news.length = m * size) (hnews : NewsAt w ao news) (h1 : ∀ y ∈ news, y.oneCell' = true) (hn : n + m ≤ 4294967296)
    (hK : ∀ v' w', w'.ownsRow B e size v' (n + m) (xs ++ news) → w.grownBy w' v.ownBlock → wpList P ops Q rest (a.put o.dst v') w') :
    wpList P ops Q (o :: rest) a w :=
  wpList_plain hg fun _ hKK => wp_appendG s x t ho B hB e z size bytes ht hinfo hzs hsz hby v n xs hs hown ao m c news hx hl hnews h1 hn fun v' w' h2 h3 => hKK _ _ (hK v' w' h2 h3)
/-- Where a row's things lie. -/
theorem own_wh {W : World} {B e m n : Nat} {v : Value} {xs : List Value} (h : W.ownsRow B e m v n xs) : ∃ a c, v = .slice a n c ∧ n ≤ c ∧ ∀ j u, xs[j]? = some u → ∃ g, a = some ⟨g, 0, none⟩ ∧ W.cell? ⟨g, j, none⟩ = some u := by
  obtain ⟨hl, ⟨rfl, rfl⟩ | ⟨g, cap, cur, rfl, hg, hh, hc, h3⟩⟩ := h
  · refine ⟨none, 0, rfl, Nat.le_refl _, fun j u hu => ?_⟩
    have hx : xs = [] := List.eq_nil_of_length_eq_zero (by simpa using hl)
    rw [hx] at hu; cases hu
  · have ho : W.ownsRow B e m (.slice (some ⟨g, 0, none⟩) n cap) n xs := ⟨hl, .inr ⟨g, cap, cur, rfl, hg, hh, hc, h3⟩⟩
    refine ⟨some ⟨g, 0, none⟩, cap, rfl, hc, fun j u hu => ⟨g, rfl, ?_⟩⟩
    have := ho.cells (g := g) rfl j u hu
    rwa [show ((⟨g, 0, none⟩ : Addr).add j) = ⟨g, j, none⟩ from by simp [Addr.add]; omega] at this

theorem info_atr : (Tryd.prog.info? 63).map (fun i => (i.zero, i.size, i.bytes)) = some (some (.agg #[.string ⟨#[]⟩, .string ⟨#[]⟩, .string ⟨#[]⟩]), 3, 48) := by kernel_rfl
theorem info_nod : (Tryd.prog.info? 27).map (fun i => (i.zero, i.size, i.bytes)) = some (some (.agg #[.int .i64 0, .string ⟨#[]⟩, .string ⟨#[]⟩, .slice none 0 0, .slice none 0 0, .string ⟨#[]⟩]), 6, 104) := by kernel_rfl
set_option maxRecDepth 100000 in
set_option maxHeartbeats 8000000 in
theorem cloneA_c (ao : Option Addr) (n cap : Nat) (news : List Value) (w : World) (hl : news.length = n * 3) (hat : NewsAt w ao news) (h1 : ∀ y ∈ news, y.oneCell' = true) (hn : n ≤ 4294967296) :
    Calls Tryd.prog 30 #[.slice ao n cap] w fun e w' => ∃ v', e = .returned v' ∧ Bel w w' ∧ w'.ownsRow w.heap.size 63 3 v' n news := by
  have eqn : ∀ (w : World) (a : Option Addr) (n c n' c' : Nat), (binOp .eql 24 (.slice a n c) (.slice none n' c')).run Tryd.prog w = .ok (.bool a.isNone) w := fun w a n c n' c' => Lib.run_eql_slice_nil w _ _ a n c n' c' Tryd.underlying24
  have HAT := Lib.hid hat
  have HL := Lib.hid hl
  have H1 := Lib.hid h1
  clear hat hl h1
  cases ao with
  | none =>
    have hz : n = 0 := by
      cases hnews : news with
      | nil => have := HL.out; rw [hnews] at this; simp at this; omega
      | cons y r => obtain ⟨b, off, h, _⟩ := HAT.out 0 y (by rw [hnews]; rfl); cases h
    subst hz
    have hnil : news = [] := List.length_eq_zero_iff.1 (by have := HL.out; omega)
    subst hnil
    go_enter Tryd.func30, Tryd.ntmps30
    go_wp2_with fail
    go_ret
    exact ⟨_, rfl, Bel.refl _, rfl, .inl ⟨rfl, rfl⟩⟩
  | some ad =>
    have eq2 : ∀ (w : World) (n c n' c' : Nat), (binOp .eql 24 (.slice (some ad) n c) (.slice none n' c')).run Tryd.prog w = .ok (.bool false) w := fun w n c n' c' => eqn w (some ad) n c n' c'
    clear eqn
    go_enter Tryd.func30, Tryd.ntmps30
    go_wp2_with (at_builtin; refine wpL_appendG2 rfl _ _ 24 rfl w.heap.size (by simp only [World.size_alloc]; omega) 63 (.agg #[.string ⟨#[]⟩, .string ⟨#[]⟩, .string ⟨#[]⟩]) 3 48 Tryd.underlying24 info_atr rfl (by decide) (by decide) _ _ _ rfl (World.ownsRow_made w #[] 0 (Nat.le_refl _) (Nat.zero_le _) rfl) (some ad) n cap news rfl HL.out (HAT.out.bel ((Bel.refl _).to_alloc _)) H1.out (by omega) ?_; intro v' w1 hown hgrow)
    go_wp2_with fail
    go_ret
    exact ⟨v', rfl, ((Below.refl _ w).alloc (Nat.le_refl _) _).grown hgrow (by simp) (by intro k hk; simp [Act.eval, Value.ownBlock] at hk; omega), by simpa using hown⟩
set_option maxRecDepth 100000 in
set_option maxHeartbeats 8000000 in
theorem cloneN_c (ao : Option Addr) (n cap : Nat) (news : List Value) (w : World) (hl : news.length = n * 6) (hat : NewsAt w ao news) (h1 : ∀ y ∈ news, y.oneCell' = true) (hn : n ≤ 4294967296) :
    Calls Tryd.prog 35 #[.slice ao n cap] w fun e w' => ∃ v', e = .returned v' ∧ Bel w w' ∧ w'.ownsRow w.heap.size 27 6 v' n news := by
  have eqn : ∀ (w : World) (a : Option Addr) (n c n' c' : Nat), (binOp .eql 25 (.slice a n c) (.slice none n' c')).run Tryd.prog w = .ok (.bool a.isNone) w := fun w a n c n' c' => Lib.run_eql_slice_nil w _ _ a n c n' c' Tryd.underlying25
  have HAT := Lib.hid hat
  have HL := Lib.hid hl
  have H1 := Lib.hid h1
  clear hat hl h1
  cases ao with
  | none =>
    have hz : n = 0 := by
      cases hnews : news with
      | nil => have := HL.out; rw [hnews] at this; simp at this; omega
      | cons y r => obtain ⟨b, off, h, _⟩ := HAT.out 0 y (by rw [hnews]; rfl); cases h
    subst hz
    have hnil : news = [] := List.length_eq_zero_iff.1 (by have := HL.out; omega)
    subst hnil
    go_enter Tryd.func35, Tryd.ntmps35
    go_wp2_with fail
    go_ret
    exact ⟨_, rfl, Bel.refl _, rfl, .inl ⟨rfl, rfl⟩⟩
  | some ad =>
    have eq2 : ∀ (w : World) (n c n' c' : Nat), (binOp .eql 25 (.slice (some ad) n c) (.slice none n' c')).run Tryd.prog w = .ok (.bool false) w := fun w n c n' c' => eqn w (some ad) n c n' c'
    clear eqn
    go_enter Tryd.func35, Tryd.ntmps35
    go_wp2_with (at_builtin; refine wpL_appendG2 rfl _ _ 25 rfl w.heap.size (by simp only [World.size_alloc]; omega) 27 (.agg #[.int .i64 0, .string ⟨#[]⟩, .string ⟨#[]⟩, .slice none 0 0, .slice none 0 0, .string ⟨#[]⟩]) 6 104 Tryd.underlying25 info_nod rfl (by decide) (by decide) _ _ _ rfl (World.ownsRow_made w #[] 0 (Nat.le_refl _) (Nat.zero_le _) rfl) (some ad) n cap news rfl HL.out (HAT.out.bel ((Bel.refl _).to_alloc _)) H1.out (by omega) ?_; intro v' w1 hown hgrow)
    go_wp2_with fail
    go_ret
    exact ⟨v', rfl, ((Below.refl _ w).alloc (Nat.le_refl _) _).grown hgrow (by simp) (by intro k hk; simp [Act.eval, Value.ownBlock] at hk; omega), by simpa using hown⟩
end Go.Proofs.YtojeclfcgnamoaaDoor

namespace Go.Proofs.YtojeclfcgnamoaaDoor
open Go.RowKit Go.Sort Go.Shelf Go.Lib

theorem flatA_len : ∀ l : List Atr, (l.flatMap encA).length = l.length * 3
  | [] => rfl
  | x :: r => by rw [List.flatMap_cons, List.length_append, flatA_len r, List.length_cons, encA_len]; omega
theorem flatA_get : ∀ (l : List Atr) (i : Nat) (x : Atr) (c : Nat), l[i]? = some x → c < 3 → (l.flatMap encA)[i * 3 + c]? = (encA x)[c]?
  | y :: r, 0, x, c, h, hc => by
    cases h
    rw [List.flatMap_cons, Nat.zero_mul, Nat.zero_add, List.getElem?_append_left (by rw [encA_len]; exact hc)]
  | y :: r, i + 1, x, c, h, hc => by
    rw [List.flatMap_cons, List.getElem?_append_right (by rw [encA_len]; omega), encA_len, show (i + 1) * 3 + c - 3 = i * 3 + c from by omega]
    exact flatA_get r i x c h hc
theorem encA_one (x : Atr) : ∀ v ∈ encA x, v.oneCell' = true := by
  intro v hv
  simp only [encA, List.mem_cons, List.not_mem_nil, or_false] at hv
  rcases hv with rfl | rfl | rfl <;> rfl
theorem rowA_of {w : World} {B : Nat} {e : TypeId} {v : Value} {al : List Atr} (h : w.ownsRow B e 3 v al.length (al.flatMap encA)) (h0 : al ≠ []) :
    ∃ g cap, v = .slice (some ⟨g, 0, none⟩) al.length cap ∧ B ≤ g ∧ al.length ≤ cap ∧ RowK encA 3 w g 0 al.toArray := by
  rcases h.2 with ⟨_, e0⟩ | ⟨g, cap, cur, rfl, hb, hg, hn, _, hs, ht⟩
  · exact absurd (List.length_eq_zero_iff.1 e0) h0
  · have hlt : g < w.heap.size := by
      rcases Nat.lt_or_ge g w.heap.size with h' | h'
      · exact h'
      · rw [Array.getElem?_eq_none h'] at hg; cases hg
    refine ⟨g, cap, rfl, hb, hn, encA_len, encA_one, fun j hj => ?_, hlt⟩
    rw [size_flatK] at hj
    rw [get_flatK _ _ _ _ hj]
    have hj' : j < al.length * 3 := by simpa using hj
    refine ⟨?_, by simp [World.frozen?, hg]⟩
    have hx : j / 3 < al.length := by omega
    have e1 : (cur.toList.take (al.length * 3))[j]? = (al.flatMap encA)[j]? := by rw [ht]
    have e2 := flatA_get al (j / 3) (al[j / 3]) (j % 3) (List.getElem?_eq_getElem hx) (by omega)
    rw [show j / 3 * 3 + j % 3 = j from by omega] at e2
    rw [e2, List.getElem?_take, if_pos (by omega), Array.getElem?_toList] at e1
    simp only [World.cell?, hg, Nat.zero_add]
    simp only [Option.isSome_none, Bool.false_eq_true, if_false]
    rw [e1]
    have e3 : al.toArray[j / 3]! = al[j / 3] := by simp [hx]
    rw [e3]
    have h3 : j % 3 < (encA al[j / 3]).length := by rw [encA_len]; omega
    rw [List.getElem?_eq_getElem h3]
    simp [h3]
theorem swk_below {w0 W : World} {blk off B : Nat} {dk : Array Atr} (h : SWK encA 3 w0 blk off dk W) (hb : B ≤ blk) (hB : B ≤ w0.heap.size) : Below B w0 W := by
  obtain ⟨n, os, rfl⟩ := h
  unfold sortWorldK
  have h1 : Below B w0 (putRowK encA 3 (Sort.ahead w0 n) blk off dk) := ⟨rfl, rfl, rfl, by simp [putRowK, putRow, mapBlock, Sort.ahead], fun k hk => by
    simp [putRowK, putRow, mapBlock, Sort.ahead, Array.getElem?_modify, show blk ≠ k by omega]⟩
  refine h1.trans ?_
  have h2 := below_grow B (putRowK encA 3 (Sort.ahead w0 n) blk off dk) (Nat.le_trans hB h1.size) 0 os
  exact h2
/-- The attributes sorted where they lie. -/
theorem sortAtrs_c {w : World} {B : Nat} {v : Value} {al : List Atr} (h : w.ownsRow B 63 3 v al.length (al.flatMap encA)) (h0 : al ≠ []) (hB : B ≤ w.heap.size) (hn : al.length ≤ 1073741824) (hd : (al.map nmA).Nodup) :
    Calls Tryd.prog 31 #[v, .func (.func 32) #[] #[]] w fun e w' => e = .returned (.tuple #[]) ∧ Below B w w' ∧ AttrsV w' v (sortA al) := by
  obtain ⟨g, cap, rfl, hg, hc, R⟩ := rowA_of h h0
  have hsz : al.toArray.size = al.length := by simp
  have hC := sortStable_s g 0 cap al.toArray w R (by rw [hsz]; exact hn) w (SWK.start R.hH)
  rw [hsz] at hC
  refine hC.mono ?_
  rintro e2 w2 ⟨rfl, hS⟩
  have hspec := stableF_spec swo_ltA al.toArray
  rw [hsz] at hspec
  have he : stableF ltA al.length al.toArray = (sortA al).toArray := sort_array hd hspec.1 hspec.2
  rw [he] at hS
  have hs2 : (sortA al).toArray.size = al.toArray.size := by simp [sortA_length]
  refine ⟨rfl, swk_below hS hg hB, some ⟨g, 0, none⟩, cap, by rw [sortA_length], by rw [sortA_length]; exact hc, .inr ⟨g, 0, rfl, hS.lt R.hblk, fun j x hx => ?_⟩⟩
  have hj : j < (sortA al).length := (List.getElem?_eq_some_iff.1 hx).1
  obtain ⟨c1, c2, c3, _⟩ := swk_cells hS R hs2 j (by simpa using hj)
  have ex : (sortA al).toArray[j]! = x := by
    have := (List.getElem?_eq_some_iff.1 hx).2
    simp [hj, this]
  rw [ex] at c1 c2 c3
  exact ⟨c1, c2, c3⟩
end Go.Proofs.YtojeclfcgnamoaaDoor

namespace Go.Proofs.YtojeclfcgnamoaaDoor
open Go.RowKit Go.Sort Go.Shelf Go.Lib

set_option maxRecDepth 100000 in
set_option maxHeartbeats 4000000 in
theorem insertion_nil (ao : Option Addr) (cap : Nat) (w : World) :
    Calls Tryd.prog 66 #[.slice ao 0 cap, .int .i64 0, .int .i64 0, .func (.func 32) #[] #[]] w fun e w' => e = .returned (.tuple #[]) ∧ w' = w := by
  go_enter Tryd.func66, Tryd.ntmps66
  go_wp2_with fail
  go_loopw [8] (fun x wr => x = .int .i64 1 ∧ wr = w) (fun x _ => 0)
  case atStart => exact ⟨by go_num, rfl⟩
  case round =>
    obtain ⟨rfl, rfl⟩ := hrel
    go_wp2_with fail
    go_end0
    exact ⟨rfl, rfl⟩
set_option maxRecDepth 100000 in
set_option maxHeartbeats 4000000 in
theorem stable_nil (ao : Option Addr) (cap : Nat) (w : World) :
    Calls Tryd.prog 54 #[.slice ao 0 cap, .int .i64 0, .func (.func 32) #[] #[]] w fun e w' => e = .returned (.tuple #[]) ∧ w' = w := by
  have HC := Lib.hid (insertion_nil ao cap w)
  go_enter Tryd.func54, Tryd.ntmps54
  go_wp2_with fail
  go_loopw [7, 8] (fun x y wr => x = .int .i64 0 ∧ y = .int .i64 20 ∧ wr = w) (fun x y _ => 0)
  case atStart => exact ⟨rfl, rfl, rfl⟩
  case round =>
    obtain ⟨rfl, rfl, rfl⟩ := hrel
    go_wp2_with fail
    refine HC.out.mono ?_
    rintro e2 w2 ⟨rfl, rfl⟩
    clear HC
    go_wp2_with fail
    go_loopw [6] (fun x wr => x = .int .i64 20 ∧ wr = w2) (fun x _ => 0)
    case atStart => exact ⟨rfl, rfl⟩
    case round =>
      obtain ⟨rfl, rfl⟩ := hrel
      go_wp2_with fail
      go_end0
      exact ⟨rfl, rfl⟩
set_option maxRecDepth 100000 in
set_option maxHeartbeats 4000000 in
theorem sortStable_nil (ao : Option Addr) (cap : Nat) (w : World) :
    Calls Tryd.prog 31 #[.slice ao 0 cap, .func (.func 32) #[] #[]] w fun e w' => e = .returned (.tuple #[]) ∧ w' = w := by
  have HC := Lib.hid (stable_nil ao cap w)
  go_enter Tryd.func31, Tryd.ntmps31
  go_wp2_with fail
  refine HC.out.mono ?_
  rintro e2 w2 ⟨rfl, rfl⟩
  clear HC
  go_wp2_with fail
  go_end0
  exact ⟨rfl, rfl⟩
/-- The attributes sorted where they lie, be there none. -/
theorem sortAtrs {w : World} {B : Nat} {v : Value} {al : List Atr} (h : w.ownsRow B 63 3 v al.length (al.flatMap encA)) (hB : B ≤ w.heap.size) (hn : al.length ≤ 1073741824) (hd : (al.map nmA).Nodup) :
    Calls Tryd.prog 31 #[v, .func (.func 32) #[] #[]] w fun e w' => e = .returned (.tuple #[]) ∧ Below B w w' ∧ AttrsV w' v (sortA al) := by
  by_cases h0 : al = []
  · subst h0
    obtain ⟨a, c, rfl, hc, _⟩ := own_wh h
    refine (sortStable_nil a c w).mono ?_
    rintro e2 w2 ⟨rfl, rfl⟩
    have e : sortA [] = [] := List.length_eq_zero_iff.1 (sortA_length [])
    exact ⟨rfl, Below.refl _ _, a, c, by rw [e], by rw [e]; exact Nat.zero_le _, .inl e⟩
  · exact sortAtrs_c h h0 hB hn hd
end Go.Proofs.YtojeclfcgnamoaaDoor

namespace Go.Proofs.YtojeclfcgnamoaaDoor
open Go.RowKit Go.Sort Go.Shelf Go.Lib

/-- A node's cells, in a list. -/
def ndC (x : Nd × Value × Value) : List Value := [.int .i64 x.1.t, .string x.1.sp, .string x.1.lo, x.2.1, x.2.2, .string x.1.tx]
theorem ndC_len (x : Nd × Value × Value) : (ndC x).length = 6 := rfl
theorem flatN_len : ∀ l : List (Nd × Value × Value), (l.flatMap ndC).length = l.length * 6
  | [] => rfl
  | x :: r => by rw [List.flatMap_cons, List.length_append, flatN_len r, List.length_cons, ndC_len]; omega
theorem flatN_get : ∀ (l : List (Nd × Value × Value)) (i : Nat) (x : Nd × Value × Value) (c : Nat), l[i]? = some x → c < 6 → (l.flatMap ndC)[i * 6 + c]? = (ndC x)[c]?
  | y :: r, 0, x, c, h, hc => by
    cases h
    rw [List.flatMap_cons, Nat.zero_mul, Nat.zero_add, List.getElem?_append_left (by rw [ndC_len]; exact hc)]
  | y :: r, i + 1, x, c, h, hc => by
    rw [List.flatMap_cons, List.getElem?_append_right (by rw [ndC_len]; omega), ndC_len, show (i + 1) * 6 + c - 6 = i * 6 + c from by omega]
    exact flatN_get r i x c h hc
theorem nds_list {W : World} {b : Nat} : ∀ (l : List Nd) (off : Nat), NdsAt W b off l → ∃ L : List (Nd × Value × Value), L.map (fun x => x.1) = l ∧ (∀ j u, (L.flatMap ndC)[j]? = some u → W.cell? ⟨b, off + j, none⟩ = some u) ∧ ∀ x ∈ L, NdAt W x.1 x.2.1 x.2.2
  | [], off, _ => ⟨[], rfl, (fun j u h => by cases h), (fun x h => by cases h)⟩
  | .mk t sp lo al ks tx :: r, off, h => by
    unfold NdsAt at h
    obtain ⟨⟨va, vk, c0, c1, c2, c3, c4, c5, h1⟩, h2⟩ := h
    obtain ⟨L, e1, e2, e3⟩ := nds_list r (off + 6) h2
    refine ⟨(.mk t sp lo al ks tx, va, vk) :: L, by rw [List.map_cons, e1], fun j u hj => ?_, fun x hx => ?_⟩
    · rw [List.flatMap_cons] at hj
      by_cases c : j < 6
      · rw [List.getElem?_append_left (by rw [ndC_len]; exact c)] at hj
        match j, c with
        | 0, _ => cases hj; exact c0
        | 1, _ => cases hj; exact c1
        | 2, _ => cases hj; exact c2
        | 3, _ => cases hj; exact c3
        | 4, _ => cases hj; exact c4
        | 5, _ => cases hj; exact c5
      · rw [List.getElem?_append_right (by rw [ndC_len]; omega), ndC_len] at hj
        have := e2 _ _ hj
        rwa [show off + 6 + (j - 6) = off + j from by omega] at this
    · rcases List.mem_cons.1 hx with rfl | hx
      · exact h1
      · exact e3 x hx
theorem nds_of {W : World} {b : Nat} : ∀ (L : List (Nd × Value × Value)) (off : Nat), (∀ j u, (L.flatMap ndC)[j]? = some u → W.cell? ⟨b, off + j, none⟩ = some u) → (∀ x ∈ L, NdAt W x.1 x.2.1 x.2.2) → NdsAt W b off (L.map fun x => x.1)
  | [], off, _, _ => by unfold List.map NdsAt; trivial
  | (.mk t sp lo al ks tx, va, vk) :: L, off, h, hx => by
    rw [List.map_cons]
    unfold NdsAt
    have hc : ∀ c u, c < 6 → (ndC (.mk t sp lo al ks tx, va, vk))[c]? = some u → W.cell? ⟨b, off + c, none⟩ = some u := fun c u c6 hu => h c u (by rw [List.flatMap_cons, List.getElem?_append_left (by rw [ndC_len]; exact c6)]; exact hu)
    refine ⟨⟨va, vk, hc 0 _ (by decide) rfl, hc 1 _ (by decide) rfl, hc 2 _ (by decide) rfl, hc 3 _ (by decide) rfl, hc 4 _ (by decide) rfl, hc 5 _ (by decide) rfl, hx _ (List.mem_cons_self ..)⟩, nds_of L (off + 6) (fun j u hj => ?_) fun x hx2 => hx x (List.mem_cons_of_mem _ hx2)⟩
    have := h (6 + j) u (by rw [List.flatMap_cons, List.getElem?_append_right (by rw [ndC_len]; omega), ndC_len, show 6 + j - 6 = j from by omega]; exact hj)
    rwa [show off + (6 + j) = off + 6 + j from by omega] at this
/-- A store into a row of one's own. -/
theorem own_put {w : World} {B g cap n m j : Nat} {e : TypeId} {cs : List Value} (h : w.ownsRow B e m (.slice (some ⟨g, 0, none⟩) n cap) n cs) (v : Value) :
    (w.setCell ⟨g, j, none⟩ v).ownsRow B e m (.slice (some ⟨g, 0, none⟩) n cap) n (cs.set j v) := by
  obtain ⟨hl, ⟨e0, _⟩ | ⟨g', cap', cur, e0, hg, hh, hc, hm, hs, ht⟩⟩ := h
  · cases e0
  · injection e0 with e1 _ e3
    injection e1 with e1
    injection e1 with e1
    subst e1
    subst e3
    refine ⟨by rw [List.length_set]; exact hl, .inr ⟨g, cap, cur.setIfInBounds j v, rfl, hg, ?_, hc, hm, by simpa using hs, ?_⟩⟩
    · simp [World.setCell, Array.getElem?_modify, hh]
    · rw [← ht, Array.toList_setIfInBounds, List.take_set]
/-- Six stores one behind the other into a list. -/
theorem set6 : ∀ (L : List (Nd × Value × Value)) (i : Nat) (x y : Nd × Value × Value), L[i]? = some x →
    ((((((L.flatMap ndC).set (i * 6) (.int .i64 y.1.t)).set (i * 6 + 1) (.string y.1.sp)).set (i * 6 + 2) (.string y.1.lo)).set (i * 6 + 3) y.2.1).set (i * 6 + 4) y.2.2).set (i * 6 + 5) (.string y.1.tx) = (L.set i y).flatMap ndC
  | z :: r, 0, x, y, h => by
    simp only [List.flatMap_cons, ndC, Nat.zero_mul, Nat.zero_add, List.cons_append, List.nil_append, List.set_cons_zero, List.set_cons_succ]
  | z :: r, i + 1, x, y, h => by
    have ih := set6 r i x y h
    rw [List.set_cons_succ, List.flatMap_cons, List.flatMap_cons, ← ih]
    rw [show (i + 1) * 6 = i * 6 + 6 from by omega]
    simp only [ndC, List.cons_append, List.nil_append, show ∀ a b : Nat, a + 6 + b = (a + b) + 6 from fun a b => by omega, List.set_cons_succ]
end Go.Proofs.YtojeclfcgnamoaaDoor
