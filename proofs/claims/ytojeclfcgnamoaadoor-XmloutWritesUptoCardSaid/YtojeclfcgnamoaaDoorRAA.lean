/-
  xmlout's document: insertion (plain), three cells of a row; less walked.
  An append onto a row of one's own: where the new row lies.
-/
import Derived.Test.YtojeclfcgnamoaaDoorXA
import Derived.Test.YtojeclfcgnamoaaDoorST3
import Derived.Sort.Walk0
import Derived.Test.YtojeclfcgnamoaaDoorSTQ
namespace Go.Proofs.YtojeclfcgnamoaaDoor
open Go.RowKit Go.Sort Go.Shelf Go.Lib

theorem set3 : ∀ (L : List Atr) (i : Nat) (x y : Atr), L[i]? = some x →
    (((L.flatMap encA).set (i * 3) (.string y.1)).set (i * 3 + 1) (.string y.2.1)).set (i * 3 + 2) (.string y.2.2) = (L.set i y).flatMap encA
  | z :: r, 0, x, y, h => by
    simp only [List.flatMap_cons, encA, Nat.zero_mul, Nat.zero_add, List.cons_append, List.nil_append, List.set_cons_zero, List.set_cons_succ]
  | z :: r, i + 1, x, y, h => by
    have ih := set3 r i x y h
    rw [List.set_cons_succ, List.flatMap_cons, List.flatMap_cons, ← ih]
    rw [show (i + 1) * 3 = i * 3 + 3 from by omega]
    simp only [encA, List.cons_append, List.nil_append, show ∀ a b : Nat, a + 3 + b = (a + b) + 3 from fun a b => by omega, List.set_cons_succ]
/-- Three cells stored. -/
def put3 (w : World) (g o : Nat) (y : Atr) : World := ((w.setCell ⟨g, o, none⟩ (.string y.1)).setCell ⟨g, o + 1, none⟩ (.string y.2.1)).setCell ⟨g, o + 2, none⟩ (.string y.2.2)
theorem put3_own {w : World} {B g cap n m j : Nat} {e : TypeId} {M : List Atr} {x : Atr} (y : Atr) (h : w.ownsRow B e m (.slice (some ⟨g, 0, none⟩) n cap) n (M.flatMap encA)) (hx : M[j]? = some x) :
    (put3 w g (j * 3) y).ownsRow B e m (.slice (some ⟨g, 0, none⟩) n cap) n ((M.set j y).flatMap encA) := by
  rw [← set3 M j x y hx]
  exact own_put (own_put (own_put h _) _) _
theorem put3_below {w W : World} {B g : Nat} (h : Below B w W) (hg : B ≤ g) (o : Nat) (y : Atr) : Below B w (put3 W g o y) :=
  ((h.setCell (p := ⟨g, o, none⟩) hg _).setCell (p := ⟨g, o + 1, none⟩) hg _).setCell (p := ⟨g, o + 2, none⟩) hg _
/-! Insertion: all but one in order, the one not behind those that follow it. -/
structure InsA (P : List Atr) (x : Atr) (Q : List Atr) : Prop where
  row : (P ++ Q).Pairwise fun a b => ltA b a = false
  all : ∀ q ∈ Q, ltA x q = true
theorem InsA.start {P : List Atr} (h : P.Pairwise fun a b => ltA b a = false) (x : Atr) : InsA P x [] := ⟨by rw [List.append_nil]; exact h, by simp⟩
theorem InsA.step {P : List Atr} {x y : Atr} {Q : List Atr} (h : InsA (P ++ [y]) x Q) (hl : ltA x y = true) : InsA P x (y :: Q) :=
  ⟨by have := h.row; rwa [List.append_assoc, List.singleton_append] at this, fun q hq => (List.mem_cons.1 hq).elim (fun e => e ▸ hl) (h.all q)⟩
theorem InsA.done {P : List Atr} {x : Atr} {Q : List Atr} (h : InsA P x Q) (hl : ∀ P' y, P = P' ++ [y] → ltA x y = false) : (P ++ x :: Q).Pairwise fun a b => ltA b a = false := by
  have hr := List.pairwise_append.1 h.row
  refine List.pairwise_append.2 ⟨hr.1, List.pairwise_cons.2 ⟨fun q hq => swo_ltA.asymmA (h.all q hq), hr.2.1⟩, fun p hp q hq => ?_⟩
  rcases List.mem_cons.1 hq with rfl | hq
  · rcases List.eq_nil_or_concat P with rfl | ⟨P', y, rfl⟩
    · cases hp
    · rw [List.concat_eq_append] at *
      have h1 := hl P' y rfl
      rcases List.mem_append.1 hp with hp | hp
      · exact swo_ltA.ntrans _ _ _ h1 ((List.pairwise_append.1 hr.1).2.2 p hp y (List.mem_singleton.2 rfl))
      · obtain rfl := List.mem_singleton.1 hp
        exact h1
  · exact hr.2.2 p hp q hq
theorem swap_perm (P : List Atr) (x y : Atr) (Q : List Atr) : (P ++ [y] ++ x :: Q).Perm (P ++ x :: y :: Q) := by
  rw [List.append_assoc]
  exact List.Perm.append_left P (List.Perm.swap x y Q)
theorem set_mid (P : List Atr) (x y : Atr) (Q : List Atr) : (P ++ x :: Q).set P.length y = P ++ y :: Q := by
  rw [List.set_append_right _ _ (Nat.le_refl _), Nat.sub_self, List.set_cons_zero]
theorem get_mid (P : List Atr) (x : Atr) (Q : List Atr) : (P ++ x :: Q)[P.length]? = some x := by
  rw [List.getElem?_append_right (Nat.le_refl _), Nat.sub_self]; rfl
theorem lt_ltB6 (a b : ByteArray) : Op.bytesLess a.toList b.toList = ltB6 a b := by rw [bytesLess_eq, Lib.toList_data, Lib.toList_data]; rfl
def nmLt (s l s' l' : ByteArray) : Bool := ltB6 s s' || (decide (s = s') && ltB6 l l')
set_option maxRecDepth 100000 in
set_option maxHeartbeats 4000000 in
theorem rless_c (s l s' l' : ByteArray) (w : World) : Calls Tryd.prog 25 #[.agg #[.string s, .string l], .agg #[.string s', .string l']] w (RetBel (.bool (nmLt s l s' l')) w) := by
  have h1 := lt_ltB6 s s'
  have h2 := lt_ltB6 l l'
  have h3 := lequal s s'
  unfold nmLt
  obtain ⟨A, hA⟩ : ∃ A, ltB6 s s' = A := ⟨_, rfl⟩
  obtain ⟨B, hB⟩ : ∃ B, ltB6 l l' = B := ⟨_, rfl⟩
  obtain ⟨C, hC⟩ : ∃ C, decide (s = s') = C := ⟨_, rfl⟩
  rw [hA] at h1 ⊢
  rw [hB] at h2 ⊢
  rw [hC] at h3 ⊢
  have b0 := (Bel.alloc w (.cells #[.string s, .string l] 23)).to_alloc (.cells #[.string s', .string l'] 23)
  have HB0 := Lib.hid b0
  clear b0 hA hB hC
  cases A <;> cases B <;> cases C <;>
  · go_enter Tryd.func25, Tryd.ntmps25
    go_wp2_with fail
    go_ret
    exact ⟨rfl, HB0.out⟩
end Go.Proofs.YtojeclfcgnamoaaDoor

namespace Go.Proofs.YtojeclfcgnamoaaDoor
open Go.RowKit Go.Sort Go.Shelf Go.Lib

theorem run_append_place {P : Program} {w : World} {B : Nat} {t ty e : TypeId} {i : TypeInfo} {z : Value} {size bytes : Nat} (ht : P.underlying t = some (.slice e)) (hi : P.info? e = some i) (hz : i.zero = some z)
    (hsize : i.size = size) (hby : i.bytes = bytes) (hzs : z.cells.size = size) (hsz : 0 < size) {v : Value} {n : Nat} {xs : List Value} (hown : w.ownsRow B e size v n xs)
    {a : Addr} {c : Nat} {news : List Value} (hl : news.length = 1 * size) (hnews : ∀ j u, news[j]? = some u → w.cell? (a.add j) = some u) (h1 : ∀ u ∈ news, u.oneCell' = true)
    (h63 : n + 1 ≤ maxLen) (hbytes : (n + 1) * bytes ≤ 140737488355328) (hbase : B ≤ w.heap.size) :
    ∃ g cap w', (Builtin.append_ #[t, t] ty #[v, .slice (some a) 1 c]).run P w = .ok (.slice (some ⟨g, 0, none⟩) (n + 1) cap) w' ∧ w'.ownsRow B e size (.slice (some ⟨g, 0, none⟩) (n + 1) cap) (n + 1) (xs ++ news) ∧ w.grownBy w' v.ownBlock ∧ (v.ownBlock = some g ∨ w.heap.size ≤ g) := by
  obtain ⟨v', w', hr, h2, h3, _⟩ := run_append_own (P := P) w B t ty e i z size bytes ht hi hz hsize hby hzs hsz v n xs hown a 1 c news hl hnews h1 h63 hbytes hbase
  obtain ⟨g, cap, rfl⟩ := ownsRow_succ h2
  refine ⟨g, cap, w', hr, h2, h3, ?_⟩
  have hmx : (9223372036854775807 : Int) ≥ (n + 1 : Nat) := by unfold maxLen at h63; omega
  subst hsize
  subst hby
  have key : ∀ {g' m' c' W'}, (Builtin.append_ #[t, t] ty #[v, .slice (some a) 1 c]).run P w = .ok (.slice (some ⟨g', 0, none⟩) m' c') W' → g = g' := fun h => by
    rw [hr] at h
    injection h with h _
    injection h with h _
    injection h with h
    injection h with h
  rcases hown.2 with ⟨rfl, rfl⟩ | ⟨g0, cap0, cur, rfl, hbg, hg, hnc, hcm, hcs, htake⟩
  · right
    rw [key (run_append_nil (P := P) w t ty e i z ht hi hz a 1 c news hl hnews (by omega) (by omega) (by simp only [Nat.zero_add] at hbytes; omega))]
    exact Nat.le_refl _
  · by_cases hroom : n + 1 ≤ cap0
    · left
      rw [key (run_append_room (P := P) w t ty e i ht hi g0 n cap0 cur hg a 1 c news hl hnews h1 hroom (by rw [hl, hcs, ← Nat.add_mul]; exact Nat.mul_le_mul_right _ hroom))]
      rfl
    · right
      rw [key (run_append_grow (P := P) w t ty e i z ht hi hz ⟨g0, 0, none⟩ n cap0 xs hown.1 (hown.cells (g := g0) rfl) a 1 c news hl hnews (by omega) (by omega) (growslice_fits (by omega) hbytes))]
      exact Nat.le_refl _
theorem wpL_append1g {P : Program} {ops : Array Oper} {rest : List Oper} {o : Oper} {a : Act} {w : World} {Q : Exit → Act → World → Prop}
    (hg : o.guard = none) (s x : Operand) (t : TypeId) (ho : o.op = .call { callee := .builtin .append, args := #[s, x], argTypes := #[t, t] })
    (B : Nat) (hB : B ≤ w.heap.size) (e : TypeId) (z : Value) (size bytes : Nat) (ht : P.underlying t = some (.slice e)) (hinfo : (P.info? e).map (fun i => (i.zero, i.size, i.bytes)) = some (some z, size, bytes))
    (hzs : z.cells.size = size) (hsz : 0 < size) (hby : bytes ≤ 4096) (v : Value) (n : Nat) (xs : List Value) (hs : a.eval s = v) (hown : w.ownsRow B e size v n xs)
    (ad : Addr) (c : Nat) (news : List Value) (hx : a.eval x = .slice (some ad) 1 c) (hl : news.length = size) (hnews : ∀ j u, news[j]? = some u → w.cell? (ad.add j) = some u) (h1 : ∀ u ∈ news, u.oneCell' = true)
    (hn : n ≤ 4294967296)
    (hK : ∀ g cap w', w'.ownsRow B e size (.slice (some ⟨g, 0, none⟩) (n + 1) cap) (n + 1) (xs ++ news) → w.grownBy w' v.ownBlock → (v.ownBlock = some g ∨ w.heap.size ≤ g) → wpList P ops Q rest (a.put o.dst (.slice (some ⟨g, 0, none⟩) (n + 1) cap)) w') :
    wpList P ops Q (o :: rest) a w := by
  obtain ⟨i, hi, hz, hi1, hi2⟩ := info_parts hinfo
  have hb : (n + 1) * bytes ≤ 140737488355328 := by
    have : (n + 1) * bytes ≤ 4294967297 * 4096 := Nat.mul_le_mul (by omega) hby
    omega
  obtain ⟨g, cap, w', hr, h2, h3, h4⟩ := run_append_place (P := P) (t := t) (ty := o.type) (c := c) ht hi hz hi1 hi2 hzs hsz hown (by omega) hnews h1 (by unfold maxLen; omega) hb hB
  refine wpList_plain hg fun _ hKK => ?_
  unfold Oper.wp execOp
  simp only [ho, resolve, invoke, builtin, Sem.run_bind, Sem.run_pure, Result.andThen_ok, List.map_toArray, List.map_cons, List.map_nil, hs, hx, hr]
  exact hKK _ _ (hK g cap w' h2 h3 h4)
/-- What was there ahead reads neither the row that was appended to nor newer blocks. -/
theorem reads_app {W W' : World} {S S' : Nat → Bool} {row : Option Nat} (hg : W.grownBy W' row) (hr : ∀ k, row = some k → S k = true) (hS : ∀ k, k < W.heap.size → S' k = true → S k = true) : Reads (hole W S) (hole W' S') :=
  ⟨fun p v h => by
    obtain ⟨h1, h2⟩ := hole_lt h
    have h3 : S' p.block = false := by
      cases hh : S' p.block with
      | false => rfl
      | true => rw [hS _ h1 hh] at h2; cases h2
    rw [hole_cell_of h3]
    have h4 := hole_cell h
    unfold World.cell? at h4 ⊢
    rw [hg.block _ h1 fun e => by rw [hr _ e.symm] at h2; cases h2]
    exact h4, by rw [hole_size, hole_size]; exact hg.size⟩
theorem reads_trans {a b c : World} (h : Reads a b) (k : Reads b c) : Reads a c := ⟨fun _ _ hp => k.cell _ _ (h.cell _ _ hp), Nat.le_trans h.size k.size⟩
theorem attrs_own {w : World} {B n c : Nat} {e : TypeId} {a : Option Addr} {M : List Atr} (h : w.ownsRow B e 3 (.slice a n c) n (M.flatMap encA)) (hc : n ≤ c) : AttrsV w (.slice a n c) M := by
  have hl : M.length = n := by have := h.1; rw [flatA_len] at this; omega
  subst hl
  refine ⟨a, c, rfl, hc, ?_⟩
  by_cases h0 : 0 < M.length
  · obtain ⟨g, rfl, hg1, hg2⟩ := own_some h h0
    obtain ⟨_, h1, _⟩ := own_cells h rfl
    refine .inr ⟨g, 0, rfl, hg2, fun i x hx => ?_⟩
    rw [Nat.zero_add]
    exact ⟨h1 _ _ (flatA_get M i x 0 hx (by omega)), h1 _ _ (flatA_get M i x 1 hx (by omega)), h1 _ _ (flatA_get M i x 2 hx (by omega))⟩
  · exact .inl (List.eq_nil_of_length_eq_zero (by omega))
/-- What no tree at hand reads: the two boxes, the row that grows. -/
def rowT (S : Nat → Bool) (b0 : Nat) (v : Value) : Nat → Bool := fun k => S k || k == b0 || k == b0 + 1 || decide (v.ownBlock = some k)
theorem rowT_iff {S : Nat → Bool} {b0 : Nat} {v : Value} {k : Nat} : rowT S b0 v k = true ↔ S k = true ∨ k = b0 ∨ k = b0 + 1 ∨ v.ownBlock = some k := by
  unfold rowT
  simp [or_assoc]
end Go.Proofs.YtojeclfcgnamoaaDoor
