/-
  Logics (plain): right ones, their names, and that those in scope are those that are free.
-/
import Derived.Test.YtchbhcjhoocjaaaGreatDoorLGA
namespace Go.Proofs.YtchbhcjhoocjaaaGreatDoor
open Go.RowKit

theorem checkE_ok {e : Ex} (h : CheckE e = 0) : OkE e := by
  unfold CheckE at h
  split at h
  · cases h
  · exact ⟨true, h⟩
theorem with_got {l M : List ByteArray} (h : withS [] l = (some M, 0)) : Srt M ∧ M.length ≤ 4096 ∧ ∀ x, x ∈ M ↔ x ∈ l := by
  unfold withS at h
  split at h
  · cases h
  · split at h
    · cases h
    · injection h with h _
      injection h with h
      subst h
      exact ⟨srt_addS _ srt_nil, by omega, fun x => by rw [mem_addS]; simp⟩
mutual
/-- Right, as far as its names go. -/
def OkL : Lg → Prop
  | .mk k e p ins outs rs ns l => (∀ x ∈ partsL (.mk k e p ins outs rs ns l), OkE x) ∧ (k = 2 → ns.length = l.length ∧ ∀ x ∈ ns.take (ns.length - 1), rightS x = true) ∧ OksL l
def OksL : List Lg → Prop
  | [] => True
  | x :: r => OkL x ∧ OksL r
end
theorem OksL_all : ∀ l : List Lg, OksL l ↔ ∀ x ∈ l, OkL x
  | [] => by unfold OksL; simp
  | x :: r => by unfold OksL; rw [OksL_all r]; simp
theorem OkL_eq (l : Lg) : OkL l ↔ (∀ x ∈ partsL l, OkE x) ∧ (l.k = 2 → l.ns.length = l.l.length ∧ ∀ x ∈ l.ns.take (l.ns.length - 1), rightS x = true) ∧ ∀ x ∈ l.l, OkL x := by
  obtain ⟨k, e, p, ins, outs, rs, ns, l⟩ := l
  rw [← OksL_all]
  conv => lhs; unfold OkL
  rfl
theorem exprs_ok {l : List Ex} (h : exprsE l = 0) : ∀ x ∈ l, OkE x := fun x hx => by
  have h1 := (nz_zero _).1 h (exprE x) (List.mem_map_of_mem hx)
  unfold exprE at h1
  split at h1
  · exact checkE_ok (by assumption)
  · exact absurd h1 (by assumption)
theorem tests_ok {t : Te} (h : CheckT t = 0) : ∀ x ∈ t.l, OkE x := fun x hx => by
  unfold CheckT at h
  split at h
  · cases h
  · exact checkE_ok ((nz_zero _).1 h (CheckE x) (List.mem_map_of_mem hx))
theorem ru_ok {ni no : Nat} {r : Ru} (h : ruE ni no r = 0) : ∀ x ∈ ruParts r, OkE x := fun x hx => by
  unfold ruE at h
  split at h
  · cases h
  · split at h
    · rename_i h1
      rcases List.mem_append.1 hx with hx | hx
      · obtain ⟨t, ht, hx⟩ := List.mem_flatMap.1 hx
        exact tests_ok ((nz_zero _).1 h1 _ (List.mem_map_of_mem ht)) x hx
      · exact exprs_ok h x hx
    · exact absurd h (by assumption)
theorem rus_ok {ni no : Nat} {l : List Ru} (h : rusE ni no l = 0) : ∀ r ∈ l, ∀ x ∈ ruParts r, OkE x := fun _ hr => ru_ok ((nz_zero _).1 h _ (List.mem_map_of_mem hr))
theorem parts_ok {l : Lg} (h1 : (if l.k = 0 ∨ l.k = 3 then exprsE [l.e] else 0) = 0) (h2 : exprsE l.ins = 0) (h3 : rusE l.ins.length l.outs.length l.rs = 0) : ∀ x ∈ partsL l, OkE x := fun x hx => by
  unfold partsL at hx
  rcases List.mem_append.1 hx with hx | hx
  · split at hx
    · rw [if_pos (by assumption)] at h1
      exact exprs_ok h1 x hx
    · cases hx
  · rcases List.mem_append.1 hx with hx | hx
    · exact exprs_ok h2 x hx
    · obtain ⟨r, hr, hx⟩ := List.mem_flatMap.1 hx
      exact rus_ok h3 r hr x hx
theorem named_ok {l : List ByteArray} (h : namedS l = 0) : (∀ x ∈ l, rightS x = true) ∧ l.Nodup := by
  unfold namedS at h
  split at h
  · cases h
  · split at h
    · cases h
    · rename_i h1 h2
      refine ⟨fun x hx => ?_, Decidable.not_not.1 h2⟩
      cases hr : rightS x with
      | true => rfl
      | false => exact absurd (List.any_eq_true.2 ⟨x, hx, by rw [hr]; rfl⟩) h1
theorem given_ok {ns : List ByteArray} (h : namedS (givenL 2 ns) = 0) : ∀ x ∈ ns.take (ns.length - 1), rightS x = true := fun x hx => by
  have h1 := (named_ok h).1
  unfold givenL at h1
  split at h1
  · exact h1 x hx
  · exact h1 x (List.mem_of_mem_take hx)
theorem form_two {l : Lg} (h : formL l = true) (hk : l.k = 2) : l.ns.length = l.l.length ∧ 0 < l.l.length ∧ bareL l = true := by
  unfold formL at h
  rw [if_neg (by omega), if_neg (by omega), if_pos hk] at h
  simp only [Bool.and_eq_true, decide_eq_true_eq] at h
  exact ⟨h.2.2.2, h.2.2.1, h.2.1⟩
theorem own_parts {l : Lg} (h : ownL l = 0) : (0 ≤ l.k ∧ l.k ≤ 3) ∧ formL l = true ∧ ∀ x ∈ fiveL l, x = 0 := by
  unfold ownL at h
  split at h
  · cases h
  · split at h
    · cases h
    · rename_i h1 h2
      exact ⟨Decidable.not_not.1 h1, by simpa using h2, (nz_zero _).1 h⟩
theorem checkL_ok : ∀ l : Lg, checkL l = 0 → OkL l := by
  refine lg_ind fun l ih => ?_
  intro h
  rw [checkL_eq] at h
  split at h
  · rename_i h1
    obtain ⟨_, hf, h5⟩ := own_parts h1
    have g1 := h5 _ (List.mem_cons_self ..)
    have g3 := h5 (if l.k = 0 ∨ l.k = 3 then exprsE [l.e] else 0) (by unfold fiveL; simp)
    have g4 := h5 (exprsE l.ins) (by unfold fiveL; simp)
    have g5 := h5 (rusE l.ins.length l.outs.length l.rs) (by unfold fiveL; simp)
    refine (OkL_eq l).2 ⟨parts_ok g3 g4 g5, fun hk => ⟨(form_two hf hk).1, given_ok (by rw [← hk]; exact g1)⟩, fun x hx => ?_⟩
    obtain ⟨i, hi⟩ := List.mem_iff_getElem?.1 hx
    exact ih i x hi ((nz_zero _).1 h _ (List.mem_map_of_mem hx))
  · exact absurd h (by assumption)
theorem CheckL_ok {l : Lg} (h : CheckL l = 0) : OkL l := by
  unfold CheckL at h
  split at h
  · cases h
  · exact checkL_ok l h

/-! By the document. -/
def rnamedS (ns : List ByteArray) (op : Bool) : Nat :=
  if ((if op = true ∧ ns[ns.length - 1]? = some ⟨#[]⟩ then ns.take (ns.length - 1) else ns).any fun x => !rightS x) = true then 6 else if ¬ ns.Nodup then 8 else 0
def rfourL (l : Lg) : List Nat := [rnamedS (l.ns ++ l.outs) (decide (l.k = 2)), if l.k = 0 ∨ l.k = 3 then exprsE [l.e] else 0, exprsE l.ins, rusE l.ins.length l.outs.length l.rs]
def rownL (l : Lg) : Nat := if ¬ (0 ≤ l.k ∧ l.k ≤ 3) then 2 else if formL l = false then 17 else nz (rfourL l)
mutual
def rcheckL : Lg → Nat
  | .mk k e p ins outs rs ns l => if rownL (.mk k e p ins outs rs ns l) = 0 then rchecksL l else rownL (.mk k e p ins outs rs ns l)
def rchecksL : List Lg → Nat
  | [] => 0
  | x :: r => if rcheckL x = 0 then rchecksL r else rcheckL x
end
theorem rchecksL_eq : ∀ l : List Lg, rchecksL l = nz (l.map rcheckL)
  | [] => by unfold rchecksL; rfl
  | x :: r => by unfold rchecksL; rw [rchecksL_eq r]; rfl
theorem rcheckL_eq (l : Lg) : rcheckL l = if rownL l = 0 then nz (l.l.map rcheckL) else rownL l := by
  obtain ⟨k, e, p, ins, outs, rs, ns, l⟩ := l; unfold rcheckL; rw [rchecksL_eq]; rfl
def RCheckL (l : Lg) : Nat := if deepL l 30 = true then 9 else rcheckL l
theorem bare_outs {l : Lg} (h : bareL l = true) : l.outs = [] := by
  unfold bareL at h
  simp only [Bool.and_eq_true, decide_eq_true_eq] at h
  exact List.eq_nil_of_length_eq_zero (by omega)
theorem rgiven_ok {ns : List ByteArray} (h : rnamedS ns true = 0) : ∀ x ∈ ns.take (ns.length - 1), rightS x = true := fun x hx => by
  unfold rnamedS at h
  obtain ⟨A, hA⟩ : ∃ A, (if true = true ∧ ns[ns.length - 1]? = some (⟨#[]⟩ : ByteArray) then ns.take (ns.length - 1) else ns) = A := ⟨_, rfl⟩
  rw [hA] at h
  have hxA : x ∈ A := by
    rw [← hA]
    by_cases h1 : true = true ∧ ns[ns.length - 1]? = some (⟨#[]⟩ : ByteArray)
    · rw [if_pos h1]; exact hx
    · rw [if_neg h1]; exact List.mem_of_mem_take hx
  by_cases h1 : (A.any fun x => !rightS x) = true
  · rw [if_pos h1] at h; cases h
  · cases hr : rightS x with
    | true => rfl
    | false => exact absurd (List.any_eq_true.2 ⟨x, hxA, by rw [hr]; rfl⟩) h1
theorem rcheckL_ok : ∀ l : Lg, rcheckL l = 0 → OkL l := by
  refine lg_ind fun l ih => ?_
  intro h
  rw [rcheckL_eq] at h
  split at h
  · rename_i h1
    unfold rownL at h1
    split at h1
    · cases h1
    · split at h1
      · cases h1
      · rename_i h2 h3
        have h5 := (nz_zero _).1 h1
        have g1 := h5 _ (List.mem_cons_self ..)
        have g3 := h5 (if l.k = 0 ∨ l.k = 3 then exprsE [l.e] else 0) (by unfold rfourL; simp)
        have g4 := h5 (exprsE l.ins) (by unfold rfourL; simp)
        have g5 := h5 (rusE l.ins.length l.outs.length l.rs) (by unfold rfourL; simp)
        have hf : formL l = true := by simpa using h3
        refine (OkL_eq l).2 ⟨parts_ok g3 g4 g5, fun hk => ?_, fun x hx => ?_⟩
        · obtain ⟨f1, _, f3⟩ := form_two hf hk
          refine ⟨f1, rgiven_ok ?_⟩
          rw [bare_outs f3, List.append_nil, hk, decide_eq_true rfl] at g1
          exact g1
        · obtain ⟨i, hi⟩ := List.mem_iff_getElem?.1 hx
          exact ih i x hi ((nz_zero _).1 h _ (List.mem_map_of_mem hx))
  · exact absurd h (by assumption)
theorem RCheckL_ok {l : Lg} (h : RCheckL l = 0) : OkL l := by
  unfold RCheckL at h
  split at h
  · cases h
  · exact rcheckL_ok l h
theorem OkL.part {l : Lg} (h : OkL l) {i : Nat} {x : Lg} (hx : l.l[i]? = some x) : OkL x := ((OkL_eq l).1 h).2.2 x (List.mem_of_getElem? hx)
theorem OkL.bind {l : Lg} (h : OkL l) {i : Nat} (hi : i < l.l.length) : ∀ x ∈ bindL l.k l.ns i, rightS x = true := fun x hx => by
  unfold bindL at hx
  split at hx
  · obtain ⟨h1, h2⟩ := ((OkL_eq l).1 h).2.1 (by assumption)
    refine h2 x ?_
    have : l.ns.take i = (l.ns.take (l.ns.length - 1)).take i := by rw [List.take_take, Nat.min_eq_left (by omega)]
    rw [this] at hx
    exact List.mem_of_mem_take hx
  · cases hx
theorem freeL_right : ∀ l : Lg, OkL l → ∀ x ∈ freeL l [], rightS x = true := by
  refine lg_ind fun l ih => ?_
  intro hok x hx
  rcases (mem_freeL0 x l).1 hx with ⟨e, he, hxe⟩ | ⟨j, y, hy, h, _⟩
  · exact free_right e (((OkL_eq l).1 hok).1 e he) x hxe
  · exact ih j y hy (hok.part hy) x h

/-! All texts that stand in one. -/
mutual
def txL : Lg → List ByteArray
  | .mk k e p ins outs rs ns l => ns ++ ((partsL (.mk k e p ins outs rs ns l)).flatMap (fun x => nsE x ++ ssE x) ++ txsL l)
def txsL : List Lg → List ByteArray
  | [] => []
  | x :: r => txL x ++ txsL r
end
theorem txL_eq (l : Lg) : txL l = l.ns ++ ((partsL l).flatMap (fun x => nsE x ++ ssE x) ++ txsL l.l) := by
  obtain ⟨k, e, p, ins, outs, rs, ns, l⟩ := l; unfold txL; rfl
theorem namesB_tx (e : Ex) : namesB (nsE e ++ ssE e) = e.bulk := by
  have h1 := bytes_all e
  have h2 := ssE_len e
  have h3 : ∀ l : List ByteArray, namesB l = sumB l + l.length := by
    intro l
    induction l with
    | nil => rfl
    | cons x r ih => rw [namesB_cons, sumB_cons, ih, List.length_cons]; omega
  rw [namesB_append, h3 (ssE e)]
  omega
theorem namesB_flat : ∀ l : List Ex, namesB (l.flatMap fun x => nsE x ++ ssE x) = Ex.bulk.bulks l
  | [] => rfl
  | x :: r => by rw [List.flatMap_cons, namesB_append, namesB_tx, namesB_flat r]; conv => rhs; unfold Ex.bulk.bulks
theorem bulks_app : ∀ a b : List Ex, Ex.bulk.bulks (a ++ b) = Ex.bulk.bulks a + Ex.bulk.bulks b
  | [], b => by simp [Ex.bulk.bulks]
  | x :: a, b => by
    rw [List.cons_append]
    conv => lhs; unfold Ex.bulk.bulks
    conv => rhs; unfold Ex.bulk.bulks
    rw [bulks_app a b]
    cases b <;> simp [Ex.bulk.bulks] <;> omega
theorem bulks_tests : ∀ l : List Te, Ex.bulk.bulks (l.flatMap fun t => t.l) ≤ tbulks l
  | [] => Nat.le_refl _
  | t :: r => by
    rw [List.flatMap_cons, bulks_app]
    have := bulks_tests r
    unfold tbulks Te.bulk
    omega
theorem bulks_rus : ∀ l : List Ru, Ex.bulk.bulks (l.flatMap ruParts) ≤ rbulks l
  | [] => Nat.le_refl _
  | t :: r => by
    rw [List.flatMap_cons, bulks_app]
    have := bulks_rus r
    have h2 := bulks_tests t.ins
    unfold rbulks Ru.bulk
    rw [show ruParts t = (t.ins.flatMap fun t => t.l) ++ t.out from rfl, bulks_app]
    omega
theorem bulks_partsL (l : Lg) : Ex.bulk.bulks (partsL l) ≤ l.e.bulk + Ex.bulk.bulks l.ins + rbulks l.rs := by
  have h1 := bulks_rus l.rs
  unfold partsL
  rw [bulks_app, bulks_app]
  split
  · have : Ex.bulk.bulks [l.e] = l.e.bulk := by simp [Ex.bulk.bulks]
    omega
  · have : Ex.bulk.bulks [] = 0 := rfl
    omega
mutual
theorem namesB_txL : ∀ l : Lg, namesB (txL l) ≤ l.bulk
  | .mk k e p ins outs rs ns l => by
    have h1 := namesB_txsL l
    have h2 := bulks_partsL (.mk k e p ins outs rs ns l)
    have h3 : namesB ns = sumS ns := rfl
    unfold txL Lg.bulk
    rw [namesB_append, namesB_append, namesB_flat]
    simp only [Lg.e, Lg.ins, Lg.rs] at h2
    omega
theorem namesB_txsL : ∀ l : List Lg, namesB (txsL l) ≤ lbulks l
  | [] => Nat.le_refl _
  | x :: r => by
    have h1 := namesB_txL x
    have h2 := namesB_txsL r
    unfold txsL lbulks
    rw [namesB_append]
    omega
end
theorem txsL_part {x : ByteArray} {y : Lg} : ∀ {l : List Lg} {i : Nat}, l[i]? = some y → x ∈ txL y → x ∈ txsL l
  | z :: r, 0, h, hx => by cases h; unfold txsL; exact List.mem_append.2 (.inl hx)
  | z :: r, i + 1, h, hx => by unfold txsL; exact List.mem_append.2 (.inr (txsL_part (show r[i]? = some y from h) hx))
theorem txL_part {x : ByteArray} {l y : Lg} {i : Nat} (hy : l.l[i]? = some y) (hx : x ∈ txL y) : x ∈ txL l := by
  rw [txL_eq]; exact List.mem_append.2 (.inr (List.mem_append.2 (.inr (txsL_part hy hx))))
theorem txL_expr {x : ByteArray} {l : Lg} {e : Ex} (he : e ∈ partsL l) (hx : x ∈ nsE e ∨ x ∈ ssE e) : x ∈ txL l := by
  rw [txL_eq]; exact List.mem_append.2 (.inr (List.mem_append.2 (.inl (List.mem_flatMap.2 ⟨e, he, List.mem_append.2 hx⟩))))
theorem txL_bind {x : ByteArray} {l : Lg} {i : Nat} (hx : x ∈ bindL l.k l.ns i) : x ∈ txL l := by
  rw [txL_eq]
  unfold bindL at hx
  split at hx
  · exact List.mem_append.2 (.inl (List.mem_of_mem_take hx))
  · cases hx
theorem freeL_tx : ∀ (l : Lg) (x : ByteArray), x ∈ freeL l [] → x ∈ txL l := by
  refine lg_ind fun l ih => ?_
  intro x hx
  rcases (mem_freeL0 x l).1 hx with ⟨e, he, hxe⟩ | ⟨j, y, hy, h, _⟩
  · exact txL_expr he (.inr (free_ss e [] x hxe))
  · exact txL_part hy (ih j y hy x h)
/-- No more than 4096 names come into scope. -/
def FitL (l : Lg) (N : List ByteArray) : Prop := ∀ M : List ByteArray, M.Nodup → (∀ x ∈ M, x ∈ N ∨ x ∈ txL l ∨ x = ⟨#[105, 116, 101, 109]⟩) → M.length ≤ 4096
theorem fitL_of (l : Lg) (N : List ByteArray) (hb : l.bulk ≤ 5000) (O : List ByteArray) (hO : O.length ≤ 2000) (hN : ∀ x ∈ N, x ∈ O ∨ x ∈ txL l) : FitL l N := by
  intro M hM hm
  have h1 := namesB_txL l
  have h2 := big_names (txL l)
  have h5 := filter_two (fun x : ByteArray => decide (2 ≤ x.size)) M
  have h6 : (M.filter fun x => decide (2 ≤ x.size)).length ≤ (O ++ ⟨#[105, 116, 101, 109]⟩ :: big (txL l)).length := len_le_of_mem _ _ (hM.filter _) fun x hx => by
    obtain ⟨h7, h8⟩ := List.mem_filter.1 hx
    simp only [List.mem_append, List.mem_cons, big, List.mem_filter]
    rcases hm x h7 with h | h | h
    · rcases hN x h with h | h
      · exact .inl h
      · exact .inr (.inr ⟨h, h8⟩)
    · exact .inr (.inr ⟨h, h8⟩)
    · exact .inr (.inl h)
  have h9 : (M.filter fun x => !decide (2 ≤ x.size)).length ≤ smalls.length := len_le_of_mem _ _ (hM.filter _) fun x hx => by
    have := (List.mem_filter.1 hx).2
    exact mem_smalls (by simpa using this)
  rw [smalls_len] at h9
  simp only [List.length_append, List.length_cons] at h6
  omega
theorem FitL.expr {l : Lg} {N : List ByteArray} (h : FitL l N) {e : Ex} (he : e ∈ partsL l) : Fit e N := fun M hM hm => h M hM fun x hx => by
  rcases hm x hx with h | h | h | h
  · exact .inl h
  · exact .inr (.inl (txL_expr he (.inl h)))
  · exact .inr (.inl (txL_expr he (.inr h)))
  · exact .inr (.inr h)
theorem FitL.part {l : Lg} {N : List ByteArray} (h : FitL l N) {i : Nat} {y : Lg} (hy : l.l[i]? = some y) {N' : List ByteArray} (hN : ∀ x ∈ N', x ∈ N ∨ x ∈ bindL l.k l.ns i) : FitL y N' := fun M hM hm => h M hM fun x hx => by
  rcases hm x hx with h | h | h
  · exact (hN x h).imp id fun h => .inl (txL_bind h)
  · exact .inr (.inl (txL_part hy h))
  · exact .inr (.inr h)
theorem FitL.len {l : Lg} {N : List ByteArray} (h : FitL l N) (hn : N.Nodup) : N.length ≤ 4096 := h N hn fun _ hx => .inl hx
theorem uniq_freeL_len (l : Lg) (hb : l.bulk ≤ 5000) : (uniqS (freeL l [])).length ≤ 2000 := by
  have h1 := namesB_txL l
  have h2 := big_names (txL l)
  have hM := (srt_uniqS (freeL l [])).nodup
  have h5 := filter_two (fun x : ByteArray => decide (2 ≤ x.size)) (uniqS (freeL l []))
  have h6 : ((uniqS (freeL l [])).filter fun x => decide (2 ≤ x.size)).length ≤ (big (txL l)).length := len_le_of_mem _ _ (hM.filter _) fun x hx => by
    obtain ⟨h7, h8⟩ := List.mem_filter.1 hx
    exact List.mem_filter.2 ⟨freeL_tx l x ((mem_uniqS _ _).1 h7), h8⟩
  have h9 : ((uniqS (freeL l [])).filter fun x => !decide (2 ≤ x.size)).length ≤ smalls.length := len_le_of_mem _ _ (hM.filter _) fun x hx => by
    have := (List.mem_filter.1 hx).2
    exact mem_smalls (by simpa using this)
  rw [smalls_len] at h9
  omega

/-! In scope just if each name that it needs is. -/
theorem parts_sc (N : List ByteArray) (f : Ex → Nat) : ∀ L : List Ex, (∀ e ∈ L, Sc (f e) (∀ x ∈ freeE e [], x ∈ N)) → Sc (nz (L.map f)) (∀ e ∈ L, ∀ x ∈ freeE e [], x ∈ N)
  | [], _ => .inl ⟨fun e he => (by cases he), rfl⟩
  | e :: r, h => by
    rw [List.map_cons]
    unfold nz
    rcases h e (List.mem_cons_self ..) with ⟨h1, h0⟩ | ⟨h1, h0⟩
    · rw [if_pos h0]
      refine (parts_sc N f r fun y hy => h y (List.mem_cons_of_mem _ hy)).congr ⟨fun hh y hy => ?_, fun hh y hy => hh y (List.mem_cons_of_mem _ hy)⟩
      rcases List.mem_cons.1 hy with rfl | hy
      · exact h1
      · exact hh y hy
    · rw [h0, if_neg (by decide)]
      exact .inr ⟨fun hh => h1 (hh e (List.mem_cons_self ..)), rfl⟩
/-- With a context's names. -/
theorem with_ok {N g : List ByteArray} (hr : ∀ x ∈ g, rightS x = true) (hl : (addS N g).length ≤ 4096) : withS N g = (some (addS N g), 0) := by
  unfold withS
  rw [if_neg (by simp; exact hr), if_neg (by omega)]
theorem innerL_fit {l : Lg} (hok : OkL l) {N : List ByteArray} (hs : Srt N) (hf : FitL l N) {i : Nat} {y : Lg} (hy : l.l[i]? = some y) :
    ∃ M, innerL l.k l.ns N i = (some M, 0) ∧ Srt M ∧ (∀ x, x ∈ M ↔ x ∈ N ∨ x ∈ bindL l.k l.ns i) := by
  have hr := hok.bind (List.getElem?_eq_some_iff.1 hy).1
  unfold innerL
  by_cases hk : l.k = 2 ∧ 0 < i
  · rw [if_pos hk]
    unfold bindL at hr ⊢
    rw [if_pos hk.1] at hr
    have hl : (addS N (l.ns.take i)).length ≤ 4096 := (hf.part hy (N' := addS N (l.ns.take i)) fun x hx => by unfold bindL; rw [if_pos hk.1]; exact (mem_addS _ _ _).1 hx).len (srt_addS _ hs).nodup
    rw [with_ok hr hl]
    exact ⟨_, rfl, srt_addS _ hs, fun x => by rw [if_pos hk.1]; exact mem_addS _ _ _⟩
  · rw [if_neg hk]
    refine ⟨N, rfl, hs, fun x => ?_⟩
    unfold bindL
    split
    · rename_i h2
      have : i = 0 := by
        by_cases h0 : 0 < i
        · exact absurd ⟨h2, h0⟩ hk
        · omega
      subst this
      simp
    · simp
theorem scopedsL_of {k : Int} {ns : List ByteArray} {N : List ByteArray} : ∀ (l : List Lg) (i : Nat),
    (∀ (j : Nat) (y : Lg), l[j]? = some y → ∃ M, innerL k ns N (i + j) = (some M, 0) ∧ Sc (scopedL y M) (∀ x ∈ freeL y [], x ∈ N ∨ x ∈ bindL k ns (i + j))) →
    Sc (scopedsL k ns i l N) (∀ (j : Nat) (y : Lg), l[j]? = some y → ∀ x ∈ freeL y [], x ∈ N ∨ x ∈ bindL k ns (i + j))
  | [], i, _ => by unfold scopedsL; exact .inl ⟨fun j y h => (by cases h), rfl⟩
  | z :: r, i, h => by
    unfold scopedsL
    obtain ⟨M, h1, h2⟩ := h 0 z rfl
    rw [Nat.add_zero] at h1 h2
    rw [h1]
    show Sc (if scopedL z M = 0 then _ else _) _
    have ih := scopedsL_of r (i + 1) fun j y hy => by
      have := h (j + 1) y hy
      rwa [show i + (j + 1) = i + 1 + j from by omega] at this
    rcases h2 with ⟨hz, h0⟩ | ⟨hz, h0⟩
    · rw [h0, if_pos rfl]
      refine ih.congr ⟨fun hh j y hy => ?_, fun hh j y hy => ?_⟩
      · cases j with
        | zero => cases hy; exact hz
        | succ j => have := hh j y hy; rwa [show i + 1 + j = i + (j + 1) from by omega] at this
      · have := hh (j + 1) y hy
        rwa [show i + (j + 1) = i + 1 + j from by omega] at this
    · rw [h0, if_neg (by decide)]
      exact .inr ⟨fun hh => hz (hh 0 z rfl), rfl⟩
theorem free_split {l : Lg} {N : List ByteArray} : (∀ x ∈ freeL l [], x ∈ N) ↔ (∀ e ∈ partsL l, ∀ x ∈ freeE e [], x ∈ N) ∧ ∀ (j : Nat) (y : Lg), l.l[j]? = some y → ∀ x ∈ freeL y [], x ∈ N ∨ x ∈ bindL l.k l.ns j := by
  constructor
  · intro h
    refine ⟨fun e he x hx => h x ((mem_freeL0 x l).2 (.inl ⟨e, he, hx⟩)), fun j y hy x hx => ?_⟩
    by_cases hg : x ∈ bindL l.k l.ns j
    · exact .inr hg
    · exact .inl (h x ((mem_freeL0 x l).2 (.inr ⟨j, y, hy, hx, hg⟩)))
  · rintro ⟨h1, h2⟩ x hx
    rcases (mem_freeL0 x l).1 hx with ⟨e, he, hxe⟩ | ⟨j, y, hy, h3, h4⟩
    · exact h1 e he x hxe
    · exact (h2 j y hy x h3).resolve_right h4
theorem Sc.and {r s : Nat} {p q : Prop} (h : Sc r p) (k : Sc s q) : Sc (if r = 0 then s else r) (p ∧ q) := by
  rcases h with ⟨h1, h2⟩ | ⟨h1, h2⟩
  · rw [if_pos h2]; exact k.congr ⟨fun hq => ⟨h1, hq⟩, fun hq => hq.2⟩
  · rw [h2, if_neg (by decide)]; exact .inr ⟨fun hh => h1 hh.1, rfl⟩
theorem scopedL_free : ∀ (l : Lg), OkL l → ∀ N, Srt N → FitL l N → Sc (scopedL l N) (∀ x ∈ freeL l [], x ∈ N) := by
  refine lg_ind fun l ih => ?_
  intro hok N hs hf
  rw [scopedL_eq]
  refine (Sc.and (parts_sc N (fun x => scopedE x N) (partsL l) fun e he => scoped_free e (((OkL_eq l).1 hok).1 e he) N hs (hf.expr he)) (scopedsL_of (k := l.k) (ns := l.ns) (N := N) l.l 0 fun j y hy => ?_)).congr ?_
  · rw [Nat.zero_add]
    obtain ⟨M, h1, h2, h4⟩ := innerL_fit hok hs hf hy
    exact ⟨M, h1, (ih j y hy (hok.part hy) M h2 (hf.part hy fun x hx => (h4 x).1 hx)).congr ⟨fun h x hx => (h4 x).1 (h x hx), fun h x hx => (h4 x).2 (h x hx)⟩⟩
  · simp only [Nat.zero_add]
    exact free_split.symm
/-- By the document. -/
def rinL (k : Int) (ns : List ByteArray) (N : List ByteArray) (i : Nat) : List ByteArray := if k = 2 then addS N (ns.take i) else N
mutual
def rscL : Lg → List ByteArray → Nat
  | .mk k e p ins outs rs ns l, N => if nz ((partsL (.mk k e p ins outs rs ns l)).map fun x => rscE x N) = 0 then rscsL k ns 0 l N else nz ((partsL (.mk k e p ins outs rs ns l)).map fun x => rscE x N)
def rscsL (k : Int) (ns : List ByteArray) : Nat → List Lg → List ByteArray → Nat
  | _, [], _ => 0
  | i, x :: r, N => if rscL x (rinL k ns N i) = 0 then rscsL k ns (i + 1) r N else rscL x (rinL k ns N i)
end
theorem rscL_eq (l : Lg) (N : List ByteArray) : rscL l N = if nz ((partsL l).map fun x => rscE x N) = 0 then rscsL l.k l.ns 0 l.l N else nz ((partsL l).map fun x => rscE x N) := by
  obtain ⟨k, e, p, ins, outs, rs, ns, l⟩ := l; unfold rscL; rfl
theorem rscsL_drop (k : Int) (ns : List ByteArray) (l : List Lg) (N : List ByteArray) (i : Nat) (x : Lg) (h : l[i]? = some x) : rscsL k ns i (l.drop i) N = if rscL x (rinL k ns N i) = 0 then rscsL k ns (i + 1) (l.drop (i + 1)) N else rscL x (rinL k ns N i) := by
  obtain ⟨hi, hx⟩ := List.getElem?_eq_some_iff.1 h
  rw [List.drop_eq_getElem_cons hi, hx]
  conv => lhs; unfold rscsL
theorem rscsL_end (k : Int) (ns : List ByteArray) (l : List Lg) (N : List ByteArray) (i : Nat) (h : l.length ≤ i) : rscsL k ns i (l.drop i) N = 0 := by
  rw [List.drop_of_length_le h]; unfold rscsL; rfl
theorem rinL_fit {l : Lg} (hok : OkL l) {N : List ByteArray} (hs : Srt N) (hf : FitL l N) {i : Nat} {y : Lg} (hy : l.l[i]? = some y) :
    Srt (rinL l.k l.ns N i) ∧ FitL y (rinL l.k l.ns N i) ∧ (∀ x, x ∈ rinL l.k l.ns N i ↔ x ∈ N ∨ x ∈ bindL l.k l.ns i) ∧ (l.k = 2 → withS N (l.ns.take i) = (some (rinL l.k l.ns N i), 0)) := by
  have hr := hok.bind (List.getElem?_eq_some_iff.1 hy).1
  have hm : ∀ x, x ∈ rinL l.k l.ns N i ↔ x ∈ N ∨ x ∈ bindL l.k l.ns i := fun x => by
    unfold rinL bindL
    split
    · exact mem_addS _ _ _
    · simp
  have hsr : Srt (rinL l.k l.ns N i) := by
    unfold rinL
    split
    · exact srt_addS _ hs
    · exact hs
  have hfy := hf.part hy fun x hx => (hm x).1 hx
  refine ⟨hsr, hfy, hm, fun hk => ?_⟩
  have hl := hfy.len hsr.nodup
  unfold rinL at hl ⊢
  unfold bindL at hr
  rw [if_pos hk] at hl hr ⊢
  exact with_ok hr hl
theorem rscsL_of {k : Int} {ns : List ByteArray} {N : List ByteArray} : ∀ (l : List Lg) (i : Nat),
    (∀ (j : Nat) (y : Lg), l[j]? = some y → Sc (rscL y (rinL k ns N (i + j))) (∀ x ∈ freeL y [], x ∈ N ∨ x ∈ bindL k ns (i + j))) →
    Sc (rscsL k ns i l N) (∀ (j : Nat) (y : Lg), l[j]? = some y → ∀ x ∈ freeL y [], x ∈ N ∨ x ∈ bindL k ns (i + j))
  | [], i, _ => by unfold rscsL; exact .inl ⟨fun j y h => (by cases h), rfl⟩
  | z :: r, i, h => by
    unfold rscsL
    have h2 := h 0 z rfl
    rw [Nat.add_zero] at h2
    have ih := rscsL_of r (i + 1) fun j y hy => by
      have := h (j + 1) y hy
      rwa [show i + (j + 1) = i + 1 + j from by omega] at this
    rcases h2 with ⟨hz, h0⟩ | ⟨hz, h0⟩
    · rw [h0, if_pos rfl]
      refine ih.congr ⟨fun hh j y hy => ?_, fun hh j y hy => ?_⟩
      · cases j with
        | zero => cases hy; exact hz
        | succ j => have := hh j y hy; rwa [show i + 1 + j = i + (j + 1) from by omega] at this
      · have := hh (j + 1) y hy
        rwa [show i + (j + 1) = i + 1 + j from by omega] at this
    · rw [h0, if_neg (by decide)]
      exact .inr ⟨fun hh => hz (hh 0 z rfl), rfl⟩
theorem rscL_free : ∀ (l : Lg), OkL l → ∀ N, Srt N → FitL l N → Sc (rscL l N) (∀ x ∈ freeL l [], x ∈ N) := by
  refine lg_ind fun l ih => ?_
  intro hok N hs hf
  rw [rscL_eq]
  refine (Sc.and (parts_sc N (fun x => rscE x N) (partsL l) fun e he => rsc_free e (((OkL_eq l).1 hok).1 e he) N hs.nodup (hf.expr he)) (rscsL_of (k := l.k) (ns := l.ns) (N := N) l.l 0 fun j y hy => ?_)).congr ?_
  · rw [Nat.zero_add]
    obtain ⟨h1, h2, h3, _⟩ := rinL_fit hok hs hf hy
    exact (ih j y hy (hok.part hy) _ h1 h2).congr ⟨fun h x hx => (h3 x).1 (h x hx), fun h x hx => (h3 x).2 (h x hx)⟩
  · simp only [Nat.zero_add]
    exact free_split.symm
/-- In scope by the program just as by the document. -/
theorem scopesL_same {l : Lg} (hok : OkL l) {N : List ByteArray} (hs : Srt N) (hf : FitL l N) : rscL l N = scopedL l N := (rscL_free l hok N hs hf).uniq (scopedL_free l hok N hs hf)
theorem freeL_congr (l : Lg) {B B' : List ByteArray} (h : ∀ x, x ∈ B ↔ x ∈ B') (x : ByteArray) : x ∈ freeL l B ↔ x ∈ freeL l B' := by
  rw [freeL_bound, freeL_bound x l B', h]
end Go.Proofs.YtchbhcjhoocjaaaGreatDoor
