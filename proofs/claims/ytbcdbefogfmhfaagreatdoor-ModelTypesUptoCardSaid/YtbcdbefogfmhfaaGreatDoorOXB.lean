/-
  order: what lay holds in memory.
  order: the walk of lay.
  order: Stuck, Sort.
-/
import Derived.Test.YtbcdbefogfmhfaaGreatDoorOXA
import Derived.Test.YtbcdbefogfmhfaaGreatDoorEXA
import Derived.Laws.MakeOwn
namespace Go.Proofs.YtbcdbefogfmhfaaGreatDoor
open Go.RowKit

def ints (l : List Nat) : List Value := l.map fun (x : Nat) => Value.int .i64 (x : Int)
theorem ints_len (l : List Nat) : (ints l).length = l.length := by unfold ints; rw [List.length_map]
theorem ints_get {l : List Nat} {i x : Nat} (h : l[i]? = some x) : (ints l)[i]? = some (.int .i64 x) := by
  unfold ints
  rw [List.getElem?_map, h]
  rfl
theorem ints_set (l : List Nat) (i x : Nat) : (ints l).set i (.int .i64 x) = ints (l.set i x) := by
  unfold ints
  rw [List.map_set]
theorem ints_snoc (l : List Nat) (x : Nat) : ints (l ++ [x]) = ints l ++ [.int .i64 x] := by
  unfold ints
  rw [List.map_append]
  rfl
abbrev OwnI (B : Nat) (l : List Nat) (W : World) (v : Value) : Prop := W.ownsRow B 3 1 v l.length (ints l)
theorem ownI_form {B : Nat} {l : List Nat} {W : World} {v : Value} (h : OwnI B l W v) : ∃ a c, v = .slice a l.length c ∧ l.length ≤ c ∧ IntsAt W a l := by
  obtain ⟨hl, ⟨hv, h0⟩ | ⟨g, cap, cur, hv, hg, hh, hn, _, hsz, ht⟩⟩ := h
  · have : l = [] := List.eq_nil_of_length_eq_zero h0
    subst this
    exact ⟨none, 0, hv, Nat.le_refl _, fun j x hx => by cases hx⟩
  · refine ⟨some ⟨g, 0, none⟩, cap, hv, hn, fun j x hx => ⟨g, 0, rfl, ?_⟩⟩
    have h1 := ints_get hx
    have hj := (List.getElem?_eq_some_iff.1 hx).1
    rw [← ht, List.getElem?_take_of_lt (by omega)] at h1
    rw [Nat.zero_add]
    simpa [World.cell?, hh] using h1
def keepI (t : TypeId) : Bool := !(t == 3 || t == 84)
theorem keepI_types : keepI 3 = false ∧ keepI 84 = false ∧ keepI 160 = true ∧ keepI 157 = true := by decide
theorem QAt.keepT {B qb : Nat} {T : List Th} {W W' : World} {p : TypeId → Bool} (h : QAt B qb T W) (k : KeepT p W W') (h1 : p 160 = true) (h2 : p 157 = true) : QAt B qb T W' := by
  obtain ⟨v, hb, ho⟩ := h
  exact ⟨v, hb.keepT k h2, k.own ho h1⟩
theorem blkI_ne {W : World} {a b : Nat} {cs cs' : List Value} (h : Blk W a 3 cs) (k : Blk W b 84 cs') : a ≠ b := fun e => by
  subst e
  unfold Blk at h k
  rw [h] at k
  injection k with k
  injection k with _ k _
  exact absurd k (by decide)
/-- What lay holds: how many each thing lacks, who uses each. -/
structure LayW (u : World) (B lb ub : Nat) (lacks : List Nat) (U : List (List Nat)) (vs : List Value) (W : World) : Prop where
  bl : Blk W lb 3 (ints lacks)
  bu : Blk W ub 84 vs
  row : ∀ (k : Nat) v l, vs[k]? = some v → U[k]? = some l → OwnI B l W v
  far : ∀ (k k' : Nat) v v' g, vs[k]? = some v → vs[k']? = some v' → v.ownBlock = some g → v'.ownBlock = some g → k = k'
  len : vs.length = U.length
  below : Bel u W
theorem LayW.bel {u W W' : World} {B lb ub : Nat} {lacks : List Nat} {U : List (List Nat)} {vs : List Value} (h : LayW u B lb ub lacks U vs W) (hb : Bel W W') : LayW u B lb ub lacks U vs W' where
  bl := h.bl.bel hb
  bu := h.bu.bel hb
  row := fun k v l h1 h2 => own_bel (h.row k v l h1 h2) hb
  far := h.far
  len := h.len
  below := h.below.trans hb
theorem LayW.keepT {u W W' : World} {B lb ub : Nat} {lacks : List Nat} {U : List (List Nat)} {vs : List Value} {p : TypeId → Bool} (h : LayW u B lb ub lacks U vs W) (k : KeepT p W W') (h1 : p 3 = true) (h2 : p 84 = true) (hu : u.heap.size ≤ B) (hb : Below B W W') : LayW u B lb ub lacks U vs W' where
  bl := h.bl.keepT k h1
  bu := h.bu.keepT k h2
  row := fun j v l g1 g2 => k.own (h.row j v l g1 g2) h1
  far := h.far
  len := h.len
  below := Below.trans h.below (hb.mono hu)
/-- How many a thing lacks, stored. -/
theorem LayW.lack {u W : World} {B lb ub : Nat} {lacks : List Nat} {U : List (List Nat)} {vs : List Value} (h : LayW u B lb ub lacks U vs W) (hlb : lb < B) (hne : ub ≠ lb) (hul : u.heap.size ≤ lb) (i x : Nat) :
    LayW u B lb ub (lacks.set i x) U vs (W.setCell ⟨lb, i, none⟩ (.int .i64 x)) ∧ KeepT keepI W (W.setCell ⟨lb, i, none⟩ (.int .i64 x)) :=
  ⟨{ bl := by rw [← ints_set]; exact h.bl.set i _
     bu := h.bu.far (p := ⟨lb, i, none⟩) hne _
     row := fun k v l h1 h2 => own_set (h.row k v l h1 h2) (p := ⟨lb, i, none⟩) (own_ge (h.row k v l h1 h2) hlb) _
     far := h.far
     len := h.len
     below := bel_setNew h.below hul _ _ }, KeepT.set h.bl keepI_types.1 i _⟩
/-- One more user noted. -/
theorem LayW.app {u W W' : World} {B lb ub : Nat} {lacks : List Nat} {U : List (List Nat)} {vs : List Value} (h : LayW u B lb ub lacks U vs W) (hlb : lb < B) (hub : ub < B) (hul : u.heap.size ≤ ub) (huB : u.heap.size ≤ B) (hBW : B ≤ W.heap.size) {k x g cap : Nat} {v : Value} {l : List Nat} (hv : vs[k]? = some v) (hl : U[k]? = some l)
    (hown : W'.ownsRow B 3 1 (.slice (some ⟨g, 0, none⟩) (l.length + 1) cap) (l.length + 1) (ints l ++ [.int .i64 x])) (hg : W.grownBy W' v.ownBlock) (hat : v.ownBlock = some g ∨ W.heap.size ≤ g) :
    LayW u B lb ub lacks (U.set k (l ++ [x])) (vs.set k (.slice (some ⟨g, 0, none⟩) (l.length + 1) cap)) (W'.setCell ⟨ub, k, none⟩ (.slice (some ⟨g, 0, none⟩) (l.length + 1) cap)) ∧ KeepT keepI W (W'.setCell ⟨ub, k, none⟩ (.slice (some ⟨g, 0, none⟩) (l.length + 1) cap)) := by
  have ho := h.row k v l hv hl
  have hkv : k < vs.length := (List.getElem?_eq_some_iff.1 hv).1
  have hkU : k < U.length := (List.getElem?_eq_some_iff.1 hl).1
  have hbl : Blk W' lb 3 (ints lacks) := (hg.block _ h.bl.lt (own_ge ho hlb)).trans h.bl
  have hbu : Blk W' ub 84 vs := (hg.block _ h.bu.lt (own_ge ho hub)).trans h.bu
  have hbel : Below B W W' := ownH_below hBW ho hg
  have hg2 : B ≤ g := by
    rcases hat with h1 | h1
    · exact (ho.lt g h1).1
    · omega
  refine ⟨{ bl := hbl.far (p := ⟨ub, k, none⟩) (by have := blkI_ne h.bl h.bu; exact this) _, bu := hbu.set k _, row := ?_, far := ?_, len := by rw [List.length_set, List.length_set]; exact h.len, below := bel_setNew (show Bel u W' from Below.trans h.below (hbel.mono huB)) hul _ _ }, ?_⟩
  · intro j v' l' h1 h2
    by_cases hjk : j = k
    · subst hjk
      rw [List.getElem?_set_self hkv] at h1
      rw [List.getElem?_set_self hkU] at h2
      injection h1 with h1
      injection h2 with h2
      subst h1 h2
      have h3 : (W'.setCell ⟨ub, j, none⟩ (.slice (some ⟨g, 0, none⟩) (l.length + 1) cap)).ownsRow B 3 1 (.slice (some ⟨g, 0, none⟩) (l.length + 1) cap) (l.length + 1) (ints l ++ [.int .i64 x]) := own_set hown (p := ⟨ub, j, none⟩) (own_ge hown hub) _
      unfold OwnI
      rw [List.length_append, ints_snoc]
      exact h3
    · rw [List.getElem?_set_ne (fun e => hjk e.symm)] at h1 h2
      have hr := h.row j v' l' h1 h2
      have hr2 : OwnI B l' W' v' := by
        obtain ⟨hl', h3 | ⟨g', cap', cur', e0, hg', hh', h4⟩⟩ := hr
        · exact ⟨hl', .inl h3⟩
        · refine ⟨hl', .inr ⟨g', cap', cur', e0, hg', ?_, h4⟩⟩
          refine (hg.block g' (Array.getElem?_eq_some_iff.1 hh').1 fun e => ?_).trans hh'
          have h5 : v'.ownBlock = some g' := by rw [e0]; rfl
          exact hjk (h.far j k v' v g' h1 hv h5 e.symm)
      exact own_set hr2 (p := ⟨ub, k, none⟩) (own_ge hr2 hub) _
  · intro j j' v1 v2 g1 h1 h2 e1 e2
    by_cases hj : j = k
    · by_cases hj' : j' = k
      · rw [hj, hj']
      · exfalso
        subst hj
        rw [List.getElem?_set_self hkv] at h1
        rw [List.getElem?_set_ne (fun e => hj' e.symm)] at h2
        injection h1 with h1
        rw [← h1] at e1
        simp only [Value.ownBlock, Option.some.injEq] at e1
        subst e1
        have hkU' : j' < U.length := by rw [← h.len]; exact (List.getElem?_eq_some_iff.1 h2).1
        have hr := h.row j' v2 _ h2 (List.getElem?_eq_getElem hkU')
        rcases hat with h3 | h3
        · exact hj' (h.far j' j v2 v g h2 hv e2 h3)
        · have := (hr.lt g e2).2
          omega
    · by_cases hj' : j' = k
      · exfalso
        subst hj'
        rw [List.getElem?_set_self hkv] at h2
        rw [List.getElem?_set_ne (fun e => hj e.symm)] at h1
        injection h2 with h2
        rw [← h2] at e2
        simp only [Value.ownBlock, Option.some.injEq] at e2
        subst e2
        have hkU' : j < U.length := by rw [← h.len]; exact (List.getElem?_eq_some_iff.1 h1).1
        have hr := h.row j v1 _ h1 (List.getElem?_eq_getElem hkU')
        rcases hat with h3 | h3
        · exact hj (h.far j j' v1 v g h1 hv e1 h3)
        · have := (hr.lt g e1).2
          omega
      · rw [List.getElem?_set_ne (fun e => hj e.symm)] at h1
        rw [List.getElem?_set_ne (fun e => hj' e.symm)] at h2
        exact h.far j j' v1 v2 g1 h1 h2 e1 e2
  · exact (KeepT.grow ho keepI_types.1 hg).trans (KeepT.set hbu keepI_types.2.1 k _)
end Go.Proofs.YtbcdbefogfmhfaaGreatDoor

namespace Go.Proofs.YtbcdbefogfmhfaaGreatDoor
open Go.RowKit

theorem made_one (z : Value) (n : Nat) : madeCells #[z] (n * 1) = (List.replicate n z).toArray := by
  apply Array.ext
  · simp [madeCells]
  · intro i h1 h2
    simp [madeCells]
    rw [Nat.mod_one]
    rfl
theorem make_ints (n : Nat) (hn : n ≤ 1048576) (W : World) : (Instr.makeSlice 84 (.int .i64 n) (.int .i64 n)).run Tryz.prog W = .ok (.slice (some ⟨W.heap.size, 0, none⟩) n n) (W.alloc (.cells (ints (List.replicate n 0)).toArray 3)) := by
  have hinfo : (Tryz.prog.info? 3).map (fun i => (i.zero, i.size, i.bytes)) = some (some (.int .i64 0), 1, 8) := by kernel_rfl
  obtain ⟨i, hi, hz, hi1, hi2⟩ := info_parts hinfo
  have h := run_make (P := Tryz.prog) W 84 3 i (.int .i64 0) Tryz.underlying84 hi hz .i64 .i64 n n (by omega) (by omega) (by rw [hi2]; omega) (by omega)
  rw [h, hi1]
  simp only [Int.toNat_natCast]
  rw [show (Value.int .i64 0).cells = #[Value.int .i64 0] from rfl, made_one]
  unfold ints
  rw [List.map_replicate]
  rfl
theorem make_rows (n : Nat) (hn : n ≤ 1048576) (W : World) : (Instr.makeSlice 87 (.int .i64 n) (.int .i64 n)).run Tryz.prog W = .ok (.slice (some ⟨W.heap.size, 0, none⟩) n n) (W.alloc (.cells (List.replicate n (Value.slice none 0 0)).toArray 84)) := by
  have hinfo : (Tryz.prog.info? 84).map (fun i => (i.zero, i.size, i.bytes)) = some (some (.slice none 0 0), 1, 24) := by kernel_rfl
  obtain ⟨i, hi, hz, hi1, hi2⟩ := info_parts hinfo
  have h := run_make (P := Tryz.prog) W 87 84 i (.slice none 0 0) Tryz.underlying87 hi hz .i64 .i64 n n (by omega) (by omega) (by rw [hi2]; omega) (by omega)
  rw [h, hi1]
  simp only [Int.toNat_natCast]
  rw [show (Value.slice none 0 0).cells = #[Value.slice none 0 0] from rfl, made_one]
/-! What the first loop lays. -/
def lacks0 (N : List (List Nat)) (n j : Nat) : List Nat := (List.range n).map fun i => if i < j then (needAt N i).length else 0
def usersM (N : List (List Nat)) (n j : Nat) (p : List Nat) : List (List Nat) := (List.range n).map fun k => usersL N k j ++ List.replicate (p.count k) j
def queue0 (N : List (List Nat)) (j : Nat) : List Nat := (List.range j).filter fun i => (needAt N i).isEmpty
theorem range_set {α : Type} (n k : Nat) (f : Nat → α) (x : α) : ((List.range n).map f).set k x = (List.range n).map fun i => if i = k then x else f i := by
  apply List.ext_getElem?
  intro i
  rw [List.getElem?_set, List.getElem?_map, List.length_map, List.length_range]
  by_cases h : k = i
  · subst h
    by_cases hk : k < n
    · rw [if_pos rfl, if_pos hk, List.getElem?_map, List.getElem?_range hk]; simp
    · rw [if_pos rfl, if_neg hk, List.getElem?_map, List.getElem?_eq_none (by rw [List.length_range]; omega)]; rfl
  · rw [if_neg h, List.getElem?_map]
    by_cases hi : i < n
    · rw [List.getElem?_range hi]
      simp only [Option.map_some]
      rw [if_neg (fun e => h e.symm)]
    · rw [List.getElem?_eq_none (by rw [List.length_range]; omega)]
      rfl
theorem range_get {α : Type} (n : Nat) (f : Nat → α) {i : Nat} (hi : i < n) : ((List.range n).map f)[i]? = some (f i) := by
  rw [List.getElem?_map, List.getElem?_range hi]
  rfl
theorem lacks_zero (N : List (List Nat)) (n : Nat) : lacks0 N n 0 = List.replicate n 0 := by
  unfold lacks0
  apply List.ext_getElem?
  intro i
  by_cases hi : i < n
  · rw [range_get _ _ hi, List.getElem?_replicate, if_pos hi]; simp
  · rw [List.getElem?_eq_none (by simp; omega), List.getElem?_eq_none (by simp; omega)]
theorem lacks_step (N : List (List Nat)) (n j : Nat) : (lacks0 N n j).set j (needAt N j).length = lacks0 N n (j + 1) := by
  unfold lacks0
  rw [range_set]
  refine List.map_congr_left fun i _ => ?_
  by_cases h : i = j
  · subst h; rw [if_pos rfl, if_pos (by omega)]
  · rw [if_neg h]
    by_cases h2 : i < j
    · rw [if_pos h2, if_pos (by omega)]
    · rw [if_neg h2, if_neg (by omega)]
theorem lacks_end {N : List (List Nat)} {n : Nat} (hN : N.length = n) : lacks0 N n n = N.map List.length := by
  subst hN
  unfold lacks0
  apply List.ext_getElem?
  intro i
  by_cases hi : i < N.length
  · rw [range_get _ _ hi, if_pos hi, List.getElem?_map, List.getElem?_eq_getElem hi]
    unfold needAt
    rw [List.getElem?_eq_getElem hi]
    rfl
  · rw [List.getElem?_eq_none (by simp; omega), List.getElem?_eq_none (by simp; omega)]
theorem users_zero (N : List (List Nat)) (n : Nat) : usersM N n 0 [] = List.replicate n [] := by
  unfold usersM
  apply List.ext_getElem?
  intro i
  by_cases hi : i < n
  · rw [range_get _ _ hi, List.getElem?_replicate, if_pos hi]; simp [usersL]
  · rw [List.getElem?_eq_none (by simp; omega), List.getElem?_eq_none (by simp; omega)]
theorem users_step (N : List (List Nat)) (n j k : Nat) (p : List Nat) : (usersM N n j p).set k ((usersL N k j ++ List.replicate (p.count k) j) ++ [j]) = usersM N n j (p ++ [k]) := by
  unfold usersM
  rw [range_set]
  refine List.map_congr_left fun i _ => ?_
  rw [List.count_append, List.count_singleton]
  by_cases h : i = k
  · subst h
    rw [if_pos rfl, if_pos (by simp), List.append_assoc, List.replicate_succ']
  · rw [if_neg h, if_neg (by simpa using fun e => h e.symm)]
    simp
theorem users_next (N : List (List Nat)) (n j : Nat) : usersM N n j (needAt N j) = usersM N n (j + 1) [] := by
  unfold usersM
  refine List.map_congr_left fun i _ => ?_
  rw [usersL_succ]
  simp
theorem queue_step (N : List (List Nat)) (j : Nat) : queue0 N (j + 1) = queue0 N j ++ if (needAt N j).isEmpty = true then [j] else [] := by
  unfold queue0
  rw [List.range_succ, List.filter_append]
  congr 1
  rw [List.filter_cons]
  rfl
def RetLay (N : List (List Nat)) (w : World) (e : Ending) (w' : World) : Prop := ∃ (out : List Nat) (a : Option Addr) (c : Nat), e = .returned (.slice a out.length c) ∧ LayOK N out ∧ IntsAt w' a out ∧ out.length ≤ c ∧ Bel w w'
/-- The queue holds these numbers. -/
def QN (B qb : Nat) (Q : List Nat) (W : World) : Prop := ∃ T : List Th, QAt B qb T W ∧ (T.map Prod.snd).Perm Q
theorem QN.keepT {B qb : Nat} {Q : List Nat} {W W' : World} {p : TypeId → Bool} (h : QN B qb Q W) (k : KeepT p W W') (h1 : p 160 = true) (h2 : p 157 = true) : QN B qb Q W' := by
  obtain ⟨T, g1, g2⟩ := h
  exact ⟨T, g1.keepT k h1 h2, g2⟩
theorem qn_len {Q : List Nat} {T : List Th} (h2 : (T.map Prod.snd).Perm Q) : T.length = Q.length := by
  have := h2.length_eq
  rwa [List.length_map] at this
theorem usersL_len (N : List (List Nat)) (k M : Nat) (hM : ∀ l ∈ N, l.length ≤ M) : ∀ j, (usersL N k j).length ≤ j * M
  | 0 => by simp [usersL]
  | j + 1 => by
    have ih := usersL_len N k M hM j
    have h1 : (needAt N j).count k ≤ M := by
      refine Nat.le_trans List.count_le_length ?_
      unfold needAt
      cases h : N[j]? with
      | none => exact Nat.zero_le _
      | some l => exact hM l (List.mem_of_getElem? h)
    rw [usersL_succ, List.length_append, List.length_replicate, Nat.add_mul, Nat.one_mul]
    omega
theorem queue_len (N : List (List Nat)) (j : Nat) : (queue0 N j).length ≤ j := by
  unfold queue0
  have := List.length_filter_le (fun i => (needAt N i).isEmpty) (List.range j)
  rwa [List.length_range] at this
theorem nodup_len : ∀ (n : Nat) (l : List Nat), l.Nodup → (∀ i ∈ l, i < n) → l.length ≤ n
  | 0, l, _, h => by
    cases l with
    | nil => exact Nat.le_refl _
    | cons x r => exact absurd (h x (List.mem_cons_self ..)) (by omega)
  | n + 1, l, hn, h => by
    have h1 := nodup_len n (l.erase n) (hn.erase n) fun i hi => by
      have h2 := h i (List.mem_of_mem_erase hi)
      have h3 : i ≠ n := fun e => by
        subst e
        exact (List.Nodup.not_mem_erase hn) hi
      omega
    have h2 := List.length_erase_le (a := n) (l := l)
    by_cases hm : n ∈ l
    · have := List.length_erase_of_mem hm
      omega
    · rw [List.erase_of_not_mem hm] at h1
      omega
theorem count_take_lt {l : List Nat} {k x : Nat} (h : l[k]? = some x) : (l.take k).count x < l.count x := by
  obtain ⟨hk, hx⟩ := List.getElem?_eq_some_iff.1 h
  have h1 : l.count x = (l.take k).count x + (l.drop k).count x := by rw [← List.count_append, List.take_append_drop]
  rw [h1, List.drop_eq_getElem_cons hk, hx, List.count_cons_self]
  omega
/-- The row of what is laid grows. -/
theorem LayW.out {u W W' : World} {B B2 lb ub : Nat} {lacks : List Nat} {U : List (List Nat)} {vs : List Value} (h : LayW u B lb ub lacks U vs W) (h1 : lb < B2) (h2 : ub < B2) (h3 : ∀ (k : Nat) v g, vs[k]? = some v → v.ownBlock = some g → g < B2) (hu : u.heap.size ≤ B2) {e m n : Nat} {v : Value} {xs : List Value} (ho : W.ownsRow B2 e m v n xs) (hg : W.grownBy W' v.ownBlock) (hB : B2 ≤ W.heap.size) : LayW u B lb ub lacks U vs W' where
  bl := (hg.block _ h.bl.lt (own_ge ho h1)).trans h.bl
  bu := (hg.block _ h.bu.lt (own_ge ho h2)).trans h.bu
  row := fun k v' l g1 g2 => by
    have hr := h.row k v' l g1 g2
    obtain ⟨hl', h4 | ⟨g', cap', cur', e0, hg', hh', h5⟩⟩ := hr
    · exact ⟨hl', .inl h4⟩
    · refine ⟨hl', .inr ⟨g', cap', cur', e0, hg', ?_, h5⟩⟩
      have h6 := h3 k v' g' g1 (by rw [e0]; rfl)
      exact (hg.block g' (Array.getElem?_eq_some_iff.1 hh').1 (own_ge ho h6)).trans hh'
  far := h.far
  len := h.len
  below := Below.trans h.below ((ownH_below hB ho hg).mono hu)
def lenV : Value → Nat
  | .slice _ n _ => n
  | _ => 0
/-- What lies when the first loop begins. -/
theorem lay_start (w : World) (N : List (List Nat)) (n : Nat) : ∃ V, ((((w.alloc (.cells (ints (List.replicate n 0)).toArray 3)).alloc (.cells (Array.replicate n (Value.slice none 0 0)) 84)).alloc (.cells #[] 160)).alloc (.cells #[Value.slice (some ⟨w.heap.size + 1 + 1, 0, none⟩) 0 0] 157)) = V ∧
    LayW w (w.heap.size + 2) w.heap.size (w.heap.size + 1) (lacks0 N n 0) (usersM N n 0 []) (List.replicate n (Value.slice none 0 0)) V ∧ QN (w.heap.size + 2) (w.heap.size + 3) (queue0 N 0) V ∧ V.heap.size = w.heap.size + 4 := by
  obtain ⟨V1, h1, q1, l1, s1⟩ := alloc_stepO w 3 (ints (List.replicate n 0))
  obtain ⟨V2, h2, q2, l2, s2⟩ := alloc_stepO V1 84 (List.replicate n (Value.slice none 0 0))
  obtain ⟨V3, h3, q3, l3, s3⟩ := alloc_stepO V2 160 []
  obtain ⟨V4, h4, q4, l4, s4⟩ := alloc_stepO V3 157 [Value.slice (some ⟨w.heap.size + 1 + 1, 0, none⟩) 0 0]
  rw [s1] at q2
  rw [s2, s1] at q3
  rw [s3, s2, s1] at q4
  refine ⟨V4, ?_, ?_, ?_, by omega⟩
  · rw [← h4, ← h3, ← h2, ← h1]
    simp
  · rw [lacks_zero, users_zero]
    exact { bl := ((q1.bel l2).bel l3).bel l4, bu := (q2.bel l3).bel l4, row := fun k v l hv hl => by
              rw [List.getElem?_replicate] at hv hl
              by_cases hk : k < n
              · rw [if_pos hk] at hv hl
                injection hv with hv
                injection hl with hl
                subst hv hl
                exact World.ownsRow_nil _ _ _ _
              · rw [if_neg hk] at hv; cases hv
            far := fun k k' v v' g hv _ hg _ => by
              rw [List.getElem?_replicate] at hv
              by_cases hk : k < n
              · rw [if_pos hk] at hv
                injection hv with hv
                rw [← hv] at hg
                cases hg
              · rw [if_neg hk] at hv; cases hv
            len := by rw [List.length_replicate, List.length_replicate]
            below := ((l1.trans l2).trans l3).trans l4 }
  · refine ⟨[], ⟨_, q4, ?_⟩, by unfold queue0; exact List.Perm.refl _⟩
    exact ⟨by simp, .inr ⟨w.heap.size + 1 + 1, 0, #[], rfl, by omega, (l4.block q3.lt).trans q3, Nat.le_refl _, Nat.zero_le _, by simp, by simp⟩⟩
set_option maxRecDepth 100000 in
set_option maxHeartbeats 16000000 in
theorem lay_c (S : List ByteArray) (N : List (List Nat)) (na : Option Addr) (n nc : Nat) (a : Option Addr) (c : Nat) (w : World) (hS : S.length = n) (hN : N.length = n) (hn : n ≤ 1048576) (hl : ∀ l ∈ N, l.length ≤ 1048576 ∧ ∀ k ∈ l, k < n) (hnm : NamesAt w na S) (hat : NeedsAt w a N) :
    Calls Tryz.prog 64 #[.slice na n nc, .slice a n c] w (RetLay N w) := by
  have hm1 := make_ints n hn
  have hm2 := make_rows n hn
  obtain ⟨V, hV, hlw, hqn, hsz⟩ := lay_start w N n
  have HV := Lib.hid hV
  have HLW := Lib.hid hlw
  have HQN := Lib.hid hqn
  have HNM := Lib.hid hnm
  have HAT := Lib.hid hat
  have HN := Lib.hid hN
  have HS := Lib.hid hS
  have HL := Lib.hid hl
  have hinfo : (Tryz.prog.info? 3).map (fun i => (i.zero, i.size, i.bytes)) = some (some (.int .i64 0), 1, 8) := by kernel_rfl
  obtain ⟨ti, hti, hz, hi1, hi2⟩ := info_parts hinfo
  obtain ⟨H, hH⟩ : ∃ H, w.heap.size = H := ⟨_, rfl⟩
  obtain ⟨ub, hub⟩ : ∃ H', H + 1 = H' := ⟨_, rfl⟩
  obtain ⟨B, hB⟩ : ∃ H', ub + 1 = H' := ⟨_, rfl⟩
  obtain ⟨qb, hqb⟩ : ∃ H', B + 1 = H' := ⟨_, rfl⟩
  have hszB : Hid (B ≤ V.heap.size) := Lib.hid (by omega)
  have HNUM : Hid (w.heap.size = H ∧ H + 1 = ub ∧ ub + 1 = B ∧ B + 1 = qb) := Lib.hid ⟨hH, hub, hB, hqb⟩
  have e2 : w.heap.size + 2 = B := by omega
  have e3 : w.heap.size + 3 = qb := by omega
  have e1 : w.heap.size + 1 = ub := by omega
  rw [e2, e1, hH] at HLW
  rw [e2, e3] at HQN
  clear hV hlw hqn hsz hnm hat hN hS hl e1 e2 e3 hH hub hB hqb
  go_enter Tryz.func64, Tryz.ntmps64
  go_upto_region 5 with fail
  rw [show ((((w.alloc (.cells (ints (List.replicate n 0)).toArray 3)).alloc (.cells (Array.replicate n (Value.slice none 0 0)) 84)).alloc (.cells #[] 160)).alloc (.cells #[Value.slice (some ⟨w.heap.size + 1 + 1, 0, none⟩) 0 0] 157)) = V from HV.out]
  rw [HNUM.out.1, HNUM.out.2.1, HNUM.out.2.2.1, HNUM.out.2.2.2]
  clear HV hm1 hm2
  go_loopw [26] (fun i wr => ∃ (j : Nat) (vs : List Value), i = .int .i64 j ∧ j ≤ n ∧ Hid (LayW w B H ub (lacks0 N n j) (usersM N n j []) vs wr ∧ B ≤ wr.heap.size) ∧ Hid (QN B qb (queue0 N j) wr)) (fun i _ => n - (intOf i).toNat)
  case atStart => exact ⟨0, _, rfl, Nat.zero_le _, Lib.hid ⟨HLW.out, hszB.out⟩, HQN⟩
  case round =>
    obtain ⟨j, vs, rfl, hj, HLJ, HQJ⟩ := hrel
    by_cases hlt : j < n
    · have hlti : (j : Int) < n := by omega
      obtain ⟨l, hlj⟩ : ∃ l, N[j]? = some l := ⟨_, List.getElem?_eq_getElem (by have := HN.out; omega)⟩
      have hna : needAt N j = l := by unfold needAt; rw [hlj]; rfl
      obtain ⟨b, off, la, lc, rfl, g0, hlc, hia⟩ := HAT.out j l hlj
      obtain ⟨hlm, hln⟩ := HL.out l (List.mem_of_getElem? hlj)
      have f0 := HLJ.out.1.below.keep g0
      have hlac : (ints (lacks0 N n j))[j]? = some (.int .i64 ((if j < j then (needAt N j).length else 0 : Nat) : Int)) := ints_get (by unfold lacks0; exact range_get _ _ hlt)
      have clb := (HLJ.out.1.bl.at j).trans hlac
      have flb := HLJ.out.1.bl.fz j
      obtain ⟨hA, hK⟩ := HLJ.out.1.lack (by have := HNUM.out; omega) (by have := HNUM.out; omega) (by have := HNUM.out; omega) j l.length
      rw [← hna, lacks_step, hna] at hA
      obtain ⟨m, hm⟩ : ∃ m, l.length = m := ⟨_, rfl⟩
      rw [hm] at f0 hA hK hlm
      obtain ⟨W1, hW1⟩ : ∃ W, wr.setCell ⟨H, j, none⟩ (.int .i64 m) = W := ⟨_, rfl⟩
      rw [hW1] at hA hK
      have HA := Lib.hid hA
      have HQA := Lib.hid (HQJ.out.keepT hK keepI_types.2.2.1 keepI_types.2.2.2)
      have HSZ1 : Hid (B ≤ W1.heap.size) := Lib.hid (by rw [← hW1, World.size_setCell]; exact HLJ.out.2)
      have HW1 := Lib.hid hW1
      have HIA := Lib.hid hia
      have HLN := Lib.hid hln
      have HNA := Lib.hid hna
      have HM := Lib.hid hm
      obtain ⟨wo, hwo⟩ : ∃ X, X = wr := ⟨_, rfl⟩
      subst hwo
      clear hlac hA hK hW1 hia hln hna hm g0 hlc HLJ HQJ hlj
      go_upto_region 8 with fail
      rw [show wo.setCell ⟨H, j, none⟩ (.int .i64 m) = W1 from HW1.out]
      clear clb flb HW1 f0
      go_wp2_with fail
      go_loopw [38] (fun i wr => ∃ (k : Nat) (vs : List Value), i = .int .i64 k ∧ k ≤ m ∧ Hid (LayW w B H ub (lacks0 N n (j + 1)) (usersM N n j (l.take k)) vs wr ∧ B ≤ wr.heap.size) ∧ Hid (QN B qb (queue0 N j) wr)) (fun i _ => m - (intOf i).toNat)
      case atStart => exact ⟨0, vs, rfl, Nat.zero_le _, Lib.hid ⟨HA.out, HSZ1.out⟩, HQA⟩
      case round =>
        obtain ⟨k, vs, rfl, hk, HLK, HQK⟩ := hrel
        by_cases hkm : k < m
        · have hkmi : (k : Int) < m := by omega
          obtain ⟨x, hx⟩ : ∃ x, l[k]? = some x := ⟨_, List.getElem?_eq_getElem (by have := HM.out; omega)⟩
          have hxn := HLN.out x (List.mem_of_getElem? hx)
          obtain ⟨b', off', rfl, g0⟩ := HIA.out k x hx
          have f0 := HLK.out.1.below.keep g0
          have htk : l.take (k + 1) = l.take k ++ [x] := by rw [List.take_add_one, hx]; rfl
          have hul : (usersM N n j (l.take k))[x]? = some (usersL N x j ++ List.replicate ((l.take k).count x) j) := by unfold usersM; exact range_get _ _ hxn
          obtain ⟨ul, hulE⟩ : ∃ u, usersL N x j ++ List.replicate ((l.take k).count x) j = u := ⟨_, rfl⟩
          have hus := users_step N n j x (l.take k)
          rw [← htk, hulE] at hus
          rw [hulE] at hul
          have hulen : ul.length ≤ 2199023255552 := by
            rw [← hulE, List.length_append, List.length_replicate]
            have h1 := usersL_len N x 1048576 (fun l hl => (HL.out l hl).1) j
            have h2 : (l.take k).count x ≤ 1048576 := Nat.le_trans List.count_le_length (by rw [List.length_take]; omega)
            have h3 : j * 1048576 ≤ 1048576 * 1048576 := Nat.mul_le_mul_right _ (by omega)
            omega
          obtain ⟨v, hv⟩ : ∃ v, vs[x]? = some v := ⟨_, List.getElem?_eq_getElem (by rw [HLK.out.1.len]; exact (List.getElem?_eq_some_iff.1 hul).1)⟩
          have hrow := HLK.out.1.row x v ul hv hul
          obtain ⟨ga, gc, rfl, hgc, _⟩ := ownI_form hrow
          have cu : wr.cell? ⟨ub, x, none⟩ = some (.slice ga ul.length gc) := (HLK.out.1.bu.at x).trans hv
          have hba := Bel.alloc wr (.cells #[.int .i64 j] 3)
          have HLA := Lib.hid (HLK.out.1.bel hba)
          have HOW := Lib.hid (own_bel hrow hba)
          have HBS : Hid (B ≤ (wr.alloc (.cells #[.int .i64 j] 3)).heap.size) := Lib.hid (Nat.le_trans HLK.out.2 hba.size)
          have HNW : Hid (∀ i u, [Value.int .i64 j][i]? = some u → (wr.alloc (.cells #[.int .i64 j] 3)).cell? ((⟨wr.heap.size, 0, none⟩ : Addr).add i) = some u) := Lib.hid fun i u hu => by
            rw [show ((⟨wr.heap.size, 0, none⟩ : Addr).add i) = ⟨wr.heap.size, i, none⟩ from by simp [Addr.add]; omega]
            exact ((Blk.new wr 3 [.int .i64 j]).at i).trans hu
          have HON : Hid (∀ u ∈ [Value.int .i64 (j : Int)], u.oneCell' = true) := Lib.hid (by simp [Value.oneCell'])
          have HQB : Hid (QN B qb (queue0 N j) (wr.alloc (.cells #[.int .i64 j] 3))) := Lib.hid (HQK.out.keepT (KeepT.of_bel (p := fun _ => true) hba) rfl rfl)
          have HV := Lib.hid hv
          have HUL := Lib.hid hul
          have HUS := Lib.hid hus
          obtain ⟨um, hum⟩ : ∃ u, ul.length = u := ⟨_, rfl⟩
          have HUM := Lib.hid hum
          rw [hum] at cu hulen HV HOW
          have HOW2 : Hid ((wr.alloc (.cells #[.int .i64 j] 3)).ownsRow B 3 1 (.slice ga um gc) um (ints ul)) := Lib.hid HOW.out
          have HAPP : Hid (∀ g cap w7, w7.ownsRow B 3 1 (.slice (some ⟨g, 0, none⟩) (um + 1) cap) (um + 1) (ints ul ++ [.int .i64 j]) → (wr.alloc (.cells #[.int .i64 j] 3)).grownBy w7 (Value.slice ga um gc).ownBlock → ((Value.slice ga um gc).ownBlock = some g ∨ g = (wr.alloc (.cells #[.int .i64 j] 3)).heap.size) →
              (LayW w B H ub (lacks0 N n (j + 1)) (usersM N n j (l.take (k + 1))) (vs.set x (.slice (some ⟨g, 0, none⟩) (um + 1) cap)) (w7.setCell ⟨ub, x, none⟩ (.slice (some ⟨g, 0, none⟩) (um + 1) cap)) ∧ B ≤ (w7.setCell ⟨ub, x, none⟩ (.slice (some ⟨g, 0, none⟩) (um + 1) cap)).heap.size) ∧
              QN B qb (queue0 N j) (w7.setCell ⟨ub, x, none⟩ (.slice (some ⟨g, 0, none⟩) (um + 1) cap)) ∧ w7.cell? ⟨ub, x, none⟩ = some (.slice ga um gc) ∧ w7.frozen? ⟨ub, x, none⟩ = false) := Lib.hid fun g cap w7 hown7 hg7 hat7 => by
            have hat8 : (Value.slice ga um gc).ownBlock = some g ∨ (wr.alloc (.cells #[.int .i64 j] 3)).heap.size ≤ g := hat7.imp id fun e => by rw [e]; exact Nat.le_refl _
            have hown8 : w7.ownsRow B 3 1 (.slice (some ⟨g, 0, none⟩) (ul.length + 1) cap) (ul.length + 1) (ints ul ++ [.int .i64 j]) := by rw [HUM.out]; exact hown7
            obtain ⟨hA7, hK7⟩ := HLA.out.app (by have := HNUM.out; omega) (by have := HNUM.out; omega) (by have := HNUM.out; omega) (by have := HNUM.out; omega) HBS.out HV.out HUL.out hown8 hg7 hat8
            rw [HUS.out, HUM.out] at hA7
            rw [HUM.out] at hK7
            have hbu7 : Blk w7 ub 84 vs := (hg7.block _ HLA.out.bu.lt (own_ge HOW2.out (by have := HNUM.out; omega))).trans HLA.out.bu
            exact ⟨⟨hA7, by rw [World.size_setCell]; exact Nat.le_trans HBS.out hg7.size⟩, HQB.out.keepT hK7 keepI_types.2.2.1 keepI_types.2.2.2, (hbu7.at x).trans HV.out, hbu7.fz x⟩
          clear g0 hx htk hul hus hulE hrow hgc hba hv hum HOW
          go_wp2_with (at_builtin; refine wpList_append_lies _ rfl _ _ 84 rfl B 3 ti (.int .i64 0) 1 8 Tryz.underlying84 hti hz hi1 hi2 rfl (by decide) _ um _ rfl HOW2.out ⟨wr.heap.size, 0, none⟩ 1 _ [.int .i64 j] rfl rfl HNW.out HON.out (by decide) (by unfold maxLen; omega) (by omega) HBS.out _ rfl ?_; intro g cap w7 hown7 hg7 hat7 _; obtain ⟨z1, z2, c7, f7⟩ := HAPP.out g cap w7 hown7 hg7 hat7; have HX := Lib.hid z1; have HY := Lib.hid z2; clear hown7 hg7 hat7 z1 z2)
          exact ⟨⟨k + 1, _, by go_num, by omega, HX, HY⟩, by simp [intOf]; omega⟩
        · have hkmi : ¬ (k : Int) < m := by omega
          have HLE : Hid (LayW w B H ub (lacks0 N n (j + 1)) (usersM N n (j + 1) []) vs wr ∧ B ≤ wr.heap.size) := Lib.hid (by
            have h := HLK.out
            rw [List.take_of_length_le (by have := HM.out; omega), ← HNA.out, users_next] at h
            exact h)
          clear HLK
          by_cases hm0 : m = 0
          · subst hm0
            have hqs : queue0 N (j + 1) = queue0 N j ++ [j] := by
              rw [queue_step, if_pos]
              rw [HNA.out, List.eq_nil_of_length_eq_zero HM.out]
              rfl
            obtain ⟨s, hs⟩ : ∃ s, S[j]? = some s := ⟨_, List.getElem?_eq_getElem (by have := HS.out; omega)⟩
            obtain ⟨b2, off2, rfl, g0⟩ := HNM.out j s hs
            have f0 := HLE.out.1.below.keep g0
            obtain ⟨T, hqt, hpt⟩ := HQK.out
            have hTl := qn_len hpt
            have hql := queue_len N j
            have HPU := Lib.hid (hpush_c B qb T (s, j) wr HLE.out.2 (by have := HNUM.out; omega) hqt (by omega))
            have HQS := Lib.hid hqs
            have HPT := Lib.hid hpt
            clear hqs hs g0 hqt hpt hTl hql HQK
            go_wp2_with fail
            refine HPU.out.mono ?_
            rintro e2 w2 ⟨rfl, T', hp', hq', hb', hk'⟩
            have HX : Hid (LayW w B H ub (lacks0 N n (j + 1)) (usersM N n (j + 1) []) vs w2 ∧ B ≤ w2.heap.size) := Lib.hid ⟨HLE.out.1.keepT hk' keepH_types.2.2.1 keepH_types.2.2.2.1 (by have := HNUM.out; omega) hb', Nat.le_trans HLE.out.2 hb'.size⟩
            have HY : Hid (QN B qb (queue0 N (j + 1)) w2) := Lib.hid ⟨T', hq', (hp'.map Prod.snd).trans (by rw [List.map_append, HQS.out]; exact HPT.out.append_right _)⟩
            clear hp' hq' hb' hk' f0 HPU HLE
            go_wp2_with fail
            exact ⟨⟨j + 1, vs, by go_num, by omega, HX, HY⟩, by simp [intOf]; omega⟩
          · have hm0i : ((m : Int) == 0) = false := by simpa using hm0
            have HY : Hid (QN B qb (queue0 N (j + 1)) wr) := Lib.hid (by
              have hqs : queue0 N (j + 1) = queue0 N j := by
                rw [queue_step, if_neg, List.append_nil]
                rw [HNA.out]
                intro e
                have := HM.out
                rw [List.isEmpty_iff.1 e] at this
                exact hm0 this.symm
              rw [hqs]
              exact HQK.out)
            clear HQK
            go_wp2_with fail
            exact ⟨⟨j + 1, vs, by go_num, by omega, HLE, HY⟩, by simp [intOf]; omega⟩
    · have hlti : ¬ (j : Int) < n := by omega
      obtain rfl : j = n := by omega
      have HLI : Hid (∃ Q, LayI N (lacks0 N j j) [] Q (fun i => lackN N i []) [] ∧ QN B qb Q wr) := Lib.hid ⟨queue0 N j, LayI.start (lacks_end HN.out) (List.Sublist.nodup List.filter_sublist List.nodup_range) (fun i => by
        unfold queue0
        rw [List.mem_filter, List.mem_range, HN.out, List.isEmpty_iff]), HQJ.out⟩
      obtain ⟨V2, hV2⟩ : ∃ X, X = wr := ⟨_, rfl⟩
      subst hV2
      obtain ⟨B2, hB2⟩ : ∃ X, V2.heap.size = X := ⟨_, rfl⟩
      have HB2 := Lib.hid hB2
      clear hB2
      have HVS : Hid (∀ (k : Nat) v g, vs[k]? = some v → v.ownBlock = some g → g < B2) := Lib.hid fun k v g hv hg => by
        have hk : k < (usersM N j j []).length := by rw [← HLJ.out.1.len]; exact (List.getElem?_eq_some_iff.1 hv).1
        have := (HLJ.out.1.row k v _ hv (List.getElem?_eq_getElem hk)).lt g hg
        rw [← HB2.out]; exact this.2
      have HBB : Hid (B ≤ B2) := Lib.hid (by rw [← HB2.out]; exact HLJ.out.2)
      have hta : ∀ (s : ByteArray) (x : Nat) W, (Instr.typeAssert (.iface 160 (.agg #[.string s, .int .i64 x])) 20 160 false).run Tryz.prog W = .ok (.agg #[.string s, .int .i64 x]) W := fun _ _ _ => by kernel_rfl
      go_upto_region 17 with fail
      go_loopw [12] (fun o wr => ∃ (out : List Nat) (oa : Option Addr) (on oc : Nat) (lacks Q : List Nat), o = .slice oa on oc ∧ on ≤ j ∧ Hid (on = out.length ∧ OwnI B2 out wr (.slice oa on oc)) ∧ Hid (LayW w B H ub lacks (usersM N j j []) vs wr ∧ B2 ≤ wr.heap.size) ∧ Hid (LayI N lacks out Q (fun i => lackN N i out) []) ∧ Hid (QN B qb Q wr)) (fun o _ => j - lenV o)
      case atStart =>
        obtain ⟨Q, hq1, hq2⟩ := HLI.out
        exact ⟨[], none, 0, 0, _, Q, rfl, Nat.zero_le _, Lib.hid ⟨rfl, World.ownsRow_nil _ _ _ _⟩, Lib.hid ⟨HLJ.out.1, by rw [HB2.out]; exact Nat.le_refl _⟩, Lib.hid hq1, Lib.hid hq2⟩
      case round =>
        obtain ⟨out, oa, on, oc, lacks, Q, rfl, hon, HO, HLW3, HLI3, HQ3⟩ := hrel
        obtain ⟨T, hqt, hpt⟩ := HQ3.out
        have hqt2 := hqt
        obtain ⟨v, hbq, hoq⟩ := hqt2
        obtain ⟨qa, qc, rfl, _⟩ := ownH_form hoq
        have cq := hbq.at 0
        have hTl := qn_len hpt
        have hQl : Q.length ≤ j := by
          refine nodup_len j Q ?_ fun i hi => ?_
          · exact (List.nodup_append.1 HLI3.out.nodup).2.1
          · rw [← HN.out]; exact HLI3.out.lt i (List.mem_append_right _ hi)
        have hBW : B ≤ wr.heap.size := Nat.le_trans HBB.out HLW3.out.2
        obtain ⟨tl, htl⟩ : ∃ t, T.length = t := ⟨_, rfl⟩
        have HQL := Lib.hid fun W => qlen_c qa tl qc W
        by_cases ht0 : tl = 0
        · have HX : Hid (RetLay N w (.returned (.slice oa on oc)) wr) := Lib.hid (by
            have hq0 : Q = [] := List.eq_nil_of_length_eq_zero (by omega)
            have hli := HLI3.out
            rw [hq0] at hli
            obtain ⟨h1, h2⟩ := HO.out
            subst h1
            obtain ⟨a', c', e1, h3, h4⟩ := ownI_form h2
            injection e1 with e1 _ e3
            subst e1 e3
            exact ⟨out, _, _, rfl, hli.done, h4, h3, HLW3.out.1.below⟩)
          rw [htl, ht0] at cq
          rw [ht0] at HQL
          clear hqt hbq hoq hTl hQl hBW htl ht0 hpt
          go_wp2_with fail
          refine (HQL.out _).mono ?_
          rintro e2 w2 ⟨rfl, rfl⟩
          go_wp2_with fail
          go_ret
          exact HX.out
        · have ht0i : (0 : Int) < tl := by omega
          have HPP := Lib.hid (hpop_c B qb T wr hBW (by have := HNUM.out; omega) hqt (by omega) (by omega))
          have HPT := Lib.hid hpt
          rw [htl] at cq
          clear hqt hbq hoq hTl hQl hBW htl ht0 hpt
          go_wp2_with fail
          refine (HQL.out _).mono ?_
          rintro e2 w2 ⟨rfl, rfl⟩
          go_wp2_with fail
          refine HPP.out.mono ?_
          rintro e3 w3 ⟨⟨xs, xi⟩, R, hp3, rfl, hq3, hb3, hk3⟩
          dsimp only
          have hpop := (HLI3.out.perm (((hp3.map Prod.snd).trans HPT.out).symm)).pop
          have HLI4 : Hid (LayI N lacks (out ++ [xi]) (R.map Prod.snd) (fun i => lackN N i out) []) := Lib.hid hpop
          have hon2 : on + 1 ≤ j := by
            have h1 := nodup_len j (out ++ [xi]) (List.nodup_append.1 hpop.nodup).1 (fun i hi => by rw [← HN.out]; exact hpop.lt i (List.mem_append_left _ hi))
            rw [List.length_append, List.length_singleton] at h1
            have := HO.out.1
            omega
          have hxj : xi < j := by rw [← HN.out]; exact hpop.lt xi (by simp)
          have hxout : xi ∉ out := fun hm => by
            have hnd := hpop.nodup
            rw [List.append_assoc, List.nodup_append] at hnd
            exact hnd.2.2 xi hm xi (by simp) rfl
          obtain ⟨V3, h4, q4, l4, s4⟩ := alloc_stepO w3 160 [.string xs, .int .i64 xi]
          have hba := Bel.alloc V3 (.cells #[.int .i64 xi] 3)
          have hbB2 : B2 ≤ w3.heap.size := Nat.le_trans HLW3.out.2 hb3.size
          have hlw3 := HLW3.out.1.keepT hk3 keepH_types.2.2.1 keepH_types.2.2.2.1 (by have := HNUM.out; omega) hb3
          have HLA := Lib.hid ((hlw3.bel l4).bel hba)
          have hown3 : w3.ownsRow B2 3 1 (.slice oa on oc) on (ints out) := by
            have h1 := hk3.own HO.out.2 keepH_types.2.2.1
            rw [← HO.out.1] at h1
            exact h1
          have HOW := Lib.hid (own_bel (own_bel hown3 l4) hba)
          have HBS : Hid (B2 ≤ (V3.alloc (.cells #[.int .i64 xi] 3)).heap.size) := Lib.hid (Nat.le_trans hbB2 (l4.trans hba).size)
          have HQA : Hid (QN B qb (R.map Prod.snd) (V3.alloc (.cells #[.int .i64 xi] 3))) := Lib.hid ((show QN B qb (R.map Prod.snd) w3 from ⟨R, hq3, List.Perm.refl _⟩).keepT (KeepT.of_bel (p := fun _ => true) (l4.trans hba)) rfl rfl)
          have HBX := Lib.hid (q4.bel hba)
          have HNW : Hid (∀ i u, [Value.int .i64 xi][i]? = some u → (V3.alloc (.cells #[.int .i64 xi] 3)).cell? ((⟨V3.heap.size, 0, none⟩ : Addr).add i) = some u) := Lib.hid fun i u hu => by
            rw [show ((⟨V3.heap.size, 0, none⟩ : Addr).add i) = ⟨V3.heap.size, i, none⟩ from by simp [Addr.add]; omega]
            exact ((Blk.new V3 3 [.int .i64 xi]).at i).trans hu
          have HON : Hid (∀ u ∈ [Value.int .i64 (xi : Int)], u.oneCell' = true) := Lib.hid (by simp [Value.oneCell'])
          have hul : (usersM N j j [])[xi]? = some (usersL N xi j) := by unfold usersM; rw [range_get _ _ hxj]; simp
          obtain ⟨v, hv⟩ : ∃ v, vs[xi]? = some v := ⟨_, List.getElem?_eq_getElem (by rw [hlw3.len]; exact (List.getElem?_eq_some_iff.1 hul).1)⟩
          obtain ⟨ga, gc, rfl, hgc, _⟩ := ownI_form (hlw3.row xi v _ hv hul)
          obtain ⟨ul, hulE⟩ : ∃ u, usersL N xi j = u := ⟨_, rfl⟩
          rw [hulE] at hul hv
          have hulen : ul.length ≤ 1099511627776 := by
            rw [← hulE]
            have h1 := usersL_len N xi 1048576 (fun l hl => (HL.out l hl).1) j
            have h3 : j * 1048576 ≤ 1048576 * 1048576 := Nat.mul_le_mul_right _ (by omega)
            omega
          obtain ⟨um, hum⟩ : ∃ u, ul.length = u := ⟨_, rfl⟩
          rw [hum] at hv hulen
          have HV := Lib.hid hv
          have HUL := Lib.hid hul
          have HUE := Lib.hid hulE
          have HUM := Lib.hid hum
          have HXO := Lib.hid hxout
          obtain ⟨xb, hxb⟩ : ∃ x, w3.heap.size = x := ⟨_, rfl⟩
          have HXB := Lib.hid hxb
          rw [hxb] at q4 HBX
          have b1 : V3.cell? ⟨xb, 1, none⟩ = some (.int .i64 xi) := q4.at 1
          have HV3 := Lib.hid h4
          have HAPP : Hid (∀ g cap w7, w7.ownsRow B2 3 1 (.slice (some ⟨g, 0, none⟩) (on + 1) cap) (on + 1) (ints out ++ [.int .i64 xi]) → (V3.alloc (.cells #[.int .i64 xi] 3)).grownBy w7 (Value.slice oa on oc).ownBlock →
              (LayW w B H ub lacks (usersM N j j []) vs w7 ∧ B2 ≤ w7.heap.size) ∧ QN B qb (R.map Prod.snd) w7 ∧ OwnI B2 (out ++ [xi]) w7 (.slice (some ⟨g, 0, none⟩) (on + 1) cap) ∧ Blk w7 xb 160 [.string xs, .int .i64 xi]) := Lib.hid fun g cap w7 hown7 hg7 => by
            refine ⟨⟨HLA.out.out (by have := HNUM.out; have := HBB.out; omega) (by have := HNUM.out; have := HBB.out; omega) HVS.out (by have := HNUM.out; have := HBB.out; omega) HOW.out hg7 HBS.out, Nat.le_trans HBS.out hg7.size⟩, HQA.out.keepT (KeepT.grow HOW.out keepI_types.1 hg7) keepI_types.2.2.1 keepI_types.2.2.2, ?_, HBX.out.grown HOW.out hg7 (by decide)⟩
            unfold OwnI
            rw [List.length_append, List.length_singleton, ints_snoc, ← HO.out.1]
            exact hown7
          clear hpop hp3 hq3 hb3 hk3 q4 l4 s4 h4 hba hbB2 hlw3 hown3 hul hulE hum hv hgc hxout hxb HLW3 HLI3 HQ3 HPP HPT cq
          go_upto_region 19 with fail
          rw [show w3.alloc (.cells #[.string xs, .int .i64 xi] 160) = V3 from HV3.out, HXB.out]
          clear HV3 HXB
          go_wp2_with (at_builtin; refine wpList_append_lies _ rfl _ _ 84 rfl B2 3 ti (.int .i64 0) 1 8 Tryz.underlying84 hti hz hi1 hi2 rfl (by decide) _ on _ rfl HOW.out ⟨V3.heap.size, 0, none⟩ 1 _ [.int .i64 xi] rfl rfl HNW.out HON.out (by decide) (by unfold maxLen; omega) (by omega) HBS.out _ rfl ?_; intro g cap w7 hown7 hg7 _ _; obtain ⟨z1, z2, z3, z4⟩ := HAPP.out g cap w7 hown7 hg7; have c7 : w7.cell? ⟨xb, 1, none⟩ = some (.int .i64 xi) := z4.at 1; have c8 : w7.cell? ⟨ub, xi, none⟩ = some (.slice ga um gc) := (z1.1.bu.at xi).trans HV.out; have HX := Lib.hid z1; have HY := Lib.hid z2; have HZ := Lib.hid z3; clear hown7 hg7 z1 z2 z3 z4)
          clear c7 c8 b1 HAPP HON HNW HBS HOW HLA HQA HBX
          obtain ⟨w7b, hw7b⟩ : ∃ X, X = w7 := ⟨_, rfl⟩
          subst hw7b
          go_loopw [87] (fun i wr => ∃ (k : Nat) (lacks Q : List Nat), i = .int .i64 k ∧ k ≤ um ∧ Hid (LayW w B H ub lacks (usersM N j j []) vs wr ∧ B2 ≤ wr.heap.size) ∧ Hid (LayI N lacks (out ++ [xi]) Q (fun i => lackN N i out) (ul.take k)) ∧ Hid (QN B qb Q wr) ∧ Hid (OwnI B2 (out ++ [xi]) wr (.slice (some ⟨g, 0, none⟩) (on + 1) cap))) (fun i _ => um - (intOf i).toNat)
          case atStart => exact ⟨0, lacks, _, rfl, Nat.zero_le _, HX, HLI4, HY, HZ⟩
          case round =>
            obtain ⟨k, lacks2, Q2, rfl, hk, HLW5, HLI5, HQ5, HO5⟩ := hrel
            by_cases hku : k < um
            · have hkui : (k : Int) < um := by omega
              obtain ⟨y, hy⟩ : ∃ y, ul[k]? = some y := ⟨_, List.getElem?_eq_getElem (by have := HUM.out; omega)⟩
              have hyj : y < j := by
                have hm := List.mem_of_getElem? hy
                rw [← HUE.out] at hm
                exact usersL_lt hm
              have htk : ul.take (k + 1) = ul.take k ++ [y] := by rw [List.take_add_one, hy]; rfl
              have hcnt : (ul.take k).count y < lackN N y out := by
                have h1 := count_take_lt hy
                have h2 := usersL_count N xi y j
                rw [if_pos hyj, HUE.out] at h2
                have h3 := lackN_snoc N y xi out HXO.out
                omega
              have hrow := HLW5.out.1.row xi _ ul HV.out HUL.out
              obtain ⟨ga', gc', e1, _, hia⟩ := ownI_form hrow
              injection e1 with e1 e2 e3
              clear e2 e3
              subst e1
              obtain ⟨b', off', rfl, f0⟩ := hia k y hy
              obtain ⟨d1, hd1⟩ : ∃ d, lacks2[y]? = some d := ⟨_, List.getElem?_eq_getElem (by rw [HLI5.out.len, HN.out]; exact hyj)⟩
              obtain ⟨hd0, hstep⟩ := HLI5.out.step hd1 hcnt
              obtain ⟨d, rfl⟩ : ∃ d, d1 = d + 1 := ⟨d1 - 1, by omega⟩
              rw [← htk, Nat.add_sub_cancel] at hstep
              have hdB : d ≤ 1048576 := by
                have h1 := HLI5.out.lack y _ hd1
                have h2 : lackN N y out ≤ 1048576 := by
                  unfold lackN
                  refine Nat.le_trans List.countP_le_length ?_
                  unfold needAt
                  cases h : N[y]? with
                  | none => exact Nat.zero_le _
                  | some l => exact (HL.out l (List.mem_of_getElem? h)).1
                omega
              have cl := (HLW5.out.1.bl.at y).trans (ints_get hd1)
              have fl := HLW5.out.1.bl.fz y
              obtain ⟨hA, hK⟩ := HLW5.out.1.lack (by have := HNUM.out; omega) (by have := HNUM.out; omega) (by have := HNUM.out; omega) y d
              obtain ⟨W9, hW9⟩ : ∃ W, wr.setCell ⟨H, y, none⟩ (.int .i64 d) = W := ⟨_, rfl⟩
              have hO9 : OwnI B2 (out ++ [xi]) W9 (.slice (some ⟨g, 0, none⟩) (on + 1) cap) := by
                rw [← hW9]
                exact own_set HO5.out (p := ⟨H, y, none⟩) (own_ge HO5.out (by have := HNUM.out; have := HBB.out; show H < B2; omega)) _
              rw [hW9] at hA hK
              have hbl9 := hA.bl.at y
              have c9 : W9.cell? ⟨H, y, none⟩ = some (.int .i64 d) := hbl9.trans (ints_get (by rw [List.getElem?_set_self (by rw [HLI5.out.len, HN.out]; exact hyj)]))
              have HQ9 : Hid (QN B qb Q2 W9) := Lib.hid (HQ5.out.keepT hK keepI_types.2.2.1 keepI_types.2.2.2)
              have HLW9 : Hid (LayW w B H ub (lacks2.set y d) (usersM N j j []) vs W9 ∧ B2 ≤ W9.heap.size) := Lib.hid ⟨hA, by rw [← hW9, World.size_setCell]; exact HLW5.out.2⟩
              have HST := Lib.hid hstep
              have HO9 := Lib.hid hO9
              have HW9 := Lib.hid hW9
              have g1 : IntKind.i64.wrap (((d + 1 : Nat) : Int) - 1) = d := by rw [IntWalk.i64_in _ (by omega)]; omega
              have g2 : IntKind.i64.wrap ((d : Int) + 1 - 1) = d := by rw [IntWalk.i64_in _ (by omega)]; omega
              have g3 : ((d + 1 : Nat) : Int) - 1 = d := by omega
              clear hy htk hcnt hrow hia hd1 hd0 hstep hA hK hW9 hO9 hbl9 HLW5 HLI5 HQ5 HO5
              go_upto_region 24 with fail
              rw [show wr.setCell ⟨H, y, none⟩ (.int .i64 d) = W9 from HW9.out]
              clear HW9 cl fl f0 g1 g2 g3
              by_cases hd0 : d = 0
              · subst hd0
                obtain ⟨s, hs⟩ : ∃ s, S[y]? = some s := ⟨_, List.getElem?_eq_getElem (by have := HS.out; omega)⟩
                obtain ⟨b2, off2, rfl, g0⟩ := HNM.out y s hs
                have f1 := HLW9.out.1.below.keep g0
                obtain ⟨T2, hqt, hpt⟩ := HQ9.out
                have hTl := qn_len hpt
                have hst := HST.out
                rw [if_pos rfl] at hst
                have hQl : Q2.length ≤ j := by
                  refine nodup_len j Q2 ?_ fun i hi => ?_
                  · exact (List.nodup_cons.1 (List.nodup_append.1 hst.nodup).2.1).2
                  · rw [← HN.out]; exact hst.lt i (List.mem_append_right _ (List.mem_cons_of_mem _ hi))
                have HPU := Lib.hid (hpush_c B qb T2 (s, y) W9 (Nat.le_trans HBB.out HLW9.out.2) (by have := HNUM.out; omega) hqt (by omega))
                have HST2 := Lib.hid hst
                have HPT := Lib.hid hpt
                clear hs g0 hqt hpt hTl hst hQl HQ9 HST
                go_wp2_with fail
                refine HPU.out.mono ?_
                rintro e5 w5 ⟨rfl, T', hp', hq', hb', hk'⟩
                have HX5 : Hid (LayW w B H ub (lacks2.set y 0) (usersM N j j []) vs w5 ∧ B2 ≤ w5.heap.size) := Lib.hid ⟨HLW9.out.1.keepT hk' keepH_types.2.2.1 keepH_types.2.2.2.1 (by have := HNUM.out; omega) hb', Nat.le_trans HLW9.out.2 hb'.size⟩
                have HY5 : Hid (QN B qb (y :: Q2) w5) := Lib.hid ⟨T', hq', (hp'.map Prod.snd).trans (by rw [List.map_append]; exact ((HPT.out.append_right _).trans (List.perm_append_singleton y Q2)))⟩
                have HZ5 : Hid (OwnI B2 (out ++ [xi]) w5 (.slice (some ⟨g, 0, none⟩) (on + 1) cap)) := Lib.hid (hk'.own HO9.out keepH_types.2.2.1)
                clear hp' hq' hb' hk' f1 c9 HPU HLW9 HO9
                go_wp2_with fail
                exact ⟨⟨k + 1, _, _, by go_num, by omega, HX5, HST2, HY5, HZ5⟩, by simp [intOf]; omega⟩
              · have hd0i : ((d : Int) == 0) = false := by simpa using hd0
                have HST2 : Hid (LayI N (lacks2.set y d) (out ++ [xi]) Q2 (fun i => lackN N i out) (ul.take (k + 1))) := Lib.hid (by
                  have h1 := HST.out
                  rw [if_neg (by omega)] at h1
                  exact h1)
                clear HST
                go_wp2_with fail
                exact ⟨⟨k + 1, _, _, by go_num, by omega, HLW9, HST2, HQ9, HO9⟩, by simp [intOf]; omega⟩
            · have hkui : ¬ (k : Int) < um := by omega
              have HNX : Hid (LayI N lacks2 (out ++ [xi]) Q2 (fun i => lackN N i (out ++ [xi])) []) := Lib.hid (by
                have h1 := HLI5.out
                rw [List.take_of_length_le (by have := HUM.out; omega), ← HUE.out] at h1
                refine LayI.next (x := xi) ?_
                rw [HN.out]
                exact h1)
              have HO6 : Hid (on + 1 = (out ++ [xi]).length ∧ OwnI B2 (out ++ [xi]) wr (.slice (some ⟨g, 0, none⟩) (on + 1) cap)) := Lib.hid ⟨by rw [List.length_append, List.length_singleton, ← HO.out.1], HO5.out⟩
              clear HLI5 HO5
              go_wp2_with fail
              exact ⟨⟨out ++ [xi], _, _, _, lacks2, Q2, rfl, hon2, HO6, HLW5, HNX, HQ5⟩, by simp [lenV]; omega⟩
end Go.Proofs.YtbcdbefogfmhfaaGreatDoor

namespace Go.Proofs.YtbcdbefogfmhfaaGreatDoor
open Go.RowKit

theorem make_strs (n : Nat) (hn : n ≤ 1048576) (W : World) : (Instr.makeSlice 35 (.int .i64 n) (.int .i64 n)).run Tryz.prog W = .ok (.slice (some ⟨W.heap.size, 0, none⟩) n n) (W.alloc (.cells (List.replicate n (Value.string ⟨#[]⟩)).toArray 9)) := by
  have hinfo : (Tryz.prog.info? 9).map (fun i => (i.zero, i.size, i.bytes)) = some (some (.string ⟨#[]⟩), 1, 16) := by kernel_rfl
  obtain ⟨i, hi, hz, hi1, hi2⟩ := info_parts hinfo
  have h := run_make (P := Tryz.prog) W 35 9 i (.string ⟨#[]⟩) Tryz.underlying35 hi hz .i64 .i64 n n (by omega) (by omega) (by rw [hi2]; omega) (by omega)
  rw [h, hi1]
  simp only [Int.toNat_natCast]
  rw [show (Value.string ⟨#[]⟩).cells = #[Value.string ⟨#[]⟩] from rfl, made_one, List.toArray_replicate]
theorem needAt_mem {N : List (List Nat)} {i : Nat} (hi : i < N.length) : needAt N i ∈ N := by
  unfold needAt
  rw [List.getElem?_eq_getElem hi]
  exact List.getElem_mem hi
theorem len_le_sub : ∀ (l m : List Nat), l.Nodup → (∀ x ∈ l, x ∈ m) → l.length ≤ m.length
  | [], _, _, _ => Nat.zero_le _
  | x :: l, m, hn, hs => by
    rw [List.nodup_cons] at hn
    have hx := hs x (List.mem_cons_self ..)
    have h1 := len_le_sub l (m.erase x) hn.2 fun y hy => (List.mem_erase_of_ne (fun e => hn.1 (by rw [← e]; exact hy))).2 (hs y (List.mem_cons_of_mem _ hy))
    rw [List.length_erase_of_mem hx] at h1
    have := List.length_pos_of_mem hx
    rw [List.length_cons]
    omega
theorem LayOK.all {N : List (List Nat)} {out : List Nat} (h : LayOK N out) (ha : Acyc N) (hr : ∀ i, i < N.length → ∀ k ∈ needAt N i, k < N.length) : out.length = N.length := by
  refine Nat.le_antisymm (nodup_len _ _ h.nodup h.lt) ?_
  have h1 := len_le_sub (List.range N.length) out List.nodup_range fun i hi => ha.all h hr i (List.mem_range.1 hi)
  rwa [List.length_range] at h1
def RetSort (N : List (List Nat)) (w : World) (e : Ending) (w' : World) : Prop := ∃ (out : List Nat) (a : Option Addr) (c : Nat), e = .returned (.tuple #[.slice a N.length c, .int .i64 0]) ∧ LayOK N out ∧ out.length = N.length ∧ IntsAt w' a out ∧ N.length ≤ c ∧ Bel w w'
set_option maxRecDepth 100000 in
set_option maxHeartbeats 4000000 in
theorem osort_c (S : List ByteArray) (N : List (List Nat)) (na : Option Addr) (n nc : Nat) (a : Option Addr) (c : Nat) (w : World) (hS : S.length = n) (hN : N.length = n) (hn : n ≤ 1048576) (hl : ∀ l ∈ N, l.length ≤ 1048576 ∧ ∀ k ∈ l, k < n) (hnm : NamesAt w na S) (hat : NeedsAt w a N) (ha : Acyc N) :
    Calls Tryz.prog 36 #[.slice na n nc, .slice a n c] w (RetSort N w) := by
  have HR := Lib.hid (oright_c N a n c w hN (by omega) hat fun l h => ⟨by have := (hl l h).1; omega, (hl l h).2⟩)
  have HL := Lib.hid fun w1 (hb : Bel w w1) => lay_c S N na n nc a c w1 hS hN hn hl (hnm.bel hb) (hat.bel hb)
  have HA := Lib.hid fun out (h : LayOK N out) => h.all ha fun i hi k hk => (by rw [hN]; exact (hl _ (needAt_mem hi)).2 k hk : k < N.length)
  have HN := Lib.hid hN
  clear hl hnm hat ha hS hN
  go_enter Tryz.func36, Tryz.ntmps36
  go_wp2_with fail
  refine HR.out.mono ?_
  rintro e w1 ⟨rfl, hb1⟩
  have HL1 := Lib.hid (HL.out w1 hb1)
  clear HL HR
  go_wp2_with fail
  refine HL1.out.mono ?_
  rintro e w2 ⟨out, a2, c2, rfl, hlay, hi2, hc2, hb2⟩
  have hlen := HA.out out hlay
  rw [hlen, HN.out]
  rw [hlen] at hc2
  have HX : Hid (LayOK N out ∧ out.length = N.length ∧ IntsAt w2 a2 out ∧ N.length ≤ c2 ∧ Bel w w2) := Lib.hid ⟨hlay, hlen, hi2, hc2, hb1.trans hb2⟩
  have hnn : ¬ (n : Int) < n := by omega
  clear hlay hlen hi2 hc2 hb1 hb2 HL1 HA
  go_wp2_with fail
  go_ret2
  exact ⟨out, a2, c2, by rw [HN.out]; rfl, HX.out⟩
def RetStuck (N : List (List Nat)) (w : World) (e : Ending) (w' : World) : Prop := ∃ (n : Nat) (a : Option Addr) (c : Nat), e = .returned (.tuple #[.slice a n c, .int .i64 0]) ∧ (n = 0 ↔ Acyc N) ∧ n ≤ 1048576 ∧ Bel w w'
def stk (out : List Nat) (k : Nat) : List Nat := (List.range k).filter fun i => decide (i ∉ out)
theorem stk_succ (out : List Nat) (k : Nat) : stk out (k + 1) = stk out k ++ if k ∈ out then [] else [k] := by
  unfold stk
  rw [List.range_succ, List.filter_append]
  by_cases h : k ∈ out <;> simp [h]
theorem stk_le (out : List Nat) (k : Nat) : (stk out k).length ≤ k := by
  have := List.length_filter_le (fun i => decide (i ∉ out)) (List.range k)
  rwa [List.length_range] at this
theorem stk_acyc {N : List (List Nat)} {out : List Nat} (h : LayOK N out) (hr : ∀ i, i < N.length → ∀ k ∈ needAt N i, k < N.length) : (stk out N.length).length = 0 ↔ Acyc N := by
  constructor
  · intro h0
    refine h.acyc fun i hi => ?_
    have := List.eq_nil_of_length_eq_zero h0
    unfold stk at this
    rw [List.filter_eq_nil_iff] at this
    have h2 := this i (List.mem_range.2 hi)
    simpa using h2
  · intro ha
    have h1 := ha.all h hr
    rw [List.length_eq_zero_iff]
    unfold stk
    rw [List.filter_eq_nil_iff]
    intro i hi
    simpa using h1 i (List.mem_range.1 hi)
set_option maxRecDepth 100000 in
set_option maxHeartbeats 8000000 in
theorem stuck_c (N : List (List Nat)) (n : Nat) (a : Option Addr) (c : Nat) (w : World) (hN : N.length = n) (hn : n ≤ 1048576) (hl : ∀ l ∈ N, l.length ≤ 1048576 ∧ ∀ k ∈ l, k < n) (hat : NeedsAt w a N) :
    Calls Tryz.prog 98 #[.slice a n c] w (RetStuck N w) := by
  have hm1 := make_strs n hn
  have HR := Lib.hid (oright_c N a n c w hN (by omega) hat fun l h => ⟨by have := (hl l h).1; omega, (hl l h).2⟩)
  have HL := Lib.hid fun w1 (hb : Bel w w1) => lay_c (List.replicate n ⟨#[]⟩) N (some ⟨w1.heap.size, 0, none⟩) n n a c (w1.alloc (.cells (List.replicate n (Value.string ⟨#[]⟩)).toArray 9)) (by simp) hN hn hl (fun j s hs => by
    have h1 := (Blk.new w1 9 (List.replicate n (Value.string ⟨#[]⟩))).at j
    rw [List.getElem?_replicate] at hs
    by_cases hj : j < n
    · rw [if_pos hj] at hs
      injection hs with hs
      refine ⟨w1.heap.size, 0, rfl, ?_⟩
      rw [Nat.zero_add, h1, List.getElem?_replicate, if_pos hj, hs]
    · rw [if_neg hj] at hs; cases hs) (hat.bel (hb.trans (Bel.alloc _ _)))
  have HA := Lib.hid fun out (h : LayOK N out) => stk_acyc h fun i hi k hk => (by rw [hN]; exact (hl _ (needAt_mem hi)).2 k hk : k < N.length)
  have HO := Lib.hid fun out (h : LayOK N out) => (nodup_len _ _ h.nodup h.lt)
  have HN := Lib.hid hN
  clear hl hat hN
  go_enter Tryz.func98, Tryz.ntmps98
  go_wp2_with fail
  refine HR.out.mono ?_
  rintro e w1 ⟨rfl, hb1⟩
  have HL1 := Lib.hid (HL.out w1 hb1)
  clear HL HR
  go_wp2_with fail
  refine HL1.out.mono ?_
  rintro e w2 ⟨out, a2, c2, rfl, hlay, hi2, hc2, hb2⟩
  have hlen := HO.out out hlay
  rw [HN.out] at hlen
  have HY : Hid (Bel w w2) := Lib.hid (hb1.trans ((Bel.alloc _ _).trans hb2))
  have HC := Lib.hid fun x w3 (hb : Bel w2 w3) => containsI_c out a2 out.length c2 x w3 rfl (by omega) (hi2.bel hb)
  have HA2 := Lib.hid (HA.out out hlay)
  obtain ⟨m, hm⟩ : ∃ m, out.length = m := ⟨_, rfl⟩
  rw [hm] at HC hc2 hlen ⊢
  clear hlay hi2 hb1 hb2 HL1 HO HA hm1 hm hc2
  have hinfo : (Tryz.prog.info? 3).map (fun i => (i.zero, i.size, i.bytes)) = some (some (.int .i64 0), 1, 8) := by kernel_rfl
  go_wp2_with fail
  go_loopw [5, 17] (fun o i wr => ∃ (k sn : Nat) (oa : Option Addr) (oc : Nat), i = .int .i64 k ∧ o = .slice oa sn oc ∧ k ≤ n ∧ sn ≤ k ∧ Hid ((stk out k).length = sn ∧ OwnI w2.heap.size (stk out k) wr (.slice oa sn oc)) ∧ Hid (Bel w2 wr)) (fun _ i _ => n - (intOf i).toNat)
  case atStart => exact ⟨0, 0, none, 0, rfl, rfl, Nat.zero_le _, Nat.le_refl _, Lib.hid ⟨rfl, World.ownsRow_nil _ _ _ _⟩, Lib.hid (Bel.refl _)⟩
  case round =>
    obtain ⟨k, sn, oa, oc, rfl, rfl, hk, hsn, HOW, HB⟩ := hrel
    by_cases hkn : k < n
    · have hki : (k : Int) < n := by omega
      have HC2 := Lib.hid (HC.out k wr HB.out)
      have hst := stk_succ out k
      by_cases hko : k ∈ out
      · rw [if_pos hko, List.append_nil] at hst
        rw [decide_eq_true hko] at HC2
        have HX : Hid ((stk out (k + 1)).length = sn ∧ OwnI w2.heap.size (stk out (k + 1)) wr (.slice oa sn oc)) := by rw [hst]; exact HOW
        clear hst hko HOW HC
        go_wp2_with fail
        refine HC2.out.mono ?_
        rintro e w3 ⟨rfl, rfl⟩
        clear HC2
        go_wp2_with fail
        exact ⟨⟨k + 1, sn, _, _, by go_num, rfl, by omega, by omega, HX, HB⟩, by simp [intOf]; omega⟩
      · rw [if_neg hko] at hst
        rw [decide_eq_false hko] at HC2
        have HX : Hid ((stk out (k + 1)).length = sn + 1 ∧ ints (stk out (k + 1)) = ints (stk out k) ++ [.int .i64 k]) := Lib.hid (by rw [hst, List.length_append, HOW.out.1, ints_snoc]; exact ⟨rfl, rfl⟩)
        have HOW1 : Hid (wr.ownsRow w2.heap.size 3 1 (.slice oa sn oc) sn (ints (stk out k))) := Lib.hid (by have := HOW.out.2; unfold OwnI at this; rwa [HOW.out.1] at this)
        clear hst hko HOW HC
        go_wp2_with fail
        refine HC2.out.mono ?_
        rintro e w3 ⟨rfl, rfl⟩
        clear HC2
        go_wp2_with (at_builtin; refine wpL_append1 rfl _ _ 84 rfl w2 3 (.int .i64 0) 1 8 Tryz.underlying84 hinfo rfl (by decide) (by decide) _ sn (ints (stk out k)) rfl (HOW1.out.alloc _) ⟨wr.heap.size, 0, none⟩ 1 [.int .i64 k] rfl rfl (cell_one_new _ _ _) (by simp [Value.oneCell']) (by omega) (HB.out.to_alloc _) ?_; intro g cap w4 hown4 hb4 _; have HOW4 : Hid ((stk out (k + 1)).length = sn + 1 ∧ OwnI w2.heap.size (stk out (k + 1)) w4 (.slice (some ⟨g, 0, none⟩) (sn + 1) cap)) := Lib.hid ⟨HX.out.1, by unfold OwnI; rw [HX.out.1, HX.out.2]; exact hown4⟩; have HB4 := Lib.hid hb4; clear hown4 hb4)
        exact ⟨⟨k + 1, sn + 1, _, _, by go_num, rfl, by omega, by omega, HOW4, HB4⟩, by simp [intOf]; omega⟩
    · have hki : ¬ (k : Int) < n := by omega
      obtain rfl : k = n := by omega
      have HZ : Hid ((sn = 0 ↔ Acyc N) ∧ sn ≤ 1048576 ∧ Bel w wr) := Lib.hid ⟨by rw [← HA2.out, HN.out, HOW.out.1], by omega, HY.out.trans HB.out⟩
      clear HOW HB HC HA2
      go_wp2_with fail
      go_ret2
      exact ⟨sn, oa, oc, rfl, HZ.out⟩
end Go.Proofs.YtbcdbefogfmhfaaGreatDoor
