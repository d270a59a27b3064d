/-
  The walk of names.Right.
  The walk of tipstaveref02.Right.
  Plain laws of scope: names in order, each once; insertion; what sorting and compacting gives.
  slices.Sorted(slices.Values(l)): a new slice of l's texts, sorted.
  The walks of the layer scope: slices.BinarySearch at names in order, Len, Has.
  The walks of the layer scope: With, New.
  The walks of the layer scope: New, Longest.
-/
import Derived.Test.YtbcdbefogfmhfaaGreatDoorMK
import Derived.Test.YtbcdbefogfmhfaaGreatDoorMT
import Derived.Lib.SlicesCompact
import Derived.Lib.Join
import Derived.Test.YtbcdbefogfmhfaaGreatDoorShelf
import Derived.Sort.OwnSorted
import Derived.Lib.RowBridge
import Derived.Deep.LoopGhost
import Derived.Test.YtbcdbefogfmhfaaGreatDoorMB
namespace Go.Proofs.YtbcdbefogfmhfaaGreatDoor
open Go.RowKit
set_option maxHeartbeats 400000 in
theorem right_c (s : ByteArray) (hs : s.size ≤ 4294967280) (w : World) (hE : Env w) :
    Calls Tryz.prog 84 #[.string s] w fun e w' => e = .returned (.bool (wordsS s).isSome) ∧ Bel w w' := by
  have hw := words_c s hs w hE
  obtain ⟨r, hr⟩ : ∃ r, wordsS s = r := ⟨_, rfl⟩
  rw [hr] at hw ⊢
  clear hr
  cases r
  · have HW := Lib.hid hw
    clear hw
    go_enter Tryz.func84, Tryz.ntmps84
    go_wp2_with fail
    refine HW.out.mono ?_
    rintro e w1 ⟨hb, rfl⟩
    go_wp2_with fail
    go_ret
    exact ⟨rfl, hb⟩
  · have HW := Lib.hid hw
    clear hw
    go_enter Tryz.func84, Tryz.ntmps84
    go_wp2_with fail
    refine HW.out.mono ?_
    rintro e w1 ⟨hb, v, rfl, _⟩
    go_wp2_with fail
    go_ret
    exact ⟨rfl, hb⟩
end Go.Proofs.YtbcdbefogfmhfaaGreatDoor

namespace Go.Proofs.YtbcdbefogfmhfaaGreatDoor
/-- One text stands ahead of another one. -/
def ltB (a b : ByteArray) : Prop := a.data.toList < b.data.toList
instance (a b : ByteArray) : Decidable (ltB a b) := inferInstanceAs (Decidable (a.data.toList < b.data.toList))
theorem data_ext {a b : ByteArray} (h : a.data.toList = b.data.toList) : a = b := by
  apply ByteArray.ext
  exact Array.ext' h
instance memDec (x : ByteArray) (N : List ByteArray) : Decidable (x ∈ N) := decidable_of_iff (x.data.toList ∈ N.map (·.data.toList)) ⟨fun h => by
  obtain ⟨y, hy, e⟩ := List.mem_map.1 h
  rw [← data_ext e]; exact hy, fun h => List.mem_map.2 ⟨x, h, rfl⟩⟩
theorem ltB_irrefl (a : ByteArray) : ¬ ltB a a := List.lt_irrefl _
theorem ltB_trans {a b c : ByteArray} (h : ltB a b) (k : ltB b c) : ltB a c := List.lt_trans h k
theorem ltB_tri (a b : ByteArray) : ltB a b ∨ a = b ∨ ltB b a := by
  by_cases h : ltB a b
  · exact .inl h
  · by_cases h2 : ltB b a
    · exact .inr (.inr h2)
    · exact .inr (.inl (data_ext (List.le_antisymm h2 h)))
theorem ltB_of (a b : ByteArray) (h : ¬ ltB b a) (hne : a ≠ b) : ltB a b := by
  rcases ltB_tri a b with h1 | h1 | h1
  · exact h1
  · exact absurd h1 hne
  · exact absurd h1 h
theorem bytesLess_ltB (a b : ByteArray) : Op.bytesLess a.toList b.toList = decide (ltB a b) := by
  rw [bytesLess_eq, Lib.toList_data, Lib.toList_data]; rfl
/-- In order, each once. -/
def Srt (l : List ByteArray) : Prop := l.Pairwise ltB
theorem Srt.nodup {l : List ByteArray} (h : Srt l) : l.Nodup := List.Pairwise.imp (fun hab e => by subst e; exact ltB_irrefl _ hab) h
theorem srt_nil : Srt [] := List.Pairwise.nil
theorem srt_head {x : ByteArray} {l : List ByteArray} (h : Srt (x :: l)) : ∀ y ∈ l, ltB x y := (List.pairwise_cons.1 h).1
theorem srt_tail {x : ByteArray} {l : List ByteArray} (h : Srt (x :: l)) : Srt l := (List.pairwise_cons.1 h).2
theorem srt_ext : ∀ {a b : List ByteArray}, Srt a → Srt b → (∀ x, x ∈ a ↔ x ∈ b) → a = b
  | [], [], _, _, _ => rfl
  | [], y :: b, _, _, h => absurd ((h y).2 (List.mem_cons_self ..)) (by simp)
  | x :: a, [], _, _, h => absurd ((h x).1 (List.mem_cons_self ..)) (by simp)
  | x :: a, y :: b, ha, hb, h => by
    have e : x = y := by
      rcases List.mem_cons.1 ((h x).1 (List.mem_cons_self ..)) with h1 | h1
      · exact h1
      · rcases List.mem_cons.1 ((h y).2 (List.mem_cons_self ..)) with h2 | h2
        · exact h2.symm
        · exact absurd (ltB_trans (srt_head ha y h2) (srt_head hb x h1)) (ltB_irrefl _)
    subst e
    rw [srt_ext (srt_tail ha) (srt_tail hb) fun z => ?_]
    constructor
    · intro hz
      rcases List.mem_cons.1 ((h z).1 (List.mem_cons_of_mem _ hz)) with h1 | h1
      · subst h1; exact absurd (srt_head ha z hz) (ltB_irrefl _)
      · exact h1
    · intro hz
      rcases List.mem_cons.1 ((h z).2 (List.mem_cons_of_mem _ hz)) with h1 | h1
      · subst h1; exact absurd (srt_head hb z hz) (ltB_irrefl _)
      · exact h1
/-- One more name, at its place. -/
def insS (x : ByteArray) : List ByteArray → List ByteArray
  | [] => [x]
  | y :: l => if x = y then y :: l else if ltB x y then x :: y :: l else y :: insS x l
theorem mem_insS (x z : ByteArray) : ∀ l, z ∈ insS x l ↔ z = x ∨ z ∈ l
  | [] => by simp [insS]
  | y :: l => by
    unfold insS
    by_cases h : x = y
    · subst h; rw [if_pos rfl]; simp
    · rw [if_neg h]
      by_cases h2 : ltB x y
      · rw [if_pos h2]; simp
      · rw [if_neg h2, List.mem_cons, mem_insS x z l, List.mem_cons]
        constructor
        · rintro (h | h | h) <;> simp [h]
        · rintro (h | h | h) <;> simp [h]
theorem srt_insS (x : ByteArray) : ∀ {l}, Srt l → Srt (insS x l)
  | [], _ => List.pairwise_singleton _ _
  | y :: l, h => by
    unfold insS
    by_cases h1 : x = y
    · rw [if_pos h1]; exact h
    · rw [if_neg h1]
      by_cases h2 : ltB x y
      · rw [if_pos h2]
        refine List.pairwise_cons.2 ⟨fun z hz => ?_, h⟩
        rcases List.mem_cons.1 hz with rfl | hz
        · exact h2
        · exact ltB_trans h2 (srt_head h z hz)
      · rw [if_neg h2]
        refine List.pairwise_cons.2 ⟨fun z hz => ?_, srt_insS x (srt_tail h)⟩
        rcases (mem_insS x z l).1 hz with rfl | hz
        · exact ltB_of y z h2 (fun e => h1 e.symm)
        · exact srt_head h z hz
/-- Some more names. -/
def addS (l more : List ByteArray) : List ByteArray := more.foldl (fun a x => insS x a) l
theorem mem_addS (z : ByteArray) : ∀ (more l : List ByteArray), z ∈ addS l more ↔ z ∈ l ∨ z ∈ more
  | [], l => by simp [addS]
  | x :: more, l => by
    rw [show addS l (x :: more) = addS (insS x l) more from rfl, mem_addS z more, mem_insS, List.mem_cons]
    constructor
    · rintro ((h | h) | h) <;> simp [h]
    · rintro (h | h | h) <;> simp [h]
theorem srt_addS : ∀ (more : List ByteArray) {l : List ByteArray}, Srt l → Srt (addS l more)
  | [], _, h => h
  | x :: more, _, h => srt_addS more (srt_insS x h)
theorem leL_trans (a b c : List UInt8) : decide (a ≤ b) = true → decide (b ≤ c) = true → decide (a ≤ c) = true := by
  simp only [decide_eq_true_eq]; exact List.le_trans
theorem leL_total (a b : List UInt8) : (decide (a ≤ b) || decide (b ≤ a)) = true := by
  simp only [Bool.or_eq_true, decide_eq_true_eq]; exact List.le_total a b
theorem lt_of_leL {a b : List UInt8} (h : a ≤ b) (hne : a ≠ b) : a < b := by
  by_cases h2 : a < b
  · exact h2
  · exact absurd (List.le_antisymm h (List.not_lt.1 h2)) hne
def sortL (l : List (List UInt8)) : List (List UInt8) := l.mergeSort fun x y => decide (x ≤ y)
theorem sortL_le (l : List (List UInt8)) : (sortL l).Pairwise (· ≤ ·) := (List.pairwise_mergeSort leL_trans leL_total l).imp fun h => by simpa using h
theorem mem_sortL (x : List UInt8) (l : List (List UInt8)) : x ∈ sortL l ↔ x ∈ l := (List.mergeSort_perm l _).mem_iff
theorem sortL_length (l : List (List UInt8)) : (sortL l).length = l.length := (List.mergeSort_perm l _).length_eq
theorem compactUpTo_inv (d : Array (List UInt8)) (h : d.toList.Pairwise (· ≤ ·)) : ∀ m, m ≤ d.size →
    (Lib.compactUpTo d m).Pairwise (· < ·) ∧ (∀ x, x ∈ Lib.compactUpTo d m ↔ ∃ j, j < m ∧ d[j]! = x) ∧ (∀ x ∈ Lib.compactUpTo d m, 0 < m → x ≤ d[m - 1]!)
  | 0, _ => ⟨List.Pairwise.nil, by simp [Lib.compactUpTo], by simp [Lib.compactUpTo]⟩
  | m + 1, hm => by
    obtain ⟨h1, h2, h3⟩ := compactUpTo_inv d h m (by omega)
    have hmono : ∀ i j, i ≤ j → j < d.size → d[i]! ≤ d[j]! := by
      intro i j hij hj
      rcases Nat.eq_or_lt_of_le hij with rfl | hlt
      · exact List.le_refl _
      · have := List.pairwise_iff_getElem.1 h i j (by simpa using Nat.lt_of_lt_of_le hlt (Nat.le_of_lt hj)) (by simpa using hj) hlt
        rw [getElem!_pos d i (by omega), getElem!_pos d j hj]
        simpa using this
    rw [Lib.compactUpTo_succ]
    have hle : ∀ x ∈ Lib.compactUpTo d m, x ≤ d[m]! := by
      intro x hx
      obtain ⟨j, hj, rfl⟩ := (h2 x).1 hx
      exact hmono j m (by omega) (by omega)
    by_cases hk : Lib.keeps d m = true
    · rw [if_pos hk]
      refine ⟨List.pairwise_append.2 ⟨h1, List.pairwise_singleton _ _, fun x hx y hy => ?_⟩, fun x => ?_, fun x hx _ => ?_⟩
      · obtain rfl := List.mem_singleton.1 hy
        obtain ⟨j, hj, rfl⟩ := (h2 x).1 hx
        have hne : d[m]! ≠ d[m - 1]! := by
          simp only [Lib.keeps, decide_eq_true_eq] at hk
          rcases hk with h | h
          · omega
          · exact h
        have hx1 := h3 _ hx (by omega)
        have hx2 : d[m - 1]! < d[m]! := lt_of_leL (hmono (m - 1) m (by omega) (by omega)) (fun e => hne e.symm)
        exact List.lt_of_le_of_lt hx1 hx2
      · rw [List.mem_append, h2, List.mem_singleton]
        constructor
        · rintro (⟨j, hj, h⟩ | h)
          · exact ⟨j, by omega, h⟩
          · exact ⟨m, by omega, h.symm⟩
        · rintro ⟨j, hj, h⟩
          rcases Nat.lt_or_eq_of_le (Nat.le_of_lt_succ hj) with h4 | h4
          · exact .inl ⟨j, h4, h⟩
          · subst h4; exact .inr h.symm
      · rw [Nat.add_sub_cancel]
        rcases List.mem_append.1 hx with h | h
        · exact hle x h
        · obtain rfl := List.mem_singleton.1 h; exact List.le_refl _
    · rw [if_neg hk, List.append_nil]
      have hk2 : m ≠ 0 ∧ d[m]! = d[m - 1]! := by
        simp only [Lib.keeps, decide_eq_true_eq, not_or] at hk
        exact ⟨hk.1, by simpa using hk.2⟩
      refine ⟨h1, fun x => ?_, fun x hx _ => ?_⟩
      · rw [h2]
        constructor
        · rintro ⟨j, hj, h⟩
          exact ⟨j, by omega, h⟩
        · rintro ⟨j, hj, h⟩
          rcases Nat.lt_or_eq_of_le (Nat.le_of_lt_succ hj) with h4 | h4
          · exact ⟨j, h4, h⟩
          · subst h4; exact ⟨j - 1, by omega, by rw [← hk2.2]; exact h⟩
      · rw [Nat.add_sub_cancel]; exact hle x hx
theorem compact_sorted (l : List (List UInt8)) (h : l.Pairwise (· ≤ ·)) : (Lib.compact l).Pairwise (· < ·) ∧ ∀ x, x ∈ Lib.compact l ↔ x ∈ l := by
  obtain ⟨h1, h2, _⟩ := compactUpTo_inv l.toArray (by simpa using h) l.length (by simp)
  refine ⟨h1, fun x => ?_⟩
  show x ∈ Lib.compactUpTo _ _ ↔ _
  rw [h2]
  constructor
  · rintro ⟨j, hj, rfl⟩
    rw [getElem!_pos _ j (by simpa using hj)]
    simp
  · intro hx
    obtain ⟨j, hj, rfl⟩ := List.getElem_of_mem hx
    exact ⟨j, hj, by rw [getElem!_pos _ j (by simpa using hj)]; simp⟩
/-- Sorted, each once. -/
def uniqS (l : List ByteArray) : List ByteArray := (Lib.compact (sortL (l.map (·.data.toList)))).map fun x => ⟨x.toArray⟩
theorem srt_uniqS (l : List ByteArray) : Srt (uniqS l) := by
  unfold uniqS Srt
  exact List.pairwise_map.2 ((compact_sorted _ (sortL_le _)).1.imp fun h => by unfold ltB; simpa using h)
theorem mem_uniqS (l : List ByteArray) (x : ByteArray) : x ∈ uniqS l ↔ x ∈ l := by
  unfold uniqS
  simp only [List.mem_map]
  constructor
  · rintro ⟨y, hy, rfl⟩
    obtain ⟨z, hz, rfl⟩ := List.mem_map.1 ((mem_sortL _ _).1 (((compact_sorted _ (sortL_le _)).2 y).1 hy))
    rw [show (⟨z.data.toList.toArray⟩ : ByteArray) = z from by cases z; rfl]
    exact hz
  · intro hx
    exact ⟨x.data.toList, ((compact_sorted _ (sortL_le _)).2 _).2 ((mem_sortL _ _).2 (List.mem_map.2 ⟨x, hx, rfl⟩)), by cases x; rfl⟩
def rightS (s : ByteArray) : Bool := (wordsS s).isSome
/-- P9.1: a scope's names with more, or why there is none. -/
def withS (N more : List ByteArray) : Option (List ByteArray) × Nat :=
  if more.all rightS = false then (none, 6) else if 4096 < (addS N more).length then (none, 19) else (some (addS N more), 0)
/-- The names that a scope of its own has beside another one's. -/
def ownS (N more : List ByteArray) : List ByteArray := (uniqS more).filter fun x => !decide (x ∈ N)
theorem srt_ownS (N more : List ByteArray) : Srt (ownS N more) := (srt_uniqS more).filter _
theorem mem_ownS (N more : List ByteArray) (x : ByteArray) : x ∈ ownS N more ↔ x ∈ more ∧ x ∉ N := by
  unfold ownS
  rw [List.mem_filter, mem_uniqS]; simp
theorem addS_perm (N more : List ByteArray) (h : Srt N) : (addS N more).Perm (ownS N more ++ N) := by
  refine (List.perm_ext_iff_of_nodup (srt_addS more h).nodup ?_).2 fun x => ?_
  · refine List.nodup_append.2 ⟨(srt_ownS N more).nodup, h.nodup, fun a ha b hb e => ?_⟩
    subst e
    exact ((mem_ownS _ _ _).1 ha).2 hb
  · rw [mem_addS, List.mem_append, mem_ownS]
    by_cases hx : x ∈ N <;> simp [hx]
theorem addS_length (N more : List ByteArray) (h : Srt N) : (addS N more).length = (ownS N more).length + N.length := by
  rw [(addS_perm N more h).length_eq, List.length_append]
/-- How many bytes they have, with one more each. -/
def sumS (l : List ByteArray) : Nat := (l.map fun s => s.size + 1).sum
theorem sumS_cons (x : ByteArray) (l : List ByteArray) : sumS (x :: l) = x.size + 1 + sumS l := by simp [sumS]
theorem sumS_append (A B : List ByteArray) : sumS (A ++ B) = sumS A + sumS B := by simp [sumS]
theorem sumS_take (l : List ByteArray) (n : Nat) : sumS (l.take n) ≤ sumS l := by
  have := sumS_append (l.take n) (l.drop n)
  rw [List.take_append_drop] at this
  omega
theorem len_sumS : ∀ l : List ByteArray, l.length ≤ sumS l
  | [] => Nat.zero_le _
  | x :: l => by have := len_sumS l; rw [sumS_cons, List.length_cons]; omega
theorem mem_sumS : ∀ (l : List ByteArray) (x : ByteArray), x ∈ l → x.size + 1 ≤ sumS l
  | y :: l, x, h => by
    rw [sumS_cons]
    rcases List.mem_cons.1 h with rfl | h
    · omega
    · have := mem_sumS l x h; omega
end Go.Proofs.YtbcdbefogfmhfaaGreatDoor

namespace Go.Proofs.YtbcdbefogfmhfaaGreatDoor
open Go.RowKit Go.Shelf
attribute [local go_sem] Oper.semAt_some
theorem info_str : (Tryz.prog.info? 9).map (fun i => (i.zero, i.size, i.bytes)) = some (some (.string ⟨#[]⟩), 1, 16) := by kernel_rfl
set_option maxRecDepth 100000 in
set_option maxHeartbeats 2000000 in
theorem appendSeq_of (n : Nat) (h1 : 1 ≤ n) (lb : Array Value) (Kp : World → World → Prop) (L : List Str) (Sp : List Str → Prop) (w : World) (hL : L.length ≤ 4294967296)
    (hseq : ∀ W0, Below w.heap.size w W0 → SeqStopsK Fence.wide (n - 1) Tryz.prog 117 lb (fun x : Str => #[Value.string x.1]) Kp (fun ys => ys = L) Sp L.length W0)
    (hKt : ∀ {A B C : World}, Kp A B → Kp B C → Kp A C) (hKb : ∀ (W : World) (l : Nat) (o o' : Obj), w.heap.size ≤ l → W.heap[l]? = some o → o.isCells = false → o.isWalk = false → Kp W (W.putObj l o')) (hKl : ∀ W W' : World, w.heap.size ≤ W.heap.size → Below w.heap.size W W' → Kp W W') :
    CallsIn Fence.wide n Tryz.prog 138 #[.slice none 0 0, .func (.func 117) #[] lb] w fun e W' =>
      ∃ v, e = .returned v ∧ W'.ownsRow w.heap.size 9 1 v L.length (L.map fun x => Value.string x.1) ∧ Below w.heap.size w W' := by
  obtain ⟨i0, hi, hz0, hz1, hz2⟩ := info_parts info_str
  refine callsIn_of_wp_marks Tryz.func138 rfl trivial ?_ rfl
  simp only [Tryz.ntmps138, List.size_toArray, List.length_cons, List.length_nil, Nat.reduceAdd, Nat.reduceSub, Array.replicate_succ, Array.replicate_zero, List.push_toArray, List.append_toArray, List.nil_append, List.cons_append]
  gi_wp2
  have cS := Boxed.new w 35 (.slice none 0 0)
  have hB0 : Below w.heap.size w (w.alloc (.cells #[.slice none 0 0] 35)) := (Below.refl _ w).alloc (Nat.le_refl _) _
  have hrow0 : (w.alloc (.cells #[.slice none 0 0] 35)).ownsRow w.heap.size 9 1 (.slice none 0 0) 0 [] := World.ownsRow_nil _ _ _ _
  have hsz : (w.alloc (.cells #[.slice none 0 0] 35)).heap.size = w.heap.size + 1 := by simp
  obtain ⟨W0, hW0⟩ : ∃ W0, w.alloc (.cells #[.slice none 0 0] 35) = W0 := ⟨_, rfl⟩
  rw [hW0] at cS hB0 hrow0 hsz ⊢
  refine wpIn_rangeFunc_ownG rfl h1 (gf := 117) (lb := lb) rfl trivial (enters_of Tryz.func117 (by kernel_rfl) rfl)
    (hseq W0 hB0) hKt (fun W l o o' hl => hKb W l o o' (by omega)) (Below.refl _ _) (fun _ => rfl)
    (fun pre W => ((∃ v, Boxed W w.heap.size 35 v ∧ W.ownsRow w.heap.size 9 1 v pre.length (pre.map fun x => Value.string x.1) ∧ True) ∧ W0.heap.size ≤ W.heap.size) ∧ Below w.heap.size w W)
    (fun _ _ _ => False)
    (OwnFrom.and (OwnFrom.and (Own.from (holdsRow_own w.heap.size w.heap.size 35 9 1 (fun pre : List Str => pre.length) (fun pre => pre.map fun x => Value.string x.1) (fun _ _ => True)) _) (fun s A B row hs hg hr => Nat.le_trans hs hg.size)) (ownFrom_below (Nat.le_refl _) (by omega)))
    (fun _ _ _ _ _ hs _ _ => hs)
    ⟨⟨⟨_, cS, hrow0, trivial⟩, Nat.le_refl _⟩, hB0⟩
    ?act1 ?assign ?body ?done ?stop
  case assign =>
    intro l x W K hK
    gi_wp2
    exact hK
  case body =>
    rintro l pre x W ⟨⟨⟨v, hv, hrow, _⟩, hge⟩, hB⟩ hlt
    have hvc := hv.cell
    have hle : w.heap.size ≤ W.heap.size := by omega
    gi_wp2_with (gi_at_builtin; refine wpListIn_append_own _ rfl _ _ 35 rfl w.heap.size 9 i0 (.string ⟨#[]⟩) 1 16 Tryz.underlying35 hi hz0 hz1 hz2 rfl (by decide) _ _ _ rfl (hrow.alloc _) ⟨W.heap.size, 0, none⟩ 1 1 [.string x.1] rfl rfl (cell_one_new _ _ _) (by simp [Value.oneCell']) (by unfold maxLen; omega) (by omega) (by simp; omega) ?_; intro v' w1 hown' hgrow _; obtain ⟨g', cap', rfl⟩ := ownsRow_succ hown'; obtain ⟨hv1, hv2, hr2, hk2, hb2⟩ := hv.appended (by decide) hrow hle (Nat.le_refl _) hown' hgrow; have hc1 := hv1.cell; have hf1 := hv1.frozen)
    refine ⟨hk2.from _, hKl _ _ hle hb2, ⟨⟨⟨_, hv2, ?_, trivial⟩, Nat.le_trans hge hb2.size⟩, hB.trans hb2⟩⟩
    simpa using hr2
  case done =>
    rintro D ys W hD rfl ⟨⟨⟨v, hv, hrow, _⟩, hge⟩, hB⟩ hK
    have hvc := hv.cell
    gi_wp2
    refine ⟨by simp, .inl ⟨_, _, rfl, run_takeDeferred hK, ?_⟩⟩
    exact ⟨_, results_tmp rfl _ _ _, _, rfl, ownsRow_putObj hrow _ hK rfl, hB.trans (belowK_b (w := w) (Nat.le_refl _) W D _ _ (by omega) hK rfl rfl)⟩
  case stop =>
    rintro D c pre W _ _ h _
    exact h.elim
/-- slices.Values of no text. -/
theorem values_none (F : Fence) (n : Nat) (h7 : F.fn 117) (hro : F.round = none) (Bs cap : Nat) (a : Option Addr) (w : World) (hBs : Bs < w.heap.size)
    (hc : w.cell? ⟨Bs, 0, none⟩ = some (.slice a 0 cap)) :
    SeqStopsK F n Tryz.prog 117 #[.pointer (some ⟨Bs, 0, none⟩)] (fun x : Str => #[Value.string x.1]) (fun _ _ => True) (fun ys => ys = []) (fun _ => False) 0 w := fun l J Jx W hW _ _ hY h0 => by
  have hc' := (hW.cell (p := ⟨Bs, 0, none⟩) hBs).trans hc
  refine callsIn_of_wp Tryz.func117 rfl h7 ?_ hro
  simp only [Tryz.ntmps117, List.size_toArray, List.length_cons, List.length_nil, Nat.reduceAdd, Nat.reduceSub, Array.replicate_succ, Array.replicate_zero, List.push_toArray, List.append_toArray, List.nil_append, List.cons_append]
  gi_wp2
  gi_loopw [7] (fun i wr => i = .int .i64 0 ∧ J [] wr) (fun i _ => (intOf i).toNat)
  case atStart => exact ⟨rfl, h0⟩
  case round =>
    obtain ⟨rfl, hJs⟩ := hrel
    gi_wp2
    go_end0
    exact ⟨⟨_, rfl⟩, .inl ⟨_, rfl, hJs⟩⟩
/-- A text of a list, or none. -/
def strAt (l : List ByteArray) (h : ∀ x ∈ l, x.size ≤ maxLen) (j : Nat) : Str := ⟨l.getD j ⟨#[]⟩, by
  by_cases hj : j < l.length
  · rw [List.getD_eq_getElem?_getD, List.getElem?_eq_getElem hj]; exact h _ (List.getElem_mem hj)
  · rw [List.getD_eq_getElem?_getD, List.getElem?_eq_none (by omega)]; exact Nat.zero_le _⟩
theorem upto_strAt (l : List ByteArray) (h : ∀ x ∈ l, x.size ≤ maxLen) : (upto (strAt l h) l.length).map (fun x => Value.string x.1) = strsV l := by
  unfold upto strsV
  rw [List.map_map]
  apply List.ext_getElem
  · simp
  · intro i h1 h2
    have hi : i < l.length := by simpa using h1
    simp [strAt, List.getElem?_eq_getElem hi]
/-- slices.AppendSeq(nil, slices.Values(l)), in the world behind Values. -/
theorem appendSeq_values (sl : Value) (l : List ByteArray) (w0 : World) (hv : RowE w0 sl (strsV l)) (hl : l.length ≤ 4294967296) (hx : ∀ x ∈ l, x.size ≤ maxLen) (w : World) (hBw : Bel (w0.alloc (.cells #[sl] 35)) w) :
    Calls Tryz.prog 138 #[.slice none 0 0, .func (.func 117) #[] #[.pointer (some ⟨w0.heap.size, 0, none⟩)]] w fun e W' =>
      ∃ v, e = .returned v ∧ W'.ownsRow w.heap.size 9 1 v l.length (strsV l) ∧ Bel w W' := by
  have hB := Boxed.new w0 35 sl
  have hBl : w0.heap.size < w.heap.size := by have := hBw.size; simp at this; omega
  have hBc : w.cell? ⟨w0.heap.size, 0, none⟩ = some sl := hBw.keep hB.cell
  refine (callsIn_wide (n := 5)).1 ?_
  obtain ⟨a, cap, rfl, hcap, h0 | ⟨b, off, rfl, hlt, hc⟩⟩ := hv.bel ((Bel.alloc w0 _).trans hBw)
  · have : l = [] := by cases l with
      | nil => rfl
      | cons a l => simp [strsV] at h0
    subst this
    exact appendSeq_of 5 (by omega) _ (fun _ _ => True) [] (fun _ => False) w (by simp) (fun W0 h0 => values_none Fence.wide 4 trivial rfl _ _ _ W0 (Nat.lt_of_lt_of_le hBl (Below.size h0)) ((Bel.cell h0 hBl).trans hBc))
      (fun _ _ => trivial) (fun _ _ _ _ _ _ _ _ => trivial) (fun _ _ _ _ => trivial)
  · rw [strsV_length] at hBc
    have hlen : (upto (strAt l hx) l.length).length = l.length := upto_length _ _
    have h := appendSeq_of 5 (by omega) #[.pointer (some ⟨w0.heap.size, 0, none⟩)] (KeepB b) (upto (strAt l hx) l.length) (fun pre => pre <+: upto (strAt l hx) l.length) w (by rw [hlen]; exact hl)
      (fun W0 h0 => by
        rw [hlen]
        exact values_stops Fence.wide 4 trivial rfl (by omega) _ b off l.length cap (strAt l hx) (by omega) W0 (Nat.lt_of_lt_of_le hBl (Below.size h0)) (Nat.lt_of_lt_of_le hlt (Below.size h0)) ((Bel.cell h0 hBl).trans hBc)
          (fun j hj => by
            rw [Bel.cell h0 hlt, hc j (by rw [strsV_length]; exact hj)]
            simp [strsV, strAt, List.getElem?_eq_getElem hj]))
      KeepB.trans (KeepB.putObj w.heap.size hlt) (fun W W' hle hbb => hbb.block b (by omega))
    rw [hlen, upto_strAt] at h
    exact h
theorem values_c (sl : Value) (l : List ByteArray) (w : World) (hv : RowE w sl (strsV l)) :
    Calls Tryz.prog 87 #[sl] w fun e w' => e = .returned (.func (.func 117) #[] #[.pointer (some ⟨w.heap.size, 0, none⟩)]) ∧ w.alloc (.cells #[sl] 35) = w' := by
  refine (callsIn_wide (n := 5)).1 ?_
  obtain ⟨a, cap, rfl, _⟩ := hv
  exact (values_in Fence.wide 5 trivial rfl _ _ _ w).mono fun e w' ⟨he, hw⟩ => ⟨he, hw.symm⟩
set_option maxHeartbeats 400000 in
theorem collect_c (sl : Value) (l : List ByteArray) (w0 : World) (hv : RowE w0 sl (strsV l)) (hl : l.length ≤ 4294967296) (hx : ∀ x ∈ l, x.size ≤ maxLen) (w : World) (hBw : Bel (w0.alloc (.cells #[sl] 35)) w) :
    Calls Tryz.prog 115 #[.func (.func 117) #[] #[.pointer (some ⟨w0.heap.size, 0, none⟩)]] w fun e W' =>
      ∃ v, e = .returned v ∧ W'.ownsRow w.heap.size 9 1 v l.length (strsV l) ∧ Bel w W' := by
  have h := fun w1 (h1 : Bel w w1) => appendSeq_values sl l w0 hv hl hx w1 (hBw.trans h1)
  have H := Lib.hid h
  clear h hv hBw
  go_enter Tryz.func115, Tryz.ntmps115
  go_wp2_with (go_at_call 138; refine (H.out _ (Bel.refl _)).mono ?_; rintro e w1 ⟨v, rfl, hown, hb⟩)
  go_ret
  exact ⟨_, rfl, hown, by assumption⟩
theorem strsV_enc (l : List ByteArray) : strsV l = (l.map (·.data.toList)).map encStr := by
  unfold strsV
  rw [List.map_map]
  refine List.map_congr_left fun x _ => ?_
  show Value.string x = Value.string ⟨x.data.toList.toArray⟩
  rw [show (⟨x.data.toList.toArray⟩ : ByteArray) = x from by cases x; rfl]
def bsL (l : List (List UInt8)) : List ByteArray := l.map fun x => ⟨x.toArray⟩
theorem strsV_bsL (l : List (List UInt8)) : strsV (bsL l) = l.map encStr := by
  unfold strsV bsL
  rw [List.map_map]; rfl
/-- slices.Sort of a slice of the call's own. -/
theorem sort_c (W1 : World) (v : Value) (l : List ByteArray) (w : World) (hown : w.ownsRow W1.heap.size 9 1 v l.length (strsV l)) (hl : l.length ≤ 4294967296) (hb : Bel W1 w) :
    Calls Tryz.prog 116 #[v] w fun e w' => e = .returned (.tuple #[]) ∧ w'.ownsRow W1.heap.size 9 1 v l.length (strsV (bsL (sortL (l.map (·.data.toList))))) ∧ Bel W1 w' := by
  rcases hown.2 with ⟨rfl, hz⟩ | ⟨g, cap, cur, rfl, hbase, hgb, r1, r2, r3, r4⟩
  · have hl0 : l = [] := List.eq_nil_of_length_eq_zero hz
    subst hl0
    exact (Tryz.slices_Sort_string_none none 0 w).mono fun e w' ⟨he, hw⟩ => ⟨he, by subst hw; simpa [sortL, bsL, strsV] using hown, by subst hw; exact hb⟩
  · have hlen : (l.map (·.data.toList)).length = l.length := by simp
    have hH : Go.Sort.Holds encStr w g 0 (l.map (·.data.toList)).toArray := holds_of_block hgb (by rw [hlen, ← strsV_enc]; simpa using r4)
    have h := Tryz.slices_Sort_string g 0 cap (l.map (·.data.toList)) w hH (Array.getElem?_eq_some_iff.1 hgb).1 (by rw [hlen]; omega)
    rw [hlen] at h
    refine h.mono fun e w' ⟨he, n, os, hw⟩ => ⟨he, ?_, ?_⟩
    · rw [hw, strsV_bsL]
      have := ownsRow_sorted (os := os) (n := n) (ss := l.map (·.data.toList)) (ts := sortL (l.map (·.data.toList))) (sortL_length _) hbase hgb (by rw [hlen]; exact r1) r2 r3
      rw [hlen] at this
      exact this
    · rw [hw]
      exact Below.grown hb (grownBy_sorted _) hb.size (fun j hj => by cases hj; exact hbase)
set_option maxHeartbeats 1000000 in
/-- slices.Sorted(slices.Values(l)). -/
theorem sorted_c (sl : Value) (l : List ByteArray) (w0 : World) (hv : RowE w0 sl (strsV l)) (hl : l.length ≤ 4294967296) (hx : ∀ x ∈ l, x.size ≤ maxLen) (w : World) (hBw : Bel (w0.alloc (.cells #[sl] 35)) w) :
    Calls Tryz.prog 86 #[.func (.func 117) #[] #[.pointer (some ⟨w0.heap.size, 0, none⟩)]] w fun e W' =>
      ∃ v, e = .returned v ∧ W'.ownsRow w.heap.size 9 1 v l.length (strsV (bsL (sortL (l.map (·.data.toList))))) ∧ Bel w W' := by
  have h := fun w1 (h1 : Bel w w1) => collect_c sl l w0 hv hl hx w1 (hBw.trans h1)
  have H := Lib.hid h
  clear h hv hBw
  go_enter Tryz.func86, Tryz.ntmps86
  go_wp2_with fail
  refine (H.out _ (Bel.refl _)).mono ?_
  rintro e w1 ⟨v, rfl, hown, hb⟩
  have hs := sort_c w v l w1 hown hl hb
  have HS := Lib.hid hs
  clear hs hown
  go_wp2_with fail
  refine HS.out.mono ?_
  rintro e w2 ⟨rfl, hown2, hb2⟩
  go_wp2_with fail
  go_ret
  exact ⟨_, rfl, hown2, hb2⟩
/-- slices.Compact of a slice of the call's own, that is in order. -/
theorem compact_c (W1 : World) (v : Value) (l : List (List UInt8)) (w : World) (hown : w.ownsRow W1.heap.size 9 1 v l.length (strsV (bsL l))) (hl : l.length ≤ 4294967296) (hb : Bel W1 w) :
    Calls Tryz.prog 85 #[v] w fun e w' => ∃ u, e = .returned u ∧ RowAt0 w' u (strsV (bsL (Lib.compact l))) ∧ Bel W1 w' := by
  rcases hown.2 with ⟨rfl, hz⟩ | ⟨g, cap, cur, rfl, hbase, hgb, r1, r2, r3, r4⟩
  · have hl0 : l = [] := List.eq_nil_of_length_eq_zero hz
    subst hl0
    exact (Tryz.slices_Compact_string_empty none 0 w).mono fun e w' ⟨he, hw⟩ => ⟨_, he, .inl ⟨rfl, rfl⟩, by subst hw; exact hb⟩
  · have hH : Go.Sort.Holds encStr w g 0 l.toArray := holds_of_block hgb (by rw [← strsV_bsL]; simpa using r4)
    have hle := Lib.compact_length_le l
    refine (Tryz.slices_Compact_string g 0 cap l w hH (by omega) r1).mono fun e w' ⟨he, q, hw⟩ => ⟨_, he, .inr ⟨g, 0, cap, ?_, ?_, ?_, ?_⟩, ?_⟩
    · rw [strsV_bsL, List.length_map]
    · rw [strsV_bsL, List.length_map]; omega
    · rw [hw]; simpa using (Array.getElem?_eq_some_iff.1 hgb).1
    · intro j hj
      have hj2 : j < (Lib.compact l).length := by rw [strsV_bsL, List.length_map] at hj; exact hj
      rw [hw, Go.Sort.cell?_putRow encStr _ g 0 l.toArray _ (Go.Sort.holds_ahead _ _ _ _ _ _ hH) (by simp; omega) j (by simp; omega)]
      simp only [strsV_bsL, List.getElem_map]
      rw [getElem!_pos _ j (by simp; omega)]
      simp [List.getElem_append_left hj2]
    · rw [hw]
      have hg := grownBy_sorted (w := w) (g := g) (n := q) (os := #[]) (Lib.compact l ++ List.replicate (l.length - (Lib.compact l).length) []).toArray
      have e : Go.Sort.grow (Go.Sort.putRow encStr (Go.Sort.ahead w q) g 0 (Lib.compact l ++ List.replicate (l.length - (Lib.compact l).length) []).toArray) #[] = Go.Sort.putRow encStr (Go.Sort.ahead w q) g 0 (Lib.compact l ++ List.replicate (l.length - (Lib.compact l).length) []).toArray := by simp [Go.Sort.grow]; rfl
      rw [e] at hg
      exact Below.grown hb hg hb.size (fun j hj => by cases hj; exact hbase)
end Go.Proofs.YtbcdbefogfmhfaaGreatDoor

namespace Go.Proofs.YtbcdbefogfmhfaaGreatDoor
open Go.RowKit
theorem less_head : ∀ (own : List ByteArray) (x : ByteArray), Srt own → ∀ t, t < own.length → (Op.bytesLess (own.getD t x).toList x.toList = true ↔ t < (own.takeWhile fun y => decide (ltB y x)).length)
  | [], _, _, t, h => absurd h (by simp)
  | y :: l, x, hs, t, h => by
    rw [bytesLess_ltB, decide_eq_true_eq, List.takeWhile_cons]
    by_cases hy : ltB y x
    · rw [if_pos (by simpa using hy)]
      cases t with
      | zero => simpa using hy
      | succ t =>
        have := less_head l x (srt_tail hs) t (by simpa using h)
        rw [bytesLess_ltB, decide_eq_true_eq] at this
        simpa using this
    · rw [if_neg (by simpa using hy)]
      refine ⟨fun h1 => absurd ?_ hy, fun h1 => absurd h1 (by simp)⟩
      cases t with
      | zero => simpa using h1
      | succ t =>
        have h2 : (l.getD t x) ∈ l := by
          have ht : t < l.length := by simpa using h
          rw [List.getD_eq_getElem?_getD, List.getElem?_eq_getElem ht]; simp
        exact ltB_trans (srt_head hs _ h2) (by simpa using h1)
theorem takeWhile_le {α : Type} (p : α → Bool) (l : List α) : (l.takeWhile p).length ≤ l.length := (List.takeWhile_sublist p).length_le
theorem search_at (own : List ByteArray) (x : ByteArray) (hs : Srt own) : Lib.bsGo (fun t => Op.bytesLess (own.getD t x).toList x.toList) own.length 0 own.length = (own.takeWhile fun y => decide (ltB y x)).length := by
  refine Lib.bsGo_spec _ _ (fun t ht => ?_) (fun t ht => ?_) _ _ _ (by omega) (Nat.zero_le _) (takeWhile_le _ _)
  · exact (less_head own x hs t (Nat.lt_of_lt_of_le ht (takeWhile_le _ _))).2 ht
  · by_cases h : t < own.length
    · have := less_head own x hs t h
      cases hb : Op.bytesLess (own.getD t x).toList x.toList
      · rfl
      · exact absurd (this.1 hb) (by omega)
    · rw [List.getD_eq_getElem?_getD, List.getElem?_eq_none (by omega), Option.getD_none, bytesLess_ltB]
      exact decide_eq_false (ltB_irrefl _)
theorem search_found : ∀ (own : List ByteArray) (x : ByteArray), Srt own → (((own.takeWhile fun y => decide (ltB y x)).length < own.length ∧ own.getD (own.takeWhile fun y => decide (ltB y x)).length x = x) ↔ x ∈ own)
  | [], x, _ => by simp
  | y :: l, x, hs => by
    rw [List.takeWhile_cons]
    by_cases hy : ltB y x
    · rw [if_pos (by simpa using hy)]
      have := search_found l x (srt_tail hs)
      rw [List.length_cons, List.length_cons, Nat.add_lt_add_iff_right, List.getD_cons_succ, this, List.mem_cons]
      exact ⟨.inr, fun h => h.elim (fun e => absurd hy (e ▸ ltB_irrefl _)) id⟩
    · rw [if_neg (by simpa using hy)]
      simp only [List.length_nil, List.length_cons, List.getD_cons_zero, List.mem_cons]
      constructor
      · exact fun h => .inl h.2.symm
      · rintro (h | h)
        · exact ⟨by omega, h.symm⟩
        · exact absurd (srt_head hs x h) hy
theorem search_c (sl : Value) (own : List ByteArray) (x : ByteArray) (w : World) (hs : Srt own) (hv : RowAt0 w sl (strsV own)) (hl : own.length ≤ 4294967290) :
    Calls Tryz.prog 46 #[sl, .string x] w fun e w' => ∃ i : Int, e = .returned (.tuple #[.int .i64 i, .bool (decide (x ∈ own))]) ∧ ∃ n, w.drewN n = w' := by
  rcases hv with ⟨rfl, h0⟩ | ⟨b, off, cap, rfl, hcap, hlt, hc⟩
  · have : own = [] := by cases own with
      | nil => rfl
      | cons a l => simp [strsV] at h0
    subst this
    exact (Tryz.slices_BinarySearch_string_empty none 0 x w).mono fun e w' ⟨he, hw⟩ => ⟨0, by rw [he]; simp, 0, hw.symm⟩
  · rw [strsV_length]
    have h := Tryz.slices_BinarySearch_string b off own.length cap (fun t => own.getD t x) x w (by omega) (fun j hj => by
      rw [hc j (by rw [strsV_length]; exact hj)]
      simp [strsV, List.getElem?_eq_getElem hj])
    rw [search_at own x hs] at h
    refine h.mono fun e w' ⟨he, n, hw⟩ => ⟨((own.takeWhile fun y => decide (ltB y x)).length : Nat), ?_, n, hw.symm⟩
    rw [he]
    have := search_found own x hs
    congr 3
    simp only [this]
/-- Block b holds a scope's object. -/
def Scp (W : World) (b : Nat) (u sl : Value) (n : Nat) : Prop := W.heap[b]? = some (.cells #[u, sl, .int .i64 n] 102 (0, 0))
section
variable {w : World} {b n : Nat} {u sl : Value}
theorem Scp.lt (h : Scp w b u sl n) : b < w.heap.size := (Array.getElem?_eq_some_iff.1 h).1
theorem Scp.c0 (h : Scp w b u sl n) : w.cell? ⟨b, 0, none⟩ = some u := by unfold Scp at h; simp [World.cell?, h]
theorem Scp.c1 (h : Scp w b u sl n) : w.cell? ⟨b, 1, none⟩ = some sl := by unfold Scp at h; simp [World.cell?, h]
theorem Scp.c2 (h : Scp w b u sl n) : w.cell? ⟨b, 2, none⟩ = some (.int .i64 n) := by unfold Scp at h; simp [World.cell?, h]
theorem Scp.fz (h : Scp w b u sl n) (o : Nat) : w.frozen? ⟨b, o, none⟩ = false := by unfold Scp at h; simp [World.frozen?, h]
theorem Scp.set1 (h : Scp w b u sl n) (z : Value) : Scp (w.setCell ⟨b, 1, none⟩ z) b u z n := by unfold Scp at h ⊢; simp [World.setCell, Array.getElem?_modify, h]
theorem Scp.set2 (h : Scp w b u sl n) (k : Nat) : Scp (w.setCell ⟨b, 2, none⟩ (.int .i64 k)) b u sl k := by unfold Scp at h ⊢; simp [World.setCell, Array.getElem?_modify, h]
theorem Scp.bel {w' : World} (h : Scp w b u sl n) (hb : Bel w w') : Scp w' b u sl n := (hb.block h.lt).trans h
theorem Scp.new (w : World) (u sl : Value) (n : Nat) : Scp (w.alloc (.cells #[u, sl, .int .i64 n] 102)) w.heap.size u sl n := World.alloc_heap_new _ _
end
/-- v is a scope: its own names, and those of the scopes above it. -/
def ScopeAt (W : World) : Value → List (List ByteArray) → Prop
  | v, [] => v = .pointer none
  | v, own :: C => ∃ b u sl, v = .pointer (some ⟨b, 0, none⟩) ∧ Scp W b u sl (own :: C).flatten.length ∧ RowAt0 W sl (strsV own) ∧ Srt own ∧ ScopeAt W u C
theorem ScopeAt.bel {W W' : World} (hb : Bel W W') : ∀ {C : List (List ByteArray)} {v : Value}, ScopeAt W v C → ScopeAt W' v C
  | [], _, h => h
  | _ :: C, _, ⟨b, u, sl, h1, h2, h3, h4, h5⟩ => ⟨b, u, sl, h1, h2.bel hb, h3.bel hb, h4, ScopeAt.bel hb (C := C) h5⟩
/-- v is a scope of the names N, in order. -/
def ScopeIs (W : World) (v : Value) (N : List ByteArray) : Prop := (Srt N ∧ ∀ x ∈ N, x.size ≤ 4294967280) ∧ N.length ≤ 4096 ∧ ∃ C, ScopeAt W v C ∧ N.Perm C.flatten
theorem ScopeIs.bel {W W' : World} {v : Value} {N : List ByteArray} (h : ScopeIs W v N) (hb : Bel W W') : ScopeIs W' v N := by
  obtain ⟨h1, h2, C, h3, h4⟩ := h
  exact ⟨h1, h2, C, h3.bel hb, h4⟩
theorem ScopeIs.none (W : World) : ScopeIs W (.pointer none) [] := ⟨⟨srt_nil, by simp⟩, by simp, [], rfl, List.Perm.refl _⟩
set_option maxHeartbeats 400000 in
theorem len_c (v : Value) (N : List ByteArray) (w : World) (h : ScopeIs w v N) :
    Calls Tryz.prog 83 #[v] w fun e w' => e = .returned (.int .i64 N.length) ∧ w = w' := by
  obtain ⟨_, hle, C, hv, hpm⟩ := h
  rw [hpm.length_eq] at hle ⊢
  cases C with
  | nil =>
    obtain rfl : v = .pointer none := hv
    go_enter Tryz.func83, Tryz.ntmps83
    go_wp2_with fail
    go_ret
    exact ⟨rfl, rfl⟩
  | cons own C =>
    obtain ⟨b, u, sl, rfl, h1, _⟩ := hv
    obtain ⟨n, hn⟩ : ∃ n, (own :: C).flatten.length = n := ⟨_, rfl⟩
    rw [hn] at h1 ⊢
    have q2 := h1.c2
    clear hn
    go_enter Tryz.func83, Tryz.ntmps83
    go_wp2_with fail
    go_ret
    exact ⟨rfl, rfl⟩
set_option maxHeartbeats 1000000 in
theorem has_q (v : Value) (N : List ByteArray) (x : ByteArray) (w : World) (h : ScopeIs w v N) :
    Calls Tryz.prog 19 #[v, .string x] w fun e w' => e = .returned (.bool (decide (x ∈ N))) ∧ ∃ n, w.drewN n = w' := by
  obtain ⟨_, hle, C, hv, hpm⟩ := h
  obtain ⟨R, hR⟩ : ∃ R, decide (x ∈ N) = R := ⟨_, rfl⟩
  rw [hR]
  have hr : decide (x ∈ C.flatten) = R := by rw [← hR]; exact decide_eq_decide.2 hpm.mem_iff.symm
  rw [hpm.length_eq] at hle
  have HV := Lib.hid hv
  have HR := Lib.hid hr
  have HL := Lib.hid hle
  clear hpm hR hv hr hle
  go_enter Tryz.func19, Tryz.ntmps19
  go_wp2_with fail
  go_step3
  go_wp2_with fail
  go_step3
  go_wp2_with fail
  go_loopg [0, 5] (C.length) (fun g s f wr => ∃ D : List (List ByteArray), ScopeAt wr s D ∧ f = .bool false ∧ (∃ m, w.drewN m = wr) ∧ D.flatten.length ≤ 4096 ∧ decide (x ∈ D.flatten) = R ∧ D.length ≤ g)
  case atStart => exact ⟨C, HV.out, rfl, ⟨0, rfl⟩, HL.out, HR.out, Nat.le_refl _⟩
  case round =>
    obtain ⟨D, hs, rfl, ⟨m, hb⟩, hl, hr, hg⟩ := hrel
    have HBM := Lib.hid hb
    clear hb
    cases D with
    | nil =>
      obtain rfl : _ = Value.pointer none := hs
      obtain rfl : R = false := by rw [← hr]; simp
      go_wp2_with fail
      simp only [Exit.noGoto_ret]
      go_ret
      exact ⟨rfl, m, HBM.out⟩
    | cons own D =>
      obtain ⟨b, u, sl, rfl, h1, h2, h3, h4⟩ := hs
      rw [List.flatten_cons, List.length_append] at hl
      have hc := fun w1 (hb1 : Bel wr w1) => search_c sl own x w1 h3 (h2.bel hb1) (by omega)
      have q0 := h1.c0
      have q1 := h1.c1
      have H4 := Lib.hid h4
      have H1 := Lib.hid h1
      have HRR := Lib.hid hr
      have HC := Lib.hid hc
      have HG : Hid (D.length + 1 ≤ _) := Lib.hid hg
      have HLL := Lib.hid hl
      obtain ⟨F, hF⟩ : ∃ F, decide (x ∈ own) = F := ⟨_, rfl⟩
      rw [hF] at HC
      have HF := Lib.hid hF
      clear h1 h2 h3 h4 hr hc hg hl hF
      cases F
      · go_wp2_with (go_at_call 46; refine (HC.out _ (Bel.refl _)).mono ?_; rintro e w1 ⟨i, rfl, n1, hn1⟩; have hb1 : Bel wr w1 := hn1 ▸ Bel.drewN wr n1; have q0' := (Scp.bel H1.out hb1).c0; have HN1 := Lib.hid hn1; clear hn1)
        go_roundg (gk - 1)
        case measure => have := HG.out; omega
        case rel =>
          refine ⟨D, H4.out.bel (by assumption), rfl, ⟨m + n1, by rw [← HN1.out, ← HBM.out]; simp [World.drewN, Nat.add_assoc]⟩, by have := HLL.out; omega, ?_, by have := HG.out; omega⟩
          rw [← HRR.out, List.flatten_cons]
          have := of_decide_eq_false HF.out
          simp [this]
      · go_wp2_with (go_at_call 46; refine (HC.out _ (Bel.refl _)).mono ?_; rintro e w1 ⟨i, rfl, n1, hn1⟩; have HN1 := Lib.hid hn1; clear hn1)
        simp only [Exit.noGoto_ret]
        go_ret
        refine ⟨?_, m + n1, by rw [← HN1.out, ← HBM.out]; simp [World.drewN, Nat.add_assoc]⟩
        have := of_decide_eq_true HF.out
        rw [← HRR.out, List.flatten_cons]
        simp [this]
theorem has_c (v : Value) (N : List ByteArray) (x : ByteArray) (w : World) (h : ScopeIs w v N) :
    Calls Tryz.prog 19 #[v, .string x] w fun e w' => e = .returned (.bool (decide (x ∈ N))) ∧ Bel w w' :=
  (has_q v N x w h).mono fun _ _ ⟨he, _, hn⟩ => ⟨he, hn ▸ Bel.drewN _ _⟩
end Go.Proofs.YtbcdbefogfmhfaaGreatDoor

namespace Go.Proofs.YtbcdbefogfmhfaaGreatDoor
open Go.RowKit
def RetWith (r : Option (List ByteArray) × Nat) (w : World) (e : Ending) (w' : World) : Prop :=
  Bel w w' ∧ match r.1 with
  | none => e = .returned (.tuple #[.pointer none, .int .i64 r.2])
  | some M => ∃ p, e = .returned (.tuple #[p, .int .i64 0]) ∧ ScopeIs w' p M
theorem info_str2 : (Tryz.prog.info? 9).map (fun i => (i.zero, i.size, i.bytes)) = some (some (.string ⟨#[]⟩), 1, 16) := by kernel_rfl
theorem take_snoc' {α : Type} (l : List α) (k : Nat) (h : k < l.length) : l.take (k + 1) = l.take k ++ [l[k]] := (List.take_succ_eq_append_getElem h)
theorem filter_snoc (l : List ByteArray) (p : ByteArray → Bool) (k : Nat) (h : k < l.length) : (l.take (k + 1)).filter p = (l.take k).filter p ++ (if p l[k] = true then [l[k]] else []) := by
  rw [take_snoc' l k h, List.filter_append]
  congr 1
  by_cases hp : p l[k] = true <;> simp [hp]
theorem Scp.no_str {w : World} {b n o : Nat} {po : Option Addr} {sl : Value} {x : ByteArray} (h : Scp w b (.pointer po) sl n) (hs : ∀ y, sl ≠ .string y) : w.cell? ⟨b, o, none⟩ ≠ some (.string x) := by
  unfold Scp at h
  simp only [World.cell?, h]
  intro h1
  have h2 : (#[Value.pointer po, sl, .int .i64 n] : Array Value)[o]? = some (.string x) := h1
  match o, h2 with
  | 0, h2 => simp at h2
  | 1, h2 => simp at h2; exact hs _ h2
  | 2, h2 => simp at h2
  | o + 3, h2 => simp at h2
theorem scope_ptr {w : World} {v : Value} {N : List ByteArray} (h : ScopeIs w v N) : ∃ po, v = .pointer po := by
  obtain ⟨_, _, C, hv, _⟩ := h
  cases C with
  | nil => exact ⟨_, hv⟩
  | cons own C => obtain ⟨b, u, sl, rfl, _⟩ := hv; exact ⟨_, rfl⟩
theorem scope_made {w : World} {b : Nat} {v sl : Value} {N l : List ByteArray} (h : ScopeIs w v N) (h1 : Scp w b v sl (N.length + (ownS N l).length)) (h2 : RowAt0 w sl (strsV (ownS N l))) (hle : (addS N l).length ≤ 4096) (hx : ∀ x ∈ l, x.size ≤ 4294967280) : ScopeIs w (.pointer (some ⟨b, 0, none⟩)) (addS N l) := by
  obtain ⟨⟨hs, hsz⟩, _, C, hv, hpm⟩ := h
  refine ⟨⟨srt_addS l hs, fun x h => ((mem_addS x l N).1 h).elim (hsz x) (hx x)⟩, hle, ownS N l :: C, ⟨b, v, sl, rfl, ?_, h2, srt_ownS N l, hv⟩, ?_⟩
  · rw [List.flatten_cons, List.length_append, ← hpm.length_eq, Nat.add_comm]; exact h1
  · rw [List.flatten_cons]
    exact (addS_perm N l hs).trans (List.Perm.append_left _ hpm)
set_option maxRecDepth 100000 in
set_option maxHeartbeats 4000000 in
theorem with_c (v : Value) (N : List ByteArray) (sl : Value) (l : List ByteArray) (w : World) (hE : Env w) (h : ScopeIs w v N) (hv : RowAt0 w sl (strsV l)) (hl : l.length ≤ 4294960000) (hx : ∀ x ∈ l, x.size ≤ 4294967280) :
    Calls Tryz.prog 45 #[v, sl] w (RetWith (withS N l) w) := by
  obtain ⟨po, rfl⟩ := scope_ptr h
  have hlen := len_c _ N w h
  have hN := h.2.1
  have hr := fun x (hx1 : x ∈ l) w1 (hb : Bel w w1) => right_c x (hx x hx1) w1 (hE.bel hb)
  have hvs := fun w1 (hb : Bel w w1) => values_c sl l w1 (hv.bel hb).toE
  have hso := fun w1 (hb : Bel w w1) => sorted_c sl l w1 (hv.bel hb).toE (by omega) (fun x hx1 => by have := hx x hx1; unfold maxLen; omega) _ (Bel.refl _)
  obtain ⟨ao, cap, rfl, hcs⟩ := row0_form hv l.length (strsV_length l)
  obtain ⟨R, hR⟩ : ∃ R, withS N l = R := ⟨_, rfl⟩
  rw [hR]
  obtain ⟨n, hn⟩ : ∃ n, l.length = n := ⟨_, rfl⟩
  rw [hn] at hcs hvs hso hl ⊢
  obtain ⟨m, hm⟩ : ∃ m, N.length = m := ⟨_, rfl⟩
  rw [hm] at hlen hN
  have HLEN := Lib.hid hlen
  have HR := Lib.hid hr
  have HVS := Lib.hid hvs
  have HSO := Lib.hid hso
  have HCS := Lib.hid hcs
  have HW := Lib.hid hR
  have HN := Lib.hid hn
  have HM := Lib.hid hm
  have HS := Lib.hid h
  have HXS := Lib.hid hx
  clear hlen hr hvs hso hcs hR hn hm h hv hx
  go_enter Tryz.func45, Tryz.ntmps45
  go_wp2_with (go_at_call 83; refine HLEN.out.mono ?_; rintro e w' ⟨rfl, rfl⟩)
  have t0 := Scp.new w (.pointer po) (.slice none 0 0) m
  have hb0 : Bel w (w.alloc (.cells #[.pointer po, .slice none 0 0, .int .i64 m] 102)) := Bel.alloc _ _
  obtain ⟨W0, hW0⟩ : ∃ W0, w.alloc (.cells #[.pointer po, .slice none 0 0, .int .i64 m] 102) = W0 := ⟨_, rfl⟩
  rw [hW0] at t0 hb0 ⊢
  have hsz : w.heap.size < W0.heap.size := t0.lt
  have T0 := Lib.hid t0
  have B0 := Lib.hid hb0
  clear t0 hb0 hW0
  go_loopw [18] (fun i wr => ∃ k : Nat, k ≤ n ∧ i = .int .i64 k ∧ Bel W0 wr ∧ (l.take k).all rightS = true) (fun i _ => n - (intOf i).toNat)
  case atStart => exact ⟨0, Nat.zero_le _, rfl, Bel.refl _, by simp⟩
  case round =>
    obtain ⟨k, hk, rfl, hbel, hall⟩ := hrel
    by_cases hkn : k < n
    · have hkl : k < l.length := by rw [HN.out]; exact hkn
      obtain ⟨b, off, rfl, hlt, hcap, hce⟩ := HCS.out (by omega)
      have hmem : l[k] ∈ l := List.getElem_mem hkl
      obtain ⟨x, hx⟩ : ∃ x, l[k] = x := ⟨_, rfl⟩
      have hcell : wr.cell? ⟨b, off + k, none⟩ = some (.string x) := by
        rw [hbel.cell (Nat.lt_trans hlt hsz), (B0.out).cell hlt, hce k hkn, ← hx]; simp [strsV, hkl]
      rw [hx] at hmem
      have hri := HR.out x hmem wr (B0.out.trans hbel)
      have hts := take_snoc' l k hkl
      rw [hx] at hts
      obtain ⟨F, hF⟩ : ∃ F, (wordsS x).isSome = F := ⟨_, rfl⟩
      rw [hF] at hri
      have HRI := Lib.hid hri
      have HF := Lib.hid hF
      have HTS := Lib.hid hts
      have HALL := Lib.hid hall
      have HMEM := Lib.hid hmem
      clear hri hF hts hall hce hx hmem
      cases F
      · go_wp2_with (go_at_call 84; refine HRI.out.mono ?_; rintro e w1 ⟨rfl, hb1⟩)
        go_ret2
        refine ⟨(B0.out.trans hbel).trans (by assumption), ?_⟩
        rw [← HW.out]
        unfold withS
        rw [if_pos]
        · rfl
        · refine Bool.eq_false_iff.2 fun h => ?_
          have := List.all_eq_true.1 h x HMEM.out
          unfold rightS at this
          rw [HF.out] at this; cases this
      · go_wp2_with (go_at_call 84; refine HRI.out.mono ?_; rintro e w1 ⟨rfl, hb1⟩)
        refine ⟨⟨k + 1, by omega, by go_num, hbel.trans (by assumption), ?_⟩, by simp [intOf]; omega⟩
        rw [HTS.out, List.all_append, HALL.out]
        simp [rightS, HF.out]
    · obtain rfl : k = n := by omega
      have hall2 : l.all rightS = true := by rw [List.take_of_length_le (by have := HN.out; omega)] at hall; exact hall
      have hww : R = if 4096 < (addS N l).length then (none, 19) else (some (addS N l), 0) := by
        rw [← HW.out]; unfold withS; rw [if_neg (by rw [hall2]; simp)]
      have HWW := Lib.hid hww
      have hbw := B0.out.trans hbel
      clear hall hall2 hww HW HR
      go_wp2_with fail
      refine (HVS.out _ hbw).mono ?_
      rintro e w1 ⟨rfl, rfl⟩
      go_wp2_with fail
      refine (HSO.out _ hbw).mono ?_
      rintro e w2 ⟨u, rfl, hown, hb2⟩
      have hsl : (sortL (l.map (·.data.toList))).length = k := by rw [sortL_length, List.length_map, HN.out]
      have hcm := compact_c (wr.alloc (.cells #[.slice ao k cap] 35)) u (sortL (l.map (·.data.toList))) w2 (by rw [hsl]; exact hown) (by omega) hb2
      have HCM := Lib.hid hcm
      have HSL := Lib.hid hsl
      clear hcm hown hsl
      go_wp2_with fail
      refine HCM.out.mono ?_
      rintro e w3 ⟨su, rfl, hrow, hb3⟩
      have hrow2 : RowAt0 w3 su (strsV (uniqS l)) := hrow
      obtain ⟨so, c2, rfl, hc2⟩ := row0_form hrow2 (uniqS l).length (strsV_length _)
      have hul : (uniqS l).length ≤ k := by
        have := Lib.compact_length_le (sortL (l.map (·.data.toList)))
        rw [HSL.out] at this
        unfold uniqS
        rw [List.length_map]; exact this
      have hs3 := T0.out.bel (hbel.trans ((Bel.alloc _ _).trans hb3))
      have hbw3 : Bel w w3 := hbw.trans ((Bel.alloc _ _).trans hb3)
      obtain ⟨U, hU⟩ : ∃ U, uniqS l = U := ⟨_, rfl⟩
      rw [hU] at hc2 hul ⊢
      obtain ⟨p, hp⟩ : ∃ p, U.length = p := ⟨_, rfl⟩
      rw [hp] at hc2 hul ⊢
      have HU := Lib.hid hU
      have HP := Lib.hid hp
      have HC2 := Lib.hid hc2
      have S3 := Lib.hid hs3
      have BW3 := Lib.hid hbw3
      have hw3 : w.heap.size < w3.heap.size := hs3.lt
      clear hU hp hc2 hs3 hbw3 hrow hrow2 hb3 hb2 hbw hbel HCM HSO HVS HCS HLEN T0 B0
      go_wp2_with fail
      go_loopw [31] (fun i wr => ∃ (j : Nat) (o : Value), j ≤ p ∧ i = .int .i64 j ∧ Bel w wr ∧ w3.heap.size ≤ wr.heap.size ∧ (∀ q, q < w3.heap.size → q ≠ w.heap.size → wr.heap[q]? = w3.heap[q]?) ∧ Scp wr w.heap.size (.pointer po) o (m + ((U.take j).filter fun x => !decide (x ∈ N)).length) ∧ wr.ownsRow w3.heap.size 9 1 o ((U.take j).filter fun x => !decide (x ∈ N)).length (strsV ((U.take j).filter fun x => !decide (x ∈ N)))) (fun i _ => p - (intOf i).toNat)
      case atStart => exact ⟨0, _, Nat.zero_le _, rfl, BW3.out, Nat.le_refl _, fun _ _ _ => rfl, S3.out, World.ownsRow_nil _ _ _ _⟩
      case round =>
        obtain ⟨j, o, hj, rfl, hbel, hge, hold, hs, hown⟩ := hrel
        by_cases hjp : j < p
        · have hjl : j < U.length := by rw [HP.out]; exact hjp
          obtain ⟨b2, off2, rfl, hlt2, hcap2, hce2⟩ := HC2.out (by omega)
          obtain ⟨x, hx⟩ : ∃ x, U[j] = x := ⟨_, rfl⟩
          have hc3 : w3.cell? ⟨b2, off2 + j, none⟩ = some (.string x) := by rw [hce2 j hjp, ← hx]; simp [strsV, hjl]
          have hne : b2 ≠ w.heap.size := by
            rintro rfl
            exact (S3.out).no_str (fun y => by simp) hc3
          have hcell : wr.cell? ⟨b2, off2 + j, none⟩ = some (.string x) := by
            rw [World.cell?_of_block (w := w3) (a := ⟨b2, off2 + j, none⟩) (hold b2 hlt2 hne)]; exact hc3
          have hfs := filter_snoc U (fun x => !decide (x ∈ N)) j hjl
          rw [hx] at hfs
          obtain ⟨L, hL⟩ : ∃ L, (U.take j).filter (fun x => !decide (x ∈ N)) = L := ⟨_, rfl⟩
          rw [hL] at hfs hs hown
          have hLl : L.length ≤ j := by
            rw [← hL]
            exact Nat.le_trans (List.length_filter_le _ _) (List.length_take_le _ _)
          have hha := has_c (.pointer po) N x wr (HS.out.bel hbel)
          obtain ⟨F, hF⟩ : ∃ F, decide (x ∈ N) = F := ⟨_, rfl⟩
          rw [hF] at hha hfs
          have HHA := Lib.hid hha
          have HFS := Lib.hid hfs
          have HOLD := Lib.hid hold
          have HSC := Lib.hid hs
          have HOWN := Lib.hid hown
          have HBEL := Lib.hid hbel
          have hs2 := hs.c2
          have hL3 : ((m + L.length : Nat) : Int) ≤ 4294967296 := by omega
          have hw2 : w.heap.size < wr.heap.size := by omega
          clear hha hF hfs hold hs hown hL hx hc3 hce2 hbel hs2
          cases F
          · go_wp2_with (first
              | (go_at_call 19; refine HHA.out.mono ?_; rintro e w1 ⟨rfl, hb1⟩; have s1 := HSC.out.bel hb1; have q1 := s1.c1; have S1 := Lib.hid s1; clear s1)
              | (at_builtin; refine wpL_append1k rfl _ _ 35 rfl w3.heap.size (by have := hb1.size; simp; omega) 9 (.string ⟨#[]⟩) 1 16 Tryz.underlying35 info_str2 rfl (by decide) (by decide) o L.length (strsV L) rfl ((own_bel HOWN.out hb1).alloc _) ⟨w1.heap.size, 0, none⟩ 1 [.string x] rfl rfl (cell_one_new _ _ _) (by simp [Value.oneCell']) (by omega) ?_; intro g cp w2 hown2 hgr; have s2 : Scp w2 w.heap.size (.pointer po) o (m + L.length) := (hgr.block _ (by have := S1.out.lt; simp; omega) (own_ge HOWN.out hw3)).trans ((S1.out.bel (Bel.alloc _ _))); have p1 := s2.c1; have p2 := s2.c2; have pf := s2.fz; have pl := s2.lt; have S2 := Lib.hid s2; have GR := Lib.hid hgr; have OWN2 := Lib.hid hown2; clear s2 hgr hown2))
            have hb2 : Bel w w2 := own_grown ((own_bel HOWN.out hb1).alloc _) ((HBEL.out.trans hb1).to_alloc _) GR.out (by omega)
            have hsz2 : wr.heap.size ≤ w2.heap.size := by have := GR.out.size; have := hb1.size; simp at *; omega
            have hfs := HFS.out
            simp at hfs
            have hn2 := own_ge OWN2.out hw3
            refine ⟨⟨j + 1, .slice (some ⟨g, 0, none⟩) (L.length + 1) cp, by omega, by go_num, by (repeat (first | exact Bel.refl _ | assumption | refine Bel.to_drewN ?_ _ | refine Bel.to_drew ?_ | refine Bel.to_setCell ?_ (by first | exact Nat.le_refl _ | (simp; done) | (simp; omega) | omega) _ | refine Bel.to_alloc ?_ _ | refine Bel.trans ?_ (by assumption))), by simp; omega, fun q hq hn => ?_, ?_, ?_⟩, by simp [intOf]; omega⟩
            · rw [Below.heap_setCell _ _ _ q (by simpa using hn), Below.heap_setCell _ _ _ q (by simpa using hn), GR.out.block q (by have := hb1.size; simp; omega) (own_ge HOWN.out hq)]
              rw [(hb1.trans (Bel.alloc _ _)).block (by omega)]
              exact HOLD.out q hq hn
            · rw [hfs, List.length_append]
              have := (S2.out.set1 (.slice (some ⟨g, 0, none⟩) (L.length + 1) cp)).set2 (m + L.length + 1)
              exact this
            · rw [hfs]
              have := own_set (own_set OWN2.out (p := ⟨w.heap.size, 1, none⟩) hn2 (.slice (some ⟨g, 0, none⟩) (L.length + 1) cp)) (p := ⟨w.heap.size, 2, none⟩) hn2 (.int .i64 ((m + L.length : Nat) + 1))
              simpa [strsV] using this
          · go_wp2_with (go_at_call 19; refine HHA.out.mono ?_; rintro e w1 ⟨rfl, hb1⟩)
            have hfs := HFS.out
            simp at hfs
            refine ⟨⟨j + 1, o, by omega, by go_num, HBEL.out.trans hb1, Nat.le_trans hge hb1.size, fun q hq hn => ?_, ?_, ?_⟩, by simp [intOf]; omega⟩
            · rw [hb1.block (by omega)]; exact HOLD.out q hq hn
            · simp only [hfs]; exact HSC.out.bel hb1
            · simp only [hfs]; exact own_bel HOWN.out hb1
        · obtain rfl : j = p := by omega
          rw [List.take_of_length_le (by have := HP.out; omega)] at hs hown
          have hfo : U.filter (fun x => !decide (x ∈ N)) = ownS N l := by rw [← HU.out]; rfl
          rw [hfo] at hs hown
          have hal := addS_length N l HS.out.1.1
          rw [HM.out] at hal
          have hbel2 := hbel
          have hs2 := hs.c2
          obtain ⟨c, hc⟩ : ∃ c, (ownS N l).length = c := ⟨_, rfl⟩
          rw [hc] at hs hs2 hal
          have hsm := fun hh => scope_made (HS.out.bel hbel) (b := w.heap.size) (sl := o) (l := l) (by rw [hc, HM.out]; exact hs) (own_row hown) hh HXS.out
          have HSM := Lib.hid hsm
          have HAL := Lib.hid hal
          have HOWN := Lib.hid hown
          have HB := Lib.hid hbel
          have hww := HWW.out
          clear hsm hal hown hbel hold hs hfo hbel2
          by_cases h4 : 4096 < m + c
          · have h5 : (4096 : Int) < ((m + c : Nat) : Int) := by omega
            rw [if_pos (by have := HAL.out; omega)] at hww
            have HWW2 := Lib.hid hww
            clear hww
            go_wp2_with fail
            go_ret2
            exact ⟨HB.out, by rw [HWW2.out]; rfl⟩
          · have h5 : ((m + c : Nat) : Int) ≤ 4096 := by omega
            rw [if_neg (by have := HAL.out; omega)] at hww
            have HWW2 := Lib.hid hww
            clear hww
            go_wp2_with fail
            go_ret2
            exact ⟨HB.out, by rw [HWW2.out]; exact ⟨_, rfl, HSM.out (by have := HAL.out; omega)⟩⟩
end Go.Proofs.YtbcdbefogfmhfaaGreatDoor

namespace Go.Proofs.YtbcdbefogfmhfaaGreatDoor
open Go.RowKit
set_option maxHeartbeats 400000 in
theorem new_c (sl : Value) (l : List ByteArray) (w : World) (hE : Env w) (hv : RowAt0 w sl (strsV l)) (hl : l.length ≤ 4294960000) (hx : ∀ x ∈ l, x.size ≤ 4294967280) :
    Calls Tryz.prog 68 #[sl] w (RetWith (withS [] l) w) := by
  have h := with_c (.pointer none) [] sl l w hE (ScopeIs.none w) hv hl hx
  obtain ⟨⟨r1, r2⟩, hR⟩ : ∃ R, withS [] l = R := ⟨_, rfl⟩
  rw [hR] at h ⊢
  have H := Lib.hid h
  clear h hR hv hx
  cases r1
  · go_enter Tryz.func68, Tryz.ntmps68
    go_wp2_with fail
    refine H.out.mono ?_
    rintro e w1 ⟨hb, rfl⟩
    go_wp2_with fail
    go_ret2
    exact ⟨hb, rfl⟩
  · go_enter Tryz.func68, Tryz.ntmps68
    go_wp2_with fail
    refine H.out.mono ?_
    rintro e w1 ⟨hb, p, rfl, hs⟩
    have HS := Lib.hid hs
    clear hs
    go_wp2_with fail
    go_ret2
    exact ⟨hb, p, rfl, HS.out⟩
end Go.Proofs.YtbcdbefogfmhfaaGreatDoor
