/-
  Plain laws of scope: names in order, each once; insertion; what sorting and compacting gives.
-/
import Derived.Lib.SlicesCompact
import Derived.Lib.Join
import Derived.Test.YtaaedmipcffjoaaDoorO
namespace Go.Proofs.YtaaedmipcffjoaaDoor

/-- One text stands ahead of another one. -/
def ltB (a b : ByteArray) : Prop := a.data.toList < b.data.toList
instance (a b : ByteArray) : Decidable (ltB a b) := inferInstanceAs (Decidable (a.data.toList < b.data.toList))
theorem data_ext {a b : ByteArray} (h : a.data.toList = b.data.toList) : a = b := by
  apply ByteArray.ext
  exact Array.ext' h
instance memDec (x : ByteArray) (N : List ByteArray) : Decidable (x ∈ N) := decidable_of_iff (x.data.toList ∈ N.map (·.data.toList)) ⟨fun h => by
  obtain ⟨y, hy, e⟩ := List.mem_map.1 h
  rw [← data_ext e]; exact hy, fun h => List.mem_map.2 ⟨x, h, rfl⟩⟩
theorem ltB_irrefl (a : ByteArray) : ¬ ltB a a := List.lt_irrefl _
theorem ltB_trans {a b c : ByteArray} (h : ltB a b) (k : ltB b c) : ltB a c := List.lt_trans h k
theorem ltB_tri (a b : ByteArray) : ltB a b ∨ a = b ∨ ltB b a := by
  by_cases h : ltB a b
  · exact .inl h
  · by_cases h2 : ltB b a
    · exact .inr (.inr h2)
    · exact .inr (.inl (data_ext (List.le_antisymm h2 h)))
theorem ltB_of (a b : ByteArray) (h : ¬ ltB b a) (hne : a ≠ b) : ltB a b := by
  rcases ltB_tri a b with h1 | h1 | h1
  · exact h1
  · exact absurd h1 hne
  · exact absurd h1 h
theorem bytesLess_ltB (a b : ByteArray) : Op.bytesLess a.toList b.toList = decide (ltB a b) := by
  rw [bytesLess_eq, Lib.toList_data, Lib.toList_data]; rfl

/-- In order, each once. -/
def Srt (l : List ByteArray) : Prop := l.Pairwise ltB
theorem Srt.nodup {l : List ByteArray} (h : Srt l) : l.Nodup := List.Pairwise.imp (fun hab e => by subst e; exact ltB_irrefl _ hab) h
theorem srt_nil : Srt [] := List.Pairwise.nil
theorem srt_head {x : ByteArray} {l : List ByteArray} (h : Srt (x :: l)) : ∀ y ∈ l, ltB x y := (List.pairwise_cons.1 h).1
theorem srt_tail {x : ByteArray} {l : List ByteArray} (h : Srt (x :: l)) : Srt l := (List.pairwise_cons.1 h).2
theorem srt_ext : ∀ {a b : List ByteArray}, Srt a → Srt b → (∀ x, x ∈ a ↔ x ∈ b) → a = b
  | [], [], _, _, _ => rfl
  | [], y :: b, _, _, h => absurd ((h y).2 (List.mem_cons_self ..)) (by simp)
  | x :: a, [], _, _, h => absurd ((h x).1 (List.mem_cons_self ..)) (by simp)
  | x :: a, y :: b, ha, hb, h => by
    have e : x = y := by
      rcases List.mem_cons.1 ((h x).1 (List.mem_cons_self ..)) with h1 | h1
      · exact h1
      · rcases List.mem_cons.1 ((h y).2 (List.mem_cons_self ..)) with h2 | h2
        · exact h2.symm
        · exact absurd (ltB_trans (srt_head ha y h2) (srt_head hb x h1)) (ltB_irrefl _)
    subst e
    rw [srt_ext (srt_tail ha) (srt_tail hb) fun z => ?_]
    constructor
    · intro hz
      rcases List.mem_cons.1 ((h z).1 (List.mem_cons_of_mem _ hz)) with h1 | h1
      · subst h1; exact absurd (srt_head ha z hz) (ltB_irrefl _)
      · exact h1
    · intro hz
      rcases List.mem_cons.1 ((h z).2 (List.mem_cons_of_mem _ hz)) with h1 | h1
      · subst h1; exact absurd (srt_head hb z hz) (ltB_irrefl _)
      · exact h1

/-- One more name, at its place. -/
def insS (x : ByteArray) : List ByteArray → List ByteArray
  | [] => [x]
  | y :: l => if x = y then y :: l else if ltB x y then x :: y :: l else y :: insS x l
theorem mem_insS (x z : ByteArray) : ∀ l, z ∈ insS x l ↔ z = x ∨ z ∈ l
  | [] => by simp [insS]
  | y :: l => by
    unfold insS
    by_cases h : x = y
    · subst h; rw [if_pos rfl]; simp
    · rw [if_neg h]
      by_cases h2 : ltB x y
      · rw [if_pos h2]; simp
      · rw [if_neg h2, List.mem_cons, mem_insS x z l, List.mem_cons]
        constructor
        · rintro (h | h | h) <;> simp [h]
        · rintro (h | h | h) <;> simp [h]
theorem srt_insS (x : ByteArray) : ∀ {l}, Srt l → Srt (insS x l)
  | [], _ => List.pairwise_singleton _ _
  | y :: l, h => by
    unfold insS
    by_cases h1 : x = y
    · rw [if_pos h1]; exact h
    · rw [if_neg h1]
      by_cases h2 : ltB x y
      · rw [if_pos h2]
        refine List.pairwise_cons.2 ⟨fun z hz => ?_, h⟩
        rcases List.mem_cons.1 hz with rfl | hz
        · exact h2
        · exact ltB_trans h2 (srt_head h z hz)
      · rw [if_neg h2]
        refine List.pairwise_cons.2 ⟨fun z hz => ?_, srt_insS x (srt_tail h)⟩
        rcases (mem_insS x z l).1 hz with rfl | hz
        · exact ltB_of y z h2 (fun e => h1 e.symm)
        · exact srt_head h z hz
/-- Some more names. -/
def addS (l more : List ByteArray) : List ByteArray := more.foldl (fun a x => insS x a) l
theorem mem_addS (z : ByteArray) : ∀ (more l : List ByteArray), z ∈ addS l more ↔ z ∈ l ∨ z ∈ more
  | [], l => by simp [addS]
  | x :: more, l => by
    rw [show addS l (x :: more) = addS (insS x l) more from rfl, mem_addS z more, mem_insS, List.mem_cons]
    constructor
    · rintro ((h | h) | h) <;> simp [h]
    · rintro (h | h | h) <;> simp [h]
theorem srt_addS : ∀ (more : List ByteArray) {l : List ByteArray}, Srt l → Srt (addS l more)
  | [], _, h => h
  | x :: more, _, h => srt_addS more (srt_insS x h)
theorem insS_mem {x : ByteArray} {l : List ByteArray} (h : Srt l) (hx : x ∈ l) : insS x l = l := srt_ext (srt_insS x h) h fun z => by
  rw [mem_insS]
  exact ⟨fun h => h.elim (fun e => e ▸ hx) id, .inr⟩
theorem addS_snoc (l more : List ByteArray) (x : ByteArray) : addS l (more ++ [x]) = insS x (addS l more) := by simp [addS, List.foldl_append]
/-- Between those ahead of it and those behind it. -/
theorem insS_mid {x : ByteArray} {A B : List ByteArray} (h : Srt (A ++ B)) (ha : ∀ y ∈ A, ltB y x) (hb : ∀ y ∈ B, ltB x y) : insS x (A ++ B) = A ++ x :: B := by
  refine srt_ext (srt_insS x h) ?_ fun z => ?_
  · obtain ⟨h1, h2, h3⟩ := List.pairwise_append.1 h
    refine List.pairwise_append.2 ⟨h1, List.pairwise_cons.2 ⟨hb, h2⟩, fun y hy z hz => ?_⟩
    rcases List.mem_cons.1 hz with rfl | hz
    · exact ha y hy
    · exact h3 y hy z hz
  · rw [mem_insS]
    simp only [List.mem_append, List.mem_cons]
    constructor
    · rintro (h | h | h) <;> simp [h]
    · rintro (h | h | h) <;> simp [h]

/-! What slices.Sort and slices.Compact give. -/
theorem leL_trans (a b c : List UInt8) : decide (a ≤ b) = true → decide (b ≤ c) = true → decide (a ≤ c) = true := by
  simp only [decide_eq_true_eq]; exact List.le_trans
theorem leL_total (a b : List UInt8) : (decide (a ≤ b) || decide (b ≤ a)) = true := by
  simp only [Bool.or_eq_true, decide_eq_true_eq]; exact List.le_total a b
theorem lt_of_leL {a b : List UInt8} (h : a ≤ b) (hne : a ≠ b) : a < b := by
  by_cases h2 : a < b
  · exact h2
  · exact absurd (List.le_antisymm h (List.not_lt.1 h2)) hne
def sortL (l : List (List UInt8)) : List (List UInt8) := l.mergeSort fun x y => decide (x ≤ y)
theorem sortL_le (l : List (List UInt8)) : (sortL l).Pairwise (· ≤ ·) := (List.pairwise_mergeSort leL_trans leL_total l).imp fun h => by simpa using h
theorem mem_sortL (x : List UInt8) (l : List (List UInt8)) : x ∈ sortL l ↔ x ∈ l := (List.mergeSort_perm l _).mem_iff
theorem sortL_length (l : List (List UInt8)) : (sortL l).length = l.length := (List.mergeSort_perm l _).length_eq

theorem compactUpTo_inv (d : Array (List UInt8)) (h : d.toList.Pairwise (· ≤ ·)) : ∀ m, m ≤ d.size →
    (Lib.compactUpTo d m).Pairwise (· < ·) ∧ (∀ x, x ∈ Lib.compactUpTo d m ↔ ∃ j, j < m ∧ d[j]! = x) ∧ (∀ x ∈ Lib.compactUpTo d m, 0 < m → x ≤ d[m - 1]!)
  | 0, _ => ⟨List.Pairwise.nil, by simp [Lib.compactUpTo], by simp [Lib.compactUpTo]⟩
  | m + 1, hm => by
    obtain ⟨h1, h2, h3⟩ := compactUpTo_inv d h m (by omega)
    have hmono : ∀ i j, i ≤ j → j < d.size → d[i]! ≤ d[j]! := by
      intro i j hij hj
      rcases Nat.eq_or_lt_of_le hij with rfl | hlt
      · exact List.le_refl _
      · have := List.pairwise_iff_getElem.1 h i j (by simpa using Nat.lt_of_lt_of_le hlt (Nat.le_of_lt hj)) (by simpa using hj) hlt
        rw [getElem!_pos d i (by omega), getElem!_pos d j hj]
        simpa using this
    rw [Lib.compactUpTo_succ]
    have hle : ∀ x ∈ Lib.compactUpTo d m, x ≤ d[m]! := by
      intro x hx
      obtain ⟨j, hj, rfl⟩ := (h2 x).1 hx
      exact hmono j m (by omega) (by omega)
    by_cases hk : Lib.keeps d m = true
    · rw [if_pos hk]
      refine ⟨List.pairwise_append.2 ⟨h1, List.pairwise_singleton _ _, fun x hx y hy => ?_⟩, fun x => ?_, fun x hx _ => ?_⟩
      · obtain rfl := List.mem_singleton.1 hy
        obtain ⟨j, hj, rfl⟩ := (h2 x).1 hx
        have hne : d[m]! ≠ d[m - 1]! := by
          simp only [Lib.keeps, decide_eq_true_eq] at hk
          rcases hk with h | h
          · omega
          · exact h
        have hx1 := h3 _ hx (by omega)
        have hx2 : d[m - 1]! < d[m]! := lt_of_leL (hmono (m - 1) m (by omega) (by omega)) (fun e => hne e.symm)
        exact List.lt_of_le_of_lt hx1 hx2
      · rw [List.mem_append, h2, List.mem_singleton]
        constructor
        · rintro (⟨j, hj, h⟩ | h)
          · exact ⟨j, by omega, h⟩
          · exact ⟨m, by omega, h.symm⟩
        · rintro ⟨j, hj, h⟩
          rcases Nat.lt_or_eq_of_le (Nat.le_of_lt_succ hj) with h4 | h4
          · exact .inl ⟨j, h4, h⟩
          · subst h4; exact .inr h.symm
      · rw [Nat.add_sub_cancel]
        rcases List.mem_append.1 hx with h | h
        · exact hle x h
        · obtain rfl := List.mem_singleton.1 h; exact List.le_refl _
    · rw [if_neg hk, List.append_nil]
      have hk2 : m ≠ 0 ∧ d[m]! = d[m - 1]! := by
        simp only [Lib.keeps, decide_eq_true_eq, not_or] at hk
        exact ⟨hk.1, by simpa using hk.2⟩
      refine ⟨h1, fun x => ?_, fun x hx _ => ?_⟩
      · rw [h2]
        constructor
        · rintro ⟨j, hj, h⟩
          exact ⟨j, by omega, h⟩
        · rintro ⟨j, hj, h⟩
          rcases Nat.lt_or_eq_of_le (Nat.le_of_lt_succ hj) with h4 | h4
          · exact ⟨j, h4, h⟩
          · subst h4; exact ⟨j - 1, by omega, by rw [← hk2.2]; exact h⟩
      · rw [Nat.add_sub_cancel]; exact hle x hx
theorem compact_sorted (l : List (List UInt8)) (h : l.Pairwise (· ≤ ·)) : (Lib.compact l).Pairwise (· < ·) ∧ ∀ x, x ∈ Lib.compact l ↔ x ∈ l := by
  obtain ⟨h1, h2, _⟩ := compactUpTo_inv l.toArray (by simpa using h) l.length (by simp)
  refine ⟨h1, fun x => ?_⟩
  show x ∈ Lib.compactUpTo _ _ ↔ _
  rw [h2]
  constructor
  · rintro ⟨j, hj, rfl⟩
    rw [getElem!_pos _ j (by simpa using hj)]
    simp
  · intro hx
    obtain ⟨j, hj, rfl⟩ := List.getElem_of_mem hx
    exact ⟨j, hj, by rw [getElem!_pos _ j (by simpa using hj)]; simp⟩
/-- Sorted, each once. -/
def uniqS (l : List ByteArray) : List ByteArray := (Lib.compact (sortL (l.map (·.data.toList)))).map fun x => ⟨x.toArray⟩
theorem srt_uniqS (l : List ByteArray) : Srt (uniqS l) := by
  unfold uniqS Srt
  exact List.pairwise_map.2 ((compact_sorted _ (sortL_le _)).1.imp fun h => by unfold ltB; simpa using h)
theorem mem_uniqS (l : List ByteArray) (x : ByteArray) : x ∈ uniqS l ↔ x ∈ l := by
  unfold uniqS
  simp only [List.mem_map]
  constructor
  · rintro ⟨y, hy, rfl⟩
    obtain ⟨z, hz, rfl⟩ := List.mem_map.1 ((mem_sortL _ _).1 (((compact_sorted _ (sortL_le _)).2 y).1 hy))
    rw [show (⟨z.data.toList.toArray⟩ : ByteArray) = z from by cases z; rfl]
    exact hz
  · intro hx
    exact ⟨x.data.toList, ((compact_sorted _ (sortL_le _)).2 _).2 ((mem_sortL _ _).2 (List.mem_map.2 ⟨x, hx, rfl⟩)), by cases x; rfl⟩

/-! What a scope is asked. -/
def rightS (s : ByteArray) : Bool := (wordsS s).isSome
/-- P9.1: a scope's names with more, or why there is none. -/
def withS (N more : List ByteArray) : Option (List ByteArray) × Nat :=
  if more.all rightS = false then (none, 6) else if 4096 < (addS N more).length then (none, 19) else (some (addS N more), 0)
/-- The names that a scope of its own has beside another one's. -/
def ownS (N more : List ByteArray) : List ByteArray := (uniqS more).filter fun x => !decide (x ∈ N)
theorem srt_ownS (N more : List ByteArray) : Srt (ownS N more) := (srt_uniqS more).filter _
theorem mem_ownS (N more : List ByteArray) (x : ByteArray) : x ∈ ownS N more ↔ x ∈ more ∧ x ∉ N := by
  unfold ownS
  rw [List.mem_filter, mem_uniqS]; simp
theorem addS_perm (N more : List ByteArray) (h : Srt N) : (addS N more).Perm (ownS N more ++ N) := by
  refine (List.perm_ext_iff_of_nodup (srt_addS more h).nodup ?_).2 fun x => ?_
  · refine List.nodup_append.2 ⟨(srt_ownS N more).nodup, h.nodup, fun a ha b hb e => ?_⟩
    subst e
    exact ((mem_ownS _ _ _).1 ha).2 hb
  · rw [mem_addS, List.mem_append, mem_ownS]
    by_cases hx : x ∈ N <;> simp [hx]
theorem addS_length (N more : List ByteArray) (h : Srt N) : (addS N more).length = (ownS N more).length + N.length := by
  rw [(addS_perm N more h).length_eq, List.length_append]
def joinS (l : List ByteArray) : ByteArray := ⟨(Lib.join (l.map (·.data.toList)) [32]).toArray⟩
/-- P9.3: the longest name that the first n words, or fewer, are. -/
def longS (N words : List ByteArray) : Nat → ByteArray × Nat
  | 0 => (⟨#[]⟩, 0)
  | n + 1 => if joinS (words.take (n + 1)) ∈ N then (joinS (words.take (n + 1)), n + 1) else longS N words n
theorem longS_succ (N words : List ByteArray) (n : Nat) : longS N words (n + 1) = if joinS (words.take (n + 1)) ∈ N then (joinS (words.take (n + 1)), n + 1) else longS N words n := rfl
theorem longS_le (N words : List ByteArray) : ∀ n, (longS N words n).2 ≤ n
  | 0 => Nat.le_refl _
  | n + 1 => by
    rw [longS_succ]
    split
    · exact Nat.le_refl _
    · exact Nat.le_succ_of_le (longS_le N words n)
theorem longS_text (N words : List ByteArray) : ∀ n, (longS N words n).2 = 0 ∧ (longS N words n).1 = ⟨#[]⟩ ∨ 0 < (longS N words n).2 ∧ (longS N words n).1 = joinS (words.take (longS N words n).2) ∧ (longS N words n).1 ∈ N
  | 0 => .inl ⟨rfl, rfl⟩
  | n + 1 => by
    rw [longS_succ]
    split
    · rename_i h; exact .inr ⟨Nat.succ_pos _, rfl, h⟩
    · exact longS_text N words n
theorem longS_more (N words : List ByteArray) : ∀ n j, (longS N words n).2 < j → j ≤ n → joinS (words.take j) ∉ N
  | 0, j, h, hj => absurd hj (by simp [longS] at h; omega)
  | n + 1, j, h, hj => by
    rw [longS_succ] at h
    split at h
    · simp at h; omega
    · rename_i h1
      rcases Nat.eq_or_lt_of_le hj with rfl | h2
      · exact h1
      · exact longS_more N words n j h (by omega)
theorem longS_max (N words : List ByteArray) (n j : Nat) (hj : j ≤ n) (h : joinS (words.take j) ∈ N) : j ≤ (longS N words n).2 := by
  rcases Nat.lt_or_ge (longS N words n).2 j with h1 | h1
  · exact absurd h (longS_more N words n j h1 hj)
  · exact h1
theorem longS_grows (N M words : List ByteArray) (hNM : ∀ x, x ∈ N → x ∈ M) (n : Nat) : (longS N words n).2 ≤ (longS M words n).2 := by
  rcases longS_text N words n with ⟨h, _⟩ | ⟨h, h1, h2⟩
  · omega
  · exact longS_max M words n _ (longS_le N words n) (hNM _ (h1 ▸ h2))
theorem longS_same (N M words : List ByteArray) (h : ∀ x, x ∈ N ↔ x ∈ M) : ∀ n, longS N words n = longS M words n
  | 0 => rfl
  | n + 1 => by rw [longS_succ, longS_succ, longS_same N M words h n]; simp only [h]
theorem longS_eq_text (N M words : List ByteArray) (n : Nat) (h : (longS N words n).2 = (longS M words n).2) : (longS N words n).1 = (longS M words n).1 := by
  rcases longS_text N words n with ⟨h1, h2⟩ | ⟨h1, h2, _⟩ <;> rcases longS_text M words n with ⟨k1, k2⟩ | ⟨k1, k2, _⟩
  · rw [h2, k2]
  · omega
  · omega
  · rw [h2, k2, h]
theorem join_cons2 (x y : List UInt8) (l : List (List UInt8)) : Lib.join (x :: y :: l) [32] = x ++ 32 :: Lib.join (y :: l) [32] := by
  show List.intercalate _ _ = _
  rw [List.intercalate_cons_cons]; simp [Lib.join]
theorem join_one' (x : List UInt8) : Lib.join [x] [32] = x := by simp [Lib.join]
theorem join_app : ∀ (A : List (List UInt8)) (b : List UInt8) (B : List (List UInt8)), A ≠ [] → Lib.join (A ++ b :: B) [32] = Lib.join A [32] ++ 32 :: Lib.join (b :: B) [32]
  | [], _, _, h => absurd rfl h
  | [x], b, B, _ => by rw [List.cons_append, List.nil_append, join_cons2, join_one']
  | x :: y :: A, b, B, _ => by
    rw [List.cons_append, List.cons_append, join_cons2, join_cons2, ← List.cons_append, join_app (y :: A) b B (by simp), List.append_assoc, List.cons_append]
theorem joinS_one (x : ByteArray) : joinS [x] = x := by unfold joinS; rw [List.map_cons, List.map_nil, join_one']
theorem joinS_app (A B : List ByteArray) (ha : A ≠ []) (hb : B ≠ []) : joinS (A ++ B) = joinS A ++ ⟨#[32]⟩ ++ joinS B := by
  obtain ⟨b, B, rfl⟩ : ∃ b C, B = b :: C := by
    cases B with
    | nil => exact absurd rfl hb
    | cons b C => exact ⟨b, C, rfl⟩
  unfold joinS
  rw [List.map_append, List.map_cons, join_app _ _ _ (by simpa using ha)]
  apply ByteArray.ext
  simp [ByteArray.data_append]
theorem joinS_snoc (A : List ByteArray) (x : ByteArray) (ha : A ≠ []) : joinS (A ++ [x]) = joinS A ++ ⟨#[32]⟩ ++ x := by
  rw [joinS_app A [x] ha (by simp), joinS_one]
/-- How many bytes they have, with one more each. -/
def sumS (l : List ByteArray) : Nat := (l.map fun s => s.size + 1).sum
theorem sumS_cons (x : ByteArray) (l : List ByteArray) : sumS (x :: l) = x.size + 1 + sumS l := by simp [sumS]
theorem sumS_append (A B : List ByteArray) : sumS (A ++ B) = sumS A + sumS B := by simp [sumS]
theorem joinS_size : ∀ l : List ByteArray, (joinS l).size ≤ sumS l
  | [] => Nat.zero_le _
  | [x] => by rw [joinS_one, sumS_cons]; omega
  | x :: y :: l => by
    have := joinS_size (y :: l)
    have h := joinS_app [x] (y :: l) (by simp) (by simp)
    rw [List.singleton_append, joinS_one] at h
    rw [h, sumS_cons, ByteArray.size_append, ByteArray.size_append]
    have : (⟨#[32]⟩ : ByteArray).size = 1 := rfl
    omega
theorem take_snoc_s {α : Type} (l : List α) (k : Nat) (h : k < l.length) : l.take (k + 1) = l.take k ++ [l[k]] := (List.take_succ_eq_append_getElem h)
theorem sumS_take (l : List ByteArray) (n : Nat) : sumS (l.take n) ≤ sumS l := by
  have := sumS_append (l.take n) (l.drop n)
  rw [List.take_append_drop] at this
  omega
theorem len_sumS : ∀ l : List ByteArray, l.length ≤ sumS l
  | [] => Nat.zero_le _
  | x :: l => by have := len_sumS l; rw [sumS_cons, List.length_cons]; omega
theorem mem_sumS : ∀ (l : List ByteArray) (x : ByteArray), x ∈ l → x.size + 1 ≤ sumS l
  | y :: l, x, h => by
    rw [sumS_cons]
    rcases List.mem_cons.1 h with rfl | h
    · omega
    · have := mem_sumS l x h; omega
theorem joinS_size_eq : ∀ l : List ByteArray, l ≠ [] → (joinS l).size + 1 = sumS l
  | [], h => absurd rfl h
  | [x], _ => by rw [joinS_one, sumS_cons]; rfl
  | x :: y :: l, _ => by
    have := joinS_size_eq (y :: l) (by simp)
    have h := joinS_app [x] (y :: l) (by simp) (by simp)
    rw [List.singleton_append, joinS_one] at h
    rw [h, sumS_cons, ByteArray.size_append, ByteArray.size_append]
    have : (⟨#[32]⟩ : ByteArray).size = 1 := rfl
    omega
end Go.Proofs.YtaaedmipcffjoaaDoor
