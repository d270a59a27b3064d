/-
  Plain law of the names that ScopeFull makes: each is a name, no two are the same.
-/
import Derived.Test.YtaaedmipcffjoaaDoorSCA
namespace Go.Proofs.YtaaedmipcffjoaaDoor

/-- The names that ScopeFull makes. -/
def nmS (i : Nat) : ByteArray := ⟨#[110, 97 + UInt8.ofNat (i % 16), 97 + UInt8.ofNat (i / 16 % 16), 97 + UInt8.ofNat (i / 256)]⟩
def nmN (s : ByteArray) : Nat := (s.get! 1).toNat - 97 + 16 * ((s.get! 2).toNat - 97) + 256 * ((s.get! 3).toNat - 97)
set_option maxRecDepth 100000 in
theorem nm_right_all : ((List.range 4098).all fun i => rightS (nmS i)) = true := by decide +kernel
theorem nm_right (i : Nat) (h : i < 4098) : rightS (nmS i) = true := List.all_eq_true.1 nm_right_all i (List.mem_range.2 h)
set_option maxRecDepth 100000 in
theorem nm_inv_all : ((List.range 4098).all fun i => nmN (nmS i) == i) = true := by decide +kernel
theorem nm_inv (i : Nat) (h : i < 4098) : nmN (nmS i) = i := by simpa using List.all_eq_true.1 nm_inv_all i (List.mem_range.2 h)
def nmL (k : Nat) : List ByteArray := (List.range k).map nmS
theorem nmL_length (k : Nat) : (nmL k).length = k := by simp [nmL]
theorem nmL_succ (k : Nat) : nmL (k + 1) = nmL k ++ [nmS k] := by simp [nmL, List.range_succ]
theorem nmL_size (k : Nat) : ∀ x ∈ nmL k, x.size = 4 := by
  intro x hx
  obtain ⟨i, _, rfl⟩ := List.mem_map.1 hx
  rfl
theorem nmL_right (k : Nat) (h : k ≤ 4098) : (nmL k).all rightS = true := by
  refine List.all_eq_true.2 fun x hx => ?_
  obtain ⟨i, hi, rfl⟩ := List.mem_map.1 hx
  exact nm_right i (by have := List.mem_range.1 hi; omega)
theorem nmL_nodup : ∀ k, k ≤ 4098 → (nmL k).Nodup
  | 0, _ => List.nodup_nil
  | k + 1, h => by
    rw [nmL_succ]
    refine List.nodup_append.2 ⟨nmL_nodup k (by omega), List.nodup_cons.2 ⟨by simp, List.nodup_nil⟩, fun x hx y hy e => ?_⟩
    obtain rfl := List.mem_singleton.1 hy
    obtain ⟨i, hi, rfl⟩ := List.mem_map.1 hx
    have hi := List.mem_range.1 hi
    have h1 := nm_inv i (by omega)
    have h2 := nm_inv k (by omega)
    rw [e] at h1
    omega
theorem insS_new {x : ByteArray} : ∀ {l : List ByteArray}, x ∉ l → (insS x l).length = l.length + 1
  | [], _ => rfl
  | y :: l, h => by
    have h1 : x ≠ y := fun e => h (by rw [e]; exact List.mem_cons_self ..)
    unfold insS
    rw [if_neg h1]
    split
    · simp
    · rw [List.length_cons, List.length_cons, insS_new fun hx => h (List.mem_cons_of_mem _ hx)]
theorem addS_new : ∀ (more l : List ByteArray), more.Nodup → (∀ x ∈ more, x ∉ l) → (addS l more).length = l.length + more.length
  | [], _, _, _ => rfl
  | x :: more, l, h, k => by
    obtain ⟨h1, h2⟩ := List.nodup_cons.1 h
    rw [show addS l (x :: more) = addS (insS x l) more from rfl, addS_new more (insS x l) h2 (fun y hy hm => ?_), insS_new (k x (List.mem_cons_self ..)), List.length_cons]
    · omega
    · rcases (mem_insS x y l).1 hm with rfl | hm
      · exact h1 hy
      · exact k y (List.mem_cons_of_mem _ hy) hm
theorem addS_old : ∀ (more : List ByteArray) {l : List ByteArray}, Srt l → (∀ x ∈ more, x ∈ l) → addS l more = l
  | [], _, _, _ => rfl
  | x :: more, l, h, k => by
    rw [show addS l (x :: more) = addS (insS x l) more from rfl, insS_mem h (k x (List.mem_cons_self ..))]
    exact addS_old more h fun y hy => k y (List.mem_cons_of_mem _ hy)

theorem full_new (k : Nat) (h : k ≤ 4096) : ∃ M, withS [] (nmL k) = (some M, 0) ∧ M.length = k ∧ withS M ((nmL k).take 5) = (some M, 0)
    ∧ (k + 3 ≤ 4096 → ∃ U, withS M [⟨#[120]⟩, ⟨#[121]⟩, ⟨#[122]⟩] = (some U, 0) ∧ U.length = k + 3) ∧ (¬ k + 3 ≤ 4096 → withS M [⟨#[120]⟩, ⟨#[121]⟩, ⟨#[122]⟩] = (none, 19)) := by
  have hl : (addS [] (nmL k)).length = k := by rw [addS_new _ _ (nmL_nodup k (by omega)) (by simp), nmL_length]; simp
  have hs : Srt (addS [] (nmL k)) := srt_addS _ srt_nil
  have hm : ∀ x ∈ addS [] (nmL k), x ∈ nmL k := fun x hx => by simpa [mem_addS] using hx
  have hxyz : (addS (addS [] (nmL k)) [⟨#[120]⟩, ⟨#[121]⟩, ⟨#[122]⟩]).length = k + 3 := by
    rw [addS_new _ _ (by decide) (fun x hx hx2 => ?_), hl]; · rfl
    have h4 := nmL_size k x (hm x hx2)
    simp only [List.mem_cons, List.not_mem_nil, or_false] at hx
    rcases hx with rfl | rfl | rfl <;> cases h4
  have hr : [⟨#[120]⟩, ⟨#[121]⟩, ⟨#[122]⟩].all rightS = true := by decide +kernel
  refine ⟨addS [] (nmL k), ?_, hl, ?_, fun hk => ⟨addS (addS [] (nmL k)) [⟨#[120]⟩, ⟨#[121]⟩, ⟨#[122]⟩], ?_, hxyz⟩, fun hk => ?_⟩
  · unfold withS
    rw [nmL_right k (by omega), if_neg (by simp), if_neg (by omega)]
  · have h5 : ((nmL k).take 5).all rightS = true := List.all_eq_true.2 fun x hx => List.all_eq_true.1 (nmL_right k (by omega)) x (List.mem_of_mem_take hx)
    unfold withS
    rw [h5, if_neg (by simp), addS_old _ hs (fun x hx => (mem_addS x _ _).2 (.inr (List.mem_of_mem_take hx))), if_neg (by omega)]
  · unfold withS
    rw [hr, if_neg (by simp), if_neg (by omega)]
  · unfold withS
    rw [hr, if_neg (by simp), if_pos (by omega)]
theorem full_over (k : Nat) (h : 4096 < k) (h2 : k ≤ 4098) : withS [] (nmL k) = (none, 19) := by
  have hl : (addS [] (nmL k)).length = k := by rw [addS_new _ _ (nmL_nodup k (by omega)) (by simp), nmL_length]; simp
  unfold withS
  rw [nmL_right k h2, if_neg (by simp), if_pos (by omega)]
end Go.Proofs.YtaaedmipcffjoaaDoor
