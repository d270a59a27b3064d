/-
  Plain laws of names: words.
-/
import Derived.Test.YtaaedmipcffjoaaDoorX
import Derived.Test.YtaaedmipcffjoaaDoorV
namespace Go.Proofs.YtaaedmipcffjoaaDoor
open Go.Lib

theorem word_same (s : ByteArray) : rwordS s = wordS s := by
  unfold rwordS wordS
  rw [made_chars firstC nextC fine_of_first fine_of_next s]

def cutK : List UInt8 → List UInt8 → List (List UInt8)
  | [], x => [x]
  | c :: l, x => if c = 32 then x :: cutK l [] else cutK l (x ++ [c])
theorem cutL_data : ∀ (l : List UInt8) (x : ByteArray), (cutL l x).map (·.data.toList) = cutK l x.data.toList
  | [], x => rfl
  | c :: l, x => by
    unfold cutL cutK
    by_cases h : c = 32
    · rw [if_pos h, if_pos h, List.map_cons, cutL_data l]
    · rw [if_neg h, if_neg h, cutL_data l]
      simp [ByteArray.data_append]
theorem cutK_none : ∀ (A x : List UInt8), (32 : UInt8) ∉ A → cutK A x = [x ++ A]
  | [], x, _ => by simp [cutK]
  | c :: A, x, h => by
    rw [List.mem_cons, not_or] at h
    rw [cutK, if_neg (fun e => h.1 e.symm), cutK_none A _ h.2]
    simp
theorem cutK_hit : ∀ (A B x : List UInt8), (32 : UInt8) ∉ A → cutK (A ++ 32 :: B) x = (x ++ A) :: cutK B []
  | [], B, x, _ => by simp [cutK]
  | c :: A, B, x, h => by
    rw [List.mem_cons, not_or] at h
    rw [List.cons_append, cutK, if_neg (fun e => h.1 e.symm), cutK_hit A B _ h.2]
    simp
theorem splitK_cut : ∀ (k : Nat) (l : List UInt8), l.count 32 = k → Lib.splitK [32] 0 k l = cutK l []
  | 0, l, h => by
    rw [cutK_none l [] (List.count_eq_zero.1 h)]
    rfl
  | k + 1, l, h => by
    have hm : (32 : UInt8) ∈ l := List.count_pos_iff.1 (by omega)
    obtain ⟨A, B, rfl, hA⟩ := List.eq_append_cons_of_mem hm
    have hB : B.count 32 = k := by
      rw [List.count_append, List.count_eq_zero.2 hA, List.count_cons_self] at h
      omega
    unfold Lib.splitK
    rw [index_skip 32 A B hA, cutK_hit A B [] hA]
    have : (((A.length : Nat) : Int) == -1) = false := by simp
    rw [this]
    simp only [Bool.false_eq_true, if_false, Int.toNat_natCast, Nat.add_zero, List.length_cons, List.length_nil]
    have h2 : (A ++ 32 :: B).drop (A.length + 1) = B := by simp
    have h3 : (A ++ 32 :: B).take A.length = A := by simp
    simp [h2, h3, splitK_cut k B hB]

theorem data_inj {a b : List ByteArray} (h : a.map (·.data.toList) = b.map (·.data.toList)) : a = b :=
  (List.map_inj_right (fun x y hxy => by cases x; cases y; simp only [ByteArray.mk.injEq]; exact Array.ext' hxy)).1 h
theorem parts_same (s : ByteArray) : rpartsS s = partsS s := by
  refine data_inj ?_
  unfold rpartsS partsS
  rw [cutL_data, Lib.splitB_data]
  refine (splitK_cut _ _ ?_).symm
  show _ = Lib.count s.data.toList [32]
  rw [Lib.count_one]
theorem words_same (s : ByteArray) : rwordsS s = wordsS s := by
  unfold rwordsS wordsS
  rw [parts_same]
  congr 2
  · congr 1
    funext x
    exact word_same x
end Go.Proofs.YtaaedmipcffjoaaDoor
