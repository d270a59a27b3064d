/-
  The walks of the scope laws' own helpers: great.
-/
import Derived.Test.YtaaedmipcffjoaaDoorSCA
import Derived.Test.YtaaedmipcffjoaaDoorP
import Derived.Deep.LoopGhost
namespace Go.Proofs.YtaaedmipcffjoaaDoor
open Go.RowKit

/-- What 'great' adds up. -/
def greatL (l : List ByteArray) : Nat := (l.map fun s => s.size / 8).sum
def greatN (ls : List (List ByteArray)) : Nat := (ls.map fun l => l.length + greatL l).sum
theorem greatL_cons (x : ByteArray) (l : List ByteArray) : greatL (x :: l) = x.size / 8 + greatL l := by simp [greatL]
theorem greatL_snoc (l : List ByteArray) (x : ByteArray) : greatL (l ++ [x]) = greatL l + x.size / 8 := by simp [greatL]
theorem greatN_snoc (ls : List (List ByteArray)) (l : List ByteArray) : greatN (ls ++ [l]) = greatN ls + (l.length + greatL l) := by simp [greatN]
theorem greatL_le : ∀ l : List ByteArray, greatL l + l.length ≤ sumS l
  | [] => Nat.zero_le _
  | x :: l => by
    have := greatL_le l
    rw [greatL_cons, sumS_cons, List.length_cons]
    omega
theorem greatL_app (a b : List ByteArray) : greatL (a ++ b) = greatL a + greatL b := by simp [greatL]
theorem greatN_app (a b : List (List ByteArray)) : greatN (a ++ b) = greatN a + greatN b := by simp [greatN]
theorem greatL_take (l : List ByteArray) (j : Nat) : greatL (l.take j) ≤ greatL l := by
  have := greatL_app (l.take j) (l.drop j)
  rw [List.take_append_drop] at this; omega
theorem greatN_take (ls : List (List ByteArray)) (k : Nat) : greatN (ls.take k) ≤ greatN ls := by
  have := greatN_app (ls.take k) (ls.drop k)
  rw [List.take_append_drop] at this; omega
theorem greatN_cons (l : List ByteArray) (ls : List (List ByteArray)) : greatN (l :: ls) = l.length + greatL l + greatN ls := by simp [greatN]

set_option maxRecDepth 100000 in
set_option maxHeartbeats 2000000 in
theorem great_c (v : Value) (vs : List Value) (ls : List (List ByteArray)) (w : World) (hv : RowAt w v vs) (hlen : vs.length = ls.length) (hl : vs.length ≤ 1000) (hr : ∀ i (h : i < vs.length), RowAt0 w vs[i] (strsV (ls.getD i []))) (hb : greatN ls ≤ 4294967296) :
    Calls Tryd.prog 15 #[v] w fun e w' => e = .returned (.bool (decide (400 < greatN ls))) ∧ w = w' := by
  obtain ⟨b, off, cap, rfl, hcap, hlt, hc⟩ := hv
  obtain ⟨n, hn⟩ : ∃ n, vs.length = n := ⟨_, rfl⟩
  rw [hn] at hlen hcap hl ⊢
  obtain ⟨R, hR⟩ : ∃ R, decide (400 < greatN ls) = R := ⟨_, rfl⟩
  rw [hR]
  have HC := Lib.hid hc
  have HN := Lib.hid hn
  have HR := Lib.hid hr
  have HL := Lib.hid hlen
  have HRR := Lib.hid hR
  have HB := Lib.hid hb
  clear hc hn hr hlen hR hb hlt
  go_enter Tryd.func15, Tryd.ntmps15
  go_wp2_with fail
  go_loop [3, 10] (fun m i => ∃ k : Nat, k ≤ n ∧ i = .int .i64 k ∧ m = .int .i64 (greatN (ls.take k))) (fun _ i => n - (intOf i).toNat)
  case atStart => exact ⟨0, Nat.zero_le _, rfl, rfl⟩
  case round =>
    obtain ⟨k, hk, rfl, rfl⟩ := hrel
    by_cases hkn : k < n
    · have hkv : k < vs.length := by rw [HN.out]; exact hkn
      have hkl : k < ls.length := by rw [← HL.out]; exact hkn
      have hcell := HC.out k hkv
      have hrow := HR.out k hkv
      have hg : ls.getD k [] = ls[k] := by rw [List.getD_eq_getElem?_getD, List.getElem?_eq_getElem hkl]; rfl
      rw [hg] at hrow
      have hts := take_snoc_s ls k hkl
      obtain ⟨l, hl2⟩ : ∃ l, ls[k] = l := ⟨_, rfl⟩
      rw [hl2] at hrow hts
      obtain ⟨ao, c2, hv2, hc2⟩ := row0_form hrow l.length (strsV_length l)
      rw [hv2] at hcell
      have hgt := greatN_take ls (k + 1)
      have hgs := greatN_snoc (ls.take k) l
      rw [← hts] at hgs
      obtain ⟨G, hG⟩ : ∃ G, greatN (ls.take k) = G := ⟨_, rfl⟩
      obtain ⟨G2, hG2⟩ : ∃ G2, greatN (ls.take (k + 1)) = G2 := ⟨_, rfl⟩
      have hlt2 := fun j => greatL_take l j
      rw [hG, hG2] at hgs
      rw [hG2] at hgt
      rw [hG]
      obtain ⟨c, hcl⟩ : ∃ c, l.length = c := ⟨_, rfl⟩
      rw [hcl] at hgs hcell hc2
      have HGS := Lib.hid hgs
      have HG2 := Lib.hid hG2
      have HCL := Lib.hid hcl
      have HC2 := Lib.hid hc2
      have HLT := Lib.hid hlt2
      have hGb : G + c ≤ 4294967296 := by have := HB.out; omega
      clear hgt hgs hG hG2 hcl hc2 hlt2 hg hl2 hts hrow hv2
      go_wp2_with fail
      go_loop [3, 20] (fun m i => ∃ j : Nat, j ≤ c ∧ i = .int .i64 j ∧ m = .int .i64 (G + c + greatL (l.take j) : Nat)) (fun _ i => c - (intOf i).toNat)
      case atStart => exact ⟨0, Nat.zero_le _, rfl, by simp [greatL]⟩
      case round =>
        obtain ⟨j, hj, rfl, rfl⟩ := hrel
        by_cases hjc : j < c
        · have hjl : j < l.length := by rw [HCL.out]; exact hjc
          obtain ⟨b2, off2, rfl, hlt2, hcap2, hce2⟩ := HC2.out (by omega)
          obtain ⟨x, hx⟩ : ∃ x, l[j] = x := ⟨_, rfl⟩
          have hcell2 : w.cell? ⟨b2, off2 + j, none⟩ = some (.string x) := by
            rw [hce2 j hjc, ← hx]; simp [strsV, hjl]
          have hts := take_snoc_s l j hjl
          rw [hx] at hts
          have hgs := greatL_snoc (l.take j) x
          rw [← hts] at hgs
          have hle := HLT.out (j + 1)
          have hle2 : G + c + greatL (l.take (j + 1)) ≤ 4294967296 := by have := HB.out; have := HGS.out; have := HG2.out; have := greatN_take ls (k + 1); omega
          obtain ⟨A, hA⟩ : ∃ A, greatL (l.take j) = A := ⟨_, rfl⟩
          rw [hA] at hgs ⊢
          have hxs : x.size / 8 ≤ 4294967296 := by omega
          have hab : G + c + A + x.size / 8 ≤ 4294967296 := by omega
          have HGG := Lib.hid hgs
          clear hgs hle hle2 hA hts hx hce2
          have hxz : x.size ≤ 34359738376 := by omega
          have hxp : (0 : Int) ≤ x.size := by omega
          go_wp2_with fail
          refine ⟨⟨j + 1, by omega, by go_num, ?_⟩, by simp [intOf]; omega⟩
          rw [HGG.out]
          exact int_eq (by omega)
        · obtain rfl : j = c := by omega
          rw [List.take_of_length_le (by have := HCL.out; omega)]
          go_wp2_with fail
          refine ⟨⟨k + 1, by omega, by go_num, ?_⟩, by simp [intOf]; omega⟩
          rw [HG2.out, HGS.out]
          go_num
    · obtain rfl : k = n := by omega
      rw [List.take_of_length_le (by have := HL.out; omega)]
      have hb := HB.out
      have hr2 := HRR.out
      obtain ⟨G, hG⟩ : ∃ G, greatN ls = G := ⟨_, rfl⟩
      rw [hG] at hb hr2 ⊢
      clear hG
      subst hr2
      go_wp2_with fail
      go_ret
      exact ⟨ret_bool (decide_eq_decide.2 (by omega)), rfl⟩
end Go.Proofs.YtaaedmipcffjoaaDoor
