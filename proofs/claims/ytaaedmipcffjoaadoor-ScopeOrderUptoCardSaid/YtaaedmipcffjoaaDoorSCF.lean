/-
  The walks of the document's answer for scope: Has, Longest.
-/
import Derived.Test.YtaaedmipcffjoaaDoorSCA
import Derived.Test.YtaaedmipcffjoaaDoorP
import Derived.Test.YtaaedmipcffjoaaDoorUA
import Derived.BigQuiet
import Derived.Deep.QuietTactic
import Derived.Deep.RegionHeld3
import Derived.IntWalk
namespace Go.Proofs.YtaaedmipcffjoaaDoor
open Go.RowKit

theorem eq_of_toList {x y : ByteArray} : (x.toList == y.toList) = decide (x = y) := by
  refine bool_ext ?_
  rw [decide_eq_true_eq]
  exact ⟨toList_eq, fun h => by rw [h]; simp⟩
theorem toLists_eq {x y : ByteArray} : (x.toList == y.toList) = decide (y = x) := by
  rw [eq_of_toList]; exact decide_eq_decide.2 ⟨Eq.symm, Eq.symm⟩

set_option maxRecDepth 100000 in
set_option maxHeartbeats 1000000 in
theorem rhas_c (sl : Value) (l : List ByteArray) (x : ByteArray) (w : World) (hv : RowAt0 w sl (strsV l)) (hl : l.length ≤ 4294967290) :
    Calls Tryd.prog 20 #[sl, .string x] w (RetBel (.bool (decide (x ∈ l))) w) := by
  obtain ⟨ao, cap, rfl, hcs⟩ := row0_form hv l.length (strsV_length l)
  obtain ⟨R, hR⟩ : ∃ R, decide (x ∈ l) = R := ⟨_, rfl⟩
  rw [hR]
  obtain ⟨n, hn⟩ : ∃ n, l.length = n := ⟨_, rfl⟩
  rw [hn] at hcs hl ⊢
  have HR := Lib.hid hR
  have HCS := Lib.hid hcs
  have HN := Lib.hid hn
  clear hR hcs hn hv
  go_enter Tryd.func20, Tryd.ntmps20
  go_wp2_with fail
  go_loopw [5] (fun i wr => ∃ k : Nat, k ≤ n ∧ i = .int .i64 k ∧ Bel w wr ∧ decide (x ∈ l.drop k) = R) (fun i _ => n - (intOf i).toNat)
  case atStart => exact ⟨0, Nat.zero_le _, rfl, Bel.refl _, HR.out⟩
  case round =>
    obtain ⟨k, hk, rfl, hbel, hd⟩ := hrel
    by_cases hkn : k < n
    · have hkl : k < l.length := by rw [HN.out]; exact hkn
      obtain ⟨b, off, rfl, hlt, hcap, hce⟩ := HCS.out (by omega)
      rw [List.drop_eq_getElem_cons hkl] at hd
      obtain ⟨y, hy⟩ : ∃ y, l[k] = y := ⟨_, rfl⟩
      have hcell : wr.cell? ⟨b, off + k, none⟩ = some (.string y) := by
        rw [hbel.cell hlt, hce k hkn, ← hy]; simp [strsV, hkl]
      rw [hy] at hd
      have HD := Lib.hid hd
      clear hy hd hce
      go_wp2_with fail
      · have hxy : (y.toList == x.toList) = true := by assumption
        go_ret
        refine ⟨ret_bool ?_, hbel⟩
        rw [← HD.out, toList_eq hxy]
        simp
      · have hxy : (y.toList == x.toList) = false := by assumption
        refine ⟨⟨k + 1, by omega, by go_num, hbel, ?_⟩, by simp [intOf]; omega⟩
        rw [← HD.out]
        have := toList_ne hxy
        simp [Ne.symm this]
    · obtain rfl : k = n := by omega
      rw [List.drop_of_length_le (by have := HN.out; omega)] at hd
      obtain rfl : R = false := by rw [← hd]; simp
      go_wp2_with fail
      go_ret
      exact ⟨rfl, hbel⟩

def RetLongR (r : ByteArray × Nat) (w : World) (e : Ending) (w' : World) : Prop := e = .returned (.tuple #[.string r.1, .int .i64 r.2]) ∧ Bel w w'

set_option maxRecDepth 100000 in
set_option maxHeartbeats 2000000 in
theorem rlongest_c (sl1 : Value) (l : List ByteArray) (sl : Value) (words : List ByteArray) (w : World) (hv1 : RowAt0 w sl1 (strsV l)) (hl1 : l.length ≤ 4294967290) (hv : RowAt0 w sl (strsV words)) (hl : words.length ≤ 4294960000) (hsum : sumS words ≤ 4294960000) :
    Calls Tryd.prog 18 #[sl1, sl] w (RetLongR (longS l words words.length) w) := by
  obtain ⟨ao, cap, rfl, hcs⟩ := row0_form hv words.length (strsV_length words)
  obtain ⟨n, hn⟩ : ∃ n, words.length = n := ⟨_, rfl⟩
  rw [hn] at hcs hl ⊢
  have hha := fun y w1 (hb : Bel w w1) => rhas_c sl1 l y w1 (hv1.bel hb) hl1
  have HH := Lib.hid hha
  have HCS := Lib.hid hcs
  have HN := Lib.hid hn
  have HSUM := Lib.hid hsum
  clear hcs hn hv hv1 hha hsum
  go_enter Tryd.func18, Tryd.ntmps18
  go_wp2_with fail
  go_loopw [6, 7, 8, 9] (fun s b m i wr => ∃ k : Nat, k ≤ n ∧ i = .int .i64 k ∧ Bel w wr ∧ s = .string (joinS (words.take k)) ∧ b = .string (longS l words k).1 ∧ m = .int .i64 (longS l words k).2) (fun _ _ _ i _ => n - (intOf i).toNat)
  case atStart => exact ⟨0, Nat.zero_le _, rfl, Bel.refl _, rfl, rfl, rfl⟩
  case round =>
    obtain ⟨k, hk, rfl, hbel, rfl, rfl, rfl⟩ := hrel
    by_cases hkn : k < n
    · have hkl : k < words.length := by rw [HN.out]; exact hkn
      obtain ⟨b, off, rfl, hlt, hcap, hce⟩ := HCS.out (by omega)
      obtain ⟨y, hy⟩ : ∃ y, words[k] = y := ⟨_, rfl⟩
      have hcell : wr.cell? ⟨b, off + k, none⟩ = some (.string y) := by
        rw [hbel.cell hlt, hce k hkn, ← hy]; simp [strsV, hkl]
      have hls := longS_succ l words k
      have hts := take_snoc_s words k hkl
      rw [hy] at hts
      have hj1 := joinS_size (words.take k)
      have hj2 := sumS_take words k
      have hj3 := joinS_size (words.take (k + 1))
      have hj4 := sumS_take words (k + 1)
      have hjj : joinS (words.take (k + 1)) = if k = 0 then ⟨#[]⟩ ++ y else joinS (words.take k) ++ ⟨#[32]⟩ ++ y := by
        by_cases h0 : k = 0
        · subst h0
          rw [if_pos rfl, hts, show (⟨#[]⟩ : ByteArray) ++ y = y from ByteArray.empty_append]
          simp [joinS_one]
        · rw [if_neg h0, hts, joinS_snoc]
          intro h
          have := congrArg List.length h
          rw [List.length_take, List.length_nil] at this
          omega
      obtain ⟨X, hX⟩ : ∃ X, joinS (words.take k) = X := ⟨_, rfl⟩
      obtain ⟨Y, hY⟩ : ∃ Y, joinS (words.take (k + 1)) = Y := ⟨_, rfl⟩
      rw [hX] at hj1 hjj
      rw [hY] at hj3 hjj hls
      have hXs : X.size ≤ 4294960000 := by have := HSUM.out; omega
      have hYs : Y.size ≤ 4294960000 := by have := HSUM.out; omega
      obtain ⟨⟨p, q⟩, hpq⟩ : ∃ r, longS l words k = r := ⟨_, rfl⟩
      rw [hpq] at hls
      rw [hX, hpq]
      have hhas := HH.out Y wr hbel
      obtain ⟨F, hF⟩ : ∃ F, decide (Y ∈ l) = F := ⟨_, rfl⟩
      rw [hF] at hhas
      have HHA := Lib.hid hhas
      have HF := Lib.hid hF
      have HLS := Lib.hid hls
      have HY := Lib.hid hY
      have HPQ := Lib.hid hpq
      have HX : k = 0 → X = ⟨#[]⟩ := fun h => by rw [← hX, h]; rfl
      have HX := Lib.hid HX
      clear hhas hF hls hY hX hpq hy hce hts hj1 hj2 hj3 hj4
      by_cases h0 : k = 0
      · subst h0
        rw [if_pos rfl] at hjj
        obtain rfl : X = ⟨#[]⟩ := HX.out rfl
        rw [Nat.add_zero] at hcell
        subst hjj
        have g1 : ¬ (9223372036854775807 < (⟨#[]⟩ : ByteArray).size + y.size) := by rw [← ByteArray.size_append]; omega
        cases F
        · go_wp2_with (go_at_call 20; refine HHA.out.mono ?_; rintro e w1 ⟨rfl, hb1⟩)
          refine ⟨⟨0 + 1, by omega, by go_num, hbel.trans (by assumption), by rw [HY.out], ?_, ?_⟩, by simp [intOf]; try omega⟩
          all_goals rw [HLS.out, if_neg (of_decide_eq_false HF.out)]
          all_goals rw [HPQ.out]
        · go_wp2_with (go_at_call 20; refine HHA.out.mono ?_; rintro e w1 ⟨rfl, hb1⟩)
          refine ⟨⟨0 + 1, by omega, by go_num, hbel.trans (by assumption), by rw [HY.out], ?_, ?_⟩, by simp [intOf]; try omega⟩
          all_goals rw [HLS.out, if_pos (of_decide_eq_true HF.out)]
          all_goals (dsimp only; try go_num)
      · rw [if_neg h0] at hjj
        have hk0 : (0 : Int) < k := by omega
        subst hjj
        have g1 : ¬ (9223372036854775807 < X.size + 1) := by omega
        have g2 : ¬ (9223372036854775807 < (X ++ ⟨#[32]⟩ : ByteArray).size + y.size) := by rw [← ByteArray.size_append]; omega
        cases F
        · go_wp2_with (go_at_call 20; refine HHA.out.mono ?_; rintro e w1 ⟨rfl, hb1⟩)
          refine ⟨⟨k + 1, by omega, by go_num, hbel.trans (by assumption), by rw [HY.out], ?_, ?_⟩, by simp [intOf]; try omega⟩
          all_goals rw [HLS.out, if_neg (of_decide_eq_false HF.out)]
          all_goals rw [HPQ.out]
        · go_wp2_with (go_at_call 20; refine HHA.out.mono ?_; rintro e w1 ⟨rfl, hb1⟩)
          refine ⟨⟨k + 1, by omega, by go_num, hbel.trans (by assumption), by rw [HY.out], ?_, ?_⟩, by simp [intOf]; try omega⟩
          all_goals rw [HLS.out, if_pos (of_decide_eq_true HF.out)]
          all_goals (dsimp only; try go_num)
    · obtain rfl : k = n := by omega
      go_wp2_with fail
      go_ret2
      exact ⟨rfl, hbel⟩
end Go.Proofs.YtaaedmipcffjoaaDoor
