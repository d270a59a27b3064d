/-
  The document's xmlout: the walks of fine, space, text.
-/
import Derived.Test.YtojeclfcgnamoaaDoorXA
namespace Go.Proofs.YtojeclfcgnamoaaDoor
open Go.RowKit

theorem chkF_le (s : ByteArray) : ∀ b pos : Nat, chkF s b pos ≤ s.size
  | 0, _ => Nat.le_refl _
  | b + 1, pos => by
    rw [chkF]
    split
    · split
      · exact chkF_le s b _
      · omega
    · exact Nat.le_refl _
theorem chkS_le (s : ByteArray) : chkS s ≤ s.size := chkF_le s _ _
set_option maxRecDepth 100000 in
set_option maxHeartbeats 4000000 in
theorem d6fine_c (s : ByteArray) (hs : s.size ≤ 1073741824) (w : World) : Calls Tryd.prog 29 #[.string s] w (RetBel (.bool (fineS s)) w) := by
  have HCK := Lib.hid fun v W (_hb : Bel w W) hv => rcheck_c s (by omega) v W hv
  have hle := chkS_le s
  have heq : ((chkS s : Int) == (s.size : Int)) = fineS s := by
    unfold fineS
    by_cases h : chkS s < s.size
    · rw [decide_eq_true h]; simp; omega
    · rw [decide_eq_false h]; simp; omega
  obtain ⟨N, hN⟩ : ∃ N, chkS s = N := ⟨_, rfl⟩
  obtain ⟨F, hF⟩ : ∃ F, fineS s = F := ⟨_, rfl⟩
  rw [hN] at HCK heq hle
  rw [hF] at heq ⊢
  clear hN hF
  go_enter Tryd.func29, Tryd.ntmps29
  go_wp2_with (refine wpL_bytes rfl 9 31 5 _ rfl s rfl Tryd.underlying9 Tryd.underlying31 Tryd.underlying5 ?_; intro v W1 hv hb1)
  refine (HCK.out _ _ hb1 hv).mono ?_
  rintro e w2 ⟨rfl, hb2⟩
  go_wp2_with fail
  go_ret
  exact ⟨rfl, hb1.trans hb2⟩
set_option maxRecDepth 100000 in
set_option maxHeartbeats 4000000 in
theorem d6space_c (s : ByteArray) (hs : s.size ≤ 1073741824) (w : World) : Calls Tryd.prog 28 #[.string s] w (RetBel (.bool (fineS s && !decide (s = nsX))) w) := by
  have HCK := Lib.hid (d6fine_c s hs w)
  have hns : (s.toList == [104, 116, 116, 112, 58, 47, 47, 119, 119, 119, 46, 119, 51, 46, 111, 114, 103, 47, 50, 48, 48, 48, 47, 120, 109, 108, 110, 115, 47]) = decide (s = nsX) := by rw [← lequal s nsX, Lib.toList_data nsX]; rfl
  have hns2 : (s.toList != [104, 116, 116, 112, 58, 47, 47, 119, 119, 119, 46, 119, 51, 46, 111, 114, 103, 47, 50, 48, 48, 48, 47, 120, 109, 108, 110, 115, 47]) = !decide (s = nsX) := by rw [← hns]; rfl
  obtain ⟨S, hS⟩ : ∃ S, decide (s = nsX) = S := ⟨_, rfl⟩
  obtain ⟨F, hF⟩ : ∃ F, fineS s = F := ⟨_, rfl⟩
  rw [hS] at hns hns2 ⊢
  rw [hF] at HCK ⊢
  clear hS hF
  go_enter Tryd.func28, Tryd.ntmps28
  go_wp2_with fail
  refine HCK.out.mono ?_
  rintro e w2 ⟨rfl, hb2⟩
  cases F <;> cases S <;>
  · go_wp2_with fail
    go_ret
    exact ⟨rfl, hb2⟩
set_option maxRecDepth 100000 in
set_option maxHeartbeats 8000000 in
theorem d6text_c (t : Int) (sp lo tx : ByteArray) (aa ka : Option Addr) (an ac kn kc : Nat) (wrong : Bool) (hs : tx.size ≤ 1073741824) (_han : an ≤ 1073741824) (_hkn : kn ≤ 1073741824) (w : World) :
    Calls Tryd.prog 26 #[.agg #[.int .i64 t, .string sp, .string lo, .slice aa an ac, .slice ka kn kc, .string tx], .bool wrong] w (RetBel (.int .i64 (if wrong = true then 2 else textS6 sp tx an kn : Nat)) w) := by
  have HF := Lib.hid fun W (_ : Bel w W) => d6fine_c tx hs W
  have b0 := Bel.alloc w (.cells #[.int .i64 t, .string sp, .string lo, .slice aa an ac, .slice ka kn kc, .string tx] 27)
  obtain ⟨R, hR⟩ : ∃ R, (if wrong = true then 2 else textS6 sp tx an kn) = R := ⟨_, rfl⟩
  rw [hR]
  have htx := lempty tx
  have hsp := lempty sp
  obtain ⟨A, hA⟩ : ∃ A, decide (tx = ⟨#[]⟩) = A := ⟨_, rfl⟩
  obtain ⟨B, hB⟩ : ∃ B, decide (sp = ⟨#[]⟩) = B := ⟨_, rfl⟩
  obtain ⟨C, hC⟩ : ∃ C, decide (0 < an) = C := ⟨_, rfl⟩
  obtain ⟨D, hD⟩ : ∃ D, decide (0 < kn) = D := ⟨_, rfl⟩
  obtain ⟨F, hF⟩ : ∃ F, fineS tx = F := ⟨_, rfl⟩
  have HR : Hid ((if wrong = true then 2 else if A = true ∨ C = true ∨ D = true ∨ B = false then 2 else if F = false then 4 else 0) = R) := Lib.hid (by rw [← hR, ← hA, ← hB, ← hC, ← hD, ← hF]; unfold textS6; simp)
  rw [hA] at htx
  rw [hB] at hsp
  rw [hF] at HF
  clear hA hB hF hR
  cases wrong
  · cases A
    · cases C
      · cases D
        · cases B
          · go_enter Tryd.func26, Tryd.ntmps26
            go_wp2_with fail
            go_ret
            exact ⟨by rw [← HR.out]; rfl, b0⟩
          · go_enter Tryd.func26, Tryd.ntmps26
            go_wp2_with fail
            refine (HF.out _ b0).mono ?_
            rintro e w2 ⟨rfl, hb2⟩
            cases F <;> (go_wp2_with fail; go_ret; exact ⟨by rw [← HR.out]; rfl, b0.trans hb2⟩)
        · go_enter Tryd.func26, Tryd.ntmps26
          go_wp2_with fail
          go_ret
          exact ⟨by rw [← HR.out]; cases B <;> rfl, b0⟩
      · go_enter Tryd.func26, Tryd.ntmps26
        go_wp2_with fail
        go_ret
        exact ⟨by rw [← HR.out]; cases B <;> cases D <;> rfl, b0⟩
    · go_enter Tryd.func26, Tryd.ntmps26
      go_wp2_with fail
      go_ret
      exact ⟨by rw [← HR.out]; rfl, b0⟩
  · go_enter Tryd.func26, Tryd.ntmps26
    go_wp2_with fail
    go_ret
    exact ⟨by rw [← HR.out]; rfl, b0⟩
end Go.Proofs.YtojeclfcgnamoaaDoor
