/-
  The stable sort of attributes, walked: stable, SortStableFunc.
-/
import Derived.Test.YtojeclfcgnamoaaDoorSTH
import Derived.Test.YtojeclfcgnamoaaDoorSTK
namespace Go.Proofs.YtojeclfcgnamoaaDoor
open Go.RowKit Go.Sort Go.Shelf Go.Lib

theorem insB_size (n : Nat) : ∀ (f a : Nat) (d : Array Atr), (insB ltA n f a d).size = d.size
  | 0, a, d => by unfold insB; exact insertion_size _ _ _
  | f + 1, a, d => by
    unfold insB
    split
    · rw [insB_size n f, insertion_size]
    · exact insertion_size _ _ _
theorem mrgP_size (z n : Nat) : ∀ (f a : Nat) (d : Array Atr), (mrgP ltA z n f a d).size = d.size
  | 0, a, d => rfl
  | f + 1, a, d => by
    unfold mrgP
    split
    · rw [mrgP_size z n f, symF_size]
    · split
      · exact symF_size _ _ _ _ _ _
      · rfl
set_option maxRecDepth 100000 in
set_option maxHeartbeats 16000000 in
theorem stable_s (blk off cap : Nat) (d0 : Array Atr) (w0 : World) (N : Nat) (R : RowK encA 3 w0 blk off d0) (hs : d0.size = N) (hsz : N ≤ 1073741824) (w : World) (S : SWK encA 3 w0 blk off d0 w) :
    Calls Tryd.prog 54 #[.slice (some ⟨blk, off, none⟩) N cap, .int .i64 N, .func (.func 32) #[] #[]] w fun e w' => e = .returned (.tuple #[]) ∧ SWK encA 3 w0 blk off (stableF ltA N d0) w' := by
  have S0 := Lib.hid S
  have HDS := Lib.hid hs
  have HINS : Hid (∀ (a b : Nat) (d : Array Atr) (w : World), d.size = N → SWK encA 3 w0 blk off d w → a ≤ b → b ≤ N → Calls Tryd.prog 66 #[.slice (some ⟨blk, off, none⟩) N cap, .int .i64 a, .int .i64 b, .func (.func 32) #[] #[]] w fun e w' => e = .returned (.tuple #[]) ∧ SWK encA 3 w0 blk off (insertionSort ltA d a b) w') := Lib.hid fun a b d w h1 h2 h3 h4 => insertion_s blk off cap d0 w0 N R hs hsz a b d w h1 h2 h3 h4
  have HSYM := Lib.hid (symMerge_s blk off cap d0 w0 N R hs hsz)
  clear S R hs
  go_enter Tryd.func54, Tryd.ntmps54
  go_wp2_with fail
  go_loopw [7, 8] (fun x y wr => ∃ (a b f : Nat) (dk : Array Atr), x = .int .i64 a ∧ y = .int .i64 b ∧ b = a + 20 ∧ a ≤ N ∧ N ≤ a + f ∧ Hid (dk.size = N) ∧ Hid (SWK encA 3 w0 blk off dk wr) ∧ Hid (insB ltA N f a dk = insB ltA N N 0 d0)) (fun _ y _ => N + 20 - (intOf y).toNat)
  case atStart => exact ⟨0, 20, N, d0, rfl, rfl, rfl, by omega, by omega, HDS, S0, Lib.hid rfl⟩
  case round =>
    obtain ⟨a, b, f, dk, rfl, rfl, hb, ha, hf, KDS, S1, HI⟩ := hrel
    have HB := Lib.hid hb
    by_cases hle : b ≤ N
    · have hlei : (b : Int) ≤ N := by omega
      obtain ⟨f, rfl⟩ : ∃ f', f = f' + 1 := ⟨f - 1, by omega⟩
      have HC := Lib.hid (HINS.out a b dk wr KDS.out S1.out (by omega) hle)
      have HI2 : Hid (insB ltA N f b (insertionSort ltA dk a b) = insB ltA N N 0 d0) := Lib.hid (by rw [← HI.out, insB, if_pos (by omega), hb])
      clear S1 HI hb
      go_wp2_with fail
      refine HC.out.mono ?_
      rintro e2 w2 ⟨rfl, hS2⟩
      have HS2 := Lib.hid hS2
      clear hS2 HC
      go_wp2_with fail
      exact ⟨⟨b, b + 20, f, insertionSort ltA dk a b, rfl, by go_num, rfl, hle, by have := HB.out; omega, Lib.hid (by rw [insertion_size]; exact KDS.out), HS2, HI2⟩, by have := HB.out; simp [intOf]; omega⟩
    · have hlei : ¬ ((b : Int) ≤ N) := by omega
      have HC := Lib.hid (HINS.out a N dk wr KDS.out S1.out ha (Nat.le_refl _))
      obtain ⟨d1, hd1⟩ : ∃ d1, insertionSort ltA dk a N = d1 := ⟨_, rfl⟩
      have HD1 : Hid (d1.size = N) := Lib.hid (by rw [← hd1, insertion_size]; exact KDS.out)
      rw [hd1] at HC
      have HE1 : Hid (stF ltA N (N + 1) 20 d1 = stableF ltA N d0) := Lib.hid (by
        unfold stableF
        rw [← HI.out, ← hd1]
        cases f with
        | zero => rfl
        | succ f => rw [insB, if_neg (by omega)])
      clear S1 HI hd1 hb
      go_wp2_with fail
      refine HC.out.mono ?_
      rintro e2 w2 ⟨rfl, hS2⟩
      have HS2 := Lib.hid hS2
      clear hS2 HC KDS hlei hle
      go_wp2_with fail
      go_loopw [6] (fun x wr => ∃ (z f : Nat) (dz : Array Atr), x = .int .i64 z ∧ 20 ≤ z ∧ z ≤ 2 * N + 20 ∧ N ≤ z + f ∧ Hid (dz.size = N) ∧ Hid (SWK encA 3 w0 blk off dz wr) ∧ Hid (stF ltA N f z dz = stableF ltA N d0)) (fun x _ => 2 * N + 20 - (intOf x).toNat)
      case atStart => exact ⟨20, N + 1, d1, rfl, Nat.le_refl _, by omega, by omega, HD1, HS2, HE1⟩
      case round =>
        obtain ⟨z, f, dz, rfl, hz1, hz2, hf, ZDS, S1, HZ⟩ := hrel
        by_cases hzn : z < N
        · have hzni : (z : Int) < N := by omega
          obtain ⟨f, rfl⟩ : ∃ f', f = f' + 1 := ⟨f - 1, by omega⟩
          have HZ2 : Hid (stF ltA N f (z * 2) (mrgP ltA z N (N + 1) 0 dz) = stableF ltA N d0) := Lib.hid (by rw [← HZ.out, stF, if_pos hzn])
          obtain ⟨zz, hzz⟩ : ∃ zz, 2 * z = zz := ⟨_, rfl⟩
          have WZ : Hid (IntKind.i64.wrap (2 * (z : Int)) = (zz : Int)) := Lib.hid (by rw [IntKind.wrap_i64]; omega)
          have HZZ := Lib.hid hzz
          clear HZ hzz
          have wz := WZ.out
          go_wp2_with fail
          clear wz
          go_loopw [7, 8] (fun x y wr => ∃ (a b g : Nat) (dk : Array Atr), x = .int .i64 a ∧ y = .int .i64 b ∧ b = a + zz ∧ a ≤ N ∧ N < a + g ∧ Hid (dk.size = N) ∧ Hid (SWK encA 3 w0 blk off dk wr) ∧ Hid (mrgP ltA z N g a dk = mrgP ltA z N (N + 1) 0 dz)) (fun _ y _ => N + zz - (intOf y).toNat)
          case atStart => exact ⟨0, zz, N + 1, dz, rfl, rfl, by omega, by omega, by omega, ZDS, S1, Lib.hid rfl⟩
          case round =>
            obtain ⟨a, b, g, dk, rfl, rfl, hb, ha, hg, KDS, S2, HM⟩ := hrel
            have hzz := HZZ.out
            obtain ⟨g, rfl⟩ : ∃ g', g = g' + 1 := ⟨g - 1, by omega⟩
            obtain ⟨m, hm⟩ : ∃ m, a + z = m := ⟨_, rfl⟩
            have WM : Hid (IntKind.i64.wrap ((a : Int) + z) = (m : Int)) := Lib.hid (by rw [IntKind.wrap_i64]; omega)
            by_cases hle : b ≤ N
            · have hlei : (b : Int) ≤ N := by omega
              have HC := Lib.hid (HSYM.out zz a m b dk wr KDS.out S2.out (by omega) (by omega) (by omega) hle)
              have HM2 : Hid (mrgP ltA z N g b (symF ltA zz a m b dk) = mrgP ltA z N (N + 1) 0 dz) := Lib.hid (by rw [← HM.out, mrgP, if_pos (by omega), hm, hzz, hb])
              have HB2 := Lib.hid hb
              have WB : Hid (IntKind.i64.wrap ((b : Int) + zz) = ((b + zz : Nat) : Int)) := Lib.hid (by rw [IntKind.wrap_i64]; omega)
              clear S2 HM hm hb hzz
              have wm := WM.out
              go_wp2_with fail
              refine HC.out.mono ?_
              rintro e2 w2 ⟨rfl, hS2⟩
              have HS2 := Lib.hid hS2
              clear hS2 HC wm
              have wz := WZ.out
              have wb := WB.out
              go_wp2_with fail
              clear wz wb
              exact ⟨⟨b, b + zz, g, symF ltA zz a m b dk, rfl, by go_num, rfl, hle, by have := HB2.out; have := HZZ.out; omega, Lib.hid (by rw [symF_size]; exact KDS.out), HS2, HM2⟩, by have := HB2.out; have := HZZ.out; simp [intOf]; omega⟩
            · have hlei : ¬ ((b : Int) ≤ N) := by omega
              have WZ2 : Hid (IntKind.i64.wrap ((z : Int) * 2) = ((z * 2 : Nat) : Int)) := Lib.hid (by rw [IntKind.wrap_i64]; omega)
              by_cases hmn : m < N
              · have hmni : (m : Int) < N := by omega
                have HC := Lib.hid (HSYM.out (N - a) a m N dk wr KDS.out S2.out (Nat.le_refl _) (by omega) hmn (Nat.le_refl _))
                have HM2 : Hid (symF ltA (N - a) a m N dk = mrgP ltA z N (N + 1) 0 dz) := Lib.hid (by rw [← HM.out, mrgP, if_neg (by omega), if_pos (by omega), hm])
                clear S2 HM hm hb hzz
                have wm := WM.out
                go_wp2_with fail
                refine HC.out.mono ?_
                rintro e2 w2 ⟨rfl, hS2⟩
                have HS2 := Lib.hid hS2
                clear hS2 HC wm
                have wz := WZ2.out
                go_wp2_with fail
                clear wz
                exact ⟨⟨z * 2, f, mrgP ltA z N (N + 1) 0 dz, rfl, by omega, by omega, by omega, Lib.hid (by rw [mrgP_size]; exact ZDS.out), by rw [← HM2.out]; exact HS2, HZ2⟩, by simp [intOf]; omega⟩
              · have hmni : ¬ ((m : Int) < N) := by omega
                have HM2 : Hid (dk = mrgP ltA z N (N + 1) 0 dz) := Lib.hid (by rw [← HM.out, mrgP, if_neg (by omega), if_neg (by omega)])
                clear HM hm hb hzz
                have wm := WM.out
                have wz := WZ2.out
                go_wp2_with fail
                clear wz wm
                exact ⟨⟨z * 2, f, mrgP ltA z N (N + 1) 0 dz, rfl, by omega, by omega, by omega, Lib.hid (by rw [mrgP_size]; exact ZDS.out), by rw [← HM2.out]; exact S2, HZ2⟩, by simp [intOf]; omega⟩
        · have hzni : ¬ ((z : Int) < N) := by omega
          have hfin : SWK encA 3 w0 blk off (stableF ltA N d0) wr := by
            rw [← HZ.out]
            cases f with
            | zero => exact S1.out
            | succ f => rw [stF, if_neg hzn]; exact S1.out
          have HFN := Lib.hid hfin
          clear hfin S1 HZ
          go_wp2_with fail
          go_end0
          exact ⟨rfl, HFN.out⟩
set_option maxRecDepth 100000 in
set_option maxHeartbeats 16000000 in
theorem sortStable_s (blk off cap : Nat) (d0 : Array Atr) (w0 : World) (R : RowK encA 3 w0 blk off d0) (hsz : d0.size ≤ 1073741824) (w : World) (S : SWK encA 3 w0 blk off d0 w) :
    Calls Tryd.prog 31 #[.slice (some ⟨blk, off, none⟩) d0.size cap, .func (.func 32) #[] #[]] w fun e w' => e = .returned (.tuple #[]) ∧ SWK encA 3 w0 blk off (stableF ltA d0.size d0) w' := by
  have HC := Lib.hid (stable_s blk off cap d0 w0 d0.size R rfl hsz w S)
  clear R S
  go_enter Tryd.func31, Tryd.ntmps31
  go_wp2_with fail
  refine HC.out.mono ?_
  rintro e2 w2 ⟨rfl, hS2⟩
  have HS2 := Lib.hid hS2
  clear hS2 HC
  go_wp2_with fail
  go_end0
  exact ⟨rfl, HS2.out⟩
end Go.Proofs.YtojeclfcgnamoaaDoor
