/-
  The walk of the law NamesJoins: whatever the texts: true.
-/
import Derived.Test.YtfmhpeinikidfaaDoorQ
import Derived.Test.YtfmhpeinikidfaaDoorJP
import Derived.Test.YtfmhpeinikidfaaDoorAP
import Derived.Test.YtfmhpeinikidfaaDoorRI
namespace Go.Proofs.YtfmhpeinikidfaaDoor
open Go.RowKit

set_option maxHeartbeats 1000000 in
theorem namesJoins_walk (s : ByteArray) (hs : s.size ≤ maxLen) (t : ByteArray) (ht : t.size ≤ maxLen) (w : World) (hE : Env w) : Calls Tryd.prog 7 #[.string s, .string t] w (RetBel (.bool true) w) := by
  unfold maxLen at hs ht
  by_cases hbig : 1000 < s.size ∨ 1000 < t.size
  · have hbig' : (1000 : Int) < s.size ∨ (1000 : Int) < t.size := by omega
    clear hbig
    rcases hbig' with hb | hb
    · go_enter Tryd.func7, Tryd.ntmps7
      go_wp2_with (go_at_call 9; refine (alive_c _ hE).mono ?_; rintro e w1 ⟨rfl, hb⟩)
      all_goals go_ret
      all_goals exact ⟨rfl, by assumption⟩
    · go_enter Tryd.func7, Tryd.ntmps7
      go_wp2_with (go_at_call 9; refine (alive_c _ hE).mono ?_; rintro e w1 ⟨rfl, hb⟩)
      all_goals go_ret
      all_goals exact ⟨rfl, by assumption⟩
  · have hs1 : (s.size : Int) ≤ 1000 := by omega
    have ht1 : (t.size : Int) ≤ 1000 := by omega
    have hss : s.size ≤ 4294967280 := by omega
    have hts : t.size ≤ 4294967280 := by omega
    have g1 : (s ++ ⟨#[32]⟩ ++ t).size ≤ 4294967280 := by simp [ByteArray.size_append]; show s.size + 1 + t.size ≤ _; omega
    have g2 : (s ++ ⟨#[32, 32]⟩ ++ t).size ≤ 4294967280 := by simp [ByteArray.size_append]; show s.size + 2 + t.size ≤ _; omega
    have g3 : (s ++ ⟨#[32]⟩).size ≤ 4294967280 := by simp [ByteArray.size_append]; show s.size + 1 ≤ _; omega
    have g4 : (⟨#[32]⟩ ++ t).size ≤ 4294967280 := by simp [ByteArray.size_append]; show 1 + t.size ≤ _; omega
    have h1 := fun w1 (hE1 : Env w1) => words_c s hss w1 hE1
    have h2 := fun w1 (hE1 : Env w1) => words_c t hts w1 hE1
    have h3 := fun w1 (hE1 : Env w1) => words_c _ g1 w1 hE1
    have h4 := fun w1 (hE1 : Env w1) => right_c _ g2 w1 hE1
    have h5 := fun w1 (hE1 : Env w1) => right_c _ g3 w1 hE1
    have h6 := fun w1 (hE1 : Env w1) => right_c _ g4 w1 hE1
    rw [words_two, Option.isSome_none] at h4
    rw [words_end, Option.isSome_none] at h5
    rw [words_start, Option.isSome_none] at h6
    have hjoin := parts_join s
    have hla : (partsS s).length ≤ 1001 := by rw [parts_length]; have := count_le s; omega
    have hlb : (partsS t).length ≤ 1001 := by rw [parts_length]; have := count_le t; omega
    have hw1 : wordsS s = if (partsS s).all wordS = true then some (partsS s) else none := rfl
    have hw2 : wordsS t = if (partsS t).all wordS = true then some (partsS t) else none := rfl
    have hw3 := words_blank s t
    obtain ⟨A, hA⟩ : ∃ A, partsS s = A := ⟨_, rfl⟩
    obtain ⟨B, hB⟩ : ∃ B, partsS t = B := ⟨_, rfl⟩
    rw [hA] at hw1 hw3 hla hjoin
    rw [hB] at hw2 hw3 hlb
    obtain ⟨P, hP⟩ : ∃ P, A.all wordS = P := ⟨_, rfl⟩
    obtain ⟨Q, hQ⟩ : ∃ Q, B.all wordS = Q := ⟨_, rfl⟩
    rw [hP] at hw1 hw3
    rw [hQ] at hw2 hw3
    rw [hw1] at h1
    rw [hw2] at h2
    rw [hw3] at h3
    have HE := Lib.hid hE
    have H4 := Lib.hid h4
    have H5 := Lib.hid h5
    have H6 := Lib.hid h6
    have HJ := Lib.hid hjoin
    clear hbig hP hQ hA hB hE g1 g2 g3 g4 h4 h5 h6 hw1 hw2 hw3 hjoin
    cases P
    · cases Q
      · simp only [Bool.false_eq_true, and_self, if_false] at h1 h2 h3
        have H1 := Lib.hid h1
        have H2 := Lib.hid h2
        have H3 := Lib.hid h3
        clear h1 h2 h3 HJ
        go_enter Tryd.func7, Tryd.ntmps7
        go_wp2_with fail
        refine (H1.out _ HE.out).mono ?_
        rintro e w1 ⟨hb1, rfl⟩
        have hE1 := HE.out.bel hb1
        go_wp2_with fail
        refine (H2.out _ hE1).mono ?_
        rintro e w2 ⟨hb2, rfl⟩
        have hE2 := hE1.bel hb2
        go_wp2_with fail
        refine (H3.out _ hE2).mono ?_
        rintro e w3 ⟨hb3, rfl⟩
        have hE3 := hE2.bel hb3
        go_wp2_with fail
        refine (alive_c _ hE3).mono ?_
        rintro e w4 ⟨rfl, hb4⟩
        go_wp2_with fail
        go_ret
        exact ⟨rfl, ((hb1.trans hb2).trans hb3).trans hb4⟩
      · simp only [Bool.false_eq_true, false_and, if_true, if_false] at h1 h2 h3
        have H1 := Lib.hid h1
        have H2 := Lib.hid h2
        have H3 := Lib.hid h3
        clear h1 h2 h3 HJ
        go_enter Tryd.func7, Tryd.ntmps7
        go_wp2_with fail
        refine (H1.out _ HE.out).mono ?_
        rintro e w1 ⟨hb1, rfl⟩
        have hE1 := HE.out.bel hb1
        go_wp2_with fail
        refine (H2.out _ hE1).mono ?_
        rintro e w2 ⟨hb2, v2, rfl, hv2⟩
        have hE2 := hE1.bel hb2
        go_wp2_with fail
        refine (H3.out _ hE2).mono ?_
        rintro e w3 ⟨hb3, rfl⟩
        have hE3 := hE2.bel hb3
        go_wp2_with fail
        refine (alive_c _ hE3).mono ?_
        rintro e w4 ⟨rfl, hb4⟩
        go_wp2_with fail
        go_ret
        exact ⟨rfl, ((hb1.trans hb2).trans hb3).trans hb4⟩
    · cases Q
      · simp only [Bool.false_eq_true, and_false, if_true, if_false] at h1 h2 h3
        have H1 := Lib.hid h1
        have H2 := Lib.hid h2
        have H3 := Lib.hid h3
        clear h1 h2 h3 HJ
        go_enter Tryd.func7, Tryd.ntmps7
        go_wp2_with fail
        refine (H1.out _ HE.out).mono ?_
        rintro e w1 ⟨hb1, v1, rfl, hv1⟩
        have hE1 := HE.out.bel hb1
        go_wp2_with fail
        refine (H2.out _ hE1).mono ?_
        rintro e w2 ⟨hb2, rfl⟩
        have hE2 := hE1.bel hb2
        go_wp2_with fail
        refine (H3.out _ hE2).mono ?_
        rintro e w3 ⟨hb3, rfl⟩
        have hE3 := hE2.bel hb3
        go_wp2_with fail
        refine (alive_c _ hE3).mono ?_
        rintro e w4 ⟨rfl, hb4⟩
        go_wp2_with fail
        go_ret
        exact ⟨rfl, ((hb1.trans hb2).trans hb3).trans hb4⟩
      · simp only [and_self, if_true] at h1 h2 h3
        have H1 := Lib.hid h1
        have H2 := Lib.hid h2
        have H3 := Lib.hid h3
        clear h1 h2 h3
        obtain ⟨n, hn⟩ : ∃ n, A.length = n := ⟨_, rfl⟩
        have HN := Lib.hid hn
        have hn1 : n ≤ 1001 := by omega
        clear hn hla
        go_enter Tryd.func7, Tryd.ntmps7
        go_wp2_with fail
        refine (H1.out _ HE.out).mono ?_
        rintro e w1 ⟨hb1, v1, rfl, hv1⟩
        have hE1 := HE.out.bel hb1
        go_wp2_with fail
        refine (H2.out _ hE1).mono ?_
        rintro e w2 ⟨hb2, v2, rfl, hv2⟩
        have hE2 := hE1.bel hb2
        have hv12 := hv1.bel hb2
        have HV := Lib.hid hv12
        obtain ⟨b, off, cap, rfl, hcap, hlt, hcl⟩ := hv12
        rw [strsV_length, HN.out] at hcap
        have HCL := Lib.hid hcl
        clear hcl
        rw [strsV_length, HN.out]
        have HVV : Hid (RowAt w2 (.slice (some ⟨b, off, none⟩) n cap) (strsV A)) := Lib.hid (by have := HV.out; rw [strsV_length, HN.out] at this; exact this)
        go_wp2_with fail
        go_loop [11, 56] (fun tx i => ∃ (k : Nat) (T : ByteArray), k ≤ n ∧ i = .int .i64 k ∧ tx = .string T ∧ (k = 0 ∧ T = ⟨#[]⟩ ∨ 0 < k ∧ T ++ tailJ (A.drop k) = s)) (fun _ i => n - (intOf i).toNat)
        case atStart => exact ⟨0, ⟨#[]⟩, Nat.zero_le _, rfl, rfl, .inl ⟨rfl, rfl⟩⟩
        case round =>
          obtain ⟨k, T, hk, rfl, rfl, hj⟩ := hrel
          by_cases hkn : k < n
          · have hkl : k < A.length := by rw [HN.out]; exact hkn
            have hcell := HCL.out k (by rw [strsV_length]; exact hkl)
            obtain ⟨y, r, hy1, hy2⟩ := HJ.out
            have hd := List.drop_eq_getElem_cons hkl
            obtain ⟨x, hx⟩ : ∃ x, A[k] = x := ⟨_, rfl⟩
            have hcell2 : w2.cell? ⟨b, off + k, none⟩ = some (.string x) := by rw [hcell, ← hx]; simp [strsV]
            rw [hx] at hd
            rcases hj with ⟨rfl, rfl⟩ | ⟨hk0, hT⟩
            · have hxy : x = y := by rw [← hx]; simp [hy1]
              have hJ2 : (⟨#[]⟩ : ByteArray) ++ x ++ tailJ (A.drop 1) = s := by rw [empty_append, hxy, ← hy2, hy1]; rfl
              have HJ2 := Lib.hid hJ2
              have hxs : x.size ≤ 1000 := by have : x.size + (tailJ (A.drop 1)).size = s.size := (by rw [← hJ2, empty_append, ByteArray.size_append]); omega
              have hcell3 : w2.cell? ⟨b, off, none⟩ = some (.string x) := hcell2
              clear hcell hcell2 hy1 hy2 hd hx hxy hJ2
              go_wp2_with fail
              refine ⟨⟨1, ⟨#[]⟩ ++ x, by omega, by go_num, rfl, .inr ⟨by omega, HJ2.out⟩⟩, by simp [intOf]; omega⟩
            · have hJ2 : T ++ ⟨#[32]⟩ ++ x ++ tailJ (A.drop (k + 1)) = s := by rw [← hT, hd, tailJ]; simp only [ByteArray.append_assoc]
              have HJ2 := Lib.hid hJ2
              have hxs : T.size + 1 + x.size ≤ 1000 := by have : T.size + 1 + x.size + (tailJ (A.drop (k + 1))).size = s.size := (by rw [← hJ2, ByteArray.size_append, ByteArray.size_append, ByteArray.size_append]; rfl); omega
              have hTs : (T ++ ⟨#[32]⟩).size = T.size + 1 := by rw [ByteArray.size_append]; rfl
              clear hcell hy1 hy2 hd hx hT hJ2
              go_wp2_with fail
              refine ⟨⟨k + 1, T ++ ⟨#[32]⟩ ++ x, by omega, by go_num, rfl, .inr ⟨by omega, HJ2.out⟩⟩, by simp [intOf]; omega⟩
          · obtain rfl : k = n := by omega
            have hTs : T = s := by
              obtain ⟨y, r, hy1, hy2⟩ := HJ.out
              have hk1 : 0 < k := by rw [← HN.out, hy1]; simp
              rcases hj with ⟨h, _⟩ | ⟨_, h⟩
              · omega
              · rw [List.drop_of_length_le (by rw [HN.out]; exact Nat.le_refl _)] at h
                rw [← h]; exact (append_empty T).symm
            subst hTs
            clear hj
            go_wp2_with fail
            refine (H3.out _ hE2).mono ?_
            rintro e w3 ⟨hb3, v3, rfl, hv3⟩
            have hE3 := hE2.bel hb3
            go_wp2_with fail
            refine (alive_c _ hE3).mono ?_
            rintro e w4 ⟨rfl, hb4⟩
            have hE4 := hE3.bel hb4
            have HV1 := Lib.hid ((HVV.out.bel hb3).bel hb4)
            have HV2 := Lib.hid ((hv2.bel hb3).bel hb4)
            have HV3 := Lib.hid (hv3.bel hb4)
            clear hv1 hv2 hv3
            go_wp2_with (first
              | (at_builtin; refine wpL_appendG (by rfl) _ _ 30 rfl w4 9 (.string ⟨#[]⟩) 16 Tryd.underlying30 info_string rfl (by decide) _ 0 [] rfl (World.ownsRow_lit w4 #[] 0 (Nat.le_refl _) (by decide) rfl) _ (strsV A) rfl (HV1.out.bel (Bel.alloc _ _)) (strs_one A) (by rw [strsV_length, HN.out]; omega) (Bel.alloc _ _) ?_; intro v5 w5 hown5 hb5 hb5'; have HOWN5 := Lib.hid hown5; clear hown5)
              | (at_builtin; refine wpL_appendG (by rfl) _ _ 30 rfl w4 9 (.string ⟨#[]⟩) 16 Tryd.underlying30 info_string rfl (by decide) v5 _ _ rfl HOWN5.out _ (strsV B) rfl (HV2.out.bel hb5) (strs_one B) (by rw [strsV_length, strsV_length, HN.out]; omega) hb5 ?_; intro v6 w6 hown6 hb6 hb6'; have HOWN6 := Lib.hid hown6; clear hown6))
            have hr6 := own_row HOWN6.out
            rw [List.nil_append, show strsV A ++ strsV B = strsV (A ++ B) from by simp [strsV]] at hr6
            refine (same_c _ _ (A ++ B) (A ++ B) _ (.inr (HV3.out.bel hb6)) hr6 (by rw [List.length_append, HN.out]; omega)).mono ?_
            rintro e w7 ⟨rfl, hb7⟩
            rw [decide_eq_true rfl]
            have hE7 := (hE4.bel hb6).bel hb7
            go_wp2_with fail
            refine (H4.out _ hE7).mono ?_
            rintro e w8 ⟨rfl, hb8⟩
            have hE8 := hE7.bel hb8
            go_wp2_with fail
            refine (H5.out _ hE8).mono ?_
            rintro e w9 ⟨rfl, hb9⟩
            have hE9 := hE8.bel hb9
            go_wp2_with fail
            refine (H6.out _ hE9).mono ?_
            rintro e w10 ⟨rfl, hb10⟩
            go_wp2_with fail
            go_ret
            exact ⟨rfl, ((((((((hb1.trans hb2).trans hb3).trans hb4).trans hb6).trans hb7).trans hb8).trans hb9).trans hb10)⟩
end Go.Proofs.YtfmhpeinikidfaaDoor
