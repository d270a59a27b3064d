/-
  The walk of the law NamesParts: whatever the text: true.
-/
import Derived.Test.YtfmhpeinikidfaaDoorQ
import Derived.Test.YtfmhpeinikidfaaDoorV
namespace Go.Proofs.YtfmhpeinikidfaaDoor
open Go.RowKit

set_option maxHeartbeats 400000 in
theorem right_c (s : ByteArray) (hs : s.size ≤ 4294967280) (w : World) (hE : Env w) :
    Calls Tryd.prog 17 #[.string s] w fun e w' => e = .returned (.bool (wordsS s).isSome) ∧ Bel w w' := by
  have hw := words_c s hs w hE
  obtain ⟨r, hr⟩ : ∃ r, wordsS s = r := ⟨_, rfl⟩
  rw [hr] at hw ⊢
  clear hr
  cases r
  · have HW := Lib.hid hw
    clear hw
    go_enter Tryd.func17, Tryd.ntmps17
    go_wp2_with fail
    refine HW.out.mono ?_
    rintro e w1 ⟨hb, rfl⟩
    go_wp2_with fail
    go_ret
    exact ⟨rfl, hb⟩
  · have HW := Lib.hid hw
    clear hw
    go_enter Tryd.func17, Tryd.ntmps17
    go_wp2_with fail
    refine HW.out.mono ?_
    rintro e w1 ⟨hb, v, rfl, _⟩
    go_wp2_with fail
    go_ret
    exact ⟨rfl, hb⟩

set_option maxHeartbeats 1000000 in
theorem namesParts_walk (s : ByteArray) (hs : s.size ≤ maxLen) (w : World) (hE : Env w) : Calls Tryd.prog 8 #[.string s] w (RetBel (.bool true) w) := by
  unfold maxLen at hs
  by_cases hbig : 500 < s.size
  · have hbig' : (500 : Int) < s.size := by omega
    go_enter Tryd.func8, Tryd.ntmps8
    go_wp2_with (go_at_call 9; refine (alive_c _ hE).mono ?_; rintro e w1 ⟨rfl, hb⟩)
    go_ret
    exact ⟨rfl, by assumption⟩
  · have hs1 : (s.size : Int) ≤ 500 := by omega
    have hss : s.size ≤ 4294967280 := by omega
    have g1 : (s ++ ⟨#[55]⟩).size ≤ 4294967280 := by simp [ByteArray.size_append]; show s.size + 1 ≤ _; omega
    have g2 : (⟨#[55]⟩ ++ s).size ≤ 4294967280 := by simp [ByteArray.size_append]; show 1 + s.size ≤ _; omega
    have g3 : (s ++ ⟨#[32]⟩).size ≤ 4294967280 := by simp [ByteArray.size_append]; show s.size + 1 ≤ _; omega
    have h1 := fun w1 (hE1 : Env w1) => plain_c s hss w1 hE1
    have h2 := fun w1 (hE1 : Env w1) => plain_c _ g1 w1 hE1
    have h3 := fun w1 (hE1 : Env w1) => plain_c _ g2 w1 hE1
    have h4 := fun w1 (hE1 : Env w1) => plain_c _ g3 w1 hE1
    have h5 := fun w1 (hE1 : Env w1) => plain_c ⟨#[]⟩ (by decide) w1 hE1
    have h6 := fun w1 (hE1 : Env w1) => word_c s hss w1 hE1
    have h7 := fun w1 (hE1 : Env w1) => word_c _ g1 w1 hE1
    have h8 := fun w1 (hE1 : Env w1) => word_c _ g2 w1 hE1
    have h9 := fun w1 (hE1 : Env w1) => right_c s hss w1 hE1
    have h10 := fun (k : Nat) w1 (hE1 : Env w1) => plain_c (s.extract 0 k) (by simp; omega) w1 hE1
    rw [plain_first7] at h3
    rw [plain_empty] at h5
    rw [word_first7] at h8
    have hpre : plainS s = true → Pre s 0 := fun h => Pre.start s h
    obtain ⟨W, hW⟩ : ∃ W, wordS s = W := ⟨_, rfl⟩
    obtain ⟨P, hP⟩ : ∃ P, plainS s = P := ⟨_, rfl⟩
    have hWP : W = true → P = true := fun h => by rw [← hP]; exact word_plain s (hW.trans h)
    have h7' : W = true → wordS (s ++ ⟨#[55]⟩) = true := fun h => word_7 s (hW.trans h)
    have h9' : W = true → (wordsS s).isSome = true := fun h => by rw [words_word s (hW.trans h)]; rfl
    have h2' : P = true → plainS (s ++ ⟨#[55]⟩) = true := fun h => plain_7 s (hP.trans h)
    have h4' : P = true → plainS (s ++ ⟨#[32]⟩) = false := fun h => plain_blank s (hP.trans h)
    rw [hP] at h1 hpre
    rw [hW] at h6
    have HE := Lib.hid hE
    clear hbig hP hW hE g1 g2 g3
    have key : ∀ (S1 S2 S3 S4 : Bool), plainS (s ++ ⟨#[55]⟩) = S1 → plainS (s ++ ⟨#[32]⟩) = S2 → wordS (s ++ ⟨#[55]⟩) = S3 → (wordsS s).isSome = S4 → Calls Tryd.prog 8 #[.string s] w (RetBel (.bool true) w) := by
      intro S1 S2 S3 S4 e1 e2 e3 e4
      rw [e1] at h2 h2'
      rw [e2] at h4 h4'
      rw [e3] at h7 h7'
      rw [e4] at h9 h9'
      have H1 := Lib.hid h1
      have H2 := Lib.hid h2
      have H3 := Lib.hid h3
      have H4 := Lib.hid h4
      have H5 := Lib.hid h5
      have H6 := Lib.hid h6
      have H7 := Lib.hid h7
      have H8 := Lib.hid h8
      have H9 := Lib.hid h9
      have H10 := Lib.hid h10
      clear h1 h2 h3 h4 h5 h6 h7 h8 h9 h10 e1 e2 e3 e4
      have HPRE := Lib.hid hpre
      clear hpre
      cases P
      · cases W
        · clear hWP h7' h9' h2' h4'
          go_enter Tryd.func8, Tryd.ntmps8
          go_wp2_with fail
          go_loopw [3] (fun _ wr => ∃ pos : Nat, pos ≤ s.size ∧ wr.heap[w.heap.size]? = some (.stringIter s pos) ∧ Bel w wr ∧ (false = true → Pre s pos)) (fun _ w' => s.size - w'.iterPos w.heap.size)
          case atStart => exact ⟨0, Nat.zero_le _, World.iter_heap _ _ _, (Below.refl _ _).alloc (Nat.le_refl _) _, by first | exact HPRE.out | exact fun _ => HPRE.out trivial⟩
          case round =>
            obtain ⟨pos, hle, hit, hB, hpr⟩ := hrel
            have hpos := iterPos_of hit
            by_cases hp : pos < s.size
            · have hnx := fun ty => Lib.run_next_any_at (P := Tryd.prog) wr w.heap.size s pos ty hit hp
              have hwd := decode_pos s pos hp
              have hfit := decode_fits s pos hp
              have hI : (wr.iterAt w.heap.size s (pos + (Utf8.decode s pos).2)).heap[w.heap.size]? = some (.stringIter s (pos + (Utf8.decode s pos).2)) := Lib.iterAt_heap _ _ _ _ _ hit
              have hBW : Bel w (wr.iterAt w.heap.size s (pos + (Utf8.decode s pos).2)) := Lib.below_iterAt hB (Nat.le_refl _) _ _
              have hlt2 : w.heap.size < (wr.iterAt w.heap.size s (pos + (Utf8.decode s pos).2)).heap.size := (Array.getElem?_eq_some_iff.1 hI).1
              have hnext : false = true → Pre s (pos + (Utf8.decode s pos).2) := fun h => (hpr h).step s pos hp
              have hle2 := decode_le s pos
              obtain ⟨c, n, hcn⟩ : ∃ c n, Utf8.decode s pos = (c, n) := ⟨_, _, rfl⟩
              rw [hcn] at hnx hwd hfit hI hBW hlt2 hnext hle2
              obtain ⟨W1, hW1⟩ : ∃ W1, wr.iterAt w.heap.size s (pos + n) = W1 := ⟨_, rfl⟩
              simp only [hW1] at hnx hwd hfit hI hBW hlt2 hnext
              have HI := Lib.hid hI
              have HP := Lib.hid hpos
              have HP2 := Lib.hid hnext
              have hE0 := HE.out.bel hBW
              clear hcn hI hpos hit hW1 hnext hpr
              by_cases h0 : pos = 0
              · subst h0
                go_wp2_with fail
                refine ⟨⟨_, hfit, HI.out, hBW, HP2.out⟩, ?_⟩
                rw [iterPos_of HI.out, HP.out]
                omega
              · have h0' : (0 : Int) < pos := by omega
                go_wp2_with fail
                refine (H1.out _ hE0).mono ?_
                rintro e w1 ⟨rfl, hb1⟩
                have hE1 := hE0.bel hb1
                go_wp2_with fail
                have hbb : Bel W1 _ := hb1
                have hit' := (hbb.block hlt2).trans HI.out
                refine ⟨⟨pos + n, hfit, hit', hBW.trans hbb, HP2.out⟩, ?_⟩
                rw [iterPos_of hit', HP.out]
                omega
            · have hnx := fun ty => Lib.run_next_end_at (P := Tryd.prog) wr w.heap.size s pos ty hit hp
              have hE0 := HE.out.bel hB
              clear hpr hpos
              go_wp2_with fail
              refine (H1.out _ hE0).mono ?_
              rintro e w1 ⟨rfl, hb1⟩
              have hE1 := hE0.bel hb1
              go_wp2_with fail
              refine (H6.out _ hE1).mono ?_
              rintro e w2 ⟨rfl, hb2⟩
              have hE2 := hE1.bel hb2
              go_wp2_with fail
              refine (alive_c _ hE2).mono ?_
              rintro e w3 ⟨rfl, hb3⟩
              go_wp2_with fail
              go_ret
              exact ⟨rfl, (((hB).trans hb1).trans hb2).trans hb3⟩
        · exact absurd (hWP rfl) (by simp)
      · obtain rfl := h2' rfl
        obtain rfl := h4' rfl
        cases W
        · clear hWP h7' h9' h2' h4'
          go_enter Tryd.func8, Tryd.ntmps8
          go_wp2_with fail
          go_loopw [3] (fun _ wr => ∃ pos : Nat, pos ≤ s.size ∧ wr.heap[w.heap.size]? = some (.stringIter s pos) ∧ Bel w wr ∧ (true = true → Pre s pos)) (fun _ w' => s.size - w'.iterPos w.heap.size)
          case atStart => exact ⟨0, Nat.zero_le _, World.iter_heap _ _ _, (Below.refl _ _).alloc (Nat.le_refl _) _, by first | exact HPRE.out | exact fun _ => HPRE.out trivial⟩
          case round =>
            obtain ⟨pos, hle, hit, hB, hpr⟩ := hrel
            have hpos := iterPos_of hit
            by_cases hp : pos < s.size
            · have hnx := fun ty => Lib.run_next_any_at (P := Tryd.prog) wr w.heap.size s pos ty hit hp
              have hwd := decode_pos s pos hp
              have hfit := decode_fits s pos hp
              have hI : (wr.iterAt w.heap.size s (pos + (Utf8.decode s pos).2)).heap[w.heap.size]? = some (.stringIter s (pos + (Utf8.decode s pos).2)) := Lib.iterAt_heap _ _ _ _ _ hit
              have hBW : Bel w (wr.iterAt w.heap.size s (pos + (Utf8.decode s pos).2)) := Lib.below_iterAt hB (Nat.le_refl _) _ _
              have hlt2 : w.heap.size < (wr.iterAt w.heap.size s (pos + (Utf8.decode s pos).2)).heap.size := (Array.getElem?_eq_some_iff.1 hI).1
              have hnext : true = true → Pre s (pos + (Utf8.decode s pos).2) := fun h => (hpr h).step s pos hp
              have hle2 := decode_le s pos
              obtain ⟨c, n, hcn⟩ : ∃ c n, Utf8.decode s pos = (c, n) := ⟨_, _, rfl⟩
              rw [hcn] at hnx hwd hfit hI hBW hlt2 hnext hle2
              obtain ⟨W1, hW1⟩ : ∃ W1, wr.iterAt w.heap.size s (pos + n) = W1 := ⟨_, rfl⟩
              simp only [hW1] at hnx hwd hfit hI hBW hlt2 hnext
              have HI := Lib.hid hI
              have HP := Lib.hid hpos
              have HP2 := Lib.hid hnext
              have hE0 := HE.out.bel hBW
              have HPL : Hid (0 < pos → plainS (s.extract 0 pos) = true) := Lib.hid fun h => (hpr rfl).plain s pos h hle
              clear hcn hI hpos hit hW1 hnext hpr
              by_cases h0 : pos = 0
              · subst h0
                go_wp2_with fail
                refine ⟨⟨_, hfit, HI.out, hBW, HP2.out⟩, ?_⟩
                rw [iterPos_of HI.out, HP.out]
                omega
              · have h0' : (0 : Int) < pos := by omega
                go_wp2_with fail
                refine (H1.out _ hE0).mono ?_
                rintro e w1 ⟨rfl, hb1⟩
                have hE1 := hE0.bel hb1
                go_wp2_with fail
                have h11 := H10.out pos w1 hE1
                rw [HPL.out (by omega)] at h11
                have H11 := Lib.hid h11
                clear h11
                refine H11.out.mono ?_
                rintro e w2 ⟨rfl, hb2⟩
                go_wp2_with fail
                have hbb : Bel W1 _ := (hb1).trans hb2
                have hit' := (hbb.block hlt2).trans HI.out
                refine ⟨⟨pos + n, hfit, hit', hBW.trans hbb, HP2.out⟩, ?_⟩
                rw [iterPos_of hit', HP.out]
                omega
            · have hnx := fun ty => Lib.run_next_end_at (P := Tryd.prog) wr w.heap.size s pos ty hit hp
              have hE0 := HE.out.bel hB
              clear hpr hpos
              go_wp2_with fail
              refine (H1.out _ hE0).mono ?_
              rintro e w1 ⟨rfl, hb1⟩
              have hE1 := hE0.bel hb1
              go_wp2_with fail
              refine (H2.out _ hE1).mono ?_
              rintro e w2 ⟨rfl, hb2⟩
              have hE2 := hE1.bel hb2
              go_wp2_with fail
              refine (H3.out _ hE2).mono ?_
              rintro e w3 ⟨rfl, hb3⟩
              have hE3 := hE2.bel hb3
              go_wp2_with fail
              refine (H4.out _ hE3).mono ?_
              rintro e w4 ⟨rfl, hb4⟩
              have hE4 := hE3.bel hb4
              go_wp2_with fail
              refine (H5.out _ hE4).mono ?_
              rintro e w5 ⟨rfl, hb5⟩
              have hE5 := hE4.bel hb5
              go_wp2_with fail
              refine (H6.out _ hE5).mono ?_
              rintro e w6 ⟨rfl, hb6⟩
              have hE6 := hE5.bel hb6
              go_wp2_with fail
              refine (alive_c _ hE6).mono ?_
              rintro e w7 ⟨rfl, hb7⟩
              go_wp2_with fail
              go_ret
              exact ⟨rfl, (((((((hB).trans hb1).trans hb2).trans hb3).trans hb4).trans hb5).trans hb6).trans hb7⟩
        · obtain rfl := h7' rfl
          obtain rfl := h9' rfl
          clear hWP h7' h9' h2' h4'
          go_enter Tryd.func8, Tryd.ntmps8
          go_wp2_with fail
          go_loopw [3] (fun _ wr => ∃ pos : Nat, pos ≤ s.size ∧ wr.heap[w.heap.size]? = some (.stringIter s pos) ∧ Bel w wr ∧ (true = true → Pre s pos)) (fun _ w' => s.size - w'.iterPos w.heap.size)
          case atStart => exact ⟨0, Nat.zero_le _, World.iter_heap _ _ _, (Below.refl _ _).alloc (Nat.le_refl _) _, by first | exact HPRE.out | exact fun _ => HPRE.out trivial⟩
          case round =>
            obtain ⟨pos, hle, hit, hB, hpr⟩ := hrel
            have hpos := iterPos_of hit
            by_cases hp : pos < s.size
            · have hnx := fun ty => Lib.run_next_any_at (P := Tryd.prog) wr w.heap.size s pos ty hit hp
              have hwd := decode_pos s pos hp
              have hfit := decode_fits s pos hp
              have hI : (wr.iterAt w.heap.size s (pos + (Utf8.decode s pos).2)).heap[w.heap.size]? = some (.stringIter s (pos + (Utf8.decode s pos).2)) := Lib.iterAt_heap _ _ _ _ _ hit
              have hBW : Bel w (wr.iterAt w.heap.size s (pos + (Utf8.decode s pos).2)) := Lib.below_iterAt hB (Nat.le_refl _) _ _
              have hlt2 : w.heap.size < (wr.iterAt w.heap.size s (pos + (Utf8.decode s pos).2)).heap.size := (Array.getElem?_eq_some_iff.1 hI).1
              have hnext : true = true → Pre s (pos + (Utf8.decode s pos).2) := fun h => (hpr h).step s pos hp
              have hle2 := decode_le s pos
              obtain ⟨c, n, hcn⟩ : ∃ c n, Utf8.decode s pos = (c, n) := ⟨_, _, rfl⟩
              rw [hcn] at hnx hwd hfit hI hBW hlt2 hnext hle2
              obtain ⟨W1, hW1⟩ : ∃ W1, wr.iterAt w.heap.size s (pos + n) = W1 := ⟨_, rfl⟩
              simp only [hW1] at hnx hwd hfit hI hBW hlt2 hnext
              have HI := Lib.hid hI
              have HP := Lib.hid hpos
              have HP2 := Lib.hid hnext
              have hE0 := HE.out.bel hBW
              have HPL : Hid (0 < pos → plainS (s.extract 0 pos) = true) := Lib.hid fun h => (hpr rfl).plain s pos h hle
              clear hcn hI hpos hit hW1 hnext hpr
              by_cases h0 : pos = 0
              · subst h0
                go_wp2_with fail
                refine ⟨⟨_, hfit, HI.out, hBW, HP2.out⟩, ?_⟩
                rw [iterPos_of HI.out, HP.out]
                omega
              · have h0' : (0 : Int) < pos := by omega
                go_wp2_with fail
                refine (H1.out _ hE0).mono ?_
                rintro e w1 ⟨rfl, hb1⟩
                have hE1 := hE0.bel hb1
                go_wp2_with fail
                have h11 := H10.out pos w1 hE1
                rw [HPL.out (by omega)] at h11
                have H11 := Lib.hid h11
                clear h11
                refine H11.out.mono ?_
                rintro e w2 ⟨rfl, hb2⟩
                go_wp2_with fail
                have hbb : Bel W1 _ := (hb1).trans hb2
                have hit' := (hbb.block hlt2).trans HI.out
                refine ⟨⟨pos + n, hfit, hit', hBW.trans hbb, HP2.out⟩, ?_⟩
                rw [iterPos_of hit', HP.out]
                omega
            · have hnx := fun ty => Lib.run_next_end_at (P := Tryd.prog) wr w.heap.size s pos ty hit hp
              have hE0 := HE.out.bel hB
              clear hpr hpos
              go_wp2_with fail
              refine (H1.out _ hE0).mono ?_
              rintro e w1 ⟨rfl, hb1⟩
              have hE1 := hE0.bel hb1
              go_wp2_with fail
              refine (H2.out _ hE1).mono ?_
              rintro e w2 ⟨rfl, hb2⟩
              have hE2 := hE1.bel hb2
              go_wp2_with fail
              refine (H3.out _ hE2).mono ?_
              rintro e w3 ⟨rfl, hb3⟩
              have hE3 := hE2.bel hb3
              go_wp2_with fail
              refine (H4.out _ hE3).mono ?_
              rintro e w4 ⟨rfl, hb4⟩
              have hE4 := hE3.bel hb4
              go_wp2_with fail
              refine (H5.out _ hE4).mono ?_
              rintro e w5 ⟨rfl, hb5⟩
              have hE5 := hE4.bel hb5
              go_wp2_with fail
              refine (H6.out _ hE5).mono ?_
              rintro e w6 ⟨rfl, hb6⟩
              have hE6 := hE5.bel hb6
              go_wp2_with fail
              refine (H1.out _ hE6).mono ?_
              rintro e w7 ⟨rfl, hb7⟩
              have hE7 := hE6.bel hb7
              go_wp2_with fail
              refine (H7.out _ hE7).mono ?_
              rintro e w8 ⟨rfl, hb8⟩
              have hE8 := hE7.bel hb8
              go_wp2_with fail
              refine (H8.out _ hE8).mono ?_
              rintro e w9 ⟨rfl, hb9⟩
              have hE9 := hE8.bel hb9
              go_wp2_with fail
              refine (H9.out _ hE9).mono ?_
              rintro e w10 ⟨rfl, hb10⟩
              have hE10 := hE9.bel hb10
              go_wp2_with fail
              refine (alive_c _ hE10).mono ?_
              rintro e w11 ⟨rfl, hb11⟩
              go_wp2_with fail
              go_ret
              exact ⟨rfl, (((((((((((hB).trans hb1).trans hb2).trans hb3).trans hb4).trans hb5).trans hb6).trans hb7).trans hb8).trans hb9).trans hb10).trans hb11⟩
    exact key _ _ _ _ rfl rfl rfl rfl
end Go.Proofs.YtfmhpeinikidfaaDoor
