/-
  feellex: the word that a text begins with.
-/
import Derived.Test.YtjnaikojoemkaaaDoorFB
import Derived.Test.YtjnaikojoemkaaaDoorJ
namespace Go.Proofs.YtjnaikojoemkaaaDoor
open Go.RowKit

/-- Where the word ends that begins at a text's beginning. -/
def wordF (s : ByteArray) : Nat → Nat → Nat
  | 0, pos => pos
  | b + 1, pos => if pos < s.size then
      if (nextC (Utf8.decode s pos).1 && (decide (pos ≠ 0) || firstC (Utf8.decode s pos).1)) = true then wordF s b (pos + (Utf8.decode s pos).2) else pos
    else pos
def wordN (s : ByteArray) : Nat := wordF s s.size 0
theorem wordF_end (s : ByteArray) (b pos : Nat) (h : ¬ pos < s.size) : wordF s b pos = pos := by
  cases b with
  | zero => rfl
  | succ b => rw [wordF, if_neg h]
theorem wordF_stop (s : ByteArray) (b pos : Nat) (h : pos < s.size) (hb : s.size ≤ pos + b) (h1 : (nextC (Utf8.decode s pos).1 && (decide (pos ≠ 0) || firstC (Utf8.decode s pos).1)) = false) : wordF s b pos = pos := by
  cases b with
  | zero => omega
  | succ b => rw [wordF, if_pos h, if_neg (by rw [h1]; simp)]
theorem wordF_step (s : ByteArray) (b pos : Nat) (h : pos < s.size) (hb : s.size ≤ pos + b) (h1 : (nextC (Utf8.decode s pos).1 && (decide (pos ≠ 0) || firstC (Utf8.decode s pos).1)) = true) : ∃ b', b = b' + 1 ∧ wordF s b pos = wordF s b' (pos + (Utf8.decode s pos).2) := by
  cases b with
  | zero => omega
  | succ b => exact ⟨b, rfl, by rw [wordF, if_pos h, if_pos h1]⟩
theorem extract_all (s : ByteArray) : s.extract 0 s.size = s := by simp

set_option maxHeartbeats 2000000 in
theorem word_f (s : ByteArray) (hs : s.size ≤ 4294967280) (w : World) :
    Calls Tryd.prog 25 #[.string s] w fun e w' => e = .returned (.string (s.extract 0 (wordN s))) ∧ Bel w w' := by
  obtain ⟨R, hR⟩ : ∃ R, wordN s = R := ⟨_, rfl⟩
  rw [hR]
  have HR := Lib.hid hR
  clear hR
  go_enter Tryd.func25, Tryd.ntmps25
  go_wp2
  go_loopw [3] (fun _ wr => ∃ (pos b : Nat), wr.heap[w.heap.size]? = some (.stringIter s pos) ∧ Below w.heap.size w wr ∧ s.size ≤ pos + b ∧ pos ≤ s.size ∧ wordF s b pos = R) (fun _ w' => s.size - w'.iterPos w.heap.size)
  case atStart => exact ⟨0, s.size, World.iter_heap _ _ _, (Below.refl _ _).alloc (Nat.le_refl _) _, by omega, by omega, HR.out⟩
  case round =>
    obtain ⟨pos, b, hit, hB, hb, hpl, hsc⟩ := hrel
    have hpos := iterPos_of hit
    by_cases hp : pos < s.size
    · have hnx := fun ty => Lib.run_next_any_at (P := Tryd.prog) wr w.heap.size s pos ty hit hp
      have hwd := decode_pos s pos hp
      have hft := decode_fits s pos hp
      have hI : (wr.iterAt w.heap.size s (pos + (Utf8.decode s pos).2)).heap[w.heap.size]? = some (.stringIter s (pos + (Utf8.decode s pos).2)) := Lib.iterAt_heap _ _ _ _ _ hit
      have hB2 : Below w.heap.size w (wr.iterAt w.heap.size s (pos + (Utf8.decode s pos).2)) := Lib.below_iterAt hB (Nat.le_refl _) _ _
      have hle := decode_le s pos
      have hstop := wordF_stop s b pos hp hb
      have hstep := wordF_step s b pos hp hb
      obtain ⟨c, n, hcn⟩ : ∃ c n, Utf8.decode s pos = (c, n) := ⟨_, _, rfl⟩
      rw [hcn] at hnx hle hwd hI hB2 hft hstop hstep
      obtain ⟨W, hW⟩ : ∃ W, wr.iterAt w.heap.size s (pos + n) = W := ⟨_, rfl⟩
      simp only [hW] at hnx hle hwd hI hB2 hft hstop hstep
      have hfn : firstC (c : Int) = true → nextC (c : Int) = true := fun h => by unfold nextC; rw [h]; rfl
      obtain ⟨F, hF⟩ : ∃ F, firstC (c : Int) = F := ⟨_, rfl⟩
      obtain ⟨G, hG⟩ : ∃ G, nextC (c : Int) = G := ⟨_, rfl⟩
      rw [hF, hG] at hstop hstep hfn
      have h1 := fun w1 => first_c (c : Int) w1
      have h2 := fun w1 => next_c (c : Int) w1
      rw [hF] at h1
      rw [hG] at h2
      have H1 := Lib.hid h1
      have H2 := Lib.hid h2
      have HSTOP := Lib.hid hstop
      have HSTEP := Lib.hid hstep
      have HSC := Lib.hid hsc
      have HI := Lib.hid hI
      have HP := Lib.hid hpos
      have HFN := Lib.hid hfn
      clear h1 h2 hstop hstep hF hG hcn hI hsc hpos hit hW hfn
      by_cases h0 : pos = 0
      · subst h0
        cases F
        · go_wp2_with fail
          refine (H1.out _).mono ?_
          rintro e w1 ⟨rfl, rfl⟩
          go_wp2_with fail
          go_ret
          have := HSTOP.out (by simp)
          rw [HSC.out] at this
          subst this
          exact ⟨by simp; rfl, hB2⟩
        · have hG : G = true := HFN.out rfl
          subst hG
          go_wp2_with fail
          refine (H1.out _).mono ?_
          rintro e w1 ⟨rfl, rfl⟩
          go_wp2_with fail
          refine (H2.out _).mono ?_
          rintro e w1 ⟨rfl, rfl⟩
          go_wp2_with fail
          obtain ⟨b', h4, h5⟩ := HSTEP.out (by simp)
          refine ⟨⟨0 + n, b', HI.out, hB2, by omega, by omega, by rw [← h5]; exact HSC.out⟩, ?_⟩
          rw [iterPos_of HI.out, HP.out]
          omega
      · have h0i : ((pos : Int) == 0) = false := by simp [h0]
        cases G
        · go_wp2_with fail
          refine (H2.out _).mono ?_
          rintro e w1 ⟨rfl, rfl⟩
          go_wp2_with fail
          go_ret
          have := HSTOP.out (by simp)
          rw [HSC.out] at this
          subst this
          exact ⟨rfl, hB2⟩
        · go_wp2_with fail
          refine (H2.out _).mono ?_
          rintro e w1 ⟨rfl, rfl⟩
          go_wp2_with fail
          obtain ⟨b', h4, h5⟩ := HSTEP.out (by simp [h0])
          refine ⟨⟨pos + n, b', HI.out, hB2, by omega, by omega, by rw [← h5]; exact HSC.out⟩, ?_⟩
          rw [iterPos_of HI.out, HP.out]
          omega
    · have hnx := fun ty => Lib.run_next_end_at (P := Tryd.prog) wr w.heap.size s pos ty hit hp
      have hend := wordF_end s b pos hp
      rw [hsc] at hend
      have hps : R = s.size := by omega
      have HPS := Lib.hid hps
      clear hps hend hsc
      go_wp2_with fail
      go_ret
      exact ⟨by rw [HPS.out, extract_all]; rfl, hB⟩
end Go.Proofs.YtjnaikojoemkaaaDoor
