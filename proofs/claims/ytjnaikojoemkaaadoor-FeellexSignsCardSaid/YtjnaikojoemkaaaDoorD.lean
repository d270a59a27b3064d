/-
  The walks of names.made and names.Plain.
-/
import Derived.Test.YtjnaikojoemkaaaDoorC
namespace Go.Proofs.YtjnaikojoemkaaaDoor
open Go.RowKit

set_option maxHeartbeats 600000 in
theorem made_c (s : ByteArray) (hs : s.size ≤ 4294967280) (f g : Nat) (p q : Int → Bool) (w : World) (hE : Env w) (hfine : ∀ c, q c = true → fineC c = true)
  (hf : Asks f p) (hg : Asks g q) (hfine' : ∀ c, p c = true → fineC c = true) :
    Calls Tryd.prog 29 #[.string s, .func (.func f) #[] #[], .func (.func g) #[] #[]] w fun e w' => e = .returned (.bool (madeS p q s)) ∧ Bel w w' := by
  obtain ⟨B, hBv⟩ : ∃ B, scanG s q s.size 0 p = B := ⟨_, rfl⟩
  have hlast : madeS p q s = (B && !s.toList.isEmpty) := by rw [← hBv]; rfl
  rw [hlast]
  have HB := Lib.hid hBv
  have HL := Lib.hid hlast
  clear hBv hlast
  go_enter Tryd.func29, Tryd.ntmps29
  go_wp2
  go_loopw [7] (fun at_ wr => ∃ (pos b h : Nat) (r : Int → Bool), at_ = .func (.func h) #[] #[] ∧ Asks h r ∧ (∀ c, r c = true → fineC c = true) ∧ wr.heap[w.heap.size]? = some (.stringIter s pos) ∧ Below w.heap.size w wr ∧ s.size ≤ pos + b ∧ scanG s q b pos r = B) (fun _ w' => s.size - w'.iterPos w.heap.size)
  case atStart => exact ⟨0, s.size, f, p, rfl, hf, hfine', World.iter_heap _ _ _, (Below.refl _ _).alloc (Nat.le_refl _) _, by omega, HB.out⟩
  case round =>
    obtain ⟨pos, b, h, r, rfl, ha, hfr, hit, hB, hb, hsc⟩ := hrel
    have hen := ha.enters
    have hpos := iterPos_of hit
    have HFR := Lib.hid hfr
    have HFQ := Lib.hid hfine
    clear hfr hfine hfine'
    by_cases hp : pos < s.size
    · have hnx := fun ty => Lib.run_next_any_at (P := Tryd.prog) wr w.heap.size s pos ty hit hp
      have hwd := decode_pos s pos hp
      have hI : (wr.iterAt w.heap.size s (pos + (Utf8.decode s pos).2)).heap[w.heap.size]? = some (.stringIter s (pos + (Utf8.decode s pos).2)) := Lib.iterAt_heap _ _ _ _ _ hit
      have hB2 : Below w.heap.size w (wr.iterAt w.heap.size s (pos + (Utf8.decode s pos).2)) := Lib.below_iterAt hB (Nat.le_refl _) _ _
      have HI := Lib.hid hI
      have HP := Lib.hid hpos
      have hle := decode_le s pos
      have hB3 : Bel w (wr.iterAt w.heap.size s (pos + (Utf8.decode s pos).2)) := hB2
      have hE2 : Env (wr.iterAt w.heap.size s (pos + (Utf8.decode s pos).2)) := hE.bel hB3
      have hlt2 : w.heap.size < (wr.iterAt w.heap.size s (pos + (Utf8.decode s pos).2)).heap.size := (Array.getElem?_eq_some_iff.1 hI).1
      have hbad := fun h1 => scanG_bad s q r b pos hp hb h1
      have hno := fun h1 => scanG_no s q r b pos hp hb h1
      have hst := fun h1 h2 => scanG_step s q r b pos hp hb h1 h2
      have hru : runeAt s pos = runeAt s pos := rfl
      unfold runeAt at hru
      obtain ⟨c, n, hcn⟩ : ∃ c n, Utf8.decode s pos = (c, n) := ⟨_, _, rfl⟩
      have HD := Lib.hid hcn
      rw [hcn] at hnx hle hwd HI hB2 hB3 hE2 hbad hno hst hlt2
      have HR : Hid (runeAt s pos = if c = 65533 ∧ n < 2 ∨ fineC c = false then (0, 0, 4) else (c, n, 0)) := by
        unfold runeAt; rw [hcn]; rfl
      obtain ⟨W, hW⟩ : ∃ W, wr.iterAt w.heap.size s (pos + n) = W := ⟨_, rfl⟩
      simp only [hW] at hnx hle hwd HI hB2 hB3 hE2 hbad hno hst hlt2
      have HBAD := Lib.hid hbad
      have HNO := Lib.hid hno
      have HST := Lib.hid hst
      have HSC := Lib.hid hsc
      clear hcn hru hI hsc hpos hit hW hbad hno hst
      obtain ⟨e, he⟩ : ∃ e, runeAt s pos = e := ⟨_, rfl⟩
      rw [he] at HR
      have hrc := fun v w1 (hE1 : Env w1) (hv : BytesAt w1 v s) => rune_c s v pos w1 hE1 hv hp hs
      rw [he] at hrc
      have HRC := Lib.hid hrc
      clear he hrc
      go_wp2_with (first
        | (refine wpL_bytes rfl 9 39 5 _ rfl s rfl Tryd.underlying9 Tryd.underlying39 Tryd.underlying5 ?_; intro v W1 hv hb1)
        | (go_at_call 41; refine (HRC.out _ _ (hE2.bel (by assumption)) (by assumption)).mono ?_; rintro e w' ⟨rfl, hb2⟩)
        | ((with_reducible refine (ha.calls _ _).mono ?_); rintro e w' ⟨rfl, rfl⟩))
      · have h1 : ((c : Int) == 65533) = true := by assumption
        have h2 : ((e.2.2 : Int) != 0) = true := by assumption
        go_ret
        have hw : Below w.heap.size w w' := (hB3.trans (by assumption : Bel W W1)).trans (by assumption : Bel W1 w')
        refine ⟨?_, hw⟩
        have := HBAD.out (by have := HR.out; clear hen; go_light; grind [fineC])
        rw [HSC.out] at this
        rw [this]; rfl
      · have h1 : ((c : Int) == 65533) = true := by assumption
        have h2 : (!r (c : Int)) = true := by assumption
        go_ret
        have hw : Below w.heap.size w w' := (hB3.trans (by assumption : Bel W W1)).trans (by assumption : Bel W1 w')
        refine ⟨?_, hw⟩
        have := HNO.out (by simpa using h2)
        rw [HSC.out] at this
        rw [this]; rfl
      · have h1 : ((c : Int) == 65533) = true := by assumption
        have h2 : (!r (c : Int)) = false := by assumption
        have h3 : ((e.2.2 : Int) != 0) = false := by assumption
        have hb3 : Bel W w' := (by assumption : Bel W W1).trans (by assumption : Bel W1 w')
        have hw : Bel w w' := hB3.trans hb3
        have hit' : w'.heap[w.heap.size]? = some (.stringIter s (pos + n)) := (hb3.block hlt2).trans HI.out
        obtain ⟨b', h4, h5⟩ := HST.out (by have := HR.out; clear hen; go_light; grind) (by simpa using h2)
        refine ⟨⟨pos + n, b', g, q, rfl, hg, HFQ.out, hit', hw, by omega, by rw [← h4]; exact HSC.out⟩, ?_⟩
        rw [iterPos_of hit', HP.out]
        omega
      · have h2 : (!r (c : Int)) = true := by assumption
        go_ret
        refine ⟨?_, hB2⟩
        have := HNO.out (by simpa using h2)
        rw [HSC.out] at this
        rw [this]; rfl
      · have h1 : ((c : Int) == 65533) = false := by assumption
        have h2 : (!r (c : Int)) = false := by assumption
        obtain ⟨b', h4, h5⟩ := HST.out (by clear hen; go_light; grind) (by simpa using h2)
        refine ⟨⟨pos + n, b', g, q, rfl, hg, HFQ.out, HI.out, hB2, by omega, by rw [← h4]; exact HSC.out⟩, ?_⟩
        rw [iterPos_of HI.out, HP.out]
        omega
    · have hnx := fun ty => Lib.run_next_end_at (P := Tryd.prog) wr w.heap.size s pos ty hit hp
      have hend := scanG_end s q r b pos hp
      rw [hsc] at hend
      subst hend
      go_wp2
      go_ret
      exact ⟨by simp, hB⟩
end Go.Proofs.YtjnaikojoemkaaaDoor
