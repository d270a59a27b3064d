/-
  The walks of the layer utf: what each function answers, and that it leaves memory as it was.
  The walks of utf.Rune and names.made, names.Plain: what they answer; no memory that was there has turned.
  The walks of names.made and names.Plain.
  The walks of names.Plain and names.Split.
-/
import Derived.Test.YtbcdbefogfmhfaaGreatDoorProg
import Derived.Test.YtbcdbefogfmhfaaGreatDoorMB
import Derived.Test.YtbcdbefogfmhfaaGreatDoorShelf
import Derived.Lib.RuneCountTail
import Derived.Shelf.Abstract
namespace Go.Proofs.YtbcdbefogfmhfaaGreatDoor
open Go.RowKit
set_option maxHeartbeats 400000 in
theorem validRune_c (c : Int) (w : World) :
    Calls Tryz.prog 145 #[.int .i32 c] w fun e w' => e = .returned (.bool (validR c)) ∧ w = w' := by
  go_enter Tryz.func145, Tryz.ntmps145
  go_wp2
  all_goals go_ret
  all_goals exact ⟨ret_bool (by simp [validR]; omega), rfl⟩
set_option maxHeartbeats 400000 in
theorem fine_c (c : Int) (w : World) :
    Calls Tryz.prog 123 #[.int .i64 c] w fun e w' => e = .returned (.bool (fineC c)) ∧ w = w' := by
  go_enter Tryz.func123, Tryz.ntmps123
  go_wp2_with (go_at_call 145; refine (validRune_c _ _).mono ?_; rintro e w' ⟨rfl, rfl⟩)
  all_goals go_ret
  all_goals refine ⟨ret_bool (bool_ext ?_), rfl⟩
  all_goals go_light
  all_goals grind [fineC, validR]
set_option maxHeartbeats 400000 in
theorem first_c (c : Int) (w : World) :
    Calls Tryz.prog 154 #[.int .i64 c] w fun e w' => e = .returned (.bool (firstC c)) ∧ w = w' := by
  go_enter Tryz.func154, Tryz.ntmps154
  go_wp2_with (go_at_call 123; refine (fine_c _ _).mono ?_; rintro e w' ⟨rfl, rfl⟩)
  all_goals go_ret
  all_goals refine ⟨ret_bool (bool_ext ?_), rfl⟩
  all_goals go_light
  all_goals grind [firstC]
set_option maxHeartbeats 400000 in
theorem next_c (c : Int) (w : World) :
    Calls Tryz.prog 155 #[.int .i64 c] w fun e w' => e = .returned (.bool (nextC c)) ∧ w = w' := by
  go_enter Tryz.func155, Tryz.ntmps155
  go_wp2_with (go_at_call 154; refine (first_c _ _).mono ?_; rintro e w' ⟨rfl, rfl⟩)
  all_goals go_ret
  all_goals refine ⟨ret_bool (bool_ext ?_), rfl⟩
  all_goals go_light
  all_goals grind [nextC]
set_option maxHeartbeats 400000 in
theorem part_c (c : Int) (w : World) :
    Calls Tryz.prog 143 #[.int .i64 c] w fun e w' => e = .returned (.bool (partC c)) ∧ w = w' := by
  go_enter Tryz.func143, Tryz.ntmps143
  go_wp2_with (go_at_call 155; refine (next_c _ _).mono ?_; rintro e w' ⟨rfl, rfl⟩)
  all_goals go_ret
  all_goals refine ⟨ret_bool (bool_ext ?_), rfl⟩
  all_goals go_light
  all_goals grind [partC]
set_option maxHeartbeats 400000 in
theorem start_c (c : Int) (w : World) :
    Calls Tryz.prog 142 #[.int .i64 c] w fun e w' => e = .returned (.bool (firstC c)) ∧ w = w' := by
  go_enter Tryz.func142, Tryz.ntmps142
  go_wp2_with (go_at_call 154; refine (first_c _ _).mono ?_; rintro e w' ⟨rfl, rfl⟩)
  go_ret
  exact ⟨rfl, rfl⟩
end Go.Proofs.YtbcdbefogfmhfaaGreatDoor

namespace Go.Proofs.YtbcdbefogfmhfaaGreatDoor
open Go.RowKit
/-- What the walks ask of the world: the tables of unicode/utf8 as they are laid; bytealg's one variable holds some number. -/
def Env (w : World) : Prop :=
  Lib.Utf8Tabs 2 3 w ∧ (∃ m, w.cell? ⟨4, 0, none⟩ = some (.int .i64 m))
theorem Env.bel {w w' : World} (h : Env w) (hb : Bel w w') : Env w' := by
  obtain ⟨hc, _⟩ := bcell hb
  obtain ⟨⟨h1, h2⟩, m, h3⟩ := h
  refine ⟨⟨fun c hc' => ?_, fun i hi => ⟨?_, ?_⟩⟩, m, ?_⟩
  · rw [hc _ _ (cell_lt (h1 c hc'))]; exact h1 c hc'
  · rw [hc _ _ (cell_lt (h2 i hi).1)]; exact (h2 i hi).1
  · rw [hc _ _ (cell_lt (h2 i hi).2)]; exact (h2 i hi).2
  · rw [hc _ _ (cell_lt h3)]; exact h3
/-- A function value that answers a bool of a number. -/
structure Asks (h : Nat) (r : Int → Bool) : Prop where
  enters : ∀ args w, (callFunc h args).run Tryz.prog w = .ok (.enter h args) w
  calls : ∀ c w, Calls Tryz.prog h #[.int .i64 c] w fun e w' => e = .returned (.bool (r c)) ∧ w = w'
theorem asks_first : Asks 154 firstC := ⟨enters_of Tryz.func154 (by kernel_rfl) rfl, first_c⟩
theorem asks_next : Asks 155 nextC := ⟨enters_of Tryz.func155 (by kernel_rfl) rfl, next_c⟩
theorem asks_start : Asks 142 firstC := ⟨enters_of Tryz.func142 (by kernel_rfl) rfl, start_c⟩
theorem asks_part : Asks 143 partC := ⟨enters_of Tryz.func143 (by kernel_rfl) rfl, part_c⟩
theorem decode_tail (s : ByteArray) (n : Nat) (h : n < s.size) : Lib.decodeGo (s.extract n s.size) = Utf8.decode s n := by
  have hz : ¬ (s.extract n s.size).size = 0 := by simp; omega
  unfold Lib.decodeGo
  rw [if_neg hz, Lib.tail_decode]
  rfl
set_option maxHeartbeats 400000 in
theorem rune_c (s : ByteArray) (v : Value) (i : Nat) (w : World) (hE : Env w) (hv : BytesAt w v s) (hi : i < s.size) (_hs : s.size ≤ 4294967280) :
    Calls Tryz.prog 167 #[v, .int .i64 i] w fun e w' => e = .returned (.tuple #[.int .i64 (runeAt s i).1, .int .i64 (runeAt s i).2.1, .int .i64 (runeAt s i).2.2]) ∧ Bel w w' := by
  obtain ⟨b, off, cap, rfl, hlt, hcell, hcap⟩ := hv
  have hd := decode_tail s i hi
  have hle := decode_le s i
  have hsz : (s.extract i s.size).size = s.size - i := by simp
  have hX : ∀ w1, w1 = w → Calls Tryz.prog 182 #[.slice (some ⟨b, off + i, none⟩) (s.size - i) (cap - i)] w1 fun e w' => e = .returned (.tuple #[.int .i32 (Utf8.decode s i).1, .int .i64 (Utf8.decode s i).2]) ∧ Bel w w' := by
    rintro w1 rfl
    have := Tryz.utf8_DecodeRune (s.extract i s.size) b (off + i) (cap - i) w1 hE.1 (fun j hj => by
      rw [hsz] at hj
      rw [Nat.add_assoc, hcell _ (by omega)]
      rw [get_extract s i j (by omega)])
    rw [hsz, hd] at this
    exact this
  obtain ⟨r, hr⟩ : ∃ r, runeAt s i = r := ⟨_, rfl⟩
  obtain ⟨c, n, hcn⟩ : ∃ c n, Utf8.decode s i = (c, n) := ⟨_, _, rfl⟩
  unfold runeAt at hr
  simp only [hcn] at hX hle hr
  rw [show runeAt s i = r from by unfold runeAt; simp only [hcn]; exact hr]
  have HX := Lib.hid hX
  have HR := Lib.hid hr
  clear hX hd hsz hcn hcell hr
  have hcc : i < cap := by omega
  go_enter Tryz.func167, Tryz.ntmps167
  go_wp2_with (first
    | (go_at_call 182; refine (HX.out _ rfl).mono ?_; rintro e w' ⟨rfl, hb⟩)
    | (go_at_call 123; refine (fine_c _ _).mono ?_; rintro e w' ⟨rfl, rfl⟩))
  all_goals go_ret3
  all_goals have hr := HR.out
  all_goals go_light
  all_goals refine ⟨tup3 (int_eq ?_) (int_eq ?_) (int_eq ?_), by assumption⟩
  all_goals (rw [← hr]; grind)
end Go.Proofs.YtbcdbefogfmhfaaGreatDoor

namespace Go.Proofs.YtbcdbefogfmhfaaGreatDoor
open Go.RowKit
set_option maxHeartbeats 600000 in
theorem made_c (s : ByteArray) (hs : s.size ≤ 4294967280) (f g : Nat) (p q : Int → Bool) (w : World) (hE : Env w) (hfine : ∀ c, q c = true → fineC c = true)
  (hf : Asks f p) (hg : Asks g q) (hfine' : ∀ c, p c = true → fineC c = true) :
    Calls Tryz.prog 141 #[.string s, .func (.func f) #[] #[], .func (.func g) #[] #[]] w fun e w' => e = .returned (.bool (madeS p q s)) ∧ Bel w w' := by
  obtain ⟨B, hBv⟩ : ∃ B, scanG s q s.size 0 p = B := ⟨_, rfl⟩
  have hlast : madeS p q s = (B && !s.toList.isEmpty) := by rw [← hBv]; rfl
  rw [hlast]
  have HB := Lib.hid hBv
  have HL := Lib.hid hlast
  clear hBv hlast
  go_enter Tryz.func141, Tryz.ntmps141
  go_wp2
  go_loopw [7] (fun at_ wr => ∃ (pos b h : Nat) (r : Int → Bool), at_ = .func (.func h) #[] #[] ∧ Asks h r ∧ (∀ c, r c = true → fineC c = true) ∧ wr.heap[w.heap.size]? = some (.stringIter s pos) ∧ Below w.heap.size w wr ∧ s.size ≤ pos + b ∧ scanG s q b pos r = B) (fun _ w' => s.size - w'.iterPos w.heap.size)
  case atStart => exact ⟨0, s.size, f, p, rfl, hf, hfine', World.iter_heap _ _ _, (Below.refl _ _).alloc (Nat.le_refl _) _, by omega, HB.out⟩
  case round =>
    obtain ⟨pos, b, h, r, rfl, ha, hfr, hit, hB, hb, hsc⟩ := hrel
    have hen := ha.enters
    have hpos := iterPos_of hit
    have HFR := Lib.hid hfr
    have HFQ := Lib.hid hfine
    clear hfr hfine hfine'
    by_cases hp : pos < s.size
    · have hnx := fun ty => Lib.run_next_any_at (P := Tryz.prog) wr w.heap.size s pos ty hit hp
      have hwd := decode_pos s pos hp
      have hI : (wr.iterAt w.heap.size s (pos + (Utf8.decode s pos).2)).heap[w.heap.size]? = some (.stringIter s (pos + (Utf8.decode s pos).2)) := Lib.iterAt_heap _ _ _ _ _ hit
      have hB2 : Below w.heap.size w (wr.iterAt w.heap.size s (pos + (Utf8.decode s pos).2)) := Lib.below_iterAt hB (Nat.le_refl _) _ _
      have HI := Lib.hid hI
      have HP := Lib.hid hpos
      have hle := decode_le s pos
      have hB3 : Bel w (wr.iterAt w.heap.size s (pos + (Utf8.decode s pos).2)) := hB2
      have hE2 : Env (wr.iterAt w.heap.size s (pos + (Utf8.decode s pos).2)) := hE.bel hB3
      have hlt2 : w.heap.size < (wr.iterAt w.heap.size s (pos + (Utf8.decode s pos).2)).heap.size := (Array.getElem?_eq_some_iff.1 hI).1
      have hbad := fun h1 => scanG_bad s q r b pos hp hb h1
      have hno := fun h1 => scanG_no s q r b pos hp hb h1
      have hst := fun h1 h2 => scanG_step s q r b pos hp hb h1 h2
      have hru : runeAt s pos = runeAt s pos := rfl
      unfold runeAt at hru
      obtain ⟨c, n, hcn⟩ : ∃ c n, Utf8.decode s pos = (c, n) := ⟨_, _, rfl⟩
      have HD := Lib.hid hcn
      rw [hcn] at hnx hle hwd HI hB2 hB3 hE2 hbad hno hst hlt2
      have HR : Hid (runeAt s pos = if c = 65533 ∧ n < 2 ∨ fineC c = false then (0, 0, 4) else (c, n, 0)) := by
        unfold runeAt; rw [hcn]; rfl
      obtain ⟨W, hW⟩ : ∃ W, wr.iterAt w.heap.size s (pos + n) = W := ⟨_, rfl⟩
      simp only [hW] at hnx hle hwd HI hB2 hB3 hE2 hbad hno hst hlt2
      have HBAD := Lib.hid hbad
      have HNO := Lib.hid hno
      have HST := Lib.hid hst
      have HSC := Lib.hid hsc
      clear hcn hru hI hsc hpos hit hW hbad hno hst
      obtain ⟨e, he⟩ : ∃ e, runeAt s pos = e := ⟨_, rfl⟩
      rw [he] at HR
      have hrc := fun v w1 (hE1 : Env w1) (hv : BytesAt w1 v s) => rune_c s v pos w1 hE1 hv hp hs
      rw [he] at hrc
      have HRC := Lib.hid hrc
      clear he hrc
      go_wp2_with (first
        | (refine wpL_bytes rfl 9 50 5 _ rfl s rfl Tryz.underlying9 Tryz.underlying50 Tryz.underlying5 ?_; intro v W1 hv hb1)
        | (go_at_call 167; refine (HRC.out _ _ (hE2.bel (by assumption)) (by assumption)).mono ?_; rintro e w' ⟨rfl, hb2⟩)
        | ((with_reducible refine (ha.calls _ _).mono ?_); rintro e w' ⟨rfl, rfl⟩))
      · have h1 : ((c : Int) == 65533) = true := by assumption
        have h2 : ((e.2.2 : Int) != 0) = true := by assumption
        go_ret
        have hw : Below w.heap.size w w' := (hB3.trans (by assumption : Bel W W1)).trans (by assumption : Bel W1 w')
        refine ⟨?_, hw⟩
        have := HBAD.out (by have := HR.out; clear hen; go_light; grind [fineC])
        rw [HSC.out] at this
        rw [this]; rfl
      · have h1 : ((c : Int) == 65533) = true := by assumption
        have h2 : (!r (c : Int)) = true := by assumption
        go_ret
        have hw : Below w.heap.size w w' := (hB3.trans (by assumption : Bel W W1)).trans (by assumption : Bel W1 w')
        refine ⟨?_, hw⟩
        have := HNO.out (by simpa using h2)
        rw [HSC.out] at this
        rw [this]; rfl
      · have h1 : ((c : Int) == 65533) = true := by assumption
        have h2 : (!r (c : Int)) = false := by assumption
        have h3 : ((e.2.2 : Int) != 0) = false := by assumption
        have hb3 : Bel W w' := (by assumption : Bel W W1).trans (by assumption : Bel W1 w')
        have hw : Bel w w' := hB3.trans hb3
        have hit' : w'.heap[w.heap.size]? = some (.stringIter s (pos + n)) := (hb3.block hlt2).trans HI.out
        obtain ⟨b', h4, h5⟩ := HST.out (by have := HR.out; clear hen; go_light; grind) (by simpa using h2)
        refine ⟨⟨pos + n, b', g, q, rfl, hg, HFQ.out, hit', hw, by omega, by rw [← h4]; exact HSC.out⟩, ?_⟩
        rw [iterPos_of hit', HP.out]
        omega
      · have h2 : (!r (c : Int)) = true := by assumption
        go_ret
        refine ⟨?_, hB2⟩
        have := HNO.out (by simpa using h2)
        rw [HSC.out] at this
        rw [this]; rfl
      · have h1 : ((c : Int) == 65533) = false := by assumption
        have h2 : (!r (c : Int)) = false := by assumption
        obtain ⟨b', h4, h5⟩ := HST.out (by clear hen; go_light; grind) (by simpa using h2)
        refine ⟨⟨pos + n, b', g, q, rfl, hg, HFQ.out, HI.out, hB2, by omega, by rw [← h4]; exact HSC.out⟩, ?_⟩
        rw [iterPos_of HI.out, HP.out]
        omega
    · have hnx := fun ty => Lib.run_next_end_at (P := Tryz.prog) wr w.heap.size s pos ty hit hp
      have hend := scanG_end s q r b pos hp
      rw [hsc] at hend
      subst hend
      go_wp2
      go_ret
      exact ⟨by simp, hB⟩
end Go.Proofs.YtbcdbefogfmhfaaGreatDoor

namespace Go.Proofs.YtbcdbefogfmhfaaGreatDoor
open Go.RowKit
theorem fine_of_first (c : Int) (h : firstC c = true) : fineC c = true := by
  unfold firstC at h; unfold fineC at *; simp only [decide_eq_true_eq] at *; omega
theorem fine_of_next (c : Int) (h : nextC c = true) : fineC c = true := by
  unfold nextC at h; rw [Bool.or_eq_true] at h
  rcases h with h | h
  · exact fine_of_first c h
  · unfold fineC; simp only [decide_eq_true_eq] at *; omega
theorem fine_of_part (c : Int) (h : partC c = true) : fineC c = true := by
  unfold partC at h; rw [Bool.or_eq_true] at h
  rcases h with h | h
  · exact fine_of_next c h
  · unfold fineC; simp only [decide_eq_true_eq] at *; omega
set_option maxHeartbeats 400000 in
theorem plain_c (s : ByteArray) (hs : s.size ≤ 4294967280) (w : World) (hE : Env w) :
    Calls Tryz.prog 121 #[.string s] w fun e w' => e = .returned (.bool (plainS s)) ∧ Bel w w' := by
  go_enter Tryz.func121, Tryz.ntmps121
  go_wp2_with (go_at_call 141; refine (made_c s hs _ _ _ _ _ hE fine_of_part asks_start asks_part fine_of_first).mono ?_; rintro e w' ⟨rfl, hb⟩)
  go_ret
  exact ⟨rfl, by assumption⟩
end Go.Proofs.YtbcdbefogfmhfaaGreatDoor
