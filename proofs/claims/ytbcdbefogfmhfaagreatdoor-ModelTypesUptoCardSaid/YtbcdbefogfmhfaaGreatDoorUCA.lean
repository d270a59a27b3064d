/-
  Maps: an entry of a literal; a map that was filled by a list of entries.
  The walks of utf.Space and utf.Check.
  The walks of the reference's Space and Check.
-/
import Derived.Test.YtbcdbefogfmhfaaGreatDoorMB
import Derived.Maps.OwnSet
import Derived.Test.YtbcdbefogfmhfaaGreatDoorShelf
import Derived.Test.YtbcdbefogfmhfaaGreatDoorMC
import Derived.Test.YtbcdbefogfmhfaaGreatDoorMR
import Derived.Test.YtbcdbefogfmhfaaGreatDoorMT
namespace Go.Proofs.YtbcdbefogfmhfaaGreatDoor
open Go.RowKit Go.Maps
/-- A map filled by a list of entries, the last one first. -/
def mkR {H : Type} : List (Int × DataW H) → DataW H
  | [] => .map []
  | (k, d) :: r => (mkR r).put (.int .i64 k) d
theorem mkR_isMap {H : Type} : ∀ l : List (Int × DataW H), IsMap (mkR l)
  | [] => isMap_empty
  | (_, _) :: r => (mkR_isMap r).put _ _
theorem mkR_at {H : Type} (j : Int) (z : DataW H) : ∀ l : List (Int × DataW H), (mkR l).atKey (.int .i64 j) z = match l.find? (fun p => p.1 == j) with | some p => p.2 | none => z
  | [] => rfl
  | (k, d) :: r => by
    unfold mkR
    by_cases h : k = j
    · subst h
      rw [atKey_put_same (mkR_isMap r) (by trivial)]
      simp
    · rw [atKey_put_other (by simp; omega), mkR_at j z r, List.find?_cons_of_neg (by simpa using h)]
theorem mkR_has {H : Type} (j : Int) : ∀ l : List (Int × DataW H), has (mkR l) (.int .i64 j) = (l.find? (fun p => p.1 == j)).isSome
  | [] => rfl
  | (k, d) :: r => by
    unfold mkR
    by_cases h : k = j
    · subst h
      rw [has_put_same (mkR_isMap r) (by trivial)]
      simp
    · rw [has_put_other (by simp; omega), mkR_has j r, List.find?_cons_of_neg (by simpa using h)]
theorem own_mapBel {P : Program} {k : TypeId} {R : Value → Option (DataW Unit × List MemPlace)} {w w' : World} {b n : Nat} {D : DataW Unit} (h : w.ownsMap P k R b n D) (hb : Bel w w') : w'.ownsMap P k R b n D := by
  have hl := h.lt
  obtain ⟨es, c, h1, h2⟩ := h
  exact ⟨es, c, (hb.block hl).trans h1, h2⟩
end Go.Proofs.YtbcdbefogfmhfaaGreatDoor

namespace Go.Proofs.YtbcdbefogfmhfaaGreatDoor
open Go.RowKit
/-- Where a text is wrong; its size: nowhere. -/
def chkF (s : ByteArray) : Nat → Nat → Nat
  | 0, _ => s.size
  | b + 1, pos => if pos < s.size then if (runeAt s pos).2.2 = 0 then chkF s b (pos + (Utf8.decode s pos).2) else pos else s.size
def chkS (s : ByteArray) : Nat := chkF s s.size 0
theorem chkF_end (s : ByteArray) (b pos : Nat) (h : ¬ pos < s.size) : chkF s b pos = s.size := by
  cases b with
  | zero => rfl
  | succ b => rw [chkF, if_neg h]
theorem chkF_bad (s : ByteArray) (b pos : Nat) (h : pos < s.size) (hb : s.size ≤ pos + b) (h1 : (runeAt s pos).2.2 ≠ 0) : chkF s b pos = pos := by
  cases b with
  | zero => omega
  | succ b => rw [chkF, if_pos h, if_neg h1]
theorem chkF_step (s : ByteArray) (b pos : Nat) (h : pos < s.size) (hb : s.size ≤ pos + b) (h1 : (runeAt s pos).2.2 = 0) : ∃ b', b = b' + 1 ∧ chkF s b pos = chkF s b' (pos + (Utf8.decode s pos).2) := by
  cases b with
  | zero => omega
  | succ b => exact ⟨b, rfl, by rw [chkF, if_pos h, if_pos h1]⟩
theorem bytes_string (W : World) (v : Value) (s : ByteArray) (hv : BytesAt W v s) : (convert 50 9 v).run Tryz.prog W = .ok (.string s) W := by
  obtain ⟨b, off, cap, rfl, hlt, hc, hcap⟩ := hv
  refine run_convert_bytes_back (P := Tryz.prog) W 50 9 5 ⟨b, off, none⟩ cap s.data.toList Tryz.underlying50 Tryz.underlying5 Tryz.underlying9 fun j hj => ?_
  rw [show (⟨b, off, none⟩ : Addr).add j = ⟨b, off + j, none⟩ from by unfold Addr.add; split <;> simp_all, hc j hj, get_bang s j hj]
  simp
set_option maxRecDepth 100000 in
set_option maxHeartbeats 2000000 in
theorem check_c (s : ByteArray) (_hs : s.size ≤ 4294967280) (v : Value) (w : World) (hE : Env w) (hv : BytesAt w v s) :
    Calls Tryz.prog 93 #[v] w fun e w' => e = .returned (.tuple #[.int .i64 (chkS s), .int .i64 (if chkS s < s.size then 4 else 0)]) ∧ Bel w w' := by
  obtain ⟨R, hR⟩ : ∃ R, chkS s = R := ⟨_, rfl⟩
  rw [hR]
  have HR := Lib.hid hR
  obtain ⟨E, hEE⟩ : ∃ E : Int, (if R < s.size then (4 : Int) else 0) = E := ⟨_, rfl⟩
  rw [hEE]
  have HEE := Lib.hid hEE
  clear hEE
  have hcv := bytes_string w v s hv
  obtain ⟨vb, vo, vc, rfl, _, _, _⟩ := hv
  clear hR
  go_enter Tryz.func93, Tryz.ntmps93
  go_wp2_with fail
  go_loopw [5] (fun _ wr => ∃ (pos b : Nat), wr.heap[w.heap.size]? = some (.stringIter s pos) ∧ Below w.heap.size w wr ∧ s.size ≤ pos + b ∧ chkF s b pos = R) (fun _ w' => s.size - w'.iterPos w.heap.size)
  case atStart => exact ⟨0, s.size, World.iter_heap _ _ _, (Below.refl _ _).alloc (Nat.le_refl _) _, by omega, HR.out⟩
  case round =>
    obtain ⟨pos, b, hit, hB, hb, hsc⟩ := hrel
    have hpos := iterPos_of hit
    clear hcv
    by_cases hp : pos < s.size
    · have hpi : (pos : Int) ≤ s.size := by omega
      have hnx := fun ty => Lib.run_next_any_at (P := Tryz.prog) wr w.heap.size s pos ty hit hp
      have hwd := decode_pos s pos hp
      have hI : (wr.iterAt w.heap.size s (pos + (Utf8.decode s pos).2)).heap[w.heap.size]? = some (.stringIter s (pos + (Utf8.decode s pos).2)) := Lib.iterAt_heap _ _ _ _ _ hit
      have hB2 : Bel w (wr.iterAt w.heap.size s (pos + (Utf8.decode s pos).2)) := Lib.below_iterAt hB (Nat.le_refl _) _ _
      have hle := decode_le s pos
      have hbad := chkF_bad s b pos hp hb
      have hstep := chkF_step s b pos hp hb
      have hdt := decode_tail s pos hp
      have hdr := fun w1 (h : Bel w w1) => Tryz.utf8_DecodeRuneInString (s.extract pos s.size) w1 (hE.bel h).1
      rw [hdt] at hdr
      unfold runeAt at hbad hstep
      obtain ⟨c, n, hcn⟩ : ∃ c n, Utf8.decode s pos = (c, n) := ⟨_, _, rfl⟩
      rw [hcn] at hnx hle hwd hI hB2 hbad hstep hdr
      obtain ⟨W, hW⟩ : ∃ W, wr.iterAt w.heap.size s (pos + n) = W := ⟨_, rfl⟩
      simp only [hW] at hnx hle hwd hI hB2 hbad hstep hdr
      have hlt2 : w.heap.size < W.heap.size := (Array.getElem?_eq_some_iff.1 hI).1
      obtain ⟨x, hx⟩ : ∃ x, s.extract pos s.size = x := ⟨_, rfl⟩
      rw [hx] at hdr
      obtain ⟨F, hF⟩ : ∃ F, fineC (c : Int) = F := ⟨_, rfl⟩
      rw [hF] at hbad hstep
      have h1 := fun w1 => fine_c (c : Int) w1
      rw [hF] at h1
      have H1 := Lib.hid h1
      have HDR := Lib.hid hdr
      have HBAD := Lib.hid hbad
      have HSTEP := Lib.hid hstep
      have HSC := Lib.hid hsc
      have HI := Lib.hid hI
      have HP := Lib.hid hpos
      have HE := Lib.hid hE
      clear h1 hdr hbad hstep hcn hI hsc hpos hit hW hF hE hdt
      by_cases he : c = 65533
      · have hei : ((c : Int) == 65533) = true := by simp [he]
        have HHE := Lib.hid he
        clear he
        by_cases hn2 : n < 2
        · have hn2i : (n : Int) < 2 := by omega
          go_wp2_with fail
          refine (HDR.out _ hB2).mono ?_
          rintro e w1 ⟨rfl, hb1⟩
          go_wp2_with fail
          go_ret2
          have := HBAD.out (by rw [if_pos (.inl ⟨HHE.out, hn2⟩)]; simp)
          rw [HSC.out] at this
          have h4 : E = 4 := by rw [← HEE.out, if_pos (by omega)]
          exact ⟨by rw [h4, this]; rfl, hB2.trans hb1⟩
        · have hn2i : (2 : Int) ≤ n := by omega
          cases F
          · go_wp2_with fail
            refine (HDR.out _ hB2).mono ?_
            rintro e w1 ⟨rfl, hb1⟩
            go_wp2_with fail
            refine (H1.out _).mono ?_
            rintro e w2 ⟨rfl, rfl⟩
            go_wp2_with fail
            go_ret2
            have := HBAD.out (by rw [if_pos (.inr (by trivial))]; simp)
            rw [HSC.out] at this
            have h4 : E = 4 := by rw [← HEE.out, if_pos (by omega)]
            exact ⟨by rw [h4, this]; rfl, hB2.trans hb1⟩
          · go_wp2_with fail
            refine (HDR.out _ hB2).mono ?_
            rintro e w1 ⟨rfl, hb1⟩
            go_wp2_with fail
            refine (H1.out _).mono ?_
            rintro e w2 ⟨rfl, rfl⟩
            go_wp2_with fail
            obtain ⟨b', h4, h5⟩ := HSTEP.out (by rw [if_neg (fun h => h.elim (fun h => hn2 h.2) (fun h => by cases h))])
            have hit' : w1.heap[w.heap.size]? = some (.stringIter s (pos + n)) := (Bel.block hb1 hlt2).trans HI.out
            refine ⟨⟨pos + n, b', hit', hB2.trans hb1, by omega, by rw [← h5]; exact HSC.out⟩, ?_⟩
            rw [iterPos_of hit', HP.out]
            omega
      · have hei : ((c : Int) == 65533) = false := by simp; omega
        cases F
        · go_wp2_with fail
          refine (H1.out _).mono ?_
          rintro e w2 ⟨rfl, rfl⟩
          go_wp2_with fail
          go_ret2
          have := HBAD.out (by rw [if_pos (.inr (by trivial))]; simp)
          rw [HSC.out] at this
          have h4 : E = 4 := by rw [← HEE.out, if_pos (by omega)]
          exact ⟨by rw [h4, this]; rfl, hB2⟩
        · go_wp2_with fail
          refine (H1.out _).mono ?_
          rintro e w2 ⟨rfl, rfl⟩
          go_wp2_with fail
          obtain ⟨b', h4, h5⟩ := HSTEP.out (by rw [if_neg (fun h => h.elim (fun h => he h.1) (fun h => by cases h))])
          refine ⟨⟨pos + n, b', HI.out, hB2, by omega, by rw [← h5]; exact HSC.out⟩, ?_⟩
          rw [iterPos_of HI.out, HP.out]
          omega
    · have hnx := fun ty => Lib.run_next_end_at (P := Tryz.prog) wr w.heap.size s pos ty hit hp
      have hend := chkF_end s b pos hp
      rw [hsc] at hend
      have hps := Lib.hid hend
      clear hend hsc
      go_wp2_with fail
      go_ret2
      have h4 : E = 0 := by rw [← HEE.out, if_neg (by have := hps.out; omega)]
      exact ⟨by rw [h4, hps.out]; rfl, hB⟩
end Go.Proofs.YtbcdbefogfmhfaaGreatDoor
