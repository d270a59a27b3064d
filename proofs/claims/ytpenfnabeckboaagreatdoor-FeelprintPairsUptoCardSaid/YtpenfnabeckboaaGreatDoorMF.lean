/-
  feellex: digits and numbers at a text's beginning.
  feellex: the sign that a text begins with.
  feellex: the word that a text begins with.
  The walk of utf.Put.
  strconv.ParseUint at four digits to the base 16.
  feellex: escapes.
  feellex: what a \ and what stands behind it tell.
  feellex: the walk of escape.
-/
import Derived.Test.YtpenfnabeckboaaGreatDoorUCA
import Derived.Test.YtpenfnabeckboaaGreatDoorShelf
import Derived.Test.YtpenfnabeckboaaGreatDoorMC
import Derived.Deep.MidRow
import Derived.Test.YtpenfnabeckboaaGreatDoorMR
import Derived.Test.YtpenfnabeckboaaGreatDoorMB
import Derived.IntWalk
import Derived.Laws.BitsAllLaws
import Derived.Maps.OwnSet
import Derived.Deep.RegionHeld3
import Derived.Maps.OwnOps
namespace Go.Proofs.YtpenfnabeckboaaGreatDoor
open Go.RowKit
def dgS : List UInt8 := [48, 49, 50, 51, 52, 53, 54, 55, 56, 57]
def dgC (c : UInt8) : Bool := dgS.contains c
/-- How many digits a text begins with. -/
def digN (s : ByteArray) : Nat := (s.data.toList.takeWhile dgC).length
theorem digN_le (s : ByteArray) : digN s ≤ s.size := by
  have := (List.takeWhile_prefix (l := s.data.toList) dgC).length_le
  simpa [digN] using this
theorem trim_digN (s : ByteArray) : (⟨(Lib.trimLeftS s.data.toList dgS).toArray⟩ : ByteArray).size + digN s = s.size := by
  have h := congrArg List.length (List.takeWhile_append_dropWhile (p := dgC) (l := s.data.toList))
  rw [List.length_append] at h
  show (s.data.toList.dropWhile dgC).length + digN s = s.data.toList.length
  unfold digN
  omega
/-- How many bytes of a number a text begins with. -/
def numN (s : ByteArray) : Nat :=
  if Lib.hasPrefix (s.extract (digN s) s.size).data.toList [46] = true ∧ 0 < digN (s.extract (digN s + 1) s.size) then digN s + 1 + digN (s.extract (digN s + 1) s.size) else digN s
set_option maxHeartbeats 400000 in
theorem digits_c (s : ByteArray) (hs : s.size ≤ 4294967280) (w : World) :
    Calls Tryz.prog 76 #[.string s] w fun e w' => e = .returned (.string (s.extract 0 (digN s))) ∧ Bel w w' := by
  have ht := Tryz.strings_TrimLeft_laid s ⟨dgS.toArray⟩ w (by decide) (by
    intro j b h
    have hm : b ∈ dgS := List.mem_of_getElem? h
    exact (show ∀ b ∈ dgS, b.toNat < 128 by decide) b hm)
  have hle := digN_le s
  have htr := trim_digN s
  rw [show ((⟨dgS.toArray⟩ : ByteArray).data.toList) = dgS from rfl] at ht
  obtain ⟨T, hT⟩ : ∃ T : ByteArray, ⟨(Lib.trimLeftS s.data.toList dgS).toArray⟩ = T := ⟨_, rfl⟩
  rw [hT] at ht htr
  obtain ⟨d, hd⟩ : ∃ d, digN s = d := ⟨_, rfl⟩
  rw [hd] at hle htr ⊢
  have e1 : (s.size : Int) - T.size = d := by omega
  have e2 : (d : Int) ≤ s.size := by omega
  have HT := Lib.hid ht
  clear ht hT hd htr
  go_enter Tryz.func76, Tryz.ntmps76
  go_wp2_with fail
  refine HT.out.mono ?_
  rintro e w1 ⟨rfl, hb⟩
  go_wp2_with fail
  go_ret
  exact ⟨rfl, hb⟩
theorem isEmpty_size (s : ByteArray) (n : Nat) (h : s.size = n) : s.toList.isEmpty = decide (n = 0) := by
  subst h
  rw [Lib.toList_data, Lib.size_eq]
  cases s.data.toList <;> simp
theorem hasPrefix_one (t : ByteArray) (c : UInt8) (h : Lib.hasPrefix t.data.toList [c] = true) : 1 ≤ t.size ∧ (⟨(Lib.trimPrefix t.data.toList [c]).toArray⟩ : ByteArray) = t.extract 1 t.size := by
  unfold Lib.trimPrefix
  rw [if_pos h]
  unfold Lib.hasPrefix at h
  cases hl : t.data.toList with
  | nil => rw [hl] at h; cases h
  | cons x l =>
    constructor
    · rw [Lib.size_eq, hl]; simp
    · apply ByteArray.ext
      apply Array.ext'
      rw [Lib.extract_to_end, hl]
      rfl
set_option maxHeartbeats 1000000 in
theorem number_c (s : ByteArray) (hs : s.size ≤ 4294967280) (w : World) :
    Calls Tryz.prog 43 #[.string s] w fun e w' => e = .returned (.string (s.extract 0 (numN s))) ∧ Bel w w' := by
  have h1 := digits_c s hs w
  have hle := digN_le s
  obtain ⟨K, hK⟩ : ∃ K, numN s = K := ⟨_, rfl⟩
  rw [hK]
  unfold numN at hK
  obtain ⟨d, hd⟩ : ∃ d, digN s = d := ⟨_, rfl⟩
  rw [hd] at h1 hle hK
  have e0 : (s.extract 0 d).size = d := by simp; omega
  have h2 := fun w1 => Tryz.strings_CutPrefix (s.extract d s.size) ⟨#[46]⟩ w1
  obtain ⟨t, ht⟩ : ∃ t, s.extract d s.size = t := ⟨_, rfl⟩
  rw [ht] at h2 hK
  rw [show (⟨#[46]⟩ : ByteArray).data.toList = [46] from rfl] at h2
  have hts : t.size = s.size - d := by rw [← ht]; simp
  obtain ⟨P, hP⟩ : ∃ P, Lib.hasPrefix t.data.toList [46] = P := ⟨_, rfl⟩
  obtain ⟨U, hU⟩ : ∃ U : ByteArray, ⟨(Lib.trimPrefix t.data.toList [46]).toArray⟩ = U := ⟨_, rfl⟩
  rw [hP, hU] at h2
  rw [hP] at hK
  have H1 := Lib.hid h1
  have H2 := Lib.hid h2
  have HK := Lib.hid hK
  have HP := Lib.hid hP
  have HU := Lib.hid hU
  have HT := Lib.hid ht
  have HD := Lib.hid hd
  clear h1 h2 hK hP hU ht hd
  cases P
  · obtain rfl : d = K := by have := HK.out; simpa using this
    go_enter Tryz.func43, Tryz.ntmps43
    go_wp2_with fail
    refine H1.out.mono ?_
    rintro e w1 ⟨rfl, hb1⟩
    have e1 : ((s.extract 0 d).size : Int) = d := by omega
    have e2 : (d : Int) ≤ s.size := by omega
    have HH : Hid (s.extract d s.size = t) := HT
    obtain ⟨q, hq⟩ : ∃ q, s.extract 0 d = q := ⟨_, rfl⟩
    rw [hq] at e1 ⊢
    have ht := HT.out
    have HQ := Lib.hid hq
    clear hq
    go_wp2_with fail
    refine (H2.out _).mono ?_
    rintro e w2 ⟨rfl, rfl⟩
    go_wp2_with fail
    go_ret
    exact ⟨by rw [HQ.out]; rfl, hb1⟩
  · have h3 := hasPrefix_one t 46 HP.out
    rw [HU.out] at h3
    have hU2 : U = s.extract (d + 1) s.size := by
      rw [h3.2, ← HT.out, ByteArray.extract_extract]
      congr 1
      · simp; omega
    have h4 := fun w1 => digits_c U (by rw [hU2]; simp; omega) w1
    have hle2 := digN_le U
    have hK2 : K = if 0 < digN U then d + 1 + digN U else d := by rw [← HK.out, hU2]; simp
    obtain ⟨d2, hd2⟩ : ∃ d2, digN U = d2 := ⟨_, rfl⟩
    rw [hd2] at h4 hle2 hK2
    have hUs : U.size + (d + 1) = s.size := by
      have := h3.1
      rw [h3.2]; simp; omega
    have hv : (U.extract 0 d2).size = d2 := by simp; omega
    have hv2 : (U.extract 0 d2).toList.isEmpty = decide (d2 = 0) := isEmpty_size _ _ hv
    obtain ⟨v, hv0⟩ : ∃ v, U.extract 0 d2 = v := ⟨_, rfl⟩
    rw [hv0] at h4 hv hv2
    have H4 := Lib.hid h4
    have HK2 := Lib.hid hK2
    clear h3 hU2 h4 hK2 hd2 hv0
    go_enter Tryz.func43, Tryz.ntmps43
    go_wp2_with fail
    refine H1.out.mono ?_
    rintro e w1 ⟨rfl, hb1⟩
    have e1 : ((s.extract 0 d).size : Int) = d := by omega
    have e2 : (d : Int) ≤ s.size := by omega
    obtain ⟨q, hq⟩ : ∃ q, s.extract 0 d = q := ⟨_, rfl⟩
    rw [hq] at e1 ⊢
    have ht := HT.out
    have HQ := Lib.hid hq
    clear hq
    go_wp2_with fail
    refine (H2.out _).mono ?_
    rintro e w2 ⟨rfl, rfl⟩
    go_wp2_with fail
    refine (H4.out _).mono ?_
    rintro e w3 ⟨rfl, hb3⟩
    by_cases h0 : d2 = 0
    · rw [decide_eq_true h0] at hv2
      go_wp2_with fail
      go_ret
      have := HK2.out
      rw [if_neg (by omega)] at this
      exact ⟨by rw [this, HQ.out]; rfl, hb1.trans hb3⟩
    · rw [decide_eq_false h0] at hv2
      have e4 : (d : Int) + 1 + d2 ≤ s.size := by omega
      go_wp2_with fail
      go_ret
      have := HK2.out
      rw [if_pos (by omega)] at this
      exact ⟨by rw [this]; rfl, hb1.trans hb3⟩
end Go.Proofs.YtpenfnabeckboaaGreatDoor

namespace Go.Proofs.YtpenfnabeckboaaGreatDoor
open Go.RowKit
/-- The signs, as the program lists them. -/
def signsL : List (List UInt8) := [[42, 42], [60, 61], [62, 61], [33, 61], [46, 46], [43], [45], [42], [47], [60], [62], [61], [40], [41], [91], [93], [123], [125], [44], [58], [46]]
def signsV : List Value := signsL.map fun l => .string ⟨l.toArray⟩
/-- The program's list lies in memory. -/
def SignsAt (w : World) : Prop := w.rangeAt 0 0 signsV
def signIn (s : ByteArray) : List (List UInt8) → List UInt8
  | [] => []
  | x :: l => if Lib.hasPrefix s.data.toList x = true then x else signIn s l
def signS (s : ByteArray) : ByteArray := ⟨(signIn s signsL).toArray⟩
theorem sign_hit (s : ByteArray) (k : Nat) (h : k < signsL.length) (hp : Lib.hasPrefix s.data.toList signsL[k] = true) : signIn s (signsL.drop k) = signsL[k] := by
  rw [List.drop_eq_getElem_cons h, signIn, if_pos hp]
theorem sign_miss (s : ByteArray) (k : Nat) (h : k < signsL.length) (hp : Lib.hasPrefix s.data.toList signsL[k] = false) : signIn s (signsL.drop k) = signIn s (signsL.drop (k + 1)) := by
  rw [List.drop_eq_getElem_cons h, signIn, if_neg (by rw [hp]; simp)]
theorem index_strs (T : TypeId) (n : Nat) (hu : Tryz.prog.underlying T = some (.array n 9)) (w : World) (cs : Array Value) (k : Nat) (hk : k < n) (x : Value) (hx : cs[k]? = some x) :
    (Instr.index T (.agg cs) (.int .i64 (k : Int))).run Tryz.prog w = .ok x w := by
  have h1 : (0 : Int) ≤ k ∧ (k : Int) < n := by omega
  have h2 : (sizeOf 9).run Tryz.prog w = .ok 1 w := by kernel_rfl
  have h3 : (isAgg 9).run Tryz.prog w = .ok false w := by kernel_rfl
  simp only [Instr.index, asIntOf, Sem.run_bind, Sem.run_pure, Result.andThen_ok, run_underlying hu, if_pos h1, h2, part, h3, Int.toNat_natCast, Nat.mul_one]
  simp [hx]
set_option maxRecDepth 100000 in
set_option maxHeartbeats 4000000 in
theorem sign_c (s : ByteArray) (w : World) (hw : SignsAt w) :
    Calls Tryz.prog 45 #[.string s] w fun e w' => e = .returned (.string (signS s)) ∧ w = w' := by
  have hpre := fun x w1 => Tryz.strings_HasPrefix s x w1
  have hidx := fun w1 k (hk : k < 21) x hx => index_strs 101 21 Tryz.underlying101 w1 signsV.toArray k hk x hx
  have HPRE := Lib.hid hpre
  have HIDX := Lib.hid hidx
  have HL : Hid (signsL.length = 21) := Lib.hid rfl
  clear hpre hidx
  obtain ⟨V, hV⟩ : ∃ V, signsV = V := ⟨_, rfl⟩
  rw [hV] at HIDX
  unfold SignsAt at hw
  rw [hV] at hw
  have hVl : V.length = 21 := by rw [← hV]; rfl
  have HW := Lib.hid hw
  have HV := Lib.hid hV
  have HVL := Lib.hid hVl
  clear hw hV hVl
  go_enter Tryz.func45, Tryz.ntmps45
  go_wp2_with (refine wpList_load_mid rfl 101 _ rfl 0 0 rfl V _ HW.out Tryz.underlying101 rfl (by rw [HVL.out]; kernel_rfl) ?_)
  go_loopw [6] (fun i wr => ∃ k : Nat, k ≤ 21 ∧ i = .int .i64 k ∧ w = wr ∧ signIn s (signsL.drop k) = signIn s signsL) (fun i _ => 21 - (intOf i).toNat)
  case atStart => exact ⟨0, by omega, rfl, rfl, rfl⟩
  case round =>
    obtain ⟨k, hk, rfl, rfl, hs⟩ := hrel
    by_cases hk2 : k < 21
    · have hki : (k : Int) < 21 := by omega
      have hkl : k < signsL.length := by rw [HL.out]; exact hk2
      obtain ⟨x, hx⟩ : ∃ x : ByteArray, ⟨signsL[k].toArray⟩ = x := ⟨_, rfl⟩
      have hvx : V.toArray[k]? = some (.string x) := by
        rw [← hx, ← HV.out]; simp [signsV, hkl]
      have hix := HIDX.out w k hk2 _ hvx
      have hpr := HPRE.out x w
      have hxl : x.data.toList = signsL[k] := by rw [← hx]
      obtain ⟨G, hG⟩ : ∃ G, Lib.hasPrefix s.data.toList x.data.toList = G := ⟨_, rfl⟩
      rw [hG] at hpr
      have HX := Lib.hid hx
      have HPR := Lib.hid hpr
      have HG := Lib.hid hG
      have HXL := Lib.hid hxl
      have HS := Lib.hid hs
      have HKL : Hid (k < signsL.length) := Lib.hid hkl
      clear hx hpr hG hxl hs hvx
      cases G
      · go_wp2_with fail
        refine HPR.out.mono ?_
        rintro e w1 ⟨rfl, rfl⟩
        go_wp2_with fail
        refine ⟨⟨k + 1, by omega, by go_num, trivial, ?_⟩, by simp [intOf]; omega⟩
        rw [← HS.out, sign_miss s k hkl (by rw [← HXL.out]; exact HG.out)]
      · go_wp2_with fail
        refine HPR.out.mono ?_
        rintro e w1 ⟨rfl, rfl⟩
        go_wp2_with fail
        go_ret
        refine ⟨?_, rfl⟩
        rw [sign_hit s k hkl (by rw [← HXL.out]; exact HG.out)] at HS
        show Ending.returned (.string x) = _
        rw [signS, ← HS.out, HX.out]
    · obtain rfl : k = 21 := by omega
      go_wp2_with fail
      go_ret
      refine ⟨?_, rfl⟩
      rw [signS, ← hs]
      rfl
end Go.Proofs.YtpenfnabeckboaaGreatDoor

namespace Go.Proofs.YtpenfnabeckboaaGreatDoor
open Go.RowKit
/-- Where the word ends that begins at a text's beginning. -/
def wordF (s : ByteArray) : Nat → Nat → Nat
  | 0, pos => pos
  | b + 1, pos => if pos < s.size then
      if (nextC (Utf8.decode s pos).1 && (decide (pos ≠ 0) || firstC (Utf8.decode s pos).1)) = true then wordF s b (pos + (Utf8.decode s pos).2) else pos
    else pos
def wordN (s : ByteArray) : Nat := wordF s s.size 0
theorem wordF_end (s : ByteArray) (b pos : Nat) (h : ¬ pos < s.size) : wordF s b pos = pos := by
  cases b with
  | zero => rfl
  | succ b => rw [wordF, if_neg h]
theorem wordF_stop (s : ByteArray) (b pos : Nat) (h : pos < s.size) (hb : s.size ≤ pos + b) (h1 : (nextC (Utf8.decode s pos).1 && (decide (pos ≠ 0) || firstC (Utf8.decode s pos).1)) = false) : wordF s b pos = pos := by
  cases b with
  | zero => omega
  | succ b => rw [wordF, if_pos h, if_neg (by rw [h1]; simp)]
theorem wordF_step (s : ByteArray) (b pos : Nat) (h : pos < s.size) (hb : s.size ≤ pos + b) (h1 : (nextC (Utf8.decode s pos).1 && (decide (pos ≠ 0) || firstC (Utf8.decode s pos).1)) = true) : ∃ b', b = b' + 1 ∧ wordF s b pos = wordF s b' (pos + (Utf8.decode s pos).2) := by
  cases b with
  | zero => omega
  | succ b => exact ⟨b, rfl, by rw [wordF, if_pos h, if_pos h1]⟩
theorem extract_all (s : ByteArray) : s.extract 0 s.size = s := by simp
set_option maxHeartbeats 2000000 in
theorem word_f (s : ByteArray) (hs : s.size ≤ 4294967280) (w : World) :
    Calls Tryz.prog 41 #[.string s] w fun e w' => e = .returned (.string (s.extract 0 (wordN s))) ∧ Bel w w' := by
  obtain ⟨R, hR⟩ : ∃ R, wordN s = R := ⟨_, rfl⟩
  rw [hR]
  have HR := Lib.hid hR
  clear hR
  go_enter Tryz.func41, Tryz.ntmps41
  go_wp2
  go_loopw [3] (fun _ wr => ∃ (pos b : Nat), wr.heap[w.heap.size]? = some (.stringIter s pos) ∧ Below w.heap.size w wr ∧ s.size ≤ pos + b ∧ pos ≤ s.size ∧ wordF s b pos = R) (fun _ w' => s.size - w'.iterPos w.heap.size)
  case atStart => exact ⟨0, s.size, World.iter_heap _ _ _, (Below.refl _ _).alloc (Nat.le_refl _) _, by omega, by omega, HR.out⟩
  case round =>
    obtain ⟨pos, b, hit, hB, hb, hpl, hsc⟩ := hrel
    have hpos := iterPos_of hit
    by_cases hp : pos < s.size
    · have hnx := fun ty => Lib.run_next_any_at (P := Tryz.prog) wr w.heap.size s pos ty hit hp
      have hwd := decode_pos s pos hp
      have hft := decode_fits s pos hp
      have hI : (wr.iterAt w.heap.size s (pos + (Utf8.decode s pos).2)).heap[w.heap.size]? = some (.stringIter s (pos + (Utf8.decode s pos).2)) := Lib.iterAt_heap _ _ _ _ _ hit
      have hB2 : Below w.heap.size w (wr.iterAt w.heap.size s (pos + (Utf8.decode s pos).2)) := Lib.below_iterAt hB (Nat.le_refl _) _ _
      have hle := decode_le s pos
      have hstop := wordF_stop s b pos hp hb
      have hstep := wordF_step s b pos hp hb
      obtain ⟨c, n, hcn⟩ : ∃ c n, Utf8.decode s pos = (c, n) := ⟨_, _, rfl⟩
      rw [hcn] at hnx hle hwd hI hB2 hft hstop hstep
      obtain ⟨W, hW⟩ : ∃ W, wr.iterAt w.heap.size s (pos + n) = W := ⟨_, rfl⟩
      simp only [hW] at hnx hle hwd hI hB2 hft hstop hstep
      have hfn : firstC (c : Int) = true → nextC (c : Int) = true := fun h => by unfold nextC; rw [h]; rfl
      obtain ⟨F, hF⟩ : ∃ F, firstC (c : Int) = F := ⟨_, rfl⟩
      obtain ⟨G, hG⟩ : ∃ G, nextC (c : Int) = G := ⟨_, rfl⟩
      rw [hF, hG] at hstop hstep hfn
      have h1 := fun w1 => first_c (c : Int) w1
      have h2 := fun w1 => next_c (c : Int) w1
      rw [hF] at h1
      rw [hG] at h2
      have H1 := Lib.hid h1
      have H2 := Lib.hid h2
      have HSTOP := Lib.hid hstop
      have HSTEP := Lib.hid hstep
      have HSC := Lib.hid hsc
      have HI := Lib.hid hI
      have HP := Lib.hid hpos
      have HFN := Lib.hid hfn
      clear h1 h2 hstop hstep hF hG hcn hI hsc hpos hit hW hfn
      by_cases h0 : pos = 0
      · subst h0
        cases F
        · go_wp2_with fail
          refine (H1.out _).mono ?_
          rintro e w1 ⟨rfl, rfl⟩
          go_wp2_with fail
          go_ret
          have := HSTOP.out (by simp)
          rw [HSC.out] at this
          subst this
          exact ⟨by simp; rfl, hB2⟩
        · have hG : G = true := HFN.out rfl
          subst hG
          go_wp2_with fail
          refine (H1.out _).mono ?_
          rintro e w1 ⟨rfl, rfl⟩
          go_wp2_with fail
          refine (H2.out _).mono ?_
          rintro e w1 ⟨rfl, rfl⟩
          go_wp2_with fail
          obtain ⟨b', h4, h5⟩ := HSTEP.out (by simp)
          refine ⟨⟨0 + n, b', HI.out, hB2, by omega, by omega, by rw [← h5]; exact HSC.out⟩, ?_⟩
          rw [iterPos_of HI.out, HP.out]
          omega
      · have h0i : ((pos : Int) == 0) = false := by simp [h0]
        cases G
        · go_wp2_with fail
          refine (H2.out _).mono ?_
          rintro e w1 ⟨rfl, rfl⟩
          go_wp2_with fail
          go_ret
          have := HSTOP.out (by simp)
          rw [HSC.out] at this
          subst this
          exact ⟨rfl, hB2⟩
        · go_wp2_with fail
          refine (H2.out _).mono ?_
          rintro e w1 ⟨rfl, rfl⟩
          go_wp2_with fail
          obtain ⟨b', h4, h5⟩ := HSTEP.out (by simp [h0])
          refine ⟨⟨pos + n, b', HI.out, hB2, by omega, by omega, by rw [← h5]; exact HSC.out⟩, ?_⟩
          rw [iterPos_of HI.out, HP.out]
          omega
    · have hnx := fun ty => Lib.run_next_end_at (P := Tryz.prog) wr w.heap.size s pos ty hit hp
      have hend := wordF_end s b pos hp
      rw [hsc] at hend
      have hps : R = s.size := by omega
      have HPS := Lib.hid hps
      clear hps hend hsc
      go_wp2_with fail
      go_ret
      exact ⟨by rw [HPS.out, extract_all]; rfl, hB⟩
end Go.Proofs.YtpenfnabeckboaaGreatDoor

namespace Go.Proofs.YtpenfnabeckboaaGreatDoor
open Go.RowKit
theorem runeCells_put (c : Int) (h : fineC c = true) : Lib.runeCells c = u8s (putI c) := by
  have hf : c = 9 ∨ c = 10 ∨ c = 13 ∨ 32 ≤ c ∧ c ≤ 55295 ∨ 57344 ≤ c ∧ c ≤ 65533 ∨ 65536 ≤ c ∧ c ≤ 1114111 := of_decide_eq_true h
  unfold Lib.runeCells u8s
  congr 1
  unfold putI
  by_cases h1 : c < 128
  · rw [if_pos h1, Lib.encodeRuneZ_one (by omega) (by omega)]
  · by_cases h2 : c < 2048
    · rw [if_neg h1, if_pos h2, Lib.encodeRuneZ_two (by omega) (by omega)]
    · by_cases h3 : c < 65536
      · rw [if_neg h1, if_neg h2, if_pos h3, Lib.encodeRuneZ_three (by omega)]
      · rw [if_neg h1, if_neg h2, if_neg h3, Lib.encodeRuneZ_four (by omega) (by omega)]
theorem putI_length (c : Int) : 1 ≤ (putI c).length ∧ (putI c).length ≤ 4 := by
  unfold putI; split
  · simp
  · split
    · simp
    · split <;> simp
set_option maxHeartbeats 800000 in
theorem uput_bad (c : Int) (h : fineC c = false) (w : World) :
    Calls Tryz.prog 106 #[.int .i64 c] w fun e w' => e = .returned (.tuple #[.slice none 0 0, .int .i64 4]) ∧ w = w' := by
  have hf := fun w1 => fine_c c w1
  rw [h] at hf
  have HF := Lib.hid hf
  clear hf h
  go_enter Tryz.func106, Tryz.ntmps106
  go_wp2_with fail
  refine (HF.out _).mono ?_
  rintro e w1 ⟨rfl, rfl⟩
  go_wp2_with fail
  go_ret2
  exact ⟨rfl, rfl⟩
set_option maxHeartbeats 800000 in
theorem uput_fine (c : Int) (h : fineC c = true) (w : World) :
    Calls Tryz.prog 106 #[.int .i64 c] w fun e w' => ∃ v, e = .returned (.tuple #[v, .int .i64 0]) ∧ RowAt w' v (u8s (putI c)) ∧ Bel w w' := by
  have hb : c = 9 ∨ c = 10 ∨ c = 13 ∨ 32 ≤ c ∧ c ≤ 55295 ∨ 57344 ≤ c ∧ c ≤ 65533 ∨ 65536 ≤ c ∧ c ≤ 1114111 := of_decide_eq_true h
  have h0 : 0 ≤ c ∧ c ≤ 1114111 := by omega
  have hf := fun w1 => fine_c c w1
  have hap := Tryz.utf8_AppendRune_plain w.heap.size (.slice none 0 0) 0 [] c (by omega) (by omega) w (World.ownsRow_nil _ _ _ _) (by omega) (Nat.le_refl _)
  rw [runeCells_put c h] at hap
  rw [h] at hf
  obtain ⟨L, hL⟩ : ∃ L, u8s (putI c) = L := ⟨_, rfl⟩
  have hLl : 1 ≤ L.length := by rw [← hL]; simpa [u8s] using (putI_length c).1
  rw [hL] at hap ⊢
  have hw : IntKind.i32.wrap c = c := by rw [IntKind.wrap_i32]; omega
  have HF := Lib.hid hf
  have HAP := Lib.hid hap
  have HL := Lib.hid hLl
  clear hf h hb hap hL hLl
  go_enter Tryz.func106, Tryz.ntmps106
  go_wp2_with fail
  refine (HF.out _).mono ?_
  rintro e w1 ⟨rfl, rfl⟩
  go_wp2_with fail
  refine HAP.out.mono ?_
  rintro e w2 ⟨v, rfl, hown, o, hgr⟩
  have hbel : Bel w w2 := Below.grown (Bel.alloc w o) hgr (by simp) (fun k hk => by simp [Value.ownBlock] at hk)
  have hrow := own_row hown
  have hrow2 : RowAt w2 v L := by
    rcases hrow with ⟨_, h⟩ | h
    · rw [List.nil_append] at h
      have := HL.out; rw [h] at this; simp at this
    · simpa using h
  go_wp2_with fail
  go_ret2
  exact ⟨_, rfl, hrow2, hbel⟩
end Go.Proofs.YtpenfnabeckboaaGreatDoor

namespace Go.Proofs.YtpenfnabeckboaaGreatDoor
open Go.RowKit
/-- A digit to the base 16. -/
def hexC (c : UInt8) : Bool := decide (48 ≤ c.toNat ∧ c.toNat ≤ 57 ∨ 97 ≤ c.toNat ∧ c.toNat ≤ 102 ∨ 65 ≤ c.toNat ∧ c.toNat ≤ 70)
def hexV (c : UInt8) : Nat := if c.toNat ≤ 57 then c.toNat - 48 else if 97 ≤ c.toNat then c.toNat - 87 else c.toNat - 55
def lowV (c : UInt8) : Nat := if 97 ≤ c.toNat then c.toNat else c.toNat + 32
def hexN (l : List UInt8) : Nat := l.foldl (fun n c => 16 * n + hexV c) 0
theorem hexV_lt (c : UInt8) (h : hexC c = true) : hexV c < 16 := by
  have := of_decide_eq_true h
  unfold hexV
  split
  · omega
  · split <;> omega
theorem hexN_snoc (l : List UInt8) (c : UInt8) : hexN (l ++ [c]) = 16 * hexN l + hexV c := by simp [hexN, List.foldl_append]
theorem low_all : ((List.range 256).all fun a => !(decide (97 ≤ a ∧ a ≤ 102 ∨ 65 ≤ a ∧ a ≤ 70)) || (a ||| 32) == (if 97 ≤ a then a else a + 32)) = true := by decide +kernel
theorem low_eq (c : UInt8) (h : hexC c = true) (h2 : 57 < c.toNat) : bits .or .u8 (c.toNat : Int) 32 = (lowV c : Nat) := by
  have hc := of_decide_eq_true h
  have hlt : c.toNat < 256 := c.toNat_lt
  have h1 := u8_or_nat c.toNat 32 hlt (by omega)
  have h3 := List.all_eq_true.1 low_all c.toNat (List.mem_range.2 hlt)
  rw [show ((32 : Nat) : Int) = 32 from rfl] at h1
  rw [h1]
  have h4 : decide (97 ≤ c.toNat ∧ c.toNat ≤ 102 ∨ 65 ≤ c.toNat ∧ c.toNat ≤ 70) = true := decide_eq_true (by omega)
  rw [h4] at h3
  have h5 : (c.toNat ||| 32) = lowV c := by simpa [lowV] using h3
  rw [h5]
set_option maxHeartbeats 400000 in
theorem lower_c (c : UInt8) (h : hexC c = true) (h2 : 57 < c.toNat) (w : World) :
    Calls Tryz.prog 157 #[.int .u8 c.toNat] w fun e w' => e = .returned (.int .u8 (lowV c)) ∧ w = w' := by
  have he := Lib.hid (low_eq c h h2)
  go_enter Tryz.func157, Tryz.ntmps157
  go_wp2_with fail
  go_ret
  exact ⟨by rw [← he.out]; rfl, rfl⟩
set_option maxRecDepth 100000 in
set_option maxHeartbeats 4000000 in
theorem puint_c (s : ByteArray) (h4 : s.size = 4) (hx : s.data.toList.all hexC = true) (w : World) :
    Calls Tryz.prog 136 #[.string s, .int .i64 16, .int .i64 32] w fun e w' => e = .returned (.tuple #[.int .u64 (hexN s.data.toList), .nilIface]) ∧ Bel w w' := by
  have hl4 : s.data.toList.length = 4 := h4
  have hne : s.toList.isEmpty = false := by
    rw [Lib.toList_data]
    cases hl : s.data.toList with
    | nil => rw [hl] at hl4; cases hl4
    | cons x l => rfl
  obtain ⟨R, hR⟩ : ∃ R, hexN s.data.toList = R := ⟨_, rfl⟩
  rw [hR]
  have HR := Lib.hid hR
  have HX := Lib.hid hx
  have HL := Lib.hid hl4
  clear hR hx hl4
  go_enter Tryz.func136, Tryz.ntmps136
  go_wp2_with (refine wpL_bytes rfl 9 54 5 _ rfl s rfl Tryz.underlying9 Tryz.underlying54 Tryz.underlying5 ?_; intro v W1 hv hb1; obtain ⟨b, off, cap, rfl, hlt, hce, hcap⟩ := hv; rw [h4] at hce hcap ⊢; have HCE := Lib.hid hce; clear hce)
  go_loopw [12, 13, 101] (fun u n i wr => ∃ k m : Nat, k ≤ 4 ∧ u = .bool false ∧ n = .int .u64 m ∧ i = .int .i64 k ∧ W1 = wr ∧ m = hexN (s.data.toList.take k) ∧ m < 16 ^ k) (fun _ _ i _ => 4 - (intOf i).toNat)
  case atStart => exact ⟨0, 0, by omega, rfl, rfl, rfl, rfl, rfl, by decide⟩
  case round =>
    obtain ⟨k, m, hk, rfl, rfl, rfl, rfl, hm, hm2⟩ := hrel
    by_cases hk4 : k < 4
    · have hki : (k : Int) < 4 := by omega
      have hkl : k < s.data.toList.length := by rw [HL.out]; exact hk4
      obtain ⟨c, hc⟩ : ∃ c, s.data.toList[k] = c := ⟨_, rfl⟩
      have hxc : hexC c = true := by
        rw [← hc]; exact List.all_eq_true.1 HX.out _ (List.getElem_mem hkl)
      have hcell : W1.cell? ⟨b, off + k, none⟩ = some (.int .u8 c.toNat) := by
        rw [HCE.out k hk4, ← hc, get_bang s k hkl]
        rfl
      have hsn := hexN_snoc (s.data.toList.take k) c
      rw [← hm, ← hc, ← List.take_succ_eq_append_getElem hkl, hc] at hsn
      have hvl := hexV_lt c hxc
      have hm3 : m < 4096 := Nat.lt_of_lt_of_le hm2 (by
        have : (16 : Nat) ^ k ≤ 16 ^ 3 := Nat.pow_le_pow_right (by omega) (by omega)
        simpa using this)
      have hm4 : 16 * m + hexV c < 16 ^ (k + 1) := by rw [Nat.pow_succ]; omega
      have hcc := of_decide_eq_true hxc
      have HSN := Lib.hid hsn
      have HM4 := Lib.hid hm4
      have HXC := Lib.hid hxc
      clear hc hsn hm4 hm hm2 hxc
      obtain ⟨a, ha⟩ : ∃ a, c.toNat = a := ⟨_, rfl⟩
      rw [ha] at hcell hcc
      have n95 : ((a : Int) == 95) = false := by simp; omega
      by_cases hd : a ≤ 57
      · have hv : hexV c = a - 48 := by unfold hexV; rw [ha, if_pos hd]
        have d1 : (48 : Int) ≤ a := by omega
        have d2 : (a : Int) ≤ 57 := by omega
        have HV := Lib.hid hv
        have HA := Lib.hid ha
        have f1 : IntKind.u8.wrap ((a : Int) - 48) = (a : Int) - 48 := by rw [IntKind.wrap_u8]; omega
        have f2 : (a : Int) - 48 < 16 := by omega
        have f3 : (0 : Int) ≤ (a : Int) - 48 := by omega
        have hvl2 := hvl
        rw [hv] at hvl2
        obtain ⟨C, hC, hC2⟩ : ∃ C : Int, (1152921504606846976 : Int) = C ∧ 65536 ≤ C := ⟨_, rfl, by omega⟩
        obtain ⟨M, hM, hM2⟩ : ∃ M : Int, (4294967295 : Int) = M ∧ 65536 ≤ M := ⟨_, rfl, by omega⟩
        rw [hC, hM]
        have g1 : (m : Int) < C := by omega
        have g2 : (m : Int) * 16 + ((a : Int) - 48) ≤ M := by omega
        clear hv ha hvl hcc hb1 hvl2 hC hM
        go_wp2_with fail
        refine ⟨⟨k + 1, 16 * m + hexV c, by omega, rfl, ?_, by go_num, trivial, HSN.out.symm, HM4.out⟩, by simp [intOf]; omega⟩
        rw [HV.out]
        congr 1
        omega
      · have hlo := fun w1 => lower_c c HXC.out (by omega) w1
        rw [ha] at hlo
        have hlv : 97 ≤ lowV c ∧ lowV c ≤ 102 ∧ hexV c + 87 = lowV c := by
          unfold lowV hexV
          rw [ha, if_neg hd]
          split <;> omega
        obtain ⟨l, hl⟩ : ∃ l, lowV c = l := ⟨_, rfl⟩
        rw [hl] at hlv hlo
        have HLO := Lib.hid hlo
        have HLV := Lib.hid hlv
        have HA := Lib.hid ha
        have d1 : (48 : Int) ≤ a := by omega
        have d2 : (57 : Int) < a := by omega
        have d3 : (97 : Int) ≤ l := by omega
        have d4 : (l : Int) ≤ 122 := by omega
        have d5 : (l : Int) - 97 + 10 < 16 := by omega
        have f1 : IntKind.u8.wrap ((l : Int) - 97) = (l : Int) - 97 := by rw [IntKind.wrap_u8]; omega
        have f2 : IntKind.u8.wrap ((l : Int) - 97 + 10) = (l : Int) - 97 + 10 := by rw [IntKind.wrap_u8]; omega
        obtain ⟨C, hC, hC2⟩ : ∃ C : Int, (1152921504606846976 : Int) = C ∧ 65536 ≤ C := ⟨_, rfl, by omega⟩
        obtain ⟨M, hM, hM2⟩ : ∃ M : Int, (4294967295 : Int) = M ∧ 65536 ≤ M := ⟨_, rfl, by omega⟩
        rw [hC, hM]
        have g1 : (m : Int) < C := by omega
        have g2 : (m : Int) * 16 + ((l : Int) - 97 + 10) ≤ M := by omega
        clear ha hvl hcc hb1 hC hM hlo hlv hl
        go_wp2_with (first | (go_at_call 157; refine (HLO.out _).mono ?_; rintro e w1 ⟨rfl, rfl⟩))
        refine ⟨⟨k + 1, 16 * m + hexV c, by omega, rfl, ?_, by go_num, trivial, HSN.out.symm, HM4.out⟩, by simp [intOf]; omega⟩
        have := HLV.out
        congr 1
        omega
    · obtain rfl : k = 4 := by omega
      go_wp2_with fail
      go_ret2
      refine ⟨?_, hb1⟩
      rw [List.take_of_length_le (by rw [HL.out]; omega), HR.out] at hm
      subst hm
      rfl
end Go.Proofs.YtpenfnabeckboaaGreatDoor

namespace Go.Proofs.YtpenfnabeckboaaGreatDoor
open Go.RowKit Go.Maps Go.WideMaps
set_option maxHeartbeats 400000 in
theorem ppuint_c (s : ByteArray) (h4 : s.size = 4) (hx : s.data.toList.all hexC = true) (w : World) :
    Calls Tryz.prog 105 #[.string s, .int .i64 16, .int .i64 32] w fun e w' => e = .returned (.tuple #[.int .u64 (hexN s.data.toList), .nilIface]) ∧ Bel w w' := by
  have h := Lib.hid (puint_c s h4 hx w)
  go_enter Tryz.func105, Tryz.ntmps105
  go_wp2_with fail
  refine h.out.mono ?_
  rintro e w1 ⟨rfl, hb⟩
  go_wp2_with fail
  go_ret2
  exact ⟨rfl, hb⟩
/-- 'm[k] = v' of a literal's entry. -/
def escD : DataW Unit := (((((DataW.map []).put (.int .u8 34) (.lit (.int .u8 34))).put (.int .u8 92) (.lit (.int .u8 92))).put (.int .u8 110) (.lit (.int .u8 10))).put (.int .u8 114) (.lit (.int .u8 13))).put (.int .u8 116) (.lit (.int .u8 9))
set_option maxRecDepth 100000 in
set_option maxHeartbeats 1000000 in
theorem escapes_c (w : World) :
    Calls Tryz.prog 103 #[] w fun e w' => e = .returned (.map (some w.heap.size)) ∧ w'.ownsMap Tryz.prog 5 (plainElem (H := Unit) Tryz.prog 5) w.heap.size 5 escD ∧ Bel w w' := by
  have hmm := @run_makeMap Tryz.prog
  go_enter Tryz.func103, Tryz.ntmps103
  have h0 := World.ownsMap_made w Tryz.prog 5 (plainElem (H := Unit) Tryz.prog 5)
  have b0 : Bel w (w.alloc (.map #[] 0)) := Bel.alloc _ _
  go_wp2_with (refine wpL_insert _ rfl _ _ _ 129 rfl 5 5 (int_keyed Tryz.underlying5) Tryz.underlying129 _ w.heap.size _ _ rfl (by assumption) (by unfold maxLen; omega) _ _ _ rfl rfl (keyOf_int_mk Tryz.underlying5 (by decide)) _ [] (plainElem_int Tryz.underlying5 (by decide)) ?_; intro w1 hown1 hgrow1; have hb1 : Bel w w1 := Below.grown (by assumption) hgrow1 (Bel.size (by assumption)) (fun k e => by cases e; exact Nat.le_refl _); clear hgrow1)
  go_ret
  exact ⟨rfl, by assumption, by assumption⟩
end Go.Proofs.YtpenfnabeckboaaGreatDoor

namespace Go.Proofs.YtpenfnabeckboaaGreatDoor
open Go.RowKit Go.Maps Go.WideMaps
def escV (c : UInt8) : Option UInt8 := if c = 34 then some 34 else if c = 92 then some 92 else if c = 110 then some 10 else if c = 114 then some 13 else if c = 116 then some 9 else none
def putB (c : Int) : ByteArray := ⟨((putI c).map fun x => x.toNat.toUInt8).toArray⟩
/-- What a text that begins with \ tells, and how many bytes it has. -/
def escS (t : ByteArray) : ByteArray × Nat :=
  if t.size < 2 then (⟨#[]⟩, 0) else
    match escV (t.get! 1) with
    | some c => (⟨#[c]⟩, 2)
    | none => if t.get! 1 = 117 ∧ 6 ≤ t.size ∧ (t.extract 2 6).data.toList.all hexC = true then
        if fineC (hexN (t.extract 2 6).data.toList) = true then (putB (hexN (t.extract 2 6).data.toList), 6) else (⟨#[]⟩, 0)
      else (⟨#[]⟩, 0)
theorem esc_all : ((List.range 256).all fun i => (match escD.atKey (.int .u8 (i : Nat)) (.lit (.int .u8 0)) with | .lit (.int .u8 n) => n == (((escV i.toUInt8).getD 0).toNat : Int) | _ => false) && Maps.has escD (.int .u8 (i : Nat)) == (escV i.toUInt8).isSome) = true := by decide +kernel
theorem esc_at (c : UInt8) (k : Int) (h : escD.atKey (.int .u8 c.toNat) (.lit (.int .u8 0)) = .lit (.int .u8 k)) : k = ((escV c).getD 0).toNat := by
  have h1 := List.all_eq_true.1 esc_all c.toNat (List.mem_range.2 c.toNat_lt)
  rw [show c.toNat.toUInt8 = c from by simp, Bool.and_eq_true] at h1
  have h2 := h1.1
  rw [h] at h2
  simpa using h2
theorem esc_has (c : UInt8) : Maps.has escD (.int .u8 c.toNat) = (escV c).isSome := by
  have h1 := List.all_eq_true.1 esc_all c.toNat (List.mem_range.2 c.toNat_lt)
  rw [show c.toNat.toUInt8 = c from by simp, Bool.and_eq_true] at h1
  simpa using h1.2
theorem esc_look (c : UInt8) (w : World) :
    Calls Tryz.prog 103 #[] w fun e w' => e = .returned (.map (some w.heap.size)) ∧ (Instr.lookup 129 (.map (some w.heap.size)) (.int .u8 c.toNat) true).run Tryz.prog w' = .ok (.tuple #[.int .u8 ((escV c).getD 0).toNat, .bool (escV c).isSome]) w' ∧ Bel w w' := by
  refine (escapes_c w).mono ?_
  rintro e w' ⟨rfl, hm, hb⟩
  have hz : (zeroValue 5).run Tryz.prog w' = .ok (.int .u8 0) w' := by kernel_rfl
  obtain ⟨v, ps, hrun, hv⟩ := hm.look_ok (int_keyed Tryz.underlying5) Tryz.underlying129 hz (plainElem_int Tryz.underlying5 (by decide)) (keyOf_int_mk Tryz.underlying5 (a := (c.toNat : Int)) (by have := c.toNat_lt; simp [Lit.wf, IntKind.min, IntKind.max, IntKind.bits, IntKind.signed]; omega))
  obtain ⟨k, rfl, hk, _⟩ := plainElem_int_inv Tryz.underlying5 hv
  have := esc_at c k (congrArg Prod.fst hk)
  rw [this, esc_has] at hrun
  exact ⟨rfl, hrun, hb⟩
def hxS : List UInt8 := [48, 49, 50, 51, 52, 53, 54, 55, 56, 57, 97, 98, 99, 100, 101, 102, 65, 66, 67, 68, 69, 70]
theorem hx_all : ((List.range 256).all fun i => hxS.contains i.toUInt8 == hexC i.toUInt8) = true := by decide +kernel
theorem hx_hexC (c : UInt8) : hxS.contains c = hexC c := by
  have h1 := List.all_eq_true.1 hx_all c.toNat (List.mem_range.2 c.toNat_lt)
  rw [show c.toNat.toUInt8 = c from by simp] at h1
  simpa using h1
theorem dropW_nil {α : Type} (p : α → Bool) : ∀ l : List α, l.dropWhile p = [] ↔ ∀ x ∈ l, p x = true
  | [] => by simp
  | x :: l => by
    rw [List.dropWhile_cons]
    split
    · rename_i h
      rw [dropW_nil p l]
      simp [h]
    · rename_i h
      simp [h]
theorem dropW_idem {α : Type} (p : α → Bool) : ∀ l : List α, (l.dropWhile p).dropWhile p = l.dropWhile p
  | [] => rfl
  | x :: l => by
    rw [List.dropWhile_cons]
    split
    · exact dropW_idem p l
    · rename_i h; rw [List.dropWhile_cons, if_neg h]
theorem trim_hex (l : List UInt8) : (Lib.trimS l hxS).isEmpty = l.all hexC := by
  have hp : (fun x => hxS.contains x) = hexC := funext hx_hexC
  unfold Lib.trimS Lib.trimLeftS Lib.trimRightS
  rw [hp]
  cases h : l.all hexC with
  | true =>
    have h1 : l.reverse.dropWhile hexC = [] := (dropW_nil _ _).2 fun x hx => List.all_eq_true.1 h x (List.mem_reverse.1 hx)
    rw [h1]; rfl
  | false =>
    cases hd : ((l.reverse.dropWhile hexC).reverse.dropWhile hexC) with
    | cons x m => rfl
    | nil =>
      exfalso
      have h2 := (dropW_nil _ _).1 hd
      have h3 : (l.reverse.dropWhile hexC).dropWhile hexC = [] := (dropW_nil _ _).2 fun x hx => h2 x (List.mem_reverse.2 hx)
      rw [dropW_idem] at h3
      have h4 := (dropW_nil _ _).1 h3
      rw [List.all_eq_true.2 fun x hx => h4 x (List.mem_reverse.2 hx)] at h
      cases h
theorem one_byte_f (W : World) (n : Int) (q : UInt8) (h : n = q.toNat) :
    (convert 54 9 (.slice (some ⟨W.heap.size, 0, none⟩) 1 1)).run Tryz.prog (W.alloc (.cells #[.int .u8 n] 5)) = .ok (.string ⟨#[q]⟩) (W.alloc (.cells #[.int .u8 n] 5)) := by
  have := run_convert_bytes_back (P := Tryz.prog) (W.alloc (.cells #[.int .u8 n] 5)) 54 9 5 ⟨W.heap.size, 0, none⟩ 1 [q] Tryz.underlying54 Tryz.underlying5 Tryz.underlying9 (fun j hj => by
    obtain rfl : j = 0 := by simpa using hj
    rw [show (⟨W.heap.size, 0, none⟩ : Addr).add 0 = ⟨W.heap.size, 0, none⟩ from by simp [Addr.add]]
    simp [h])
  exact this
/-- 'string(b)' of a row of a character's bytes. -/
theorem row_string (W : World) (v : Value) (c : Int) (h : fineC c = true) (hv : RowAt W v (u8s (putI c))) : (convert 54 9 v).run Tryz.prog W = .ok (.string (putB c)) W := by
  obtain ⟨b, off, cap, rfl, hcap, hlt, hc⟩ := hv
  have hb : ∀ x ∈ putI c, 0 ≤ x ∧ x < 256 := by
    have hf : c = 9 ∨ c = 10 ∨ c = 13 ∨ 32 ≤ c ∧ c ≤ 55295 ∨ 57344 ≤ c ∧ c ≤ 65533 ∨ 65536 ≤ c ∧ c ≤ 1114111 := of_decide_eq_true h
    intro x hx
    unfold putI at hx
    split at hx
    · obtain rfl := List.mem_singleton.1 hx; omega
    · split at hx
      · simp only [List.mem_cons, List.not_mem_nil, or_false] at hx; omega
      · split at hx
        · simp only [List.mem_cons, List.not_mem_nil, or_false] at hx; omega
        · simp only [List.mem_cons, List.not_mem_nil, or_false] at hx; omega
  have hl : (u8s (putI c)).length = ((putI c).map fun x => x.toNat.toUInt8).length := by simp [u8s]
  rw [hl]
  refine run_convert_bytes_back (P := Tryz.prog) W 54 9 5 ⟨b, off, none⟩ cap _ Tryz.underlying54 Tryz.underlying5 Tryz.underlying9 fun j hj => ?_
  have hj2 : j < (putI c).length := by simpa using hj
  rw [show (⟨b, off, none⟩ : Addr).add j = ⟨b, off + j, none⟩ from by unfold Addr.add; split <;> simp_all, hc j (by rw [hl]; exact hj)]
  have := hb _ (List.getElem_mem hj2)
  simp [u8s]
  omega
end Go.Proofs.YtpenfnabeckboaaGreatDoor

namespace Go.Proofs.YtpenfnabeckboaaGreatDoor
open Go.RowKit Go.Maps Go.WideMaps
theorem isEmpty_list (l : List UInt8) : (⟨l.toArray⟩ : ByteArray).toList.isEmpty = l.isEmpty := by rw [Lib.toList_data]
theorem hexN_lt (l : List UInt8) (h : l.all hexC = true) : hexN l < 16 ^ l.length := by
  have key : ∀ (l : List UInt8) (n m : Nat), l.all hexC = true → n < 16 ^ m → l.foldl (fun n c => 16 * n + hexV c) n < 16 ^ (m + l.length) := by
    intro l
    induction l with
    | nil => intro n m _ h; simpa using h
    | cons x l ih =>
      intro n m h1 h2
      rw [List.all_cons, Bool.and_eq_true] at h1
      have hx := hexV_lt x h1.1
      have := ih (16 * n + hexV x) (m + 1) h1.2 (by rw [Nat.pow_succ]; omega)
      rw [List.foldl_cons, List.length_cons, show m + (l.length + 1) = m + 1 + l.length from by omega]
      exact this
  have := key l 0 0 h (by simp)
  simpa [hexN] using this
set_option maxRecDepth 100000 in
set_option maxHeartbeats 4000000 in
theorem escape_c (t : ByteArray) (ht : t.size ≤ 4294967280) (w : World) :
    Calls Tryz.prog 78 #[.string t] w fun e w' => e = .returned (.tuple #[.string (escS t).1, .int .i64 (escS t).2]) ∧ Bel w w' := by
  obtain ⟨⟨R1, R2⟩, hR⟩ : ∃ R, escS t = R := ⟨_, rfl⟩
  rw [hR]
  unfold escS at hR
  obtain ⟨n, hn⟩ : ∃ n, t.size = n := ⟨_, rfl⟩
  by_cases h2 : n < 2
  · have h2i : (n : Int) < 2 := by omega
    rw [if_pos (by omega)] at hR
    injection hR with e1 e2
    subst e1 e2
    go_enter Tryz.func78, Tryz.ntmps78
    go_wp2_with fail
    go_ret2
    exact ⟨rfl, Bel.refl _⟩
  have h2i : (2 : Int) ≤ n := by omega
  rw [if_neg (by omega)] at hR
  obtain ⟨c, hc⟩ : ∃ c, t.get! 1 = c := ⟨_, rfl⟩
  have hx2 : t[1]'(by omega) = c := by rw [← hc]; exact (get_at t 1 (by omega)).symm
  have hes := fun w1 => esc_look c w1
  obtain ⟨V, hV⟩ : ∃ V, escV c = V := ⟨_, rfl⟩
  rw [hc, hV] at hR
  rw [hV] at hes
  have HN := Lib.hid hn
  clear hc hV
  cases V with
  | some v =>
    simp only [Option.getD_some, Option.isSome_some] at hes
    injection hR with e1 e2
    subst e1 e2
    have HES := Lib.hid hes
    clear hes
    have hcv := fun W => one_byte_f W (v.toNat : Int) v rfl
    go_enter Tryz.func78, Tryz.ntmps78
    go_wp2_with fail
    go_region_held3 (fun w' => True ∧ Bel w w') (((try dsimp only); (try go_split_ands); (refine ⟨?_, ?_⟩ <;> first | assumption | exact Bel.keep (by assumption) (by assumption) | ((repeat (first | exact Bel.refl _ | assumption | refine Bel.to_drewN ?_ _ | refine Bel.to_drew ?_ | refine Bel.to_setCell ?_ (by first | exact Nat.le_refl _ | (simp; done) | (simp; omega) | omega) _ | refine Bel.to_alloc ?_ _ | refine Bel.trans ?_ (by assumption))); done) | (go_keep; done))))
      (first | (go_at_call 103; refine (HES.out _).mono ?_; rintro e w1 ⟨rfl, hlk0, hb1⟩; have hlk : (Instr.lookup 129 (.map (some w.heap.size)) (.int .u8 c.toNat) true).run Tryz.prog w1 = _ := hlk0; clear hlk0))
    all_goals (
      go_wp2_with fail
      go_ret2
      exact ⟨rfl, ((Bel.drew w).trans hb1).to_alloc _⟩)
  | none =>
    simp only [Option.getD_none, Option.isSome_none] at hes hR
    have HES := Lib.hid hes
    clear hes
    by_cases h117 : c = 117
    · have h117i : ((c.toNat : Int) != 117) = false := by rw [h117]; rfl
      have H117 := Lib.hid h117
      clear h117
      by_cases h6 : n < 6
      · have h6i : (n : Int) < 6 := by omega
        rw [if_neg (fun h => by omega)] at hR
        injection hR with e1 e2
        subst e1 e2
        go_enter Tryz.func78, Tryz.ntmps78
        go_wp2_with fail
        go_region_held3 (fun w' => True ∧ Bel w w') (((try dsimp only); (try go_split_ands); (refine ⟨?_, ?_⟩ <;> first | assumption | exact Bel.keep (by assumption) (by assumption) | ((repeat (first | exact Bel.refl _ | assumption | refine Bel.to_drewN ?_ _ | refine Bel.to_drew ?_ | refine Bel.to_setCell ?_ (by first | exact Nat.le_refl _ | (simp; done) | (simp; omega) | omega) _ | refine Bel.to_alloc ?_ _ | refine Bel.trans ?_ (by assumption))); done) | (go_keep; done))))
          (first | (go_at_call 103; refine (HES.out _).mono ?_; rintro e w1 ⟨rfl, hlk0, hb1⟩; have hlk : (Instr.lookup 129 (.map (some w.heap.size)) (.int .u8 c.toNat) true).run Tryz.prog w1 = _ := hlk0; clear hlk0))
        all_goals (
          go_wp2_with fail
          go_ret2
          exact ⟨rfl, (Bel.drew w).trans hb1⟩)
      · have h6i : (6 : Int) ≤ n := by omega
        have hxs : (t.extract 2 6).size = 4 := by simp; omega
        have htr := fun w1 => Tryz.strings_Trim_laid (t.extract 2 6) ⟨hxS.toArray⟩ w1 (by omega) (by decide) (by
          intro j b h
          have hm : b ∈ hxS := List.mem_of_getElem? h
          exact (show ∀ b ∈ hxS, b.toNat < 128 by decide) b hm)
        rw [show ((⟨hxS.toArray⟩ : ByteArray).data.toList) = hxS from rfl] at htr
        have hem := isEmpty_list (Lib.trimS (t.extract 2 6).data.toList hxS)
        rw [trim_hex] at hem
        obtain ⟨x, hx⟩ : ∃ x, t.extract 2 6 = x := ⟨_, rfl⟩
        rw [hx] at hR hxs htr hem
        obtain ⟨T, hT⟩ : ∃ T : ByteArray, ⟨(Lib.trimS x.data.toList hxS).toArray⟩ = T := ⟨_, rfl⟩
        rw [hT] at htr hem
        obtain ⟨P, hP⟩ : ∃ P, x.data.toList.all hexC = P := ⟨_, rfl⟩
        rw [hP] at hR hem
        have HTR := Lib.hid htr
        have HX := Lib.hid hx
        clear htr hT
        cases P with
        | false =>
          rw [if_neg (fun h => by cases h.2.2)] at hR
          injection hR with e1 e2
          subst e1 e2
          clear hP hxs
          go_enter Tryz.func78, Tryz.ntmps78
          go_wp2_with fail
          go_region_held3 (fun w' => True ∧ Bel w w') (((try dsimp only); (try go_split_ands); (refine ⟨?_, ?_⟩ <;> first | assumption | exact Bel.keep (by assumption) (by assumption) | ((repeat (first | exact Bel.refl _ | assumption | refine Bel.to_drewN ?_ _ | refine Bel.to_drew ?_ | refine Bel.to_setCell ?_ (by first | exact Nat.le_refl _ | (simp; done) | (simp; omega) | omega) _ | refine Bel.to_alloc ?_ _ | refine Bel.trans ?_ (by assumption))); done) | (go_keep; done))))
            (first | (go_at_call 103; refine (HES.out _).mono ?_; rintro e w1 ⟨rfl, hlk0, hb1⟩; have hlk : (Instr.lookup 129 (.map (some w.heap.size)) (.int .u8 c.toNat) true).run Tryz.prog w1 = _ := hlk0; clear hlk0))
          all_goals (
            go_wp2_with fail
            refine (HTR.out _).mono ?_
            rintro e w2 ⟨rfl, hb2⟩
            go_wp2_with fail
            go_ret2
            exact ⟨rfl, ((Bel.drew w).trans hb1).trans hb2⟩)
        | true =>
          rw [if_pos ⟨H117.out, by omega, rfl⟩] at hR
          have hpu := fun w1 => ppuint_c x hxs hP w1
          have hml := hexN_lt _ hP
          rw [show x.data.toList.length = 4 from hxs] at hml
          obtain ⟨m, hm⟩ : ∃ m, hexN x.data.toList = m := ⟨_, rfl⟩
          rw [hm] at hR hpu hml
          have hml2 : m < 65536 := by simpa using hml
          have HPU := Lib.hid hpu
          clear hP hxs hpu hm hml
          cases hf : fineC (m : Int) with
          | false =>
            have hpt := fun w1 => uput_bad (m : Int) hf w1
            rw [if_neg (by rw [hf]; simp)] at hR
            injection hR with e1 e2
            subst e1 e2
            have HPT := Lib.hid hpt
            clear hpt hf
            go_enter Tryz.func78, Tryz.ntmps78
            go_wp2_with fail
            go_region_held3 (fun w' => True ∧ Bel w w') (((try dsimp only); (try go_split_ands); (refine ⟨?_, ?_⟩ <;> first | assumption | exact Bel.keep (by assumption) (by assumption) | ((repeat (first | exact Bel.refl _ | assumption | refine Bel.to_drewN ?_ _ | refine Bel.to_drew ?_ | refine Bel.to_setCell ?_ (by first | exact Nat.le_refl _ | (simp; done) | (simp; omega) | omega) _ | refine Bel.to_alloc ?_ _ | refine Bel.trans ?_ (by assumption))); done) | (go_keep; done))))
              (first | (go_at_call 103; refine (HES.out _).mono ?_; rintro e w1 ⟨rfl, hlk0, hb1⟩; have hlk : (Instr.lookup 129 (.map (some w.heap.size)) (.int .u8 c.toNat) true).run Tryz.prog w1 = _ := hlk0; clear hlk0))
            all_goals (
              go_wp2_with fail
              refine (HTR.out _).mono ?_
              rintro e w2 ⟨rfl, hb2⟩
              go_wp2_with fail
              refine (HPU.out _).mono ?_
              rintro e w3 ⟨rfl, hb3⟩
              go_wp2_with fail
              refine (HPT.out _).mono ?_
              rintro e w4 ⟨rfl, rfl⟩
              go_wp2_with fail
              go_ret2
              exact ⟨rfl, (((Bel.drew w).trans hb1).trans hb2).trans hb3⟩)
          | true =>
            have hpt := fun w1 => uput_fine (m : Int) hf w1
            have hrs := fun W v hv => row_string W v (m : Int) hf hv
            rw [if_pos hf] at hR
            injection hR with e1 e2
            subst e1 e2
            have HPT := Lib.hid hpt
            have HRS := Lib.hid hrs
            clear hpt hf hrs
            go_enter Tryz.func78, Tryz.ntmps78
            go_wp2_with fail
            go_region_held3 (fun w' => True ∧ Bel w w') (((try dsimp only); (try go_split_ands); (refine ⟨?_, ?_⟩ <;> first | assumption | exact Bel.keep (by assumption) (by assumption) | ((repeat (first | exact Bel.refl _ | assumption | refine Bel.to_drewN ?_ _ | refine Bel.to_drew ?_ | refine Bel.to_setCell ?_ (by first | exact Nat.le_refl _ | (simp; done) | (simp; omega) | omega) _ | refine Bel.to_alloc ?_ _ | refine Bel.trans ?_ (by assumption))); done) | (go_keep; done))))
              (first | (go_at_call 103; refine (HES.out _).mono ?_; rintro e w1 ⟨rfl, hlk0, hb1⟩; have hlk : (Instr.lookup 129 (.map (some w.heap.size)) (.int .u8 c.toNat) true).run Tryz.prog w1 = _ := hlk0; clear hlk0))
            all_goals (
              go_wp2_with fail
              refine (HTR.out _).mono ?_
              rintro e w2 ⟨rfl, hb2⟩
              go_wp2_with fail
              refine (HPU.out _).mono ?_
              rintro e w3 ⟨rfl, hb3⟩
              go_wp2_with fail
              refine (HPT.out _).mono ?_
              rintro e w4 ⟨v, rfl, hv, hb4⟩
              have hcv := HRS.out w4 v hv
              obtain ⟨b, off, cap, rfl, _, _, _⟩ := hv
              go_wp2_with fail
              go_ret2
              exact ⟨rfl, ((((Bel.drew w).trans hb1).trans hb2).trans hb3).trans hb4⟩)
    · have h117i : ((c.toNat : Int) != 117) = true := by
        simp only [bne_iff_ne, ne_eq]
        intro h
        exact h117 (UInt8.toNat_inj.1 (by rw [show (117 : UInt8).toNat = 117 from rfl]; omega))
      rw [if_neg (fun h => h117 h.1)] at hR
      injection hR with e1 e2
      subst e1 e2
      go_enter Tryz.func78, Tryz.ntmps78
      go_wp2_with fail
      go_region_held3 (fun w' => True ∧ Bel w w') (((try dsimp only); (try go_split_ands); (refine ⟨?_, ?_⟩ <;> first | assumption | exact Bel.keep (by assumption) (by assumption) | ((repeat (first | exact Bel.refl _ | assumption | refine Bel.to_drewN ?_ _ | refine Bel.to_drew ?_ | refine Bel.to_setCell ?_ (by first | exact Nat.le_refl _ | (simp; done) | (simp; omega) | omega) _ | refine Bel.to_alloc ?_ _ | refine Bel.trans ?_ (by assumption))); done) | (go_keep; done))))
        (first | (go_at_call 103; refine (HES.out _).mono ?_; rintro e w1 ⟨rfl, hlk0, hb1⟩; have hlk : (Instr.lookup 129 (.map (some w.heap.size)) (.int .u8 c.toNat) true).run Tryz.prog w1 = _ := hlk0; clear hlk0))
      all_goals (
        go_wp2_with fail
        go_ret2
        exact ⟨rfl, (Bel.drew w).trans hb1⟩)
end Go.Proofs.YtpenfnabeckboaaGreatDoor
