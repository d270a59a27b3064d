/-
  feellex: digits and numbers at a text's beginning.
-/
import Derived.Test.YtjnaikojoemkaaaDoorShelf
import Derived.Test.YtjnaikojoemkaaaDoorC
namespace Go.Proofs.YtjnaikojoemkaaaDoor
open Go.RowKit

def dgS : List UInt8 := [48, 49, 50, 51, 52, 53, 54, 55, 56, 57]
def dgC (c : UInt8) : Bool := dgS.contains c
/-- How many digits a text begins with. -/
def digN (s : ByteArray) : Nat := (s.data.toList.takeWhile dgC).length
theorem digN_le (s : ByteArray) : digN s ≤ s.size := by
  have := (List.takeWhile_prefix (l := s.data.toList) dgC).length_le
  simpa [digN] using this
theorem trim_digN (s : ByteArray) : (⟨(Lib.trimLeftS s.data.toList dgS).toArray⟩ : ByteArray).size + digN s = s.size := by
  have h := congrArg List.length (List.takeWhile_append_dropWhile (p := dgC) (l := s.data.toList))
  rw [List.length_append] at h
  show (s.data.toList.dropWhile dgC).length + digN s = s.data.toList.length
  unfold digN
  omega
/-- How many bytes of a number a text begins with. -/
def numN (s : ByteArray) : Nat :=
  if Lib.hasPrefix (s.extract (digN s) s.size).data.toList [46] = true ∧ 0 < digN (s.extract (digN s + 1) s.size) then digN s + 1 + digN (s.extract (digN s + 1) s.size) else digN s

set_option maxHeartbeats 400000 in
theorem digits_c (s : ByteArray) (hs : s.size ≤ 4294967280) (w : World) :
    Calls Tryd.prog 33 #[.string s] w fun e w' => e = .returned (.string (s.extract 0 (digN s))) ∧ Bel w w' := by
  have ht := Tryd.strings_TrimLeft_laid s ⟨dgS.toArray⟩ w (by decide) (by
    intro j b h
    have hm : b ∈ dgS := List.mem_of_getElem? h
    exact (show ∀ b ∈ dgS, b.toNat < 128 by decide) b hm)
  have hle := digN_le s
  have htr := trim_digN s
  rw [show ((⟨dgS.toArray⟩ : ByteArray).data.toList) = dgS from rfl] at ht
  obtain ⟨T, hT⟩ : ∃ T : ByteArray, ⟨(Lib.trimLeftS s.data.toList dgS).toArray⟩ = T := ⟨_, rfl⟩
  rw [hT] at ht htr
  obtain ⟨d, hd⟩ : ∃ d, digN s = d := ⟨_, rfl⟩
  rw [hd] at hle htr ⊢
  have e1 : (s.size : Int) - T.size = d := by omega
  have e2 : (d : Int) ≤ s.size := by omega
  have HT := Lib.hid ht
  clear ht hT hd htr
  go_enter Tryd.func33, Tryd.ntmps33
  go_wp2_with fail
  refine HT.out.mono ?_
  rintro e w1 ⟨rfl, hb⟩
  go_wp2_with fail
  go_ret
  exact ⟨rfl, hb⟩

theorem isEmpty_size (s : ByteArray) (n : Nat) (h : s.size = n) : s.toList.isEmpty = decide (n = 0) := by
  subst h
  rw [Lib.toList_data, Lib.size_eq]
  cases s.data.toList <;> simp
theorem hasPrefix_one (t : ByteArray) (c : UInt8) (h : Lib.hasPrefix t.data.toList [c] = true) : 1 ≤ t.size ∧ (⟨(Lib.trimPrefix t.data.toList [c]).toArray⟩ : ByteArray) = t.extract 1 t.size := by
  unfold Lib.trimPrefix
  rw [if_pos h]
  unfold Lib.hasPrefix at h
  cases hl : t.data.toList with
  | nil => rw [hl] at h; cases h
  | cons x l =>
    constructor
    · rw [Lib.size_eq, hl]; simp
    · apply ByteArray.ext
      apply Array.ext'
      rw [Lib.extract_to_end, hl]
      rfl

set_option maxHeartbeats 1000000 in
theorem number_c (s : ByteArray) (hs : s.size ≤ 4294967280) (w : World) :
    Calls Tryd.prog 21 #[.string s] w fun e w' => e = .returned (.string (s.extract 0 (numN s))) ∧ Bel w w' := by
  have h1 := digits_c s hs w
  have hle := digN_le s
  obtain ⟨K, hK⟩ : ∃ K, numN s = K := ⟨_, rfl⟩
  rw [hK]
  unfold numN at hK
  obtain ⟨d, hd⟩ : ∃ d, digN s = d := ⟨_, rfl⟩
  rw [hd] at h1 hle hK
  have e0 : (s.extract 0 d).size = d := by simp; omega
  have h2 := fun w1 => Tryd.strings_CutPrefix (s.extract d s.size) ⟨#[46]⟩ w1
  obtain ⟨t, ht⟩ : ∃ t, s.extract d s.size = t := ⟨_, rfl⟩
  rw [ht] at h2 hK
  rw [show (⟨#[46]⟩ : ByteArray).data.toList = [46] from rfl] at h2
  have hts : t.size = s.size - d := by rw [← ht]; simp
  obtain ⟨P, hP⟩ : ∃ P, Lib.hasPrefix t.data.toList [46] = P := ⟨_, rfl⟩
  obtain ⟨U, hU⟩ : ∃ U : ByteArray, ⟨(Lib.trimPrefix t.data.toList [46]).toArray⟩ = U := ⟨_, rfl⟩
  rw [hP, hU] at h2
  rw [hP] at hK
  have H1 := Lib.hid h1
  have H2 := Lib.hid h2
  have HK := Lib.hid hK
  have HP := Lib.hid hP
  have HU := Lib.hid hU
  have HT := Lib.hid ht
  have HD := Lib.hid hd
  clear h1 h2 hK hP hU ht hd
  cases P
  · obtain rfl : d = K := by have := HK.out; simpa using this
    go_enter Tryd.func21, Tryd.ntmps21
    go_wp2_with fail
    refine H1.out.mono ?_
    rintro e w1 ⟨rfl, hb1⟩
    have e1 : ((s.extract 0 d).size : Int) = d := by omega
    have e2 : (d : Int) ≤ s.size := by omega
    have HH : Hid (s.extract d s.size = t) := HT
    obtain ⟨q, hq⟩ : ∃ q, s.extract 0 d = q := ⟨_, rfl⟩
    rw [hq] at e1 ⊢
    have ht := HT.out
    have HQ := Lib.hid hq
    clear hq
    go_wp2_with fail
    refine (H2.out _).mono ?_
    rintro e w2 ⟨rfl, rfl⟩
    go_wp2_with fail
    go_ret
    exact ⟨by rw [HQ.out]; rfl, hb1⟩
  · have h3 := hasPrefix_one t 46 HP.out
    rw [HU.out] at h3
    have hU2 : U = s.extract (d + 1) s.size := by
      rw [h3.2, ← HT.out, ByteArray.extract_extract]
      congr 1
      · simp; omega
    have h4 := fun w1 => digits_c U (by rw [hU2]; simp; omega) w1
    have hle2 := digN_le U
    have hK2 : K = if 0 < digN U then d + 1 + digN U else d := by rw [← HK.out, hU2]; simp
    obtain ⟨d2, hd2⟩ : ∃ d2, digN U = d2 := ⟨_, rfl⟩
    rw [hd2] at h4 hle2 hK2
    have hUs : U.size + (d + 1) = s.size := by
      have := h3.1
      rw [h3.2]; simp; omega
    have hv : (U.extract 0 d2).size = d2 := by simp; omega
    have hv2 : (U.extract 0 d2).toList.isEmpty = decide (d2 = 0) := isEmpty_size _ _ hv
    obtain ⟨v, hv0⟩ : ∃ v, U.extract 0 d2 = v := ⟨_, rfl⟩
    rw [hv0] at h4 hv hv2
    have H4 := Lib.hid h4
    have HK2 := Lib.hid hK2
    clear h3 hU2 h4 hK2 hd2 hv0
    go_enter Tryd.func21, Tryd.ntmps21
    go_wp2_with fail
    refine H1.out.mono ?_
    rintro e w1 ⟨rfl, hb1⟩
    have e1 : ((s.extract 0 d).size : Int) = d := by omega
    have e2 : (d : Int) ≤ s.size := by omega
    obtain ⟨q, hq⟩ : ∃ q, s.extract 0 d = q := ⟨_, rfl⟩
    rw [hq] at e1 ⊢
    have ht := HT.out
    have HQ := Lib.hid hq
    clear hq
    go_wp2_with fail
    refine (H2.out _).mono ?_
    rintro e w2 ⟨rfl, rfl⟩
    go_wp2_with fail
    refine (H4.out _).mono ?_
    rintro e w3 ⟨rfl, hb3⟩
    by_cases h0 : d2 = 0
    · rw [decide_eq_true h0] at hv2
      go_wp2_with fail
      go_ret
      have := HK2.out
      rw [if_neg (by omega)] at this
      exact ⟨by rw [this, HQ.out]; rfl, hb1.trans hb3⟩
    · rw [decide_eq_false h0] at hv2
      have e4 : (d : Int) + 1 + d2 ≤ s.size := by omega
      go_wp2_with fail
      go_ret
      have := HK2.out
      rw [if_pos (by omega)] at this
      exact ⟨by rw [this]; rfl, hb1.trans hb3⟩
end Go.Proofs.YtjnaikojoemkaaaDoor
