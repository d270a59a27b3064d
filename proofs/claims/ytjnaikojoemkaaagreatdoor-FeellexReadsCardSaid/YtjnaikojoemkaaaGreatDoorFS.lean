/-
  feellex: the document's answer: text.
-/
import Derived.Test.YtjnaikojoemkaaaGreatDoorFR
import Derived.Test.YtjnaikojoemkaaaGreatDoorP
namespace Go.Proofs.YtjnaikojoemkaaaGreatDoor
open Go.RowKit

/-- What stands behind a \, by the document: the character's number (-1: none), how many bytes. -/
def rescS (s : ByteArray) (k : Nat) : Int × Nat :=
  if k + 1 < s.size then
    match escV (s.get! (k + 1)) with
    | some c => (c.toNat, 2)
    | none => if s.get! (k + 1) = 117 then (hexI s (k + 2), 6) else (-1, 2)
  else (-1, 2)
theorem escV_fine : ((List.range 256).all fun i => match escV i.toUInt8 with | some c => fineC c.toNat && ((putI c.toNat).map fun x => x.toNat.toUInt8) == [c] | none => true) = true := by decide +kernel
theorem escV_put (a c : UInt8) (h : escV a = some c) : fineC c.toNat = true ∧ putB c.toNat = ⟨#[c]⟩ := by
  have h1 := List.all_eq_true.1 escV_fine a.toNat (List.mem_range.2 a.toNat_lt)
  rw [show a.toNat.toUInt8 = a from by simp, h, Bool.and_eq_true] at h1
  refine ⟨h1.1, ?_⟩
  unfold putB
  rw [beq_iff_eq.1 h1.2]
theorem get_tail (s : ByteArray) (k j : Nat) (h : k + j < s.size) : (s.extract k s.size).get! j = s.get! (k + j) := get_extract s k j h
theorem fine_neg : fineC (-1) = false := by decide +kernel
theorem esc_same (s : ByteArray) (k : Nat) (hk : k < s.size) : escS (s.extract k s.size) = if fineC (rescS s k).1 = true then (putB (rescS s k).1, (rescS s k).2) else (⟨#[]⟩, 0) := by
  have hsz : (s.extract k s.size).size = s.size - k := by simp
  unfold escS rescS
  by_cases h1 : k + 1 < s.size
  · rw [if_neg (by omega), if_pos h1, get_tail s k 1 h1]
    cases hv : escV (s.get! (k + 1)) with
    | some c =>
      obtain ⟨h2, h3⟩ := escV_put _ _ hv
      simp only
      rw [if_pos h2, h3]
    | none =>
      simp only
      by_cases h117 : s.get! (k + 1) = 117
      · rw [if_pos h117]
        have hl : ((s.extract k s.size).extract 2 6).data.toList = (s.data.toList.drop (k + 2)).take 4 := by
          rw [show (6 : Nat) = 2 + 4 from rfl, extract_piece, tail_list, List.drop_drop]
        have hL : (s.data.toList.drop (k + 2)).length = s.size - (k + 2) := by simp
        rw [hl]
        unfold hexI
        simp only
        by_cases h4 : 4 ≤ (s.data.toList.drop (k + 2)).length ∧ ((s.data.toList.drop (k + 2)).take 4).all hexC = true
        · rw [if_pos ⟨h117, by omega, h4.2⟩, if_pos h4]
        · rw [if_neg (fun h => h4 ⟨by have := h.2.1; omega, h.2.2⟩), if_neg h4, if_neg (by rw [fine_neg]; decide)]
      · rw [if_neg h117, if_neg (fun h => h117 h.1), if_neg (by rw [fine_neg]; decide)]
  · rw [if_pos (by omega), if_neg h1]
    simp only
    rw [if_neg (by rw [fine_neg]; decide)]
theorem esc_good (s : ByteArray) (k : Nat) (hk : k < s.size) {C : Int} {n : Nat} (h : rescS s k = (C, n)) (hf : fineC C = true) : escS (s.extract k s.size) = (putB C, n) := by
  rw [esc_same s k hk, h, if_pos hf]
theorem esc_bad (s : ByteArray) (k : Nat) (hk : k < s.size) {C : Int} {n : Nat} (h : rescS s k = (C, n)) (hf : fineC C = false) : escS (s.extract k s.size) = (⟨#[]⟩, 0) := by
  rw [esc_same s k hk, h, if_neg (by rw [hf]; decide)]
/-- The cases of what stands behind a \, as the document's answer asks them. -/
theorem resc_cases (s : ByteArray) (k : Nat) (q : UInt8) (hq : s.get! (k + 1) = q) (h1 : k + 1 < s.size) :
    (((q.toNat : Int) == 34) = true ∧ rescS s k = ((q.toNat : Int), 2)) ∨
    (((q.toNat : Int) == 34) = false ∧ ((q.toNat : Int) == 92) = true ∧ rescS s k = ((q.toNat : Int), 2)) ∨
    (((q.toNat : Int) == 34) = false ∧ ((q.toNat : Int) == 92) = false ∧ ((q.toNat : Int) == 110) = true ∧ rescS s k = (10, 2)) ∨
    (((q.toNat : Int) == 34) = false ∧ ((q.toNat : Int) == 92) = false ∧ ((q.toNat : Int) == 110) = false ∧ ((q.toNat : Int) == 114) = true ∧ rescS s k = (13, 2)) ∨
    (((q.toNat : Int) == 34) = false ∧ ((q.toNat : Int) == 92) = false ∧ ((q.toNat : Int) == 110) = false ∧ ((q.toNat : Int) == 114) = false ∧ ((q.toNat : Int) == 116) = true ∧ rescS s k = (9, 2)) ∨
    (((q.toNat : Int) == 34) = false ∧ ((q.toNat : Int) == 92) = false ∧ ((q.toNat : Int) == 110) = false ∧ ((q.toNat : Int) == 114) = false ∧ ((q.toNat : Int) == 116) = false ∧ ((q.toNat : Int) == 117) = true ∧ rescS s k = (hexI s (k + 2), 6)) ∨
    (((q.toNat : Int) == 34) = false ∧ ((q.toNat : Int) == 92) = false ∧ ((q.toNat : Int) == 110) = false ∧ ((q.toNat : Int) == 114) = false ∧ ((q.toNat : Int) == 116) = false ∧ ((q.toNat : Int) == 117) = false ∧ rescS s k = (-1, 2)) := by
  have e : ∀ n : Nat, n < 256 → (((q.toNat : Int) == n) = true ↔ q = UInt8.ofNat n) := fun n hn => by
    rw [beq_iff_eq]
    constructor
    · intro h
      apply UInt8.toNat_inj.1
      simp
      omega
    · intro h
      rw [h]
      simp
      omega
  have f : ∀ n : Nat, n < 256 → (((q.toNat : Int) == n) = false ↔ q ≠ UInt8.ofNat n) := fun n hn => by
    rw [Bool.eq_false_iff, ne_eq, e n hn]
  unfold rescS
  rw [if_pos h1, hq]
  have E := fun n hn => e n hn
  by_cases a34 : q = 34
  · left; exact ⟨(e 34 (by omega)).2 a34, by subst a34; rfl⟩
  have n34 := (f 34 (by omega)).2 a34
  by_cases a92 : q = 92
  · right; left; exact ⟨n34, (e 92 (by omega)).2 a92, by subst a92; rfl⟩
  have n92 := (f 92 (by omega)).2 a92
  by_cases a110 : q = 110
  · right; right; left; exact ⟨n34, n92, (e 110 (by omega)).2 a110, by subst a110; rfl⟩
  have n110 := (f 110 (by omega)).2 a110
  by_cases a114 : q = 114
  · right; right; right; left; exact ⟨n34, n92, n110, (e 114 (by omega)).2 a114, by subst a114; rfl⟩
  have n114 := (f 114 (by omega)).2 a114
  by_cases a116 : q = 116
  · right; right; right; right; left; exact ⟨n34, n92, n110, n114, (e 116 (by omega)).2 a116, by subst a116; rfl⟩
  have n116 := (f 116 (by omega)).2 a116
  have hno : escV q = none := by unfold escV; rw [if_neg a34, if_neg a92, if_neg a110, if_neg a114, if_neg a116]
  rw [hno]
  by_cases a117 : q = 117
  · right; right; right; right; right; left; exact ⟨n34, n92, n110, n114, n116, (e 117 (by omega)).2 a117, by rw [if_pos a117]⟩
  · right; right; right; right; right; right; exact ⟨n34, n92, n110, n114, n116, (f 117 (by omega)).2 a117, by rw [if_neg a117]⟩

theorem hexI_le (s : ByteArray) (k : Nat) : -1 ≤ hexI s k ∧ hexI s k ≤ 65535 := by
  unfold hexI
  split
  · rename_i h
    have h1 := hexN_lt _ h.2
    have h2 : ((s.data.toList.drop k).take 4).length ≤ 4 := List.length_take_le _ _
    have h3 := Nat.lt_of_lt_of_le h1 (Nat.pow_le_pow_right (n := 16) (by omega) h2)
    constructor <;> omega
  · decide
/-- What the document's text answers, from what the program's answers. -/
def rtextR (i : Nat) (T : ByteArray × Nat × Nat) : Value := .tuple #[.string T.1, .int .i64 (if T.2.2 = 0 then (i + T.2.1 : Nat) else 0 : Nat), .int .i64 (if T.2.2 = 0 then 0 else (i + T.2.1 : Nat) : Nat), .int .i64 T.2.2]
theorem textF_bad (s : ByteArray) : ∀ b pos acc, (textF s b pos acc).2.2 ≠ 0 → (textF s b pos acc).1 = ⟨#[]⟩
  | 0, _, _, _ => rfl
  | b + 1, pos, acc, h => by
    unfold textF at h ⊢
    split at h
    · rename_i hp
      rw [if_pos hp]
      split at h
      · exact absurd rfl h
      · rename_i h34
        rw [if_neg h34]
        split at h
        · rename_i h92
          rw [if_pos h92]
          split at h
          · rename_i h0
            rw [if_pos h0]
          · rename_i h0
            rw [if_neg h0]
            exact textF_bad s b _ _ h
        · rename_i h92
          rw [if_neg h92]
          exact textF_bad s b _ _ h
    · rename_i hp
      rw [if_neg hp]

set_option maxRecDepth 100000 in
set_option maxHeartbeats 8000000 in
theorem rtext_c (s : ByteArray) (hs : s.size ≤ 4294967280) (i : Nat) (hi : i < s.size) (w : World) :
    Calls Tryz.prog 22 #[.string s, .int .i64 i] w (RetBel (rtextR i (textS (s.extract i s.size))) w) := by
  have hxs : (s.extract i s.size).size = s.size - i := by simp
  obtain ⟨⟨R1, R2, R3⟩, hR⟩ : ∃ R, textS (s.extract i s.size) = R := ⟨_, rfl⟩
  rw [hR]
  unfold textS at hR
  have HR := Lib.hid hR
  have HG : Hid (∀ k, i ≤ k → k < s.size → (s.extract i s.size).get! (k - i) = s.get! k) := Lib.hid fun k h1 h2 => by
    rw [get_tail s i (k - i) (by omega)]; congr 1; omega
  have HTL : Hid (∀ k, i ≤ k → k ≤ s.size → (s.extract i s.size).extract (k - i) (s.extract i s.size).size = s.extract k s.size) := Lib.hid fun k h1 h2 => by
    rw [extract_tail s i (k - i) (by omega)]; congr 1; omega
  obtain ⟨x, hx⟩ : ∃ x, s.extract i s.size = x := ⟨_, rfl⟩
  rw [hx] at hxs HR HG HTL
  have HRX : Hid (textF x x.size 1 [] = (R1, R2, R3)) := HR
  clear hR hx HR
  go_enter Tryz.func22, Tryz.ntmps22
  go_wp2_with fail
  go_loopw [8, 9] (fun out k wr => ∃ (q b : Nat) (acc : List UInt8), i < q ∧ q ≤ s.size ∧ k = .int .i64 q ∧ out = .string ⟨acc.toArray⟩ ∧ Bel w wr ∧ acc.length ≤ 4 * (q - i) ∧ x.size ≤ (q - i) + b ∧ textF x b (q - i) acc = (R1, R2, R3)) (fun _ k _ => s.size - (intOf k).toNat)
  case atStart => exact ⟨i + 1, x.size, [], by omega, by omega, by go_num, rfl, Bel.refl _, by simp, by omega, by rw [show i + 1 - i = 1 from by omega]; exact HRX.out⟩
  case round =>
    obtain ⟨q, b, acc, hiq, hql, rfl, rfl, hbel, hal, hb, hsc⟩ := hrel
    by_cases hp : q < s.size
    · have hpi : (q : Int) < s.size := by omega
      obtain ⟨b', rfl, hst⟩ := textF_step x b (q - i) acc (by omega) hb
      rw [hsc, HG.out q (by omega) hp, HTL.out q (by omega) hql] at hst
      obtain ⟨c, hc⟩ : ∃ c, s.get! q = c := ⟨_, rfl⟩
      have hx2 : s[q]'hp = c := by rw [← hc]; exact (get_at s q hp).symm
      rw [hc] at hst
      have hq1 : q + 1 ≤ s.size := hp
      by_cases h34 : c = 34
      · have e34 : ((c.toNat : Int) == 34) = true := by rw [h34]; rfl
        rw [if_pos h34] at hst
        have HST := Lib.hid hst
        clear hst hc hsc h34
        go_wp2_with fail
        refine bodyPost_ret (v := .tuple #[.string ⟨acc.toArray⟩, .int .i64 ((q : Int) + 1), .int .i64 0, .int .i64 0]) (by simp [results, Tryz.results22, go_sem]) rfl ?_
        have := HST.out
        injection this with e1 e2
        injection e2 with e2 e3
        subst e1 e2 e3
        refine ⟨?_, hbel⟩
        unfold rtextR
        rw [if_pos (by rfl), if_pos (by rfl)]
        rw [show i + (q - i + 1) = q + 1 from by omega]
        rfl
      · have e34 : ((c.toNat : Int) == 34) = false := by
          simp only [beq_eq_false_iff_ne, ne_eq]
          intro h
          exact h34 (UInt8.toNat_inj.1 (by rw [show (34 : UInt8).toNat = 34 from rfl]; omega))
        rw [if_neg h34] at hst
        by_cases h92 : c = 92
        · have e92 : ((c.toNat : Int) == 92) = true := by rw [h92]; rfl
          have e92' : ((c.toNat : Int) != 92) = false := by rw [h92]; rfl
          rw [if_pos h92] at hst
          clear hc hsc h34 h92
          by_cases h1 : q + 1 < s.size
          · have h1i : (q : Int) + 1 < s.size := by omega
            obtain ⟨p, hpp⟩ : ∃ p, s.get! (q + 1) = p := ⟨_, rfl⟩
            have hx3 : s[q + 1]'h1 = p := by rw [← hpp]; exact (get_at s (q + 1) h1).symm
            have hcases := resc_cases s q p hpp h1
            have hpc := p.toNat_lt
            have hfit : fineC (rescS s q).1 = true → q + (rescS s q).2 ≤ s.size := fun h => by
              have h2 := (escS_size (s.extract q s.size)).1
              rw [esc_same s q hp, if_pos h] at h2
              simp at h2
              omega
            clear hpp
            rcases hcases with ⟨tq, hr⟩ | ⟨t1, tq, hr⟩ | ⟨t1, t2, tq, hr⟩ | ⟨t1, t2, t3, tq, hr⟩ | ⟨t1, t2, t3, t4, tq, hr⟩ | ⟨t1, t2, t3, t4, t5, tq, hr⟩ | ⟨t1, t2, t3, t4, t5, tq, hr⟩
            · clear hfit
              have hf : fineC p.toNat = true := (by rw [beq_iff_eq.1 tq]; decide +kernel)
              rw [esc_good s q hp hr hf] at hst
              simp only at hst
              rw [if_neg (show ¬ (2 : Nat) = 0 by decide)] at hst
              have hbd := fine_bounds hf
              have HFI : Hid (∀ w1, Calls Tryz.prog 42 #[.int .i64 (p.toNat)] w1 fun e w' => e = .returned (.bool true) ∧ w1 = w') := Lib.hid fun w1 => by have := rfine_c (p.toNat) w1; rwa [hf] at this
              have HPU := Lib.hid fun w1 => rput_c (p.toNat) hbd.1 hbd.2 w1
              have HRS := Lib.hid fun W v hv => row_string W v (p.toNat) hf hv
              have hpl : (putB (p.toNat)).size ≤ 4 := by unfold putB; show (List.toArray _).size ≤ 4; have := (putI_length (p.toNat)).2; simpa using this
              obtain ⟨y, hy⟩ : ∃ y, putB (p.toNat) = y := ⟨_, rfl⟩
              rw [hy] at hst HRS hpl
              obtain ⟨o, ho⟩ : ∃ o : ByteArray, ⟨acc.toArray⟩ = o := ⟨_, rfl⟩
              have hos : o.size ≤ 17179869120 := by rw [← ho]; show acc.toArray.size ≤ _; simp; omega
              have hcat : o ++ y = ⟨(acc ++ y.data.toList).toArray⟩ := by rw [← ho]; apply ByteArray.ext; simp
              rw [ho]
              have f10 : (o ++ y).size ≤ maxLen := by rw [ByteArray.size_append]; unfold maxLen; omega
              have HST := Lib.hid hst
              have HCAT := Lib.hid hcat
              have hyl : y.data.toList.length ≤ 4 := hpl
              obtain ⟨hb1, hb2⟩ := hbd
              clear hst hr hf hy ho hcat
              go_wp2_with fail
              refine (HFI.out _).mono ?_
              rintro e w2 ⟨rfl, rfl⟩
              go_wp2_with fail
              refine (HPU.out _).mono ?_
              rintro e w3 ⟨v, rfl, hrow, hb3⟩
              have hcv := HRS.out w3 v hrow
              obtain ⟨vb, vo, vc, rfl, _, _, _⟩ := hrow
              go_wp2_with fail
              exact ⟨⟨q + 2, b', acc ++ y.data.toList, by omega, by omega, by go_num, str_eq HCAT.out, hbel.trans hb3, by rw [List.length_append]; omega, by omega, by rw [show q + 2 - i = q - i + 2 from by omega]; exact HST.out.symm⟩, by simp [intOf]; omega⟩
            · clear hfit
              have hf : fineC p.toNat = true := (by rw [beq_iff_eq.1 tq]; decide +kernel)
              rw [esc_good s q hp hr hf] at hst
              simp only at hst
              rw [if_neg (show ¬ (2 : Nat) = 0 by decide)] at hst
              have hbd := fine_bounds hf
              have HFI : Hid (∀ w1, Calls Tryz.prog 42 #[.int .i64 (p.toNat)] w1 fun e w' => e = .returned (.bool true) ∧ w1 = w') := Lib.hid fun w1 => by have := rfine_c (p.toNat) w1; rwa [hf] at this
              have HPU := Lib.hid fun w1 => rput_c (p.toNat) hbd.1 hbd.2 w1
              have HRS := Lib.hid fun W v hv => row_string W v (p.toNat) hf hv
              have hpl : (putB (p.toNat)).size ≤ 4 := by unfold putB; show (List.toArray _).size ≤ 4; have := (putI_length (p.toNat)).2; simpa using this
              obtain ⟨y, hy⟩ : ∃ y, putB (p.toNat) = y := ⟨_, rfl⟩
              rw [hy] at hst HRS hpl
              obtain ⟨o, ho⟩ : ∃ o : ByteArray, ⟨acc.toArray⟩ = o := ⟨_, rfl⟩
              have hos : o.size ≤ 17179869120 := by rw [← ho]; show acc.toArray.size ≤ _; simp; omega
              have hcat : o ++ y = ⟨(acc ++ y.data.toList).toArray⟩ := by rw [← ho]; apply ByteArray.ext; simp
              rw [ho]
              have f10 : (o ++ y).size ≤ maxLen := by rw [ByteArray.size_append]; unfold maxLen; omega
              have HST := Lib.hid hst
              have HCAT := Lib.hid hcat
              have hyl : y.data.toList.length ≤ 4 := hpl
              obtain ⟨hb1, hb2⟩ := hbd
              clear hst hr hf hy ho hcat
              go_wp2_with fail
              refine (HFI.out _).mono ?_
              rintro e w2 ⟨rfl, rfl⟩
              go_wp2_with fail
              refine (HPU.out _).mono ?_
              rintro e w3 ⟨v, rfl, hrow, hb3⟩
              have hcv := HRS.out w3 v hrow
              obtain ⟨vb, vo, vc, rfl, _, _, _⟩ := hrow
              go_wp2_with fail
              exact ⟨⟨q + 2, b', acc ++ y.data.toList, by omega, by omega, by go_num, str_eq HCAT.out, hbel.trans hb3, by rw [List.length_append]; omega, by omega, by rw [show q + 2 - i = q - i + 2 from by omega]; exact HST.out.symm⟩, by simp [intOf]; omega⟩
            · clear hfit
              have hf : fineC 10 = true := (by decide +kernel)
              rw [esc_good s q hp hr hf] at hst
              simp only at hst
              rw [if_neg (show ¬ (2 : Nat) = 0 by decide)] at hst
              have hbd := fine_bounds hf
              have HFI : Hid (∀ w1, Calls Tryz.prog 42 #[.int .i64 (10)] w1 fun e w' => e = .returned (.bool true) ∧ w1 = w') := Lib.hid fun w1 => by have := rfine_c (10) w1; rwa [hf] at this
              have HPU := Lib.hid fun w1 => rput_c (10) hbd.1 hbd.2 w1
              have HRS := Lib.hid fun W v hv => row_string W v (10) hf hv
              have hpl : (putB (10)).size ≤ 4 := by unfold putB; show (List.toArray _).size ≤ 4; have := (putI_length (10)).2; simpa using this
              obtain ⟨y, hy⟩ : ∃ y, putB (10) = y := ⟨_, rfl⟩
              rw [hy] at hst HRS hpl
              obtain ⟨o, ho⟩ : ∃ o : ByteArray, ⟨acc.toArray⟩ = o := ⟨_, rfl⟩
              have hos : o.size ≤ 17179869120 := by rw [← ho]; show acc.toArray.size ≤ _; simp; omega
              have hcat : o ++ y = ⟨(acc ++ y.data.toList).toArray⟩ := by rw [← ho]; apply ByteArray.ext; simp
              rw [ho]
              have f10 : (o ++ y).size ≤ maxLen := by rw [ByteArray.size_append]; unfold maxLen; omega
              have HST := Lib.hid hst
              have HCAT := Lib.hid hcat
              have hyl : y.data.toList.length ≤ 4 := hpl
              obtain ⟨hb1, hb2⟩ := hbd
              clear hst hr hf hy ho hcat
              go_wp2_with fail
              refine (HFI.out _).mono ?_
              rintro e w2 ⟨rfl, rfl⟩
              go_wp2_with fail
              refine (HPU.out _).mono ?_
              rintro e w3 ⟨v, rfl, hrow, hb3⟩
              have hcv := HRS.out w3 v hrow
              obtain ⟨vb, vo, vc, rfl, _, _, _⟩ := hrow
              go_wp2_with fail
              exact ⟨⟨q + 2, b', acc ++ y.data.toList, by omega, by omega, by go_num, str_eq HCAT.out, hbel.trans hb3, by rw [List.length_append]; omega, by omega, by rw [show q + 2 - i = q - i + 2 from by omega]; exact HST.out.symm⟩, by simp [intOf]; omega⟩
            · clear hfit
              have hf : fineC 13 = true := (by decide +kernel)
              rw [esc_good s q hp hr hf] at hst
              simp only at hst
              rw [if_neg (show ¬ (2 : Nat) = 0 by decide)] at hst
              have hbd := fine_bounds hf
              have HFI : Hid (∀ w1, Calls Tryz.prog 42 #[.int .i64 (13)] w1 fun e w' => e = .returned (.bool true) ∧ w1 = w') := Lib.hid fun w1 => by have := rfine_c (13) w1; rwa [hf] at this
              have HPU := Lib.hid fun w1 => rput_c (13) hbd.1 hbd.2 w1
              have HRS := Lib.hid fun W v hv => row_string W v (13) hf hv
              have hpl : (putB (13)).size ≤ 4 := by unfold putB; show (List.toArray _).size ≤ 4; have := (putI_length (13)).2; simpa using this
              obtain ⟨y, hy⟩ : ∃ y, putB (13) = y := ⟨_, rfl⟩
              rw [hy] at hst HRS hpl
              obtain ⟨o, ho⟩ : ∃ o : ByteArray, ⟨acc.toArray⟩ = o := ⟨_, rfl⟩
              have hos : o.size ≤ 17179869120 := by rw [← ho]; show acc.toArray.size ≤ _; simp; omega
              have hcat : o ++ y = ⟨(acc ++ y.data.toList).toArray⟩ := by rw [← ho]; apply ByteArray.ext; simp
              rw [ho]
              have f10 : (o ++ y).size ≤ maxLen := by rw [ByteArray.size_append]; unfold maxLen; omega
              have HST := Lib.hid hst
              have HCAT := Lib.hid hcat
              have hyl : y.data.toList.length ≤ 4 := hpl
              obtain ⟨hb1, hb2⟩ := hbd
              clear hst hr hf hy ho hcat
              go_wp2_with fail
              refine (HFI.out _).mono ?_
              rintro e w2 ⟨rfl, rfl⟩
              go_wp2_with fail
              refine (HPU.out _).mono ?_
              rintro e w3 ⟨v, rfl, hrow, hb3⟩
              have hcv := HRS.out w3 v hrow
              obtain ⟨vb, vo, vc, rfl, _, _, _⟩ := hrow
              go_wp2_with fail
              exact ⟨⟨q + 2, b', acc ++ y.data.toList, by omega, by omega, by go_num, str_eq HCAT.out, hbel.trans hb3, by rw [List.length_append]; omega, by omega, by rw [show q + 2 - i = q - i + 2 from by omega]; exact HST.out.symm⟩, by simp [intOf]; omega⟩
            · clear hfit
              have hf : fineC 9 = true := (by decide +kernel)
              rw [esc_good s q hp hr hf] at hst
              simp only at hst
              rw [if_neg (show ¬ (2 : Nat) = 0 by decide)] at hst
              have hbd := fine_bounds hf
              have HFI : Hid (∀ w1, Calls Tryz.prog 42 #[.int .i64 (9)] w1 fun e w' => e = .returned (.bool true) ∧ w1 = w') := Lib.hid fun w1 => by have := rfine_c (9) w1; rwa [hf] at this
              have HPU := Lib.hid fun w1 => rput_c (9) hbd.1 hbd.2 w1
              have HRS := Lib.hid fun W v hv => row_string W v (9) hf hv
              have hpl : (putB (9)).size ≤ 4 := by unfold putB; show (List.toArray _).size ≤ 4; have := (putI_length (9)).2; simpa using this
              obtain ⟨y, hy⟩ : ∃ y, putB (9) = y := ⟨_, rfl⟩
              rw [hy] at hst HRS hpl
              obtain ⟨o, ho⟩ : ∃ o : ByteArray, ⟨acc.toArray⟩ = o := ⟨_, rfl⟩
              have hos : o.size ≤ 17179869120 := by rw [← ho]; show acc.toArray.size ≤ _; simp; omega
              have hcat : o ++ y = ⟨(acc ++ y.data.toList).toArray⟩ := by rw [← ho]; apply ByteArray.ext; simp
              rw [ho]
              have f10 : (o ++ y).size ≤ maxLen := by rw [ByteArray.size_append]; unfold maxLen; omega
              have HST := Lib.hid hst
              have HCAT := Lib.hid hcat
              have hyl : y.data.toList.length ≤ 4 := hpl
              obtain ⟨hb1, hb2⟩ := hbd
              clear hst hr hf hy ho hcat
              go_wp2_with fail
              refine (HFI.out _).mono ?_
              rintro e w2 ⟨rfl, rfl⟩
              go_wp2_with fail
              refine (HPU.out _).mono ?_
              rintro e w3 ⟨v, rfl, hrow, hb3⟩
              have hcv := HRS.out w3 v hrow
              obtain ⟨vb, vo, vc, rfl, _, _, _⟩ := hrow
              go_wp2_with fail
              exact ⟨⟨q + 2, b', acc ++ y.data.toList, by omega, by omega, by go_num, str_eq HCAT.out, hbel.trans hb3, by rw [List.length_append]; omega, by omega, by rw [show q + 2 - i = q - i + 2 from by omega]; exact HST.out.symm⟩, by simp [intOf]; omega⟩
            · have HHX : Hid (∀ w1, Calls Tryz.prog 41 #[.string s, .int .i64 ((q : Int) + 2)] w1 fun e w' => e = .returned (.int .i64 (hexI s (q + 2))) ∧ w1 = w') := Lib.hid fun w1 => rhex_c s hs (q + 2) (by omega) w1
              have hhi := hexI_le s (q + 2)
              obtain ⟨H, hH⟩ : ∃ H, hexI s (q + 2) = H := ⟨_, rfl⟩
              rw [hH] at hr hhi HHX
              clear hH
              obtain ⟨hh1, hh2⟩ := hhi
              by_cases hneg : H < 0
              · have hf : fineC H = false := by rw [show H = -1 from by omega]; exact fine_neg
                clear hfit
                rw [esc_bad s q hp hr hf, if_pos rfl] at hst
                have HST := Lib.hid hst
                clear hst hr hf
                obtain ⟨o, ho⟩ : ∃ o : ByteArray, ⟨acc.toArray⟩ = o := ⟨_, rfl⟩
                rw [ho]
                clear ho
                go_wp2_with fail
                refine (HHX.out _).mono ?_
                rintro e w2 ⟨rfl, rfl⟩
                go_wp2_with fail
                refine bodyPost_ret (v := .tuple #[.string ⟨#[]⟩, .int .i64 0, .int .i64 q, .int .i64 11]) (by simp [results, Tryz.results22, go_sem]) rfl ?_
                have := HST.out
                injection this with e1 e2
                injection e2 with e2 e3
                subst e1 e2 e3
                refine ⟨?_, hbel⟩
                unfold rtextR
                rw [if_neg (show ¬ (11 : Nat) = 0 by decide), if_neg (show ¬ (11 : Nat) = 0 by decide)]
                rw [show i + (q - i) = q from by omega]
                rfl
              · have hneg2 : 0 ≤ H := by omega
                cases hf : fineC H
                · clear hfit
                  have HFI : Hid (∀ w1, Calls Tryz.prog 42 #[.int .i64 H] w1 fun e w' => e = .returned (.bool false) ∧ w1 = w') := Lib.hid fun w1 => by have := rfine_c H w1; rwa [hf] at this
                  rw [esc_bad s q hp hr hf, if_pos rfl] at hst
                  have HST := Lib.hid hst
                  clear hst hr hf
                  obtain ⟨o, ho⟩ : ∃ o : ByteArray, ⟨acc.toArray⟩ = o := ⟨_, rfl⟩
                  rw [ho]
                  clear ho
                  go_wp2_with fail
                  refine (HHX.out _).mono ?_
                  rintro e w2 ⟨rfl, rfl⟩
                  go_wp2_with fail
                  refine (HFI.out _).mono ?_
                  rintro e w2 ⟨rfl, rfl⟩
                  go_wp2_with fail
                  refine bodyPost_ret (v := .tuple #[.string ⟨#[]⟩, .int .i64 0, .int .i64 q, .int .i64 11]) (by simp [results, Tryz.results22, go_sem]) rfl ?_
                  have := HST.out
                  injection this with e1 e2
                  injection e2 with e2 e3
                  subst e1 e2 e3
                  refine ⟨?_, hbel⟩
                  unfold rtextR
                  rw [if_neg (show ¬ (11 : Nat) = 0 by decide), if_neg (show ¬ (11 : Nat) = 0 by decide)]
                  rw [show i + (q - i) = q from by omega]
                  rfl
                · have hq6 : q + 6 ≤ s.size := by have := hfit (by rw [hr]; exact hf); rw [hr] at this; exact this
                  clear hfit
                  rw [esc_good s q hp hr hf] at hst
                  simp only at hst
                  rw [if_neg (show ¬ (6 : Nat) = 0 by decide)] at hst
                  have hbd := fine_bounds hf
                  have HFI : Hid (∀ w1, Calls Tryz.prog 42 #[.int .i64 (H)] w1 fun e w' => e = .returned (.bool true) ∧ w1 = w') := Lib.hid fun w1 => by have := rfine_c (H) w1; rwa [hf] at this
                  have HPU := Lib.hid fun w1 => rput_c (H) hbd.1 hbd.2 w1
                  have HRS := Lib.hid fun W v hv => row_string W v (H) hf hv
                  have hpl : (putB (H)).size ≤ 4 := by unfold putB; show (List.toArray _).size ≤ 4; have := (putI_length (H)).2; simpa using this
                  obtain ⟨y, hy⟩ : ∃ y, putB (H) = y := ⟨_, rfl⟩
                  rw [hy] at hst HRS hpl
                  obtain ⟨o, ho⟩ : ∃ o : ByteArray, ⟨acc.toArray⟩ = o := ⟨_, rfl⟩
                  have hos : o.size ≤ 17179869120 := by rw [← ho]; show acc.toArray.size ≤ _; simp; omega
                  have hcat : o ++ y = ⟨(acc ++ y.data.toList).toArray⟩ := by rw [← ho]; apply ByteArray.ext; simp
                  rw [ho]
                  have f10 : (o ++ y).size ≤ maxLen := by rw [ByteArray.size_append]; unfold maxLen; omega
                  have HST := Lib.hid hst
                  have HCAT := Lib.hid hcat
                  have hyl : y.data.toList.length ≤ 4 := hpl
                  obtain ⟨hb1, hb2⟩ := hbd
                  clear hst hr hf hy ho hcat
                  go_wp2_with fail
                  refine (HHX.out _).mono ?_
                  rintro e w2 ⟨rfl, rfl⟩
                  go_wp2_with fail
                  refine (HFI.out _).mono ?_
                  rintro e w2 ⟨rfl, rfl⟩
                  go_wp2_with fail
                  refine (HPU.out _).mono ?_
                  rintro e w3 ⟨v, rfl, hrow, hb3⟩
                  have hcv := HRS.out w3 v hrow
                  obtain ⟨vb, vo, vc, rfl, _, _, _⟩ := hrow
                  go_wp2_with fail
                  exact ⟨⟨q + 6, b', acc ++ y.data.toList, by omega, by omega, by go_num, str_eq HCAT.out, hbel.trans hb3, by rw [List.length_append]; omega, by omega, by rw [show q + 6 - i = q - i + 6 from by omega]; exact HST.out.symm⟩, by simp [intOf]; omega⟩
            · clear hfit
              rw [esc_bad s q hp hr fine_neg, if_pos rfl] at hst
              have HST := Lib.hid hst
              clear hst hr
              obtain ⟨o, ho⟩ : ∃ o : ByteArray, ⟨acc.toArray⟩ = o := ⟨_, rfl⟩
              rw [ho]
              clear ho
              go_wp2_with fail
              refine bodyPost_ret (v := .tuple #[.string ⟨#[]⟩, .int .i64 0, .int .i64 q, .int .i64 11]) (by simp [results, Tryz.results22, go_sem]) rfl ?_
              have := HST.out
              injection this with e1 e2
              injection e2 with e2 e3
              subst e1 e2 e3
              refine ⟨?_, hbel⟩
              unfold rtextR
              rw [if_neg (show ¬ (11 : Nat) = 0 by decide), if_neg (show ¬ (11 : Nat) = 0 by decide)]
              rw [show i + (q - i) = q from by omega]
              rfl
          · have h1i : ¬ (q : Int) + 1 < s.size := by omega
            have hr : rescS s q = (-1, 2) := by unfold rescS; rw [if_neg h1]
            rw [esc_bad s q hp hr fine_neg, if_pos rfl] at hst
            have HST := Lib.hid hst
            clear hst hr
            obtain ⟨o, ho⟩ : ∃ o : ByteArray, ⟨acc.toArray⟩ = o := ⟨_, rfl⟩
            rw [ho]
            clear ho
            go_wp2_with fail
            refine bodyPost_ret (v := .tuple #[.string ⟨#[]⟩, .int .i64 0, .int .i64 q, .int .i64 11]) (by simp [results, Tryz.results22, go_sem]) rfl ?_
            have := HST.out
            injection this with e1 e2
            injection e2 with e2 e3
            subst e1 e2 e3
            refine ⟨?_, hbel⟩
            unfold rtextR
            rw [if_neg (show ¬ (11 : Nat) = 0 by decide), if_neg (show ¬ (11 : Nat) = 0 by decide)]
            rw [show i + (q - i) = q from by omega]
            rfl
        · have e92 : ((c.toNat : Int) == 92) = false := by
            simp only [beq_eq_false_iff_ne, ne_eq]
            intro h
            exact h92 (UInt8.toNat_inj.1 (by rw [show (92 : UInt8).toNat = 92 from rfl]; omega))
          have e92' : ((c.toNat : Int) != 92) = true := by simp [bne, e92]
          rw [if_neg h92] at hst
          have hbe := byte_extract s q hp
          rw [hc] at hbe
          have hesz : (s.extract q (q + 1)).size = 1 := by simp; omega
          obtain ⟨y, hy⟩ : ∃ y, s.extract q (q + 1) = y := ⟨_, rfl⟩
          rw [hy] at hbe hesz
          have hcat : (⟨acc.toArray⟩ : ByteArray) ++ y = ⟨(acc ++ [c]).toArray⟩ := by rw [hbe]; apply ByteArray.ext; simp
          obtain ⟨o, ho⟩ : ∃ o : ByteArray, ⟨acc.toArray⟩ = o := ⟨_, rfl⟩
          have hos : o.size ≤ 17179869120 := by rw [← ho]; show acc.toArray.size ≤ _; simp; omega
          rw [ho] at hcat ⊢
          have f10 : (o ++ y).size ≤ maxLen := by rw [ByteArray.size_append, hesz]; unfold maxLen; omega
          have HST := Lib.hid hst
          have HCAT := Lib.hid hcat
          clear hst hc hsc h34 h92 hbe ho hcat
          go_wp2_with fail
          exact ⟨⟨q + 1, b', acc ++ [c], by omega, by omega, by go_num, str_eq HCAT.out, hbel, by simp; omega, by omega, by rw [show q + 1 - i = q - i + 1 from by omega]; exact HST.out.symm⟩, by simp [intOf]; omega⟩
    · obtain rfl : q = s.size := by omega
      have hend := textF_end x b (s.size - i) acc (by omega)
      rw [hsc] at hend
      injection hend with e1 e2
      injection e2 with e2 e3
      subst e1 e2 e3
      clear hsc
      go_wp2_with fail
      refine bodyPost_ret (v := .tuple #[.string ⟨#[]⟩, .int .i64 0, .int .i64 s.size, .int .i64 10]) (by simp [results, Tryz.results22, go_sem]) rfl ?_
      refine ⟨?_, hbel⟩
      unfold rtextR
      rw [if_neg (show ¬ (10 : Nat) = 0 by decide), if_neg (show ¬ (10 : Nat) = 0 by decide)]
      rw [show i + x.size = s.size from by omega]
      rfl
end Go.Proofs.YtjnaikojoemkaaaGreatDoor
