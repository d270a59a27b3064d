/-
  The walks of the document's answer for names: Plain, Split.
-/
import Derived.Test.YtfmhpeinikidfaaDoorJ
namespace Go.Proofs.YtfmhpeinikidfaaDoor
open Go.RowKit

theorem row_ne {W : World} {v : Value} {xs : List Value} (h : RowAt0 W v xs) (hx : xs ≠ []) : RowAt W v xs := by
  rcases h with ⟨_, h⟩ | h
  · exact absurd h hx
  · exact h

/-- The first one by p, the others by q. -/
def listS (p q : Int → Bool) : List Int → Bool
  | [] => false
  | c :: l => p c && l.all q
def charsB (p q : Int → Bool) (s : ByteArray) : Bool :=
  match charsS s with
  | none => false
  | some l => listS p q l
def rplainS (s : ByteArray) : Bool := charsB firstC partC s

theorem charsF_length (s : ByteArray) : ∀ b pos l, charsF s b pos = some l → l.length ≤ b
  | 0, pos, l, h => by simp [charsF] at h; simp [h]
  | b + 1, pos, l, h => by
    unfold charsF at h
    split at h
    · split at h
      · cases h
      · obtain ⟨l', h1, rfl⟩ := Option.map_eq_some_iff.1 h
        have := charsF_length s b _ l' h1
        simp; omega
    · simp at h; simp [h]
theorem charsS_length (s : ByteArray) (l : List Int) (h : charsS s = some l) : l.length ≤ s.size := charsF_length s _ _ l h

theorem retB_eq {a b : Bool} {w w' : World} (h : a = b) (hb : Bel w w') : Ending.returned (.bool a) = .returned (.bool b) ∧ Bel w w' := ⟨by rw [h], hb⟩

set_option maxHeartbeats 1000000 in
theorem rplain_c (s : ByteArray) (hs : s.size ≤ 4294967280) (w : World) :
    Calls Tryd.prog 13 #[.string s] w fun e w' => e = .returned (.bool (rplainS s)) ∧ Bel w w' := by
  have hc := chars_c s hs w
  unfold rplainS charsB
  rcases hr : charsS s with _ | ⟨_ | ⟨c, l⟩⟩
  · rw [hr] at hc
    have HC := Lib.hid hc
    clear hc hr
    show Calls _ _ _ _ fun e w' => e = .returned (.bool false) ∧ Bel w w'
    go_enter Tryd.func13, Tryd.ntmps13
    go_wp2_with (go_at_call 28; refine HC.out.mono ?_; rintro e w1 ⟨hb, rfl⟩)
    go_ret
    exact ⟨rfl, by assumption⟩
  · rw [hr] at hc
    have HC := Lib.hid hc
    clear hc hr
    show Calls _ _ _ _ fun e w' => e = .returned (.bool false) ∧ Bel w w'
    go_enter Tryd.func13, Tryd.ntmps13
    go_wp2_with (go_at_call 28; refine HC.out.mono ?_; rintro e w1 ⟨hb, v, rfl, ⟨rfl, _⟩ | ⟨b, off, cap, rfl, _⟩⟩)
    all_goals go_ret
    all_goals exact ⟨rfl, by assumption⟩
  · have hlen := charsS_length s _ hr
    rw [hr] at hc
    have HC := Lib.hid hc
    obtain ⟨L, hL⟩ : ∃ L, c :: l = L := ⟨_, rfl⟩
    obtain ⟨R, hR⟩ : ∃ R, listS firstC partC (c :: l) = R := ⟨_, rfl⟩
    show Calls _ _ _ _ fun e w' => e = .returned (.bool (listS firstC partC (c :: l))) ∧ Bel w w'
    rw [hR]
    have HR := Lib.hid hR
    obtain ⟨n, hn⟩ : ∃ n, (i64s (c :: l)).length = n := ⟨_, rfl⟩
    have hn1 : n = l.length + 1 := by rw [← hn]; simp [i64s]
    have hn2 : n ≤ 4294967280 := by simp at hlen; omega
    have hn3 : (0 : Int) < n := by omega
    have hn4 : ((n : Int) == 0) = false := by simp; omega
    have HN := Lib.hid hn1
    have HNN := Lib.hid hn
    clear hc hr hL hR hlen hn1 hn L
    have hf := fun w1 => rfirst_c c w1
    obtain ⟨F, hF⟩ : ∃ F, firstC c = F := ⟨_, rfl⟩
    rw [hF] at hf
    have HF := Lib.hid hf
    have HFF := Lib.hid hF
    clear hf hF
    cases F
    · go_enter Tryd.func13, Tryd.ntmps13
      go_wp2_with (first
        | (go_at_call 28; refine HC.out.mono ?_; rintro e w1 ⟨hb, v, rfl, hv⟩; have hv2 := row_ne hv (by simp [i64s]); clear hv; obtain ⟨b, off, cap, rfl, hcap, hlt, hcl⟩ := hv2; rw [HNN.out] at hcap ⊢; have HCL := Lib.hid hcl; have hc0 : w1.cell? ⟨b, off, none⟩ = some (.int .i64 c) := hcl 0 (by simp [i64s]); clear hcl)
        | (go_at_call 29; refine (HF.out _).mono ?_; rintro e w' ⟨rfl, rfl⟩))
      go_ret
      refine retB_eq ?_ (by assumption)
      rw [← HR.out]
      show false = (firstC c && _)
      rw [HFF.out]; rfl
    · have hRl : l.all partC = R := by rw [← HR.out]; show _ = (firstC c && _); rw [HFF.out]; rfl
      have HRL := Lib.hid hRl
      clear hRl
      go_enter Tryd.func13, Tryd.ntmps13
      go_wp2_with (first
        | (go_at_call 28; refine HC.out.mono ?_; rintro e w1 ⟨hb, v, rfl, hv⟩; have hv2 := row_ne hv (by simp [i64s]); clear hv; obtain ⟨b, off, cap, rfl, hcap, hlt, hcl⟩ := hv2; rw [HNN.out] at hcap ⊢; have HCL := Lib.hid hcl; have hc0 : w1.cell? ⟨b, off, none⟩ = some (.int .i64 c) := hcl 0 (by simp [i64s]); clear hcl)
        | (go_at_call 29; refine (HF.out _).mono ?_; rintro e w' ⟨rfl, rfl⟩))
      go_loop [5] (fun i => ∃ j : Nat, 1 ≤ j ∧ j ≤ n ∧ i = .int .i64 j ∧ (l.drop (j - 1)).all partC = R) (fun i => n - (intOf i).toNat)
      case atStart => exact ⟨1, Nat.le_refl _, by omega, rfl, HRL.out⟩
      case round =>
        obtain ⟨j, hj1, hj, rfl, hall⟩ := hrel
        by_cases hlt : j < n
        · have hjl : j - 1 < l.length := by have := HN.out; omega
          have hcell := HCL.out j (by simp [i64s]; omega)
          have hd := List.drop_eq_getElem_cons hjl
          rw [hd] at hall
          obtain ⟨x, hx⟩ : ∃ x, l[j - 1] = x := ⟨_, rfl⟩
          have hcell2 : w1.cell? ⟨b, off + j, none⟩ = some (.int .i64 x) := by
            rw [hcell, ← hx]
            obtain ⟨k, rfl⟩ : ∃ k, j = k + 1 := ⟨j - 1, by omega⟩
            simp [i64s]
          rw [hx, show j - 1 + 1 = j from by omega] at hall
          have HALL := Lib.hid hall
          clear hcell hd hall hx
          go_wp2_with (go_at_call 30; refine (rpart_c _ _).mono ?_; rintro e w' ⟨rfl, rfl⟩)
          · have hno : (!partC x) = true := by assumption
            go_ret
            refine retB_eq ?_ (by assumption)
            rw [← HALL.out]
            simp at hno
            simp [hno]
          · have hno : (!partC x) = false := by assumption
            refine ⟨⟨j + 1, by omega, by omega, by go_num, ?_⟩, by simp [intOf]; omega⟩
            rw [← HALL.out, show j + 1 - 1 = j from by omega]
            simp at hno
            simp [hno]
        · obtain rfl : j = n := by omega
          go_wp2_with fail
          go_ret
          refine retB_eq ?_ (by assumption)
          rw [← hall, List.drop_of_length_le (by have := HN.out; omega)]
          rfl

theorem byte_is (s : ByteArray) (k : Nat) (h : k < s.size) (m : Int) (n : Nat) (hm : m = n) (hn : n < 256) : (((s[k]'h).toNat : Int) == m) = true ↔ s.get! k = UInt8.ofNat n := by
  rw [get_bang s k h, beq_iff_eq, hm]
  constructor
  · intro h1
    have h2 : (s.data[k]).toNat = n := by have : (s[k]'h).toNat = n := by omega
                                          exact this
    rw [← h2]; simp
  · intro h1
    have h2 : (s[k]'h) = UInt8.ofNat n := h1
    rw [h2]
    have : (UInt8.ofNat n).toNat = n := by simp [UInt8.toNat_ofNat']; omega
    rw [this]

/-- A name's prefix and what stands behind it; whether it is one. -/
def rsplitF (s : ByteArray) : Nat → Nat → ByteArray × ByteArray × Bool
  | 0, _ => if rplainS s = true then (⟨#[]⟩, s, true) else (⟨#[]⟩, ⟨#[]⟩, false)
  | b + 1, i => if i < s.size then
      if s.get! i = 58 then
        if rplainS (s.extract 0 i) = true ∧ rplainS (s.extract (i + 1) s.size) = true then (s.extract 0 i, s.extract (i + 1) s.size, true) else (⟨#[]⟩, ⟨#[]⟩, false)
      else rsplitF s b (i + 1)
    else if rplainS s = true then (⟨#[]⟩, s, true) else (⟨#[]⟩, ⟨#[]⟩, false)
def rsplitS (s : ByteArray) : ByteArray × ByteArray × Bool := rsplitF s s.size 0
def RetSSB (a b : ByteArray) (t : Bool) (w : World) (e : Ending) (w' : World) : Prop := e = .returned (.tuple #[.string a, .string b, .bool t]) ∧ Bel w w'

set_option maxHeartbeats 1000000 in
theorem rsplit_c (s : ByteArray) (hs : s.size ≤ 4294967280) (w : World) :
    Calls Tryd.prog 11 #[.string s] w (RetSSB (rsplitS s).1 (rsplitS s).2.1 (rsplitS s).2.2 w) := by
  obtain ⟨⟨A, B, T⟩, hR⟩ : ∃ R, rsplitS s = R := ⟨_, rfl⟩
  rw [hR]
  have HR := Lib.hid hR
  clear hR
  go_enter Tryd.func11, Tryd.ntmps11
  go_wp2_with fail
  go_loopw [5] (fun i wr => ∃ k b : Nat, k ≤ s.size ∧ i = .int .i64 k ∧ Bel w wr ∧ s.size ≤ k + b ∧ rsplitF s b k = (A, B, T)) (fun i _ => s.size - (intOf i).toNat)
  case atStart => exact ⟨0, s.size, Nat.zero_le _, rfl, Bel.refl _, by omega, HR.out⟩
  case round =>
    obtain ⟨k, b, hk, rfl, hbel, hb, hsp⟩ := hrel
    by_cases hlt : k < s.size
    · have hc := get_bang s k hlt
      have hz : ∀ b', b = b' + 1 → rsplitF s b k = if s.get! k = 58 then
        if rplainS (s.extract 0 k) = true ∧ rplainS (s.extract (k + 1) s.size) = true then (s.extract 0 k, s.extract (k + 1) s.size, true) else (⟨#[]⟩, ⟨#[]⟩, false)
      else rsplitF s b' (k + 1) := by rintro b' rfl; rw [rsplitF, if_pos hlt]
      obtain ⟨b', rfl⟩ : ∃ b', b = b' + 1 := ⟨b - 1, by omega⟩
      have hz' := hz b' rfl
      rw [hsp] at hz'
      have e1 : (s.extract 0 k).size ≤ 4294967280 := by simp; omega
      have e2 : (s.extract (k + 1) s.size).size ≤ 4294967280 := by simp; omega
      obtain ⟨S1, hS1⟩ : ∃ S1, rplainS (s.extract 0 k) = S1 := ⟨_, rfl⟩
      obtain ⟨S2, hS2⟩ : ∃ S2, rplainS (s.extract (k + 1) s.size) = S2 := ⟨_, rfl⟩
      rw [hS1, hS2] at hz'
      have hp1 := fun w1 => rplain_c (s.extract 0 k) e1 w1
      have hp2 := fun w1 => rplain_c (s.extract (k + 1) s.size) e2 w1
      rw [hS1] at hp1
      rw [hS2] at hp2
      have HP1 := Lib.hid hp1
      have HP2 := Lib.hid hp2
      have HZ := Lib.hid hz'
      have HCB := Lib.hid hc
      clear hz hz' hsp hp1 hp2 hS1 hS2 hc e1 e2
      go_wp2_with (first
        | (with_reducible refine (HP1.out _).mono ?_; rintro e w' ⟨rfl, hb1⟩)
        | (with_reducible refine (HP2.out _).mono ?_; rintro e w' ⟨rfl, hb2⟩))
      · have h1 : (!S2) = true := by assumption
        go_ret3
        have hz := HZ.out
        have hcc : s.get! k = 58 := by
          have h2 : (((s[k]).toNat : Int) == 58) = true := by assumption
          exact (byte_is s k hlt 58 58 rfl (by omega)).1 h2
        rw [if_pos hcc, if_neg (by simp at h1; simp [h1])] at hz
        simp only [Prod.mk.injEq] at hz
        obtain ⟨rfl, rfl, rfl⟩ := hz
        refine ⟨rfl, ?_⟩
        clear HP1 HP2 HZ HCB
        go_light
        grind [Bel.trans]
      · have h1 : (!S2) = false := by assumption
        have h3 : S1 = true := by assumption
        go_ret3
        have hz := HZ.out
        have hcc : s.get! k = 58 := by
          have h2 : (((s[k]).toNat : Int) == 58) = true := by assumption
          exact (byte_is s k hlt 58 58 rfl (by omega)).1 h2
        rw [if_pos hcc, if_pos ⟨h3, by simpa using h1⟩] at hz
        simp only [Prod.mk.injEq] at hz
        obtain ⟨rfl, rfl, rfl⟩ := hz
        refine ⟨rfl, ?_⟩
        clear HP1 HP2 HZ HCB
        go_light
        grind [Bel.trans]
      · have h3 : ¬ S1 = true := by assumption
        go_ret3
        have hz := HZ.out
        have hcc : s.get! k = 58 := by
          have h2 : (((s[k]).toNat : Int) == 58) = true := by assumption
          exact (byte_is s k hlt 58 58 rfl (by omega)).1 h2
        rw [if_pos hcc, if_neg (fun h => h3 h.1)] at hz
        simp only [Prod.mk.injEq] at hz
        obtain ⟨rfl, rfl, rfl⟩ := hz
        refine ⟨rfl, ?_⟩
        clear HP1 HP2 HZ HCB
        go_light
        grind [Bel.trans]
      · have hz := HZ.out
        have hcc : ¬ s.get! k = 58 := by
          have h2 : (((s[k]).toNat : Int) == 58) = false := by assumption
          intro h
          rw [(byte_is s k hlt 58 58 rfl (by omega)).2 h] at h2
          cases h2
        rw [if_neg hcc] at hz
        exact ⟨⟨k + 1, b', by omega, by go_num, hbel, by omega, hz.symm⟩, by simp [intOf]; omega⟩
    · have hz : rsplitF s b k = if rplainS s = true then (⟨#[]⟩, s, true) else (⟨#[]⟩, ⟨#[]⟩, false) := by cases b <;> simp [rsplitF, hlt]
      rw [hsp] at hz
      have HZ := Lib.hid hz
      clear hsp hz
      go_wp2_with (go_at_call 13; refine (rplain_c s hs _).mono ?_; rintro e w' ⟨rfl, hb1⟩)
      · have h1 : (!rplainS s) = true := by assumption
        go_ret3
        have hz := HZ.out
        rw [if_neg (by simp at h1; simp [h1])] at hz
        simp only [Prod.mk.injEq] at hz
        obtain ⟨rfl, rfl, rfl⟩ := hz
        exact ⟨rfl, hbel.trans (by assumption)⟩
      · have h1 : (!rplainS s) = false := by assumption
        go_ret3
        have hz := HZ.out
        rw [if_pos (by simpa using h1)] at hz
        simp only [Prod.mk.injEq] at hz
        obtain ⟨rfl, rfl, rfl⟩ := hz
        exact ⟨rfl, hbel.trans (by assumption)⟩
end Go.Proofs.YtfmhpeinikidfaaDoor
