/-
  The walks of the document's answer for names: All, Keyword, Word.
-/
import Derived.Test.YtjnaikojoemkaaaGreatDoorK
import Derived.Test.YtjnaikojoemkaaaGreatDoorO
namespace Go.Proofs.YtjnaikojoemkaaaGreatDoor
open Go.RowKit

def KS : List ByteArray := kwL.map kwB
theorem isKw_any (s : ByteArray) : isKw s = KS.any fun x => x.toList == s.toList := by
  unfold isKw KS
  rw [List.any_map]
  congr 1
  funext l
  show (l == s.data.toList) = ((kwB l).toList == s.toList)
  rw [Lib.toList_data, Lib.toList_data]
  rfl

set_option maxHeartbeats 400000 in
theorem rall_c (w : World) : Calls Tryz.prog 40 #[] w (RetRow (strsV KS) w) := by
  go_enter Tryz.func40, Tryz.ntmps40
  go_wp2_with fail
  go_ret
  exact ⟨_, rfl, rowAt_cast (row_new w (strsV KS) 9) rfl rfl, Bel.alloc _ _⟩

set_option maxHeartbeats 800000 in
theorem rkeyword_c (s : ByteArray) (w : World) :
    Calls Tryz.prog 19 #[.string s] w fun e w' => e = .returned (.bool (isKw s)) ∧ Bel w w' := by
  rw [isKw_any]
  obtain ⟨L, hL⟩ : ∃ L, KS = L := ⟨_, rfl⟩
  have hn : L.length = 17 := by rw [← hL]; rfl
  have hall := fun w1 => rall_c w1
  rw [hL] at hall ⊢
  obtain ⟨R, hR⟩ : ∃ R, (L.any fun x => x.toList == s.toList) = R := ⟨_, rfl⟩
  rw [hR]
  have HR := Lib.hid hR
  have HN := Lib.hid hn
  have HA := Lib.hid hall
  clear hR hn hall hL
  go_enter Tryz.func19, Tryz.ntmps19
  go_wp2_with (go_at_call 40; refine (HA.out _).mono ?_; rintro e w1 ⟨v, rfl, ⟨b, off, cap, rfl, hcap, hlt, hcl⟩, hb⟩; rw [strsV_length, HN.out] at hcap; rw [strsV_length, HN.out]; have HCL := Lib.hid hcl; clear hcl)
  go_loop [4] (fun i => ∃ j : Nat, j ≤ 17 ∧ i = .int .i64 j ∧ ((L.drop j).any fun x => x.toList == s.toList) = R) (fun i => 17 - (intOf i).toNat)
  case atStart => exact ⟨0, by omega, rfl, HR.out⟩
  case round =>
    obtain ⟨j, hj, rfl, hany⟩ := hrel
    by_cases hjn : j < 17
    · have hjl : j < L.length := by rw [HN.out]; exact hjn
      have hcell := HCL.out j (by rw [strsV_length]; exact hjl)
      rw [List.drop_eq_getElem_cons hjl] at hany
      obtain ⟨x, hx⟩ : ∃ x, L[j] = x := ⟨_, rfl⟩
      have hcell2 : w1.cell? ⟨b, off + j, none⟩ = some (.string x) := by
        rw [hcell, ← hx]; simp [strsV]
      rw [hx] at hany
      have HANY := Lib.hid hany
      clear hcell hany hx
      go_wp2_with fail
      · have h1 : (x.toList == s.toList) = true := by assumption
        go_ret
        refine retB_eq ?_ (by assumption)
        rw [← HANY.out, List.any_cons, h1]; rfl
      · have h1 : (x.toList == s.toList) = false := by assumption
        refine ⟨⟨j + 1, by omega, by go_num, ?_⟩, by simp [intOf]; omega⟩
        rw [← HANY.out, List.any_cons, h1]; rfl
    · obtain rfl : j = 17 := by omega
      go_wp2_with fail
      go_ret
      refine retB_eq ?_ (by assumption)
      rw [← hany, List.drop_of_length_le (by have := HN.out; omega)]
      rfl

/-- Is it a word that is no keyword? By the document. -/
def rwordS (s : ByteArray) : Bool := charsB firstC nextC s && !isKw s

set_option maxHeartbeats 1000000 in
theorem rword_c (s : ByteArray) (hs : s.size ≤ 4294967280) (w : World) :
    Calls Tryz.prog 28 #[.string s] w fun e w' => e = .returned (.bool (rwordS s)) ∧ Bel w w' := by
  have hc := chars_c s hs w
  have hkw := fun w1 => rkeyword_c s w1
  unfold rwordS charsB
  obtain ⟨K, hK⟩ : ∃ K, isKw s = K := ⟨_, rfl⟩
  rw [hK] at hkw ⊢
  have HK := Lib.hid hkw
  clear hK hkw
  rcases hr : charsS s with _ | ⟨_ | ⟨c, l⟩⟩
  · rw [hr] at hc
    have HC := Lib.hid hc
    clear hc hr
    show Calls _ _ _ _ fun e w' => e = .returned (.bool false) ∧ Bel w w'
    go_enter Tryz.func28, Tryz.ntmps28
    go_wp2_with (go_at_call 51; refine HC.out.mono ?_; rintro e w1 ⟨hb, rfl⟩)
    go_ret
    exact ⟨rfl, by assumption⟩
  · rw [hr] at hc
    have HC := Lib.hid hc
    clear hc hr
    show Calls _ _ _ _ fun e w' => e = .returned (.bool false) ∧ Bel w w'
    go_enter Tryz.func28, Tryz.ntmps28
    go_wp2_with (go_at_call 51; refine HC.out.mono ?_; rintro e w1 ⟨hb, v, rfl, ⟨rfl, _⟩ | ⟨b, off, cap, rfl, _⟩⟩)
    all_goals go_ret
    all_goals exact ⟨rfl, by assumption⟩
  · have hlen := charsS_length s _ hr
    rw [hr] at hc
    have HC := Lib.hid hc
    obtain ⟨L, hL⟩ : ∃ L, c :: l = L := ⟨_, rfl⟩
    obtain ⟨R, hR⟩ : ∃ R, (listS firstC nextC (c :: l) && !K) = R := ⟨_, rfl⟩
    show Calls _ _ _ _ fun e w' => e = .returned (.bool (listS firstC nextC (c :: l) && !K)) ∧ Bel w w'
    rw [hR]
    have HR := Lib.hid hR
    obtain ⟨n, hn⟩ : ∃ n, (i64s (c :: l)).length = n := ⟨_, rfl⟩
    have hn1 : n = l.length + 1 := by rw [← hn]; simp [i64s]
    have hn2 : n ≤ 4294967280 := by simp at hlen; omega
    have hn3 : (0 : Int) < n := by omega
    have hn4 : ((n : Int) == 0) = false := by simp; omega
    have HN := Lib.hid hn1
    have HNN := Lib.hid hn
    clear hc hr hL hR hlen hn1 hn L
    have hf := fun w1 => rfirst_c c w1
    obtain ⟨F, hF⟩ : ∃ F, firstC c = F := ⟨_, rfl⟩
    rw [hF] at hf
    have HF := Lib.hid hf
    have HFF := Lib.hid hF
    clear hf hF
    cases F
    · go_enter Tryz.func28, Tryz.ntmps28
      go_wp2_with (first
        | (go_at_call 51; refine HC.out.mono ?_; rintro e w1 ⟨hb, v, rfl, hv⟩; have hv2 := row_ne hv (by simp [i64s]); clear hv; obtain ⟨b, off, cap, rfl, hcap, hlt, hcl⟩ := hv2; rw [HNN.out] at hcap ⊢; have HCL := Lib.hid hcl; have hc0 : w1.cell? ⟨b, off, none⟩ = some (.int .i64 c) := hcl 0 (by simp [i64s]); clear hcl)
        | (go_at_call 39; refine (HF.out _).mono ?_; rintro e w' ⟨rfl, rfl⟩))
      go_ret
      refine retB_eq ?_ (by assumption)
      rw [← HR.out]
      show false = ((firstC c && _) && _)
      rw [HFF.out]; rfl
    · have hRl : (l.all nextC && !K) = R := by rw [← HR.out]; show _ = ((firstC c && _) && _); rw [HFF.out]; rfl
      have HRL := Lib.hid hRl
      clear hRl
      cases K
      · go_enter Tryz.func28, Tryz.ntmps28
        go_wp2_with (first
          | (go_at_call 51; refine HC.out.mono ?_; rintro e w1 ⟨hb, v, rfl, hv⟩; have hv2 := row_ne hv (by simp [i64s]); clear hv; obtain ⟨b, off, cap, rfl, hcap, hlt, hcl⟩ := hv2; rw [HNN.out] at hcap ⊢; have HCL := Lib.hid hcl; have hc0 : w1.cell? ⟨b, off, none⟩ = some (.int .i64 c) := hcl 0 (by simp [i64s]); clear hcl)
          | (go_at_call 39; refine (HF.out _).mono ?_; rintro e w' ⟨rfl, rfl⟩)
          | (go_at_call 19; refine (HK.out _).mono ?_; rintro e w2 ⟨rfl, hb2⟩))
        go_loop [5] (fun i => ∃ j : Nat, 1 ≤ j ∧ j ≤ n ∧ i = .int .i64 j ∧ ((l.drop (j - 1)).all nextC && !false) = R) (fun i => n - (intOf i).toNat)
        case atStart => exact ⟨1, Nat.le_refl _, by omega, rfl, HRL.out⟩
        case round =>
          obtain ⟨j, hj1, hj, rfl, hall⟩ := hrel
          by_cases hlt : j < n
          · have hjl : j - 1 < l.length := by have := HN.out; omega
            have hcell := HCL.out j (by simp [i64s]; omega)
            have hd := List.drop_eq_getElem_cons hjl
            rw [hd] at hall
            obtain ⟨x, hx⟩ : ∃ x, l[j - 1] = x := ⟨_, rfl⟩
            have hcell2 : w2.cell? ⟨b, off + j, none⟩ = some (.int .i64 x) := by
              rw [hb2.cell (by assumption), hcell, ← hx]
              obtain ⟨k, rfl⟩ : ∃ k, j = k + 1 := ⟨j - 1, by omega⟩
              simp [i64s]
            rw [hx, show j - 1 + 1 = j from by omega] at hall
            have HALL := Lib.hid hall
            clear hcell hd hall hx
            go_wp2_with (go_at_call 38; refine (rnext_c _ _).mono ?_; rintro e w' ⟨rfl, rfl⟩)
            · have hno : (!nextC x) = true := by assumption
              go_ret
              refine retB_eq ?_ (hb.trans hb2)
              rw [← HALL.out]
              simp at hno
              simp [hno]
            · have hno : (!nextC x) = false := by assumption
              refine ⟨⟨j + 1, by omega, by omega, by go_num, ?_⟩, by simp [intOf]; omega⟩
              rw [← HALL.out, show j + 1 - 1 = j from by omega]
              simp at hno
              simp [hno]
          · obtain rfl : j = n := by omega
            go_wp2_with fail
            go_ret
            refine retB_eq ?_ (hb.trans hb2)
            rw [← hall, List.drop_of_length_le (by have := HN.out; omega)]
            rfl
      · go_enter Tryz.func28, Tryz.ntmps28
        go_wp2_with (first
          | (go_at_call 51; refine HC.out.mono ?_; rintro e w1 ⟨hb, v, rfl, hv⟩; have hv2 := row_ne hv (by simp [i64s]); clear hv; obtain ⟨b, off, cap, rfl, hcap, hlt, hcl⟩ := hv2; rw [HNN.out] at hcap ⊢; have HCL := Lib.hid hcl; have hc0 : w1.cell? ⟨b, off, none⟩ = some (.int .i64 c) := hcl 0 (by simp [i64s]); clear hcl)
          | (go_at_call 39; refine (HF.out _).mono ?_; rintro e w' ⟨rfl, rfl⟩)
          | (go_at_call 19; refine (HK.out _).mono ?_; rintro e w2 ⟨rfl, hb2⟩))
        go_ret
        refine retB_eq ?_ ((by assumption : Bel w w1).trans (by assumption))
        rw [← HRL.out]; simp
end Go.Proofs.YtjnaikojoemkaaaGreatDoor
