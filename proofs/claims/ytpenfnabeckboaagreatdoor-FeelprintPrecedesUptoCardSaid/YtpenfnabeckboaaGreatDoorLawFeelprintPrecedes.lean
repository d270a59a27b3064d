/-
  The walk of the law FeelprintPrecedes: whatever the two signs: true.
-/
import Derived.Test.YtpenfnabeckboaaGreatDoorFPM
import Derived.Test.YtpenfnabeckboaaGreatDoorEXE
import Derived.Test.YtpenfnabeckboaaGreatDoorEHW
import Derived.Test.YtpenfnabeckboaaGreatDoorFPA
namespace Go.Proofs.YtpenfnabeckboaaGreatDoor
open Go.RowKit

def sgV : List Value := [.string ⟨#[111, 114]⟩, .string ⟨#[97, 110, 100]⟩, .string ⟨#[61]⟩, .string ⟨#[33, 61]⟩, .string ⟨#[60]⟩, .string ⟨#[60, 61]⟩, .string ⟨#[62]⟩, .string ⟨#[62, 61]⟩, .string ⟨#[43]⟩, .string ⟨#[45]⟩, .string ⟨#[42]⟩, .string ⟨#[47]⟩, .string ⟨#[42, 42]⟩]
def lvV : List Value := [.int .i64 1, .int .i64 2, .int .i64 3, .int .i64 3, .int .i64 3, .int .i64 3, .int .i64 3, .int .i64 3, .int .i64 4, .int .i64 4, .int .i64 5, .int .i64 5, .int .i64 6]
theorem sg_at : ∀ i : Fin 13, sgV[i.1]? = some (.string (signX i)) := by
  intro i
  have h : ∀ i : Fin 13, (signsP[i.1]?.map fun x => Value.string x.1) = some (.string (signX i)) := by
    intro i
    unfold signX
    have : i.1 < signsP.length := i.2
    rw [List.getElem?_eq_getElem this]
    rfl
  rw [← h i, show sgV = signsP.map fun x => Value.string x.1 from rfl, List.getElem?_map]
theorem lv_at : ∀ i : Fin 13, lvV[i.1]? = some (.int .i64 (lvX i)) := by
  intro i
  have h : ∀ i : Fin 13, (signsP[i.1]?.map fun x => Value.int .i64 x.2) = some (.int .i64 (lvX i)) := by
    intro i
    unfold lvX
    have : i.1 < signsP.length := i.2
    rw [List.getElem?_eq_getElem this]
    rfl
  rw [← h i, show lvV = signsP.map fun x => Value.int .i64 x.2 from rfl, List.getElem?_map]
theorem sg_size : ∀ i : Fin 13, (signX i).size ≤ 3 := by decide +kernel
theorem pre_bulk : ∀ i k : Fin 13, (leftX i k).bulk ≤ 1000 ∧ (rightX i k).bulk ≤ 1000 := by decide +kernel
theorem bts_inj {a b : ByteArray} (h : btsOf a = btsOf b) : a = b := by
  apply ByteArray.ext
  exact Array.toList_inj.1 h
theorem left_text (i k : Fin 13) : textE2 false (leftX i k) = if lvX i < lvX k ∨ lvX i = 3 ∧ lvX k = 3 then (((⟨#[40, 49, 32]⟩ ++ signX i) ++ ⟨#[32, 50, 41, 32]⟩) ++ signX k) ++ ⟨#[32, 51]⟩ else (((⟨#[49, 32]⟩ ++ signX i) ++ ⟨#[32, 50, 32]⟩) ++ signX k) ++ ⟨#[32, 51]⟩ := by
  apply bts_inj
  unfold textE2
  rw [if_pos (precedes_ok i k).1]
  show prE qB false (leftX i k) = _
  rw [(precedes i k).1]
  unfold wantL
  split
  · simp [btsOf, ByteArray.data_append]
  · simp [btsOf, ByteArray.data_append]
theorem right_text (i k : Fin 13) : textE2 false (rightX i k) = if lvX i ≤ lvX k then (((⟨#[49, 32]⟩ ++ signX k) ++ ⟨#[32, 40, 50, 32]⟩) ++ signX i) ++ ⟨#[32, 51, 41]⟩ else (((⟨#[49, 32]⟩ ++ signX k) ++ ⟨#[32, 50, 32]⟩) ++ signX i) ++ ⟨#[32, 51]⟩ := by
  apply bts_inj
  unfold textE2
  rw [if_pos (precedes_ok i k).2]
  show prE qB false (rightX i k) = _
  rw [(precedes i k).2]
  unfold wantR
  split
  · simp [btsOf, ByteArray.data_append]
  · simp [btsOf, ByteArray.data_append]
theorem prt_left (i k : Fin 13) (pi pk : ByteArray) (hpi : signX i = pi) (hpk : signX k = pk) (na : Option Addr) (nn nc : Nat) (la : Option Addr) (ln lc : Nat) (W : World) (hE : EnvX W) (hat : ExAt W (.mk 5 pk [] [.mk 5 pi [] [numX 49, numX 50], numX 51]) (.slice na nn nc) (.slice la ln lc)) :
    Calls Tryz.prog 10 #[.agg #[.int .i64 5, .string pk, .slice na nn nc, .slice la ln lc]] W (RetBel (.tuple #[.string (if lvX i < lvX k ∨ lvX i = 3 ∧ lvX k = 3 then (((⟨#[40, 49, 32]⟩ ++ pi) ++ ⟨#[32, 50, 41, 32]⟩) ++ pk) ++ ⟨#[32, 51]⟩ else (((⟨#[49, 32]⟩ ++ pi) ++ ⟨#[32, 50, 32]⟩) ++ pk) ++ ⟨#[32, 51]⟩), .int .i64 0]) W) := by
  subst hpi hpk
  have h := print_c (leftX i k) na nn nc la ln lc W hE (Nat.le_trans (pre_bulk i k).1 (by decide)) hat
  rw [(precedes_ok i k).1, left_text i k] at h
  exact h
theorem prt_right (i k : Fin 13) (pi pk : ByteArray) (hpi : signX i = pi) (hpk : signX k = pk) (na : Option Addr) (nn nc : Nat) (la : Option Addr) (ln lc : Nat) (W : World) (hE : EnvX W) (hat : ExAt W (.mk 5 pk [] [numX 49, .mk 5 pi [] [numX 50, numX 51]]) (.slice na nn nc) (.slice la ln lc)) :
    Calls Tryz.prog 10 #[.agg #[.int .i64 5, .string pk, .slice na nn nc, .slice la ln lc]] W (RetBel (.tuple #[.string (if lvX i ≤ lvX k then (((⟨#[49, 32]⟩ ++ pk) ++ ⟨#[32, 40, 50, 32]⟩) ++ pi) ++ ⟨#[32, 51, 41]⟩ else (((⟨#[49, 32]⟩ ++ pk) ++ ⟨#[32, 50, 32]⟩) ++ pi) ++ ⟨#[32, 51]⟩), .int .i64 0]) W) := by
  subst hpi hpk
  have h := print_c (rightX i k) na nn nc la ln lc W hE (Nat.le_trans (pre_bulk i k).2 (by decide)) hat
  rw [(precedes_ok i k).2, right_text i k] at h
  exact h
set_option maxRecDepth 100000 in
set_option maxHeartbeats 16000000 in
theorem feelprintPrecedes_walk {w : World} (a : Int) (ha : (Lit.int .u8 a).wf = true) (b : Int) (hb : (Lit.int .u8 b).wf = true) (hE : EnvX w) :
    Calls Tryz.prog 4 #[.int .u8 a, .int .u8 b] w (RetBel (.bool true) w) := by
  have ha2 : 0 ≤ a ∧ a ≤ 255 := by simpa [Lit.wf, IntKind.min, IntKind.max, IntKind.bits, IntKind.signed] using ha
  have hb2 : 0 ≤ b ∧ b ≤ 255 := by simpa [Lit.wf, IntKind.min, IntKind.max, IntKind.bits, IntKind.signed] using hb
  have hwa : wrap64 a = a := by unfold wrap64; omega
  have hwb : wrap64 b = b := by unfold wrap64; omega
  obtain ⟨i, hi, hi13⟩ : ∃ i : Nat, a.tmod 13 = i ∧ i < 13 := ⟨(a.tmod 13).toNat, by rw [Int.tmod_eq_emod_of_nonneg ha2.1]; omega, by rw [Int.tmod_eq_emod_of_nonneg ha2.1]; omega⟩
  obtain ⟨k, hk, hk13⟩ : ∃ k : Nat, b.tmod 13 = k ∧ k < 13 := ⟨(b.tmod 13).toNat, by rw [Int.tmod_eq_emod_of_nonneg hb2.1]; omega, by rw [Int.tmod_eq_emod_of_nonneg hb2.1]; omega⟩
  rw [← hwa] at hi
  rw [← hwb] at hk
  clear hwa hwb
  have hii : (i : Int) < 13 := by omega
  have hki : (k : Int) < 13 := by omega
  have HE := Lib.hid hE
  have hen1 := fun args w1 => enters_of Tryz.func12 (by kernel_rfl) rfl args w1
  have hen2 := fun args w1 => enters_of Tryz.func13 (by kernel_rfl) rfl args w1
  have HN := Lib.hid pn_c
  have HBN := Lib.hid pbin_c
  obtain ⟨pi, hpi⟩ : ∃ p, signX i = p := ⟨_, rfl⟩
  obtain ⟨pk, hpk⟩ : ∃ p, signX k = p := ⟨_, rfl⟩
  have HPL := Lib.hid (fun na nn nc la ln lc W (hW : Bel w W) hat => prt_left ⟨i, hi13⟩ ⟨k, hk13⟩ pi pk hpi hpk na nn nc la ln lc W (hE.bel hW) hat)
  have HPRR := Lib.hid (fun na nn nc la ln lc W (hW : Bel w W) hat => prt_right ⟨i, hi13⟩ ⟨k, hk13⟩ pi pk hpi hpk na nn nc la ln lc W (hE.bel hW) hat)
  dsimp only at HPL HPRR
  obtain ⟨TL, hTL⟩ : ∃ T, (if lvX i < lvX k ∨ lvX i = 3 ∧ lvX k = 3 then (((⟨#[40, 49, 32]⟩ ++ pi) ++ ⟨#[32, 50, 41, 32]⟩) ++ pk) ++ ⟨#[32, 51]⟩ else (((⟨#[49, 32]⟩ ++ pi) ++ ⟨#[32, 50, 32]⟩) ++ pk) ++ ⟨#[32, 51]⟩) = T := ⟨_, rfl⟩
  obtain ⟨TR, hTR⟩ : ∃ T, (if lvX i ≤ lvX k then (((⟨#[49, 32]⟩ ++ pk) ++ ⟨#[32, 40, 50, 32]⟩) ++ pi) ++ ⟨#[32, 51, 41]⟩ else (((⟨#[49, 32]⟩ ++ pk) ++ ⟨#[32, 50, 32]⟩) ++ pi) ++ ⟨#[32, 51]⟩) = T := ⟨_, rfl⟩
  rw [hTL] at HPL
  rw [hTR] at HPRR
  have hsi := sg_size ⟨i, hi13⟩
  have hsk := sg_size ⟨k, hk13⟩
  dsimp only at hsi hsk
  rw [hpi] at hsi
  rw [hpk] at hsk
  obtain ⟨V1, h1, k1, l1, s1⟩ := alloc_step w 9 sgV
  obtain ⟨V2, h2, k2, l2, s2⟩ := alloc_step V1 3 lvV
  have hbv := l1.trans l2
  have y1 : V2.cell? ⟨w.heap.size, i, none⟩ = some (.string pi) := by rw [(k1.bel l2).at, ← hpi]; exact sg_at ⟨i, hi13⟩
  have y2 : V2.cell? ⟨w.heap.size, k, none⟩ = some (.string pk) := by rw [(k1.bel l2).at, ← hpk]; exact sg_at ⟨k, hk13⟩
  have z1 : V2.cell? ⟨V1.heap.size, i, none⟩ = some (.int .i64 (lvX i)) := by rw [k2.at]; exact lv_at ⟨i, hi13⟩
  have z2 : V2.cell? ⟨V1.heap.size, k, none⟩ = some (.int .i64 (lvX k)) := by rw [k2.at]; exact lv_at ⟨k, hk13⟩
  rw [s1] at z1 z2
  obtain ⟨li, hli⟩ : ∃ l, lvX i = l := ⟨_, rfl⟩
  obtain ⟨lk, hlk⟩ : ∃ l, lvX k = l := ⟨_, rfl⟩
  rw [hli] at z1 hTL hTR
  rw [hlk] at z2 hTL hTR
  have HTL := Lib.hid hTL
  have HTR := Lib.hid hTR
  have HV1 := Lib.hid h1
  have HV2 := Lib.hid h2
  have HSI := Lib.hid hsi
  have HSK := Lib.hid hsk
  clear h1 h2 k1 k2 l1 l2 s1 s2 hE ha hb hpi hpk hTL hTR hli hlk hsi hsk ha2 hb2 hi13 hk13
  go_enter Tryz.func4, Tryz.ntmps4
  go_upto_region 3 with fail
  rw [show w.alloc (.cells #[.string ⟨#[111, 114]⟩, .string ⟨#[97, 110, 100]⟩, .string ⟨#[61]⟩, .string ⟨#[33, 61]⟩, .string ⟨#[60]⟩, .string ⟨#[60, 61]⟩, .string ⟨#[62]⟩, .string ⟨#[62, 61]⟩, .string ⟨#[43]⟩, .string ⟨#[45]⟩, .string ⟨#[42]⟩, .string ⟨#[47]⟩, .string ⟨#[42, 42]⟩] 9) = V1 from HV1.out]
  rw [show V1.alloc (.cells #[.int .i64 1, .int .i64 2, .int .i64 3, .int .i64 3, .int .i64 3, .int .i64 3, .int .i64 3, .int .i64 3, .int .i64 4, .int .i64 4, .int .i64 5, .int .i64 5, .int .i64 6] 3) = V2 from HV2.out]
  go_wp2_with fail
  go_region
  go_wp2_with fail
  refine wp_region_held_drew (S := fun w' => w'.cell? ⟨w.heap.size, k, none⟩ = some (.string pk) ∧ w'.cell? ⟨w.heap.size, i, none⟩ = some (.string pi) ∧ w'.cell? ⟨w.heap.size + 1, i, none⟩ = some (.int .i64 li) ∧ w'.cell? ⟨w.heap.size + 1, k, none⟩ = some (.int .i64 lk)) (by kernel_rfl) ⟨by go_simp, by go_simp, by go_simp, by go_simp⟩ (fun hHeld => ?_)
  clear y1 y2 z1 z2
  refine wpAnyH_take (i := 0) (oi := _) (v := ?_) rfl (by kernel_rfl) (by kernel_rfl) (by kernel_rfl) (fun _ _ _ h => h) ?_ (by assumption) ?_
  rotate_left 1
  · first
      | (refine Or.inl ⟨by rfl, ?_⟩; intro w9 hSw; (try dsimp only at hSw); go_simp; (try with_reducible rfl); done)
      | (refine Or.inr ⟨by rfl, ?_⟩; rfl)
  simp only [List.getElem_toArray, List.getElem_cons_zero, Act.put, List.setIfInBounds_toArray, List.set_cons_zero, List.set_cons_succ]
  refine wpAnyH_take (i := 1) (oi := _) (v := ?_) rfl (by kernel_rfl) (by kernel_rfl) (by kernel_rfl) (fun _ _ _ h => h) ?_ (by assumption) ?_
  rotate_left 1
  · first
      | (refine Or.inl ⟨by rfl, ?_⟩; intro w9 hSw; (try dsimp only at hSw); go_simp; (try with_reducible rfl); done)
      | (refine Or.inr ⟨by rfl, ?_⟩; rfl)
  simp only [List.getElem_toArray, List.getElem_cons_succ, List.getElem_cons_zero, Act.put, List.setIfInBounds_toArray, List.set_cons_zero, List.set_cons_succ]
  refine wpAnyH_take (i := 2) (oi := _) (v := ?_) rfl (by kernel_rfl) (by kernel_rfl) (by kernel_rfl) (fun _ _ _ h => h) ?_ (by assumption) ?_
  rotate_left 1
  · first
      | (refine Or.inl ⟨by rfl, ?_⟩; intro w9 hSw; (try dsimp only at hSw); go_simp; (try with_reducible rfl); done)
      | (refine Or.inr ⟨by rfl, ?_⟩; rfl)
  simp only [List.getElem_toArray, List.getElem_cons_succ, List.getElem_cons_zero, Act.put, List.setIfInBounds_toArray, List.set_cons_zero, List.set_cons_succ]
  refine wpAnyH_take (i := 3) (oi := _) (v := ?_) rfl (by kernel_rfl) (by kernel_rfl) (by kernel_rfl) (fun _ _ _ h => h) ?_ (by assumption) ?_
  rotate_left 1
  · first
      | (refine Or.inl ⟨by rfl, ?_⟩; intro w9 hSw; (try dsimp only at hSw); go_simp; (try with_reducible rfl); done)
      | (refine Or.inr ⟨by rfl, ?_⟩; rfl)
  simp only [List.getElem_toArray, List.getElem_cons_succ, List.getElem_cons_zero, Act.put, List.setIfInBounds_toArray, List.set_cons_zero, List.set_cons_succ]
  refine wpAnyH_take (i := 4) (oi := _) (v := ?_) rfl (by kernel_rfl) (by kernel_rfl) (by kernel_rfl) (fun _ _ _ h => h) ?_ (by assumption) ?_
  rotate_left 1
  · first
      | (refine Or.inl ⟨by rfl, ?_⟩; intro w9 hSw; (try dsimp only at hSw); go_simp; (try with_reducible rfl); done)
      | (refine Or.inr ⟨by rfl, ?_⟩; rfl)
  simp only [List.getElem_toArray, List.getElem_cons_succ, List.getElem_cons_zero, Act.put, List.setIfInBounds_toArray, List.set_cons_zero, List.set_cons_succ]
  refine wpAnyH_take (i := 5) (oi := _) (v := ?_) rfl (by kernel_rfl) (by kernel_rfl) (by kernel_rfl) (fun _ _ _ h => h) ?_ (by assumption) ?_
  rotate_left 1
  · first
      | (refine Or.inl ⟨by rfl, ?_⟩; intro w9 hSw; (try dsimp only at hSw); go_simp; (try with_reducible rfl); done)
      | (refine Or.inr ⟨by rfl, ?_⟩; rfl)
  simp only [List.getElem_toArray, List.getElem_cons_succ, List.getElem_cons_zero, Act.put, List.setIfInBounds_toArray, List.set_cons_zero, List.set_cons_succ]
  refine wpAnyH_take (i := 6) (oi := _) (v := ?_) rfl (by kernel_rfl) (by kernel_rfl) (by kernel_rfl) (fun _ _ _ h => h) ?_ (by assumption) ?_
  rotate_left 1
  · first
      | (refine Or.inl ⟨by rfl, ?_⟩; intro w9 hSw; (try dsimp only at hSw); go_simp; (try with_reducible rfl); done)
      | (refine Or.inr ⟨by rfl, ?_⟩; rfl)
  simp only [List.getElem_toArray, List.getElem_cons_succ, List.getElem_cons_zero, Act.put, List.setIfInBounds_toArray, List.set_cons_zero, List.set_cons_succ]
  refine wpAnyH_take (i := 7) (oi := _) (v := ?_) rfl (by kernel_rfl) (by kernel_rfl) (by kernel_rfl) (fun _ _ _ h => h) ?_ (by assumption) ?_
  rotate_left 1
  · first
      | (refine Or.inl ⟨by rfl, ?_⟩; intro w9 hSw; (try dsimp only at hSw); go_simp; (try with_reducible rfl); done)
      | (refine Or.inr ⟨by rfl, ?_⟩; rfl)
  simp only [List.getElem_toArray, List.getElem_cons_succ, List.getElem_cons_zero, Act.put, List.setIfInBounds_toArray, List.set_cons_zero, List.set_cons_succ]
  refine wpAnyH_take (i := 8) (oi := _) (v := ?_) rfl (by kernel_rfl) (by kernel_rfl) (by kernel_rfl) (fun _ _ _ h => h) ?_ (by assumption) ?_
  rotate_left 1
  · first
      | (refine Or.inl ⟨by rfl, ?_⟩; intro w9 hSw; (try dsimp only at hSw); go_simp; (try with_reducible rfl); done)
      | (refine Or.inr ⟨by rfl, ?_⟩; rfl)
  simp only [List.getElem_toArray, List.getElem_cons_succ, List.getElem_cons_zero, Act.put, List.setIfInBounds_toArray, List.set_cons_zero, List.set_cons_succ]
  refine wpAnyH_take (i := 9) (oi := _) (v := ?_) rfl (by kernel_rfl) (by kernel_rfl) (by kernel_rfl) (fun _ _ _ h => h) ?_ (by assumption) ?_
  rotate_left 1
  · first
      | (refine Or.inl ⟨by rfl, ?_⟩; intro w9 hSw; (try dsimp only at hSw); go_simp; (try with_reducible rfl); done)
      | (refine Or.inr ⟨by rfl, ?_⟩; rfl)
  simp only [List.getElem_toArray, List.getElem_cons_succ, List.getElem_cons_zero, Act.put, List.setIfInBounds_toArray, List.set_cons_zero, List.set_cons_succ]
  refine wpAnyH_take (i := 10) (oi := _) (v := ?_) rfl (by kernel_rfl) (by kernel_rfl) (by kernel_rfl) (fun _ _ _ h => h) ?_ (by assumption) ?_
  rotate_left 1
  · first
      | (refine Or.inl ⟨by rfl, ?_⟩; intro w9 hSw; (try dsimp only at hSw); go_simp; (try with_reducible rfl); done)
      | (refine Or.inr ⟨by rfl, ?_⟩; rfl)
  simp only [List.getElem_toArray, List.getElem_cons_succ, List.getElem_cons_zero, Act.put, List.setIfInBounds_toArray, List.set_cons_zero, List.set_cons_succ]
  refine wpAnyH_take (i := 12) (oi := _) (v := ?_) rfl (by kernel_rfl) (by kernel_rfl) (by kernel_rfl) (fun _ _ _ h => h) ?_ (by assumption) ?_
  rotate_left 1
  · first
      | (refine Or.inl ⟨by rfl, ?_⟩; intro w9 hSw; (try dsimp only at hSw); go_simp; (try with_reducible rfl); done)
      | (refine Or.inr ⟨by rfl, ?_⟩; rfl)
  simp only [List.getElem_toArray, List.getElem_cons_succ, List.getElem_cons_zero, Act.put, List.setIfInBounds_toArray, List.set_cons_zero, List.set_cons_succ]
  refine wpAnyH_take (i := 15) (oi := _) (v := ?_) rfl (by kernel_rfl) (by kernel_rfl) (by kernel_rfl) (fun _ _ _ h => h) ?_ (by assumption) ?_
  rotate_left 1
  · first
      | (refine Or.inl ⟨by rfl, ?_⟩; intro w9 hSw; (try dsimp only at hSw); go_simp; (try with_reducible rfl); done)
      | (refine Or.inr ⟨by rfl, ?_⟩; rfl)
  simp only [List.getElem_toArray, List.getElem_cons_succ, List.getElem_cons_zero, Act.put, List.setIfInBounds_toArray, List.set_cons_zero, List.set_cons_succ]
  refine wpAnyH_ready (rs := [11]) (by kernel_rfl) (by simp) ?_
  refine AllReadyH.cons (o := _) rfl (fun K hK => ?_) AllReadyH.nil
  go_simp
  go_simp
  refine (HN.out ⟨#[49]⟩ _).mono ?_
  rintro e1 w1 ⟨rfl, hb1⟩
  dsimp only
  have hbq : Bel w w1 := Bel.trans (by (repeat (first | exact Bel.refl _ | assumption | refine Bel.to_drewN ?_ _ | refine Bel.to_drew ?_ | refine Bel.to_setCell ?_ (by first | exact Nat.le_refl _ | (simp; done) | (simp; omega) | omega) _ | refine Bel.to_alloc ?_ _ | refine Bel.trans ?_ (by assumption)))) hb1
  refine hK.out _ _ ⟨hb1.keep hHeld.1, hb1.keep hHeld.2.1, hb1.keep hHeld.2.2.1, hb1.keep hHeld.2.2.2⟩ (fun hHeld => ?_)
  clear hK K hbv
  rename Bel w w1 => hbv
  refine wpAnyH_ready (rs := [13]) (by kernel_rfl) (by simp) ?_
  refine AllReadyH.cons (o := _) rfl (fun K hK => ?_) AllReadyH.nil
  go_simp
  go_simp
  refine (HN.out ⟨#[50]⟩ _).mono ?_
  rintro e2 w2 ⟨rfl, hb2⟩
  dsimp only
  have hbq : Bel w w2 := Bel.trans (by (repeat (first | exact Bel.refl _ | assumption | refine Bel.to_drewN ?_ _ | refine Bel.to_drew ?_ | refine Bel.to_setCell ?_ (by first | exact Nat.le_refl _ | (simp; done) | (simp; omega) | omega) _ | refine Bel.to_alloc ?_ _ | refine Bel.trans ?_ (by assumption)))) hb2
  refine hK.out _ _ ⟨hb2.keep hHeld.1, hb2.keep hHeld.2.1, hb2.keep hHeld.2.2.1, hb2.keep hHeld.2.2.2⟩ (fun hHeld => ?_)
  clear hK K hbv
  rename Bel w w2 => hbv
  refine wpAnyH_ready (rs := [14]) (by kernel_rfl) (by simp) ?_
  refine AllReadyH.cons (o := _) rfl (fun K hK => ?_) AllReadyH.nil
  go_simp
  go_simp
  refine (HBN.out pi (numX 49) (numX 50) none 0 0 none 0 0 none 0 0 none 0 0 _ (exAt_leaf _ 0 _ (by decide)) (exAt_leaf _ 0 _ (by decide))).mono ?_
  rintro e3 w3 ⟨g3, rfl, hb3, hx3⟩
  have X := Lib.hid hx3
  clear hx3
  dsimp only
  have hbq : Bel w w3 := Bel.trans (by (repeat (first | exact Bel.refl _ | assumption | refine Bel.to_drewN ?_ _ | refine Bel.to_drew ?_ | refine Bel.to_setCell ?_ (by first | exact Nat.le_refl _ | (simp; done) | (simp; omega) | omega) _ | refine Bel.to_alloc ?_ _ | refine Bel.trans ?_ (by assumption)))) hb3
  refine hK.out _ _ ⟨hb3.keep hHeld.1, hb3.keep hHeld.2.1, hb3.keep hHeld.2.2.1, hb3.keep hHeld.2.2.2⟩ (fun hHeld => ?_)
  clear hK K hbv
  rename Bel w w3 => hbv
  refine wpAnyH_ready (rs := [16]) (by kernel_rfl) (by simp) ?_
  refine AllReadyH.cons (o := _) rfl (fun K hK => ?_) AllReadyH.nil
  go_simp
  go_simp
  refine (HN.out ⟨#[51]⟩ _).mono ?_
  rintro e4 w4 ⟨rfl, hb4⟩
  replace X := Lib.hid (ExAt.bel (Bel.trans (by (repeat (first | exact Bel.refl _ | assumption | refine Bel.to_drewN ?_ _ | refine Bel.to_drew ?_ | refine Bel.to_setCell ?_ (by first | exact Nat.le_refl _ | (simp; done) | (simp; omega) | omega) _ | refine Bel.to_alloc ?_ _ | refine Bel.trans ?_ (by assumption)))) hb4) _ X.out)
  dsimp only
  have hbq : Bel w w4 := Bel.trans (by (repeat (first | exact Bel.refl _ | assumption | refine Bel.to_drewN ?_ _ | refine Bel.to_drew ?_ | refine Bel.to_setCell ?_ (by first | exact Nat.le_refl _ | (simp; done) | (simp; omega) | omega) _ | refine Bel.to_alloc ?_ _ | refine Bel.trans ?_ (by assumption)))) hb4
  refine hK.out _ _ ⟨hb4.keep hHeld.1, hb4.keep hHeld.2.1, hb4.keep hHeld.2.2.1, hb4.keep hHeld.2.2.2⟩ (fun hHeld => ?_)
  clear hK K hbv
  rename Bel w w4 => hbv
  refine wpAnyH_ready (rs := [17]) (by kernel_rfl) (by simp) ?_
  refine AllReadyH.cons (o := _) rfl (fun K hK => ?_) AllReadyH.nil
  go_simp
  go_simp
  refine (HBN.out pk (.mk 5 pi [] [numX 49, numX 50]) (numX 51) none 0 0 (some ⟨g3, 0, none⟩) 2 2 none 0 0 none 0 0 _ (ExAt.bel (by (repeat (first | exact Bel.refl _ | assumption | refine Bel.to_drewN ?_ _ | refine Bel.to_drew ?_ | refine Bel.to_setCell ?_ (by first | exact Nat.le_refl _ | (simp; done) | (simp; omega) | omega) _ | refine Bel.to_alloc ?_ _ | refine Bel.trans ?_ (by assumption)))) _ X.out) (exAt_leaf _ 0 _ (by decide))).mono ?_
  rintro e5 w5 ⟨g5, rfl, hb5, hx5⟩
  clear X
  have X := Lib.hid hx5
  clear hx5
  dsimp only
  have hbq : Bel w w5 := Bel.trans (by (repeat (first | exact Bel.refl _ | assumption | refine Bel.to_drewN ?_ _ | refine Bel.to_drew ?_ | refine Bel.to_setCell ?_ (by first | exact Nat.le_refl _ | (simp; done) | (simp; omega) | omega) _ | refine Bel.to_alloc ?_ _ | refine Bel.trans ?_ (by assumption)))) hb5
  refine hK.out _ _ ⟨hb5.keep hHeld.1, hb5.keep hHeld.2.1, hb5.keep hHeld.2.2.1, hb5.keep hHeld.2.2.2⟩ (fun hHeld => ?_)
  clear hK K hbv
  rename Bel w w5 => hbv
  refine wpAnyH_ready (rs := [18]) (by kernel_rfl) (by simp) ?_
  refine AllReadyH.cons (o := _) rfl (fun K hK => ?_) AllReadyH.nil
  go_simp
  go_at_call 10
  refine (HPL.out none 0 0 (some ⟨g5, 0, none⟩) 2 2 _ (by (repeat (first | exact Bel.refl _ | assumption | refine Bel.to_drewN ?_ _ | refine Bel.to_drew ?_ | refine Bel.to_setCell ?_ (by first | exact Nat.le_refl _ | (simp; done) | (simp; omega) | omega) _ | refine Bel.to_alloc ?_ _ | refine Bel.trans ?_ (by assumption)))) (ExAt.bel (by (repeat (first | exact Bel.refl _ | assumption | refine Bel.to_drewN ?_ _ | refine Bel.to_drew ?_ | refine Bel.to_setCell ?_ (by first | exact Nat.le_refl _ | (simp; done) | (simp; omega) | omega) _ | refine Bel.to_alloc ?_ _ | refine Bel.trans ?_ (by assumption)))) _ X.out)).mono ?_
  rintro e6 w6 ⟨rfl, hb6⟩
  clear X
  dsimp only
  have hbq : Bel w w6 := Bel.trans (by (repeat (first | exact Bel.refl _ | assumption | refine Bel.to_drewN ?_ _ | refine Bel.to_drew ?_ | refine Bel.to_setCell ?_ (by first | exact Nat.le_refl _ | (simp; done) | (simp; omega) | omega) _ | refine Bel.to_alloc ?_ _ | refine Bel.trans ?_ (by assumption)))) hb6
  refine hK.out _ _ ⟨hb6.keep hHeld.1, hb6.keep hHeld.2.1, hb6.keep hHeld.2.2.1, hb6.keep hHeld.2.2.2⟩ (fun hHeld => ?_)
  clear hK K hbv
  rename Bel w w6 => hbv
  refine wpAnyH_take (i := 19) (oi := _) (v := ?_) rfl (by kernel_rfl) (by kernel_rfl) (by kernel_rfl) (fun _ _ _ h => h) ?_ (by assumption) ?_
  rotate_left 1
  · first
      | (refine Or.inl ⟨by rfl, ?_⟩; intro w9 hSw; (try dsimp only at hSw); go_simp; (try with_reducible rfl); done)
      | (refine Or.inr ⟨by rfl, ?_⟩; rfl)
  simp only [List.getElem_toArray, List.getElem_cons_succ, List.getElem_cons_zero, Act.put, List.setIfInBounds_toArray, List.set_cons_zero, List.set_cons_succ]
  refine wpAnyH_take (i := 20) (oi := _) (v := ?_) rfl (by kernel_rfl) (by kernel_rfl) (by kernel_rfl) (fun _ _ _ h => h) ?_ (by assumption) ?_
  rotate_left 1
  · first
      | (refine Or.inl ⟨by rfl, ?_⟩; intro w9 hSw; (try dsimp only at hSw); go_simp; (try with_reducible rfl); done)
      | (refine Or.inr ⟨by rfl, ?_⟩; rfl)
  simp only [List.getElem_toArray, List.getElem_cons_succ, List.getElem_cons_zero, Act.put, List.setIfInBounds_toArray, List.set_cons_zero, List.set_cons_succ]
  refine wpAnyH_take (i := 21) (oi := _) (v := ?_) rfl (by kernel_rfl) (by kernel_rfl) (by kernel_rfl) (fun _ _ _ h => h) ?_ (by assumption) ?_
  rotate_left 1
  · first
      | (refine Or.inl ⟨by rfl, ?_⟩; intro w9 hSw; (try dsimp only at hSw); go_simp; (try with_reducible rfl); done)
      | (refine Or.inr ⟨by rfl, ?_⟩; rfl)
  simp only [List.getElem_toArray, List.getElem_cons_succ, List.getElem_cons_zero, Act.put, List.setIfInBounds_toArray, List.set_cons_zero, List.set_cons_succ]
  refine wpAnyH_take (i := 22) (oi := _) (v := ?_) rfl (by kernel_rfl) (by kernel_rfl) (by kernel_rfl) (fun _ _ _ h => h) ?_ (by assumption) ?_
  rotate_left 1
  · first
      | (refine Or.inl ⟨by rfl, ?_⟩; intro w9 hSw; (try dsimp only at hSw); go_simp; (try with_reducible rfl); done)
      | (refine Or.inr ⟨by rfl, ?_⟩; rfl)
  simp only [List.getElem_toArray, List.getElem_cons_succ, List.getElem_cons_zero, Act.put, List.setIfInBounds_toArray, List.set_cons_zero, List.set_cons_succ]
  refine wpAnyH_take (i := 23) (oi := _) (v := ?_) rfl (by kernel_rfl) (by kernel_rfl) (by kernel_rfl) (fun _ _ _ h => h) ?_ (by assumption) ?_
  rotate_left 1
  · first
      | (refine Or.inl ⟨by rfl, ?_⟩; intro w9 hSw; (try dsimp only at hSw); go_simp; (try with_reducible rfl); done)
      | (refine Or.inr ⟨by rfl, ?_⟩; rfl)
  simp only [List.getElem_toArray, List.getElem_cons_succ, List.getElem_cons_zero, Act.put, List.setIfInBounds_toArray, List.set_cons_zero, List.set_cons_succ]
  refine wpAnyH_done (by kernel_rfl) ?_ _
  go_wp2_with fail
  refine wp_region_held_drew (S := fun w' => w'.cell? ⟨w.heap.size, k, none⟩ = some (.string pk) ∧ w'.cell? ⟨w.heap.size, i, none⟩ = some (.string pi) ∧ w'.cell? ⟨w.heap.size + 1, i, none⟩ = some (.int .i64 li) ∧ w'.cell? ⟨w.heap.size + 1, k, none⟩ = some (.int .i64 lk)) (by kernel_rfl) hHeld (fun hHeld => ?_)
  refine wpAnyH_take (i := 0) (oi := _) (v := ?_) rfl (by kernel_rfl) (by kernel_rfl) (by kernel_rfl) (fun _ _ _ h => h) ?_ (by assumption) ?_
  rotate_left 1
  · first
      | (refine Or.inl ⟨by rfl, ?_⟩; intro w9 hSw; (try dsimp only at hSw); go_simp; (try with_reducible rfl); done)
      | (refine Or.inr ⟨by rfl, ?_⟩; rfl)
  simp only [List.getElem_toArray, List.getElem_cons_zero, Act.put, List.setIfInBounds_toArray, List.set_cons_zero, List.set_cons_succ]
  refine wpAnyH_take (i := 1) (oi := _) (v := ?_) rfl (by kernel_rfl) (by kernel_rfl) (by kernel_rfl) (fun _ _ _ h => h) ?_ (by assumption) ?_
  rotate_left 1
  · first
      | (refine Or.inl ⟨by rfl, ?_⟩; intro w9 hSw; (try dsimp only at hSw); go_simp; (try with_reducible rfl); done)
      | (refine Or.inr ⟨by rfl, ?_⟩; rfl)
  simp only [List.getElem_toArray, List.getElem_cons_succ, List.getElem_cons_zero, Act.put, List.setIfInBounds_toArray, List.set_cons_zero, List.set_cons_succ]
  refine wpAnyH_take (i := 2) (oi := _) (v := ?_) rfl (by kernel_rfl) (by kernel_rfl) (by kernel_rfl) (fun _ _ _ h => h) ?_ (by assumption) ?_
  rotate_left 1
  · first
      | (refine Or.inl ⟨by rfl, ?_⟩; intro w9 hSw; (try dsimp only at hSw); go_simp; (try with_reducible rfl); done)
      | (refine Or.inr ⟨by rfl, ?_⟩; rfl)
  simp only [List.getElem_toArray, List.getElem_cons_succ, List.getElem_cons_zero, Act.put, List.setIfInBounds_toArray, List.set_cons_zero, List.set_cons_succ]
  refine wpAnyH_take (i := 3) (oi := _) (v := ?_) rfl (by kernel_rfl) (by kernel_rfl) (by kernel_rfl) (fun _ _ _ h => h) ?_ (by assumption) ?_
  rotate_left 1
  · first
      | (refine Or.inl ⟨by rfl, ?_⟩; intro w9 hSw; (try dsimp only at hSw); go_simp; (try with_reducible rfl); done)
      | (refine Or.inr ⟨by rfl, ?_⟩; rfl)
  simp only [List.getElem_toArray, List.getElem_cons_succ, List.getElem_cons_zero, Act.put, List.setIfInBounds_toArray, List.set_cons_zero, List.set_cons_succ]
  refine wpAnyH_take (i := 4) (oi := _) (v := ?_) rfl (by kernel_rfl) (by kernel_rfl) (by kernel_rfl) (fun _ _ _ h => h) ?_ (by assumption) ?_
  rotate_left 1
  · first
      | (refine Or.inl ⟨by rfl, ?_⟩; intro w9 hSw; (try dsimp only at hSw); go_simp; (try with_reducible rfl); done)
      | (refine Or.inr ⟨by rfl, ?_⟩; rfl)
  simp only [List.getElem_toArray, List.getElem_cons_succ, List.getElem_cons_zero, Act.put, List.setIfInBounds_toArray, List.set_cons_zero, List.set_cons_succ]
  refine wpAnyH_take (i := 5) (oi := _) (v := ?_) rfl (by kernel_rfl) (by kernel_rfl) (by kernel_rfl) (fun _ _ _ h => h) ?_ (by assumption) ?_
  rotate_left 1
  · first
      | (refine Or.inl ⟨by rfl, ?_⟩; intro w9 hSw; (try dsimp only at hSw); go_simp; (try with_reducible rfl); done)
      | (refine Or.inr ⟨by rfl, ?_⟩; rfl)
  simp only [List.getElem_toArray, List.getElem_cons_succ, List.getElem_cons_zero, Act.put, List.setIfInBounds_toArray, List.set_cons_zero, List.set_cons_succ]
  refine wpAnyH_take (i := 7) (oi := _) (v := ?_) rfl (by kernel_rfl) (by kernel_rfl) (by kernel_rfl) (fun _ _ _ h => h) ?_ (by assumption) ?_
  rotate_left 1
  · first
      | (refine Or.inl ⟨by rfl, ?_⟩; intro w9 hSw; (try dsimp only at hSw); go_simp; (try with_reducible rfl); done)
      | (refine Or.inr ⟨by rfl, ?_⟩; rfl)
  simp only [List.getElem_toArray, List.getElem_cons_succ, List.getElem_cons_zero, Act.put, List.setIfInBounds_toArray, List.set_cons_zero, List.set_cons_succ]
  refine wpAnyH_take (i := 8) (oi := _) (v := ?_) rfl (by kernel_rfl) (by kernel_rfl) (by kernel_rfl) (fun _ _ _ h => h) ?_ (by assumption) ?_
  rotate_left 1
  · first
      | (refine Or.inl ⟨by rfl, ?_⟩; intro w9 hSw; (try dsimp only at hSw); go_simp; (try with_reducible rfl); done)
      | (refine Or.inr ⟨by rfl, ?_⟩; rfl)
  simp only [List.getElem_toArray, List.getElem_cons_succ, List.getElem_cons_zero, Act.put, List.setIfInBounds_toArray, List.set_cons_zero, List.set_cons_succ]
  refine wpAnyH_take (i := 9) (oi := _) (v := ?_) rfl (by kernel_rfl) (by kernel_rfl) (by kernel_rfl) (fun _ _ _ h => h) ?_ (by assumption) ?_
  rotate_left 1
  · first
      | (refine Or.inl ⟨by rfl, ?_⟩; intro w9 hSw; (try dsimp only at hSw); go_simp; (try with_reducible rfl); done)
      | (refine Or.inr ⟨by rfl, ?_⟩; rfl)
  simp only [List.getElem_toArray, List.getElem_cons_succ, List.getElem_cons_zero, Act.put, List.setIfInBounds_toArray, List.set_cons_zero, List.set_cons_succ]
  refine wpAnyH_take (i := 10) (oi := _) (v := ?_) rfl (by kernel_rfl) (by kernel_rfl) (by kernel_rfl) (fun _ _ _ h => h) ?_ (by assumption) ?_
  rotate_left 1
  · first
      | (refine Or.inl ⟨by rfl, ?_⟩; intro w9 hSw; (try dsimp only at hSw); go_simp; (try with_reducible rfl); done)
      | (refine Or.inr ⟨by rfl, ?_⟩; rfl)
  simp only [List.getElem_toArray, List.getElem_cons_succ, List.getElem_cons_zero, Act.put, List.setIfInBounds_toArray, List.set_cons_zero, List.set_cons_succ]
  refine wpAnyH_take (i := 11) (oi := _) (v := ?_) rfl (by kernel_rfl) (by kernel_rfl) (by kernel_rfl) (fun _ _ _ h => h) ?_ (by assumption) ?_
  rotate_left 1
  · first
      | (refine Or.inl ⟨by rfl, ?_⟩; intro w9 hSw; (try dsimp only at hSw); go_simp; (try with_reducible rfl); done)
      | (refine Or.inr ⟨by rfl, ?_⟩; rfl)
  simp only [List.getElem_toArray, List.getElem_cons_succ, List.getElem_cons_zero, Act.put, List.setIfInBounds_toArray, List.set_cons_zero, List.set_cons_succ]
  refine wpAnyH_take (i := 12) (oi := _) (v := ?_) rfl (by kernel_rfl) (by kernel_rfl) (by kernel_rfl) (fun _ _ _ h => h) ?_ (by assumption) ?_
  rotate_left 1
  · first
      | (refine Or.inl ⟨by rfl, ?_⟩; intro w9 hSw; (try dsimp only at hSw); go_simp; (try with_reducible rfl); done)
      | (refine Or.inr ⟨by rfl, ?_⟩; rfl)
  simp only [List.getElem_toArray, List.getElem_cons_succ, List.getElem_cons_zero, Act.put, List.setIfInBounds_toArray, List.set_cons_zero, List.set_cons_succ]
  refine wpAnyH_take (i := 14) (oi := _) (v := ?_) rfl (by kernel_rfl) (by kernel_rfl) (by kernel_rfl) (fun _ _ _ h => h) ?_ (by assumption) ?_
  rotate_left 1
  · first
      | (refine Or.inl ⟨by rfl, ?_⟩; intro w9 hSw; (try dsimp only at hSw); go_simp; (try with_reducible rfl); done)
      | (refine Or.inr ⟨by rfl, ?_⟩; rfl)
  simp only [List.getElem_toArray, List.getElem_cons_succ, List.getElem_cons_zero, Act.put, List.setIfInBounds_toArray, List.set_cons_zero, List.set_cons_succ]
  refine wpAnyH_ready (rs := [6]) (by kernel_rfl) (by simp) ?_
  refine AllReadyH.cons (o := _) rfl (fun K hK => ?_) AllReadyH.nil
  go_simp
  go_simp
  refine (HN.out ⟨#[49]⟩ _).mono ?_
  rintro e7 w7 ⟨rfl, hb7⟩
  dsimp only
  have hbq : Bel w w7 := Bel.trans (by (repeat (first | exact Bel.refl _ | assumption | refine Bel.to_drewN ?_ _ | refine Bel.to_drew ?_ | refine Bel.to_setCell ?_ (by first | exact Nat.le_refl _ | (simp; done) | (simp; omega) | omega) _ | refine Bel.to_alloc ?_ _ | refine Bel.trans ?_ (by assumption)))) hb7
  refine hK.out _ _ ⟨hb7.keep hHeld.1, hb7.keep hHeld.2.1, hb7.keep hHeld.2.2.1, hb7.keep hHeld.2.2.2⟩ (fun hHeld => ?_)
  clear hK K hbv
  rename Bel w w7 => hbv
  refine wpAnyH_ready (rs := [13]) (by kernel_rfl) (by simp) ?_
  refine AllReadyH.cons (o := _) rfl (fun K hK => ?_) AllReadyH.nil
  go_simp
  go_simp
  refine (HN.out ⟨#[50]⟩ _).mono ?_
  rintro e8 w8 ⟨rfl, hb8⟩
  dsimp only
  have hbq : Bel w w8 := Bel.trans (by (repeat (first | exact Bel.refl _ | assumption | refine Bel.to_drewN ?_ _ | refine Bel.to_drew ?_ | refine Bel.to_setCell ?_ (by first | exact Nat.le_refl _ | (simp; done) | (simp; omega) | omega) _ | refine Bel.to_alloc ?_ _ | refine Bel.trans ?_ (by assumption)))) hb8
  refine hK.out _ _ ⟨hb8.keep hHeld.1, hb8.keep hHeld.2.1, hb8.keep hHeld.2.2.1, hb8.keep hHeld.2.2.2⟩ (fun hHeld => ?_)
  clear hK K hbv
  rename Bel w w8 => hbv
  refine wpAnyH_ready (rs := [15]) (by kernel_rfl) (by simp) ?_
  refine AllReadyH.cons (o := _) rfl (fun K hK => ?_) AllReadyH.nil
  go_simp
  go_simp
  refine (HN.out ⟨#[51]⟩ _).mono ?_
  rintro e9 w9 ⟨rfl, hb9⟩
  dsimp only
  have hbq : Bel w w9 := Bel.trans (by (repeat (first | exact Bel.refl _ | assumption | refine Bel.to_drewN ?_ _ | refine Bel.to_drew ?_ | refine Bel.to_setCell ?_ (by first | exact Nat.le_refl _ | (simp; done) | (simp; omega) | omega) _ | refine Bel.to_alloc ?_ _ | refine Bel.trans ?_ (by assumption)))) hb9
  refine hK.out _ _ ⟨hb9.keep hHeld.1, hb9.keep hHeld.2.1, hb9.keep hHeld.2.2.1, hb9.keep hHeld.2.2.2⟩ (fun hHeld => ?_)
  clear hK K hbv
  rename Bel w w9 => hbv
  refine wpAnyH_ready (rs := [16]) (by kernel_rfl) (by simp) ?_
  refine AllReadyH.cons (o := _) rfl (fun K hK => ?_) AllReadyH.nil
  go_simp
  go_simp
  refine (HBN.out pi (numX 50) (numX 51) none 0 0 none 0 0 none 0 0 none 0 0 _ (exAt_leaf _ 0 _ (by decide)) (exAt_leaf _ 0 _ (by decide))).mono ?_
  rintro e10 w10 ⟨g10, rfl, hb10, hx10⟩
  have X := Lib.hid hx10
  clear hx10
  dsimp only
  have hbq : Bel w w10 := Bel.trans (by (repeat (first | exact Bel.refl _ | assumption | refine Bel.to_drewN ?_ _ | refine Bel.to_drew ?_ | refine Bel.to_setCell ?_ (by first | exact Nat.le_refl _ | (simp; done) | (simp; omega) | omega) _ | refine Bel.to_alloc ?_ _ | refine Bel.trans ?_ (by assumption)))) hb10
  refine hK.out _ _ ⟨hb10.keep hHeld.1, hb10.keep hHeld.2.1, hb10.keep hHeld.2.2.1, hb10.keep hHeld.2.2.2⟩ (fun hHeld => ?_)
  clear hK K hbv
  rename Bel w w10 => hbv
  refine wpAnyH_ready (rs := [17]) (by kernel_rfl) (by simp) ?_
  refine AllReadyH.cons (o := _) rfl (fun K hK => ?_) AllReadyH.nil
  go_simp
  go_simp
  refine (HBN.out pk (numX 49) (.mk 5 pi [] [numX 50, numX 51]) none 0 0 none 0 0 none 0 0 (some ⟨g10, 0, none⟩) 2 2 _ (exAt_leaf _ 0 _ (by decide)) (ExAt.bel (by (repeat (first | exact Bel.refl _ | assumption | refine Bel.to_drewN ?_ _ | refine Bel.to_drew ?_ | refine Bel.to_setCell ?_ (by first | exact Nat.le_refl _ | (simp; done) | (simp; omega) | omega) _ | refine Bel.to_alloc ?_ _ | refine Bel.trans ?_ (by assumption)))) _ X.out)).mono ?_
  rintro e11 w11 ⟨g11, rfl, hb11, hx11⟩
  clear X
  have X := Lib.hid hx11
  clear hx11
  dsimp only
  have hbq : Bel w w11 := Bel.trans (by (repeat (first | exact Bel.refl _ | assumption | refine Bel.to_drewN ?_ _ | refine Bel.to_drew ?_ | refine Bel.to_setCell ?_ (by first | exact Nat.le_refl _ | (simp; done) | (simp; omega) | omega) _ | refine Bel.to_alloc ?_ _ | refine Bel.trans ?_ (by assumption)))) hb11
  refine hK.out _ _ ⟨hb11.keep hHeld.1, hb11.keep hHeld.2.1, hb11.keep hHeld.2.2.1, hb11.keep hHeld.2.2.2⟩ (fun hHeld => ?_)
  clear hK K hbv
  rename Bel w w11 => hbv
  refine wpAnyH_ready (rs := [18]) (by kernel_rfl) (by simp) ?_
  refine AllReadyH.cons (o := _) rfl (fun K hK => ?_) AllReadyH.nil
  go_simp
  go_at_call 10
  refine (HPRR.out none 0 0 (some ⟨g11, 0, none⟩) 2 2 _ (by (repeat (first | exact Bel.refl _ | assumption | refine Bel.to_drewN ?_ _ | refine Bel.to_drew ?_ | refine Bel.to_setCell ?_ (by first | exact Nat.le_refl _ | (simp; done) | (simp; omega) | omega) _ | refine Bel.to_alloc ?_ _ | refine Bel.trans ?_ (by assumption)))) (ExAt.bel (by (repeat (first | exact Bel.refl _ | assumption | refine Bel.to_drewN ?_ _ | refine Bel.to_drew ?_ | refine Bel.to_setCell ?_ (by first | exact Nat.le_refl _ | (simp; done) | (simp; omega) | omega) _ | refine Bel.to_alloc ?_ _ | refine Bel.trans ?_ (by assumption)))) _ X.out)).mono ?_
  rintro e12 w12 ⟨rfl, hb12⟩
  clear X
  dsimp only
  have hbq : Bel w w12 := Bel.trans (by (repeat (first | exact Bel.refl _ | assumption | refine Bel.to_drewN ?_ _ | refine Bel.to_drew ?_ | refine Bel.to_setCell ?_ (by first | exact Nat.le_refl _ | (simp; done) | (simp; omega) | omega) _ | refine Bel.to_alloc ?_ _ | refine Bel.trans ?_ (by assumption)))) hb12
  refine hK.out _ _ ⟨hb12.keep hHeld.1, hb12.keep hHeld.2.1, hb12.keep hHeld.2.2.1, hb12.keep hHeld.2.2.2⟩ (fun hHeld => ?_)
  clear hK K hbv
  rename Bel w w12 => hbv
  refine wpAnyH_take (i := 19) (oi := _) (v := ?_) rfl (by kernel_rfl) (by kernel_rfl) (by kernel_rfl) (fun _ _ _ h => h) ?_ (by assumption) ?_
  rotate_left 1
  · first
      | (refine Or.inl ⟨by rfl, ?_⟩; intro w9 hSw; (try dsimp only at hSw); go_simp; (try with_reducible rfl); done)
      | (refine Or.inr ⟨by rfl, ?_⟩; rfl)
  simp only [List.getElem_toArray, List.getElem_cons_succ, List.getElem_cons_zero, Act.put, List.setIfInBounds_toArray, List.set_cons_zero, List.set_cons_succ]
  refine wpAnyH_take (i := 20) (oi := _) (v := ?_) rfl (by kernel_rfl) (by kernel_rfl) (by kernel_rfl) (fun _ _ _ h => h) ?_ (by assumption) ?_
  rotate_left 1
  · first
      | (refine Or.inl ⟨by rfl, ?_⟩; intro w9 hSw; (try dsimp only at hSw); go_simp; (try with_reducible rfl); done)
      | (refine Or.inr ⟨by rfl, ?_⟩; rfl)
  simp only [List.getElem_toArray, List.getElem_cons_succ, List.getElem_cons_zero, Act.put, List.setIfInBounds_toArray, List.set_cons_zero, List.set_cons_succ]
  refine wpAnyH_take (i := 21) (oi := _) (v := ?_) rfl (by kernel_rfl) (by kernel_rfl) (by kernel_rfl) (fun _ _ _ h => h) ?_ (by assumption) ?_
  rotate_left 1
  · first
      | (refine Or.inl ⟨by rfl, ?_⟩; intro w9 hSw; (try dsimp only at hSw); go_simp; (try with_reducible rfl); done)
      | (refine Or.inr ⟨by rfl, ?_⟩; rfl)
  simp only [List.getElem_toArray, List.getElem_cons_succ, List.getElem_cons_zero, Act.put, List.setIfInBounds_toArray, List.set_cons_zero, List.set_cons_succ]
  refine wpAnyH_take (i := 22) (oi := _) (v := ?_) rfl (by kernel_rfl) (by kernel_rfl) (by kernel_rfl) (fun _ _ _ h => h) ?_ (by assumption) ?_
  rotate_left 1
  · first
      | (refine Or.inl ⟨by rfl, ?_⟩; intro w9 hSw; (try dsimp only at hSw); go_simp; (try with_reducible rfl); done)
      | (refine Or.inr ⟨by rfl, ?_⟩; rfl)
  simp only [List.getElem_toArray, List.getElem_cons_succ, List.getElem_cons_zero, Act.put, List.setIfInBounds_toArray, List.set_cons_zero, List.set_cons_succ]
  refine wpAnyH_take (i := 23) (oi := _) (v := ?_) rfl (by kernel_rfl) (by kernel_rfl) (by kernel_rfl) (fun _ _ _ h => h) ?_ (by assumption) ?_
  rotate_left 1
  · first
      | (refine Or.inl ⟨by rfl, ?_⟩; intro w9 hSw; (try dsimp only at hSw); go_simp; (try with_reducible rfl); done)
      | (refine Or.inr ⟨by rfl, ?_⟩; rfl)
  simp only [List.getElem_toArray, List.getElem_cons_succ, List.getElem_cons_zero, Act.put, List.setIfInBounds_toArray, List.set_cons_zero, List.set_cons_succ]
  refine wpAnyH_done (by kernel_rfl) ?_ _
  obtain ⟨q1, q2, q3, q4⟩ := hHeld
  have HSI2 := HSI.out
  have HSK2 := HSK.out
  have sz0 : (⟨#[49, 32]⟩ : ByteArray).size = 2 := rfl
  have sz1 : (⟨#[32, 50, 32]⟩ : ByteArray).size = 3 := rfl
  have sz2 : (⟨#[32, 51]⟩ : ByteArray).size = 2 := rfl
  have sz3 : (⟨#[40, 49, 32]⟩ : ByteArray).size = 3 := rfl
  have sz4 : (⟨#[32, 50, 41, 32]⟩ : ByteArray).size = 4 := rfl
  have sz5 : (⟨#[32, 40, 50, 32]⟩ : ByteArray).size = 4 := rfl
  have sz6 : (⟨#[32, 51, 41]⟩ : ByteArray).size = 3 := rfl
  have hz1 := (show ¬ (9223372036854775807 < (⟨#[49, 32]⟩ : ByteArray).size + pi.size) from by have := HSI.out; have := HSK.out; (try simp only [ByteArray.size_append]); omega)
  have hz2 := (show ¬ (9223372036854775807 < ((⟨#[49, 32]⟩ : ByteArray) ++ pi).size + (⟨#[32, 50, 32]⟩ : ByteArray).size) from by have := HSI.out; have := HSK.out; (try simp only [ByteArray.size_append]); omega)
  have hz3 := (show ¬ (9223372036854775807 < (((⟨#[49, 32]⟩ : ByteArray) ++ pi) ++ ⟨#[32, 50, 32]⟩).size + pk.size) from by have := HSI.out; have := HSK.out; (try simp only [ByteArray.size_append]); omega)
  have hz4 := (show ¬ (9223372036854775807 < ((((⟨#[49, 32]⟩ : ByteArray) ++ pi) ++ ⟨#[32, 50, 32]⟩) ++ pk).size + (⟨#[32, 51]⟩ : ByteArray).size) from by have := HSI.out; have := HSK.out; (try simp only [ByteArray.size_append]); omega)
  have hz5 := (show ¬ (9223372036854775807 < (⟨#[49, 32]⟩ : ByteArray).size + pk.size) from by have := HSI.out; have := HSK.out; (try simp only [ByteArray.size_append]); omega)
  have hz6 := (show ¬ (9223372036854775807 < ((⟨#[49, 32]⟩ : ByteArray) ++ pk).size + (⟨#[32, 50, 32]⟩ : ByteArray).size) from by have := HSI.out; have := HSK.out; (try simp only [ByteArray.size_append]); omega)
  have hz7 := (show ¬ (9223372036854775807 < (((⟨#[49, 32]⟩ : ByteArray) ++ pk) ++ ⟨#[32, 50, 32]⟩).size + pi.size) from by have := HSI.out; have := HSK.out; (try simp only [ByteArray.size_append]); omega)
  have hz8 := (show ¬ (9223372036854775807 < ((((⟨#[49, 32]⟩ : ByteArray) ++ pk) ++ ⟨#[32, 50, 32]⟩) ++ pi).size + (⟨#[32, 51]⟩ : ByteArray).size) from by have := HSI.out; have := HSK.out; (try simp only [ByteArray.size_append]); omega)
  have hz9 := (show ¬ (9223372036854775807 < (⟨#[40, 49, 32]⟩ : ByteArray).size + pi.size) from by have := HSI.out; have := HSK.out; (try simp only [ByteArray.size_append]); omega)
  have hz10 := (show ¬ (9223372036854775807 < ((⟨#[40, 49, 32]⟩ : ByteArray) ++ pi).size + (⟨#[32, 50, 41, 32]⟩ : ByteArray).size) from by have := HSI.out; have := HSK.out; (try simp only [ByteArray.size_append]); omega)
  have hz11 := (show ¬ (9223372036854775807 < (((⟨#[40, 49, 32]⟩ : ByteArray) ++ pi) ++ ⟨#[32, 50, 41, 32]⟩).size + pk.size) from by have := HSI.out; have := HSK.out; (try simp only [ByteArray.size_append]); omega)
  have hz12 := (show ¬ (9223372036854775807 < ((((⟨#[40, 49, 32]⟩ : ByteArray) ++ pi) ++ ⟨#[32, 50, 41, 32]⟩) ++ pk).size + (⟨#[32, 51]⟩ : ByteArray).size) from by have := HSI.out; have := HSK.out; (try simp only [ByteArray.size_append]); omega)
  have hz13 := (show ¬ (9223372036854775807 < (⟨#[49, 32]⟩ : ByteArray).size + pk.size) from by have := HSI.out; have := HSK.out; (try simp only [ByteArray.size_append]); omega)
  have hz14 := (show ¬ (9223372036854775807 < ((⟨#[49, 32]⟩ : ByteArray) ++ pk).size + (⟨#[32, 40, 50, 32]⟩ : ByteArray).size) from by have := HSI.out; have := HSK.out; (try simp only [ByteArray.size_append]); omega)
  have hz15 := (show ¬ (9223372036854775807 < (((⟨#[49, 32]⟩ : ByteArray) ++ pk) ++ ⟨#[32, 40, 50, 32]⟩).size + pi.size) from by have := HSI.out; have := HSK.out; (try simp only [ByteArray.size_append]); omega)
  have hz16 := (show ¬ (9223372036854775807 < ((((⟨#[49, 32]⟩ : ByteArray) ++ pk) ++ ⟨#[32, 40, 50, 32]⟩) ++ pi).size + (⟨#[32, 51, 41]⟩ : ByteArray).size) from by have := HSI.out; have := HSK.out; (try simp only [ByteArray.size_append]); omega)
  clear sz0 sz1 sz2 sz3 sz4 sz5 sz6
  go_wp2_with fail
  go_region
  go_wp2_with fail
  have HBV := Lib.hid hbv
  have hcase : (li < lk) ∨ (¬ li < lk ∧ li = 3 ∧ lk = 3) ∨ (¬ li < lk ∧ li = 3 ∧ lk ≠ 3) ∨ (¬ li < lk ∧ li ≠ 3 ∧ li = lk) ∨ (¬ li < lk ∧ li ≠ 3 ∧ li ≠ lk) := by omega
  rcases hcase with h | ⟨h, h3, h4⟩ | ⟨h, h3, h4⟩ | ⟨h, h3, h4⟩ | ⟨h, h3, h4⟩
  · have hlt : (li : Int) < lk := by omega
    have hle : (li : Int) ≤ lk := by omega
    have hL := HTL.out
    have hR := HTR.out
    rw [if_pos (by omega)] at hL
    rw [if_pos (by omega)] at hR
    subst hL hR
    clear h
    go_region
    go_wp2_with fail
    go_region
    go_wp2_with fail
    go_region
    go_wp2_with fail
    go_region
    go_wp2_with fail
    refine (falive_c _ (HE.out.bel (Bel.trans HBV.out (by (repeat (first | exact Bel.refl _ | assumption | refine Bel.to_drewN ?_ _ | refine Bel.to_drew ?_ | refine Bel.to_setCell ?_ (by first | exact Nat.le_refl _ | (simp; done) | (simp; omega) | omega) _ | refine Bel.to_alloc ?_ _ | refine Bel.trans ?_ (by assumption))))))).mono ?_
    rintro e20 w20 ⟨rfl, hb20⟩
    go_wp2_with fail
    go_ret
    exact ⟨rfl, Bel.trans (Bel.trans HBV.out (by (repeat (first | exact Bel.refl _ | assumption | refine Bel.to_drewN ?_ _ | refine Bel.to_drew ?_ | refine Bel.to_setCell ?_ (by first | exact Nat.le_refl _ | (simp; done) | (simp; omega) | omega) _ | refine Bel.to_alloc ?_ _ | refine Bel.trans ?_ (by assumption))))) hb20⟩
  · have hlt : ¬ ((li : Int) < lk) := by omega
    have h3i : ((li : Int) == 3) = true := by rw [h3]; rfl
    have h3k : ((lk : Int) == 3) = true := by rw [h4]; rfl
    have hle : (li : Int) ≤ lk := by omega
    have hL := HTL.out
    have hR := HTR.out
    rw [if_pos (by omega)] at hL
    rw [if_pos (by omega)] at hR
    subst hL hR
    clear h h3 h4
    go_region
    go_wp2_with fail
    go_region
    go_wp2_with fail
    go_region
    go_wp2_with fail
    go_region
    go_wp2_with fail
    refine (falive_c _ (HE.out.bel (Bel.trans HBV.out (by (repeat (first | exact Bel.refl _ | assumption | refine Bel.to_drewN ?_ _ | refine Bel.to_drew ?_ | refine Bel.to_setCell ?_ (by first | exact Nat.le_refl _ | (simp; done) | (simp; omega) | omega) _ | refine Bel.to_alloc ?_ _ | refine Bel.trans ?_ (by assumption))))))).mono ?_
    rintro e20 w20 ⟨rfl, hb20⟩
    go_wp2_with fail
    go_ret
    exact ⟨rfl, Bel.trans (Bel.trans HBV.out (by (repeat (first | exact Bel.refl _ | assumption | refine Bel.to_drewN ?_ _ | refine Bel.to_drew ?_ | refine Bel.to_setCell ?_ (by first | exact Nat.le_refl _ | (simp; done) | (simp; omega) | omega) _ | refine Bel.to_alloc ?_ _ | refine Bel.trans ?_ (by assumption))))) hb20⟩
  · have hlt : ¬ ((li : Int) < lk) := by omega
    have h3i : ((li : Int) == 3) = true := by rw [h3]; rfl
    have h3k : ((lk : Int) == 3) = false := beq_eq_false_iff_ne.2 (by omega)
    have hle : ¬ ((li : Int) ≤ lk) := by omega
    have hL := HTL.out
    have hR := HTR.out
    rw [if_neg (by omega)] at hL
    rw [if_neg (by omega)] at hR
    subst hL hR
    clear h h3 h4
    go_region
    go_wp2_with fail
    go_region
    go_wp2_with fail
    refine (falive_c _ (HE.out.bel (Bel.trans HBV.out (by (repeat (first | exact Bel.refl _ | assumption | refine Bel.to_drewN ?_ _ | refine Bel.to_drew ?_ | refine Bel.to_setCell ?_ (by first | exact Nat.le_refl _ | (simp; done) | (simp; omega) | omega) _ | refine Bel.to_alloc ?_ _ | refine Bel.trans ?_ (by assumption))))))).mono ?_
    rintro e20 w20 ⟨rfl, hb20⟩
    go_wp2_with fail
    go_ret
    exact ⟨rfl, Bel.trans (Bel.trans HBV.out (by (repeat (first | exact Bel.refl _ | assumption | refine Bel.to_drewN ?_ _ | refine Bel.to_drew ?_ | refine Bel.to_setCell ?_ (by first | exact Nat.le_refl _ | (simp; done) | (simp; omega) | omega) _ | refine Bel.to_alloc ?_ _ | refine Bel.trans ?_ (by assumption))))) hb20⟩
  · have hlt : ¬ ((li : Int) < lk) := by omega
    have h3i : ((li : Int) == 3) = false := beq_eq_false_iff_ne.2 (by omega)
    have hle : (li : Int) ≤ lk := by omega
    have hL := HTL.out
    have hR := HTR.out
    rw [if_neg (by omega)] at hL
    rw [if_pos (by omega)] at hR
    subst hL hR
    clear h h3 h4
    go_region
    go_wp2_with fail
    go_region
    go_wp2_with fail
    go_region
    go_wp2_with fail
    refine (falive_c _ (HE.out.bel (Bel.trans HBV.out (by (repeat (first | exact Bel.refl _ | assumption | refine Bel.to_drewN ?_ _ | refine Bel.to_drew ?_ | refine Bel.to_setCell ?_ (by first | exact Nat.le_refl _ | (simp; done) | (simp; omega) | omega) _ | refine Bel.to_alloc ?_ _ | refine Bel.trans ?_ (by assumption))))))).mono ?_
    rintro e20 w20 ⟨rfl, hb20⟩
    go_wp2_with fail
    go_ret
    exact ⟨rfl, Bel.trans (Bel.trans HBV.out (by (repeat (first | exact Bel.refl _ | assumption | refine Bel.to_drewN ?_ _ | refine Bel.to_drew ?_ | refine Bel.to_setCell ?_ (by first | exact Nat.le_refl _ | (simp; done) | (simp; omega) | omega) _ | refine Bel.to_alloc ?_ _ | refine Bel.trans ?_ (by assumption))))) hb20⟩
  · have hlt : ¬ ((li : Int) < lk) := by omega
    have h3i : ((li : Int) == 3) = false := beq_eq_false_iff_ne.2 (by omega)
    have hle : ¬ ((li : Int) ≤ lk) := by omega
    have hL := HTL.out
    have hR := HTR.out
    rw [if_neg (by omega)] at hL
    rw [if_neg (by omega)] at hR
    subst hL hR
    clear h h3 h4
    go_region
    go_wp2_with fail
    go_region
    go_wp2_with fail
    refine (falive_c _ (HE.out.bel (Bel.trans HBV.out (by (repeat (first | exact Bel.refl _ | assumption | refine Bel.to_drewN ?_ _ | refine Bel.to_drew ?_ | refine Bel.to_setCell ?_ (by first | exact Nat.le_refl _ | (simp; done) | (simp; omega) | omega) _ | refine Bel.to_alloc ?_ _ | refine Bel.trans ?_ (by assumption))))))).mono ?_
    rintro e20 w20 ⟨rfl, hb20⟩
    go_wp2_with fail
    go_ret
    exact ⟨rfl, Bel.trans (Bel.trans HBV.out (by (repeat (first | exact Bel.refl _ | assumption | refine Bel.to_drewN ?_ _ | refine Bel.to_drew ?_ | refine Bel.to_setCell ?_ (by first | exact Nat.le_refl _ | (simp; done) | (simp; omega) | omega) _ | refine Bel.to_alloc ?_ _ | refine Bel.trans ?_ (by assumption))))) hb20⟩
end Go.Proofs.YtpenfnabeckboaaGreatDoor
