/-
  The document's xmlout: the walks of Escape, value, name, decimal.
-/
import Derived.Test.YtojeclfcgnamoaaDoorRE
import Derived.Test.YtojeclfcgnamoaaDoorWII
namespace Go.Proofs.YtojeclfcgnamoaaDoor
open Go.RowKit

theorem app_list (a b : ByteArray) : (a ++ b).data.toList = a.data.toList ++ b.data.toList := by simp [ByteArray.data_append]
theorem app_size (a b : ByteArray) : (a ++ b).size = a.size + b.size := ByteArray.size_append
theorem size_list (a : ByteArray) : a.size = a.data.toList.length := by rw [Array.length_toList]; rfl
theorem of_list {a : ByteArray} {l : List UInt8} (h : a.data.toList = l) : a = ⟨l.toArray⟩ := bytes_inj (by rw [h])
theorem one_list {s : ByteArray} {j : Nat} (h : j < s.size) : (s.extract j (j + 1)).data.toList = [s.get! j] ∧ s.data.toList.drop j = s.get! j :: s.data.toList.drop (j + 1) ∧ s.data.toList.take (j + 1) = s.data.toList.take j ++ [s.get! j] := by
  have h1 : j < s.data.toList.length := by rw [← size_list]; exact h
  have h2 : s.data.toList[j] = s.get! j := by
    rw [get_bang s j h, Array.getElem_toList]
  refine ⟨?_, ?_, ?_⟩
  · rw [ByteArray.data_extract, Array.toList_extract, List.extract_eq_take_drop]
    rw [List.drop_eq_getElem_cons h1, show j + 1 - j = 1 from by omega, h2]
    rfl
  · rw [List.drop_eq_getElem_cons h1, h2]
  · rw [List.take_add_one, List.getElem?_eq_getElem h1, h2]; rfl
/-- What Escape answers. -/
def RetEs (v : Bool) (s : ByteArray) (w : World) (e : Ending) (w' : World) : Prop := ∃ o : ByteArray, e = .returned (.tuple #[.string o, .bool (fineS s)]) ∧ (fineS s = true → o.data.toList = escL v s) ∧ o.size ≤ 6 * s.size ∧ Bel w w'
set_option maxRecDepth 100000 in
set_option maxHeartbeats 8000000 in
theorem d6esc_c (s : ByteArray) (v : Bool) (hs : s.size ≤ 1073741824) (w : World) : Calls Tryd.prog 46 #[.string s, .bool v] w (RetEs v s w) := by
  unfold RetEs
  have HCK := Lib.hid fun x W (_hb : Bel w W) hv => rcheck_c s (by omega) x W hv
  have hle := chkS_le s
  have heq : ((chkS s : Int) != (s.size : Int)) = !fineS s := by
    unfold fineS
    by_cases h : chkS s < s.size
    · rw [decide_eq_true h]; simp; omega
    · rw [decide_eq_false h]; simp; omega
  obtain ⟨N, hN⟩ : ∃ N, chkS s = N := ⟨_, rfl⟩
  obtain ⟨F, hF⟩ : ∃ F, fineS s = F := ⟨_, rfl⟩
  rw [hN] at HCK heq hle
  rw [hF] at heq ⊢
  clear hN hF
  cases F
  · rw [show (!false) = true from rfl] at heq
    go_enter Tryd.func46, Tryd.ntmps46
    go_wp2_with (refine wpL_bytes rfl 9 31 5 _ rfl s rfl Tryd.underlying9 Tryd.underlying31 Tryd.underlying5 ?_; intro x W1 hv hb1)
    refine (HCK.out _ _ hb1 hv).mono ?_
    rintro e w2 ⟨rfl, hb2⟩
    go_wp2_with fail
    go_ret2
    exact ⟨⟨#[]⟩, rfl, fun e => Bool.noConfusion e, Nat.zero_le _, hb1.trans hb2⟩
  · rw [show (!true) = false from rfl] at heq
    go_enter Tryd.func46, Tryd.ntmps46
    go_wp2_with (refine wpL_bytes rfl 9 31 5 _ rfl s rfl Tryd.underlying9 Tryd.underlying31 Tryd.underlying5 ?_; intro x W1 hv hb1)
    refine (HCK.out _ _ hb1 hv).mono ?_
    rintro e w2 ⟨rfl, hb2⟩
    have HB2 := Lib.hid (hb1.trans hb2)
    clear HCK hb1 hb2 hv hle
    go_wp2_with fail
    go_loopw [6, 7] (fun o i wr => ∃ (j : Nat) (O : ByteArray), o = .string O ∧ i = .int .i64 j ∧ j ≤ s.size ∧ Hid (O.data.toList = (s.data.toList.take j).flatMap (escC v)) ∧ O.size ≤ 6 * j ∧ Hid (Bel w wr)) (fun _ i _ => s.size - (intOf i).toNat)
    case atStart => exact ⟨0, ⟨#[]⟩, rfl, rfl, Nat.zero_le _, Lib.hid rfl, by decide, HB2⟩
    case round =>
      obtain ⟨j, O, rfl, rfl, hj, HOJ, hoz, HBJ⟩ := hrel
      by_cases hlt : j < s.size
      · have hlti : (j : Int) < s.size := by omega
        obtain ⟨h1, h2, h3⟩ := one_list hlt
        obtain ⟨c, hc⟩ : ∃ c, s.get! j = c := ⟨_, rfl⟩
        rw [hc] at h1 h2 h3
        obtain ⟨T, hT⟩ : ∃ T, s.extract j (j + 1) = T := ⟨_, rfl⟩
        rw [hT] at h1
        have hTZ : T.size = 1 := by rw [size_list, h1]; rfl
        have ht : ∀ d : UInt8, (T.toList == [d]) = decide (c = d) := fun d => by rw [Lib.toList_data, h1]; by_cases h : c = d <;> simp [h]
        have hnx : ∀ P : List UInt8, escC v c = P → (s.data.toList.take (j + 1)).flatMap (escC v) = (s.data.toList.take j).flatMap (escC v) ++ P := fun P hP => by rw [h3, List.flatMap_append, List.flatMap_cons, List.flatMap_nil, List.append_nil, hP]
        have HNX : Hid (∀ p : ByteArray, escC v c = p.data.toList → (O ++ p).data.toList = (s.data.toList.take (j + 1)).flatMap (escC v)) := Lib.hid fun p hp => by rw [app_list, HOJ.out, hnx _ hp]
        have t38 := ht 38
        have t60 := ht 60
        have t62 := ht 62
        have t13 := ht 13
        have t34 := ht 34
        have t9 := ht 9
        have t10 := ht 10
        have HC1 := Lib.hid h1
        have hns : s.size < 1073741825 := by omega
        clear h1 h2 h3 hc ht hnx HOJ
        go_upto_region 8 with fail
        clear hT
        by_cases k38 : c = 38
        · have hP : escC v c = [38, 97, 109, 112, 59] := by unfold escC; rw [if_pos k38]
          rw [decide_eq_true k38] at t38
          have HX := Lib.hid (HNX.out ⟨#[38, 97, 109, 112, 59]⟩ hP)
          clear hP HNX k38
          go_wp2_with fail
          exact ⟨⟨j + 1, _, rfl, by go_num, by omega, HX, by rw [app_size]; exact Nat.le_trans (Nat.add_le_add_right hoz _) (by show 6 * j + 5 ≤ 6 * (j + 1); omega), HBJ⟩, by simp [intOf]; omega⟩
        · rw [decide_eq_false k38] at t38
          by_cases k60 : c = 60
          · have hP : escC v c = [38, 108, 116, 59] := by unfold escC; rw [if_neg k38, if_pos k60]
            rw [decide_eq_true k60] at t60
            have HX := Lib.hid (HNX.out ⟨#[38, 108, 116, 59]⟩ hP)
            clear hP HNX k38 k60
            go_wp2_with fail
            exact ⟨⟨j + 1, _, rfl, by go_num, by omega, HX, by rw [app_size]; exact Nat.le_trans (Nat.add_le_add_right hoz _) (by show 6 * j + 4 ≤ 6 * (j + 1); omega), HBJ⟩, by simp [intOf]; omega⟩
          · rw [decide_eq_false k60] at t60
            by_cases k62 : c = 62
            · have hP : escC v c = [38, 103, 116, 59] := by unfold escC; rw [if_neg k38, if_neg k60, if_pos k62]
              rw [decide_eq_true k62] at t62
              have HX := Lib.hid (HNX.out ⟨#[38, 103, 116, 59]⟩ hP)
              clear hP HNX k38 k60 k62
              go_wp2_with fail
              exact ⟨⟨j + 1, _, rfl, by go_num, by omega, HX, by rw [app_size]; exact Nat.le_trans (Nat.add_le_add_right hoz _) (by show 6 * j + 4 ≤ 6 * (j + 1); omega), HBJ⟩, by simp [intOf]; omega⟩
            · rw [decide_eq_false k62] at t62
              by_cases k13 : c = 13
              · have hP : escC v c = [38, 35, 49, 51, 59] := by unfold escC; rw [if_neg k38, if_neg k60, if_neg k62, if_pos k13]
                rw [decide_eq_true k13] at t13
                have HX := Lib.hid (HNX.out ⟨#[38, 35, 49, 51, 59]⟩ hP)
                clear hP HNX k38 k60 k62 k13
                go_wp2_with fail
                exact ⟨⟨j + 1, _, rfl, by go_num, by omega, HX, by rw [app_size]; exact Nat.le_trans (Nat.add_le_add_right hoz _) (by show 6 * j + 5 ≤ 6 * (j + 1); omega), HBJ⟩, by simp [intOf]; omega⟩
              · rw [decide_eq_false k13] at t13
                cases v with
                | false =>
                  have hP : escC false c = T.data.toList := by rw [HC1.out]; unfold escC; rw [if_neg k38, if_neg k60, if_neg k62, if_neg k13, if_neg (fun e => Bool.noConfusion e.1), if_neg (fun e => Bool.noConfusion e.1), if_neg (fun e => Bool.noConfusion e.1)]
                  have HX := Lib.hid (HNX.out T hP)
                  clear hP HNX k38 k60 k62 k13
                  go_wp2_with fail
                  exact ⟨⟨j + 1, _, rfl, by go_num, by omega, HX, by rw [app_size]; omega, HBJ⟩, by simp [intOf]; omega⟩
                | true =>
                  by_cases k34 : c = 34
                  · have hP : escC true c = [38, 113, 117, 111, 116, 59] := by unfold escC; rw [if_neg k38, if_neg k60, if_neg k62, if_neg k13, if_pos ⟨rfl, k34⟩]
                    rw [decide_eq_true k34] at t34
                    have HX := Lib.hid (HNX.out ⟨#[38, 113, 117, 111, 116, 59]⟩ hP)
                    clear hP HNX k38 k60 k62 k13 k34
                    go_wp2_with fail
                    exact ⟨⟨j + 1, _, rfl, by go_num, by omega, HX, by rw [app_size]; exact Nat.le_trans (Nat.add_le_add_right hoz _) (by show 6 * j + 6 ≤ 6 * (j + 1); omega), HBJ⟩, by simp [intOf]; omega⟩
                  · rw [decide_eq_false k34] at t34
                    by_cases k9 : c = 9
                    · have hP : escC true c = [38, 35, 57, 59] := by unfold escC; rw [if_neg k38, if_neg k60, if_neg k62, if_neg k13, if_neg (fun e => k34 e.2), if_pos ⟨rfl, k9⟩]
                      rw [decide_eq_true k9] at t9
                      have HX := Lib.hid (HNX.out ⟨#[38, 35, 57, 59]⟩ hP)
                      clear hP HNX k38 k60 k62 k13 k34 k9
                      go_wp2_with fail
                      exact ⟨⟨j + 1, _, rfl, by go_num, by omega, HX, by rw [app_size]; exact Nat.le_trans (Nat.add_le_add_right hoz _) (by show 6 * j + 4 ≤ 6 * (j + 1); omega), HBJ⟩, by simp [intOf]; omega⟩
                    · rw [decide_eq_false k9] at t9
                      by_cases k10 : c = 10
                      · have hP : escC true c = [38, 35, 49, 48, 59] := by unfold escC; rw [if_neg k38, if_neg k60, if_neg k62, if_neg k13, if_neg (fun e => k34 e.2), if_neg (fun e => k9 e.2), if_pos ⟨rfl, k10⟩]
                        rw [decide_eq_true k10] at t10
                        have HX := Lib.hid (HNX.out ⟨#[38, 35, 49, 48, 59]⟩ hP)
                        clear hP HNX k38 k60 k62 k13 k34 k9 k10
                        go_wp2_with fail
                        exact ⟨⟨j + 1, _, rfl, by go_num, by omega, HX, by rw [app_size]; exact Nat.le_trans (Nat.add_le_add_right hoz _) (by show 6 * j + 5 ≤ 6 * (j + 1); omega), HBJ⟩, by simp [intOf]; omega⟩
                      · rw [decide_eq_false k10] at t10
                        have hP : escC true c = T.data.toList := by rw [HC1.out]; unfold escC; rw [if_neg k38, if_neg k60, if_neg k62, if_neg k13, if_neg (fun e => k34 e.2), if_neg (fun e => k9 e.2), if_neg (fun e => k10 e.2)]
                        have HX := Lib.hid (HNX.out T hP)
                        clear hP HNX k38 k60 k62 k13 k34 k9 k10
                        go_wp2_with fail
                        exact ⟨⟨j + 1, _, rfl, by go_num, by omega, HX, by rw [app_size]; omega, HBJ⟩, by simp [intOf]; omega⟩
      · have hlti : ¬ ((j : Int) < s.size) := by omega
        obtain rfl : j = s.size := by omega
        have HX : Hid (O.data.toList = escL v s) := Lib.hid (by rw [HOJ.out, List.take_of_length_le (by rw [← size_list]; exact Nat.le_refl _)]; rfl)
        clear HOJ
        go_wp2_with fail
        go_ret2
        exact ⟨O, rfl, by first | exact HX.out | exact fun _ => HX.out, by omega, HBJ.out⟩
/-- An attribute with a blank ahead. -/
def atL (nm : List UInt8) (v : ByteArray) : List UInt8 := 32 :: (nm ++ valL v)
set_option maxRecDepth 100000 in
set_option maxHeartbeats 4000000 in
theorem d6val_c (nm v : ByteArray) (hn : nm.size ≤ 1073741824) (hv : v.size ≤ 1073741824) (hf : fineS v = true) (w : World) : Calls Tryd.prog 48 #[.string nm, .string v] w fun e w' => ∃ o : ByteArray, e = .returned (.string o) ∧ o.data.toList = atL nm.data.toList v ∧ Bel w w' := by
  have HC := Lib.hid (d6esc_c v true hv w)
  have HF := Lib.hid hf
  clear hf
  go_enter Tryd.func48, Tryd.ntmps48
  go_wp2_with fail
  refine HC.out.mono ?_
  rintro e w1 ⟨o, rfl, ho, hoz, hb1⟩
  have HO := Lib.hid (ho HF.out)
  have HB := Lib.hid hb1
  have hz2 : o.size ≤ 6442450944 := by omega
  clear HC ho hoz hb1
  have q1 : (⟨#[32]⟩ : ByteArray).size = 1 := rfl
  have q2 : (⟨#[61, 34]⟩ : ByteArray).size = 2 := rfl
  have q3 : (⟨#[34]⟩ : ByteArray).size = 1 := rfl
  have r1 : ((⟨#[32]⟩ : ByteArray) ++ nm).size ≤ 1073741825 := by rw [app_size]; omega
  have r2 : ((⟨#[32]⟩ : ByteArray) ++ nm ++ ⟨#[61, 34]⟩).size ≤ 1073741827 := by rw [app_size]; omega
  have r3 : ((⟨#[32]⟩ : ByteArray) ++ nm ++ ⟨#[61, 34]⟩ ++ o).size ≤ 7516192771 := by rw [app_size]; omega
  have s1 : ¬ (9223372036854775807 < (⟨#[32]⟩ : ByteArray).size + nm.size) := by omega
  have s2 : ¬ (9223372036854775807 < ((⟨#[32]⟩ : ByteArray) ++ nm).size + (⟨#[61, 34]⟩ : ByteArray).size) := by omega
  have s3 : ¬ (9223372036854775807 < ((⟨#[32]⟩ : ByteArray) ++ nm ++ ⟨#[61, 34]⟩).size + o.size) := by omega
  have s4 : ¬ (9223372036854775807 < ((⟨#[32]⟩ : ByteArray) ++ nm ++ ⟨#[61, 34]⟩ ++ o).size + (⟨#[34]⟩ : ByteArray).size) := by omega
  go_wp2_with fail
  go_ret
  refine ⟨_, rfl, ?_, HB.out⟩
  unfold atL valL
  rw [app_list, app_list, app_list, app_list, HO.out]
  simp
def nameB (L : List Pr6) (sp lo : ByteArray) : ByteArray := ⟨(nameL L sp lo).toArray⟩
set_option maxRecDepth 100000 in
set_option maxHeartbeats 4000000 in
theorem d6name_c (L : List Pr6) (pa : Option Addr) (pn pc : Nat) (sp lo : ByteArray) (w : World) (hp : PairsAt w (.slice pa pn pc) L) (hpn : pn ≤ 1073741824) (hL : ∀ p ∈ L, p.1.size ≤ 1073741824) (hlo : lo.size ≤ 1073741824) :
    Calls Tryd.prog 47 #[.slice pa pn pc, .agg #[.string sp, .string lo]] w (RetBel (.string (nameB L sp lo)) w) := by
  obtain ⟨a0, c0, hv, _, hcell⟩ := hp
  injection hv with hv1 hv2 hv3
  subst hv1 hv3
  have HN := Lib.hid hv2
  have HPC := Lib.hid hcell
  have HL := Lib.hid hL
  obtain ⟨R, hR⟩ : ∃ R, nameB L sp lo = R := ⟨_, rfl⟩
  rw [hR]
  have hR2 : R = match L.find? (fun p => decide (p.2 = sp)) with | some p => p.1 ++ ⟨#[58]⟩ ++ lo | none => lo := by
    rw [← hR]
    unfold nameB nameL
    cases L.find? (fun p => decide (p.2 = sp)) with
    | none => rfl
    | some p => exact bytes_inj (by rw [app_list, app_list]; simp)
  obtain ⟨F, hF⟩ : ∃ F, (L.find? fun p => decide (p.2 = sp)) = F := ⟨_, rfl⟩
  rw [hF] at hR2
  have HR := Lib.hid hR2
  have HF := Lib.hid hF
  obtain ⟨V1, h1, q1, l1, s1⟩ := alloc_step w 23 [.string sp, .string lo]
  have c0 : V1.cell? ⟨w.heap.size, 0, none⟩ = some (.string sp) := q1.at 0
  have c1 : V1.cell? ⟨w.heap.size, 1, none⟩ = some (.string lo) := q1.at 1
  have L1 := Lib.hid l1
  have HV1 := Lib.hid h1
  clear hR hR2 hF hcell hL hv2 h1 q1 l1 s1
  go_enter Tryd.func47, Tryd.ntmps47
  go_upto_region 1 with fail
  rw [show w.alloc (.cells #[.string sp, .string lo] 23) = V1 from HV1.out]
  clear HV1
  go_wp2_with fail
  go_loopw [5] (fun i wr => ∃ (j : Nat), i = .int .i64 j ∧ j ≤ pn ∧ Hid (((L.drop j).find? fun p => decide (p.2 = sp)) = F) ∧ Hid (Bel V1 wr)) (fun i _ => pn - (intOf i).toNat)
  case atStart => exact ⟨0, rfl, Nat.zero_le _, Lib.hid (by rw [List.drop_zero]; exact HF.out), Lib.hid (Bel.refl _)⟩
  case round =>
    obtain ⟨j, rfl, hj, HFJ, HBJ⟩ := hrel
    by_cases hlt : j < pn
    · have hlti : (j : Int) < pn := by omega
      obtain ⟨p, hp⟩ : ∃ p, L[j]? = some p := ⟨_, List.getElem?_eq_getElem (by have := HN.out; omega)⟩
      obtain ⟨b, off, rfl, _, g1, g2⟩ := HPC.out j p hp
      have f1 := (L1.out.trans HBJ.out).keep g1
      have f2 := (L1.out.trans HBJ.out).keep g2
      have e0 := HBJ.out.keep c0
      have e1 := HBJ.out.keep c1
      have hdr : (if decide (p.2 = sp) = true then some p else ((L.drop (j + 1)).find? fun p => decide (p.2 = sp))) = F := by rw [← HFJ.out, drop_tail hp, List.find?_cons]; cases decide (p.2 = sp) <;> rfl
      have hps := HL.out p (List.mem_of_getElem? hp)
      obtain ⟨pp, ps⟩ := p
      dsimp only at f1 f2 hdr hps
      have heq := lequal ps sp
      obtain ⟨E, hE⟩ : ∃ E, decide (ps = sp) = E := ⟨_, rfl⟩
      rw [hE] at heq hdr
      have HDR := Lib.hid hdr
      have HB2 := Lib.hid (L1.out.trans HBJ.out)
      clear g1 g2 hp hdr hE HFJ
      cases E with
      | true =>
        have HX : Hid (R = pp ++ ⟨#[58]⟩ ++ lo) := Lib.hid (by
          rw [HR.out]
          have h := HDR.out
          rw [if_pos rfl] at h
          rw [← h])
        have r1 : (pp ++ (⟨#[58]⟩ : ByteArray)).size ≤ 1073741825 := by rw [app_size]; exact Nat.add_le_add_right hps 1
        have s0 : (⟨#[58]⟩ : ByteArray).size = 1 := rfl
        have s1 : ¬ (9223372036854775807 < pp.size + (⟨#[58]⟩ : ByteArray).size) := by omega
        have s2 : ¬ (9223372036854775807 < (pp ++ (⟨#[58]⟩ : ByteArray)).size + lo.size) := by omega
        clear HDR HR
        go_wp2_with fail
        go_quiet (fail)
        go_wp2_with fail
        go_quiet (fail)
        go_wp2_with fail
        go_ret
        exact ⟨by first | (rw [HX.out]; done) | (rw [HX.out]; rfl), by have h1 := HB2.out; (repeat (first | exact Bel.refl _ | assumption | refine Bel.to_drewN ?_ _ | refine Bel.to_drew ?_ | refine Bel.to_setCell ?_ (by first | exact Nat.le_refl _ | (simp; done) | (simp; omega) | omega) _ | refine Bel.to_alloc ?_ _ | refine Bel.trans ?_ (by assumption)))⟩
      | false =>
        have HX : Hid (((L.drop (j + 1)).find? fun p => decide (p.2 = sp)) = F) := Lib.hid HDR.out
        clear HDR HR
        go_wp2_with fail
        go_quiet (fail)
        go_wp2_with fail
        exact ⟨⟨j + 1, by go_num, by omega, HX, Lib.hid (by have h1 := HBJ.out; (repeat (first | exact Bel.refl _ | assumption | refine Bel.to_drewN ?_ _ | refine Bel.to_drew ?_ | refine Bel.to_setCell ?_ (by first | exact Nat.le_refl _ | (simp; done) | (simp; omega) | omega) _ | refine Bel.to_alloc ?_ _ | refine Bel.trans ?_ (by assumption))))⟩, by simp [intOf]; omega⟩
    · have hlti : ¬ ((j : Int) < pn) := by omega
      have HX : Hid (R = lo) := Lib.hid (by
        rw [HR.out]
        have h := HFJ.out
        rw [List.drop_eq_nil_of_le (by have := HN.out; omega), List.find?_nil] at h
        rw [← h])
      have e1 := HBJ.out.keep c1
      clear HR HFJ
      go_wp2_with fail
      go_ret
      exact ⟨by first | (rw [HX.out]; done) | (rw [HX.out]; rfl), L1.out.trans HBJ.out⟩
theorem byte1w (w : World) (c : Nat) (hc : c < 256) : BytesAt (w.alloc (.cells #[.int .u8 c] 5)) (.slice (some ⟨w.heap.size, 0, none⟩) 1 1) ⟨#[UInt8.ofNat c]⟩ := by
  have hb := Blk.new w 5 [.int .u8 c]
  refine ⟨w.heap.size, 0, 1, rfl, hb.lt, fun j hj => ?_, Nat.le_refl _⟩
  have hj0 : j = 0 := by have : j < 1 := hj; omega
  subst hj0
  rw [Nat.zero_add]
  have := hb.at 0
  rw [this]
  have h1 : (ByteArray.get! ⟨#[UInt8.ofNat c]⟩ 0).toNat = c := by
    rw [get_bang _ _ (by simp)]
    simp [Nat.mod_eq_of_lt hc]
  simp [h1]
set_option maxRecDepth 100000 in
set_option maxHeartbeats 4000000 in
theorem d6dec_c (n : Nat) (hn : n ≤ 1073741824) (w : World) : Calls Tryd.prog 74 #[.int .i64 n] w (RetBel (.string ⟨(decB n).toArray⟩) w) := by
  obtain ⟨R, hR⟩ : ∃ R, (⟨(decB n).toArray⟩ : ByteArray) = R := ⟨_, rfl⟩
  have HR : Hid (R.data.toList = decB n) := Lib.hid (by rw [← hR])
  rw [hR]
  clear hR
  go_enter Tryd.func74, Tryd.ntmps74
  go_wp2_with fail
  go_loopw [0, 3] (fun a s wr => ∃ (m : Nat) (O : ByteArray), a = .int .i64 m ∧ s = .string O ∧ m ≤ n ∧ Hid (decB m ++ O.data.toList = decB n) ∧ Hid (Bel w wr)) (fun a _ _ => (intOf a).toNat)
  case atStart => exact ⟨n, ⟨#[]⟩, rfl, rfl, Nat.le_refl _, Lib.hid (by simp), Lib.hid (Bel.refl _)⟩
  case round =>
    obtain ⟨m, O, rfl, rfl, hm, HOM, HBM⟩ := hrel
    by_cases h0 : 0 < m
    · have h0i : (0 : Int) < m := by omega
      have hOz : O.size ≤ 10 := by
        have h1 := HOM.out
        have h2 := decB_le n hn
        have h3 := congrArg List.length h1
        rw [List.length_append, ← size_list] at h3
        omega
      have hst := decB_step m (by omega)
      obtain ⟨d, hd⟩ : ∃ d, m % 10 = d := ⟨_, rfl⟩
      obtain ⟨q, hq⟩ : ∃ q, m / 10 = q := ⟨_, rfl⟩
      have hd10 : d < 10 := by omega
      have hqm : q < m := by omega
      have m1 : (m : Int).tmod 10 = d := by rw [Int.tmod_eq_emod_of_nonneg (by omega)]; omega
      have m2 : (m : Int) % 10 = d := by omega
      have m3 : (m : Int).tdiv 10 = q := by rw [Int.tdiv_eq_ediv_of_nonneg (by omega)]; omega
      have m4 : (m : Int) / 10 = q := by omega
      rw [hd, hq] at hst
      have HX : Hid (decB q ++ ((⟨#[48 + UInt8.ofNat d]⟩ : ByteArray) ++ O).data.toList = decB n) := Lib.hid (by
        rw [app_list, ← HOM.out, hst]
        simp)
      have HB2 : Hid (Bel w (wr.alloc (.cells #[.int .u8 (48 + (d : Int))] 5))) := Lib.hid (HBM.out.trans (Bel.alloc _ _))
      have hcv := bytes_string _ _ _ (byte1w wr (48 + d) (by omega))
      rw [show ((48 + d : Nat) : Int) = 48 + (d : Int) from by omega, show UInt8.ofNat (48 + d) = 48 + UInt8.ofNat d from by simp] at hcv
      have q2 : IntKind.u8.wrap (48 + (d : Int)) = 48 + (d : Int) := by unfold IntKind.wrap; simp [IntKind.bits, IntKind.signed]; omega
      have hsz : ¬ (9223372036854775807 < (⟨#[48 + UInt8.ofNat d]⟩ : ByteArray).size + O.size) := by show ¬ (9223372036854775807 < 1 + O.size); omega
      have hqn : q ≤ n := by omega
      clear hst hd hq HOM HBM
      go_wp2_with fail
      exact ⟨⟨q, _, rfl, rfl, by omega, HX, HB2⟩, by simp [intOf]; omega⟩
    · obtain rfl : m = 0 := by omega
      have HX : Hid (O = R) := Lib.hid (bytes_inj (by rw [HR.out, ← HOM.out, decB_zero]; rfl))
      clear HOM
      go_wp2_with fail
      go_ret
      exact ⟨by first | (rw [HX.out]; done) | (rw [HX.out]; rfl), HBM.out⟩
end Go.Proofs.YtojeclfcgnamoaaDoor
