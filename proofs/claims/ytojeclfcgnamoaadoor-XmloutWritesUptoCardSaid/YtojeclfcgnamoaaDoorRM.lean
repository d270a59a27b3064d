/-
  The document's xmlout: the walks of meet, met, Prefixes.
-/
import Derived.Test.YtojeclfcgnamoaaDoorRF
import Derived.Test.YtojeclfcgnamoaaDoorRB
namespace Go.Proofs.YtojeclfcgnamoaaDoor
open Go.RowKit

def keepQ (t : TypeId) : Bool := !(t == 47)
theorem keepQ_types : keepQ 47 = false ∧ keepQ 27 = true ∧ keepQ 63 = true := by decide
def RetMt (B : Nat) (M : List Pr6) (w : World) (e : Ending) (w' : World) : Prop := ∃ a cap, e = .returned (.slice a M.length cap) ∧ w'.ownsRow B 47 3 (.slice a M.length cap) M.length (M.flatMap encP) ∧ Below B w w' ∧ KeepT keepQ w w'
theorem ors_step {L : List Pr6} {j : Nat} {p : Pr6} (h : L[j]? = some p) : othersP (L.take (j + 1)) = othersP (L.take j) + if (!decide (p.1 = dmnX) && !decide (p.1 = xmlX)) = true then 1 else 0 := by
  rw [List.take_add_one, h]
  show othersP (L.take j ++ [p]) = _
  rw [othersP_snoc]
  by_cases h1 : p.1 = dmnX <;> by_cases h2 : p.1 = xmlX <;> simp [h1, h2]
theorem has_step {L : List Pr6} {j : Nat} {p : Pr6} (h : L[j]? = some p) (s : ByteArray) : hasS (L.take (j + 1)) s = (hasS (L.take j) s || decide (p.2 = s)) := by
  rw [List.take_add_one, h]
  unfold hasS
  rw [List.any_append]
  simp
theorem has_of {L : List Pr6} {j : Nat} {p : Pr6} (h : L[j]? = some p) {s : ByteArray} (hs : p.2 = s) : hasS L s = true := by
  unfold hasS
  exact List.any_eq_true.2 ⟨p, List.mem_of_getElem? h, decide_eq_true hs⟩
theorem own_below {w w' : World} {B n : Nat} {e : TypeId} {v : Value} {xs : List Value} (hB : B ≤ w.heap.size) (ho : w.ownsRow B e 3 v n xs) (hg : w.grownBy w' v.ownBlock) : Below B w w' :=
  Below.grown (Below.refl B w) hg hB (fun k e => by
    rcases ho.2 with ⟨e0, _⟩ | ⟨g', cap2, cur, e0, hge, _⟩
    · rw [e0] at e; cases e
    · rw [e0] at e
      simp only [Value.ownBlock, Option.some.injEq] at e
      omega)
set_option maxRecDepth 100000 in
set_option maxHeartbeats 8000000 in
theorem d6meet_c (B : Nat) (L : List Pr6) (s : ByteArray) (a : Option Addr) (cap : Nat) (w : World) (hB : B ≤ w.heap.size) (hl : L.length ≤ 1073741820) (ho : w.ownsRow B 47 3 (.slice a L.length cap) L.length (L.flatMap encP)) :
    Calls Tryd.prog 62 #[.slice a L.length cap, .string s] w (RetMt B (meetP L s) w) := by
  have hem := lempty s
  have HO := Lib.hid ho
  have HB := Lib.hid hB
  obtain ⟨E, hE⟩ : ∃ E, decide (s = ⟨#[]⟩) = E := ⟨_, rfl⟩
  rw [hE] at hem
  have HME : Hid (E = true ∨ hasS L s = true → meetP L s = L) := Lib.hid fun h => by
    unfold meetP
    rw [if_pos]
    rcases h with h | h
    · left; rw [h] at hE; exact of_decide_eq_true hE
    · exact .inr h
  have HMN : Hid (E = false → hasS L s = false → meetP L s = L ++ [(freshP L s, s)]) := Lib.hid fun h1 h2 => by
    unfold meetP
    rw [if_neg]
    rintro (h | h)
    · rw [h1] at hE; exact of_decide_eq_false hE h
    · rw [h2] at h; cases h
  clear ho hB hE
  cases E with
  | true =>
    have HM := Lib.hid (HME.out (.inl rfl))
    clear HME HMN
    go_enter Tryd.func62, Tryd.ntmps62
    go_wp2_with fail
    go_ret
    rw [HM.out]
    exact ⟨a, cap, rfl, HO.out, Below.refl _ _, KeepT.refl _ _⟩
  | false =>
    replace HMN := Lib.hid (HMN.out rfl)
    replace HME : Hid (hasS L s = true → meetP L s = L) := Lib.hid fun h => HME.out (.inr h)
    obtain ⟨a0, c0, hv, _, hcell⟩ := pairs_own HO.out
    injection hv with hv1 hv2 hv3
    subst hv1 hv3
    have HPC := Lib.hid hcell
    have hu : (s.toList == [104, 116, 116, 112, 115, 58, 47, 47, 119, 119, 119, 46, 111, 109, 103, 46, 111, 114, 103, 47, 115, 112, 101, 99, 47, 68, 77, 78, 47, 50, 48, 50, 49, 49, 49, 48, 56, 47, 77, 79, 68, 69, 76, 47]) = decide (s = uriX) := by rw [← lequal s uriX, Lib.toList_data uriX]; rfl
    have hsp : (s.toList == [104, 116, 116, 112, 58, 47, 47, 119, 119, 119, 46, 119, 51, 46, 111, 114, 103, 47, 88, 77, 76, 47, 49, 57, 57, 56, 47, 110, 97, 109, 101, 115, 112, 97, 99, 101]) = decide (s = spX) := by rw [← lequal s spX, Lib.toList_data spX]; rfl
    obtain ⟨U, hU⟩ : ∃ U, decide (s = uriX) = U := ⟨_, rfl⟩
    obtain ⟨X, hX⟩ : ∃ U, decide (s = spX) = U := ⟨_, rfl⟩
    have HFR : Hid (freshP L s = if U = true then dmnX else if X = true then xmlX else ⟨(110 :: decB (othersP L + 1)).toArray⟩) := Lib.hid (by rw [← hU, ← hX]; unfold freshP; simp)
    have hxu : U = true → X = false := fun h => by
      rw [← hX, decide_eq_false]
      rw [← hU] at h
      rw [of_decide_eq_true h]
      exact uri_ne.1
    rw [hU] at hu
    rw [hX] at hsp
    obtain ⟨N, hN⟩ : ∃ N, L.length = N := ⟨_, rfl⟩
    have HN := Lib.hid hN
    rw [hN] at hl ⊢
    have HXU := Lib.hid hxu
    clear hcell hv2 hU hX hN hxu
    go_enter Tryd.func62, Tryd.ntmps62
    go_wp2_with fail
    go_loopw [5, 6] (fun o i wr => ∃ (j q : Nat), o = .int .i64 q ∧ i = .int .i64 j ∧ j ≤ N ∧ q ≤ j + 1 ∧ Hid (q = othersP (L.take j) + 1 ∧ hasS (L.take j) s = false) ∧ w = wr) (fun _ i _ => N - (intOf i).toNat)
    case atStart => exact ⟨0, 1, rfl, rfl, Nat.zero_le _, by omega, Lib.hid ⟨rfl, rfl⟩, rfl⟩
    case round =>
      obtain ⟨j, q, rfl, rfl, hj, hq, HQJ, rfl⟩ := hrel
      by_cases hlt : j < N
      · have hlti : (j : Int) < N := by omega
        obtain ⟨p, hp⟩ : ∃ p, L[j]? = some p := ⟨_, List.getElem?_eq_getElem (by have := HN.out; omega)⟩
        obtain ⟨b, off, rfl, _, f1, f2⟩ := HPC.out j p hp
        have HST : Hid (othersP (L.take (j + 1)) = othersP (L.take j) + (if (!decide (p.1 = dmnX) && !decide (p.1 = xmlX)) = true then 1 else 0) ∧ hasS (L.take (j + 1)) s = (hasS (L.take j) s || decide (p.2 = s)) ∧ (p.2 = s → hasS L s = true)) := Lib.hid ⟨ors_step hp, has_step hp s, fun h => has_of hp h⟩
        obtain ⟨pp, ps⟩ := p
        dsimp only at f1 f2 HST
        have heq := lequal ps s
        have hd : (pp.toList != [100, 109, 110]) = !decide (pp = dmnX) := by rw [← lequal pp dmnX, Lib.toList_data dmnX]; rfl
        have hx : (pp.toList != [120, 109, 108]) = !decide (pp = xmlX) := by rw [← lequal pp xmlX, Lib.toList_data xmlX]; rfl
        by_cases hps : ps = s
        · have HM := Lib.hid (HME.out (HST.out.2.2 hps))
          rw [decide_eq_true hps] at heq
          clear hps HST HQJ hd hx
          go_wp2_with fail
          go_ret
          rw [HM.out]
          have h1 := HO.out
          rw [HN.out] at h1
          unfold RetMt
          rw [HN.out]
          exact ⟨_, _, rfl, h1, Below.refl _ _, KeepT.refl _ _⟩
        · have HS2 : Hid (hasS (L.take (j + 1)) s = false) := Lib.hid (by rw [HST.out.2.1, HQJ.out.2, decide_eq_false hps]; rfl)
          rw [decide_eq_false hps] at heq
          have hd2 : (pp.toList == [100, 109, 110]) = decide (pp = dmnX) := by rw [← lequal pp dmnX, Lib.toList_data dmnX]; rfl
          have hx2 : (pp.toList == [120, 109, 108]) = decide (pp = xmlX) := by rw [← lequal pp xmlX, Lib.toList_data xmlX]; rfl
          obtain ⟨D, hD⟩ : ∃ D, decide (pp = dmnX) = D := ⟨_, rfl⟩
          obtain ⟨Y, hY⟩ : ∃ D, decide (pp = xmlX) = D := ⟨_, rfl⟩
          rw [hD] at hd hd2
          rw [hY] at hx hx2
          have HS1 : Hid (othersP (L.take (j + 1)) + 1 = q + if (!D && !Y) = true then 1 else 0) := Lib.hid (by have h1 := HST.out.1; rw [hD, hY] at h1; rw [h1, HQJ.out.1]; omega)
          clear hps HST HQJ hD hY
          cases D <;> simp only [Bool.not_true, Bool.not_false] at hd
          rotate_left 1
          · have HX : Hid (q = othersP (L.take (j + 1)) + 1 ∧ hasS (L.take (j + 1)) s = false) := Lib.hid ⟨by rw [HS1.out]; rfl, HS2.out⟩
            clear HS1 HS2
            go_wp2_with fail
            exact ⟨⟨j + 1, q, rfl, by go_num, by omega, by omega, HX, trivial⟩, by simp [intOf]; omega⟩
          · cases Y <;> simp only [Bool.not_true, Bool.not_false] at hx
            rotate_left 1
            · have HX : Hid (q = othersP (L.take (j + 1)) + 1 ∧ hasS (L.take (j + 1)) s = false) := Lib.hid ⟨by rw [HS1.out]; rfl, HS2.out⟩
              clear HS1 HS2
              go_wp2_with fail
              exact ⟨⟨j + 1, q, rfl, by go_num, by omega, by omega, HX, trivial⟩, by simp [intOf]; omega⟩
            · have HX : Hid (q + 1 = othersP (L.take (j + 1)) + 1 ∧ hasS (L.take (j + 1)) s = false) := Lib.hid ⟨by rw [HS1.out]; rfl, HS2.out⟩
              clear HS1 HS2
              go_wp2_with fail
              exact ⟨⟨j + 1, q + 1, by go_num, by go_num, by omega, by omega, HX, trivial⟩, by simp [intOf]; omega⟩
      · have hlti : ¬ ((j : Int) < N) := by omega
        obtain ⟨hq1, hq2⟩ := HQJ.out
        rw [List.take_of_length_le (by have := HN.out; omega)] at hq1 hq2
        have HMX := Lib.hid (HMN.out hq2)
        have HQ1 : Hid (q = othersP L + 1) := Lib.hid hq1
        obtain ⟨O, hO⟩ : ∃ O : ByteArray, ⟨(decB q).toArray⟩ = O := ⟨_, rfl⟩
        have hOz : O.size ≤ 10 := by rw [← hO]; exact decB_le q (by omega)
        have HDC := Lib.hid (d6dec_c q (by omega) w)
        rw [hO] at HDC
        have HOQ := Lib.hid hO
        have hsz : ¬ (9223372036854775807 < (⟨#[110]⟩ : ByteArray).size + O.size) := by show ¬ (9223372036854775807 < 1 + O.size); omega
        clear hq1 hq2 hO HQJ HME HMN
        go_wp2_with fail
        refine HDC.out.mono ?_
        rintro e2 w2 ⟨rfl, hb2⟩
        have HSZ : Hid (∀ o, B ≤ (w2.alloc o).heap.size) := Lib.hid fun o => by rw [World.size_alloc]; have := HB.out; have := hb2.size; omega
        have HOW2 : Hid (∀ o, (w2.alloc o).ownsRow B 47 3 (.slice a N cap) L.length (L.flatMap encP)) := Lib.hid fun o => own_bel (by have := HO.out; rw [HN.out] at this ⊢; exact this) (hb2.trans (Bel.alloc w2 o))
        have HFIN : Hid (∀ o g cap2 w7, w7.ownsRow B 47 3 (.slice (some ⟨g, 0, none⟩) (L.length + 1) cap2) (L.length + 1) (L.flatMap encP ++ encP (freshP L s, s)) → (w2.alloc o).grownBy w7 (Value.slice a N cap).ownBlock → RetMt B (meetP L s) w (.returned (.slice (some ⟨g, 0, none⟩) (L.length + 1) cap2)) w7) := Lib.hid fun o g cap2 w7 h7 hg7 => by
          have hw2 := hb2.trans (Bel.alloc w2 o)
          unfold RetMt
          rw [HMX.out]
          refine ⟨some ⟨g, 0, none⟩, cap2, by rw [List.length_append]; rfl, ?_, ?_, ?_⟩
          · rw [List.length_append, List.flatMap_append]
            simpa using h7
          · exact (hw2.mono HB.out).trans (own_below (HSZ.out o) (HOW2.out o) hg7)
          · exact (KeepT.of_bel hw2).trans (KeepT.grow (HOW2.out o) keepQ_types.1 hg7)
        have hln : L.length ≤ 4294967296 := by have := HN.out; omega
        have hfr := HFR.out
        rw [← HQ1.out] at hfr
        clear hb2 HDC HO HB HPC
        cases U
        · cases X
          · have hfr2 : freshP L s = (⟨#[110]⟩ : ByteArray) ++ O := by
              rw [hfr, ← HOQ.out]
              exact bytes_inj (by rw [app_list]; simp)
            rw [hfr2] at HFIN
            clear hfr hfr2 HFR
            go_wp2_with (at_builtin; refine wpL_append1k rfl _ _ 41 rfl B (HSZ.out _) 47 (.agg #[.int .i64 0, .string ⟨#[]⟩, .string ⟨#[]⟩]) 3 40 Tryd.underlying41 info_pair rfl (by decide) (by decide) _ L.length _ rfl (HOW2.out _) ⟨w2.heap.size, 0, none⟩ 1 (encP ((⟨#[110]⟩ ++ O), s)) rfl rfl (cells_new _ _ _) (encP_one _) (by omega) ?_; intro g cap2 w7 hown7 hg7; have HFI := Lib.hid (HFIN.out _ _ _ _ hown7 hg7); clear hown7 hg7)
            go_ret
            exact HFI.out
          · have hfr2 : freshP L s = xmlX := by rw [hfr]; rfl
            unfold xmlX at hfr2
            rw [hfr2] at HFIN
            clear hfr hfr2 HFR
            go_wp2_with (at_builtin; refine wpL_append1k rfl _ _ 41 rfl B (HSZ.out _) 47 (.agg #[.int .i64 0, .string ⟨#[]⟩, .string ⟨#[]⟩]) 3 40 Tryd.underlying41 info_pair rfl (by decide) (by decide) _ L.length _ rfl (HOW2.out _) ⟨w2.heap.size, 0, none⟩ 1 (encP (⟨#[120, 109, 108]⟩, s)) rfl rfl (cells_new _ _ _) (encP_one _) (by omega) ?_; intro g cap2 w7 hown7 hg7; have HFI := Lib.hid (HFIN.out _ _ _ _ hown7 hg7); clear hown7 hg7)
            go_ret
            exact HFI.out
        · have hfr2 : freshP L s = dmnX := by rw [hfr]; rfl
          unfold dmnX at hfr2
          rw [hfr2] at HFIN
          obtain rfl : X = false := by first | exact HXU.out rfl | exact HXU.out trivial | exact HXU.out
          clear hfr hfr2 HFR
          go_wp2_with (at_builtin; refine wpL_append1k rfl _ _ 41 rfl B (HSZ.out _) 47 (.agg #[.int .i64 0, .string ⟨#[]⟩, .string ⟨#[]⟩]) 3 40 Tryd.underlying41 info_pair rfl (by decide) (by decide) _ L.length _ rfl (HOW2.out _) ⟨w2.heap.size, 0, none⟩ 1 (encP (⟨#[100, 109, 110]⟩, s)) rfl rfl (cells_new _ _ _) (encP_one _) (by omega) ?_; intro g cap2 w7 hown7 hg7; have HFI := Lib.hid (HFIN.out _ _ _ _ hown7 hg7); clear hown7 hg7)
          go_ret
          exact HFI.out
end Go.Proofs.YtojeclfcgnamoaaDoor
