/-
  feellex: the walk of escape.
-/
import Derived.Test.YtjnaikojoemkaaaDoorFG
namespace Go.Proofs.YtjnaikojoemkaaaDoor
open Go.RowKit Go.Maps Go.WideMaps

theorem isEmpty_list (l : List UInt8) : (⟨l.toArray⟩ : ByteArray).toList.isEmpty = l.isEmpty := by rw [Lib.toList_data]
theorem hexN_lt (l : List UInt8) (h : l.all hexC = true) : hexN l < 16 ^ l.length := by
  have key : ∀ (l : List UInt8) (n m : Nat), l.all hexC = true → n < 16 ^ m → l.foldl (fun n c => 16 * n + hexV c) n < 16 ^ (m + l.length) := by
    intro l
    induction l with
    | nil => intro n m _ h; simpa using h
    | cons x l ih =>
      intro n m h1 h2
      rw [List.all_cons, Bool.and_eq_true] at h1
      have hx := hexV_lt x h1.1
      have := ih (16 * n + hexV x) (m + 1) h1.2 (by rw [Nat.pow_succ]; omega)
      rw [List.foldl_cons, List.length_cons, show m + (l.length + 1) = m + 1 + l.length from by omega]
      exact this
  have := key l 0 0 h (by simp)
  simpa [hexN] using this

set_option maxRecDepth 100000 in
set_option maxHeartbeats 4000000 in
theorem escape_c (t : ByteArray) (ht : t.size ≤ 4294967280) (w : World) :
    Calls Tryd.prog 38 #[.string t] w fun e w' => e = .returned (.tuple #[.string (escS t).1, .int .i64 (escS t).2]) ∧ Bel w w' := by
  obtain ⟨⟨R1, R2⟩, hR⟩ : ∃ R, escS t = R := ⟨_, rfl⟩
  rw [hR]
  unfold escS at hR
  obtain ⟨n, hn⟩ : ∃ n, t.size = n := ⟨_, rfl⟩
  by_cases h2 : n < 2
  · have h2i : (n : Int) < 2 := by omega
    rw [if_pos (by omega)] at hR
    injection hR with e1 e2
    subst e1 e2
    go_enter Tryd.func38, Tryd.ntmps38
    go_wp2_with fail
    go_ret2
    exact ⟨rfl, Bel.refl _⟩
  have h2i : (2 : Int) ≤ n := by omega
  rw [if_neg (by omega)] at hR
  obtain ⟨c, hc⟩ : ∃ c, t.get! 1 = c := ⟨_, rfl⟩
  have hx2 : t[1]'(by omega) = c := by rw [← hc]; exact (get_at t 1 (by omega)).symm
  have hes := fun w1 => esc_look c w1
  obtain ⟨V, hV⟩ : ∃ V, escV c = V := ⟨_, rfl⟩
  rw [hc, hV] at hR
  rw [hV] at hes
  have HN := Lib.hid hn
  clear hc hV
  cases V with
  | some v =>
    simp only [Option.getD_some, Option.isSome_some] at hes
    injection hR with e1 e2
    subst e1 e2
    have HES := Lib.hid hes
    clear hes
    have hcv := fun W => one_byte_f W (v.toNat : Int) v rfl
    go_enter Tryd.func38, Tryd.ntmps38
    go_wp2_with fail
    go_region_held3 (fun w' => True ∧ Bel w w') (((try dsimp only); (try go_split_ands); (refine ⟨?_, ?_⟩ <;> first | assumption | exact Bel.keep (by assumption) (by assumption) | ((repeat (first | exact Bel.refl _ | assumption | refine Bel.to_drewN ?_ _ | refine Bel.to_drew ?_ | refine Bel.to_setCell ?_ (by first | exact Nat.le_refl _ | (simp; done) | (simp; omega) | omega) _ | refine Bel.to_alloc ?_ _ | refine Bel.trans ?_ (by assumption))); done) | (go_keep; done))))
      (first | (go_at_call 46; refine (HES.out _).mono ?_; rintro e w1 ⟨rfl, hlk0, hb1⟩; have hlk : (Instr.lookup 84 (.map (some w.heap.size)) (.int .u8 c.toNat) true).run Tryd.prog w1 = _ := hlk0; clear hlk0))
    all_goals (
      go_wp2_with fail
      go_ret2
      exact ⟨rfl, ((Bel.drew w).trans hb1).to_alloc _⟩)
  | none =>
    simp only [Option.getD_none, Option.isSome_none] at hes hR
    have HES := Lib.hid hes
    clear hes
    by_cases h117 : c = 117
    · have h117i : ((c.toNat : Int) != 117) = false := by rw [h117]; rfl
      have H117 := Lib.hid h117
      clear h117
      by_cases h6 : n < 6
      · have h6i : (n : Int) < 6 := by omega
        rw [if_neg (fun h => by omega)] at hR
        injection hR with e1 e2
        subst e1 e2
        go_enter Tryd.func38, Tryd.ntmps38
        go_wp2_with fail
        go_region_held3 (fun w' => True ∧ Bel w w') (((try dsimp only); (try go_split_ands); (refine ⟨?_, ?_⟩ <;> first | assumption | exact Bel.keep (by assumption) (by assumption) | ((repeat (first | exact Bel.refl _ | assumption | refine Bel.to_drewN ?_ _ | refine Bel.to_drew ?_ | refine Bel.to_setCell ?_ (by first | exact Nat.le_refl _ | (simp; done) | (simp; omega) | omega) _ | refine Bel.to_alloc ?_ _ | refine Bel.trans ?_ (by assumption))); done) | (go_keep; done))))
          (first | (go_at_call 46; refine (HES.out _).mono ?_; rintro e w1 ⟨rfl, hlk0, hb1⟩; have hlk : (Instr.lookup 84 (.map (some w.heap.size)) (.int .u8 c.toNat) true).run Tryd.prog w1 = _ := hlk0; clear hlk0))
        all_goals (
          go_wp2_with fail
          go_ret2
          exact ⟨rfl, (Bel.drew w).trans hb1⟩)
      · have h6i : (6 : Int) ≤ n := by omega
        have hxs : (t.extract 2 6).size = 4 := by simp; omega
        have htr := fun w1 => Tryd.strings_Trim_laid (t.extract 2 6) ⟨hxS.toArray⟩ w1 (by omega) (by decide) (by
          intro j b h
          have hm : b ∈ hxS := List.mem_of_getElem? h
          exact (show ∀ b ∈ hxS, b.toNat < 128 by decide) b hm)
        rw [show ((⟨hxS.toArray⟩ : ByteArray).data.toList) = hxS from rfl] at htr
        have hem := isEmpty_list (Lib.trimS (t.extract 2 6).data.toList hxS)
        rw [trim_hex] at hem
        obtain ⟨x, hx⟩ : ∃ x, t.extract 2 6 = x := ⟨_, rfl⟩
        rw [hx] at hR hxs htr hem
        obtain ⟨T, hT⟩ : ∃ T : ByteArray, ⟨(Lib.trimS x.data.toList hxS).toArray⟩ = T := ⟨_, rfl⟩
        rw [hT] at htr hem
        obtain ⟨P, hP⟩ : ∃ P, x.data.toList.all hexC = P := ⟨_, rfl⟩
        rw [hP] at hR hem
        have HTR := Lib.hid htr
        have HX := Lib.hid hx
        clear htr hT
        cases P with
        | false =>
          rw [if_neg (fun h => by cases h.2.2)] at hR
          injection hR with e1 e2
          subst e1 e2
          clear hP hxs
          go_enter Tryd.func38, Tryd.ntmps38
          go_wp2_with fail
          go_region_held3 (fun w' => True ∧ Bel w w') (((try dsimp only); (try go_split_ands); (refine ⟨?_, ?_⟩ <;> first | assumption | exact Bel.keep (by assumption) (by assumption) | ((repeat (first | exact Bel.refl _ | assumption | refine Bel.to_drewN ?_ _ | refine Bel.to_drew ?_ | refine Bel.to_setCell ?_ (by first | exact Nat.le_refl _ | (simp; done) | (simp; omega) | omega) _ | refine Bel.to_alloc ?_ _ | refine Bel.trans ?_ (by assumption))); done) | (go_keep; done))))
            (first | (go_at_call 46; refine (HES.out _).mono ?_; rintro e w1 ⟨rfl, hlk0, hb1⟩; have hlk : (Instr.lookup 84 (.map (some w.heap.size)) (.int .u8 c.toNat) true).run Tryd.prog w1 = _ := hlk0; clear hlk0))
          all_goals (
            go_wp2_with fail
            refine (HTR.out _).mono ?_
            rintro e w2 ⟨rfl, hb2⟩
            go_wp2_with fail
            go_ret2
            exact ⟨rfl, ((Bel.drew w).trans hb1).trans hb2⟩)
        | true =>
          rw [if_pos ⟨H117.out, by omega, rfl⟩] at hR
          have hpu := fun w1 => ppuint_c x hxs hP w1
          have hml := hexN_lt _ hP
          rw [show x.data.toList.length = 4 from hxs] at hml
          obtain ⟨m, hm⟩ : ∃ m, hexN x.data.toList = m := ⟨_, rfl⟩
          rw [hm] at hR hpu hml
          have hml2 : m < 65536 := by simpa using hml
          have HPU := Lib.hid hpu
          clear hP hxs hpu hm hml
          cases hf : fineC (m : Int) with
          | false =>
            have hpt := fun w1 => uput_bad (m : Int) hf w1
            rw [if_neg (by rw [hf]; simp)] at hR
            injection hR with e1 e2
            subst e1 e2
            have HPT := Lib.hid hpt
            clear hpt hf
            go_enter Tryd.func38, Tryd.ntmps38
            go_wp2_with fail
            go_region_held3 (fun w' => True ∧ Bel w w') (((try dsimp only); (try go_split_ands); (refine ⟨?_, ?_⟩ <;> first | assumption | exact Bel.keep (by assumption) (by assumption) | ((repeat (first | exact Bel.refl _ | assumption | refine Bel.to_drewN ?_ _ | refine Bel.to_drew ?_ | refine Bel.to_setCell ?_ (by first | exact Nat.le_refl _ | (simp; done) | (simp; omega) | omega) _ | refine Bel.to_alloc ?_ _ | refine Bel.trans ?_ (by assumption))); done) | (go_keep; done))))
              (first | (go_at_call 46; refine (HES.out _).mono ?_; rintro e w1 ⟨rfl, hlk0, hb1⟩; have hlk : (Instr.lookup 84 (.map (some w.heap.size)) (.int .u8 c.toNat) true).run Tryd.prog w1 = _ := hlk0; clear hlk0))
            all_goals (
              go_wp2_with fail
              refine (HTR.out _).mono ?_
              rintro e w2 ⟨rfl, hb2⟩
              go_wp2_with fail
              refine (HPU.out _).mono ?_
              rintro e w3 ⟨rfl, hb3⟩
              go_wp2_with fail
              refine (HPT.out _).mono ?_
              rintro e w4 ⟨rfl, rfl⟩
              go_wp2_with fail
              go_ret2
              exact ⟨rfl, (((Bel.drew w).trans hb1).trans hb2).trans hb3⟩)
          | true =>
            have hpt := fun w1 => uput_fine (m : Int) hf w1
            have hrs := fun W v hv => row_string W v (m : Int) hf hv
            rw [if_pos hf] at hR
            injection hR with e1 e2
            subst e1 e2
            have HPT := Lib.hid hpt
            have HRS := Lib.hid hrs
            clear hpt hf hrs
            go_enter Tryd.func38, Tryd.ntmps38
            go_wp2_with fail
            go_region_held3 (fun w' => True ∧ Bel w w') (((try dsimp only); (try go_split_ands); (refine ⟨?_, ?_⟩ <;> first | assumption | exact Bel.keep (by assumption) (by assumption) | ((repeat (first | exact Bel.refl _ | assumption | refine Bel.to_drewN ?_ _ | refine Bel.to_drew ?_ | refine Bel.to_setCell ?_ (by first | exact Nat.le_refl _ | (simp; done) | (simp; omega) | omega) _ | refine Bel.to_alloc ?_ _ | refine Bel.trans ?_ (by assumption))); done) | (go_keep; done))))
              (first | (go_at_call 46; refine (HES.out _).mono ?_; rintro e w1 ⟨rfl, hlk0, hb1⟩; have hlk : (Instr.lookup 84 (.map (some w.heap.size)) (.int .u8 c.toNat) true).run Tryd.prog w1 = _ := hlk0; clear hlk0))
            all_goals (
              go_wp2_with fail
              refine (HTR.out _).mono ?_
              rintro e w2 ⟨rfl, hb2⟩
              go_wp2_with fail
              refine (HPU.out _).mono ?_
              rintro e w3 ⟨rfl, hb3⟩
              go_wp2_with fail
              refine (HPT.out _).mono ?_
              rintro e w4 ⟨v, rfl, hv, hb4⟩
              have hcv := HRS.out w4 v hv
              obtain ⟨b, off, cap, rfl, _, _, _⟩ := hv
              go_wp2_with fail
              go_ret2
              exact ⟨rfl, ((((Bel.drew w).trans hb1).trans hb2).trans hb3).trans hb4⟩)
    · have h117i : ((c.toNat : Int) != 117) = true := by
        simp only [bne_iff_ne, ne_eq]
        intro h
        exact h117 (UInt8.toNat_inj.1 (by rw [show (117 : UInt8).toNat = 117 from rfl]; omega))
      rw [if_neg (fun h => h117 h.1)] at hR
      injection hR with e1 e2
      subst e1 e2
      go_enter Tryd.func38, Tryd.ntmps38
      go_wp2_with fail
      go_region_held3 (fun w' => True ∧ Bel w w') (((try dsimp only); (try go_split_ands); (refine ⟨?_, ?_⟩ <;> first | assumption | exact Bel.keep (by assumption) (by assumption) | ((repeat (first | exact Bel.refl _ | assumption | refine Bel.to_drewN ?_ _ | refine Bel.to_drew ?_ | refine Bel.to_setCell ?_ (by first | exact Nat.le_refl _ | (simp; done) | (simp; omega) | omega) _ | refine Bel.to_alloc ?_ _ | refine Bel.trans ?_ (by assumption))); done) | (go_keep; done))))
        (first | (go_at_call 46; refine (HES.out _).mono ?_; rintro e w1 ⟨rfl, hlk0, hb1⟩; have hlk : (Instr.lookup 84 (.map (some w.heap.size)) (.int .u8 c.toNat) true).run Tryd.prog w1 = _ := hlk0; clear hlk0))
      all_goals (
        go_wp2_with fail
        go_ret2
        exact ⟨rfl, (Bel.drew w).trans hb1⟩)
end Go.Proofs.YtjnaikojoemkaaaDoor
