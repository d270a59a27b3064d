/-
  The walks of the document's answer for number: digits, Check, Canon.
-/
import Derived.Test.YtdpmibkiihddjaaDoorNF
import Derived.Deep.LoopGhost
namespace Go.Proofs.YtdpmibkiihddjaaDoor
open Go.RowKit

set_option maxHeartbeats 1000000 in
theorem rdigits_c (s : ByteArray) (hs : s.size ≤ maxLen) (w : World) :
    Calls Tryd.prog 25 #[.string s] w fun e w' => e = .returned (.bool (digitsL (dl s))) ∧ w = w' := by
  unfold maxLen at hs
  obtain ⟨A, hA⟩ : ∃ A, (dl s).all isDig = A := ⟨_, rfl⟩
  have hd : digitsL (dl s) = (A && !(dl s).isEmpty) := by rw [← hA]; rfl
  have HA := Lib.hid hA
  have HD := Lib.hid hd
  clear hA hd
  go_enter Tryd.func25, Tryd.ntmps25
  go_wp2_with fail
  go_loop [3] (fun i => ∃ k : Nat, k ≤ s.size ∧ i = .int .i64 k ∧ ((dl s).drop k).all isDig = A) (fun i => s.size - (intOf i).toNat)
  case atStart => exact ⟨0, Nat.zero_le _, rfl, HA.out⟩
  case round =>
    obtain ⟨k, hk, rfl, hall⟩ := hrel
    by_cases hlt : k < s.size
    · rw [dl_drop s k hlt, List.all_cons] at hall
      have hc : isDig (s.get! k) = decide (48 ≤ ((s[k]).toNat : Int) ∧ ((s[k]).toNat : Int) ≤ 57) := by
        have : s.get! k = s[k] := by simpa using get_at s k hlt
        rw [this]; unfold isDig; rw [Bool.eq_iff_iff]; simp only [decide_eq_true_eq]; omega
      rw [hc] at hall
      have H := Lib.hid hall
      clear hall hc
      go_wp2_with fail
      · have hA1 : A = false := by rw [← H.out, decide_eq_false (by omega)]; rfl
        go_ret
        refine ⟨ret_bool ?_, rfl⟩
        rw [HD.out, hA1]; rfl
      · refine ⟨⟨k + 1, by omega, by go_num, ?_⟩, by simp [intOf]; omega⟩
        rw [← H.out, decide_eq_true (by omega)]; rfl
      · have hA1 : A = false := by rw [← H.out, decide_eq_false (by omega)]; rfl
        go_ret
        refine ⟨ret_bool ?_, rfl⟩
        rw [HD.out, hA1]; rfl
    · obtain rfl : k = s.size := by omega
      have hA1 : A = true := by rw [← hall, List.drop_of_length_le (by rw [dl_size]; omega)]; rfl
      have H := Lib.hid hA1
      clear hall hA1
      go_wp2_with fail
      go_ret
      refine ⟨ret_bool ?_, rfl⟩
      rw [HD.out, H.out]
      have hds := dl_size s
      rcases Nat.eq_zero_or_pos s.size with h0 | h0
      · rw [h0] at hds ⊢
        rw [List.eq_nil_of_length_eq_zero hds]; rfl
      · have : (dl s).isEmpty = false := by
          cases hl : dl s with
          | nil => rw [hl] at hds; simp at hds; omega
          | cons c l => rfl
        rw [this]; simp; omega

set_option maxHeartbeats 1000000 in
theorem rcheck_c (d : ByteArray) (hs : d.size ≤ maxLen) (sc : Int) (w : World) :
    Calls Tryd.prog 13 #[.agg #[.string d, .int .i64 sc]] w fun e w' => e = .returned (.int .i64 (checkN (dl d) sc)) ∧ Bel w w' := by
  have hdig := fun w1 => rdigits_c d hs w1
  unfold maxLen at hs
  obtain ⟨D, hD⟩ : ∃ D, digitsL (dl d) = D := ⟨_, rfl⟩
  rw [hD] at hdig
  have HG := Lib.hid hdig
  have hn : checkN (dl d) sc = if D = false then 17 else if 1000 < d.size then 19 else if sc < 0 ∨ 1000 < sc then 3 else 0 := by unfold checkN; rw [hD]; rfl
  rw [hn]
  clear hdig hD hn
  cases D
  · rw [if_pos rfl]
    go_enter Tryd.func13, Tryd.ntmps13
    go_wp2_with (go_at_call 25; refine (HG.out _).mono ?_; rintro e w' ⟨rfl, rfl⟩)
    go_ret
    exact ⟨rfl, by (repeat (first | exact Bel.refl _ | assumption | refine Bel.to_drewN ?_ _ | refine Bel.to_drew ?_ | refine Bel.to_setCell ?_ (by first | exact Nat.le_refl _ | (simp; done) | (simp; omega) | omega) _ | refine Bel.to_alloc ?_ _ | refine Bel.trans ?_ (by assumption)))⟩
  · rw [if_neg (by simp)]
    by_cases hl : 1000 < d.size
    · rw [if_pos hl]
      have hl2 : (1000 : Int) < d.size := by omega
      go_enter Tryd.func13, Tryd.ntmps13
      go_wp2_with (go_at_call 25; refine (HG.out _).mono ?_; rintro e w' ⟨rfl, rfl⟩)
      go_ret
      exact ⟨rfl, by (repeat (first | exact Bel.refl _ | assumption | refine Bel.to_drewN ?_ _ | refine Bel.to_drew ?_ | refine Bel.to_setCell ?_ (by first | exact Nat.le_refl _ | (simp; done) | (simp; omega) | omega) _ | refine Bel.to_alloc ?_ _ | refine Bel.trans ?_ (by assumption)))⟩
    · rw [if_neg hl]
      have hl2 : (d.size : Int) ≤ 1000 := by omega
      by_cases h3 : sc < 0 ∨ 1000 < sc
      · rw [if_pos h3]
        have H3 := Lib.hid h3
        clear h3
        rcases H3.out with h3 | h3
        all_goals
          go_enter Tryd.func13, Tryd.ntmps13
          go_wp2_with (go_at_call 25; refine (HG.out _).mono ?_; rintro e w' ⟨rfl, rfl⟩)
          go_ret
          exact ⟨rfl, by (repeat (first | exact Bel.refl _ | assumption | refine Bel.to_drewN ?_ _ | refine Bel.to_drew ?_ | refine Bel.to_setCell ?_ (by first | exact Nat.le_refl _ | (simp; done) | (simp; omega) | omega) _ | refine Bel.to_alloc ?_ _ | refine Bel.trans ?_ (by assumption)))⟩
      · rw [if_neg h3]
        have h4 : 0 ≤ sc := by omega
        have h5 : sc ≤ 1000 := by omega
        clear h3
        go_enter Tryd.func13, Tryd.ntmps13
        go_wp2_with (go_at_call 25; refine (HG.out _).mono ?_; rintro e w' ⟨rfl, rfl⟩)
        go_ret
        exact ⟨rfl, by (repeat (first | exact Bel.refl _ | assumption | refine Bel.to_drewN ?_ _ | refine Bel.to_drew ?_ | refine Bel.to_setCell ?_ (by first | exact Nat.le_refl _ | (simp; done) | (simp; omega) | omega) _ | refine Bel.to_alloc ?_ _ | refine Bel.trans ?_ (by assumption)))⟩

/-- Block b holds two cells. -/
def Two (w : World) (b : Nat) (t : TypeId) (x y : Value) : Prop := w.heap[b]? = some (.cells #[x, y] t (0, 0))
section
variable {w : World} {b : Nat} {t : TypeId} {x y : Value}
theorem Two.lt (h : Two w b t x y) : b < w.heap.size := (Array.getElem?_eq_some_iff.1 h).1
theorem Two.c0 (h : Two w b t x y) : w.cell? ⟨b, 0, none⟩ = some x := by unfold Two at h; simp [World.cell?, h]
theorem Two.c1 (h : Two w b t x y) : w.cell? ⟨b, 1, none⟩ = some y := by unfold Two at h; simp [World.cell?, h]
theorem Two.fz (h : Two w b t x y) (o : Nat) : w.frozen? ⟨b, o, none⟩ = false := by unfold Two at h; simp [World.frozen?, h]
theorem Two.set0 (h : Two w b t x y) (z : Value) : Two (w.setCell ⟨b, 0, none⟩ z) b t z y := by unfold Two at h ⊢; simp [World.setCell, Array.getElem?_modify, h]
theorem Two.set1 (h : Two w b t x y) (z : Value) : Two (w.setCell ⟨b, 1, none⟩ z) b t x z := by unfold Two at h ⊢; simp [World.setCell, Array.getElem?_modify, h]
theorem Two.far (h : Two w b t x y) {p : Addr} (hp : b ≠ p.block) (z : Value) : Two (w.setCell p z) b t x y := by
  unfold Two at h ⊢; exact (Below.heap_setCell w p z b hp).trans h
theorem Two.drew (h : Two w b t x y) : Two w.drew b t x y := h
theorem Two.bel {w' : World} (h : Two w b t x y) (hb : Bel w w') : Two w' b t x y := (hb.block h.lt).trans h
theorem Two.new (w : World) (t : TypeId) (x y : Value) : Two (w.alloc (.cells #[x, y] t)) w.heap.size t x y := World.alloc_heap_new _ _
end
def cellStr (w : World) (b : Nat) : Nat := match w.cell? ⟨b, 0, none⟩ with
  | some v => Lib.strSize v
  | none => 0
theorem Two.str {w : World} {b : Nat} {t : TypeId} {s : ByteArray} {y : Value} (h : Two w b t (.string s) y) : cellStr w b = s.size := by
  unfold cellStr; rw [h.c0]; rfl

set_option maxHeartbeats 4000000 in
theorem rcanon_c (d : ByteArray) (hs : d.size ≤ 4294967280) (hd : dl d ≠ []) (sc : Nat) (hsc : sc ≤ 4294967280) (w : World) :
    Calls Tryd.prog 15 #[.agg #[.string d, .int .i64 sc]] w (RetNum (canonL (dl d) sc) w) := by
  rw [canon_same (dl d) hd sc]
  unfold rcanonL
  obtain ⟨R1, hR1⟩ : ∃ R, rstrip (dl d) = R := ⟨_, rfl⟩
  rw [hR1]
  obtain ⟨⟨R2, n2⟩, hR2⟩ : ∃ R, rback R1.reverse sc = R := ⟨_, rfl⟩
  rw [hR2]
  dsimp only
  obtain ⟨F, hF⟩ : ∃ F : List UInt8 × Int, (R2.reverse, ((if R2 = [48] then 0 else n2 : Nat) : Int)) = F := ⟨_, rfl⟩
  rw [hF]
  have HF := Lib.hid hF
  clear hF
  have HD := Lib.hid hd
  have HR1 := Lib.hid hR1
  have HR2 := Lib.hid hR2
  clear hd hR1 hR2
  go_enter Tryd.func15, Tryd.ntmps15
  go_wp2_with fail
  have t1 := (Two.new w 24 (.string d) (.int .i64 sc)).bel (Bel.alloc _ (.cells #[.string ⟨#[]⟩, .int .i64 0] 24))
  have t2 := Two.new (w.alloc (.cells #[.string d, .int .i64 sc] 24)) 24 (.string ⟨#[]⟩) (.int .i64 0)
  rw [World.size_alloc] at t2
  have hb0 : Bel w ((w.alloc (.cells #[.string d, .int .i64 sc] 24)).alloc (.cells #[.string ⟨#[]⟩, .int .i64 0] 24)) := by (repeat (first | exact Bel.refl _ | assumption | refine Bel.to_drewN ?_ _ | refine Bel.to_drew ?_ | refine Bel.to_setCell ?_ (by first | exact Nat.le_refl _ | (simp; done) | (simp; omega) | omega) _ | refine Bel.to_alloc ?_ _ | refine Bel.trans ?_ (by assumption)))
  have hds := dl_size d
  go_loopg [4] (d.size) (fun g _ wr => ∃ X : ByteArray, Two wr w.heap.size 24 (.string X) (.int .i64 sc) ∧ Two wr (w.heap.size + 1) 24 (.string ⟨#[]⟩) (.int .i64 0) ∧ Bel w wr ∧ X.size ≤ 4294967280 ∧ dl X ≠ [] ∧ rstrip (dl X) = R1 ∧ X.size ≤ g)
  case atStart => exact ⟨d, t1, t2, hb0, hs, HD.out, HR1.out, Nat.le_refl _⟩
  case round =>
    obtain ⟨X, h1, h2, hb, hX, hne, hstr, hg⟩ := hrel
    have q0 := h1.c0
    have q1 := h1.c1
    have qf := h1.fz
    have hlt := h1.lt
    have H1 := Lib.hid h1
    have H2 := Lib.hid h2
    have HB := Lib.hid hb
    have HNE := Lib.hid hne
    have HSTR := Lib.hid hstr
    have hXn := dl_size X
    obtain ⟨c, l, hcl⟩ : ∃ c l, dl X = c :: l := by
      cases h : dl X with
      | nil => exact absurd h hne
      | cons c l => exact ⟨c, l, rfl⟩
    have hXp : 0 < X.size := by rw [← hXn, hcl]; simp
    have hX0 : X[0] = c := by
      have h1 := dl_drop X 0 hXp
      rw [List.drop_zero, hcl] at h1
      have h2 : X.get! 0 = X[0] := by simpa using get_at X 0 hXp
      rw [← h2]; exact (List.cons.inj h1).1.symm
    clear h1 h2 hb hne hstr t1 t2 hb0
    by_cases hmore : 1 < X.size ∧ c = 48
    · obtain ⟨hm1, rfl⟩ := hmore
      have hm2 : (1 : Int) < X.size := by omega
      obtain ⟨e, l2, rfl⟩ : ∃ e l2, l = e :: l2 := by
        cases l with
        | nil => rw [hcl] at hXn; simp at hXn; omega
        | cons e l2 => exact ⟨e, l2, rfl⟩
      have hdl2 : dl (X.extract 1 X.size) = e :: l2 := by
        rw [Lib.extract_from]
        show (dl X).drop 1 = _
        rw [hcl]; rfl
      have HCL := Lib.hid hcl
      have HDL := Lib.hid hdl2
      have hes : (X.extract 1 X.size).size = X.size - 1 := by simp
      clear hcl hdl2 hXn hds
      go_wp2_with fail
      go_roundg (gk - 1)
      case measure => omega
      case rel =>
        refine ⟨X.extract 1 X.size, H1.out.set0 _, H2.out.far (by simp) _, ?_, by omega, by rw [HDL.out]; simp, ?_, by omega⟩
        · exact Bel.to_setCell HB.out (Nat.le_refl _) _
        · rw [HDL.out, ← HSTR.out, HCL.out, rstrip, if_pos rfl]
    · have hfin : R1 = dl X := by
        rw [← HSTR.out, hcl]
        cases l with
        | nil => rfl
        | cons e l2 =>
          rw [rstrip, if_neg (fun h => hmore ⟨by rw [← hXn, hcl]; simp, h⟩)]
      have HFIN := Lib.hid hfin
      have HCL := Lib.hid hcl
      clear hfin hcl hXn hds
      have hways : (X.size : Int) ≤ 1 ∨ ((1 : Int) < X.size ∧ ((c.toNat : Int) == 48) = false) := by
        by_cases h1 : 1 < X.size
        · refine Or.inr ⟨by omega, ?_⟩
          have : c ≠ 48 := fun h => hmore ⟨h1, h⟩
          refine beq_eq_false_iff_ne.2 fun e => this (UInt8.toNat_inj.1 ?_)
          have : (48 : UInt8).toNat = 48 := rfl
          omega
        · exact Or.inl (by omega)
      have HWAYS := Lib.hid hways
      clear hways hmore hg
      rcases HWAYS.out with hw1 | ⟨hw1, hw2⟩
      all_goals
        go_wp2_with fail
        go_loopg [18] (sc) (fun g _ wr => ∃ (X : ByteArray) (n : Nat), Two wr w.heap.size 24 (.string X) (.int .i64 n) ∧ Two wr (w.heap.size + 1) 24 (.string ⟨#[]⟩) (.int .i64 0) ∧ Bel w wr ∧ X.size ≤ 4294967280 ∧ dl X ≠ [] ∧ n ≤ 4294967280 ∧ rback (dl X).reverse n = (R2, n2) ∧ n ≤ g)
        case atStart => exact ⟨X, sc, H1.out, H2.out, HB.out, hX, HNE.out, hsc, by rw [← HFIN.out]; exact HR2.out, Nat.le_refl _⟩
        case round =>
          clear hw1 HFIN HCL HWAYS HSTR HNE HB H1 H2 hXp hX0 qf q0 q1 hlt hX
          try clear hw2
          obtain ⟨Y, n, h1, h2, hb, hY, hne, hn, hrb, hg⟩ := hrel
          have q0 := h1.c0
          have q1 := h1.c1
          have qf := h1.fz
          have r0 := h2.c0
          have r1 := h2.c1
          have rf := h2.fz
          have hlt := h1.lt
          have hlt2 := h2.lt
          have hYn := dl_size Y
          obtain ⟨e, l2, hel⟩ : ∃ e l2, (dl Y).reverse = e :: l2 := by
            cases h : (dl Y).reverse with
            | nil => exact absurd (List.reverse_eq_nil_iff.1 h) hne
            | cons e l2 => exact ⟨e, l2, rfl⟩
          have hel2 : dl Y = l2.reverse ++ [e] := by rw [← List.reverse_reverse (dl Y), hel, List.reverse_cons]
          have hl2 : l2.length + 1 = Y.size := by rw [← hYn, hel2]; simp
          have hy0 : Y.size - 1 < Y.size := by omega
          have hYl : Y[Y.size - 1]'hy0 = e := by
            have h3 : Y.get! (Y.size - 1) = Y[Y.size - 1]'hy0 := by simpa using get_at Y (Y.size - 1) (by omega)
            have h4 := dl_drop Y (Y.size - 1) (by omega)
            rw [hel2, List.drop_append_of_le_length (by simp; omega), List.drop_of_length_le (by simp; omega)] at h4
            rw [← h3]
            exact (List.cons.inj h4).1.symm
          have f1 : IntKind.i64.wrap ((Y.size : Int) - 1) = (Y.size : Int) - 1 := IntWalk.i64_in _ (by omega)
          have f2 : (0 : Int) ≤ (Y.size : Int) - 1 := by omega
          have f2' : (1 : Int) ≤ (Y.size : Int) := by omega
          have f3 : ((Y.size : Int) - 1).toNat = Y.size - 1 := by omega
          have f4 : (Y.size : Int) - 1 < Y.size := by omega
          have H1 := Lib.hid h1
          have H2 := Lib.hid h2
          have HB := Lib.hid hb
          have HRB := Lib.hid hrb
          have HEL := Lib.hid hel
          have HEL2 := Lib.hid hel2
          have HL2 := Lib.hid hl2
          have HYN := Lib.hid hYn
          clear h1 h2 hb hrb hel hel2 hl2 hYn hne
          have hY48 : Hid ((Y.toList == [48]) = decide (e = 48 ∧ l2 = [])) := Lib.hid (by
            rw [Lib.toList_data, show Y.data.toList = dl Y from rfl, HEL2.out]
            refine bool_ext ?_
            rw [beq_iff_eq, decide_eq_true_eq]
            constructor
            · intro h
              have := congrArg List.length h
              simp at this
              subst this
              simp at h
              exact ⟨h, rfl⟩
            · rintro ⟨rfl, rfl⟩; rfl)
          by_cases hmore : 0 < n ∧ e = 48 ∧ l2 ≠ []
          · obtain ⟨hn0, rfl, hl3⟩ := hmore
            have hn1 : (0 : Int) < n := by omega
            have hY1 : (Y.toList == [48]) = false := by rw [hY48.out]; simp [hl3]
            have hY2 : Y.toList ≠ [48] := fun h => by rw [h] at hY1; simp at hY1
            have hes : (Y.extract 0 (Y.size - 1)).size = Y.size - 1 := by simp
            have hdl2 : dl (Y.extract 0 (Y.size - 1)) = l2.reverse := by
              rw [Lib.extract_upto]
              show (dl Y).take _ = _
              rw [HEL2.out, List.take_append_of_le_length (by simp; have := HL2.out; omega), List.take_of_length_le (by simp; have := HL2.out; omega)]
            have HDL := Lib.hid hdl2
            have HL3 := Lib.hid hl3
            clear hdl2 hl3 hY48
            go_wp2_with fail
            go_roundg (gk - 1)
            case measure => omega
            case rel =>
              refine ⟨Y.extract 0 (Y.size - 1), n - 1, ?_, ?_, ?_, by omega, by rw [HDL.out]; simp [HL3.out], by omega, ?_, by omega⟩
              · have := (H1.out.set0 (.string (Y.extract 0 (Y.size - 1)))).set1 (.int .i64 ((n : Int) - 1))
                rw [show ((n : Int) - 1) = ((n - 1 : Nat) : Int) from by omega] at this ⊢
                exact this
              · exact (H2.out.far (by simp) _).far (by simp) _
              · exact Bel.to_setCell (Bel.to_setCell HB.out (Nat.le_refl _) _) (Nat.le_refl _) _
              · have h := HRB.out
                obtain ⟨m, rfl⟩ : ∃ m, n = m + 1 := ⟨n - 1, by omega⟩
                rw [HEL.out, rback, if_pos ⟨rfl, by simp [HL3.out]⟩] at h
                rw [HDL.out, List.reverse_reverse]
                exact h
          · have hfin : (R2, n2) = ((dl Y).reverse, n) := by
              rw [← HRB.out, HEL.out]
              cases n with
              | zero => rfl
              | succ m =>
                rw [rback, if_neg]
                rintro ⟨h, h'⟩
                exact hmore ⟨by omega, h, fun h2 => h' (by rw [h, h2])⟩
            have h1 : R2 = (dl Y).reverse := congrArg Prod.fst hfin
            have h2 : n2 = n := congrArg Prod.snd hfin
            have hFF : F = (dl Y, ((if e = 48 ∧ l2 = [] then 0 else n : Nat) : Int)) := by
              rw [← HF.out, h1, h2, List.reverse_reverse, HEL.out]
              by_cases h3 : e = 48 ∧ l2 = []
              · obtain ⟨rfl, rfl⟩ := h3
                simp
              · rw [if_neg h3, if_neg (fun h4 => h3 ⟨(List.cons.inj h4).1, (List.cons.inj h4).2⟩)]
            have HFF := Lib.hid hFF
            clear hfin h1 h2 hFF
            have hways : (n = 0 ∧ e = 48 ∧ l2 = []) ∨ (n = 0 ∧ ¬ (e = 48 ∧ l2 = [])) ∨ (0 < n ∧ e = 48 ∧ l2 = []) ∨ (0 < n ∧ e ≠ 48) := by
              by_cases a : n = 0 <;> by_cases b : e = 48 <;> by_cases c : l2 = [] <;> simp [a, b, c] at hmore ⊢ <;> omega
            have HWAYS := Lib.hid hways
            clear hways hmore
            have hYb : ∀ bo, decide (e = 48 ∧ l2 = []) = bo → (Y.toList == [48]) = bo := fun bo h => by rw [hY48.out, h]
            have HYB := Lib.hid hYb
            clear hYb hY48
            rcases HWAYS.out with ⟨rfl, he, hl⟩ | ⟨rfl, hel⟩ | ⟨hn0, he, hl⟩ | ⟨hn0, he⟩
            · have hY1 := HYB.out true (by simp [he, hl])
              have hY2 : Y.toList = [48] := by simpa using hY1
              have HE := Lib.hid (And.intro he hl)
              clear he hl
              go_wp2_with fail
              refine bodyPost_ret (v := .agg #[.string Y, .int .i64 0]) (by simp [results, Tryd.results15, go_sem, r0, r1]) rfl ⟨?_, ?_⟩
              · rw [HFF.out, if_pos HE.out]; rfl
              · have hb := HB.out
                (repeat (first | exact Bel.refl _ | assumption | refine Bel.to_drewN ?_ _ | refine Bel.to_drew ?_ | refine Bel.to_setCell ?_ (by first | exact Nat.le_refl _ | (simp; done) | (simp; omega) | omega) _ | refine Bel.to_alloc ?_ _ | refine Bel.trans ?_ (by assumption)))
            · have hY1 := HYB.out false (by simpa using hel)
              have hY2 : Y.toList ≠ [48] := fun h => by rw [h] at hY1; simp at hY1
              have HE := Lib.hid hel
              clear hel
              go_wp2_with fail
              refine bodyPost_ret (v := .agg #[.string Y, .int .i64 0]) (by simp [results, Tryd.results15, go_sem, r0, r1]) rfl ⟨?_, ?_⟩
              · rw [HFF.out, if_neg HE.out]; rfl
              · have hb := HB.out
                (repeat (first | exact Bel.refl _ | assumption | refine Bel.to_drewN ?_ _ | refine Bel.to_drew ?_ | refine Bel.to_setCell ?_ (by first | exact Nat.le_refl _ | (simp; done) | (simp; omega) | omega) _ | refine Bel.to_alloc ?_ _ | refine Bel.trans ?_ (by assumption)))
            · have hn1 : (0 : Int) < n := by omega
              have hY1 := HYB.out true (by simp [he, hl])
              have hY2 : Y.toList = [48] := by simpa using hY1
              have HE := Lib.hid (And.intro he hl)
              clear hl
              subst he
              go_wp2_with fail
              refine bodyPost_ret (v := .agg #[.string Y, .int .i64 0]) (by simp [results, Tryd.results15, go_sem, r0, r1]) rfl ⟨?_, ?_⟩
              · rw [HFF.out, if_pos HE.out]; rfl
              · have hb := HB.out
                (repeat (first | exact Bel.refl _ | assumption | refine Bel.to_drewN ?_ _ | refine Bel.to_drew ?_ | refine Bel.to_setCell ?_ (by first | exact Nat.le_refl _ | (simp; done) | (simp; omega) | omega) _ | refine Bel.to_alloc ?_ _ | refine Bel.trans ?_ (by assumption)))
            · have hn1 : (0 : Int) < n := by omega
              have hY1 := HYB.out false (by simp [he])
              have hY2 : Y.toList ≠ [48] := fun h => by rw [h] at hY1; simp at hY1
              have hec : ((e.toNat : Int) == 48) = false := by
                refine beq_eq_false_iff_ne.2 fun e2 => he (UInt8.toNat_inj.1 ?_)
                have : (48 : UInt8).toNat = 48 := rfl
                omega
              have HE : Hid (¬ (e = 48 ∧ l2 = [])) := Lib.hid (fun h => he h.1)
              clear he
              go_wp2_with fail
              refine bodyPost_ret (v := .agg #[.string Y, .int .i64 n]) (by simp [results, Tryd.results15, go_sem, r0, r1]) rfl ⟨?_, ?_⟩
              · rw [HFF.out, if_neg HE.out]; rfl
              · have hb := HB.out
                (repeat (first | exact Bel.refl _ | assumption | refine Bel.to_drewN ?_ _ | refine Bel.to_drew ?_ | refine Bel.to_setCell ?_ (by first | exact Nat.le_refl _ | (simp; done) | (simp; omega) | omega) _ | refine Bel.to_alloc ?_ _ | refine Bel.trans ?_ (by assumption)))
end Go.Proofs.YtdpmibkiihddjaaDoor
