/-
  The walks of the document's answer for number: digits, Check, Canon.
  The walk of the document's answer for number: Read.
  Plain laws for the laws of number: the one form is right; the program's sum is the document's.
  The walk of the document's answer for number: Text.
-/
import Derived.Test.YtpenfnabeckboaaGreatDoorNUA
import Derived.Deep.LoopGhost
namespace Go.Proofs.YtpenfnabeckboaaGreatDoor
open Go.RowKit
set_option maxHeartbeats 1000000 in
theorem rdigits_c (s : ByteArray) (hs : s.size ≤ maxLen) (w : World) :
    Calls Tryz.prog 109 #[.string s] w fun e w' => e = .returned (.bool (digitsL (dl s))) ∧ w = w' := by
  unfold maxLen at hs
  obtain ⟨A, hA⟩ : ∃ A, (dl s).all isDig = A := ⟨_, rfl⟩
  have hd : digitsL (dl s) = (A && !(dl s).isEmpty) := by rw [← hA]; rfl
  have HA := Lib.hid hA
  have HD := Lib.hid hd
  clear hA hd
  go_enter Tryz.func109, Tryz.ntmps109
  go_wp2_with fail
  go_loop [3] (fun i => ∃ k : Nat, k ≤ s.size ∧ i = .int .i64 k ∧ ((dl s).drop k).all isDig = A) (fun i => s.size - (intOf i).toNat)
  case atStart => exact ⟨0, Nat.zero_le _, rfl, HA.out⟩
  case round =>
    obtain ⟨k, hk, rfl, hall⟩ := hrel
    by_cases hlt : k < s.size
    · rw [dl_drop s k hlt, List.all_cons] at hall
      have hc : isDig (s.get! k) = decide (48 ≤ ((s[k]).toNat : Int) ∧ ((s[k]).toNat : Int) ≤ 57) := by
        have : s.get! k = s[k] := by simpa using get_at s k hlt
        rw [this]; unfold isDig; rw [Bool.eq_iff_iff]; simp only [decide_eq_true_eq]; omega
      rw [hc] at hall
      have H := Lib.hid hall
      clear hall hc
      go_wp2_with fail
      · have hA1 : A = false := by rw [← H.out, decide_eq_false (by omega)]; rfl
        go_ret
        refine ⟨ret_bool ?_, rfl⟩
        rw [HD.out, hA1]; rfl
      · refine ⟨⟨k + 1, by omega, by go_num, ?_⟩, by simp [intOf]; omega⟩
        rw [← H.out, decide_eq_true (by omega)]; rfl
      · have hA1 : A = false := by rw [← H.out, decide_eq_false (by omega)]; rfl
        go_ret
        refine ⟨ret_bool ?_, rfl⟩
        rw [HD.out, hA1]; rfl
    · obtain rfl : k = s.size := by omega
      have hA1 : A = true := by rw [← hall, List.drop_of_length_le (by rw [dl_size]; omega)]; rfl
      have H := Lib.hid hA1
      clear hall hA1
      go_wp2_with fail
      go_ret
      refine ⟨ret_bool ?_, rfl⟩
      rw [HD.out, H.out]
      have hds := dl_size s
      rcases Nat.eq_zero_or_pos s.size with h0 | h0
      · rw [h0] at hds ⊢
        rw [List.eq_nil_of_length_eq_zero hds]; rfl
      · have : (dl s).isEmpty = false := by
          cases hl : dl s with
          | nil => rw [hl] at hds; simp at hds; omega
          | cons c l => rfl
        rw [this]; simp; omega
/-- Block b holds two cells. -/
def Two (w : World) (b : Nat) (t : TypeId) (x y : Value) : Prop := w.heap[b]? = some (.cells #[x, y] t (0, 0))
section
variable {w : World} {b : Nat} {t : TypeId} {x y : Value}
theorem Two.lt (h : Two w b t x y) : b < w.heap.size := (Array.getElem?_eq_some_iff.1 h).1
theorem Two.c0 (h : Two w b t x y) : w.cell? ⟨b, 0, none⟩ = some x := by unfold Two at h; simp [World.cell?, h]
theorem Two.c1 (h : Two w b t x y) : w.cell? ⟨b, 1, none⟩ = some y := by unfold Two at h; simp [World.cell?, h]
theorem Two.fz (h : Two w b t x y) (o : Nat) : w.frozen? ⟨b, o, none⟩ = false := by unfold Two at h; simp [World.frozen?, h]
theorem Two.set0 (h : Two w b t x y) (z : Value) : Two (w.setCell ⟨b, 0, none⟩ z) b t z y := by unfold Two at h ⊢; simp [World.setCell, Array.getElem?_modify, h]
theorem Two.set1 (h : Two w b t x y) (z : Value) : Two (w.setCell ⟨b, 1, none⟩ z) b t x z := by unfold Two at h ⊢; simp [World.setCell, Array.getElem?_modify, h]
theorem Two.far (h : Two w b t x y) {p : Addr} (hp : b ≠ p.block) (z : Value) : Two (w.setCell p z) b t x y := by
  unfold Two at h ⊢; exact (Below.heap_setCell w p z b hp).trans h
theorem Two.drew (h : Two w b t x y) : Two w.drew b t x y := h
theorem Two.bel {w' : World} (h : Two w b t x y) (hb : Bel w w') : Two w' b t x y := (hb.block h.lt).trans h
theorem Two.new (w : World) (t : TypeId) (x y : Value) : Two (w.alloc (.cells #[x, y] t)) w.heap.size t x y := World.alloc_heap_new _ _
end
def cellStr (w : World) (b : Nat) : Nat := match w.cell? ⟨b, 0, none⟩ with
  | some v => Lib.strSize v
  | none => 0
theorem Two.str {w : World} {b : Nat} {t : TypeId} {s : ByteArray} {y : Value} (h : Two w b t (.string s) y) : cellStr w b = s.size := by
  unfold cellStr; rw [h.c0]; rfl
set_option maxHeartbeats 4000000 in
theorem rcanon_c (d : ByteArray) (hs : d.size ≤ 4294967280) (hd : dl d ≠ []) (sc : Nat) (hsc : sc ≤ 4294967280) (w : World) :
    Calls Tryz.prog 110 #[.agg #[.string d, .int .i64 sc]] w (RetNum (canonL (dl d) sc) w) := by
  rw [canon_same (dl d) hd sc]
  unfold rcanonL
  obtain ⟨R1, hR1⟩ : ∃ R, rstrip (dl d) = R := ⟨_, rfl⟩
  rw [hR1]
  obtain ⟨⟨R2, n2⟩, hR2⟩ : ∃ R, rback R1.reverse sc = R := ⟨_, rfl⟩
  rw [hR2]
  dsimp only
  obtain ⟨F, hF⟩ : ∃ F : List UInt8 × Int, (R2.reverse, ((if R2 = [48] then 0 else n2 : Nat) : Int)) = F := ⟨_, rfl⟩
  rw [hF]
  have HF := Lib.hid hF
  clear hF
  have HD := Lib.hid hd
  have HR1 := Lib.hid hR1
  have HR2 := Lib.hid hR2
  clear hd hR1 hR2
  go_enter Tryz.func110, Tryz.ntmps110
  go_wp2_with fail
  have t1 := (Two.new w 104 (.string d) (.int .i64 sc)).bel (Bel.alloc _ (.cells #[.string ⟨#[]⟩, .int .i64 0] 104))
  have t2 := Two.new (w.alloc (.cells #[.string d, .int .i64 sc] 104)) 104 (.string ⟨#[]⟩) (.int .i64 0)
  rw [World.size_alloc] at t2
  have hb0 : Bel w ((w.alloc (.cells #[.string d, .int .i64 sc] 104)).alloc (.cells #[.string ⟨#[]⟩, .int .i64 0] 104)) := by (repeat (first | exact Bel.refl _ | assumption | refine Bel.to_drewN ?_ _ | refine Bel.to_drew ?_ | refine Bel.to_setCell ?_ (by first | exact Nat.le_refl _ | (simp; done) | (simp; omega) | omega) _ | refine Bel.to_alloc ?_ _ | refine Bel.trans ?_ (by assumption)))
  have hds := dl_size d
  go_loopg [4] (d.size) (fun g _ wr => ∃ X : ByteArray, Two wr w.heap.size 104 (.string X) (.int .i64 sc) ∧ Two wr (w.heap.size + 1) 104 (.string ⟨#[]⟩) (.int .i64 0) ∧ Bel w wr ∧ X.size ≤ 4294967280 ∧ dl X ≠ [] ∧ rstrip (dl X) = R1 ∧ X.size ≤ g)
  case atStart => exact ⟨d, t1, t2, hb0, hs, HD.out, HR1.out, Nat.le_refl _⟩
  case round =>
    obtain ⟨X, h1, h2, hb, hX, hne, hstr, hg⟩ := hrel
    have q0 := h1.c0
    have q1 := h1.c1
    have qf := h1.fz
    have hlt := h1.lt
    have H1 := Lib.hid h1
    have H2 := Lib.hid h2
    have HB := Lib.hid hb
    have HNE := Lib.hid hne
    have HSTR := Lib.hid hstr
    have hXn := dl_size X
    obtain ⟨c, l, hcl⟩ : ∃ c l, dl X = c :: l := by
      cases h : dl X with
      | nil => exact absurd h hne
      | cons c l => exact ⟨c, l, rfl⟩
    have hXp : 0 < X.size := by rw [← hXn, hcl]; simp
    have hX0 : X[0] = c := by
      have h1 := dl_drop X 0 hXp
      rw [List.drop_zero, hcl] at h1
      have h2 : X.get! 0 = X[0] := by simpa using get_at X 0 hXp
      rw [← h2]; exact (List.cons.inj h1).1.symm
    clear h1 h2 hb hne hstr t1 t2 hb0
    by_cases hmore : 1 < X.size ∧ c = 48
    · obtain ⟨hm1, rfl⟩ := hmore
      have hm2 : (1 : Int) < X.size := by omega
      obtain ⟨e, l2, rfl⟩ : ∃ e l2, l = e :: l2 := by
        cases l with
        | nil => rw [hcl] at hXn; simp at hXn; omega
        | cons e l2 => exact ⟨e, l2, rfl⟩
      have hdl2 : dl (X.extract 1 X.size) = e :: l2 := by
        rw [Lib.extract_from]
        show (dl X).drop 1 = _
        rw [hcl]; rfl
      have HCL := Lib.hid hcl
      have HDL := Lib.hid hdl2
      have hes : (X.extract 1 X.size).size = X.size - 1 := by simp
      clear hcl hdl2 hXn hds
      go_wp2_with fail
      go_roundg (gk - 1)
      case measure => omega
      case rel =>
        refine ⟨X.extract 1 X.size, H1.out.set0 _, H2.out.far (by simp) _, ?_, by omega, by rw [HDL.out]; simp, ?_, by omega⟩
        · exact Bel.to_setCell HB.out (Nat.le_refl _) _
        · rw [HDL.out, ← HSTR.out, HCL.out, rstrip, if_pos rfl]
    · have hfin : R1 = dl X := by
        rw [← HSTR.out, hcl]
        cases l with
        | nil => rfl
        | cons e l2 =>
          rw [rstrip, if_neg (fun h => hmore ⟨by rw [← hXn, hcl]; simp, h⟩)]
      have HFIN := Lib.hid hfin
      have HCL := Lib.hid hcl
      clear hfin hcl hXn hds
      have hways : (X.size : Int) ≤ 1 ∨ ((1 : Int) < X.size ∧ ((c.toNat : Int) == 48) = false) := by
        by_cases h1 : 1 < X.size
        · refine Or.inr ⟨by omega, ?_⟩
          have : c ≠ 48 := fun h => hmore ⟨h1, h⟩
          refine beq_eq_false_iff_ne.2 fun e => this (UInt8.toNat_inj.1 ?_)
          have : (48 : UInt8).toNat = 48 := rfl
          omega
        · exact Or.inl (by omega)
      have HWAYS := Lib.hid hways
      clear hways hmore hg
      rcases HWAYS.out with hw1 | ⟨hw1, hw2⟩
      all_goals
        go_wp2_with fail
        go_loopg [18] (sc) (fun g _ wr => ∃ (X : ByteArray) (n : Nat), Two wr w.heap.size 104 (.string X) (.int .i64 n) ∧ Two wr (w.heap.size + 1) 104 (.string ⟨#[]⟩) (.int .i64 0) ∧ Bel w wr ∧ X.size ≤ 4294967280 ∧ dl X ≠ [] ∧ n ≤ 4294967280 ∧ rback (dl X).reverse n = (R2, n2) ∧ n ≤ g)
        case atStart => exact ⟨X, sc, H1.out, H2.out, HB.out, hX, HNE.out, hsc, by rw [← HFIN.out]; exact HR2.out, Nat.le_refl _⟩
        case round =>
          clear hw1 HFIN HCL HWAYS HSTR HNE HB H1 H2 hXp hX0 qf q0 q1 hlt hX
          try clear hw2
          obtain ⟨Y, n, h1, h2, hb, hY, hne, hn, hrb, hg⟩ := hrel
          have q0 := h1.c0
          have q1 := h1.c1
          have qf := h1.fz
          have r0 := h2.c0
          have r1 := h2.c1
          have rf := h2.fz
          have hlt := h1.lt
          have hlt2 := h2.lt
          have hYn := dl_size Y
          obtain ⟨e, l2, hel⟩ : ∃ e l2, (dl Y).reverse = e :: l2 := by
            cases h : (dl Y).reverse with
            | nil => exact absurd (List.reverse_eq_nil_iff.1 h) hne
            | cons e l2 => exact ⟨e, l2, rfl⟩
          have hel2 : dl Y = l2.reverse ++ [e] := by rw [← List.reverse_reverse (dl Y), hel, List.reverse_cons]
          have hl2 : l2.length + 1 = Y.size := by rw [← hYn, hel2]; simp
          have hy0 : Y.size - 1 < Y.size := by omega
          have hYl : Y[Y.size - 1]'hy0 = e := by
            have h3 : Y.get! (Y.size - 1) = Y[Y.size - 1]'hy0 := by simpa using get_at Y (Y.size - 1) (by omega)
            have h4 := dl_drop Y (Y.size - 1) (by omega)
            rw [hel2, List.drop_append_of_le_length (by simp; omega), List.drop_of_length_le (by simp; omega)] at h4
            rw [← h3]
            exact (List.cons.inj h4).1.symm
          have f1 : IntKind.i64.wrap ((Y.size : Int) - 1) = (Y.size : Int) - 1 := IntWalk.i64_in _ (by omega)
          have f2 : (0 : Int) ≤ (Y.size : Int) - 1 := by omega
          have f2' : (1 : Int) ≤ (Y.size : Int) := by omega
          have f3 : ((Y.size : Int) - 1).toNat = Y.size - 1 := by omega
          have f4 : (Y.size : Int) - 1 < Y.size := by omega
          have H1 := Lib.hid h1
          have H2 := Lib.hid h2
          have HB := Lib.hid hb
          have HRB := Lib.hid hrb
          have HEL := Lib.hid hel
          have HEL2 := Lib.hid hel2
          have HL2 := Lib.hid hl2
          have HYN := Lib.hid hYn
          clear h1 h2 hb hrb hel hel2 hl2 hYn hne
          have hY48 : Hid ((Y.toList == [48]) = decide (e = 48 ∧ l2 = [])) := Lib.hid (by
            rw [Lib.toList_data, show Y.data.toList = dl Y from rfl, HEL2.out]
            refine bool_ext ?_
            rw [beq_iff_eq, decide_eq_true_eq]
            constructor
            · intro h
              have := congrArg List.length h
              simp at this
              subst this
              simp at h
              exact ⟨h, rfl⟩
            · rintro ⟨rfl, rfl⟩; rfl)
          by_cases hmore : 0 < n ∧ e = 48 ∧ l2 ≠ []
          · obtain ⟨hn0, rfl, hl3⟩ := hmore
            have hn1 : (0 : Int) < n := by omega
            have hY1 : (Y.toList == [48]) = false := by rw [hY48.out]; simp [hl3]
            have hY2 : Y.toList ≠ [48] := fun h => by rw [h] at hY1; simp at hY1
            have hes : (Y.extract 0 (Y.size - 1)).size = Y.size - 1 := by simp
            have hdl2 : dl (Y.extract 0 (Y.size - 1)) = l2.reverse := by
              rw [Lib.extract_upto]
              show (dl Y).take _ = _
              rw [HEL2.out, List.take_append_of_le_length (by simp; have := HL2.out; omega), List.take_of_length_le (by simp; have := HL2.out; omega)]
            have HDL := Lib.hid hdl2
            have HL3 := Lib.hid hl3
            clear hdl2 hl3 hY48
            go_wp2_with fail
            go_roundg (gk - 1)
            case measure => omega
            case rel =>
              refine ⟨Y.extract 0 (Y.size - 1), n - 1, ?_, ?_, ?_, by omega, by rw [HDL.out]; simp [HL3.out], by omega, ?_, by omega⟩
              · have := (H1.out.set0 (.string (Y.extract 0 (Y.size - 1)))).set1 (.int .i64 ((n : Int) - 1))
                rw [show ((n : Int) - 1) = ((n - 1 : Nat) : Int) from by omega] at this ⊢
                exact this
              · exact (H2.out.far (by simp) _).far (by simp) _
              · exact Bel.to_setCell (Bel.to_setCell HB.out (Nat.le_refl _) _) (Nat.le_refl _) _
              · have h := HRB.out
                obtain ⟨m, rfl⟩ : ∃ m, n = m + 1 := ⟨n - 1, by omega⟩
                rw [HEL.out, rback, if_pos ⟨rfl, by simp [HL3.out]⟩] at h
                rw [HDL.out, List.reverse_reverse]
                exact h
          · have hfin : (R2, n2) = ((dl Y).reverse, n) := by
              rw [← HRB.out, HEL.out]
              cases n with
              | zero => rfl
              | succ m =>
                rw [rback, if_neg]
                rintro ⟨h, h'⟩
                exact hmore ⟨by omega, h, fun h2 => h' (by rw [h, h2])⟩
            have h1 : R2 = (dl Y).reverse := congrArg Prod.fst hfin
            have h2 : n2 = n := congrArg Prod.snd hfin
            have hFF : F = (dl Y, ((if e = 48 ∧ l2 = [] then 0 else n : Nat) : Int)) := by
              rw [← HF.out, h1, h2, List.reverse_reverse, HEL.out]
              by_cases h3 : e = 48 ∧ l2 = []
              · obtain ⟨rfl, rfl⟩ := h3
                simp
              · rw [if_neg h3, if_neg (fun h4 => h3 ⟨(List.cons.inj h4).1, (List.cons.inj h4).2⟩)]
            have HFF := Lib.hid hFF
            clear hfin h1 h2 hFF
            have hways : (n = 0 ∧ e = 48 ∧ l2 = []) ∨ (n = 0 ∧ ¬ (e = 48 ∧ l2 = [])) ∨ (0 < n ∧ e = 48 ∧ l2 = []) ∨ (0 < n ∧ e ≠ 48) := by
              by_cases a : n = 0 <;> by_cases b : e = 48 <;> by_cases c : l2 = [] <;> simp [a, b, c] at hmore ⊢ <;> omega
            have HWAYS := Lib.hid hways
            clear hways hmore
            have hYb : ∀ bo, decide (e = 48 ∧ l2 = []) = bo → (Y.toList == [48]) = bo := fun bo h => by rw [hY48.out, h]
            have HYB := Lib.hid hYb
            clear hYb hY48
            rcases HWAYS.out with ⟨rfl, he, hl⟩ | ⟨rfl, hel⟩ | ⟨hn0, he, hl⟩ | ⟨hn0, he⟩
            · have hY1 := HYB.out true (by simp [he, hl])
              have hY2 : Y.toList = [48] := by simpa using hY1
              have HE := Lib.hid (And.intro he hl)
              clear he hl
              go_wp2_with fail
              refine bodyPost_ret (v := .agg #[.string Y, .int .i64 0]) (by simp [results, Tryz.results110, go_sem, r0, r1]) rfl ⟨?_, ?_⟩
              · rw [HFF.out, if_pos HE.out]; rfl
              · have hb := HB.out
                (repeat (first | exact Bel.refl _ | assumption | refine Bel.to_drewN ?_ _ | refine Bel.to_drew ?_ | refine Bel.to_setCell ?_ (by first | exact Nat.le_refl _ | (simp; done) | (simp; omega) | omega) _ | refine Bel.to_alloc ?_ _ | refine Bel.trans ?_ (by assumption)))
            · have hY1 := HYB.out false (by simpa using hel)
              have hY2 : Y.toList ≠ [48] := fun h => by rw [h] at hY1; simp at hY1
              have HE := Lib.hid hel
              clear hel
              go_wp2_with fail
              refine bodyPost_ret (v := .agg #[.string Y, .int .i64 0]) (by simp [results, Tryz.results110, go_sem, r0, r1]) rfl ⟨?_, ?_⟩
              · rw [HFF.out, if_neg HE.out]; rfl
              · have hb := HB.out
                (repeat (first | exact Bel.refl _ | assumption | refine Bel.to_drewN ?_ _ | refine Bel.to_drew ?_ | refine Bel.to_setCell ?_ (by first | exact Nat.le_refl _ | (simp; done) | (simp; omega) | omega) _ | refine Bel.to_alloc ?_ _ | refine Bel.trans ?_ (by assumption)))
            · have hn1 : (0 : Int) < n := by omega
              have hY1 := HYB.out true (by simp [he, hl])
              have hY2 : Y.toList = [48] := by simpa using hY1
              have HE := Lib.hid (And.intro he hl)
              clear hl
              subst he
              go_wp2_with fail
              refine bodyPost_ret (v := .agg #[.string Y, .int .i64 0]) (by simp [results, Tryz.results110, go_sem, r0, r1]) rfl ⟨?_, ?_⟩
              · rw [HFF.out, if_pos HE.out]; rfl
              · have hb := HB.out
                (repeat (first | exact Bel.refl _ | assumption | refine Bel.to_drewN ?_ _ | refine Bel.to_drew ?_ | refine Bel.to_setCell ?_ (by first | exact Nat.le_refl _ | (simp; done) | (simp; omega) | omega) _ | refine Bel.to_alloc ?_ _ | refine Bel.trans ?_ (by assumption)))
            · have hn1 : (0 : Int) < n := by omega
              have hY1 := HYB.out false (by simp [he])
              have hY2 : Y.toList ≠ [48] := fun h => by rw [h] at hY1; simp at hY1
              have hec : ((e.toNat : Int) == 48) = false := by
                refine beq_eq_false_iff_ne.2 fun e2 => he (UInt8.toNat_inj.1 ?_)
                have : (48 : UInt8).toNat = 48 := rfl
                omega
              have HE : Hid (¬ (e = 48 ∧ l2 = [])) := Lib.hid (fun h => he h.1)
              clear he
              go_wp2_with fail
              refine bodyPost_ret (v := .agg #[.string Y, .int .i64 n]) (by simp [results, Tryz.results110, go_sem, r0, r1]) rfl ⟨?_, ?_⟩
              · rw [HFF.out, if_neg HE.out]; rfl
              · have hb := HB.out
                (repeat (first | exact Bel.refl _ | assumption | refine Bel.to_drewN ?_ _ | refine Bel.to_drew ?_ | refine Bel.to_setCell ?_ (by first | exact Nat.le_refl _ | (simp; done) | (simp; omega) | omega) _ | refine Bel.to_alloc ?_ _ | refine Bel.trans ?_ (by assumption)))
end Go.Proofs.YtpenfnabeckboaaGreatDoor

namespace Go.Proofs.YtpenfnabeckboaaGreatDoor
open Go.RowKit
/-- Where the first point stands; the length, if there is none. -/
def pointL (l : List UInt8) : Nat := (l.takeWhile (· != 46)).length
theorem pointL_cons (c : UInt8) (l : List UInt8) : pointL (c :: l) = if c = 46 then 0 else pointL l + 1 := by
  unfold pointL
  by_cases h : c = 46 <;> simp [h]
theorem pointL_le (l : List UInt8) : pointL l ≤ l.length := (List.takeWhile_sublist _).length_le
theorem index_point : ∀ l : List UInt8, Lib.index l [46] = if pointL l < l.length then (pointL l : Int) else -1
  | [] => rfl
  | c :: l => by
    have ih := index_point l
    by_cases h : c = 46
    · subst h; simp [Lib.index, pointL_cons]
    · have hp : pointL (c :: l) = pointL l + 1 := by rw [pointL_cons, if_neg h]
      have h1 : ([46] : List UInt8).isPrefixOf (c :: l) = false := by
        simp [List.isPrefixOf]; exact fun e => h e.symm
      rw [Lib.index, h1, ih, hp]
      by_cases h2 : pointL l < l.length
      · have h3 : ((pointL l : Int) == -1) = false := beq_eq_false_iff_ne.2 (by omega)
        have h4 : pointL l + 1 < (c :: l).length := by rw [List.length_cons]; omega
        simp [h2, h3]
      · have h4 : ¬ pointL l + 1 < (c :: l).length := by rw [List.length_cons]; omega
        simp [h2]
theorem cut_point (l : List UInt8) : Lib.cut l [46] = (l.take (pointL l), l.drop (pointL l + 1), decide (pointL l < l.length)) := by
  unfold Lib.cut
  rw [index_point]
  by_cases h : pointL l < l.length
  · rw [if_pos h, if_pos (by omega)]; simp [h]
  · have h2 : pointL l = l.length := by have := pointL_le l; omega
    rw [if_neg h, if_neg (by omega), h2]; simp
set_option maxRecDepth 100000 in
set_option maxHeartbeats 8000000 in
theorem rread_c (s : ByteArray) (hs : s.size ≤ 4294967200) (w : World) :
    Calls Tryz.prog 82 #[.string s] w (RetNumE (readL (dl s)) w) := by
  have hds := dl_size s
  obtain ⟨R, hR⟩ : ∃ R, readL (dl s) = R := ⟨_, rfl⟩
  rw [hR]
  unfold readL at hR
  dsimp only at hR
  rw [cut_point] at hR
  have hpl := pointL_le (dl s)
  obtain ⟨p, hp⟩ : ∃ p, pointL (dl s) = p := ⟨_, rfl⟩
  simp only [hp, hds] at hR
  rw [hp, hds] at hpl
  obtain ⟨A, hA⟩ : ∃ A, s.extract 0 p = A := ⟨_, rfl⟩
  obtain ⟨B, hB⟩ : ∃ B, s.extract (p + 1) s.size = B := ⟨_, rfl⟩
  have hAl : dl A = (dl s).take p := by rw [← hA, Lib.extract_upto]; rfl
  have hBl : dl B = (dl s).drop (p + 1) := by rw [← hB, Lib.extract_from]; rfl
  have hAs : A.size = p := by rw [← dl_size, hAl, List.length_take, hds]; omega
  have hBs : B.size = s.size - (p + 1) := by rw [← dl_size, hBl, List.length_drop, hds]
  rw [← hAl, ← hBl, dl_size, dl_size] at hR
  have hd1 := fun w1 => rdigits_c A (by unfold maxLen; omega) w1
  have hd2 := fun w1 => rdigits_c B (by unfold maxLen; omega) w1
  have hne1 : digitsL (dl A) = true → dl A ++ dl B ≠ [] := fun h e => by
    rw [(List.append_eq_nil_iff.1 e).1] at h; cases h
  have hne2 : digitsL (dl B) = true → dl A ++ dl B ≠ [] := fun h e => by
    rw [(List.append_eq_nil_iff.1 e).2] at h; cases h
  have hAe : A.toList.isEmpty = (dl A).isEmpty := dl_empty A
  have hAem : (dl A = []) ↔ (dl A).isEmpty = true := by rw [List.isEmpty_iff]
  simp only [hAem] at hR
  obtain ⟨em, hem⟩ : ∃ em, (dl A).isEmpty = em := ⟨_, rfl⟩
  obtain ⟨D, hD⟩ : ∃ D, digitsL (dl A) = D := ⟨_, rfl⟩
  obtain ⟨E, hE⟩ : ∃ E, digitsL (dl B) = E := ⟨_, rfl⟩
  rw [hD] at hd1 hne1
  rw [hE] at hd2 hne2
  rw [hem] at hAe
  simp only [hD, hE, hem] at hR
  have hAe2 : (A.toList = []) = (em = true) := by rw [← hAe, List.isEmpty_iff]
  have hab3 : (A ++ B).size = A.size + B.size := ByteArray.size_append
  have hdl : dl (A ++ B) = dl A ++ dl B := by simp [dl]
  have hcan := fun (h : dl A ++ dl B ≠ []) w1 => rcanon_c (A ++ B) (by rw [hab3]; omega) (by rw [hdl]; exact h) B.size (by omega) w1
  rw [hdl] at hcan
  obtain ⟨C, hC⟩ : ∃ C, canonL (dl A ++ dl B) B.size = C := ⟨_, rfl⟩
  rw [hC] at hcan hR
  have hno : ¬ (9223372036854775807 < A.size + B.size) := by omega
  have hBp : B.size ≤ 4294967200 := by omega
  have hAp : A.size ≤ 4294967200 := by omega
  have H1 := Lib.hid hd1
  have H2 := Lib.hid hd2
  have HCAN := Lib.hid hcan
  have HN1 := Lib.hid hne1
  have HN2 := Lib.hid hne2
  have HR := Lib.hid hR
  have HA := Lib.hid hA
  have HB := Lib.hid hB
  have HAS := Lib.hid hAs
  have HP := Lib.hid hp
  have HAE := Lib.hid hAe
  have HAE2 := Lib.hid hAe2
  clear hd1 hd2 hcan hne1 hne2 hR hA hB hAs hBs hp hAe hAe2 hAem hem hD hE hab3 hdl hC hAl hBl hds
  go_enter Tryz.func82, Tryz.ntmps82
  go_wp2_with fail
  have t2 := Two.new w 104 (.string ⟨#[]⟩) (.int .i64 0)
  have hb0 : Bel w (w.alloc (.cells #[.string ⟨#[]⟩, .int .i64 0] 104)) := by (repeat (first | exact Bel.refl _ | assumption | refine Bel.to_drewN ?_ _ | refine Bel.to_drew ?_ | refine Bel.to_setCell ?_ (by first | exact Nat.le_refl _ | (simp; done) | (simp; omega) | omega) _ | refine Bel.to_alloc ?_ _ | refine Bel.trans ?_ (by assumption)))
  have q0 := t2.c0
  have q1 := t2.c1
  have qf := t2.fz
  have ql := t2.lt
  obtain ⟨W0, hW0⟩ : ∃ W0, w.alloc (.cells #[.string ⟨#[]⟩, .int .i64 0] 104) = W0 := ⟨_, rfl⟩
  rw [hW0] at q0 q1 qf ql hb0 ⊢
  have HB0 := Lib.hid hb0
  clear hW0 t2 hb0
  go_loop [4, 5] (fun pt i => ∃ k : Nat, k ≤ s.size ∧ i = .int .i64 k ∧ pt = .int .i64 s.size ∧ Hid (p = k + pointL ((dl s).drop k))) (fun _ i => s.size - (intOf i).toNat)
  case atStart => exact ⟨0, Nat.zero_le _, rfl, rfl, Lib.hid (by rw [List.drop_zero, Nat.zero_add]; exact HP.out.symm)⟩
  case round =>
    obtain ⟨k, hk, rfl, rfl, hpk⟩ := hrel
    by_cases hlt : k < s.size
    · have hdr := dl_drop s k hlt
      have hpk2 := hpk.out
      rw [hdr, pointL_cons] at hpk2
      have hgk : s.get! k = s[k] := by simpa using get_at s k hlt
      rw [hgk] at hpk2
      obtain ⟨c, hc⟩ : ∃ c, s[k] = c := ⟨_, rfl⟩
      rw [hc] at hpk2
      by_cases h46 : c = 46
      · rw [if_pos h46, Nat.add_zero] at hpk2
        subst h46
        subst hpk2
        have hpi : (p : Int) < s.size := by omega
        have hpn : (p : Int) + 1 ≤ s.size := by omega
        have hR1 := HR.out
        rw [decide_eq_true hlt] at hR1
        have hA1 := HA.out
        have hB1 := HB.out
        have hae := HAE.out
        have hae2 := HAE2.out
        clear hdr hgk hpk
        by_cases hbig : 1000 < A.size + B.size
        · rw [if_pos hbig] at hR1
          have hbi : (1000 : Int) < (A.size : Int) + B.size := by omega
          have HR1 := Lib.hid hR1
          clear hR1 hbig
          cases D <;> cases E <;> cases em
          all_goals
            simp only [Bool.false_eq_true, eq_iff_iff, iff_false, iff_true] at hae2
            go_wp2_with (first
              | ((with_reducible refine (H1.out _).mono ?_); rintro e w' ⟨rfl, rfl⟩)
              | ((with_reducible refine (H2.out _).mono ?_); rintro e w' ⟨rfl, rfl⟩))
            have hr := HR1.out
            simp at hr
            have hb0 := HB0.out
            refine bodyPost_ret (v := .tuple #[.agg #[.string (bs R.1.1), .int .i64 R.1.2], .int .i64 R.2]) (by simp [results, Tryz.results82, go_sem, ← hr, bs, q0, q1]) rfl ⟨rfl, by (repeat (first | exact Bel.refl _ | assumption | refine Bel.to_drewN ?_ _ | refine Bel.to_drew ?_ | refine Bel.to_setCell ?_ (by first | exact Nat.le_refl _ | (simp; done) | (simp; omega) | omega) _ | refine Bel.to_alloc ?_ _ | refine Bel.trans ?_ (by assumption)))⟩
        · rw [if_neg hbig] at hR1
          have hbi : (A.size : Int) + B.size ≤ 1000 := by omega
          have HR1 := Lib.hid hR1
          clear hR1 hbig
          cases D <;> cases E <;> cases em
          all_goals
            simp only [Bool.false_eq_true, eq_iff_iff, iff_false, iff_true] at hae2
            go_wp2_with (first
              | ((with_reducible refine (H1.out _).mono ?_); rintro e w' ⟨rfl, rfl⟩)
              | ((with_reducible refine (H2.out _).mono ?_); rintro e w' ⟨rfl, rfl⟩)
              | (go_at_call 110; refine (HCAN.out (by first | exact HN1.out rfl | exact HN2.out rfl | exact HN1.out trivial | exact HN2.out trivial) _).mono ?_; rintro e w5 ⟨rfl, hb5⟩; obtain ⟨hc5, hf5⟩ := bcell hb5; have hz5 : w.heap.size < w5.heap.size := by have := hb5.size; omega))
            have hr := HR1.out
            simp at hr
            have hb0 := HB0.out
            refine bodyPost_ret (v := .tuple #[.agg #[.string (bs R.1.1), .int .i64 R.1.2], .int .i64 R.2]) (by first | (simp [results, Tryz.results82, go_sem, ← hr, bs, q0, q1]; done) | (simp [results, Tryz.results82, go_sem, ← hr, hc5, q0, q1, ql]; done)) rfl ⟨rfl, by (repeat (first | exact Bel.refl _ | assumption | refine Bel.to_drewN ?_ _ | refine Bel.to_drew ?_ | refine Bel.to_setCell ?_ (by first | exact Nat.le_refl _ | (simp; done) | (simp; omega) | omega) _ | refine Bel.to_alloc ?_ _ | refine Bel.trans ?_ (by assumption)))⟩
      · rw [if_neg h46] at hpk2
        have hc4 : ((c.toNat : Int) == 46) = false := by
          refine beq_eq_false_iff_ne.2 fun e2 => h46 (UInt8.toNat_inj.1 ?_)
          have : (46 : UInt8).toNat = 46 := rfl
          omega
        have HPK := Lib.hid hpk2
        clear hdr hgk hpk hpk2 h46
        go_wp2_with fail
        refine ⟨⟨k + 1, by omega, by go_num, rfl, Lib.hid (by have := HPK.out; omega)⟩, by simp [intOf]; omega⟩
    · obtain rfl : k = s.size := by omega
      have hpk2 := hpk.out
      rw [List.drop_of_length_le (by rw [dl_size]; omega)] at hpk2
      have hps : p = s.size := hpk2
      have hR1 := HR.out
      rw [decide_eq_false (by omega)] at hR1
      have hB0 : B = ⟨#[]⟩ := by
        have h1 := HB.out
        rw [hps, Lib.extract_from, List.drop_of_length_le (by rw [show s.data.toList.length = s.size from rfl]; omega)] at h1
        exact h1.symm
      have hBz : B.size = 0 := by rw [hB0]; rfl
      have hA0 : A = s := by
        have h1 := HA.out
        rw [hps, Lib.extract_upto, List.take_of_length_le (by rw [show s.data.toList.length = s.size from rfl]; omega)] at h1
        exact h1.symm
      subst hA0
      have hcn : (canonL (dl A ++ dl B) B.size) = canonL (dl A ++ dl B) B.size := rfl
      have hae := HAE.out
      have hae2 := HAE2.out
      have hBi : (B.size : Int) = 0 := by omega
      have hcan0 : dl A ++ dl B ≠ [] → ∀ w1, Calls Tryz.prog 110 #[.agg #[.string (A ++ ⟨#[]⟩), .int .i64 0]] w1 (RetNum C w1) := fun h w1 => by
        have h1 := HCAN.out h w1
        rw [hBi, hB0] at h1
        exact h1
      have HCAN0 := Lib.hid hcan0
      have hex : A.extract 0 A.size = A := by simp
      clear hpk hpk2 hps hcn HB hlt hcan0 HCAN HA H2 hno hBp hpl
      by_cases hbig : 1000 < A.size + B.size
      · rw [if_pos hbig] at hR1
        have hbi : (1000 : Int) < (A.size : Int) := by omega
        have HR1 := Lib.hid hR1
        have HB0' := Lib.hid hB0
        clear hR1 hbig hBz hBi hB0
        cases D <;> cases em
        all_goals
          simp only [Bool.false_eq_true, eq_iff_iff, iff_false, iff_true] at hae2
          go_wp2_with (first
            | ((with_reducible refine (H1.out _).mono ?_); rintro e w' ⟨rfl, rfl⟩))
          have hr := HR1.out
          simp at hr
          have hb0 := HB0.out
          refine bodyPost_ret (v := .tuple #[.agg #[.string (bs R.1.1), .int .i64 R.1.2], .int .i64 R.2]) (by simp [results, Tryz.results82, go_sem, ← hr, bs, q0, q1]) rfl ⟨rfl, by (repeat (first | exact Bel.refl _ | assumption | refine Bel.to_drewN ?_ _ | refine Bel.to_drew ?_ | refine Bel.to_setCell ?_ (by first | exact Nat.le_refl _ | (simp; done) | (simp; omega) | omega) _ | refine Bel.to_alloc ?_ _ | refine Bel.trans ?_ (by assumption)))⟩
      · rw [if_neg hbig] at hR1
        have hbi : (A.size : Int) ≤ 1000 := by omega
        have HR1 := Lib.hid hR1
        have HB0' := Lib.hid hB0
        clear hR1 hbig hBz hBi hB0
        cases D <;> cases em
        all_goals
          simp only [Bool.false_eq_true, eq_iff_iff, iff_false, iff_true] at hae2
          go_wp2_with (first
            | ((with_reducible refine (H1.out _).mono ?_); rintro e w' ⟨rfl, rfl⟩)
            | (go_at_call 110; refine (HCAN0.out (by first | exact HN1.out rfl | exact HN1.out trivial) _).mono ?_; rintro e w5 ⟨rfl, hb5⟩; obtain ⟨hc5, hf5⟩ := bcell hb5; have hz5 : w.heap.size < w5.heap.size := by have := hb5.size; omega))
          have hr := HR1.out
          simp at hr
          have hb0 := HB0.out
          refine bodyPost_ret (v := .tuple #[.agg #[.string (bs R.1.1), .int .i64 R.1.2], .int .i64 R.2]) (by first | (simp [results, Tryz.results82, go_sem, ← hr, bs, q0, q1]; done) | (simp [results, Tryz.results82, go_sem, ← hr, hc5, q0, q1, ql]; done)) rfl ⟨rfl, by (repeat (first | exact Bel.refl _ | assumption | refine Bel.to_drewN ?_ _ | refine Bel.to_drew ?_ | refine Bel.to_setCell ?_ (by first | exact Nat.le_refl _ | (simp; done) | (simp; omega) | omega) _ | refine Bel.to_alloc ?_ _ | refine Bel.trans ?_ (by assumption)))⟩
end Go.Proofs.YtpenfnabeckboaaGreatDoor

namespace Go.Proofs.YtpenfnabeckboaaGreatDoor
open Go.Lib
theorem checkN_of {l : List UInt8} {sc : Int} (hl : l.all isDig = true) (hne : l ≠ []) (hn : l.length ≤ 1000) (h0 : 0 ≤ sc) (h1 : sc ≤ 1000) : checkN l sc = 0 := by
  have hd : digitsL l = true := by
    unfold digitsL
    rw [hl]
    cases l with
    | nil => exact absurd rfl hne
    | cons c l => rfl
  unfold checkN
  rw [hd, if_neg (by simp), if_neg (by omega), if_neg (by omega)]
end Go.Proofs.YtpenfnabeckboaaGreatDoor

namespace Go.Proofs.YtpenfnabeckboaaGreatDoor
open Go.RowKit
set_option maxRecDepth 100000 in
set_option maxHeartbeats 4000000 in
theorem nrtext_c (d : ByteArray) (sc : Int) (hchk : checkN (dl d) sc = 0) (w : World) :
    Calls Tryz.prog 83 #[.agg #[.string d, .int .i64 sc]] w fun e w' => e = .returned (.string (bs (textC (canonL (dl d) sc).1 (canonL (dl d) sc).2))) ∧ Bel w w' := by
  obtain ⟨hd, hne, hl, hs0, hs1⟩ := checkN_zero hchk
  rw [dl_size] at hl
  obtain ⟨S, rfl⟩ := Int.eq_ofNat_of_zero_le hs0
  have h2 := fun w1 => rcanon_c d (by omega) hne S (by omega) w1
  obtain ⟨C1, C2, hC, _, _, hC2, _, hC1⟩ := canon_can (dl d) S hd (by omega)
  rw [hC] at h2 ⊢
  dsimp only
  obtain ⟨B, hB⟩ : ∃ B : ByteArray, B = bs C1 := ⟨_, rfl⟩
  have hB1 : dl B = C1 := by rw [hB]; rfl
  have h2' : ∀ w1, Calls Tryz.prog 110 #[.agg #[.string d, .int .i64 S]] w1 fun e w' => e = .returned (.agg #[.string B, .int .i64 C2]) ∧ Bel w1 w' := by rw [hB]; exact h2
  have hBs : B.size = C1.length := by rw [hB, bs_size]
  rw [dl_size] at hC1
  have hB3 : B.size ≤ 1000 := by omega
  have hC3 : (C2 : Int) ≤ 1000 := by omega
  obtain ⟨R, hR⟩ : ∃ R, textC C1 C2 = R := ⟨_, rfl⟩
  rw [hR]
  unfold textC at hR
  rw [← hB1] at hR
  have H2 := Lib.hid h2'
  have HR := Lib.hid hR
  clear h2 h2' hR hC hchk hd hne hl hs1 hB hB1 hC1 hBs hC2 hs0
  by_cases hc0 : C2 = 0
  · subst hc0
    go_enter Tryz.func83, Tryz.ntmps83
    go_wp2_with fail
    refine (H2.out _).mono ?_
    rintro e w2 ⟨rfl, hb2⟩
    obtain ⟨hc2, hf2⟩ := bcell hb2
    have hz2 : w.heap.size < w2.heap.size := by have := hb2.size; simp at this; omega
    go_wp2_with fail
    go_ret
    refine ⟨?_, by (repeat (first | exact Bel.refl _ | assumption | refine Bel.to_drewN ?_ _ | refine Bel.to_drew ?_ | refine Bel.to_setCell ?_ (by first | exact Nat.le_refl _ | (simp; done) | (simp; omega) | omega) _ | refine Bel.to_alloc ?_ _ | refine Bel.trans ?_ (by assumption)))⟩
    have hr : dl B = R := by simpa using HR.out
    rw [← hr]; rfl
  · have hcz : ((C2 : Int) == 0) = false := by simpa using hc0
    obtain ⟨M, hM⟩ : ∃ M : Int, max 0 ((C2 : Int) + 1 - (B.size : Int)) = M := ⟨_, rfl⟩
    have hM0 : 0 ≤ M := by omega
    obtain ⟨m, rfl⟩ := Int.eq_ofNat_of_zero_le hM0
    have hr := HR.out
    rw [if_neg (by omega), dl_size, hM] at hr
    simp only [Int.toNat_natCast] at hr
    have HRR := Lib.hid hr
    have HM := Lib.hid hM
    have HC0 := Lib.hid hc0
    clear hr HR hM hM0 hc0
    go_enter Tryz.func83, Tryz.ntmps83
    go_wp2_with fail
    refine (H2.out _).mono ?_
    rintro e w2 ⟨rfl, hb2⟩
    obtain ⟨hc2, hf2⟩ := bcell hb2
    have hz2 : w.heap.size < w2.heap.size := by have := hb2.size; simp at this; omega
    go_wp2_with fail
    have k1 : ((w2.setCell ⟨w.heap.size, 0, none⟩ (.string B)).setCell ⟨w.heap.size, 1, none⟩ (.int .i64 C2)).cell? ⟨w.heap.size, 1, none⟩ = some (.int .i64 C2) := by go_simp
    have hb0 : Bel w ((w2.setCell ⟨w.heap.size, 0, none⟩ (.string B)).setCell ⟨w.heap.size, 1, none⟩ (.int .i64 C2)) := by (repeat (first | exact Bel.refl _ | assumption | refine Bel.to_drewN ?_ _ | refine Bel.to_drew ?_ | refine Bel.to_setCell ?_ (by first | exact Nat.le_refl _ | (simp; done) | (simp; omega) | omega) _ | refine Bel.to_alloc ?_ _ | refine Bel.trans ?_ (by assumption)))
    obtain ⟨W0, hW0⟩ : ∃ W0, (w2.setCell ⟨w.heap.size, 0, none⟩ (.string B)).setCell ⟨w.heap.size, 1, none⟩ (.int .i64 C2) = W0 := ⟨_, rfl⟩
    rw [hW0] at k1 hb0 ⊢
    have HB0 := Lib.hid hb0
    clear hW0 hb0 hc2 hf2 hz2 hb2
    go_loop [3] (fun sv => ∃ (j : Nat) (X : ByteArray), j ≤ m ∧ sv = .string X ∧ Hid (dl X = List.replicate j 48 ++ dl B) ∧ X.size ≤ 2002 ∧ Hid (X.size = j + B.size)) (fun sv => 2003 - Lib.strSize sv)
    case atStart => exact ⟨0, B, Nat.zero_le _, rfl, Lib.hid rfl, by omega, Lib.hid (by omega)⟩
    case round =>
      obtain ⟨j, X, hj, rfl, hXl, hXb, hXs⟩ := hrel
      by_cases hlt : (X.size : Int) ≤ C2
      · have hjm : j < m := by have := hXs.out; have := HM.out; omega
        have hsz : ((⟨#[48]⟩ : ByteArray) ++ X).size = X.size + 1 := by rw [ByteArray.size_append, show (⟨#[48]⟩ : ByteArray).size = 1 from rfl]; omega
        have hno : ¬ (9223372036854775807 < (⟨#[48]⟩ : ByteArray).size + X.size) := by rw [show (⟨#[48]⟩ : ByteArray).size = 1 from rfl]; omega
        have hno2 : ¬ (9223372036854775807 < 1 + X.size) := by omega
        have hdl : dl ((⟨#[48]⟩ : ByteArray) ++ X) = List.replicate (j + 1) 48 ++ dl B := by
          have : dl ((⟨#[48]⟩ : ByteArray) ++ X) = 48 :: dl X := by simp [dl]
          rw [this, hXl.out, List.replicate_succ]; rfl
        have HSZ := Lib.hid hsz
        have HDL := Lib.hid hdl
        clear hsz hdl
        go_wp2_with fail
        refine ⟨⟨j + 1, _, by omega, rfl, HDL, by rw [HSZ.out]; omega, Lib.hid (by rw [HSZ.out, hXs.out]; omega)⟩, ?_⟩
        simp only [Lib.strSize_string]
        rw [HSZ.out]
        omega
      · have hjm : j = m := by have := hXs.out; have := HM.out; omega
        subst hjm
        have hXi : (X.size : Int) = j + B.size := by have := hXs.out; omega
        obtain ⟨k, hk⟩ : ∃ k, X.size - C2 = k := ⟨_, rfl⟩
        have hki : (X.size : Int) - C2 = k := by omega
        have hr := HRR.out
        rw [← hXl.out, dl_size, hk] at hr
        have HR3 := Lib.hid hr
        have HK := Lib.hid hki
        have g1 : k ≤ X.size := by omega
        have e1 : (X.extract 0 k).size = k := by simp; omega
        have e2 : (X.extract k X.size).size = X.size - k := by simp
        have e3 : ((X.extract 0 k) ++ ⟨#[46]⟩ : ByteArray).size = k + 1 := by rw [ByteArray.size_append, e1]; rfl
        have g3 : ¬ (9223372036854775807 < (X.extract 0 k).size + 1) := by omega
        have g4 : ¬ (9223372036854775807 < ((X.extract 0 k) ++ ⟨#[46]⟩ : ByteArray).size + (X.extract k X.size).size) := by omega
        have g5 : (0 : Int) ≤ k := by omega
        have g6 : (k : Int) ≤ X.size := by omega
        have g7 : (C2 : Int) < X.size := by omega
        clear hr hki hk hXi
        go_wp2_with fail
        rw [HK.out]
        go_region
        go_wp2_with fail
        go_ret
        refine ⟨?_, Bel.to_drew HB0.out⟩
        rw [← HR3.out, text_join]
        rfl
end Go.Proofs.YtpenfnabeckboaaGreatDoor
