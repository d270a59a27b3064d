/-
  expr: the walks of the document's among, parts, named, text, form.
  expr: the walk of the document's check and Check.
-/
import Derived.Test.YtpenfnabeckboaaGreatDoorEXB
import Derived.Test.YtpenfnabeckboaaGreatDoorNUB
import Derived.Deep.DeepCutAuto
import Derived.Test.YtpenfnabeckboaaGreatDoorEXD
import Derived.Test.YtpenfnabeckboaaGreatDoorUCA
import Derived.Test.YtpenfnabeckboaaGreatDoorSPA
namespace Go.Proofs.YtpenfnabeckboaaGreatDoor
open Go.RowKit
set_option maxHeartbeats 1000000 in
theorem ramong_c (na : Option Addr) (n c : Nat) (l : List ByteArray) (x : ByteArray) (w : World) (hn : l.length = n) (hn2 : n ≤ 4294967290) (hs : NamesAt w na l) :
    Calls Tryz.prog 33 #[.string x, .slice na n c] w (RetBel (.bool (decide (x ∈ l))) w) := by
  obtain ⟨R, hR⟩ : ∃ R, decide (x ∈ l) = R := ⟨_, rfl⟩
  rw [hR]
  have HR := Lib.hid hR
  have HN := Lib.hid hn
  have NS := Lib.hid hs
  clear hR hn hs
  go_enter Tryz.func33, Tryz.ntmps33
  go_wp2_with fail
  go_loopw [5] (fun i wr => ∃ k : Nat, k ≤ n ∧ i = .int .i64 k ∧ Bel w wr ∧ decide (x ∈ l.drop k) = R) (fun i _ => n - (intOf i).toNat)
  case atStart => exact ⟨0, Nat.zero_le _, rfl, Bel.refl _, HR.out⟩
  case round =>
    obtain ⟨k, hk, rfl, hbel, hd⟩ := hrel
    by_cases hkn : k < n
    · have hkl : k < l.length := by rw [HN.out]; exact hkn
      obtain ⟨y, hy⟩ : ∃ y, l[k] = y := ⟨_, rfl⟩
      obtain ⟨b, off, rfl, hc⟩ := NS.out k y (by rw [List.getElem?_eq_getElem hkl, hy])
      rw [List.drop_eq_getElem_cons hkl, hy] at hd
      have hcell := hbel.keep hc
      have HD := Lib.hid hd
      clear hy hd hc
      go_wp2_with fail
      · have hxy : (y.toList == x.toList) = true := by assumption
        go_ret
        refine ⟨ret_bool ?_, hbel⟩
        rw [← HD.out, toList_eq hxy]
        simp
      · have hxy : (y.toList == x.toList) = false := by assumption
        refine ⟨⟨k + 1, by omega, by go_num, hbel, ?_⟩, by simp [intOf]; omega⟩
        rw [← HD.out]
        have := toList_ne hxy
        simp [Ne.symm this]
    · obtain rfl : k = n := by omega
      rw [List.drop_of_length_le (by have := HN.out; omega)] at hd
      obtain rfl : R = false := by rw [← hd]; simp
      go_wp2_with fail
      go_ret
      exact ⟨rfl, hbel⟩
set_option maxHeartbeats 2000000 in
theorem rparts_c (k : Int) (h0 : 0 ≤ k ∧ k ≤ 19) (w : World) : Calls Tryz.prog 46 #[.int .i64 k] w (RetBel (.int .i64 (partsK k)) w) := by
  have H0 := Lib.hid h0
  clear h0
  go_enter Tryz.func46, Tryz.ntmps46
  go_wp2
  all_goals go_ret
  all_goals (refine ⟨ret_int ?_, Bel.refl _⟩; have h0 := H0.out; simp only [beq_iff_eq, beq_eq_false_iff_ne] at *; unfold partsK; (repeat' split) <;> omega)
set_option maxHeartbeats 1000000 in
theorem rnamed_c (k : Int) (w : World) : Calls Tryz.prog 31 #[.int .i64 k] w (RetBel (.bool (namedK k)) w) := by
  go_enter Tryz.func31, Tryz.ntmps31
  go_wp2
  all_goals go_ret
  all_goals (refine ⟨ret_bool ?_, Bel.refl _⟩; unfold namedK; rw [Bool.eq_iff_iff]; simp <;> omega)
/-- A text is a number's one form just if it is read, and its text is that. -/
theorem canonS_ok {s : ByteArray} {d : List UInt8} {sc : Int} (h : readL (dl s) = ((d, sc), 0)) (hc : checkN d sc = 0) : canonS s = decide (bs (textC (canonL d sc).1 (canonL d sc).2) = s) := by
  unfold canonS
  rw [h]
  simp [textE, hc]
theorem canonS_no {s : ByteArray} {r : List UInt8 × Int} {k : Nat} (h : readL (dl s) = (r, k)) (hk : k ≠ 0) : canonS s = false := by
  unfold canonS
  rw [h]
  simp [hk]
theorem readL_fine {l : List UInt8} {d : List UInt8} {sc : Int} (h : readL l = ((d, sc), 0)) : checkN d sc = 0 := by
  unfold readL at h
  dsimp only at h
  split at h
  · cases h
  · rename_i h1
    split at h
    · cases h
    · rename_i h2
      injection h with h _
      have hd : ((Lib.cut l [46]).1 ++ (Lib.cut l [46]).2.1).all isDig = true := by
        rw [List.all_append, Bool.and_eq_true]
        unfold digitsL at h1
        constructor
        · by_cases h3 : (Lib.cut l [46]).1 = []
          · rw [h3]; rfl
          · cases h4 : (Lib.cut l [46]).1.all isDig with
            | true => rfl
            | false => exact absurd (.inl ⟨by rw [h4]; rfl, fun h => h3 h.1⟩) h1
        · cases h4 : (Lib.cut l [46]).2.1.all isDig with
          | true => rfl
          | false =>
            cases h5 : (Lib.cut l [46]).2.2 with
            | true => exact absurd (.inr ⟨h5, by rw [h4]; rfl⟩) h1
            | false =>
              have h6 : (Lib.cut l [46]).2.1 = [] := by
                rw [cut_point] at h5 ⊢
                dsimp only at h5 ⊢
                rw [decide_eq_false_iff_not] at h5
                exact List.drop_of_length_le (by omega)
              rw [h6] at h4; cases h4
      have hle : ((Lib.cut l [46]).2.1).length ≤ 1000 := by omega
      obtain ⟨d', s', e1, e2, e3, e4, _, e5⟩ := canon_can _ _ hd hle
      rw [e1] at h
      injection h with h3 h4
      subst h3 h4
      refine checkN_of e3 ?_ ?_ (by omega) (by omega)
      · rcases e2 with ⟨rfl, _⟩ | ⟨h, _⟩
        · simp
        · exact h
      · rw [List.length_append] at e5; omega
set_option maxRecDepth 100000 in
set_option maxHeartbeats 4000000 in
theorem rtext_x (e : Ex) (vn vl : Value) (w : World) (hb : e.bulk ≤ 1073741824) (h0 : 0 ≤ e.k ∧ e.k ≤ 19) (hn : namedK e.k = false) (h1 : e.k ≠ 1) (hat : ExAt w e vn vl) :
    Calls Tryz.prog 47 #[.agg #[.int .i64 e.k, .string e.s, vn, vl]] w (RetBel (.bool (textK e.k e.s)) w) := by
  obtain ⟨na, la, nn, nc, m, lc, rfl, rfl, hnn, hm, hnc, hlc, hnb, hmb, hns, hps⟩ := hat.opened
  have hs2 : e.s.size ≤ 1073741824 := by have := bulk_s e; omega
  obtain ⟨k, hk⟩ : ∃ k, e.k = k := ⟨_, rfl⟩
  obtain ⟨s, hs⟩ : ∃ s, e.s = s := ⟨_, rfl⟩
  rw [hk] at h0 hn h1
  rw [hs] at hs2
  rw [hk, hs]
  have HA := Lib.hid (fun (l : List ByteArray) (n : Nat) (hl : l.length = n) (hln : n ≤ 4294967290) (W : World) => ramong_c (some ⟨W.heap.size, 0, none⟩) n n l s _ hl hln (NamesAt.new W l))
  have HRD := Lib.hid (rread_c s (by omega))
  clear hk hs hnn hns hm hps hat
  by_cases hk0 : k = 0
  · subst hk0
    have hr : textK 0 s = canonS s := by unfold textK; simp
    rw [hr]
    obtain ⟨⟨⟨d, sc⟩, kk⟩, hread⟩ : ∃ r, readL (dl s) = r := ⟨_, rfl⟩
    rw [hread] at HRD
    clear hr hn h0 h1
    by_cases hkk : kk = 0
    · subst hkk
      have hck := readL_fine hread
      have hcs := canonS_ok hread hck
      obtain ⟨R, hR⟩ : ∃ R, canonS s = R := ⟨_, rfl⟩
      rw [hR] at hcs ⊢
      obtain ⟨D, hD⟩ : ∃ D, bs d = D := ⟨_, rfl⟩
      obtain ⟨T, hT⟩ : ∃ T, bs (textC (canonL d sc).1 (canonL d sc).2) = T := ⟨_, rfl⟩
      have hdd : dl D = d := by rw [← hD, dl_bs]
      have HTX : Hid (∀ W, Calls Tryz.prog 83 #[.agg #[.string D, .int .i64 sc]] W fun e w' => e = .returned (.string T) ∧ Bel W w') := Lib.hid fun W => by
        have := nrtext_c D sc (by rw [hdd]; exact hck) W
        rw [hdd, hT] at this
        exact this
      have HR1 : Hid (Calls Tryz.prog 82 #[.string s] (w.alloc (.cells #[.int .i64 0, .string s, .slice na nn nc, .slice la m lc] 25)) fun e w' => e = .returned (.tuple #[.agg #[.string D, .int .i64 sc], .int .i64 0]) ∧ Bel (w.alloc (.cells #[.int .i64 0, .string s, .slice na nn nc, .slice la m lc] 25)) w') := Lib.hid (by
        have := HRD.out (w.alloc (.cells #[.int .i64 0, .string s, .slice na nn nc, .slice la m lc] 25))
        unfold RetNumE at this
        rw [← hD]; exact this)
      rw [hT] at hcs
      have HCS := Lib.hid hcs
      have qeq : (T.toList == s.toList) = R := by
        rw [HCS.out]
        cases hq : T.toList == s.toList with
        | true => exact (decide_eq_true (toList_eq hq)).symm
        | false => exact (decide_eq_false (toList_ne hq)).symm
      clear hread hck hcs hR hD hT hdd HRD
      go_enter Tryz.func47, Tryz.ntmps47
      go_wp2_with fail
      refine HR1.out.mono ?_
      rintro e1 w1 ⟨rfl, hb1⟩
      have t0 := (Blk.new w 25 [.int .i64 0, .string s, .slice na nn nc, .slice la m lc]).bel (hb1.to_alloc (.cells #[.string D, .int .i64 sc] 104))
      have c1 := t0.at 1
      have y0 := Blk.new w1 104 [.string D, .int .i64 sc]
      have HB1 := Lib.hid ((Bel.alloc _ _).trans hb1)
      clear hb1 t0
      go_wp2_with fail
      have z0 := y0.at 0
      have z1 := y0.at 1
      clear y0
      go_region_held3 (fun w' => w'.cell? ⟨w.heap.size, 1, none⟩ = some (.string s) ∧ w'.cell? ⟨w1.heap.size, 0, none⟩ = some (.string D) ∧ w'.cell? ⟨w1.heap.size, 1, none⟩ = some (.int .i64 sc) ∧ Bel w1 w') (((try dsimp only); (try go_split_ands); (refine ⟨?_, ?_, ?_, ?_⟩ <;> first | assumption | exact Bel.keep (by assumption) (by assumption) | ((repeat (first | exact Bel.refl _ | assumption | refine Bel.to_drewN ?_ _ | refine Bel.to_drew ?_ | refine Bel.to_setCell ?_ (by first | exact Nat.le_refl _ | (simp; done) | (simp; omega) | omega) _ | refine Bel.to_alloc ?_ _ | refine Bel.trans ?_ (by assumption))); done) | (go_keep; done))))
        ((go_at_call 83; refine (HTX.out _).mono ?_; rintro e2 w2 ⟨rfl, hb2⟩))
      all_goals (go_wp2_with fail; go_ret; go_split_ands; exact ⟨rfl, HB1.out.trans (by assumption)⟩)
    · have hcs := canonS_no hread hkk
      rw [hcs]
      obtain ⟨D, hD⟩ : ∃ D, bs d = D := ⟨_, rfl⟩
      have HR1 : Hid (Calls Tryz.prog 82 #[.string s] (w.alloc (.cells #[.int .i64 0, .string s, .slice na nn nc, .slice la m lc] 25)) fun e w' => e = .returned (.tuple #[.agg #[.string D, .int .i64 sc], .int .i64 kk]) ∧ Bel (w.alloc (.cells #[.int .i64 0, .string s, .slice na nn nc, .slice la m lc] 25)) w') := Lib.hid (by
        have := HRD.out (w.alloc (.cells #[.int .i64 0, .string s, .slice na nn nc, .slice la m lc] 25))
        unfold RetNumE at this
        rw [← hD]; exact this)
      have e0 : ((kk : Int) == 0) = false := by simpa using hkk
      clear hread hcs hD HRD hkk
      go_enter Tryz.func47, Tryz.ntmps47
      go_wp2_with fail
      refine HR1.out.mono ?_
      rintro e1 w1 ⟨rfl, hb1⟩
      have HB1 := Lib.hid ((Bel.alloc _ _).trans hb1)
      clear hb1
      go_wp2_with fail
      refine wp_region_held_drew (S := fun w' => Bel w1 w') (by kernel_rfl) (by (repeat (first | exact Bel.refl _ | assumption | refine Bel.to_drewN ?_ _ | refine Bel.to_drew ?_ | refine Bel.to_setCell ?_ (by first | exact Nat.le_refl _ | (simp; done) | (simp; omega) | omega) _ | refine Bel.to_alloc ?_ _ | refine Bel.trans ?_ (by assumption)))) (fun hHeld => ?_)
      refine wpAnyH_take (i := 0) (oi := _) (v := ?_) rfl (by kernel_rfl) (by kernel_rfl) (by kernel_rfl) (fun _ _ _ h => h) ?_ (by assumption) ?_
      rotate_left 1
      · first
          | (refine Or.inl ⟨by rfl, ?_⟩; intro w9 hSw; (try dsimp only at hSw); go_simp; (try with_reducible rfl); done)
          | (refine Or.inr ⟨by rfl, ?_⟩; rfl)
      simp only [List.getElem_toArray, List.getElem_cons_zero, Act.put, List.setIfInBounds_toArray, List.set_cons_zero, List.set_cons_succ]
      refine wpAnyH_take (i := 1) (oi := _) (v := ?_) rfl (by kernel_rfl) (by kernel_rfl) (by kernel_rfl) (fun _ _ _ h => h) ?_ (by assumption) ?_
      rotate_left 1
      · first
          | (refine Or.inl ⟨by rfl, ?_⟩; intro w9 hSw; (try dsimp only at hSw); go_simp; (try with_reducible rfl); done)
          | (refine Or.inr ⟨by rfl, ?_⟩; rfl)
      simp only [List.getElem_toArray, List.getElem_cons_succ, List.getElem_cons_zero, Act.put, List.setIfInBounds_toArray, List.set_cons_zero, List.set_cons_succ]
      refine wpAnyH_take (i := 2) (oi := _) (v := ?_) rfl (by kernel_rfl) (by kernel_rfl) (by kernel_rfl) (fun _ _ _ h => h) ?_ (by assumption) ?_
      rotate_left 1
      · first
          | (refine Or.inl ⟨by rfl, ?_⟩; intro w9 hSw; (try dsimp only at hSw); go_simp; (try with_reducible rfl); done)
          | (refine Or.inr ⟨by rfl, ?_⟩; rfl)
      simp only [List.getElem_toArray, List.getElem_cons_succ, List.getElem_cons_zero, Act.put, List.setIfInBounds_toArray, List.set_cons_zero, List.set_cons_succ]
      refine wpAnyH_take (i := 3) (oi := _) (v := ?_) rfl (by kernel_rfl) (by kernel_rfl) (by kernel_rfl) (fun _ _ _ h => h) ?_ (by assumption) ?_
      rotate_left 1
      · first
          | (refine Or.inl ⟨by rfl, ?_⟩; intro w9 hSw; (try dsimp only at hSw); go_simp; (try with_reducible rfl); done)
          | (refine Or.inr ⟨by rfl, ?_⟩; rfl)
      simp only [List.getElem_toArray, List.getElem_cons_succ, List.getElem_cons_zero, Act.put, List.setIfInBounds_toArray, List.set_cons_zero, List.set_cons_succ]
      refine wpAnyH_take (i := 4) (oi := _) (v := ?_) rfl (by kernel_rfl) (by kernel_rfl) (by kernel_rfl) (fun _ _ _ h => h) ?_ (by assumption) ?_
      rotate_left 1
      · first
          | (refine Or.inl ⟨by rfl, ?_⟩; intro w9 hSw; (try dsimp only at hSw); go_simp; (try with_reducible rfl); done)
          | (refine Or.inr ⟨by rfl, ?_⟩; rfl)
      simp only [List.getElem_toArray, List.getElem_cons_succ, List.getElem_cons_zero, Act.put, List.setIfInBounds_toArray, List.set_cons_zero, List.set_cons_succ]
      refine wpAnyH_take (i := 5) (oi := _) (v := ?_) rfl (by kernel_rfl) (by kernel_rfl) (by kernel_rfl) (fun _ _ _ h => h) ?_ (by assumption) ?_
      rotate_left 1
      · first
          | (refine Or.inl ⟨by rfl, ?_⟩; intro w9 hSw; (try dsimp only at hSw); go_simp; (try with_reducible rfl); done)
          | (refine Or.inr ⟨by rfl, ?_⟩; rfl)
      simp only [List.getElem_toArray, List.getElem_cons_succ, List.getElem_cons_zero, Act.put, List.setIfInBounds_toArray, List.set_cons_zero, List.set_cons_succ]
      refine wpAnyH_take (i := 6) (oi := _) (v := ?_) rfl (by kernel_rfl) (by kernel_rfl) (by kernel_rfl) (fun _ _ _ h => h) ?_ (by assumption) ?_
      rotate_left 1
      · first
          | (refine Or.inl ⟨by rfl, ?_⟩; intro w9 hSw; (try dsimp only at hSw); go_simp; (try with_reducible rfl); done)
          | (refine Or.inr ⟨by rfl, ?_⟩; rfl)
      simp only [List.getElem_toArray, List.getElem_cons_succ, List.getElem_cons_zero, Act.put, List.setIfInBounds_toArray, List.set_cons_zero, List.set_cons_succ]
      refine wpAnyH_take (i := 7) (oi := _) (v := ?_) rfl (by kernel_rfl) (by kernel_rfl) (by kernel_rfl) (fun _ _ _ h => h) ?_ (by assumption) ?_
      rotate_left 1
      · first
          | (refine Or.inl ⟨by rfl, ?_⟩; intro w9 hSw; (try dsimp only at hSw); go_simp; (try with_reducible rfl); done)
          | (refine Or.inr ⟨by rfl, ?_⟩; rfl)
      simp only [List.getElem_toArray, List.getElem_cons_succ, List.getElem_cons_zero, Act.put, List.setIfInBounds_toArray, List.set_cons_zero, List.set_cons_succ]
      refine wpAnyH_take (i := 8) (oi := _) (v := ?_) rfl (by kernel_rfl) (by kernel_rfl) (by kernel_rfl) (fun _ _ _ h => h) ?_ (by assumption) ?_
      rotate_left 1
      · first
          | (refine Or.inl ⟨by rfl, ?_⟩; intro w9 hSw; (try dsimp only at hSw); go_simp; (try with_reducible rfl); done)
          | (refine Or.inr ⟨by rfl, ?_⟩; rfl)
      simp only [List.getElem_toArray, List.getElem_cons_succ, List.getElem_cons_zero, Act.put, List.setIfInBounds_toArray, List.set_cons_zero, List.set_cons_succ]
      refine wpAnyH_take (i := 9) (oi := _) (v := ?_) rfl (by kernel_rfl) (by kernel_rfl) (by kernel_rfl) (fun _ _ _ h => h) ?_ (by assumption) ?_
      rotate_left 1
      · first
          | (refine Or.inl ⟨by rfl, ?_⟩; intro w9 hSw; (try dsimp only at hSw); go_simp; (try with_reducible rfl); done)
          | (refine Or.inr ⟨by rfl, ?_⟩; rfl)
      simp only [List.getElem_toArray, List.getElem_cons_succ, List.getElem_cons_zero, Act.put, List.setIfInBounds_toArray, List.set_cons_zero, List.set_cons_succ]
      refine wpAnyH_done (by kernel_rfl) ?_ _
      go_wp2_with fail
      go_ret
      exact ⟨rfl, HB1.out.trans (by assumption)⟩
  by_cases hk2 : k = 2
  · subst hk2
    have hr : textK 2 s = decide (s ∈ constS) := by unfold textK; simp
    rw [hr]
    have HA2 := Lib.hid (HA.out constS 3 rfl (by omega) (w.alloc (.cells #[.int .i64 2, .string s, .slice na nn nc, .slice la m lc] 25)))
    rw [World.size_alloc] at HA2
    clear hr hn h0 h1 HA
    go_enter Tryz.func47, Tryz.ntmps47
    go_wp2_with fail
    refine HA2.out.mono ?_
    rintro e1 w1 ⟨rfl, hb1⟩
    go_wp2_with fail
    go_ret
    exact ⟨rfl, ((Bel.alloc _ _).to_alloc _).trans hb1⟩
  by_cases hk5 : k = 5
  · subst hk5
    have hr : textK 5 s = decide (s ∈ binS) := by unfold textK; simp
    rw [hr]
    have HA2 := Lib.hid (HA.out binS 13 rfl (by omega) (w.alloc (.cells #[.int .i64 5, .string s, .slice na nn nc, .slice la m lc] 25)))
    rw [World.size_alloc] at HA2
    clear hr hn h0 h1 HA
    go_enter Tryz.func47, Tryz.ntmps47
    go_wp2_with fail
    refine HA2.out.mono ?_
    rintro e1 w1 ⟨rfl, hb1⟩
    go_wp2_with fail
    go_ret
    exact ⟨rfl, ((Bel.alloc _ _).to_alloc _).trans hb1⟩
  by_cases hk18 : k = 18
  · subst hk18
    have hr : textK 18 s = decide (s ∈ spanS) := by unfold textK; simp
    rw [hr]
    have HA2 := Lib.hid (HA.out spanS 4 rfl (by omega) (w.alloc (.cells #[.int .i64 18, .string s, .slice na nn nc, .slice la m lc] 25)))
    rw [World.size_alloc] at HA2
    clear hr hn h0 h1 HA
    go_enter Tryz.func47, Tryz.ntmps47
    go_wp2_with fail
    refine HA2.out.mono ?_
    rintro e1 w1 ⟨rfl, hb1⟩
    go_wp2_with fail
    go_ret
    exact ⟨rfl, ((Bel.alloc _ _).to_alloc _).trans hb1⟩
  by_cases hk19 : k = 19
  · subst hk19
    have hr : textK 19 s = decide (s ∈ testS) := by unfold textK; simp
    rw [hr]
    have HA2 := Lib.hid (HA.out testS 4 rfl (by omega) (w.alloc (.cells #[.int .i64 19, .string s, .slice na nn nc, .slice la m lc] 25)))
    rw [World.size_alloc] at HA2
    clear hr hn h0 h1 HA
    go_enter Tryz.func47, Tryz.ntmps47
    go_wp2_with fail
    refine HA2.out.mono ?_
    rintro e1 w1 ⟨rfl, hb1⟩
    go_wp2_with fail
    go_ret
    exact ⟨rfl, ((Bel.alloc _ _).to_alloc _).trans hb1⟩
  have hr : textK k s = s.toList.isEmpty := by
    unfold textK
    unfold namedK at hn
    simp at hn
    rw [if_neg hk0, if_neg (by omega), if_neg hk2, if_neg hk5, if_neg hk18, if_neg hk19]
    have h9 : (⟨#[]⟩ : ByteArray).toList = [] := by rw [Lib.toList_data]
    rw [Bool.eq_iff_iff, List.isEmpty_iff]
    simp only [List.mem_singleton, decide_eq_true_eq]
    constructor
    · rintro rfl; exact h9
    · intro h
      exact toList_eq (x := s) (y := ⟨#[]⟩) (by rw [h, h9]; rfl)
  rw [hr]
  have e0 : (k == 0) = false := by simpa using hk0
  have e2 : (k == 2) = false := by simpa using hk2
  have e5 : (k == 5) = false := by simpa using hk5
  have e18 : (k == 18) = false := by simpa using hk18
  have e19 : (k == 19) = false := by simpa using hk19
  clear hr hn h0 h1 HA hk0 hk2 hk5 hk18 hk19
  go_enter Tryz.func47, Tryz.ntmps47
  go_wp2_with fail
  go_ret
  exact ⟨rfl, by (repeat (first | exact Bel.refl _ | assumption | refine Bel.to_drewN ?_ _ | refine Bel.to_drew ?_ | refine Bel.to_setCell ?_ (by first | exact Nat.le_refl _ | (simp; done) | (simp; omega) | omega) _ | refine Bel.to_alloc ?_ _ | refine Bel.trans ?_ (by assumption)))⟩
set_option maxRecDepth 100000 in
set_option maxHeartbeats 4000000 in
theorem rform_x (e : Ex) (vn vl : Value) (t : Bool) (w : World) (hb : e.bulk ≤ 1073741824) (h0 : 0 ≤ e.k ∧ e.k ≤ 19) (hat : ExAt w e vn vl) :
    Calls Tryz.prog 30 #[.agg #[.int .i64 e.k, .string e.s, vn, vl], .bool t] w (RetBel (.bool (formE e.k e.s e.ns.length e.l.length t)) w) := by
  have HAT := Lib.hid hat
  have HX := Lib.hid (fun (W : World) (hW : Bel w W) (hn : namedK e.k = false) (h1 : e.k ≠ 1) => rtext_x e vn vl W hb h0 hn h1 (ExAt.bel hW e HAT.out))
  obtain ⟨na, la, nn, nc, m, lc, rfl, rfl, hnn, hm, hnc, hlc, hnb, hmb, hns, hps⟩ := hat.opened
  obtain ⟨R, hR⟩ : ∃ R, formE e.k e.s e.ns.length e.l.length t = R := ⟨_, rfl⟩
  rw [hR]
  rw [hnn, hm] at hR
  obtain ⟨k, hk⟩ : ∃ k, e.k = k := ⟨_, rfl⟩
  obtain ⟨s, hs⟩ : ∃ s, e.s = s := ⟨_, rfl⟩
  rw [hk] at h0
  rw [hk, hs] at HX hR ⊢
  have HP := Lib.hid (rparts_c k h0)
  have HN := Lib.hid (rnamed_c k)
  have hm2 : m ≤ 1073741824 := by omega
  have hn2 : nn ≤ 1073741824 := by omega
  unfold formE at hR
  obtain ⟨P, hP⟩ : ∃ P, partsK k = P := ⟨_, rfl⟩
  obtain ⟨N, hN⟩ : ∃ N, namedK k = N := ⟨_, rfl⟩
  obtain ⟨T, hT⟩ : ∃ T, textK k s = T := ⟨_, rfl⟩
  have hNT : (N = true ∨ k = 1) → T = true := by
    intro h
    rw [← hT]
    rw [← hN] at h
    unfold namedK at h
    simp at h
    unfold textK
    rw [if_neg (by omega), if_pos (by omega)]
  rw [hP] at HP hR
  rw [hN] at HN HX
  rw [hT] at HX hR
  obtain ⟨b19, hb19⟩ : ∃ b, (k == 19) = b := ⟨_, rfl⟩
  obtain ⟨b17, hb17⟩ : ∃ b, (k == 17) = b := ⟨_, rfl⟩
  obtain ⟨b15, hb15⟩ : ∃ b, (k == 15) = b := ⟨_, rfl⟩
  obtain ⟨p2, hp2⟩ : ∃ b, (P == -2) = b := ⟨_, rfl⟩
  obtain ⟨m0, hm0⟩ : ∃ b, ((m : Int) == 0) = b := ⟨_, rfl⟩
  obtain ⟨mp, hmp⟩ : ∃ b, ((m : Int) != P) = b := ⟨_, rfl⟩
  obtain ⟨nm, hnm⟩ : ∃ b, ((nn : Int) != m) = b := ⟨_, rfl⟩
  have hc17 : (k != 17) = !b17 := by rw [← hb17]; rfl
  have hc15 : (k != 15) = !b15 := by rw [← hb15]; rfl
  rw [show decide (P = -2 ∧ m = 0) = (p2 && m0) from by rw [← hp2, ← hm0, Bool.eq_iff_iff]; simp, show decide (k = 19) = b19 from by rw [← hb19, Bool.eq_iff_iff]; simp,
    show decide (k = 17 ∧ nn ≠ m) = (b17 && nm) from by rw [← hb17, ← hnm, Bool.eq_iff_iff]; simp; omega,
    show decide (0 ≤ P ∧ (m : Int) ≠ P) = (decide (0 ≤ P) && mp) from by rw [← hmp, Bool.eq_iff_iff]; simp,
    show namesK k = (b15 || b17) from by rw [← hb15, ← hb17, Bool.eq_iff_iff]; simp [namesK]] at hR
  obtain ⟨q1, hq1⟩ : ∃ q, (decide (0 ≤ P) && mp) = q := ⟨_, rfl⟩
  obtain ⟨q2, hq2⟩ : ∃ q, (p2 && m0) = q := ⟨_, rfl⟩
  obtain ⟨q5, hq5⟩ : ∃ q, (b19 && !t) = q := ⟨_, rfl⟩
  obtain ⟨q3, hq3⟩ : ∃ q, (b17 && nm) = q := ⟨_, rfl⟩
  obtain ⟨q4, hq4⟩ : ∃ q, (!(b15 || b17) && decide (0 < nn)) = q := ⟨_, rfl⟩
  rw [hq1, hq2, hq3, hq4, hq5] at hR
  have HR := Lib.hid hR
  have Q1 := Lib.hid hq1
  have Q2 := Lib.hid hq2
  have Q3 := Lib.hid hq3
  have Q4 := Lib.hid hq4
  have Q5 := Lib.hid hq5
  have HNT := Lib.hid hNT
  clear hR hq1 hq2 hq3 hq4 hq5 hNT hP hN hT hns hps hnn hm hat hnb hmb h0 hk hs hb
  go_enter Tryz.func30, Tryz.ntmps30
  go_wp2_with fail
  have t0 := Blk.new w 25 [.int .i64 k, .string s, .slice na nn nc, .slice la m lc]
  refine (HP.out _).mono ?_
  rintro e1 w1 ⟨rfl, hb1⟩
  have t1 := t0.bel hb1
  have c0 := t1.at 0
  have c1 := t1.at 1
  have c2 := t1.at 2
  have c3 := t1.at 3
  have HB1 := Lib.hid ((Bel.alloc _ _).trans hb1)
  clear t0 t1 hb1
  go_upto_region 2 with fail
  go_cut [36] (fun v wx => v = .bool ((q1 || q2) || q5) ∧ w1 = wx)
  case first =>
    go_wp2_with fail
    all_goals (go_meet; refine ⟨bool_eq ?_, rfl⟩; rw [← Q1.out, ← Q2.out, ← Q5.out, Bool.eq_iff_iff]; simp [*] <;> omega)
  case rest =>
  obtain ⟨rfl, rfl⟩ := hcut
  obtain ⟨B1, hB1⟩ : ∃ B, ((q1 || q2) || q5) = B := ⟨_, rfl⟩
  rw [hB1]
  have HB1' := Lib.hid hB1
  clear hB1
  cases B1 with
  | true =>
    have hf : R = false := by
      rw [← HR.out]
      have := HB1'.out
      cases q1 <;> cases q2 <;> cases q5 <;> simp at this ⊢
    subst hf
    go_wp2_with fail
    go_ret
    exact ⟨rfl, HB1.out⟩
  | false =>
  go_upto_region 4 with fail
  go_cut [64] (fun v wx => v = .bool (q3 || q4) ∧ w1 = wx)
  case first =>
    go_wp2_with fail
    all_goals (go_meet; refine ⟨bool_eq ?_, rfl⟩; rw [← Q3.out, ← Q4.out, Bool.eq_iff_iff]; simp [*] <;> omega)
  case rest =>
  obtain ⟨rfl, rfl⟩ := hcut
  obtain ⟨B2, hB2⟩ : ∃ B, (q3 || q4) = B := ⟨_, rfl⟩
  rw [hB2]
  have HB2 := Lib.hid hB2
  clear hB2
  cases B2 with
  | true =>
    have hf : R = false := by
      rw [← HR.out]
      have := HB2.out
      cases q3 <;> cases q4 <;> simp at this ⊢
    subst hf
    go_wp2_with fail
    go_ret
    exact ⟨rfl, HB1.out⟩
  | false =>
  have hf : R = T := by
    rw [← HR.out]
    have h1 := HB1'.out
    have h2 := HB2.out
    cases q1 <;> cases q2 <;> cases q5 <;> cases q3 <;> cases q4 <;> simp at h1 h2 ⊢
  subst hf
  cases N with
  | true =>
    obtain rfl := HNT.out (.inl rfl)
    go_wp2_with fail
    refine (HN.out _).mono ?_
    rintro e2 w2 ⟨rfl, hb2⟩
    go_wp2_with fail
    go_ret
    exact ⟨rfl, HB1.out.trans hb2⟩
  | false =>
  by_cases h1 : k = 1
  · subst h1
    obtain rfl := HNT.out (.inr rfl)
    go_wp2_with fail
    refine (HN.out _).mono ?_
    rintro e2 w2 ⟨rfl, hb2⟩
    have d0 := hb2.keep c0
    go_wp2_with fail
    go_ret
    exact ⟨rfl, HB1.out.trans hb2⟩
  · have HX2 := Lib.hid (fun W (hW : Bel w W) => HX.out W hW rfl h1)
    have h2 : (k == 1) = false := by simpa using h1
    clear h1 HX HNT
    go_wp2_with fail
    refine (HN.out _).mono ?_
    rintro e2 w2 ⟨rfl, hb2⟩
    have d0 := hb2.keep c0
    have d1 := hb2.keep c1
    have d2 := hb2.keep c2
    have d3 := hb2.keep c3
    go_wp2_with fail
    refine (HX2.out _ (HB1.out.trans hb2)).mono ?_
    rintro e3 w3 ⟨rfl, hb3⟩
    go_wp2_with fail
    go_ret
    exact ⟨rfl, HB1.out.trans (hb2.trans hb3)⟩
end Go.Proofs.YtpenfnabeckboaaGreatDoor

namespace Go.Proofs.YtpenfnabeckboaaGreatDoor
open Go.RowKit
theorem nodup_take_succ (l : List ByteArray) (j : Nat) (x : ByteArray) (h : l[j]? = some x) : (l.take (j + 1)).Nodup ↔ (l.take j).Nodup ∧ x ∉ l.take j := by
  obtain ⟨hj, hx⟩ := List.getElem?_eq_some_iff.1 h
  rw [List.take_succ_eq_append_getElem hj, hx, List.nodup_append]
  simp
  intro _
  constructor
  · intro h1 h2; exact h1 _ h2 rfl
  · intro h1 a h2 e; subst e; exact h1 h2
theorem nodup_take (l : List ByteArray) (j : Nat) (h : l.Nodup) : (l.take j).Nodup := h.sublist (List.take_sublist j l)
theorem any_take {l : List ByteArray} {p : ByteArray → Bool} {j : Nat} {x : ByteArray} (h : l[j]? = some x) (hx : p x = true) : l.any p = true := List.any_eq_true.2 ⟨x, List.mem_of_getElem? h, hx⟩
/-- '[]byte(s)' at an operation of a region that draws. -/
theorem upon_bytes {w : World} {o : Oper} {a : Act} {K : Act → World → Prop} {E : Exit → Act → World → Prop} (s : ByteArray)
    (hK : ∀ v W', BytesAt W' v s → Bel w W' → Oper.upon Tryz.prog o a K E (.ok (.value v) W')) :
    Oper.upon Tryz.prog o a K E (((convert 9 54 (.string s)).run Tryz.prog w).andThen fun v w' => .ok (.value v) w') := by
  have hrun := run_bytes_of_string w 9 54 5 s Tryz.underlying9 Tryz.underlying54 Tryz.underlying5
  have hb : Below w.heap.size w (w.drew.alloc (.cells (bytesRow s (grownCap w s.size 0 5)) 5 ((bytesRow s (grownCap w s.size 0 5)).size, (bytesRow s (grownCap w s.size 0 5)).size + 1))) := ((Below.refl _ w).drew).alloc (Nat.le_refl _) _
  rw [hrun]
  refine hK _ _ ⟨w.heap.size, 0, _, rfl, ?_, fun j hj => ?_, ?_⟩ hb
  · show w.heap.size < (w.heap.push _).size
    simp
  · have h1 := bytesRow_at s (grownCap w s.size 0 5) j hj
    rw [get_bang s j hj, ← h1]
    simp only [World.cell?]
    rw [show (w.drew.alloc (.cells (bytesRow s (grownCap w s.size 0 5)) 5 ((bytesRow s (grownCap w s.size 0 5)).size, (bytesRow s (grownCap w s.size 0 5)).size + 1))).heap[w.heap.size]? = some _ from (show (w.heap.push _)[w.heap.size]? = _ from Array.getElem?_push_size)]
    simp
  · simp only [grownCap, Question.cut]; omega
set_option maxRecDepth 100000 in
set_option maxHeartbeats 8000000 in
theorem rcheck_e : ∀ (n : Nat) (e : Ex), e.bulk ≤ n → n ≤ 1073741824 → ∀ (vn vl : Value) (t : Bool) (w : World), ExAt w e vn vl →
    Calls Tryz.prog 25 #[.agg #[.int .i64 e.k, .string e.s, vn, vl], .bool t] w (RetBel (.int .i64 (checkE e t)) w) := by
  intro n
  induction n with
  | zero => intro e he; exfalso; have := bulk_eq e; omega
  | succ n ih =>
    intro e he hn vn vl t w hat
    have HAT := Lib.hid hat
    obtain ⟨na, la, nn, nc, m, lc, rfl, rfl, hnn, hm, hnc, hlc, hnb, hmb, hns, hps⟩ := hat.opened
    have HF := Lib.hid (fun W (hW : Bel w W) (h0 : 0 ≤ e.k ∧ e.k ≤ 19) => rform_x e _ _ t W (by omega) h0 (ExAt.bel hW e HAT.out))
    have HRS := Lib.hid (fun W => rright_c e.s (by have := bulk_s e; omega) W)
    have HRN := Lib.hid (fun x (hx : x ∈ e.ns) W => rright_c x (by have := bulk_name hx; omega) W)
    have HCK := Lib.hid (fun v W (hv : BytesAt W v e.s) => rcheck_c e.s (by have := bulk_s e; omega) v W hv)
    have HAM := Lib.hid (fun (j : Nat) (x : ByteArray) (hj : j ≤ nn) W (hW : Bel w W) => ramong_c na j nc (e.ns.take j) x W (by rw [List.length_take]; omega) (by omega) ((hns.take j).bel hW))
    have PS := Lib.hid hps
    have NS := Lib.hid hns
    have HM := Lib.hid hm
    have HNN := Lib.hid hnn
    have HIH : Hid (∀ (x : Ex), x.bulk < e.bulk → ∀ xn xl b W, ExAt W x xn xl → Calls Tryz.prog 25 #[.agg #[.int .i64 x.k, .string x.s, xn, xl], .bool b] W (RetBel (.int .i64 (checkE x b)) W)) := Lib.hid fun x hx xn xl b W h3 => ih x (by omega) (by omega) xn xl b W h3
    have hm2 : m ≤ 1073741824 := by omega
    have hn2 : nn ≤ 1073741824 := by omega
    have hs2 : e.s.size ≤ 1073741824 := by have := bulk_s e; omega
    obtain ⟨R, hR⟩ : ∃ R, checkE e t = R := ⟨_, rfl⟩
    rw [hR]
    rw [checkE_eq] at hR
    obtain ⟨o, ho⟩ : ∃ o, ownK e.k e.s e.ns e.l.length t = o := ⟨_, rfl⟩
    rw [ho] at hR
    unfold ownK at ho
    have HRR := Lib.hid hR
    obtain ⟨k, hk⟩ : ∃ k, e.k = k := ⟨_, rfl⟩
    obtain ⟨s, hs⟩ : ∃ s, e.s = s := ⟨_, rfl⟩
    have HPT := Lib.hid (fun (i : Nat) (x : Ex) (h : e.l[i]? = some x) => bulk_part h)
    rw [hk, hs] at HF ho ⊢
    rw [hk] at HRR
    rw [hs] at HRS HCK hs2
    obtain ⟨l, hl⟩ : ∃ l, e.l = l := ⟨_, rfl⟩
    obtain ⟨ns, hnse⟩ : ∃ l, e.ns = l := ⟨_, rfl⟩
    rw [hl] at PS HM HRR HPT HF ho
    rw [hnse] at NS HNN HRN HAM HF ho
    have HO := Lib.hid ho
    clear ih hps hm hnn hns hat hR ho hk hs hl hnse hmb hnb HAT
    by_cases hlo : k < 0
    · have h2 : R = 2 := by
        have h3 := HO.out
        rw [if_pos (by omega)] at h3
        have := HRR.out
        rw [← h3] at this
        simpa using this.symm
      subst h2
      clear HO HRR
      go_enter Tryz.func25, Tryz.ntmps25
      go_wp2_with fail
      go_ret
      exact ⟨rfl, by (repeat (first | exact Bel.refl _ | assumption | refine Bel.to_drewN ?_ _ | refine Bel.to_drew ?_ | refine Bel.to_setCell ?_ (by first | exact Nat.le_refl _ | (simp; done) | (simp; omega) | omega) _ | refine Bel.to_alloc ?_ _ | refine Bel.trans ?_ (by assumption)))⟩
    by_cases hhi : 19 < k
    · have h2 : R = 2 := by
        have h3 := HO.out
        rw [if_pos (by omega)] at h3
        have := HRR.out
        rw [← h3] at this
        simpa using this.symm
      subst h2
      clear HO HRR
      go_enter Tryz.func25, Tryz.ntmps25
      go_wp2_with fail
      go_ret
      exact ⟨rfl, by (repeat (first | exact Bel.refl _ | assumption | refine Bel.to_drewN ?_ _ | refine Bel.to_drew ?_ | refine Bel.to_setCell ?_ (by first | exact Nat.le_refl _ | (simp; done) | (simp; omega) | omega) _ | refine Bel.to_alloc ?_ _ | refine Bel.trans ?_ (by assumption)))⟩
    have HF2 := Lib.hid (fun W (hW : Bel w W) => HF.out W hW (by omega))
    have ho := HO.out
    rw [if_neg (by omega)] at ho
    obtain ⟨f, hf⟩ : ∃ f, formE k s ns.length l.length t = f := ⟨_, rfl⟩
    rw [hf] at HF2 ho
    obtain ⟨N, hN⟩ : ∃ N, namedK k = N := ⟨_, rfl⟩
    have HN := Lib.hid (rnamed_c k)
    rw [hN] at HN ho
    obtain ⟨rs, hrs⟩ : ∃ b, rightS s = b := ⟨_, rfl⟩
    unfold rightS at hrs
    rw [hrs] at HRS
    rw [show rightS s = rs from hrs] at ho
    obtain ⟨ck, hck⟩ : ∃ c, chkS s = c := ⟨_, rfl⟩
    rw [hck] at HCK ho
    have HO2 := Lib.hid ho
    clear hf ho HO HF hN hrs hck
    go_enter Tryz.func25, Tryz.ntmps25
    go_wp2_with fail
    have t0 := Blk.new w 25 [.int .i64 k, .string s, .slice na nn nc, .slice la m lc]
    have hb0 : Bel w (w.alloc (.cells #[.int .i64 k, .string s, .slice na nn nc, .slice la m lc] 25)) := Bel.alloc _ _
    refine (HF2.out _ hb0).mono ?_
    rintro e1 w1 ⟨rfl, hb1⟩
    have T1 := Lib.hid (t0.bel hb1)
    have HB1 := Lib.hid (hb0.trans hb1)
    have c0 := T1.out.at 0
    have c1 := T1.out.at 1
    have c2 := T1.out.at 2
    have c3 := T1.out.at 3
    clear t0 hb0 hb1 HF2
    cases f with
    | false =>
      have h2 : R = 17 := by
        have h3 := HO2.out
        rw [if_pos rfl] at h3
        have := HRR.out
        rw [← h3] at this
        simpa using this.symm
      subst h2
      clear HO2 HRR
      go_wp2_with fail
      go_ret
      exact ⟨rfl, HB1.out⟩
    | true =>
    have ho := HO2.out
    rw [if_neg (by simp)] at ho
    have HO := Lib.hid ho
    clear ho HO2
    go_upto_region 5 with fail
    go_cut [29] (fun v wx => v = .bool (N && !rs) ∧ Bel w1 wx)
    case first =>
      go_wp2_with fail
      refine (HN.out _).mono ?_
      rintro e2 w2 ⟨rfl, hb2⟩
      have d1 := hb2.keep c1
      cases N with
      | false =>
        go_wp2_with fail
        go_meet
        exact ⟨bool_eq (by simp), hb2⟩
      | true =>
        go_wp2_with fail
        refine (HRS.out _).mono ?_
        rintro e3 w3 ⟨rfl, hb3⟩
        go_wp2_with fail
        go_meet
        exact ⟨bool_eq (by simp), hb2.trans hb3⟩
    case rest =>
    obtain ⟨rfl, hbc⟩ := hcut
    generalize wc = w2 at hbc ⊢
    obtain ⟨Q, hQ⟩ : ∃ Q, (N && !rs) = Q := ⟨_, rfl⟩
    rw [hQ]
    have HO3 : Hid ((if (Q || ns.any fun x => !rightS x) = true then 6 else if ¬ ns.Nodup then 8 else if k = 1 ∧ ck < s.size then 4 else 0) = o) := Lib.hid (by rw [← hQ]; exact HO.out)
    have T2 := Lib.hid (T1.out.bel hbc)
    have HB2 := Lib.hid (HB1.out.trans hbc)
    clear c0 c1 c2 c3 hQ hbc T1 HB1 HO HN HRS
    cases Q with
    | true =>
      have h2 : R = 6 := by
        have h3 := HO3.out
        rw [if_pos (by simp)] at h3
        have := HRR.out
        rw [← h3] at this
        simpa using this.symm
      subst h2
      clear HO3 HRR
      go_wp2_with fail
      go_ret
      exact ⟨rfl, HB2.out⟩
    | false =>
    go_wp2_with fail
    go_loopw [5] (fun i wr => ∃ j : Nat, j ≤ nn ∧ i = .int .i64 j ∧ Bel w2 wr ∧ ∀ x ∈ ns.take j, rightS x = true) (fun i _ => nn - (intOf i).toNat)
    case atStart => exact ⟨0, Nat.zero_le _, rfl, Bel.refl _, fun x hx => by rw [List.take_zero] at hx; cases hx⟩
    case round =>
      obtain ⟨j, hj, rfl, hbel, hall⟩ := hrel
      have d2 : wr.cell? ⟨w.heap.size, 2, none⟩ = some (.slice na nn nc) := hbel.keep (T2.out.at 2)
      have HBL := Lib.hid hbel
      have HALL := Lib.hid hall
      clear hbel hall
      by_cases hlt : j < nn
      · have hlti : (j : Int) < nn := by omega
        obtain ⟨x, hx⟩ : ∃ x, ns[j]? = some x := ⟨_, List.getElem?_eq_getElem (by have := HNN.out; omega)⟩
        obtain ⟨b, off, rfl, g0⟩ := NS.out j x hx
        have f0 := (HB2.out.trans HBL.out).keep g0
        have HRX := Lib.hid (fun W => HRN.out x (List.mem_of_getElem? hx) W)
        have HX := Lib.hid hx
        obtain ⟨rx, hrx⟩ : ∃ b, rightS x = b := ⟨_, rfl⟩
        have HRXE := Lib.hid hrx
        unfold rightS at hrx
        rw [hrx] at HRX
        clear hx g0 hrx
        go_wp2_with fail
        refine (HRX.out _).mono ?_
        rintro e3 w3 ⟨rfl, hb3⟩
        cases rx with
        | false =>
          have h2 : R = 6 := by
            have h3 := HO3.out
            rw [if_pos (by rw [Bool.false_or]; exact any_take HX.out (by rw [HRXE.out]; rfl))] at h3
            have := HRR.out
            rw [← h3] at this
            simpa using this.symm
          subst h2
          clear HO3 HRR
          go_wp2_with fail
          go_ret
          exact ⟨rfl, HB2.out.trans (HBL.out.trans hb3)⟩
        | true =>
          go_wp2_with fail
          refine ⟨⟨j + 1, by omega, by go_num, HBL.out.trans hb3, fun y hy => ?_⟩, by simp [intOf]; omega⟩
          obtain ⟨hj2, hx2⟩ := List.getElem?_eq_some_iff.1 HX.out
          rw [List.take_succ_eq_append_getElem hj2, hx2] at hy
          rcases List.mem_append.1 hy with h | h
          · exact HALL.out y h
          · rw [List.mem_singleton] at h; subst h; exact HRXE.out
      · obtain rfl : j = nn := by omega
        have HO4 : Hid ((if ¬ ns.Nodup then 8 else if k = 1 ∧ ck < s.size then 4 else 0) = o) := Lib.hid (by
          have h3 := HO3.out
          rw [if_neg] at h3
          · exact h3
          · rw [Bool.false_or]
            intro h4
            obtain ⟨y, hy, h5⟩ := List.any_eq_true.1 h4
            rw [HALL.out y (by rw [List.take_of_length_le (by rw [HNN.out]; exact Nat.le_refl _)]; exact hy)] at h5
            simp at h5)
        have T3 := Lib.hid (T2.out.bel HBL.out)
        have HB3 := Lib.hid (HB2.out.trans HBL.out)
        clear HO3 HALL T2 HB2 HBL hlt HRN
        obtain ⟨wa, rfl⟩ : ∃ W, W = wr := ⟨_, rfl⟩
        go_wp2_with fail
        clear d2
        go_loopw [6] (fun i wr' => ∃ j' : Nat, j' ≤ j ∧ i = .int .i64 j' ∧ Bel wa wr' ∧ (ns.take j').Nodup) (fun i _ => j - (intOf i).toNat)
        case atStart => exact ⟨0, Nat.zero_le _, rfl, Bel.refl _, by rw [List.take_zero]; exact List.nodup_nil⟩
        case round =>
          obtain ⟨i, hi, rfl, hbel, hnd⟩ := hrel
          have d2 : wr.cell? ⟨w.heap.size, 2, none⟩ = some (.slice na j nc) := hbel.keep (T3.out.at 2)
          have HBL := Lib.hid hbel
          have HND := Lib.hid hnd
          clear hbel hnd
          by_cases hlt : i < j
          · have hlti : (i : Int) < j := by omega
            obtain ⟨x, hx⟩ : ∃ x, ns[i]? = some x := ⟨_, List.getElem?_eq_getElem (by have := HNN.out; omega)⟩
            obtain ⟨b, off, rfl, g0⟩ := NS.out i x hx
            have f0 := (HB3.out.trans HBL.out).keep g0
            have HA := Lib.hid (fun W (hW : Bel w W) => HAM.out i x (by omega) W hW)
            have HS := Lib.hid (nodup_take_succ ns i x hx)
            have HX := Lib.hid hx
            obtain ⟨y, hy⟩ : ∃ y, decide (x ∈ ns.take i) = y := ⟨_, rfl⟩
            rw [hy] at HA
            have HY := Lib.hid hy
            clear hx g0 hy
            go_wp2_with fail
            have g1 : (0 : Int) ≤ i := by omega
            have g2 : (i : Int) ≤ nc := by omega
            have g3 : i ≤ nc := by omega
            go_region_held3 (fun w' => w'.cell? ⟨w.heap.size, 2, none⟩ = some (.slice (some ⟨b, off, none⟩) j nc) ∧ w'.cell? ⟨b, off + i, none⟩ = some (.string x) ∧ Bel wr w') (((try dsimp only); (try go_split_ands); (refine ⟨?_, ?_, ?_⟩ <;> first | assumption | exact Bel.keep (by assumption) (by assumption) | ((repeat (first | exact Bel.refl _ | assumption | refine Bel.to_drewN ?_ _ | refine Bel.to_drew ?_ | refine Bel.to_setCell ?_ (by first | exact Nat.le_refl _ | (simp; done) | (simp; omega) | omega) _ | refine Bel.to_alloc ?_ _ | refine Bel.trans ?_ (by assumption))); done) | (go_keep; done))))
              ((go_at_call 33; refine (HA.out _ (HB3.out.trans (HBL.out.trans (by (repeat (first | exact Bel.refl _ | assumption | refine Bel.to_drewN ?_ _ | refine Bel.to_drew ?_ | refine Bel.to_setCell ?_ (by first | exact Nat.le_refl _ | (simp; done) | (simp; omega) | omega) _ | refine Bel.to_alloc ?_ _ | refine Bel.trans ?_ (by assumption))))))).mono ?_; rintro e4 w4 ⟨rfl, hb4⟩))
            go_split_ands
            have HB4 : Hid (Bel wr w4) := Lib.hid (by assumption)
            cases y with
            | true =>
              have h2 : R = 8 := by
                have h3 := HO4.out
                rw [if_pos (fun h => by
                  have h5 := (HS.out.1 (nodup_take ns _ h)).2
                  have := HY.out
                  simp at this
                  exact h5 this)] at h3
                have := HRR.out
                rw [← h3] at this
                simpa using this.symm
              subst h2
              clear HO4 HRR
              go_wp2_with fail
              go_ret
              exact ⟨rfl, HB3.out.trans (HBL.out.trans HB4.out)⟩
            | false =>
              go_wp2_with fail
              exact ⟨⟨i + 1, by omega, by go_num, HBL.out.trans HB4.out, HS.out.2 ⟨HND.out, by have := HY.out; simpa using this⟩⟩, by simp [intOf]; omega⟩
          · obtain rfl : i = j := by omega
            have HO5 : Hid ((if k = 1 ∧ ck < s.size then 4 else 0) = o) := Lib.hid (by
              have h3 := HO4.out
              rw [if_neg (by simp; have := HND.out; rwa [List.take_of_length_le (by rw [HNN.out]; exact Nat.le_refl _)] at this)] at h3
              exact h3)
            have T4 := Lib.hid (T3.out.bel HBL.out)
            have HB4 := Lib.hid (HB3.out.trans HBL.out)
            clear HO4 HND T3 HB3 HBL hlt d2
            have d0 := T4.out.at 0
            have d1 := T4.out.at 1
            have d2 := T4.out.at 2
            have d3 := T4.out.at 3
            go_upto_region 17 with fail
            go_cut [73] (fun v wz => v = .bool (decide (k = 1 ∧ ck < s.size)) ∧ Bel wr wz)
            case first =>
              by_cases h1 : k = 1
              · subst h1
                refine wp_region_held_drew (S := fun w' => w'.cell? ⟨w.heap.size, 0, none⟩ = some (.int .i64 1) ∧ w'.cell? ⟨w.heap.size, 1, none⟩ = some (.string s) ∧ Bel wr w') (by kernel_rfl) ⟨by go_simp, by go_simp, by (repeat (first | exact Bel.refl _ | assumption | refine Bel.to_drewN ?_ _ | refine Bel.to_drew ?_ | refine Bel.to_setCell ?_ (by first | exact Nat.le_refl _ | (simp; done) | (simp; omega) | omega) _ | refine Bel.to_alloc ?_ _ | refine Bel.trans ?_ (by assumption)))⟩ (fun hHeld => ?_)
                refine wpAnyH_take (i := 0) (oi := _) (v := ?_) rfl (by kernel_rfl) (by kernel_rfl) (by kernel_rfl) (fun _ _ _ h => h) ?_ (by assumption) ?_
                rotate_left 1
                · first
                    | (refine Or.inl ⟨by rfl, ?_⟩; intro w9 hSw; (try dsimp only at hSw); go_simp; (try with_reducible rfl); done)
                    | (refine Or.inr ⟨by rfl, ?_⟩; rfl)
                simp only [List.getElem_toArray, List.getElem_cons_zero, Act.put, List.setIfInBounds_toArray, List.set_cons_zero, List.set_cons_succ]
                refine wpAnyH_take (i := 1) (oi := _) (v := ?_) rfl (by kernel_rfl) (by kernel_rfl) (by kernel_rfl) (fun _ _ _ h => h) ?_ (by assumption) ?_
                rotate_left 1
                · first
                    | (refine Or.inl ⟨by rfl, ?_⟩; intro w9 hSw; (try dsimp only at hSw); go_simp; (try with_reducible rfl); done)
                    | (refine Or.inr ⟨by rfl, ?_⟩; rfl)
                simp only [List.getElem_toArray, List.getElem_cons_succ, List.getElem_cons_zero, Act.put, List.setIfInBounds_toArray, List.set_cons_zero, List.set_cons_succ]
                refine wpAnyH_take (i := 2) (oi := _) (v := ?_) rfl (by kernel_rfl) (by kernel_rfl) (by kernel_rfl) (fun _ _ _ h => h) ?_ (by assumption) ?_
                rotate_left 1
                · first
                    | (refine Or.inl ⟨by rfl, ?_⟩; intro w9 hSw; (try dsimp only at hSw); go_simp; (try with_reducible rfl); done)
                    | (refine Or.inr ⟨by rfl, ?_⟩; rfl)
                simp only [List.getElem_toArray, List.getElem_cons_succ, List.getElem_cons_zero, Act.put, List.setIfInBounds_toArray, List.set_cons_zero, List.set_cons_succ]
                refine wpAnyH_take (i := 3) (oi := _) (v := ?_) rfl (by kernel_rfl) (by kernel_rfl) (by kernel_rfl) (fun _ _ _ h => h) ?_ (by assumption) ?_
                rotate_left 1
                · first
                    | (refine Or.inl ⟨by rfl, ?_⟩; intro w9 hSw; (try dsimp only at hSw); go_simp; (try with_reducible rfl); done)
                    | (refine Or.inr ⟨by rfl, ?_⟩; rfl)
                simp only [List.getElem_toArray, List.getElem_cons_succ, List.getElem_cons_zero, Act.put, List.setIfInBounds_toArray, List.set_cons_zero, List.set_cons_succ]
                refine wpAnyH_take (i := 4) (oi := _) (v := ?_) rfl (by kernel_rfl) (by kernel_rfl) (by kernel_rfl) (fun _ _ _ h => h) ?_ (by assumption) ?_
                rotate_left 1
                · first
                    | (refine Or.inl ⟨by rfl, ?_⟩; intro w9 hSw; (try dsimp only at hSw); go_simp; (try with_reducible rfl); done)
                    | (refine Or.inr ⟨by rfl, ?_⟩; rfl)
                simp only [List.getElem_toArray, List.getElem_cons_succ, List.getElem_cons_zero, Act.put, List.setIfInBounds_toArray, List.set_cons_zero, List.set_cons_succ]
                refine wpAnyH_take (i := 5) (oi := _) (v := ?_) rfl (by kernel_rfl) (by kernel_rfl) (by kernel_rfl) (fun _ _ _ h => h) ?_ (by assumption) ?_
                rotate_left 1
                · first
                    | (refine Or.inl ⟨by rfl, ?_⟩; intro w9 hSw; (try dsimp only at hSw); go_simp; (try with_reducible rfl); done)
                    | (refine Or.inr ⟨by rfl, ?_⟩; rfl)
                simp only [List.getElem_toArray, List.getElem_cons_succ, List.getElem_cons_zero, Act.put, List.setIfInBounds_toArray, List.set_cons_zero, List.set_cons_succ]
                refine wpAnyH_take (i := 8) (oi := _) (v := ?_) rfl (by kernel_rfl) (by kernel_rfl) (by kernel_rfl) (fun _ _ _ h => h) ?_ (by assumption) ?_
                rotate_left 1
                · first
                    | (refine Or.inl ⟨by rfl, ?_⟩; intro w9 hSw; (try dsimp only at hSw); go_simp; (try with_reducible rfl); done)
                    | (refine Or.inr ⟨by rfl, ?_⟩; rfl)
                simp only [List.getElem_toArray, List.getElem_cons_succ, List.getElem_cons_zero, Act.put, List.setIfInBounds_toArray, List.set_cons_zero, List.set_cons_succ]
                refine wpAnyH_take (i := 9) (oi := _) (v := ?_) rfl (by kernel_rfl) (by kernel_rfl) (by kernel_rfl) (fun _ _ _ h => h) ?_ (by assumption) ?_
                rotate_left 1
                · first
                    | (refine Or.inl ⟨by rfl, ?_⟩; intro w9 hSw; (try dsimp only at hSw); go_simp; (try with_reducible rfl); done)
                    | (refine Or.inr ⟨by rfl, ?_⟩; rfl)
                simp only [List.getElem_toArray, List.getElem_cons_succ, List.getElem_cons_zero, Act.put, List.setIfInBounds_toArray, List.set_cons_zero, List.set_cons_succ]
                refine wpAnyH_take (i := 10) (oi := _) (v := ?_) rfl (by kernel_rfl) (by kernel_rfl) (by kernel_rfl) (fun _ _ _ h => h) ?_ (by assumption) ?_
                rotate_left 1
                · first
                    | (refine Or.inl ⟨by rfl, ?_⟩; intro w9 hSw; (try dsimp only at hSw); go_simp; (try with_reducible rfl); done)
                    | (refine Or.inr ⟨by rfl, ?_⟩; rfl)
                simp only [List.getElem_toArray, List.getElem_cons_succ, List.getElem_cons_zero, Act.put, List.setIfInBounds_toArray, List.set_cons_zero, List.set_cons_succ]
                refine wpAnyH_ready (rs := [6]) (by kernel_rfl) (by simp) ?_
                refine AllReadyH.cons (o := _) rfl (fun K hK => ?_) AllReadyH.nil
                go_simp
                refine upon_bytes s (fun v W3 hv hb3 => ?_)
                have HV := Lib.hid hv
                obtain ⟨vb, vo, vc, rfl, hvl, hvc, hvk⟩ := hv
                go_simp
                refine hK.out _ _ ⟨hb3.keep hHeld.1, hb3.keep hHeld.2.1, hHeld.2.2.trans hb3⟩ (fun hHeld => ?_)
                clear hK K hvc hb3
                refine wpAnyH_ready (rs := [7]) (by kernel_rfl) (by simp) ?_
                refine AllReadyH.cons (o := _) rfl (fun K hK => ?_) AllReadyH.nil
                go_simp
                go_at_call 34
                refine (HCK.out _ _ HV.out).mono ?_
                rintro e5 w5 ⟨rfl, hb5⟩
                dsimp only
                refine hK.out _ _ ⟨hb5.keep hHeld.1, hb5.keep hHeld.2.1, hHeld.2.2.trans hb5⟩ (fun hHeld => ?_)
                clear hK K
                refine wpAnyH_take (i := 11) (oi := _) (v := ?_) rfl (by kernel_rfl) (by kernel_rfl) (by kernel_rfl) (fun _ _ _ h => h) ?_ (by assumption) ?_
                rotate_left 1
                · first
                    | (refine Or.inl ⟨by rfl, ?_⟩; intro w9 hSw; (try dsimp only at hSw); go_simp; (try with_reducible rfl); done)
                    | (refine Or.inr ⟨by rfl, ?_⟩; rfl)
                simp only [List.getElem_toArray, List.getElem_cons_succ, List.getElem_cons_zero, Act.put, List.setIfInBounds_toArray, List.set_cons_zero, List.set_cons_succ]
                refine wpAnyH_take (i := 12) (oi := _) (v := ?_) rfl (by kernel_rfl) (by kernel_rfl) (by kernel_rfl) (fun _ _ _ h => h) ?_ (by assumption) ?_
                rotate_left 1
                · first
                    | (refine Or.inl ⟨by rfl, ?_⟩; intro w9 hSw; (try dsimp only at hSw); go_simp; (try with_reducible rfl); done)
                    | (refine Or.inr ⟨by rfl, ?_⟩; rfl)
                simp only [List.getElem_toArray, List.getElem_cons_succ, List.getElem_cons_zero, Act.put, List.setIfInBounds_toArray, List.set_cons_zero, List.set_cons_succ]
                refine wpAnyH_done (by kernel_rfl) ?_ _
                go_wp2_with fail
                go_meet
                exact ⟨bool_eq (by simp), hHeld.2.2⟩
              · have e1 : (k == 1) = false := by simpa using h1
                refine wp_region_held_drew (S := fun w' => w'.cell? ⟨w.heap.size, 0, none⟩ = some (.int .i64 k) ∧ Bel wr w') (by kernel_rfl) ⟨by go_simp, by (repeat (first | exact Bel.refl _ | assumption | refine Bel.to_drewN ?_ _ | refine Bel.to_drew ?_ | refine Bel.to_setCell ?_ (by first | exact Nat.le_refl _ | (simp; done) | (simp; omega) | omega) _ | refine Bel.to_alloc ?_ _ | refine Bel.trans ?_ (by assumption)))⟩ (fun hHeld => ?_)
                refine wpAnyH_take (i := 0) (oi := _) (v := ?_) rfl (by kernel_rfl) (by kernel_rfl) (by kernel_rfl) (fun _ _ _ h => h) ?_ (by assumption) ?_
                rotate_left 1
                · first
                    | (refine Or.inl ⟨by rfl, ?_⟩; intro w9 hSw; (try dsimp only at hSw); go_simp; (try with_reducible rfl); done)
                    | (refine Or.inr ⟨by rfl, ?_⟩; rfl)
                simp only [List.getElem_toArray, List.getElem_cons_zero, Act.put, List.setIfInBounds_toArray, List.set_cons_zero, List.set_cons_succ]
                refine wpAnyH_take (i := 1) (oi := _) (v := ?_) rfl (by kernel_rfl) (by kernel_rfl) (by kernel_rfl) (fun _ _ _ h => h) ?_ (by assumption) ?_
                rotate_left 1
                · first
                    | (refine Or.inl ⟨by rfl, ?_⟩; intro w9 hSw; (try dsimp only at hSw); go_simp; (try with_reducible rfl); done)
                    | (refine Or.inr ⟨by rfl, ?_⟩; rfl)
                simp only [List.getElem_toArray, List.getElem_cons_succ, List.getElem_cons_zero, Act.put, List.setIfInBounds_toArray, List.set_cons_zero, List.set_cons_succ]
                refine wpAnyH_take (i := 2) (oi := _) (v := ?_) rfl (by kernel_rfl) (by kernel_rfl) (by kernel_rfl) (fun _ _ _ h => h) ?_ (by assumption) ?_
                rotate_left 1
                · first
                    | (refine Or.inl ⟨by rfl, ?_⟩; intro w9 hSw; (try dsimp only at hSw); go_simp; (try with_reducible rfl); done)
                    | (refine Or.inr ⟨by rfl, ?_⟩; rfl)
                simp only [List.getElem_toArray, List.getElem_cons_succ, List.getElem_cons_zero, Act.put, List.setIfInBounds_toArray, List.set_cons_zero, List.set_cons_succ]
                refine wpAnyH_take (i := 3) (oi := _) (v := ?_) rfl (by kernel_rfl) (by kernel_rfl) (by kernel_rfl) (fun _ _ _ h => h) ?_ (by assumption) ?_
                rotate_left 1
                · first
                    | (refine Or.inl ⟨by rfl, ?_⟩; intro w9 hSw; (try dsimp only at hSw); go_simp; (try with_reducible rfl); done)
                    | (refine Or.inr ⟨by rfl, ?_⟩; rfl)
                simp only [List.getElem_toArray, List.getElem_cons_succ, List.getElem_cons_zero, Act.put, List.setIfInBounds_toArray, List.set_cons_zero, List.set_cons_succ]
                refine wpAnyH_take (i := 4) (oi := _) (v := ?_) rfl (by kernel_rfl) (by kernel_rfl) (by kernel_rfl) (fun _ _ _ h => h) ?_ (by assumption) ?_
                rotate_left 1
                · first
                    | (refine Or.inl ⟨by rfl, ?_⟩; intro w9 hSw; (try dsimp only at hSw); go_simp; (try with_reducible rfl); done)
                    | (refine Or.inr ⟨by rfl, ?_⟩; rfl)
                simp only [List.getElem_toArray, List.getElem_cons_succ, List.getElem_cons_zero, Act.put, List.setIfInBounds_toArray, List.set_cons_zero, List.set_cons_succ]
                refine wpAnyH_take (i := 5) (oi := _) (v := ?_) rfl (by kernel_rfl) (by kernel_rfl) (by kernel_rfl) (fun _ _ _ h => h) ?_ (by assumption) ?_
                rotate_left 1
                · first
                    | (refine Or.inl ⟨by rfl, ?_⟩; intro w9 hSw; (try dsimp only at hSw); go_simp; (try with_reducible rfl); done)
                    | (refine Or.inr ⟨by rfl, ?_⟩; rfl)
                simp only [List.getElem_toArray, List.getElem_cons_succ, List.getElem_cons_zero, Act.put, List.setIfInBounds_toArray, List.set_cons_zero, List.set_cons_succ]
                refine wpAnyH_take (i := 6) (oi := _) (v := ?_) rfl (by kernel_rfl) (by kernel_rfl) (by kernel_rfl) (fun _ _ _ h => h) ?_ (by assumption) ?_
                rotate_left 1
                · first
                    | (refine Or.inl ⟨by rfl, ?_⟩; intro w9 hSw; (try dsimp only at hSw); go_simp; (try with_reducible rfl); done)
                    | (refine Or.inr ⟨by rfl, ?_⟩; rfl)
                simp only [List.getElem_toArray, List.getElem_cons_succ, List.getElem_cons_zero, Act.put, List.setIfInBounds_toArray, List.set_cons_zero, List.set_cons_succ]
                refine wpAnyH_take (i := 7) (oi := _) (v := ?_) rfl (by kernel_rfl) (by kernel_rfl) (by kernel_rfl) (fun _ _ _ h => h) ?_ (by assumption) ?_
                rotate_left 1
                · first
                    | (refine Or.inl ⟨by rfl, ?_⟩; intro w9 hSw; (try dsimp only at hSw); go_simp; (try with_reducible rfl); done)
                    | (refine Or.inr ⟨by rfl, ?_⟩; rfl)
                simp only [List.getElem_toArray, List.getElem_cons_succ, List.getElem_cons_zero, Act.put, List.setIfInBounds_toArray, List.set_cons_zero, List.set_cons_succ]
                refine wpAnyH_take (i := 8) (oi := _) (v := ?_) rfl (by kernel_rfl) (by kernel_rfl) (by kernel_rfl) (fun _ _ _ h => h) ?_ (by assumption) ?_
                rotate_left 1
                · first
                    | (refine Or.inl ⟨by rfl, ?_⟩; intro w9 hSw; (try dsimp only at hSw); go_simp; (try with_reducible rfl); done)
                    | (refine Or.inr ⟨by rfl, ?_⟩; rfl)
                simp only [List.getElem_toArray, List.getElem_cons_succ, List.getElem_cons_zero, Act.put, List.setIfInBounds_toArray, List.set_cons_zero, List.set_cons_succ]
                refine wpAnyH_take (i := 9) (oi := _) (v := ?_) rfl (by kernel_rfl) (by kernel_rfl) (by kernel_rfl) (fun _ _ _ h => h) ?_ (by assumption) ?_
                rotate_left 1
                · first
                    | (refine Or.inl ⟨by rfl, ?_⟩; intro w9 hSw; (try dsimp only at hSw); go_simp; (try with_reducible rfl); done)
                    | (refine Or.inr ⟨by rfl, ?_⟩; rfl)
                simp only [List.getElem_toArray, List.getElem_cons_succ, List.getElem_cons_zero, Act.put, List.setIfInBounds_toArray, List.set_cons_zero, List.set_cons_succ]
                refine wpAnyH_take (i := 10) (oi := _) (v := ?_) rfl (by kernel_rfl) (by kernel_rfl) (by kernel_rfl) (fun _ _ _ h => h) ?_ (by assumption) ?_
                rotate_left 1
                · first
                    | (refine Or.inl ⟨by rfl, ?_⟩; intro w9 hSw; (try dsimp only at hSw); go_simp; (try with_reducible rfl); done)
                    | (refine Or.inr ⟨by rfl, ?_⟩; rfl)
                simp only [List.getElem_toArray, List.getElem_cons_succ, List.getElem_cons_zero, Act.put, List.setIfInBounds_toArray, List.set_cons_zero, List.set_cons_succ]
                refine wpAnyH_take (i := 11) (oi := _) (v := ?_) rfl (by kernel_rfl) (by kernel_rfl) (by kernel_rfl) (fun _ _ _ h => h) ?_ (by assumption) ?_
                rotate_left 1
                · first
                    | (refine Or.inl ⟨by rfl, ?_⟩; intro w9 hSw; (try dsimp only at hSw); go_simp; (try with_reducible rfl); done)
                    | (refine Or.inr ⟨by rfl, ?_⟩; rfl)
                simp only [List.getElem_toArray, List.getElem_cons_succ, List.getElem_cons_zero, Act.put, List.setIfInBounds_toArray, List.set_cons_zero, List.set_cons_succ]
                refine wpAnyH_take (i := 12) (oi := _) (v := ?_) rfl (by kernel_rfl) (by kernel_rfl) (by kernel_rfl) (fun _ _ _ h => h) ?_ (by assumption) ?_
                rotate_left 1
                · first
                    | (refine Or.inl ⟨by rfl, ?_⟩; intro w9 hSw; (try dsimp only at hSw); go_simp; (try with_reducible rfl); done)
                    | (refine Or.inr ⟨by rfl, ?_⟩; rfl)
                simp only [List.getElem_toArray, List.getElem_cons_succ, List.getElem_cons_zero, Act.put, List.setIfInBounds_toArray, List.set_cons_zero, List.set_cons_succ]
                refine wpAnyH_done (by kernel_rfl) ?_ _
                go_wp2_with fail
                go_meet
                exact ⟨bool_eq (by simp [h1]), hHeld.2⟩
            case rest =>
            obtain ⟨rfl, hbc⟩ := hcut
            obtain ⟨Q, hQ⟩ : ∃ Q, decide (k = 1 ∧ ck < s.size) = Q := ⟨_, rfl⟩
            rw [hQ]
            have HO6 : Hid ((if Q = true then 4 else 0) = o) := Lib.hid (by rw [← hQ]; have := HO5.out; simpa using this)
            generalize wc = w3 at hbc ⊢
            have T5 := Lib.hid (T4.out.bel hbc)
            have HB5 := Lib.hid (HB4.out.trans hbc)
            clear hQ HO5 d0 d1 d2 d3 hbc T4 HB4
            cases Q with
            | true =>
              have h2 : R = 4 := by
                have h3 := HO6.out
                rw [if_pos rfl] at h3
                have := HRR.out
                rw [← h3] at this
                simpa using this.symm
              subst h2
              clear HO6 HRR
              go_wp2_with fail
              go_ret
              exact ⟨rfl, HB5.out⟩
            | false =>
            obtain ⟨b7, hb7⟩ : ∃ b, (k == 7) = b := ⟨_, rfl⟩
            have HR2 : Hid (checksE b7 0 l = R) := Lib.hid (by
              have h3 := HO6.out
              rw [if_neg (by simp)] at h3
              have h4 := HRR.out
              rw [if_pos h3.symm] at h4
              rw [← h4, ← hb7]
              congr 1)
            clear HO6 HRR
            go_wp2_with fail
            go_loopw [7] (fun q wr' => ∃ j : Nat, j ≤ m ∧ q = .int .i64 j ∧ Bel w3 wr' ∧ checksE b7 j (l.drop j) = R) (fun q _ => m - (intOf q).toNat)
            case atStart => exact ⟨0, Nat.zero_le _, rfl, Bel.refl _, HR2.out⟩
            case round =>
              obtain ⟨j, hj, rfl, hbel, hck⟩ := hrel
              have c3 : wr.cell? ⟨w.heap.size, 3, none⟩ = some (.slice la m lc) := hbel.keep (T5.out.at 3)
              have c0 : wr.cell? ⟨w.heap.size, 0, none⟩ = some (.int .i64 k) := hbel.keep (T5.out.at 0)
              by_cases hlt : j < m
              · have hlti : (j : Int) < m := by omega
                obtain ⟨x, hx⟩ : ∃ x, l[j]? = some x := ⟨_, List.getElem?_eq_getElem (by have := HM.out; omega)⟩
                obtain ⟨b, off, xna, xnn, xnc, xla, xln, xlc, rfl, g0, g1, g2, g3, hxa⟩ := PS.out j x hx
                have f0 := (HB5.out.trans hbel).keep g0
                have f1 := (HB5.out.trans hbel).keep g1
                have f2 := (HB5.out.trans hbel).keep g2
                have f3 := (HB5.out.trans hbel).keep g3
                rw [checksE_drop b7 l j x hx] at hck
                obtain ⟨bj, hbj⟩ : ∃ b, ((j : Int) == 1) = b := ⟨_, rfl⟩
                rw [show (j == 1) = bj from by rw [← hbj, Bool.eq_iff_iff]; simp; omega] at hck
                obtain ⟨c, hc⟩ : ∃ c, checkE x (b7 && bj) = c := ⟨_, rfl⟩
                rw [hc] at hck
                have HC2 : Hid (∀ W, Bel wr W → Calls Tryz.prog 25 #[.agg #[.int .i64 x.k, .string x.s, .slice xna xnn xnc, .slice xla xln xlc], .bool (b7 && bj)] W (RetBel (.int .i64 c) W)) := Lib.hid (fun W hW => by have := HIH.out x (HPT.out j x hx) (.slice xna xnn xnc) (.slice xla xln xlc) (b7 && bj) W (ExAt.bel (HB5.out.trans (hbel.trans hW)) x hxa); rw [hc] at this; exact this)
                have HCK := Lib.hid hck
                have HB := Lib.hid hbel
                clear g0 g1 g2 g3 hxa hx hck hc hbel
                go_wp2_with fail
                refine wp_region_held_drew (S := fun w' => w'.cell? ⟨w.heap.size, 3, none⟩ = some (.slice (some ⟨b, off, none⟩) m lc) ∧ w'.cell? ⟨w.heap.size, 0, none⟩ = some (.int .i64 k) ∧ w'.cell? ⟨b, off + j * 4, none⟩ = some (.int .i64 x.k) ∧ w'.cell? ⟨b, off + j * 4 + 1, none⟩ = some (.string x.s) ∧ w'.cell? ⟨b, off + j * 4 + 2, none⟩ = some (.slice xna xnn xnc) ∧ w'.cell? ⟨b, off + j * 4 + 3, none⟩ = some (.slice xla xln xlc) ∧ Bel wr w') (by kernel_rfl) ⟨by go_simp, by go_simp, by go_simp, by go_simp, by go_simp, by go_simp, by (repeat (first | exact Bel.refl _ | assumption | refine Bel.to_drewN ?_ _ | refine Bel.to_drew ?_ | refine Bel.to_setCell ?_ (by first | exact Nat.le_refl _ | (simp; done) | (simp; omega) | omega) _ | refine Bel.to_alloc ?_ _ | refine Bel.trans ?_ (by assumption)))⟩ (fun hHeld => ?_)
                cases b7 with
                | true =>
                  refine wpAnyH_take (i := 0) (oi := _) (v := ?_) rfl (by kernel_rfl) (by kernel_rfl) (by kernel_rfl) (fun _ _ _ h => h) ?_ (by assumption) ?_
                  rotate_left 1
                  · first
                      | (refine Or.inl ⟨by rfl, ?_⟩; intro w9 hSw; (try dsimp only at hSw); go_simp; (try with_reducible rfl); done)
                      | (refine Or.inr ⟨by rfl, ?_⟩; rfl)
                  simp only [List.getElem_toArray, List.getElem_cons_zero, Act.put, List.setIfInBounds_toArray, List.set_cons_zero, List.set_cons_succ]
                  refine wpAnyH_take (i := 1) (oi := _) (v := ?_) rfl (by kernel_rfl) (by kernel_rfl) (by kernel_rfl) (fun _ _ _ h => h) ?_ (by assumption) ?_
                  rotate_left 1
                  · first
                      | (refine Or.inl ⟨by rfl, ?_⟩; intro w9 hSw; (try dsimp only at hSw); go_simp; (try with_reducible rfl); done)
                      | (refine Or.inr ⟨by rfl, ?_⟩; rfl)
                  simp only [List.getElem_toArray, List.getElem_cons_succ, List.getElem_cons_zero, Act.put, List.setIfInBounds_toArray, List.set_cons_zero, List.set_cons_succ]
                  refine wpAnyH_take (i := 2) (oi := _) (v := ?_) rfl (by kernel_rfl) (by kernel_rfl) (by kernel_rfl) (fun _ _ _ h => h) ?_ (by assumption) ?_
                  rotate_left 1
                  · first
                      | (refine Or.inl ⟨by rfl, ?_⟩; intro w9 hSw; (try dsimp only at hSw); go_simp; (try with_reducible rfl); done)
                      | (refine Or.inr ⟨by rfl, ?_⟩; rfl)
                  simp only [List.getElem_toArray, List.getElem_cons_succ, List.getElem_cons_zero, Act.put, List.setIfInBounds_toArray, List.set_cons_zero, List.set_cons_succ]
                  refine wpAnyH_take (i := 3) (oi := _) (v := ?_) rfl (by kernel_rfl) (by kernel_rfl) (by kernel_rfl) (fun _ _ _ h => h) ?_ (by assumption) ?_
                  rotate_left 1
                  · first
                      | (refine Or.inl ⟨by rfl, ?_⟩; intro w9 hSw; (try dsimp only at hSw); go_simp; (try with_reducible rfl); done)
                      | (refine Or.inr ⟨by rfl, ?_⟩; rfl)
                  simp only [List.getElem_toArray, List.getElem_cons_succ, List.getElem_cons_zero, Act.put, List.setIfInBounds_toArray, List.set_cons_zero, List.set_cons_succ]
                  refine wpAnyH_take (i := 4) (oi := _) (v := ?_) rfl (by kernel_rfl) (by kernel_rfl) (by kernel_rfl) (fun _ _ _ h => h) ?_ (by assumption) ?_
                  rotate_left 1
                  · first
                      | (refine Or.inl ⟨by rfl, ?_⟩; intro w9 hSw; (try dsimp only at hSw); go_simp; (try with_reducible rfl); done)
                      | (refine Or.inr ⟨by rfl, ?_⟩; rfl)
                  simp only [List.getElem_toArray, List.getElem_cons_succ, List.getElem_cons_zero, Act.put, List.setIfInBounds_toArray, List.set_cons_zero, List.set_cons_succ]
                  refine wpAnyH_take (i := 5) (oi := _) (v := ?_) rfl (by kernel_rfl) (by kernel_rfl) (by kernel_rfl) (fun _ _ _ h => h) ?_ (by assumption) ?_
                  rotate_left 1
                  · first
                      | (refine Or.inl ⟨by rfl, ?_⟩; intro w9 hSw; (try dsimp only at hSw); go_simp; (try with_reducible rfl); done)
                      | (refine Or.inr ⟨by rfl, ?_⟩; rfl)
                  simp only [List.getElem_toArray, List.getElem_cons_succ, List.getElem_cons_zero, Act.put, List.setIfInBounds_toArray, List.set_cons_zero, List.set_cons_succ]
                  refine wpAnyH_take (i := 6) (oi := _) (v := ?_) rfl (by kernel_rfl) (by kernel_rfl) (by kernel_rfl) (fun _ _ _ h => h) ?_ (by assumption) ?_
                  rotate_left 1
                  · first
                      | (refine Or.inl ⟨by rfl, ?_⟩; intro w9 hSw; (try dsimp only at hSw); go_simp; (try with_reducible rfl); done)
                      | (refine Or.inr ⟨by rfl, ?_⟩; rfl)
                  simp only [List.getElem_toArray, List.getElem_cons_succ, List.getElem_cons_zero, Act.put, List.setIfInBounds_toArray, List.set_cons_zero, List.set_cons_succ]
                  refine wpAnyH_take (i := 7) (oi := _) (v := ?_) rfl (by kernel_rfl) (by kernel_rfl) (by kernel_rfl) (fun _ _ _ h => h) ?_ (by assumption) ?_
                  rotate_left 1
                  · first
                      | (refine Or.inl ⟨by rfl, ?_⟩; intro w9 hSw; (try dsimp only at hSw); go_simp; (try with_reducible rfl); done)
                      | (refine Or.inr ⟨by rfl, ?_⟩; rfl)
                  simp only [List.getElem_toArray, List.getElem_cons_succ, List.getElem_cons_zero, Act.put, List.setIfInBounds_toArray, List.set_cons_zero, List.set_cons_succ]
                  refine wpAnyH_take (i := 8) (oi := _) (v := ?_) rfl (by kernel_rfl) (by kernel_rfl) (by kernel_rfl) (fun _ _ _ h => h) ?_ (by assumption) ?_
                  rotate_left 1
                  · first
                      | (refine Or.inl ⟨by rfl, ?_⟩; intro w9 hSw; (try dsimp only at hSw); go_simp; (try with_reducible rfl); done)
                      | (refine Or.inr ⟨by rfl, ?_⟩; rfl)
                  simp only [List.getElem_toArray, List.getElem_cons_succ, List.getElem_cons_zero, Act.put, List.setIfInBounds_toArray, List.set_cons_zero, List.set_cons_succ]
                  refine wpAnyH_take (i := 9) (oi := _) (v := ?_) rfl (by kernel_rfl) (by kernel_rfl) (by kernel_rfl) (fun _ _ _ h => h) ?_ (by assumption) ?_
                  rotate_left 1
                  · first
                      | (refine Or.inl ⟨by rfl, ?_⟩; intro w9 hSw; (try dsimp only at hSw); go_simp; (try with_reducible rfl); done)
                      | (refine Or.inr ⟨by rfl, ?_⟩; rfl)
                  simp only [List.getElem_toArray, List.getElem_cons_succ, List.getElem_cons_zero, Act.put, List.setIfInBounds_toArray, List.set_cons_zero, List.set_cons_succ]
                  refine wpAnyH_take (i := 10) (oi := _) (v := ?_) rfl (by kernel_rfl) (by kernel_rfl) (by kernel_rfl) (fun _ _ _ h => h) ?_ (by assumption) ?_
                  rotate_left 1
                  · first
                      | (refine Or.inl ⟨by rfl, ?_⟩; intro w9 hSw; (try dsimp only at hSw); go_simp; (try with_reducible rfl); done)
                      | (refine Or.inr ⟨by rfl, ?_⟩; rfl)
                  simp only [List.getElem_toArray, List.getElem_cons_succ, List.getElem_cons_zero, Act.put, List.setIfInBounds_toArray, List.set_cons_zero, List.set_cons_succ]
                  refine wpAnyH_take (i := 11) (oi := _) (v := ?_) rfl (by kernel_rfl) (by kernel_rfl) (by kernel_rfl) (fun _ _ _ h => h) ?_ (by assumption) ?_
                  rotate_left 1
                  · first
                      | (refine Or.inl ⟨by rfl, ?_⟩; intro w9 hSw; (try dsimp only at hSw); go_simp; (try with_reducible rfl); done)
                      | (refine Or.inr ⟨by rfl, ?_⟩; rfl)
                  simp only [List.getElem_toArray, List.getElem_cons_succ, List.getElem_cons_zero, Act.put, List.setIfInBounds_toArray, List.set_cons_zero, List.set_cons_succ]
                  refine wpAnyH_ready (rs := [12]) (by kernel_rfl) (by simp) ?_
                  refine AllReadyH.cons (o := _) rfl (fun K hK => ?_) AllReadyH.nil
                  go_simp
                  go_at_call 25
                  refine (HC2.out _ hHeld.2.2.2.2.2.2).mono ?_
                  rintro e6 w6 ⟨rfl, hb6⟩
                  dsimp only
                  have hHeld2 := hHeld.2.2.2.2.2.2.trans hb6
                  refine hK.out _ _ ⟨hb6.keep hHeld.1, hb6.keep hHeld.2.1, hb6.keep hHeld.2.2.1, hb6.keep hHeld.2.2.2.1, hb6.keep hHeld.2.2.2.2.1, hb6.keep hHeld.2.2.2.2.2.1, hHeld2⟩ (fun hHeld => ?_)
                  clear hK K
                  refine wpAnyH_take (i := 13) (oi := _) (v := ?_) rfl (by kernel_rfl) (by kernel_rfl) (by kernel_rfl) (fun _ _ _ h => h) ?_ (by assumption) ?_
                  rotate_left 1
                  · first
                      | (refine Or.inl ⟨by rfl, ?_⟩; intro w9 hSw; (try dsimp only at hSw); go_simp; (try with_reducible rfl); done)
                      | (refine Or.inr ⟨by rfl, ?_⟩; rfl)
                  simp only [List.getElem_toArray, List.getElem_cons_succ, List.getElem_cons_zero, Act.put, List.setIfInBounds_toArray, List.set_cons_zero, List.set_cons_succ]
                  refine wpAnyH_done (by kernel_rfl) ?_ _
                  have HB6 := Lib.hid hHeld2
                  clear hHeld hHeld2
                  by_cases hc0 : c = 0
                  · subst hc0
                    rw [if_pos rfl] at HCK
                    go_wp2_with fail
                    exact ⟨⟨j + 1, by omega, by go_num, HB.out.trans HB6.out, HCK.out⟩, by simp [intOf]; omega⟩
                  · have hc2 : ((c : Int) == 0) = false := by simpa using hc0
                    have hc3 : ((c : Int) != 0) = true := by simpa using hc0
                    rw [if_neg hc0] at HCK
                    clear hc0
                    go_wp2_with fail
                    go_ret
                    exact ⟨ret_int (by rw [HCK.out]), HB5.out.trans (HB.out.trans HB6.out)⟩
                | false =>
                  refine wpAnyH_take (i := 0) (oi := _) (v := ?_) rfl (by kernel_rfl) (by kernel_rfl) (by kernel_rfl) (fun _ _ _ h => h) ?_ (by assumption) ?_
                  rotate_left 1
                  · first
                      | (refine Or.inl ⟨by rfl, ?_⟩; intro w9 hSw; (try dsimp only at hSw); go_simp; (try with_reducible rfl); done)
                      | (refine Or.inr ⟨by rfl, ?_⟩; rfl)
                  simp only [List.getElem_toArray, List.getElem_cons_zero, Act.put, List.setIfInBounds_toArray, List.set_cons_zero, List.set_cons_succ]
                  refine wpAnyH_take (i := 1) (oi := _) (v := ?_) rfl (by kernel_rfl) (by kernel_rfl) (by kernel_rfl) (fun _ _ _ h => h) ?_ (by assumption) ?_
                  rotate_left 1
                  · first
                      | (refine Or.inl ⟨by rfl, ?_⟩; intro w9 hSw; (try dsimp only at hSw); go_simp; (try with_reducible rfl); done)
                      | (refine Or.inr ⟨by rfl, ?_⟩; rfl)
                  simp only [List.getElem_toArray, List.getElem_cons_succ, List.getElem_cons_zero, Act.put, List.setIfInBounds_toArray, List.set_cons_zero, List.set_cons_succ]
                  refine wpAnyH_take (i := 2) (oi := _) (v := ?_) rfl (by kernel_rfl) (by kernel_rfl) (by kernel_rfl) (fun _ _ _ h => h) ?_ (by assumption) ?_
                  rotate_left 1
                  · first
                      | (refine Or.inl ⟨by rfl, ?_⟩; intro w9 hSw; (try dsimp only at hSw); go_simp; (try with_reducible rfl); done)
                      | (refine Or.inr ⟨by rfl, ?_⟩; rfl)
                  simp only [List.getElem_toArray, List.getElem_cons_succ, List.getElem_cons_zero, Act.put, List.setIfInBounds_toArray, List.set_cons_zero, List.set_cons_succ]
                  refine wpAnyH_take (i := 3) (oi := _) (v := ?_) rfl (by kernel_rfl) (by kernel_rfl) (by kernel_rfl) (fun _ _ _ h => h) ?_ (by assumption) ?_
                  rotate_left 1
                  · first
                      | (refine Or.inl ⟨by rfl, ?_⟩; intro w9 hSw; (try dsimp only at hSw); go_simp; (try with_reducible rfl); done)
                      | (refine Or.inr ⟨by rfl, ?_⟩; rfl)
                  simp only [List.getElem_toArray, List.getElem_cons_succ, List.getElem_cons_zero, Act.put, List.setIfInBounds_toArray, List.set_cons_zero, List.set_cons_succ]
                  refine wpAnyH_take (i := 4) (oi := _) (v := ?_) rfl (by kernel_rfl) (by kernel_rfl) (by kernel_rfl) (fun _ _ _ h => h) ?_ (by assumption) ?_
                  rotate_left 1
                  · first
                      | (refine Or.inl ⟨by rfl, ?_⟩; intro w9 hSw; (try dsimp only at hSw); go_simp; (try with_reducible rfl); done)
                      | (refine Or.inr ⟨by rfl, ?_⟩; rfl)
                  simp only [List.getElem_toArray, List.getElem_cons_succ, List.getElem_cons_zero, Act.put, List.setIfInBounds_toArray, List.set_cons_zero, List.set_cons_succ]
                  refine wpAnyH_take (i := 5) (oi := _) (v := ?_) rfl (by kernel_rfl) (by kernel_rfl) (by kernel_rfl) (fun _ _ _ h => h) ?_ (by assumption) ?_
                  rotate_left 1
                  · first
                      | (refine Or.inl ⟨by rfl, ?_⟩; intro w9 hSw; (try dsimp only at hSw); go_simp; (try with_reducible rfl); done)
                      | (refine Or.inr ⟨by rfl, ?_⟩; rfl)
                  simp only [List.getElem_toArray, List.getElem_cons_succ, List.getElem_cons_zero, Act.put, List.setIfInBounds_toArray, List.set_cons_zero, List.set_cons_succ]
                  refine wpAnyH_take (i := 6) (oi := _) (v := ?_) rfl (by kernel_rfl) (by kernel_rfl) (by kernel_rfl) (fun _ _ _ h => h) ?_ (by assumption) ?_
                  rotate_left 1
                  · first
                      | (refine Or.inl ⟨by rfl, ?_⟩; intro w9 hSw; (try dsimp only at hSw); go_simp; (try with_reducible rfl); done)
                      | (refine Or.inr ⟨by rfl, ?_⟩; rfl)
                  simp only [List.getElem_toArray, List.getElem_cons_succ, List.getElem_cons_zero, Act.put, List.setIfInBounds_toArray, List.set_cons_zero, List.set_cons_succ]
                  refine wpAnyH_take (i := 7) (oi := _) (v := ?_) rfl (by kernel_rfl) (by kernel_rfl) (by kernel_rfl) (fun _ _ _ h => h) ?_ (by assumption) ?_
                  rotate_left 1
                  · first
                      | (refine Or.inl ⟨by rfl, ?_⟩; intro w9 hSw; (try dsimp only at hSw); go_simp; (try with_reducible rfl); done)
                      | (refine Or.inr ⟨by rfl, ?_⟩; rfl)
                  simp only [List.getElem_toArray, List.getElem_cons_succ, List.getElem_cons_zero, Act.put, List.setIfInBounds_toArray, List.set_cons_zero, List.set_cons_succ]
                  refine wpAnyH_take (i := 8) (oi := _) (v := ?_) rfl (by kernel_rfl) (by kernel_rfl) (by kernel_rfl) (fun _ _ _ h => h) ?_ (by assumption) ?_
                  rotate_left 1
                  · first
                      | (refine Or.inl ⟨by rfl, ?_⟩; intro w9 hSw; (try dsimp only at hSw); go_simp; (try with_reducible rfl); done)
                      | (refine Or.inr ⟨by rfl, ?_⟩; rfl)
                  simp only [List.getElem_toArray, List.getElem_cons_succ, List.getElem_cons_zero, Act.put, List.setIfInBounds_toArray, List.set_cons_zero, List.set_cons_succ]
                  refine wpAnyH_take (i := 9) (oi := _) (v := ?_) rfl (by kernel_rfl) (by kernel_rfl) (by kernel_rfl) (fun _ _ _ h => h) ?_ (by assumption) ?_
                  rotate_left 1
                  · first
                      | (refine Or.inl ⟨by rfl, ?_⟩; intro w9 hSw; (try dsimp only at hSw); go_simp; (try with_reducible rfl); done)
                      | (refine Or.inr ⟨by rfl, ?_⟩; rfl)
                  simp only [List.getElem_toArray, List.getElem_cons_succ, List.getElem_cons_zero, Act.put, List.setIfInBounds_toArray, List.set_cons_zero, List.set_cons_succ]
                  refine wpAnyH_take (i := 10) (oi := _) (v := ?_) rfl (by kernel_rfl) (by kernel_rfl) (by kernel_rfl) (fun _ _ _ h => h) ?_ (by assumption) ?_
                  rotate_left 1
                  · first
                      | (refine Or.inl ⟨by rfl, ?_⟩; intro w9 hSw; (try dsimp only at hSw); go_simp; (try with_reducible rfl); done)
                      | (refine Or.inr ⟨by rfl, ?_⟩; rfl)
                  simp only [List.getElem_toArray, List.getElem_cons_succ, List.getElem_cons_zero, Act.put, List.setIfInBounds_toArray, List.set_cons_zero, List.set_cons_succ]
                  refine wpAnyH_take (i := 11) (oi := _) (v := ?_) rfl (by kernel_rfl) (by kernel_rfl) (by kernel_rfl) (fun _ _ _ h => h) ?_ (by assumption) ?_
                  rotate_left 1
                  · first
                      | (refine Or.inl ⟨by rfl, ?_⟩; intro w9 hSw; (try dsimp only at hSw); go_simp; (try with_reducible rfl); done)
                      | (refine Or.inr ⟨by rfl, ?_⟩; rfl)
                  simp only [List.getElem_toArray, List.getElem_cons_succ, List.getElem_cons_zero, Act.put, List.setIfInBounds_toArray, List.set_cons_zero, List.set_cons_succ]
                  refine wpAnyH_ready (rs := [12]) (by kernel_rfl) (by simp) ?_
                  refine AllReadyH.cons (o := _) rfl (fun K hK => ?_) AllReadyH.nil
                  go_simp
                  go_at_call 25
                  refine (HC2.out _ hHeld.2.2.2.2.2.2).mono ?_
                  rintro e6 w6 ⟨rfl, hb6⟩
                  dsimp only
                  have hHeld2 := hHeld.2.2.2.2.2.2.trans hb6
                  refine hK.out _ _ ⟨hb6.keep hHeld.1, hb6.keep hHeld.2.1, hb6.keep hHeld.2.2.1, hb6.keep hHeld.2.2.2.1, hb6.keep hHeld.2.2.2.2.1, hb6.keep hHeld.2.2.2.2.2.1, hHeld2⟩ (fun hHeld => ?_)
                  clear hK K
                  refine wpAnyH_take (i := 13) (oi := _) (v := ?_) rfl (by kernel_rfl) (by kernel_rfl) (by kernel_rfl) (fun _ _ _ h => h) ?_ (by assumption) ?_
                  rotate_left 1
                  · first
                      | (refine Or.inl ⟨by rfl, ?_⟩; intro w9 hSw; (try dsimp only at hSw); go_simp; (try with_reducible rfl); done)
                      | (refine Or.inr ⟨by rfl, ?_⟩; rfl)
                  simp only [List.getElem_toArray, List.getElem_cons_succ, List.getElem_cons_zero, Act.put, List.setIfInBounds_toArray, List.set_cons_zero, List.set_cons_succ]
                  refine wpAnyH_done (by kernel_rfl) ?_ _
                  have HB6 := Lib.hid hHeld2
                  clear hHeld hHeld2
                  by_cases hc0 : c = 0
                  · subst hc0
                    rw [if_pos rfl] at HCK
                    go_wp2_with fail
                    exact ⟨⟨j + 1, by omega, by go_num, HB.out.trans HB6.out, HCK.out⟩, by simp [intOf]; omega⟩
                  · have hc2 : ((c : Int) == 0) = false := by simpa using hc0
                    have hc3 : ((c : Int) != 0) = true := by simpa using hc0
                    rw [if_neg hc0] at HCK
                    clear hc0
                    go_wp2_with fail
                    go_ret
                    exact ⟨ret_int (by rw [HCK.out]), HB5.out.trans (HB.out.trans HB6.out)⟩
              · obtain rfl : j = m := by omega
                rw [checksE_end b7 l j (by have := HM.out; omega)] at hck
                subst hck
                clear HR2
                go_wp2_with fail
                go_ret
                exact ⟨rfl, HB5.out.trans hbel⟩
set_option maxHeartbeats 1000000 in
theorem rcheck_x (e : Ex) (vn vl : Value) (w : World) (hb : e.bulk ≤ 1073741824) (hat : ExAt w e vn vl) :
    Calls Tryz.prog 9 #[.agg #[.int .i64 e.k, .string e.s, vn, vl]] w (RetBel (.int .i64 (CheckE e)) w) := by
  have HAT := Lib.hid hat
  obtain ⟨na, la, nn, nc, m, lc, rfl, rfl, _, _, _, _, _, _, _, _⟩ := hat.opened
  have HD := Lib.hid (fun W (hbW : Bel w W) => rdepth_c e.bulk e (Nat.le_refl _) hb _ _ W 201 (by omega) (by omega) (ExAt.bel hbW e HAT.out))
  have HC := Lib.hid (fun W (hbW : Bel w W) => rcheck_e e.bulk e (Nat.le_refl _) hb _ _ true W (ExAt.bel hbW e HAT.out))
  obtain ⟨R, hR⟩ : ∃ R, CheckE e = R := ⟨_, rfl⟩
  rw [hR]
  unfold CheckE at hR
  rw [deepE_iff] at hR
  obtain ⟨c, hc⟩ : ∃ c, checkE e true = c := ⟨_, rfl⟩
  rw [hc] at HC hR
  have HRR := Lib.hid hR
  clear hc hR hat hb
  go_enter Tryz.func9, Tryz.ntmps9
  go_wp2_with fail
  refine (HD.out _ (Bel.alloc _ _)).mono ?_
  rintro e1 w1 ⟨d, rfl, hd, hb1⟩
  have t0 := (Blk.new w 25 [.int .i64 e.k, .string e.s, .slice na nn nc, .slice la m lc]).bel hb1
  have c0 : w1.cell? ⟨w.heap.size, 0, none⟩ = some (.int .i64 e.k) := t0.at 0
  have c1 : w1.cell? ⟨w.heap.size, 1, none⟩ = some (.string e.s) := t0.at 1
  have c2 : w1.cell? ⟨w.heap.size, 2, none⟩ = some (.slice na nn nc) := t0.at 2
  have c3 : w1.cell? ⟨w.heap.size, 3, none⟩ = some (.slice la m lc) := t0.at 3
  have HB1 := Lib.hid ((Bel.alloc w _).trans hb1)
  have HDD := Lib.hid hd
  clear hb1 t0 hd
  by_cases h2 : 200 < d
  · have h3 : (200 : Int) < d := by omega
    have hf : R = 9 := by
      rw [← HRR.out, if_pos (by have := HDD.out; simp at this ⊢; omega)]
    subst hf
    clear HRR h2
    go_wp2_with fail
    go_ret
    exact ⟨rfl, HB1.out⟩
  · have h3 : ¬ (200 : Int) < d := by omega
    have hf : R = c := by
      rw [← HRR.out, if_neg (by have := HDD.out; simp at this ⊢; omega)]
    subst hf
    clear HRR h2
    go_wp2_with fail
    refine (HC.out _ HB1.out).mono ?_
    rintro e2 w2 ⟨rfl, hb2⟩
    go_wp2_with fail
    go_ret
    exact ⟨rfl, HB1.out.trans hb2⟩
end Go.Proofs.YtpenfnabeckboaaGreatDoor
