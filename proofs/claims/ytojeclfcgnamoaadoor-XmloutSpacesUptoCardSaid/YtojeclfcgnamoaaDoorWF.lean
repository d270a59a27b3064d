/-
  entity: the walks of escape, EscapeText, EscapeValue.
-/
import Derived.Test.YtojeclfcgnamoaaDoorWB
import Derived.Test.YtojeclfcgnamoaaDoorDE
import Derived.Maps.StringElems
namespace Go.Proofs.YtojeclfcgnamoaaDoor
open Go.RowKit Go.Maps Go.Lib

/-- Entries that were put in, the last one first. -/
def mkE : List (Nat × List UInt8) → DataW Unit
  | [] => .map []
  | x :: r => (mkE r).put (.int .i32 x.1) (.lit (.string x.2))
theorem mkE_map : ∀ l, IsMap (mkE l)
  | [] => isMap_empty
  | _ :: r => (mkE_map r).put _ _
theorem mkE_at (c : Nat) (z : DataW Unit) : ∀ l, (mkE l).atKey (.int .i32 c) z = match (l.find? fun x => x.1 == c).map (·.2) with | some n => .lit (.string n) | none => z
  | [] => rfl
  | x :: r => by
    unfold mkE
    rw [List.find?_cons]
    by_cases h : x.1 = c
    · subst h
      rw [atKey_put_same (mkE_map r) (by trivial)]
      simp
    · have hb : (x.1 == c) = false := by simpa using h
      rw [atKey_put_other (by simp; omega), mkE_at c z r, hb]
theorem mkE_has (c : Nat) : ∀ l, Maps.has (mkE l) (.int .i32 c) = ((l.find? fun x => x.1 == c).map (·.2)).isSome
  | [] => rfl
  | x :: r => by
    unfold mkE
    rw [List.find?_cons]
    by_cases h : x.1 = c
    · subst h
      rw [has_put_same (mkE_map r) (by trivial)]
      simp
    · have hb : (x.1 == c) = false := by simpa using h
      rw [has_put_other (by simp; omega), mkE_has c r, hb]
def escB : List (Nat × List UInt8) := [(13, [38, 35, 49, 51, 59]), (62, [38, 103, 116, 59]), (60, [38, 108, 116, 59]), (38, [38, 97, 109, 112, 59])]
def escA (v : Bool) : List (Nat × List UInt8) := if v = true then [(10, [38, 35, 49, 48, 59]), (9, [38, 35, 57, 59]), (34, [38, 113, 117, 111, 116, 59])] ++ escB else escB
theorem escA_find (v : Bool) (c : Nat) : ((escA v).find? fun x => x.1 == c).map (·.2) = escO v c := by
  have f : ∀ n : Nat, c ≠ n → ((n == c) = false) := fun n h => by simpa using Ne.symm h
  have f1 : ∀ n : Nat, c ≠ n → (¬ (n = c)) := fun n h e => h e.symm
  unfold escO
  by_cases a38 : c = 38
  · subst a38; cases v <;> rfl
  by_cases a60 : c = 60
  · subst a60; cases v <;> rfl
  by_cases a62 : c = 62
  · subst a62; cases v <;> rfl
  by_cases a13 : c = 13
  · subst a13; cases v <;> rfl
  rw [if_neg a38, if_neg a60, if_neg a62, if_neg a13]
  cases v with
  | false => simp [escA, escB, f 38 a38, f 60 a60, f 62 a62, f 13 a13]
  | true =>
    by_cases a34 : c = 34
    · subst a34; rfl
    by_cases a9 : c = 9
    · subst a9; rfl
    by_cases a10 : c = 10
    · subst a10; rfl
    simp [escA, escB, f 38 a38, f 60 a60, f 62 a62, f 13 a13, f 34 a34, f 9 a9, f 10 a10, a34, a9, a10]
/-- The map of what is escaped. -/
def EscM (W : World) (mb : Nat) (v : Bool) : Prop := W.ownsMap Tryd.prog 21 (plainElem (H := Unit) Tryd.prog 9) mb 8 (mkE (escA v))
theorem EscM.bel {W W' : World} {mb : Nat} {v : Bool} (h : EscM W mb v) (hb : Bel W W') : EscM W' mb v := own_mapBel h hb
theorem esc_look3 {W : World} {mb : Nat} {v : Bool} (h : EscM W mb v) (c : Nat) (hc : c ≤ 1114111) :
    (Instr.lookup 97 (.map (some mb)) (.int .i32 c) true).run Tryd.prog W = .ok (.tuple #[.string ⟨((escO v c).getD []).toArray⟩, .bool (escO v c).isSome]) W := by
  have hz : (zeroValue 9).run Tryd.prog W = .ok (.string ⟨#[]⟩) W := by kernel_rfl
  obtain ⟨x, ps, hrun, hv⟩ := h.look_ok (int_keyed Tryd.underlying21) Tryd.underlying97 hz (plainElem_string Tryd.underlying9 (s := ⟨#[]⟩) (by unfold maxLen; decide)) (keyOf_int_mk Tryd.underlying21 (a := (c : Int)) (by simp [Lit.wf, IntKind.min, IntKind.max, IntKind.bits, IntKind.signed]; omega))
  obtain ⟨k, rfl, hk, _⟩ := plainElem_string_inv Tryd.underlying9 hv
  have hk2 := congrArg Prod.fst hk
  rw [mkE_has, escA_find] at hrun
  dsimp only at hk2
  rw [mkE_at, escA_find] at hk2
  rw [hrun]
  cases hx : escO v c with
  | none =>
    rw [hx] at hk2
    have : k.data.toList = [] := by simpa using hk2.symm
    rw [show k = ⟨#[]⟩ from bytes_inj (by rw [this])]
    rfl
  | some l =>
    rw [hx] at hk2
    have : k.data.toList = l := by simpa using hk2.symm
    rw [show k = ⟨l.toArray⟩ from bytes_inj (by rw [this])]
    rfl
/-- What escape answers. -/
def escR (v : Bool) (s : ByteArray) : ByteArray × Nat := if fineS s = true then (⟨(escL v s).toArray⟩, 0) else (⟨#[]⟩, 4)
theorem iterPos_of {w : World} {b pos : Nat} {s : ByteArray} (h : w.heap[b]? = some (.stringIter s pos)) : w.iterPos b = pos := by
  unfold World.iterPos
  rw [h]
set_option maxRecDepth 100000 in
set_option maxHeartbeats 8000000 in
theorem xescape_c (v : Bool) (s : ByteArray) (hs : s.size ≤ 1073741824) (mb : Nat) (w : World) (hE : Env w) (hm : EscM w mb v) :
    Calls Tryd.prog 57 #[.string s, .map (some mb)] w (RetBel (.tuple #[.string (escR v s).1, .int .i64 (escR v s).2]) w) := by
  have HCK : Hid (∀ v w1, Bel w w1 → BytesAt w1 v s → Calls Tryd.prog 70 #[v] w1 fun e w' => e = .returned (.tuple #[.int .i64 (chkS s), .int .i64 (if chkS s < s.size then 4 else 0)]) ∧ Bel w1 w') := Lib.hid fun v w1 hb hv => check_c s (by omega) v w1 (hE.bel hb) hv
  have hok := chk_ok s
  unfold escR fineS
  obtain ⟨k, hk⟩ : ∃ k, chkS s = k := ⟨_, rfl⟩
  rw [hk] at HCK hok ⊢
  have HM := Lib.hid hm
  by_cases hlt : k < s.size
  · rw [if_pos hlt] at HCK
    rw [decide_eq_true hlt, if_neg (by decide)]
    clear hk hok hlt hE hm
    go_enter Tryd.func57, Tryd.ntmps57
    go_wp2_with (refine wpL_bytes rfl 9 31 5 _ rfl s rfl Tryd.underlying9 Tryd.underlying31 Tryd.underlying5 ?_; intro vv W1 hv hb1)
    refine (HCK.out _ _ hb1 hv).mono ?_
    rintro e w2 ⟨rfl, hb2⟩
    go_wp2_with fail
    go_ret2
    exact ⟨rfl, hb1.trans hb2⟩
  · rw [if_neg hlt] at HCK
    rw [decide_eq_false hlt, if_pos (by decide)]
    have HOK := Lib.hid (hok hlt)
    clear hk hok hlt hE hm
    go_enter Tryd.func57, Tryd.ntmps57
    go_wp2_with (refine wpL_bytes rfl 9 31 5 _ rfl s rfl Tryd.underlying9 Tryd.underlying31 Tryd.underlying5 ?_; intro vv W1 hv hb1)
    refine (HCK.out _ _ hb1 hv).mono ?_
    rintro e w2 ⟨rfl, hb2⟩
    have hb0 := hb1.trans hb2
    have HM2 := Lib.hid (HM.out.bel hb0)
    have HB0 := Lib.hid hb0
    clear hv hb1 hb2 hb0 HM
    obtain ⟨w3, h3, k3, s3, b3⟩ : ∃ w3, w2.alloc (.cells #[.pointer none, .slice none 0 0] 55) = w3 ∧ IsK w2.heap.size w2.heap.size [] w3 ∧ w3.heap.size = w2.heap.size + 1 ∧ Bel w2 w3 := ⟨_, rfl, isK_new w2, World.size_alloc _ _, Bel.alloc _ _⟩
    have hs23 : w2.heap.size < w3.heap.size := by omega
    have HW3 := Lib.hid h3
    have HK3 := Lib.hid k3
    have HB3 := Lib.hid b3
    clear h3 k3 b3 s3
    go_upto_region 5 with fail
    rw [show w2.alloc (.cells #[.pointer none, .slice none 0 0] 55) = w3 from HW3.out]
    clear HW3
    go_wp2_with fail
    have HIT0 : Hid ((w3.alloc (.stringIter s 0)).heap[w3.heap.size]? = some (.stringIter s 0)) := Lib.hid (World.iter_heap _ _ _)
    go_loopw [10] (fun _ wr => ∃ (pos : Nat), wr.heap[w3.heap.size]? = some (.stringIter s pos) ∧ Bel w2 wr ∧ IsK w2.heap.size w2.heap.size (escT v s pos) wr ∧ OKat s pos ∧ pos ≤ s.size) (fun _ w' => s.size - w'.iterPos w3.heap.size)
    case atStart => exact ⟨0, HIT0.out, HB3.out.to_alloc _, isK_bel HK3.out (Bel.alloc _ _), HOK.out, Nat.zero_le _⟩
    case round =>
      obtain ⟨pos, hit, hB, hK, hokp, hpl⟩ := hrel
      have hpos := iterPos_of hit
      by_cases hp : pos < s.size
      · have hpi : (pos : Int) ≤ s.size := by omega
        have hnx := fun ty => Lib.run_next_any_at (P := Tryd.prog) wr w3.heap.size s pos ty hit hp
        have hwd := decode_pos s pos hp
        have hI : (wr.iterAt w3.heap.size s (pos + (Utf8.decode s pos).2)).heap[w3.heap.size]? = some (.stringIter s (pos + (Utf8.decode s pos).2)) := Lib.iterAt_heap _ _ _ _ _ hit
        have hB2 : Bel w2 (wr.iterAt w3.heap.size s (pos + (Utf8.decode s pos).2)) := Lib.below_iterAt hB (by omega) _ _
        have hK2 : IsK w2.heap.size w2.heap.size (escT v s pos) (wr.iterAt w3.heap.size s (pos + (Utf8.decode s pos).2)) := IsBuilderF.iterAt hK hit _
        have hfit := decode_fits s pos hp
        have hoks := ok_step s pos hokp hp
        obtain ⟨hod, hfc⟩ := chk_step s pos hokp hp
        have hcells := piece_cells s pos hp hod hfc
        have hql := escT_step v s pos hp hod
        have hqle := escL_le v (s.data.toList.take pos)
        have htl : (s.data.toList.take pos).length ≤ pos := List.length_take_le _ _
        have hcb := fine_bounds hfc
        obtain ⟨p, hpp⟩ : ∃ p, pieceL s pos = p := ⟨_, rfl⟩
        obtain ⟨A, hA⟩ : ∃ A, escT v s pos = A := ⟨_, rfl⟩
        have hqa : A.length ≤ 6442450944 := by rw [← hA]; unfold escT; omega
        obtain ⟨c, n, hcn⟩ : ∃ c n, Utf8.decode s pos = (c, n) := ⟨_, _, rfl⟩
        rw [hpp] at hcells hql
        rw [hA] at hql hK2
        rw [hcn] at hnx hwd hI hB2 hK2 hfit hoks hcells hql hcb
        simp only at hql hcells hfit hoks hwd hcb
        obtain ⟨W, hW⟩ : ∃ W, wr.iterAt w3.heap.size s (pos + n) = W := ⟨_, rfl⟩
        simp only [hW] at hnx hI hB2 hK2
        have hlk := esc_look3 (HM2.out.bel hB2) c (by omega)
        have hle := escO_le v c
        obtain ⟨O, hO⟩ : ∃ O, escO v c = O := ⟨_, rfl⟩
        rw [hO] at hql hlk hle
        have HQL := Lib.hid hql
        have HI := Lib.hid hI
        have HP := Lib.hid hpos
        have HOKS := Lib.hid hoks
        have HK2 := Lib.hid hK2
        have HCE := Lib.hid hcells
        have HBB := Lib.hid hB2
        have hWs : w2.heap.size ≤ W.heap.size := hB2.size
        have hil : w3.heap.size < W.heap.size := (Array.getElem?_eq_some_iff.1 hI).1
        obtain ⟨hc0, hc1⟩ := hcb
        clear hit hpos hI hokp hoks hK hK2 hql hcells hcn hpp hA hO hW hod hfc hqle htl hB hB2 HK3 HOK HCK HIT0 HB3
        cases O with
        | some l =>
          have hl6 := hle l rfl
          have HST := Lib.hid (kstr_c w2.heap.size w2.heap.size A ⟨l.toArray⟩ W HK2.out (by omega) (by show l.length ≤ _; omega) hWs)
          have HQL2 : Hid (escT v s (pos + n) = A ++ l) := Lib.hid HQL.out
          have hlk2 : (Instr.lookup 97 (.map (some mb)) (.int .i32 (c : Int)) true).run Tryd.prog W = .ok (.tuple #[.string ⟨l.toArray⟩, .bool true]) W := hlk
          clear hlk hle HQL
          go_wp2_with fail
          refine HST.out.mono ?_
          rintro e w4 ⟨rfl, hk4, hb4, ho4⟩
          have HIT : Hid (w4.heap[w3.heap.size]? = some (.stringIter s (pos + n))) := Lib.hid (ho4 _ _ HI.out (by simp; omega) (fun _ _ h => by cases h))
          have HK4 := Lib.hid hk4
          have HB4 : Hid (Bel w2 w4) := Lib.hid (Below.trans HBB.out hb4)
          clear hk4 ho4 hb4 HST
          go_wp2_with fail
          refine ⟨⟨pos + n, HIT.out, HB4.out, by rw [HQL2.out]; exact HK4.out, HOKS.out, hfit⟩, ?_⟩
          rw [iterPos_of HIT.out, HP.out]
          omega
        | none =>
          have HRU := Lib.hid (krune_c w2.heap.size w2.heap.size A p c W hc0 hc1 HCE.out HK2.out (by omega) hWs)
          have HQL2 : Hid (escT v s (pos + n) = A ++ p) := Lib.hid HQL.out
          have hlk2 : (Instr.lookup 97 (.map (some mb)) (.int .i32 (c : Int)) true).run Tryd.prog W = .ok (.tuple #[.string ⟨#[]⟩, .bool false]) W := hlk
          clear hlk hle HQL
          go_wp2_with fail
          refine HRU.out.mono ?_
          rintro e w4 ⟨rfl, hk4, hb4, ho4⟩
          have HIT : Hid (w4.heap[w3.heap.size]? = some (.stringIter s (pos + n))) := Lib.hid (ho4 _ _ HI.out (by simp; omega) (fun _ _ h => by cases h))
          have HK4 := Lib.hid hk4
          have HB4 : Hid (Bel w2 w4) := Lib.hid (Below.trans HBB.out hb4)
          clear hk4 ho4 hb4 HRU
          go_wp2_with fail
          refine ⟨⟨pos + n, HIT.out, HB4.out, by rw [HQL2.out]; exact HK4.out, HOKS.out, hfit⟩, ?_⟩
          rw [iterPos_of HIT.out, HP.out]
          omega
      · obtain rfl : pos = s.size := by omega
        have hnx := fun ty => Lib.run_next_end_at (P := Tryd.prog) wr w3.heap.size s s.size ty hit (by omega)
        rw [escT_end v s _ (Nat.le_refl _)] at hK
        have HWS : Hid (∀ W, Bel wr W → Calls Tryd.prog 21 #[.pointer (some ⟨w2.heap.size, 0, none⟩)] W fun e w' => e = .returned (.string ⟨(escL v s).toArray⟩) ∧ Below w2.heap.size W w') :=
          Lib.hid fun W hb => kget_c w2.heap.size w2.heap.size _ W (isK_bel hK hb) (Nat.le_trans hB.size hb.size)
        have HBB := Lib.hid hB
        clear hK hB hit hpos
        go_wp2_with fail
        refine (HWS.out _ (by first | exact Bel.refl _ | exact Bel.drew _)).mono ?_
        rintro e w4 ⟨rfl, hb4⟩
        have HB4 : Hid (Bel w w4) := Lib.hid (HB0.out.trans (Below.trans HBB.out hb4))
        clear hb4
        go_wp2_with fail
        go_ret2
        exact ⟨rfl, HB4.out⟩
set_option maxRecDepth 100000 in
set_option maxHeartbeats 8000000 in
theorem xescText_c (s : ByteArray) (hs : s.size ≤ 1073741824) (w : World) (hE : Env w) : Calls Tryd.prog 39 #[.string s] w (RetBel (.tuple #[.string (escR false s).1, .int .i64 (escR false s).2]) w) := by
  have hmm := @run_makeMap Tryd.prog
  have HC := Lib.hid fun mb W (hW : Bel w W) (hm : EscM W mb false) => xescape_c false s hs mb W (hE.bel hW) hm
  obtain ⟨ra, hra⟩ : ∃ r, (escR false s).1 = r := ⟨_, rfl⟩
  obtain ⟨rb, hrb⟩ : ∃ r, (escR false s).2 = r := ⟨_, rfl⟩
  rw [hra, hrb] at HC ⊢
  clear hra hrb hE
  go_enter Tryd.func39, Tryd.ntmps39
  have h0 := World.ownsMap_made w Tryd.prog 21 (plainElem (H := Unit) Tryd.prog 9)
  have b0 : Bel w (w.alloc (.map #[] 0)) := Bel.alloc _ _
  go_wp2_with (refine wpL_insert _ rfl _ _ _ 97 rfl 21 9 (int_keyed Tryd.underlying21) Tryd.underlying97 _ w.heap.size _ _ rfl (by assumption) (by unfold maxLen; omega) _ _ _ rfl rfl (keyOf_int_mk Tryd.underlying21 (by decide)) _ [] (plainElem_string Tryd.underlying9 (by unfold maxLen; decide)) ?_; intro w1 hown1 hgrow1; have hb1 : Bel w w1 := Below.grown (by assumption) hgrow1 (Bel.size (by assumption)) (fun k e => by cases e; exact Nat.le_refl _); clear hgrow1)
  refine (HC.out _ w1 hb1 (World.ownsMap.mono hown1 (by omega))).mono ?_
  rintro e2 w2 ⟨rfl, hb2⟩
  have HB := Lib.hid (hb1.trans hb2)
  clear hb2 HC
  go_wp2_with fail
  go_ret2
  exact ⟨rfl, HB.out⟩
set_option maxRecDepth 100000 in
set_option maxHeartbeats 8000000 in
theorem xescValue_c (s : ByteArray) (hs : s.size ≤ 1073741824) (w : World) (hE : Env w) : Calls Tryd.prog 59 #[.string s] w (RetBel (.tuple #[.string (escR true s).1, .int .i64 (escR true s).2]) w) := by
  have hmm := @run_makeMap Tryd.prog
  have HC := Lib.hid fun mb W (hW : Bel w W) (hm : EscM W mb true) => xescape_c true s hs mb W (hE.bel hW) hm
  obtain ⟨ra, hra⟩ : ∃ r, (escR true s).1 = r := ⟨_, rfl⟩
  obtain ⟨rb, hrb⟩ : ∃ r, (escR true s).2 = r := ⟨_, rfl⟩
  rw [hra, hrb] at HC ⊢
  clear hra hrb hE
  go_enter Tryd.func59, Tryd.ntmps59
  have h0 := World.ownsMap_made w Tryd.prog 21 (plainElem (H := Unit) Tryd.prog 9)
  have b0 : Bel w (w.alloc (.map #[] 0)) := Bel.alloc _ _
  go_wp2_with (refine wpL_insert _ rfl _ _ _ 97 rfl 21 9 (int_keyed Tryd.underlying21) Tryd.underlying97 _ w.heap.size _ _ rfl (by assumption) (by unfold maxLen; omega) _ _ _ rfl rfl (keyOf_int_mk Tryd.underlying21 (by decide)) _ [] (plainElem_string Tryd.underlying9 (by unfold maxLen; decide)) ?_; intro w1 hown1 hgrow1; have hb1 : Bel w w1 := Below.grown (by assumption) hgrow1 (Bel.size (by assumption)) (fun k e => by cases e; exact Nat.le_refl _); clear hgrow1)
  refine (HC.out _ w1 hb1 (World.ownsMap.mono hown1 (by omega))).mono ?_
  rintro e2 w2 ⟨rfl, hb2⟩
  have HB := Lib.hid (hb1.trans hb2)
  clear hb2 HC
  go_wp2_with fail
  go_ret2
  exact ⟨rfl, HB.out⟩
end Go.Proofs.YtojeclfcgnamoaaDoor
