/-
  entity: the walks of escape, EscapeText, EscapeValue.
  xmlout: the walks of the writer's name, value, node, and of Write.
  xmlout: the walks of the writer's value and node.
-/
import Derived.Test.YtojeclfcgnamoaaDoorWAA
import Derived.Test.YtojeclfcgnamoaaDoorDXE
import Derived.Maps.StringElems
import Derived.Test.YtojeclfcgnamoaaDoorWE
import Derived.Test.YtojeclfcgnamoaaDoorBEM
namespace Go.Proofs.YtojeclfcgnamoaaDoor
open Go.RowKit Go.Maps Go.Lib

/-- Entries that were put in, the last one first. -/
def mkE : List (Nat × List UInt8) → DataW Unit
  | [] => .map []
  | x :: r => (mkE r).put (.int .i32 x.1) (.lit (.string x.2))
theorem mkE_map : ∀ l, IsMap (mkE l)
  | [] => isMap_empty
  | _ :: r => (mkE_map r).put _ _
theorem mkE_at (c : Nat) (z : DataW Unit) : ∀ l, (mkE l).atKey (.int .i32 c) z = match (l.find? fun x => x.1 == c).map (·.2) with | some n => .lit (.string n) | none => z
  | [] => rfl
  | x :: r => by
    unfold mkE
    rw [List.find?_cons]
    by_cases h : x.1 = c
    · subst h
      rw [atKey_put_same (mkE_map r) (by trivial)]
      simp
    · have hb : (x.1 == c) = false := by simpa using h
      rw [atKey_put_other (by simp; omega), mkE_at c z r, hb]
theorem mkE_has (c : Nat) : ∀ l, Maps.has (mkE l) (.int .i32 c) = ((l.find? fun x => x.1 == c).map (·.2)).isSome
  | [] => rfl
  | x :: r => by
    unfold mkE
    rw [List.find?_cons]
    by_cases h : x.1 = c
    · subst h
      rw [has_put_same (mkE_map r) (by trivial)]
      simp
    · have hb : (x.1 == c) = false := by simpa using h
      rw [has_put_other (by simp; omega), mkE_has c r, hb]
def escB : List (Nat × List UInt8) := [(13, [38, 35, 49, 51, 59]), (62, [38, 103, 116, 59]), (60, [38, 108, 116, 59]), (38, [38, 97, 109, 112, 59])]
def escA (v : Bool) : List (Nat × List UInt8) := if v = true then [(10, [38, 35, 49, 48, 59]), (9, [38, 35, 57, 59]), (34, [38, 113, 117, 111, 116, 59])] ++ escB else escB
theorem escA_find (v : Bool) (c : Nat) : ((escA v).find? fun x => x.1 == c).map (·.2) = escO v c := by
  have f : ∀ n : Nat, c ≠ n → ((n == c) = false) := fun n h => by simpa using Ne.symm h
  have f1 : ∀ n : Nat, c ≠ n → (¬ (n = c)) := fun n h e => h e.symm
  unfold escO
  by_cases a38 : c = 38
  · subst a38; cases v <;> rfl
  by_cases a60 : c = 60
  · subst a60; cases v <;> rfl
  by_cases a62 : c = 62
  · subst a62; cases v <;> rfl
  by_cases a13 : c = 13
  · subst a13; cases v <;> rfl
  rw [if_neg a38, if_neg a60, if_neg a62, if_neg a13]
  cases v with
  | false => simp [escA, escB, f 38 a38, f 60 a60, f 62 a62, f 13 a13]
  | true =>
    by_cases a34 : c = 34
    · subst a34; rfl
    by_cases a9 : c = 9
    · subst a9; rfl
    by_cases a10 : c = 10
    · subst a10; rfl
    simp [escA, escB, f 38 a38, f 60 a60, f 62 a62, f 13 a13, f 34 a34, f 9 a9, f 10 a10, a34, a9, a10]
/-- The map of what is escaped. -/
def EscM (W : World) (mb : Nat) (v : Bool) : Prop := W.ownsMap Tryd.prog 21 (plainElem (H := Unit) Tryd.prog 9) mb 8 (mkE (escA v))
theorem EscM.bel {W W' : World} {mb : Nat} {v : Bool} (h : EscM W mb v) (hb : Bel W W') : EscM W' mb v := own_mapBel h hb
theorem esc_look3 {W : World} {mb : Nat} {v : Bool} (h : EscM W mb v) (c : Nat) (hc : c ≤ 1114111) :
    (Instr.lookup 97 (.map (some mb)) (.int .i32 c) true).run Tryd.prog W = .ok (.tuple #[.string ⟨((escO v c).getD []).toArray⟩, .bool (escO v c).isSome]) W := by
  have hz : (zeroValue 9).run Tryd.prog W = .ok (.string ⟨#[]⟩) W := by kernel_rfl
  obtain ⟨x, ps, hrun, hv⟩ := h.look_ok (int_keyed Tryd.underlying21) Tryd.underlying97 hz (plainElem_string Tryd.underlying9 (s := ⟨#[]⟩) (by unfold maxLen; decide)) (keyOf_int_mk Tryd.underlying21 (a := (c : Int)) (by simp [Lit.wf, IntKind.min, IntKind.max, IntKind.bits, IntKind.signed]; omega))
  obtain ⟨k, rfl, hk, _⟩ := plainElem_string_inv Tryd.underlying9 hv
  have hk2 := congrArg Prod.fst hk
  rw [mkE_has, escA_find] at hrun
  dsimp only at hk2
  rw [mkE_at, escA_find] at hk2
  rw [hrun]
  cases hx : escO v c with
  | none =>
    rw [hx] at hk2
    have : k.data.toList = [] := by simpa using hk2.symm
    rw [show k = ⟨#[]⟩ from bytes_inj (by rw [this])]
    rfl
  | some l =>
    rw [hx] at hk2
    have : k.data.toList = l := by simpa using hk2.symm
    rw [show k = ⟨l.toArray⟩ from bytes_inj (by rw [this])]
    rfl
/-- What escape answers. -/
def escR (v : Bool) (s : ByteArray) : ByteArray × Nat := if fineS s = true then (⟨(escL v s).toArray⟩, 0) else (⟨#[]⟩, 4)
theorem iterPos_of {w : World} {b pos : Nat} {s : ByteArray} (h : w.heap[b]? = some (.stringIter s pos)) : w.iterPos b = pos := by
  unfold World.iterPos
  rw [h]
set_option maxRecDepth 100000 in
set_option maxHeartbeats 8000000 in
theorem xescape_c (v : Bool) (s : ByteArray) (hs : s.size ≤ 1073741824) (mb : Nat) (w : World) (hE : Env w) (hm : EscM w mb v) :
    Calls Tryd.prog 57 #[.string s, .map (some mb)] w (RetBel (.tuple #[.string (escR v s).1, .int .i64 (escR v s).2]) w) := by
  have HCK : Hid (∀ v w1, Bel w w1 → BytesAt w1 v s → Calls Tryd.prog 70 #[v] w1 fun e w' => e = .returned (.tuple #[.int .i64 (chkS s), .int .i64 (if chkS s < s.size then 4 else 0)]) ∧ Bel w1 w') := Lib.hid fun v w1 hb hv => check_c s (by omega) v w1 (hE.bel hb) hv
  have hok := chk_ok s
  unfold escR fineS
  obtain ⟨k, hk⟩ : ∃ k, chkS s = k := ⟨_, rfl⟩
  rw [hk] at HCK hok ⊢
  have HM := Lib.hid hm
  by_cases hlt : k < s.size
  · rw [if_pos hlt] at HCK
    rw [decide_eq_true hlt, if_neg (by decide)]
    clear hk hok hlt hE hm
    go_enter Tryd.func57, Tryd.ntmps57
    go_wp2_with (refine wpL_bytes rfl 9 31 5 _ rfl s rfl Tryd.underlying9 Tryd.underlying31 Tryd.underlying5 ?_; intro vv W1 hv hb1)
    refine (HCK.out _ _ hb1 hv).mono ?_
    rintro e w2 ⟨rfl, hb2⟩
    go_wp2_with fail
    go_ret2
    exact ⟨rfl, hb1.trans hb2⟩
  · rw [if_neg hlt] at HCK
    rw [decide_eq_false hlt, if_pos (by decide)]
    have HOK := Lib.hid (hok hlt)
    clear hk hok hlt hE hm
    go_enter Tryd.func57, Tryd.ntmps57
    go_wp2_with (refine wpL_bytes rfl 9 31 5 _ rfl s rfl Tryd.underlying9 Tryd.underlying31 Tryd.underlying5 ?_; intro vv W1 hv hb1)
    refine (HCK.out _ _ hb1 hv).mono ?_
    rintro e w2 ⟨rfl, hb2⟩
    have hb0 := hb1.trans hb2
    have HM2 := Lib.hid (HM.out.bel hb0)
    have HB0 := Lib.hid hb0
    clear hv hb1 hb2 hb0 HM
    obtain ⟨w3, h3, k3, s3, b3⟩ : ∃ w3, w2.alloc (.cells #[.pointer none, .slice none 0 0] 55) = w3 ∧ IsK w2.heap.size w2.heap.size [] w3 ∧ w3.heap.size = w2.heap.size + 1 ∧ Bel w2 w3 := ⟨_, rfl, isK_new w2, World.size_alloc _ _, Bel.alloc _ _⟩
    have hs23 : w2.heap.size < w3.heap.size := by omega
    have HW3 := Lib.hid h3
    have HK3 := Lib.hid k3
    have HB3 := Lib.hid b3
    clear h3 k3 b3 s3
    go_upto_region 5 with fail
    rw [show w2.alloc (.cells #[.pointer none, .slice none 0 0] 55) = w3 from HW3.out]
    clear HW3
    go_wp2_with fail
    have HIT0 : Hid ((w3.alloc (.stringIter s 0)).heap[w3.heap.size]? = some (.stringIter s 0)) := Lib.hid (World.iter_heap _ _ _)
    go_loopw [10] (fun _ wr => ∃ (pos : Nat), wr.heap[w3.heap.size]? = some (.stringIter s pos) ∧ Bel w2 wr ∧ IsK w2.heap.size w2.heap.size (escT v s pos) wr ∧ OKat s pos ∧ pos ≤ s.size) (fun _ w' => s.size - w'.iterPos w3.heap.size)
    case atStart => exact ⟨0, HIT0.out, HB3.out.to_alloc _, isK_bel HK3.out (Bel.alloc _ _), HOK.out, Nat.zero_le _⟩
    case round =>
      obtain ⟨pos, hit, hB, hK, hokp, hpl⟩ := hrel
      have hpos := iterPos_of hit
      by_cases hp : pos < s.size
      · have hpi : (pos : Int) ≤ s.size := by omega
        have hnx := fun ty => Lib.run_next_any_at (P := Tryd.prog) wr w3.heap.size s pos ty hit hp
        have hwd := decode_pos s pos hp
        have hI : (wr.iterAt w3.heap.size s (pos + (Utf8.decode s pos).2)).heap[w3.heap.size]? = some (.stringIter s (pos + (Utf8.decode s pos).2)) := Lib.iterAt_heap _ _ _ _ _ hit
        have hB2 : Bel w2 (wr.iterAt w3.heap.size s (pos + (Utf8.decode s pos).2)) := Lib.below_iterAt hB (by omega) _ _
        have hK2 : IsK w2.heap.size w2.heap.size (escT v s pos) (wr.iterAt w3.heap.size s (pos + (Utf8.decode s pos).2)) := IsBuilderF.iterAt hK hit _
        have hfit := decode_fits s pos hp
        have hoks := ok_step s pos hokp hp
        obtain ⟨hod, hfc⟩ := chk_step s pos hokp hp
        have hcells := piece_cells s pos hp hod hfc
        have hql := escT_step v s pos hp hod
        have hqle := escL_le v (s.data.toList.take pos)
        have htl : (s.data.toList.take pos).length ≤ pos := List.length_take_le _ _
        have hcb := fine_bounds hfc
        obtain ⟨p, hpp⟩ : ∃ p, pieceL s pos = p := ⟨_, rfl⟩
        obtain ⟨A, hA⟩ : ∃ A, escT v s pos = A := ⟨_, rfl⟩
        have hqa : A.length ≤ 6442450944 := by rw [← hA]; unfold escT; omega
        obtain ⟨c, n, hcn⟩ : ∃ c n, Utf8.decode s pos = (c, n) := ⟨_, _, rfl⟩
        rw [hpp] at hcells hql
        rw [hA] at hql hK2
        rw [hcn] at hnx hwd hI hB2 hK2 hfit hoks hcells hql hcb
        simp only at hql hcells hfit hoks hwd hcb
        obtain ⟨W, hW⟩ : ∃ W, wr.iterAt w3.heap.size s (pos + n) = W := ⟨_, rfl⟩
        simp only [hW] at hnx hI hB2 hK2
        have hlk := esc_look3 (HM2.out.bel hB2) c (by omega)
        have hle := escO_le v c
        obtain ⟨O, hO⟩ : ∃ O, escO v c = O := ⟨_, rfl⟩
        rw [hO] at hql hlk hle
        have HQL := Lib.hid hql
        have HI := Lib.hid hI
        have HP := Lib.hid hpos
        have HOKS := Lib.hid hoks
        have HK2 := Lib.hid hK2
        have HCE := Lib.hid hcells
        have HBB := Lib.hid hB2
        have hWs : w2.heap.size ≤ W.heap.size := hB2.size
        have hil : w3.heap.size < W.heap.size := (Array.getElem?_eq_some_iff.1 hI).1
        obtain ⟨hc0, hc1⟩ := hcb
        clear hit hpos hI hokp hoks hK hK2 hql hcells hcn hpp hA hO hW hod hfc hqle htl hB hB2 HK3 HOK HCK HIT0 HB3
        cases O with
        | some l =>
          have hl6 := hle l rfl
          have HST := Lib.hid (kstr_c w2.heap.size w2.heap.size A ⟨l.toArray⟩ W HK2.out (by omega) (by show l.length ≤ _; omega) hWs)
          have HQL2 : Hid (escT v s (pos + n) = A ++ l) := Lib.hid HQL.out
          have hlk2 : (Instr.lookup 97 (.map (some mb)) (.int .i32 (c : Int)) true).run Tryd.prog W = .ok (.tuple #[.string ⟨l.toArray⟩, .bool true]) W := hlk
          clear hlk hle HQL
          go_wp2_with fail
          refine HST.out.mono ?_
          rintro e w4 ⟨rfl, hk4, hb4, ho4⟩
          have HIT : Hid (w4.heap[w3.heap.size]? = some (.stringIter s (pos + n))) := Lib.hid (ho4 _ _ HI.out (by simp; omega) (fun _ _ h => by cases h))
          have HK4 := Lib.hid hk4
          have HB4 : Hid (Bel w2 w4) := Lib.hid (Below.trans HBB.out hb4)
          clear hk4 ho4 hb4 HST
          go_wp2_with fail
          refine ⟨⟨pos + n, HIT.out, HB4.out, by rw [HQL2.out]; exact HK4.out, HOKS.out, hfit⟩, ?_⟩
          rw [iterPos_of HIT.out, HP.out]
          omega
        | none =>
          have HRU := Lib.hid (krune_c w2.heap.size w2.heap.size A p c W hc0 hc1 HCE.out HK2.out (by omega) hWs)
          have HQL2 : Hid (escT v s (pos + n) = A ++ p) := Lib.hid HQL.out
          have hlk2 : (Instr.lookup 97 (.map (some mb)) (.int .i32 (c : Int)) true).run Tryd.prog W = .ok (.tuple #[.string ⟨#[]⟩, .bool false]) W := hlk
          clear hlk hle HQL
          go_wp2_with fail
          refine HRU.out.mono ?_
          rintro e w4 ⟨rfl, hk4, hb4, ho4⟩
          have HIT : Hid (w4.heap[w3.heap.size]? = some (.stringIter s (pos + n))) := Lib.hid (ho4 _ _ HI.out (by simp; omega) (fun _ _ h => by cases h))
          have HK4 := Lib.hid hk4
          have HB4 : Hid (Bel w2 w4) := Lib.hid (Below.trans HBB.out hb4)
          clear hk4 ho4 hb4 HRU
          go_wp2_with fail
          refine ⟨⟨pos + n, HIT.out, HB4.out, by rw [HQL2.out]; exact HK4.out, HOKS.out, hfit⟩, ?_⟩
          rw [iterPos_of HIT.out, HP.out]
          omega
      · obtain rfl : pos = s.size := by omega
        have hnx := fun ty => Lib.run_next_end_at (P := Tryd.prog) wr w3.heap.size s s.size ty hit (by omega)
        rw [escT_end v s _ (Nat.le_refl _)] at hK
        have HWS : Hid (∀ W, Bel wr W → Calls Tryd.prog 21 #[.pointer (some ⟨w2.heap.size, 0, none⟩)] W fun e w' => e = .returned (.string ⟨(escL v s).toArray⟩) ∧ Below w2.heap.size W w') :=
          Lib.hid fun W hb => kget_c w2.heap.size w2.heap.size _ W (isK_bel hK hb) (Nat.le_trans hB.size hb.size)
        have HBB := Lib.hid hB
        clear hK hB hit hpos
        go_wp2_with fail
        refine (HWS.out _ (by first | exact Bel.refl _ | exact Bel.drew _)).mono ?_
        rintro e w4 ⟨rfl, hb4⟩
        have HB4 : Hid (Bel w w4) := Lib.hid (HB0.out.trans (Below.trans HBB.out hb4))
        clear hb4
        go_wp2_with fail
        go_ret2
        exact ⟨rfl, HB4.out⟩
set_option maxRecDepth 100000 in
set_option maxHeartbeats 8000000 in
theorem xescText_c (s : ByteArray) (hs : s.size ≤ 1073741824) (w : World) (hE : Env w) : Calls Tryd.prog 39 #[.string s] w (RetBel (.tuple #[.string (escR false s).1, .int .i64 (escR false s).2]) w) := by
  have hmm := @run_makeMap Tryd.prog
  have HC := Lib.hid fun mb W (hW : Bel w W) (hm : EscM W mb false) => xescape_c false s hs mb W (hE.bel hW) hm
  obtain ⟨ra, hra⟩ : ∃ r, (escR false s).1 = r := ⟨_, rfl⟩
  obtain ⟨rb, hrb⟩ : ∃ r, (escR false s).2 = r := ⟨_, rfl⟩
  rw [hra, hrb] at HC ⊢
  clear hra hrb hE
  go_enter Tryd.func39, Tryd.ntmps39
  have h0 := World.ownsMap_made w Tryd.prog 21 (plainElem (H := Unit) Tryd.prog 9)
  have b0 : Bel w (w.alloc (.map #[] 0)) := Bel.alloc _ _
  go_wp2_with (refine wpL_insert _ rfl _ _ _ 97 rfl 21 9 (int_keyed Tryd.underlying21) Tryd.underlying97 _ w.heap.size _ _ rfl (by assumption) (by unfold maxLen; omega) _ _ _ rfl rfl (keyOf_int_mk Tryd.underlying21 (by decide)) _ [] (plainElem_string Tryd.underlying9 (by unfold maxLen; decide)) ?_; intro w1 hown1 hgrow1; have hb1 : Bel w w1 := Below.grown (by assumption) hgrow1 (Bel.size (by assumption)) (fun k e => by cases e; exact Nat.le_refl _); clear hgrow1)
  refine (HC.out _ w1 hb1 (World.ownsMap.mono hown1 (by omega))).mono ?_
  rintro e2 w2 ⟨rfl, hb2⟩
  have HB := Lib.hid (hb1.trans hb2)
  clear hb2 HC
  go_wp2_with fail
  go_ret2
  exact ⟨rfl, HB.out⟩
set_option maxRecDepth 100000 in
set_option maxHeartbeats 8000000 in
theorem xescValue_c (s : ByteArray) (hs : s.size ≤ 1073741824) (w : World) (hE : Env w) : Calls Tryd.prog 59 #[.string s] w (RetBel (.tuple #[.string (escR true s).1, .int .i64 (escR true s).2]) w) := by
  have hmm := @run_makeMap Tryd.prog
  have HC := Lib.hid fun mb W (hW : Bel w W) (hm : EscM W mb true) => xescape_c true s hs mb W (hE.bel hW) hm
  obtain ⟨ra, hra⟩ : ∃ r, (escR true s).1 = r := ⟨_, rfl⟩
  obtain ⟨rb, hrb⟩ : ∃ r, (escR true s).2 = r := ⟨_, rfl⟩
  rw [hra, hrb] at HC ⊢
  clear hra hrb hE
  go_enter Tryd.func59, Tryd.ntmps59
  have h0 := World.ownsMap_made w Tryd.prog 21 (plainElem (H := Unit) Tryd.prog 9)
  have b0 : Bel w (w.alloc (.map #[] 0)) := Bel.alloc _ _
  go_wp2_with (refine wpL_insert _ rfl _ _ _ 97 rfl 21 9 (int_keyed Tryd.underlying21) Tryd.underlying97 _ w.heap.size _ _ rfl (by assumption) (by unfold maxLen; omega) _ _ _ rfl rfl (keyOf_int_mk Tryd.underlying21 (by decide)) _ [] (plainElem_string Tryd.underlying9 (by unfold maxLen; decide)) ?_; intro w1 hown1 hgrow1; have hb1 : Bel w w1 := Below.grown (by assumption) hgrow1 (Bel.size (by assumption)) (fun k e => by cases e; exact Nat.le_refl _); clear hgrow1)
  refine (HC.out _ w1 hb1 (World.ownsMap.mono hown1 (by omega))).mono ?_
  rintro e2 w2 ⟨rfl, hb2⟩
  have HB := Lib.hid (hb1.trans hb2)
  clear hb2 HC
  go_wp2_with fail
  go_ret2
  exact ⟨rfl, HB.out⟩
end Go.Proofs.YtojeclfcgnamoaaDoor

namespace Go.Proofs.YtojeclfcgnamoaaDoor
open Go.RowKit Go.Maps Go.Shelf

abbrev WrE : TypeId := 57
/-- The writer: its bytes, its map. -/
def WB (b mb : Nat) (l : List UInt8) (w : World) : Prop := EB WrE b b [.map (some mb)] (Lib.byteCells l) w
theorem wr_heads : Heads WrE 3 := ⟨by kernel_rfl, by decide⟩
theorem bcells_len (l : List UInt8) : (Lib.byteCells l).length = l.length := by simp [Lib.byteCells]
theorem bcells_app (l m : List UInt8) : Lib.byteCells (l ++ m) = Lib.byteCells l ++ Lib.byteCells m := by simp [Lib.byteCells]
theorem keepW_types : keepB WrE 27 = true ∧ keepB WrE 63 = true ∧ keepB WrE 47 = true ∧ keepB WrE 23 = true := by decide
def RetWB (b mb : Nat) (l : List UInt8) (w : World) (w' : World) : Prop := WB b mb l w' ∧ Below b w w' ∧ KeepT (keepB WrE) w w'
theorem wstr_c (b mb : Nat) (l : List UInt8) (x : ByteArray) (w : World) (h : WB b mb l w) (hl : l.length + x.size ≤ 140737488355328) :
    Calls Tryd.prog 40 #[.pointer (some ⟨b, 0, none⟩), .string x] w fun e w' => e = .returned (.tuple #[.int .i64 x.size, .nilIface]) ∧ RetWB b mb (l ++ x.data.toList) w w' := by
  refine (ewstr_c WrE b b [.map (some mb)] (Lib.byteCells l) x w wr_heads h (by rw [bcells_len]; exact hl) (Nat.le_of_lt h.lt)).mono ?_
  rintro e w' ⟨rfl, h1, h2, h3⟩
  refine ⟨rfl, ?_, h2, h3⟩
  unfold WB
  rw [bcells_app]
  exact h1
set_option maxHeartbeats 2000000 in
set_option maxRecDepth 100000 in
/-- WriteByte at the writer. -/
theorem wbyte_c (b mb : Nat) (l : List UInt8) (c : UInt8) (w : World) (h : WB b mb l w) (hl : l.length ≤ 1073741824) :
    Calls Tryd.prog 41 #[.pointer (some ⟨b, 0, none⟩), .int .u8 c.toNat] w fun e w' => e = .returned .nilIface ∧ RetWB b mb (l ++ [c]) w w' := by
  have HC := Lib.hid (ecopy_c WrE b b [.map (some mb)] (Lib.byteCells l) w wr_heads h)
  have hB := h.1
  have hbw := h.lt
  obtain ⟨z, hz⟩ : ∃ z : Int, (c.toNat : Int) = z := ⟨_, rfl⟩
  rw [hz]
  have HZ := Lib.hid hz
  clear hz
  go_enter Tryd.func41, Tryd.ntmps41
  go_wp2_with fail
  refine HC.out.mono ?_
  rintro e w1 ⟨rfl, ⟨v, hbk, hown, hne⟩, hb1, hk1⟩
  have c0 : w1.cell? ⟨b, 0, none⟩ = some (.pointer (some ⟨b, 0, none⟩)) := by rw [Lib.cell_of_heap hbk]; rfl
  have c1 : w1.cell? ⟨b, 1, none⟩ = some v := by rw [Lib.cell_of_heap hbk]; rfl
  rw [bcells_len] at hown
  have hBb : b ≤ (w1.alloc (.cells #[.int .u8 z] 5)).heap.size := by rw [World.size_alloc]; have := hb1.size; omega
  have hlt1 : b < w1.heap.size := (Array.getElem?_eq_some_iff.1 hbk).1
  have HBK := Lib.hid (show (w1.alloc (.cells #[.int .u8 z] 5)).heap[b]? = _ from (Bel.block (Bel.alloc w1 _) hlt1).trans hbk)
  have HOW := Lib.hid (own_bel hown (Bel.alloc w1 (.cells #[.int .u8 z] 5)))
  have HB1 := Lib.hid hb1
  have HK1 := Lib.hid hk1
  have HNE := Lib.hid hne
  clear hbk hown hb1 hk1 hne HC
  go_wp2_with (at_builtin; refine wpL_append1k rfl _ _ 31 rfl b hBb 5 (.int .u8 0) 1 1 Tryd.underlying31 info_byte rfl (by decide) (by decide) _ l.length _ rfl HOW.out ⟨w1.heap.size, 0, none⟩ 1 [.int .u8 z] rfl rfl (cells_new _ _ _) (by simp [Value.oneCell']) (by omega) ?_; intro g cap w2 hown2 hg2; have hb2 : w2.heap[b]? = some (.cells (Value.pointer (some ⟨b, 0, none⟩) :: v :: [.map (some mb)]).toArray WrE (0, 0)) := (hg2.block b (by rw [World.size_alloc]; omega) (fun e => HNE.out e.symm)).trans HBK.out; have d1 : w2.cell? ⟨b, 1, none⟩ = some v := (by rw [Lib.cell_of_heap hb2]; rfl); have f1 : w2.frozen? ⟨b, 1, none⟩ = false := Lib.frozen_of_heap hb2 1; have HB2 := Lib.hid hb2; have HO2 := Lib.hid hown2; have HG2 := Lib.hid hg2; clear hb2 hown2 hg2)
  go_ret
  have hcl : Lib.byteCells (l ++ [c]) = Lib.byteCells l ++ [.int .u8 z] := by rw [bcells_app, ← HZ.out]; rfl
  refine ⟨rfl, ?_, ?_, ?_⟩
  · obtain ⟨h1, h2, h3⟩ := eb_put (E := WrE) (bs' := Lib.byteCells (l ++ [c])) HB2.out (by rw [hcl, List.length_append, bcells_len]; exact HO2.out) wr_heads.2
    exact ⟨hB, some ⟨b, 0, none⟩, _, .inr rfl, h1, h2, h3⟩
  · have hb : Below b w1 (w1.alloc (.cells #[.int .u8 z] 5)) := (Below.refl b w1).alloc (by omega) _
    exact ((HB1.out.trans hb).grown HG2.out hBb (fun k hk => (HOW.out.lt k hk).1)).setCell (p := ⟨b, 1, none⟩) hB _
  · exact ((HK1.out.trans (KeepT.of_bel (Bel.alloc w1 _))).trans (KeepT.grow HOW.out (keepB_byte WrE) HG2.out)).trans (KeepT.set (blk_of HB2.out) (keepB_self WrE) 1 _)
/-! The map of prefixes. -/
def pfS (L : List Pr6) (s : ByteArray) : ByteArray := (pfxP L s).getD ⟨#[]⟩
def PMap (W : World) (mb n : Nat) (L : List Pr6) : Prop := ∃ D : DataW Unit, W.ownsMap Tryd.prog 9 (plainElem Tryd.prog 9) mb n D ∧ IsMap D ∧ ∀ s, D.atKey (keyT s) (.lit (.string [])) = .lit (.string (pfS L s).data.toList)
theorem PMap.kept {W W' : World} {mb n : Nat} {L : List Pr6} (h : PMap W mb n L) (hb : W'.heap[mb]? = W.heap[mb]?) : PMap W' mb n L := by
  obtain ⟨D, ⟨es, c, h1, h2⟩, h3⟩ := h
  exact ⟨D, ⟨es, c, hb.trans h1, h2⟩, h3⟩
theorem PMap.lt {W : World} {mb n : Nat} {L : List Pr6} (h : PMap W mb n L) : mb < W.heap.size := by
  obtain ⟨D, h1, _⟩ := h
  exact h1.lt
set_option maxRecDepth 100000 in
theorem pm_look {W : World} {mb n : Nat} {L : List Pr6} (h : PMap W mb n L) {s : ByteArray} (hs : s.size ≤ maxLen) :
    (Instr.lookup 52 (.map (some mb)) (.string s) false).run Tryd.prog W = .ok (.string (pfS L s)) W := by
  obtain ⟨D, h1, h2, h3⟩ := h
  have hz : (zeroValue 9).run Tryd.prog W = .ok (.string ⟨#[]⟩) W := by kernel_rfl
  obtain ⟨v, ps, hrun, hv⟩ := h1.lookup lawT Tryd.underlying52 hz (plainElem_string Tryd.underlying9 (s := ⟨#[]⟩) (by unfold maxLen; decide)) (keyT_of hs)
  obtain ⟨x, rfl, hk, _⟩ := plainElem_string_inv Tryd.underlying9 hv
  have hk2 := congrArg Prod.fst hk
  dsimp only at hk2
  have := h3 s
  rw [show (DataW.lit (.string [])) = (DataW.lit (.string (⟨#[]⟩ : ByteArray).data.toList) : DataW Unit) from rfl] at this
  rw [this] at hk2
  injection hk2 with hk2
  injection hk2 with hk2
  rw [hrun, bytes_inj hk2]
theorem pfxP_snoc (L : List Pr6) (q s x : ByteArray) (h : s ∉ L.map Prod.snd) : pfS (L ++ [(q, s)]) x = if x = s then q else pfS L x := by
  unfold pfS pfxP
  rw [List.find?_append]
  by_cases hx : x = s
  · subst hx
    rw [if_pos rfl, List.find?_eq_none.2 (fun p hp => by
      simp only [decide_eq_true_eq]
      exact fun e => h (List.mem_map.2 ⟨p, hp, e⟩))]
    simp
  · rw [if_neg hx]
    cases L.find? fun p => decide (p.2 = x) with
    | some p => rfl
    | none => simp [Ne.symm hx]
theorem pm_put {W : World} {mb n : Nat} {L : List Pr6} (h : PMap W mb n L) (hn : n < 1073741824) {q s : ByteArray} (hs : s.size ≤ maxLen) (hq : q.size ≤ maxLen) (hnew : s ∉ L.map Prod.snd) :
    ∃ W', (Instr.mapUpdate 52 (.map (some mb)) (.string s) (.string q)).run Tryd.prog W = .ok () W' ∧ PMap W' mb (n + 1) (L ++ [(q, s)]) ∧ W.grownBy W' (some mb) := by
  obtain ⟨D, h1, h2, h3⟩ := h
  obtain ⟨w', hrun, hown, hg⟩ := h1.update lawT Tryd.underlying52 (by unfold maxLen; omega) (keyT_of hs) (plainElem_string Tryd.underlying9 hq)
  refine ⟨w', hrun, ⟨_, hown, h2.put _ _, fun x => ?_⟩, hg⟩
  rw [pfxP_snoc L q s x hnew]
  by_cases hx : x = s
  · subst hx
    rw [atKey_put_same h2 (show WideAt.IsKeyLit (keyT x) by trivial), if_pos rfl]
  · rw [atKey_put_other (keyT_ne hx), h3 x, if_neg hx]
theorem pm_new (W : World) : PMap (W.alloc (.map #[] 0)) W.heap.size 0 [] := ⟨_, World.ownsMap_made W _ _ _, isMap_empty, fun _ => rfl⟩
theorem cell_ltA {w : World} {p : Addr} {v : Value} (h : w.cell? p = some v) : p.block < w.heap.size := by
  rcases Nat.lt_or_ge p.block w.heap.size with h' | h'
  · exact h'
  · unfold World.cell? at h
    rw [Array.getElem?_eq_none h'] at h
    simp at h
/-- What the writer stands on. -/
structure WBase (s0 u0 : World) (b mb n : Nat) (L : List Pr6) (w : World) : Prop where
  bel : Bel s0 w
  rd : Reads u0 w
  pm : PMap w mb n L
  ge : s0.heap.size ≤ b
  ub : u0.heap.size ≤ b
  mlt : mb < b
  le : b ≤ w.heap.size
theorem WBase.below {s0 u0 : World} {b mb n : Nat} {L : List Pr6} {w w' : World} (h : WBase s0 u0 b mb n L w) (hb : Below b w w') : WBase s0 u0 b mb n L w' := by
  obtain ⟨h1, h2, h3, h4, h5, h6, h7⟩ := h
  refine ⟨Below.trans h1 (hb.mono h4), ⟨fun p v hp => ?_, Nat.le_trans h2.size hb.size⟩, h3.kept (hb.block mb h6), h4, h5, h6, Nat.le_trans h7 hb.size⟩
  have h8 := cell_ltA hp
  have h9 := h2.cell p v hp
  unfold World.cell? at h9 ⊢
  rw [hb.block p.block (by omega)]
  exact h9
theorem pfS_nil {L : List Pr6} (h : PrefOK L) (sp lo : ByteArray) : nameL L sp lo = if pfS L sp = ⟨#[]⟩ then lo.data.toList else (pfS L sp).data.toList ++ 58 :: lo.data.toList := by
  rw [nameL_pfx]
  unfold pfS
  cases hp : pfxP L sp with
  | none => rfl
  | some p =>
    have hne : p ≠ ⟨#[]⟩ := by
      unfold pfxP at hp
      obtain ⟨q, hq, rfl⟩ := Option.map_eq_some_iff.1 hp
      obtain ⟨_, ⟨_, g⟩ | ⟨_, g⟩ | ⟨_, _, i, _, _, g⟩⟩ := h.each q (List.mem_of_find?_eq_some hq)
      · rw [g]; decide +kernel
      · rw [g]; decide +kernel
      · rw [g]
        intro e
        have := congrArg (fun x : ByteArray => x.data.toList) e
        simp [numP] at this
    show p.data.toList ++ 58 :: lo.data.toList = _
    rw [if_neg (by simpa using hne)]
    rfl
set_option maxRecDepth 100000 in
set_option maxHeartbeats 8000000 in
theorem wname_c (s0 u0 : World) (b mb n : Nat) (L : List Pr6) (hL : PrefOK L) (l : List UInt8) (sp lo : ByteArray) (w : World) (h : WB b mb l w) (hw : WBase s0 u0 b mb n L w) (hsp : sp.size ≤ 1073741824) (hlo : lo.size ≤ 1073741824) (hpf : (pfS L sp).size ≤ 1073741824) (hl : l.length ≤ 1073741824) :
    Calls Tryd.prog 42 #[.pointer (some ⟨b, 0, none⟩), .agg #[.string sp, .string lo]] w fun e w' => e = .returned (.tuple #[]) ∧ RetWB b mb (l ++ nameL L sp lo) w w' := by
  rw [pfS_nil hL]
  have hlk := fun k => pm_look ((hw.below (Below.refl b w)).pm.kept (W' := (w.alloc (.cells #[.string sp, .string lo] 23)).drewN k) (by show (w.alloc _).heap[mb]? = _; exact (Bel.alloc w _).block hw.pm.lt)) (s := sp) (by unfold maxLen; omega)
  have hemp := lempty (pfS L sp)
  obtain ⟨q, hq⟩ : ∃ q, pfS L sp = q := ⟨_, rfl⟩
  rw [hq] at hlk hpf hemp ⊢
  obtain ⟨RL, hRL⟩ : ∃ R, l ++ (if q = ⟨#[]⟩ then lo.data.toList else q.data.toList ++ 58 :: lo.data.toList) = R := ⟨_, rfl⟩
  rw [hRL]
  have HRL := Lib.hid hRL
  clear hRL
  obtain ⟨V1, h1, q1, l1, s1⟩ := alloc_step w 23 [.string sp, .string lo]
  have hlk2 : ∀ k, (Instr.lookup 52 (.map (some mb)) (.string sp) false).run Tryd.prog (V1.drewN k) = .ok (.string q) (V1.drewN k) := by rw [← h1]; exact hlk
  have h1b := h.bel l1
  have c2 : V1.cell? ⟨b, 2, none⟩ = some (.map (some mb)) := h1b.far 0 _ rfl
  have n0 := q1.at 0
  have n1 := q1.at 1
  obtain ⟨bn, hbn⟩ : ∃ k, w.heap.size = k := ⟨_, rfl⟩
  rw [hbn] at n0 n1 q1
  have HV1 := Lib.hid h1
  have HBN := Lib.hid hbn
  have HW1 := Lib.hid h1b
  have HQ1 := Lib.hid q1
  have HB1 : Hid (Below b w V1) := Lib.hid (l1.mono (Nat.le_of_lt h.lt))
  have HK1 : Hid (KeepT (keepB WrE) w V1) := Lib.hid (KeepT.of_bel l1)
  clear hlk hq h1 q1 l1 s1 h1b hbn hw h hL
  go_enter Tryd.func42, Tryd.ntmps42
  go_upto_region 1 with fail
  rw [show w.alloc (.cells #[.string sp, .string lo] 23) = V1 from HV1.out, HBN.out]
  clear HV1
  go_quiet (fail)
  have hb2 : Bel V1 (V1.drewN nq) := Bel.drewN _ _
  have HWd := Lib.hid (HW1.out.bel hb2)
  have m1 := hb2.keep n1
  have HBd : Hid (Below b w (V1.drewN nq)) := Lib.hid (HB1.out.trans (hb2.mono (by have := HW1.out.lt; omega)))
  have HKd : Hid (KeepT (keepB WrE) w (V1.drewN nq)) := Lib.hid (HK1.out.trans (KeepT.of_bel hb2))
  have HQd := Lib.hid (HQ1.out.bel hb2)
  clear hb2 n0 n1 c2 hlk2 HW1 HQ1 HB1 HK1
  by_cases hq0 : q = ⟨#[]⟩
  · rw [decide_eq_true hq0] at hemp
    have HR2 : Hid (l ++ lo.data.toList = RL) := Lib.hid (by rw [← HRL.out, if_pos hq0])
    have HQ0 := Lib.hid hq0
    clear hq0
    go_upto_region 4 with fail
    refine wp_region_held_drew (S := fun w' => w'.cell? ⟨bn, 1, none⟩ = some (.string lo)) (by kernel_rfl) m1 (fun hHeld => ?_)
    refine wpAnyH_take (i := 0) (oi := _) (v := ?_) rfl (by kernel_rfl) (by kernel_rfl) (by kernel_rfl) (fun _ _ _ h => h) ?_ (by assumption) ?_
    rotate_left 1
    · first
        | (refine Or.inl ⟨by rfl, ?_⟩; intro w9 hSw; (try dsimp only at hSw); go_simp; (try with_reducible rfl); done)
        | (refine Or.inr ⟨by rfl, ?_⟩; rfl)
    simp only [List.getElem_toArray, List.getElem_cons_zero, Act.put, List.setIfInBounds_toArray, List.set_cons_zero, List.set_cons_succ]
    refine wpAnyH_take (i := 1) (oi := _) (v := ?_) rfl (by kernel_rfl) (by kernel_rfl) (by kernel_rfl) (fun _ _ _ h => h) ?_ (by assumption) ?_
    rotate_left 1
    · first
        | (refine Or.inl ⟨by rfl, ?_⟩; intro w9 hSw; (try dsimp only at hSw); go_simp; (try with_reducible rfl); done)
        | (refine Or.inr ⟨by rfl, ?_⟩; rfl)
    simp only [List.getElem_toArray, List.getElem_cons_succ, List.getElem_cons_zero, Act.put, List.setIfInBounds_toArray, List.set_cons_zero, List.set_cons_succ]
    refine wpAnyH_take (i := 2) (oi := _) (v := ?_) rfl (by kernel_rfl) (by kernel_rfl) (by kernel_rfl) (fun _ _ _ h => h) ?_ (by assumption) ?_
    rotate_left 1
    · first
        | (refine Or.inl ⟨by rfl, ?_⟩; intro w9 hSw; (try dsimp only at hSw); go_simp; (try with_reducible rfl); done)
        | (refine Or.inr ⟨by rfl, ?_⟩; rfl)
    simp only [List.getElem_toArray, List.getElem_cons_succ, List.getElem_cons_zero, Act.put, List.setIfInBounds_toArray, List.set_cons_zero, List.set_cons_succ]
    refine wpAnyH_take (i := 3) (oi := _) (v := ?_) rfl (by kernel_rfl) (by kernel_rfl) (by kernel_rfl) (fun _ _ _ h => h) ?_ (by assumption) ?_
    rotate_left 1
    · first
        | (refine Or.inl ⟨by rfl, ?_⟩; intro w9 hSw; (try dsimp only at hSw); go_simp; (try with_reducible rfl); done)
        | (refine Or.inr ⟨by rfl, ?_⟩; rfl)
    simp only [List.getElem_toArray, List.getElem_cons_succ, List.getElem_cons_zero, Act.put, List.setIfInBounds_toArray, List.set_cons_zero, List.set_cons_succ]
    refine wpAnyH_take (i := 4) (oi := _) (v := ?_) rfl (by kernel_rfl) (by kernel_rfl) (by kernel_rfl) (fun _ _ _ h => h) ?_ (by assumption) ?_
    rotate_left 1
    · first
        | (refine Or.inl ⟨by rfl, ?_⟩; intro w9 hSw; (try dsimp only at hSw); go_simp; (try with_reducible rfl); done)
        | (refine Or.inr ⟨by rfl, ?_⟩; rfl)
    simp only [List.getElem_toArray, List.getElem_cons_succ, List.getElem_cons_zero, Act.put, List.setIfInBounds_toArray, List.set_cons_zero, List.set_cons_succ]
    refine wpAnyH_ready (rs := [5]) (by kernel_rfl) (by simp) ?_
    refine AllReadyH.cons (o := _) rfl (fun K hK => ?_) AllReadyH.nil
    go_simp
    go_at_call 40
    refine (wstr_c b mb l lo _ (HWd.out.bel (Bel.drew _)) (by omega)).mono ?_
    rintro e5 w5 ⟨rfl, hw5, hb5, hk5⟩
    dsimp only
    have hq5 := (HQd.out.keepT (KeepT.of_bel (Bel.drew _)) keepW_types.2.2.2).keepT hk5 keepW_types.2.2.2
    refine hK.out _ _ (hq5.at 1) (fun hHeld => ?_)
    clear hK K
    refine wpAnyH_done (by kernel_rfl) ?_ _
    have HW5 := Lib.hid hw5
    have HB5 := Lib.hid ((HBd.out).trans (((Below.refl b _).drew).trans hb5))
    have HK5 := Lib.hid ((HKd.out).trans ((KeepT.of_bel (Bel.drew _)).trans hk5))
    clear hHeld hw5 hb5 hk5 hq5
    go_wp2_with fail
    trace_state
    go_end0
    exact ⟨rfl, by rw [← HR2.out]; exact HW5.out, HB5.out, HK5.out⟩
  · rw [decide_eq_false hq0] at hemp
    have HR2 : Hid (l ++ (q.data.toList ++ 58 :: lo.data.toList) = RL) := Lib.hid (by rw [← HRL.out, if_neg hq0])
    clear hq0
    have hcat : ¬ (9223372036854775807 < q.size + (⟨#[58]⟩ : ByteArray).size) := by
      have : (⟨#[58]⟩ : ByteArray).size = 1 := rfl
      omega
    have hsz : (q ++ ⟨#[58]⟩).size = q.size + 1 := by rw [ByteArray.size_append]; rfl
    have HS3 := Lib.hid (wstr_c b mb l (q ++ ⟨#[58]⟩) _ HWd.out (by omega))
    have HSZ := Lib.hid hsz
    clear hsz
    go_wp2_with fail
    refine HS3.out.mono ?_
    rintro e3 w3 ⟨rfl, hw3, hb3, hk3⟩
    have hdat : (q ++ ⟨#[58]⟩).data.toList = q.data.toList ++ [58] := by simp
    rw [hdat] at hw3
    have HW3 := Lib.hid hw3
    have HB3 := Lib.hid (HBd.out.trans hb3)
    have HK3 := Lib.hid (HKd.out.trans hk3)
    have HQ3 := Lib.hid (HQd.out.keepT hk3 keepW_types.2.2.2)
    have m3 := HQ3.out.at 1
    clear hw3 hb3 hk3 hdat HS3 HWd HBd HKd HQd m1
    go_upto_region 4 with fail
    refine wp_region_held_drew (S := fun w' => w'.cell? ⟨bn, 1, none⟩ = some (.string lo)) (by kernel_rfl) m3 (fun hHeld => ?_)
    refine wpAnyH_take (i := 0) (oi := _) (v := ?_) rfl (by kernel_rfl) (by kernel_rfl) (by kernel_rfl) (fun _ _ _ h => h) ?_ (by assumption) ?_
    rotate_left 1
    · first
        | (refine Or.inl ⟨by rfl, ?_⟩; intro w9 hSw; (try dsimp only at hSw); go_simp; (try with_reducible rfl); done)
        | (refine Or.inr ⟨by rfl, ?_⟩; rfl)
    simp only [List.getElem_toArray, List.getElem_cons_zero, Act.put, List.setIfInBounds_toArray, List.set_cons_zero, List.set_cons_succ]
    refine wpAnyH_take (i := 1) (oi := _) (v := ?_) rfl (by kernel_rfl) (by kernel_rfl) (by kernel_rfl) (fun _ _ _ h => h) ?_ (by assumption) ?_
    rotate_left 1
    · first
        | (refine Or.inl ⟨by rfl, ?_⟩; intro w9 hSw; (try dsimp only at hSw); go_simp; (try with_reducible rfl); done)
        | (refine Or.inr ⟨by rfl, ?_⟩; rfl)
    simp only [List.getElem_toArray, List.getElem_cons_succ, List.getElem_cons_zero, Act.put, List.setIfInBounds_toArray, List.set_cons_zero, List.set_cons_succ]
    refine wpAnyH_take (i := 2) (oi := _) (v := ?_) rfl (by kernel_rfl) (by kernel_rfl) (by kernel_rfl) (fun _ _ _ h => h) ?_ (by assumption) ?_
    rotate_left 1
    · first
        | (refine Or.inl ⟨by rfl, ?_⟩; intro w9 hSw; (try dsimp only at hSw); go_simp; (try with_reducible rfl); done)
        | (refine Or.inr ⟨by rfl, ?_⟩; rfl)
    simp only [List.getElem_toArray, List.getElem_cons_succ, List.getElem_cons_zero, Act.put, List.setIfInBounds_toArray, List.set_cons_zero, List.set_cons_succ]
    refine wpAnyH_take (i := 3) (oi := _) (v := ?_) rfl (by kernel_rfl) (by kernel_rfl) (by kernel_rfl) (fun _ _ _ h => h) ?_ (by assumption) ?_
    rotate_left 1
    · first
        | (refine Or.inl ⟨by rfl, ?_⟩; intro w9 hSw; (try dsimp only at hSw); go_simp; (try with_reducible rfl); done)
        | (refine Or.inr ⟨by rfl, ?_⟩; rfl)
    simp only [List.getElem_toArray, List.getElem_cons_succ, List.getElem_cons_zero, Act.put, List.setIfInBounds_toArray, List.set_cons_zero, List.set_cons_succ]
    refine wpAnyH_take (i := 4) (oi := _) (v := ?_) rfl (by kernel_rfl) (by kernel_rfl) (by kernel_rfl) (fun _ _ _ h => h) ?_ (by assumption) ?_
    rotate_left 1
    · first
        | (refine Or.inl ⟨by rfl, ?_⟩; intro w9 hSw; (try dsimp only at hSw); go_simp; (try with_reducible rfl); done)
        | (refine Or.inr ⟨by rfl, ?_⟩; rfl)
    simp only [List.getElem_toArray, List.getElem_cons_succ, List.getElem_cons_zero, Act.put, List.setIfInBounds_toArray, List.set_cons_zero, List.set_cons_succ]
    refine wpAnyH_ready (rs := [5]) (by kernel_rfl) (by simp) ?_
    refine AllReadyH.cons (o := _) rfl (fun K hK => ?_) AllReadyH.nil
    go_simp
    go_at_call 40
    refine (wstr_c b mb (l ++ (q.data.toList ++ [58])) lo _ (HW3.out.bel (Bel.drew _)) (by rw [List.length_append, List.length_append]; have : q.data.toList.length = q.size := rfl; simp; omega)).mono ?_
    rintro e5 w5 ⟨rfl, hw5, hb5, hk5⟩
    dsimp only
    have hq5 := (HQ3.out.keepT (KeepT.of_bel (Bel.drew _)) keepW_types.2.2.2).keepT hk5 keepW_types.2.2.2
    refine hK.out _ _ (hq5.at 1) (fun hHeld => ?_)
    clear hK K
    refine wpAnyH_done (by kernel_rfl) ?_ _
    have HW5 := Lib.hid hw5
    have HB5 := Lib.hid ((HB3.out).trans (((Below.refl b _).drew).trans hb5))
    have HK5 := Lib.hid ((HK3.out).trans ((KeepT.of_bel (Bel.drew _)).trans hk5))
    clear hHeld hw5 hb5 hk5 hq5
    go_wp2_with fail
    trace_state
    go_end0
    exact ⟨rfl, by rw [← HR2.out]; have h5 := HW5.out; rwa [List.append_assoc, List.append_assoc] at h5, HB5.out, HK5.out⟩
end Go.Proofs.YtojeclfcgnamoaaDoor

namespace Go.Proofs.YtojeclfcgnamoaaDoor
open Go.RowKit Go.Maps Go.Shelf

theorem valL_len (s : ByteArray) : (valL s).length = (escL true s).length + 3 := by unfold valL; simp
set_option maxRecDepth 100000 in
set_option maxHeartbeats 4000000 in
theorem wvalue_c (b mb : Nat) (l : List UInt8) (s : ByteArray) (w : World) (h : WB b mb l w) (hE : Env w) (hf : fineS s = true) (hs : s.size ≤ 1073741824) (hl : l.length + (valL s).length ≤ 1073741824) :
    Calls Tryd.prog 43 #[.pointer (some ⟨b, 0, none⟩), .string s] w fun e w' => e = .returned (.tuple #[]) ∧ RetWB b mb (l ++ valL s) w w' := by
  have hc := xescValue_c s hs w hE
  unfold escR at hc
  rw [if_pos hf] at hc
  rw [valL_len] at hl
  obtain ⟨v, hv⟩ : ∃ v : ByteArray, ⟨(escL true s).toArray⟩ = v := ⟨_, rfl⟩
  have hvl : valL s = [61, 34] ++ (v.data.toList ++ [34]) := by rw [← hv]; unfold valL; simp
  have hvs : v.size = (escL true s).length := by rw [← hv]; rfl
  rw [hvl]
  dsimp only at hc
  rw [hv] at hc
  have HC := Lib.hid hc
  have hsz : v.size ≤ 1073741824 := by omega
  have h1 : ¬ (9223372036854775807 < (⟨#[61, 34]⟩ : ByteArray).size + v.size) := by
    have : (⟨#[61, 34]⟩ : ByteArray).size = 2 := rfl
    omega
  have h2 : ¬ (9223372036854775807 < (⟨#[61, 34]⟩ ++ v : ByteArray).size + (⟨#[34]⟩ : ByteArray).size) := by
    have : (⟨#[34]⟩ : ByteArray).size = 1 := rfl
    have : (⟨#[61, 34]⟩ : ByteArray).size = 2 := rfl
    rw [ByteArray.size_append]
    omega
  have HSZ : Hid ((⟨#[61, 34]⟩ ++ v ++ ⟨#[34]⟩ : ByteArray).size ≤ 1073741830) := Lib.hid (by
    have h3 : (⟨#[34]⟩ : ByteArray).size = 1 := rfl
    have h4 : (⟨#[61, 34]⟩ : ByteArray).size = 2 := rfl
    rw [ByteArray.size_append, ByteArray.size_append, h3, h4]
    omega)
  have HD : Hid ((⟨#[61, 34]⟩ ++ v ++ ⟨#[34]⟩ : ByteArray).data.toList = [61, 34] ++ (v.data.toList ++ [34])) := Lib.hid (by simp)
  have hl2 : l.length ≤ 1073741824 := by omega
  have HW := Lib.hid h
  obtain ⟨X, hX⟩ : ∃ X, l ++ ([61, 34] ++ (v.data.toList ++ [34])) = X := ⟨_, rfl⟩
  rw [hX]
  have HX := Lib.hid hX
  have hbw := h.lt
  clear hc hv hvl hvs hE h hl hX
  go_enter Tryd.func43, Tryd.ntmps43
  go_wp2_with fail
  refine HC.out.mono ?_
  rintro e1 w1 ⟨rfl, hb1⟩
  have HW1 := Lib.hid (HW.out.bel hb1)
  have HB1 : Hid (Below b w w1) := Lib.hid (hb1.mono (Nat.le_of_lt hbw))
  have HK1 : Hid (KeepT (keepB WrE) w w1) := Lib.hid (KeepT.of_bel hb1)
  clear hb1 HC
  go_wp2_with fail
  refine (wstr_c b mb l _ _ HW1.out (by have := HSZ.out; omega)).mono ?_
  rintro e2 w2 ⟨rfl, hw2, hb2, hk2⟩
  rw [HD.out, HX.out] at hw2
  have HW2 := Lib.hid hw2
  have HB2 := Lib.hid (HB1.out.trans hb2)
  have HK2 := Lib.hid (HK1.out.trans hk2)
  clear hw2 hb2 hk2
  go_wp2_with fail
  go_end0
  exact ⟨rfl, HW2.out, HB2.out, HK2.out⟩
end Go.Proofs.YtojeclfcgnamoaaDoor
