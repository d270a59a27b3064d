/-
  xmlout: the walks of the writer's name, value, node, and of Write.
-/
import Derived.Test.YtojeclfcgnamoaaDoorWE
import Derived.Test.YtojeclfcgnamoaaDoorWF
import Derived.Test.YtojeclfcgnamoaaDoorBEM
namespace Go.Proofs.YtojeclfcgnamoaaDoor
open Go.RowKit Go.Maps Go.Shelf

abbrev WrE : TypeId := 57
/-- The writer: its bytes, its map. -/
def WB (b mb : Nat) (l : List UInt8) (w : World) : Prop := EB WrE b b [.map (some mb)] (Lib.byteCells l) w
theorem wr_heads : Heads WrE 3 := ⟨by kernel_rfl, by decide⟩
theorem bcells_len (l : List UInt8) : (Lib.byteCells l).length = l.length := by simp [Lib.byteCells]
theorem bcells_app (l m : List UInt8) : Lib.byteCells (l ++ m) = Lib.byteCells l ++ Lib.byteCells m := by simp [Lib.byteCells]
theorem keepW_types : keepB WrE 27 = true ∧ keepB WrE 63 = true ∧ keepB WrE 47 = true ∧ keepB WrE 23 = true := by decide
def RetWB (b mb : Nat) (l : List UInt8) (w : World) (w' : World) : Prop := WB b mb l w' ∧ Below b w w' ∧ KeepT (keepB WrE) w w'
theorem wstr_c (b mb : Nat) (l : List UInt8) (x : ByteArray) (w : World) (h : WB b mb l w) (hl : l.length + x.size ≤ 140737488355328) :
    Calls Tryd.prog 40 #[.pointer (some ⟨b, 0, none⟩), .string x] w fun e w' => e = .returned (.tuple #[.int .i64 x.size, .nilIface]) ∧ RetWB b mb (l ++ x.data.toList) w w' := by
  refine (ewstr_c WrE b b [.map (some mb)] (Lib.byteCells l) x w wr_heads h (by rw [bcells_len]; exact hl) (Nat.le_of_lt h.lt)).mono ?_
  rintro e w' ⟨rfl, h1, h2, h3⟩
  refine ⟨rfl, ?_, h2, h3⟩
  unfold WB
  rw [bcells_app]
  exact h1
set_option maxHeartbeats 2000000 in
set_option maxRecDepth 100000 in
/-- WriteByte at the writer. -/
theorem wbyte_c (b mb : Nat) (l : List UInt8) (c : UInt8) (w : World) (h : WB b mb l w) (hl : l.length ≤ 1073741824) :
    Calls Tryd.prog 41 #[.pointer (some ⟨b, 0, none⟩), .int .u8 c.toNat] w fun e w' => e = .returned .nilIface ∧ RetWB b mb (l ++ [c]) w w' := by
  have HC := Lib.hid (ecopy_c WrE b b [.map (some mb)] (Lib.byteCells l) w wr_heads h)
  have hB := h.1
  have hbw := h.lt
  obtain ⟨z, hz⟩ : ∃ z : Int, (c.toNat : Int) = z := ⟨_, rfl⟩
  rw [hz]
  have HZ := Lib.hid hz
  clear hz
  go_enter Tryd.func41, Tryd.ntmps41
  go_wp2_with fail
  refine HC.out.mono ?_
  rintro e w1 ⟨rfl, ⟨v, hbk, hown, hne⟩, hb1, hk1⟩
  have c0 : w1.cell? ⟨b, 0, none⟩ = some (.pointer (some ⟨b, 0, none⟩)) := by rw [Lib.cell_of_heap hbk]; rfl
  have c1 : w1.cell? ⟨b, 1, none⟩ = some v := by rw [Lib.cell_of_heap hbk]; rfl
  rw [bcells_len] at hown
  have hBb : b ≤ (w1.alloc (.cells #[.int .u8 z] 5)).heap.size := by rw [World.size_alloc]; have := hb1.size; omega
  have hlt1 : b < w1.heap.size := (Array.getElem?_eq_some_iff.1 hbk).1
  have HBK := Lib.hid (show (w1.alloc (.cells #[.int .u8 z] 5)).heap[b]? = _ from (Bel.block (Bel.alloc w1 _) hlt1).trans hbk)
  have HOW := Lib.hid (own_bel hown (Bel.alloc w1 (.cells #[.int .u8 z] 5)))
  have HB1 := Lib.hid hb1
  have HK1 := Lib.hid hk1
  have HNE := Lib.hid hne
  clear hbk hown hb1 hk1 hne HC
  go_wp2_with (at_builtin; refine wpL_append1k rfl _ _ 31 rfl b hBb 5 (.int .u8 0) 1 1 Tryd.underlying31 info_byte rfl (by decide) (by decide) _ l.length _ rfl HOW.out ⟨w1.heap.size, 0, none⟩ 1 [.int .u8 z] rfl rfl (cells_new _ _ _) (by simp [Value.oneCell']) (by omega) ?_; intro g cap w2 hown2 hg2; have hb2 : w2.heap[b]? = some (.cells (Value.pointer (some ⟨b, 0, none⟩) :: v :: [.map (some mb)]).toArray WrE (0, 0)) := (hg2.block b (by rw [World.size_alloc]; omega) (fun e => HNE.out e.symm)).trans HBK.out; have d1 : w2.cell? ⟨b, 1, none⟩ = some v := (by rw [Lib.cell_of_heap hb2]; rfl); have f1 : w2.frozen? ⟨b, 1, none⟩ = false := Lib.frozen_of_heap hb2 1; have HB2 := Lib.hid hb2; have HO2 := Lib.hid hown2; have HG2 := Lib.hid hg2; clear hb2 hown2 hg2)
  go_ret
  have hcl : Lib.byteCells (l ++ [c]) = Lib.byteCells l ++ [.int .u8 z] := by rw [bcells_app, ← HZ.out]; rfl
  refine ⟨rfl, ?_, ?_, ?_⟩
  · obtain ⟨h1, h2, h3⟩ := eb_put (E := WrE) (bs' := Lib.byteCells (l ++ [c])) HB2.out (by rw [hcl, List.length_append, bcells_len]; exact HO2.out) wr_heads.2
    exact ⟨hB, some ⟨b, 0, none⟩, _, .inr rfl, h1, h2, h3⟩
  · have hb : Below b w1 (w1.alloc (.cells #[.int .u8 z] 5)) := (Below.refl b w1).alloc (by omega) _
    exact ((HB1.out.trans hb).grown HG2.out hBb (fun k hk => (HOW.out.lt k hk).1)).setCell (p := ⟨b, 1, none⟩) hB _
  · exact ((HK1.out.trans (KeepT.of_bel (Bel.alloc w1 _))).trans (KeepT.grow HOW.out (keepB_byte WrE) HG2.out)).trans (KeepT.set (blk_of HB2.out) (keepB_self WrE) 1 _)
/-! The map of prefixes. -/
def pfS (L : List Pr6) (s : ByteArray) : ByteArray := (pfxP L s).getD ⟨#[]⟩
def PMap (W : World) (mb n : Nat) (L : List Pr6) : Prop := ∃ D : DataW Unit, W.ownsMap Tryd.prog 9 (plainElem Tryd.prog 9) mb n D ∧ IsMap D ∧ ∀ s, D.atKey (keyT s) (.lit (.string [])) = .lit (.string (pfS L s).data.toList)
theorem PMap.kept {W W' : World} {mb n : Nat} {L : List Pr6} (h : PMap W mb n L) (hb : W'.heap[mb]? = W.heap[mb]?) : PMap W' mb n L := by
  obtain ⟨D, ⟨es, c, h1, h2⟩, h3⟩ := h
  exact ⟨D, ⟨es, c, hb.trans h1, h2⟩, h3⟩
theorem PMap.lt {W : World} {mb n : Nat} {L : List Pr6} (h : PMap W mb n L) : mb < W.heap.size := by
  obtain ⟨D, h1, _⟩ := h
  exact h1.lt
set_option maxRecDepth 100000 in
theorem pm_look {W : World} {mb n : Nat} {L : List Pr6} (h : PMap W mb n L) {s : ByteArray} (hs : s.size ≤ maxLen) :
    (Instr.lookup 52 (.map (some mb)) (.string s) false).run Tryd.prog W = .ok (.string (pfS L s)) W := by
  obtain ⟨D, h1, h2, h3⟩ := h
  have hz : (zeroValue 9).run Tryd.prog W = .ok (.string ⟨#[]⟩) W := by kernel_rfl
  obtain ⟨v, ps, hrun, hv⟩ := h1.lookup lawT Tryd.underlying52 hz (plainElem_string Tryd.underlying9 (s := ⟨#[]⟩) (by unfold maxLen; decide)) (keyT_of hs)
  obtain ⟨x, rfl, hk, _⟩ := plainElem_string_inv Tryd.underlying9 hv
  have hk2 := congrArg Prod.fst hk
  dsimp only at hk2
  have := h3 s
  rw [show (DataW.lit (.string [])) = (DataW.lit (.string (⟨#[]⟩ : ByteArray).data.toList) : DataW Unit) from rfl] at this
  rw [this] at hk2
  injection hk2 with hk2
  injection hk2 with hk2
  rw [hrun, bytes_inj hk2]
theorem pfxP_snoc (L : List Pr6) (q s x : ByteArray) (h : s ∉ L.map Prod.snd) : pfS (L ++ [(q, s)]) x = if x = s then q else pfS L x := by
  unfold pfS pfxP
  rw [List.find?_append]
  by_cases hx : x = s
  · subst hx
    rw [if_pos rfl, List.find?_eq_none.2 (fun p hp => by
      simp only [decide_eq_true_eq]
      exact fun e => h (List.mem_map.2 ⟨p, hp, e⟩))]
    simp
  · rw [if_neg hx]
    cases L.find? fun p => decide (p.2 = x) with
    | some p => rfl
    | none => simp [Ne.symm hx]
theorem pm_put {W : World} {mb n : Nat} {L : List Pr6} (h : PMap W mb n L) (hn : n < 1073741824) {q s : ByteArray} (hs : s.size ≤ maxLen) (hq : q.size ≤ maxLen) (hnew : s ∉ L.map Prod.snd) :
    ∃ W', (Instr.mapUpdate 52 (.map (some mb)) (.string s) (.string q)).run Tryd.prog W = .ok () W' ∧ PMap W' mb (n + 1) (L ++ [(q, s)]) ∧ W.grownBy W' (some mb) := by
  obtain ⟨D, h1, h2, h3⟩ := h
  obtain ⟨w', hrun, hown, hg⟩ := h1.update lawT Tryd.underlying52 (by unfold maxLen; omega) (keyT_of hs) (plainElem_string Tryd.underlying9 hq)
  refine ⟨w', hrun, ⟨_, hown, h2.put _ _, fun x => ?_⟩, hg⟩
  rw [pfxP_snoc L q s x hnew]
  by_cases hx : x = s
  · subst hx
    rw [atKey_put_same h2 (show WideAt.IsKeyLit (keyT x) by trivial), if_pos rfl]
  · rw [atKey_put_other (keyT_ne hx), h3 x, if_neg hx]
theorem pm_new (W : World) : PMap (W.alloc (.map #[] 0)) W.heap.size 0 [] := ⟨_, World.ownsMap_made W _ _ _, isMap_empty, fun _ => rfl⟩
theorem cell_ltA {w : World} {p : Addr} {v : Value} (h : w.cell? p = some v) : p.block < w.heap.size := by
  rcases Nat.lt_or_ge p.block w.heap.size with h' | h'
  · exact h'
  · unfold World.cell? at h
    rw [Array.getElem?_eq_none h'] at h
    simp at h
/-- What the writer stands on. -/
structure WBase (s0 u0 : World) (b mb n : Nat) (L : List Pr6) (w : World) : Prop where
  bel : Bel s0 w
  rd : Reads u0 w
  pm : PMap w mb n L
  ge : s0.heap.size ≤ b
  ub : u0.heap.size ≤ b
  mlt : mb < b
  le : b ≤ w.heap.size
theorem WBase.below {s0 u0 : World} {b mb n : Nat} {L : List Pr6} {w w' : World} (h : WBase s0 u0 b mb n L w) (hb : Below b w w') : WBase s0 u0 b mb n L w' := by
  obtain ⟨h1, h2, h3, h4, h5, h6, h7⟩ := h
  refine ⟨Below.trans h1 (hb.mono h4), ⟨fun p v hp => ?_, Nat.le_trans h2.size hb.size⟩, h3.kept (hb.block mb h6), h4, h5, h6, Nat.le_trans h7 hb.size⟩
  have h8 := cell_ltA hp
  have h9 := h2.cell p v hp
  unfold World.cell? at h9 ⊢
  rw [hb.block p.block (by omega)]
  exact h9
theorem pfS_nil {L : List Pr6} (h : PrefOK L) (sp lo : ByteArray) : nameL L sp lo = if pfS L sp = ⟨#[]⟩ then lo.data.toList else (pfS L sp).data.toList ++ 58 :: lo.data.toList := by
  rw [nameL_pfx]
  unfold pfS
  cases hp : pfxP L sp with
  | none => rfl
  | some p =>
    have hne : p ≠ ⟨#[]⟩ := by
      unfold pfxP at hp
      obtain ⟨q, hq, rfl⟩ := Option.map_eq_some_iff.1 hp
      obtain ⟨_, ⟨_, g⟩ | ⟨_, g⟩ | ⟨_, _, i, _, _, g⟩⟩ := h.each q (List.mem_of_find?_eq_some hq)
      · rw [g]; decide +kernel
      · rw [g]; decide +kernel
      · rw [g]
        intro e
        have := congrArg (fun x : ByteArray => x.data.toList) e
        simp [numP] at this
    show p.data.toList ++ 58 :: lo.data.toList = _
    rw [if_neg (by simpa using hne)]
    rfl
set_option maxRecDepth 100000 in
set_option maxHeartbeats 8000000 in
theorem wname_c (s0 u0 : World) (b mb n : Nat) (L : List Pr6) (hL : PrefOK L) (l : List UInt8) (sp lo : ByteArray) (w : World) (h : WB b mb l w) (hw : WBase s0 u0 b mb n L w) (hsp : sp.size ≤ 1073741824) (hlo : lo.size ≤ 1073741824) (hpf : (pfS L sp).size ≤ 1073741824) (hl : l.length ≤ 1073741824) :
    Calls Tryd.prog 42 #[.pointer (some ⟨b, 0, none⟩), .agg #[.string sp, .string lo]] w fun e w' => e = .returned (.tuple #[]) ∧ RetWB b mb (l ++ nameL L sp lo) w w' := by
  rw [pfS_nil hL]
  have hlk := fun k => pm_look ((hw.below (Below.refl b w)).pm.kept (W' := (w.alloc (.cells #[.string sp, .string lo] 23)).drewN k) (by show (w.alloc _).heap[mb]? = _; exact (Bel.alloc w _).block hw.pm.lt)) (s := sp) (by unfold maxLen; omega)
  have hemp := lempty (pfS L sp)
  obtain ⟨q, hq⟩ : ∃ q, pfS L sp = q := ⟨_, rfl⟩
  rw [hq] at hlk hpf hemp ⊢
  obtain ⟨RL, hRL⟩ : ∃ R, l ++ (if q = ⟨#[]⟩ then lo.data.toList else q.data.toList ++ 58 :: lo.data.toList) = R := ⟨_, rfl⟩
  rw [hRL]
  have HRL := Lib.hid hRL
  clear hRL
  obtain ⟨V1, h1, q1, l1, s1⟩ := alloc_step w 23 [.string sp, .string lo]
  have hlk2 : ∀ k, (Instr.lookup 52 (.map (some mb)) (.string sp) false).run Tryd.prog (V1.drewN k) = .ok (.string q) (V1.drewN k) := by rw [← h1]; exact hlk
  have h1b := h.bel l1
  have c2 : V1.cell? ⟨b, 2, none⟩ = some (.map (some mb)) := h1b.far 0 _ rfl
  have n0 := q1.at 0
  have n1 := q1.at 1
  obtain ⟨bn, hbn⟩ : ∃ k, w.heap.size = k := ⟨_, rfl⟩
  rw [hbn] at n0 n1 q1
  have HV1 := Lib.hid h1
  have HBN := Lib.hid hbn
  have HW1 := Lib.hid h1b
  have HQ1 := Lib.hid q1
  have HB1 : Hid (Below b w V1) := Lib.hid (l1.mono (Nat.le_of_lt h.lt))
  have HK1 : Hid (KeepT (keepB WrE) w V1) := Lib.hid (KeepT.of_bel l1)
  clear hlk hq h1 q1 l1 s1 h1b hbn hw h hL
  go_enter Tryd.func42, Tryd.ntmps42
  go_upto_region 1 with fail
  rw [show w.alloc (.cells #[.string sp, .string lo] 23) = V1 from HV1.out, HBN.out]
  clear HV1
  go_quiet (fail)
  have hb2 : Bel V1 (V1.drewN nq) := Bel.drewN _ _
  have HWd := Lib.hid (HW1.out.bel hb2)
  have m1 := hb2.keep n1
  have HBd : Hid (Below b w (V1.drewN nq)) := Lib.hid (HB1.out.trans (hb2.mono (by have := HW1.out.lt; omega)))
  have HKd : Hid (KeepT (keepB WrE) w (V1.drewN nq)) := Lib.hid (HK1.out.trans (KeepT.of_bel hb2))
  have HQd := Lib.hid (HQ1.out.bel hb2)
  clear hb2 n0 n1 c2 hlk2 HW1 HQ1 HB1 HK1
  by_cases hq0 : q = ⟨#[]⟩
  · rw [decide_eq_true hq0] at hemp
    have HR2 : Hid (l ++ lo.data.toList = RL) := Lib.hid (by rw [← HRL.out, if_pos hq0])
    have HQ0 := Lib.hid hq0
    clear hq0
    go_upto_region 4 with fail
    refine wp_region_held_drew (S := fun w' => w'.cell? ⟨bn, 1, none⟩ = some (.string lo)) (by kernel_rfl) m1 (fun hHeld => ?_)
    refine wpAnyH_take (i := 0) (oi := _) (v := ?_) rfl (by kernel_rfl) (by kernel_rfl) (by kernel_rfl) (fun _ _ _ h => h) ?_ (by assumption) ?_
    rotate_left 1
    · first
        | (refine Or.inl ⟨by rfl, ?_⟩; intro w9 hSw; (try dsimp only at hSw); go_simp; (try with_reducible rfl); done)
        | (refine Or.inr ⟨by rfl, ?_⟩; rfl)
    simp only [List.getElem_toArray, List.getElem_cons_zero, Act.put, List.setIfInBounds_toArray, List.set_cons_zero, List.set_cons_succ]
    refine wpAnyH_take (i := 1) (oi := _) (v := ?_) rfl (by kernel_rfl) (by kernel_rfl) (by kernel_rfl) (fun _ _ _ h => h) ?_ (by assumption) ?_
    rotate_left 1
    · first
        | (refine Or.inl ⟨by rfl, ?_⟩; intro w9 hSw; (try dsimp only at hSw); go_simp; (try with_reducible rfl); done)
        | (refine Or.inr ⟨by rfl, ?_⟩; rfl)
    simp only [List.getElem_toArray, List.getElem_cons_succ, List.getElem_cons_zero, Act.put, List.setIfInBounds_toArray, List.set_cons_zero, List.set_cons_succ]
    refine wpAnyH_take (i := 2) (oi := _) (v := ?_) rfl (by kernel_rfl) (by kernel_rfl) (by kernel_rfl) (fun _ _ _ h => h) ?_ (by assumption) ?_
    rotate_left 1
    · first
        | (refine Or.inl ⟨by rfl, ?_⟩; intro w9 hSw; (try dsimp only at hSw); go_simp; (try with_reducible rfl); done)
        | (refine Or.inr ⟨by rfl, ?_⟩; rfl)
    simp only [List.getElem_toArray, List.getElem_cons_succ, List.getElem_cons_zero, Act.put, List.setIfInBounds_toArray, List.set_cons_zero, List.set_cons_succ]
    refine wpAnyH_take (i := 3) (oi := _) (v := ?_) rfl (by kernel_rfl) (by kernel_rfl) (by kernel_rfl) (fun _ _ _ h => h) ?_ (by assumption) ?_
    rotate_left 1
    · first
        | (refine Or.inl ⟨by rfl, ?_⟩; intro w9 hSw; (try dsimp only at hSw); go_simp; (try with_reducible rfl); done)
        | (refine Or.inr ⟨by rfl, ?_⟩; rfl)
    simp only [List.getElem_toArray, List.getElem_cons_succ, List.getElem_cons_zero, Act.put, List.setIfInBounds_toArray, List.set_cons_zero, List.set_cons_succ]
    refine wpAnyH_take (i := 4) (oi := _) (v := ?_) rfl (by kernel_rfl) (by kernel_rfl) (by kernel_rfl) (fun _ _ _ h => h) ?_ (by assumption) ?_
    rotate_left 1
    · first
        | (refine Or.inl ⟨by rfl, ?_⟩; intro w9 hSw; (try dsimp only at hSw); go_simp; (try with_reducible rfl); done)
        | (refine Or.inr ⟨by rfl, ?_⟩; rfl)
    simp only [List.getElem_toArray, List.getElem_cons_succ, List.getElem_cons_zero, Act.put, List.setIfInBounds_toArray, List.set_cons_zero, List.set_cons_succ]
    refine wpAnyH_ready (rs := [5]) (by kernel_rfl) (by simp) ?_
    refine AllReadyH.cons (o := _) rfl (fun K hK => ?_) AllReadyH.nil
    go_simp
    go_at_call 40
    refine (wstr_c b mb l lo _ (HWd.out.bel (Bel.drew _)) (by omega)).mono ?_
    rintro e5 w5 ⟨rfl, hw5, hb5, hk5⟩
    dsimp only
    have hq5 := (HQd.out.keepT (KeepT.of_bel (Bel.drew _)) keepW_types.2.2.2).keepT hk5 keepW_types.2.2.2
    refine hK.out _ _ (hq5.at 1) (fun hHeld => ?_)
    clear hK K
    refine wpAnyH_done (by kernel_rfl) ?_ _
    have HW5 := Lib.hid hw5
    have HB5 := Lib.hid ((HBd.out).trans (((Below.refl b _).drew).trans hb5))
    have HK5 := Lib.hid ((HKd.out).trans ((KeepT.of_bel (Bel.drew _)).trans hk5))
    clear hHeld hw5 hb5 hk5 hq5
    go_wp2_with fail
    trace_state
    go_end0
    exact ⟨rfl, by rw [← HR2.out]; exact HW5.out, HB5.out, HK5.out⟩
  · rw [decide_eq_false hq0] at hemp
    have HR2 : Hid (l ++ (q.data.toList ++ 58 :: lo.data.toList) = RL) := Lib.hid (by rw [← HRL.out, if_neg hq0])
    clear hq0
    have hcat : ¬ (9223372036854775807 < q.size + (⟨#[58]⟩ : ByteArray).size) := by
      have : (⟨#[58]⟩ : ByteArray).size = 1 := rfl
      omega
    have hsz : (q ++ ⟨#[58]⟩).size = q.size + 1 := by rw [ByteArray.size_append]; rfl
    have HS3 := Lib.hid (wstr_c b mb l (q ++ ⟨#[58]⟩) _ HWd.out (by omega))
    have HSZ := Lib.hid hsz
    clear hsz
    go_wp2_with fail
    refine HS3.out.mono ?_
    rintro e3 w3 ⟨rfl, hw3, hb3, hk3⟩
    have hdat : (q ++ ⟨#[58]⟩).data.toList = q.data.toList ++ [58] := by simp
    rw [hdat] at hw3
    have HW3 := Lib.hid hw3
    have HB3 := Lib.hid (HBd.out.trans hb3)
    have HK3 := Lib.hid (HKd.out.trans hk3)
    have HQ3 := Lib.hid (HQd.out.keepT hk3 keepW_types.2.2.2)
    have m3 := HQ3.out.at 1
    clear hw3 hb3 hk3 hdat HS3 HWd HBd HKd HQd m1
    go_upto_region 4 with fail
    refine wp_region_held_drew (S := fun w' => w'.cell? ⟨bn, 1, none⟩ = some (.string lo)) (by kernel_rfl) m3 (fun hHeld => ?_)
    refine wpAnyH_take (i := 0) (oi := _) (v := ?_) rfl (by kernel_rfl) (by kernel_rfl) (by kernel_rfl) (fun _ _ _ h => h) ?_ (by assumption) ?_
    rotate_left 1
    · first
        | (refine Or.inl ⟨by rfl, ?_⟩; intro w9 hSw; (try dsimp only at hSw); go_simp; (try with_reducible rfl); done)
        | (refine Or.inr ⟨by rfl, ?_⟩; rfl)
    simp only [List.getElem_toArray, List.getElem_cons_zero, Act.put, List.setIfInBounds_toArray, List.set_cons_zero, List.set_cons_succ]
    refine wpAnyH_take (i := 1) (oi := _) (v := ?_) rfl (by kernel_rfl) (by kernel_rfl) (by kernel_rfl) (fun _ _ _ h => h) ?_ (by assumption) ?_
    rotate_left 1
    · first
        | (refine Or.inl ⟨by rfl, ?_⟩; intro w9 hSw; (try dsimp only at hSw); go_simp; (try with_reducible rfl); done)
        | (refine Or.inr ⟨by rfl, ?_⟩; rfl)
    simp only [List.getElem_toArray, List.getElem_cons_succ, List.getElem_cons_zero, Act.put, List.setIfInBounds_toArray, List.set_cons_zero, List.set_cons_succ]
    refine wpAnyH_take (i := 2) (oi := _) (v := ?_) rfl (by kernel_rfl) (by kernel_rfl) (by kernel_rfl) (fun _ _ _ h => h) ?_ (by assumption) ?_
    rotate_left 1
    · first
        | (refine Or.inl ⟨by rfl, ?_⟩; intro w9 hSw; (try dsimp only at hSw); go_simp; (try with_reducible rfl); done)
        | (refine Or.inr ⟨by rfl, ?_⟩; rfl)
    simp only [List.getElem_toArray, List.getElem_cons_succ, List.getElem_cons_zero, Act.put, List.setIfInBounds_toArray, List.set_cons_zero, List.set_cons_succ]
    refine wpAnyH_take (i := 3) (oi := _) (v := ?_) rfl (by kernel_rfl) (by kernel_rfl) (by kernel_rfl) (fun _ _ _ h => h) ?_ (by assumption) ?_
    rotate_left 1
    · first
        | (refine Or.inl ⟨by rfl, ?_⟩; intro w9 hSw; (try dsimp only at hSw); go_simp; (try with_reducible rfl); done)
        | (refine Or.inr ⟨by rfl, ?_⟩; rfl)
    simp only [List.getElem_toArray, List.getElem_cons_succ, List.getElem_cons_zero, Act.put, List.setIfInBounds_toArray, List.set_cons_zero, List.set_cons_succ]
    refine wpAnyH_take (i := 4) (oi := _) (v := ?_) rfl (by kernel_rfl) (by kernel_rfl) (by kernel_rfl) (fun _ _ _ h => h) ?_ (by assumption) ?_
    rotate_left 1
    · first
        | (refine Or.inl ⟨by rfl, ?_⟩; intro w9 hSw; (try dsimp only at hSw); go_simp; (try with_reducible rfl); done)
        | (refine Or.inr ⟨by rfl, ?_⟩; rfl)
    simp only [List.getElem_toArray, List.getElem_cons_succ, List.getElem_cons_zero, Act.put, List.setIfInBounds_toArray, List.set_cons_zero, List.set_cons_succ]
    refine wpAnyH_ready (rs := [5]) (by kernel_rfl) (by simp) ?_
    refine AllReadyH.cons (o := _) rfl (fun K hK => ?_) AllReadyH.nil
    go_simp
    go_at_call 40
    refine (wstr_c b mb (l ++ (q.data.toList ++ [58])) lo _ (HW3.out.bel (Bel.drew _)) (by rw [List.length_append, List.length_append]; have : q.data.toList.length = q.size := rfl; simp; omega)).mono ?_
    rintro e5 w5 ⟨rfl, hw5, hb5, hk5⟩
    dsimp only
    have hq5 := (HQ3.out.keepT (KeepT.of_bel (Bel.drew _)) keepW_types.2.2.2).keepT hk5 keepW_types.2.2.2
    refine hK.out _ _ (hq5.at 1) (fun hHeld => ?_)
    clear hK K
    refine wpAnyH_done (by kernel_rfl) ?_ _
    have HW5 := Lib.hid hw5
    have HB5 := Lib.hid ((HB3.out).trans (((Below.refl b _).drew).trans hb5))
    have HK5 := Lib.hid ((HK3.out).trans ((KeepT.of_bel (Bel.drew _)).trans hk5))
    clear hHeld hw5 hb5 hk5 hq5
    go_wp2_with fail
    trace_state
    go_end0
    exact ⟨rfl, by rw [← HR2.out]; have h5 := HW5.out; rwa [List.append_assoc, List.append_assoc] at h5, HB5.out, HK5.out⟩
end Go.Proofs.YtojeclfcgnamoaaDoor
