/-
  logic's laws: the document's example.
-/
import Derived.Test.YtchbhcjhoocjaaaGreatDoorRLC
import Derived.Stop.RegionWithIn
namespace Go.Proofs.YtchbhcjhoocjaaaGreatDoor
open Go.RowKit Go.Shelf
attribute [local go_sem] Oper.semAt_some

def laX : Lg := .mk 0 (.mk 0 ⟨#[49]⟩ [] []) ⟨#[]⟩ [] [] [] [] []
def abX : Ex := .mk 5 ⟨#[43]⟩ [] [nE ⟨#[97]⟩, nE ⟨#[98]⟩]
def lbX : Lg := .mk 0 abX ⟨#[]⟩ [] [] [] [] []
def exL : Lg := .mk 2 emptyE ⟨#[]⟩ [] [] [] [⟨#[97]⟩, ⟨#[]⟩] [laX, lbX]
theorem exL_check : CheckL exL = 0 := by decide +kernel
theorem exL_bulk : exL.bulk ≤ 1000 := by decide +kernel
theorem exL_free : uniqS (freeL exL []) = [⟨#[98]⟩] := by
  refine uniq_eq (by unfold Srt; exact List.pairwise_singleton _ _) fun x => ?_
  rw [mem_freeL0, List.mem_singleton]
  have hp : partsL exL = [] := rfl
  have h1 : ∀ z, z ∈ freeL laX [] ↔ False := fun z => by
    rw [mem_freeL0]
    have hp : partsL laX = [laX.e] := rfl
    have hf : freeE laX.e [] = [] := by decide +kernel
    rw [hp]
    rw [show (∃ e ∈ [laX.e], z ∈ freeE e []) ↔ z ∈ freeE laX.e [] from by simp, hf]
    simp [laX, Lg.l]
  have h2 : ∀ z, z ∈ freeL lbX [] ↔ z = ⟨#[97]⟩ ∨ z = ⟨#[98]⟩ := fun z => by
    rw [mem_freeL0]
    have hp : partsL lbX = [abX] := rfl
    have hf : freeE abX [] = [⟨#[97]⟩, ⟨#[98]⟩] := by decide +kernel
    rw [hp]
    rw [show (∃ e ∈ [abX], z ∈ freeE e []) ↔ z ∈ freeE abX [] from by simp, hf]
    simp [lbX, Lg.l]
  rw [hp]
  constructor
  · rintro (⟨e, he, _⟩ | ⟨j, y, hy, hx, hb⟩)
    · cases he
    · match j, hy with
      | 0, hy => cases hy; exact ((h1 x).1 hx).elim
      | 1, hy =>
        cases hy
        rcases (h2 x).1 hx with h | h
        · exact absurd (by rw [h]; decide +kernel) hb
        · exact h
      | j + 2, hy => cases hy
  · rintro rfl
    exact .inr ⟨1, lbX, rfl, (h2 _).2 (.inr rfl), by decide +kernel⟩
/-- Two logics in a block. -/
theorem lgs_two {W : World} {b t : Nat} {x y : Lg} {qx qy : LgQ} {cs : List Value} (h : Blk W b t cs) (hcs : cs = lgC x qx ++ lgC y qy) (hx : LgAt W x qx) (hy : LgAt W y qy) : LgsAt W b 0 [x, y] := by
  subst hcs
  unfold LgsAt LgsAt LgsAt
  refine ⟨⟨qx, fun j v hj => ?_, hx⟩, ⟨qy, fun j v hj => ?_, hy⟩, trivial⟩
  · rw [Nat.zero_add, h.at, List.getElem?_append_left (List.getElem?_eq_some_iff.1 hj).1, hj]
  · have hl : (lgC x qx).length = 11 := rfl
    rw [Nat.zero_add, h.at, List.getElem?_append_right (by omega), hl, Nat.add_sub_cancel_left, hj]
theorem lgs_one {W : World} {b t : Nat} {x : Lg} {qx : LgQ} {cs : List Value} (h : Blk W b t cs) (hcs : cs = lgC x qx) (hx : LgAt W x qx) : LgsAt W b 0 [x] := by
  subst hcs
  unfold LgsAt LgsAt
  exact ⟨⟨qx, fun j v hj => by rw [Nat.zero_add, h.at, hj], hx⟩, trivial⟩
theorem strV_of {W : World} {a : Option Addr} {n c : Nat} {l : List ByteArray} (h : NamesAt W a l) (hn : l.length = n) (hc : n ≤ c) : StrV W (.slice a n c) l := by
  subst hn
  exact ⟨a, c, rfl, hc, h⟩
theorem lgAt_lit {W : World} {e : Ex} {en el : Value} (he : ExAt W e en el) : LgAt W (.mk 0 e ⟨#[]⟩ [] [] [] [] []) ⟨en, el, .slice none 0 0, .slice none 0 0, .slice none 0 0, .slice none 0 0, .slice none 0 0⟩ :=
  lgAt_mk (by decide) he (exsV_nil W) (strV_nil W) (rusV_nil W) (strV_nil W) rfl (Nat.le_refl _) (.inl rfl)
set_option maxHeartbeats 400000 in
theorem ln_c (s : ByteArray) (w : World) : Calls Tryz.prog 27 #[.string s] w (RetBel (.agg #[.int .i64 3, .string s, .slice none 0 0, .slice none 0 0]) w) := by
  go_enter Tryz.func27, Tryz.ntmps27
  go_wp2_with fail
  refine bodyPost_ret (results_cellE rfl _ _ w.heap.size _ rfl (load_ex (Blk.new w 26 [.int .i64 3, .string s, .slice none 0 0, .slice none 0 0]))) rfl ?_
  exact ⟨rfl, by (repeat (first | exact Bel.refl _ | assumption | refine Bel.to_drewN ?_ _ | refine Bel.to_drew ?_ | refine Bel.to_setCell ?_ (by first | exact Nat.le_refl _ | (simp; done) | (simp; omega) | omega) _ | refine Bel.to_alloc ?_ _ | refine Bel.trans ?_ (by assumption)))⟩
set_option maxHeartbeats 400000 in
theorem policies_in (n : Nat) (w : World) : CallsIn Fence.wide n Tryz.prog 28 #[] w fun e w' => e = .returned (.func (.func 71) #[] #[]) ∧ w' = w := by
  refine callsIn_of_wp Tryz.func28 rfl trivial ?_ rfl
  simp only [Tryz.ntmps28, List.size_toArray, List.length_nil, Nat.reduceSub, Array.replicate_succ, Array.replicate_zero, List.push_toArray, List.append_toArray, List.nil_append]
  gi_wp2
  go_ret
  exact ⟨rfl, rfl⟩
set_option maxHeartbeats 400000 in
theorem rpolicies_c (w : World) : Calls Tryz.prog 10 #[] w (RetRow0 polS w) := by
  go_enter Tryz.func10, Tryz.ntmps10
  go_wp2_with fail
  go_ret
  exact ⟨_, _, _, rfl, rfl, (names_blk (l := polS) (Blk.new w 9 (strsV polS)) rfl rfl).2.1, Bel.alloc _ _⟩
/-- A region's normal end alone. -/
def NormalOnly (Q : Exit → Act → World → Prop) : Exit → Act → World → Prop
  | .normal, a, w => Q .normal a w
  | _, _, _ => False
theorem normalOnly_le {Q : Exit → Act → World → Prop} {e : Exit} {a : Act} {w : World} (h : NormalOnly Q e a w) : Q e a w := by
  cases e <;> first | exact h | exact h.elim
set_option maxRecDepth 100000 in
set_option maxHeartbeats 16000000 in
theorem lalive_c (w : World) (hE : EnvX w) (hP : PolAt w) : Calls Tryz.prog 11 #[] w (RetBel (.bool true) w) := by
  have hen := fun args w1 => enters_of Tryz.func27 (by kernel_rfl) rfl args w1
  have HN := Lib.hid ln_c
  have HE := Lib.hid hE
  have HP := Lib.hid hP
  clear hE hP
  obtain ⟨i0, hi, hz0, hz1, hz2⟩ := info_parts info_str4
  refine (callsIn_wide (n := 6)).1 ?_
  refine callsIn_of_wp_marks Tryz.func11 rfl trivial ?_ rfl
  simp only [Tryz.ntmps11, List.size_toArray, List.length_nil, Nat.reduceSub, Array.replicate_succ, Array.replicate_zero, List.push_toArray, List.append_toArray, List.nil_append, List.cons_append]
  gi_wp2_with fail
  obtain ⟨V1, h1, k1, l1, s1⟩ := alloc_step w 9 [.string ⟨#[97]⟩, .string ⟨#[]⟩]
  rw [h1]
  have K1 := Lib.hid k1
  have L1 := Lib.hid l1
  clear h1 k1 l1 s1
  refine ⟨trivial, ?_⟩
  refine (callsIn_wide.2 (HN.out _ _)).mono ?_
  rintro e1 w1 ⟨rfl, hb1⟩
  gi_wp2_with fail
  refine ⟨trivial, ?_⟩
  refine (callsIn_wide.2 (HN.out _ _)).mono ?_
  rintro e2 w2 ⟨rfl, hb2⟩
  have HB2 := Lib.hid (hb1.trans hb2)
  clear hb1 hb2
  gi_wp2_with fail
  obtain ⟨U1, h1, k1, l1, s1⟩ := alloc_step w2 26 [.int .i64 3, .string ⟨#[97]⟩, .slice none 0 0, .slice none 0 0, .int .i64 3, .string ⟨#[98]⟩, .slice none 0 0, .slice none 0 0]
  obtain ⟨U2, h2, k2, l2, s2⟩ := alloc_step U1 30 (lgC laX ⟨.slice none 0 0, .slice none 0 0, .slice none 0 0, .slice none 0 0, .slice none 0 0, .slice none 0 0, .slice none 0 0⟩ ++ lgC lbX ⟨.slice none 0 0, .slice (some ⟨w2.heap.size, 0, none⟩) 2 2, .slice none 0 0, .slice none 0 0, .slice none 0 0, .slice none 0 0, .slice none 0 0⟩)
  obtain ⟨U3, h3, k3, l3, s3⟩ := alloc_step U2 30 [.int .i64 2, .int .i64 0, .string ⟨#[]⟩, .slice none 0 0, .slice none 0 0, .string ⟨#[]⟩, .slice none 0 0, .slice none 0 0, .slice none 0 0, .slice (some ⟨w.heap.size, 0, none⟩) 2 2, .slice (some ⟨w2.heap.size + 1, 0, none⟩) 2 2]
  rw [s1] at k2 s2
  rw [s2] at k3
  rw [h1]
  rw [show U1.alloc (.cells #[.int .i64 0, .int .i64 0, .string ⟨#[49]⟩, .slice none 0 0, .slice none 0 0, .string ⟨#[]⟩, .slice none 0 0, .slice none 0 0, .slice none 0 0, .slice none 0 0, .slice none 0 0, .int .i64 0, .int .i64 5, .string ⟨#[43]⟩, .slice none 0 0, .slice (some ⟨w2.heap.size, 0, none⟩) 2 2, .string ⟨#[]⟩, .slice none 0 0, .slice none 0 0, .slice none 0 0, .slice none 0 0, .slice none 0 0] 30) = U2 from h2, h3]
  have hx : LgAt U3 exL ⟨.slice none 0 0, .slice none 0 0, .slice none 0 0, .slice none 0 0, .slice none 0 0, .slice (some ⟨w.heap.size, 0, none⟩) 2 2, .slice (some ⟨w2.heap.size + 1, 0, none⟩) 2 2⟩ := by
    have e1 : ExAt U3 laX.e (.slice none 0 0) (.slice none 0 0) := exAt_leaf _ _ _ (by decide)
    have e2 : ExAt U3 abX (.slice none 0 0) (.slice (some ⟨w2.heap.size, 0, none⟩) 2 2) := exAt_mk (by decide) (rowE_nil _) (exs_two ((k1.bel l2).bel l3) rfl (exAt_leaf _ _ _ (by decide)) (exAt_leaf _ _ _ (by decide))) rfl ((k1.bel l2).bel l3).lt
    exact lgAt_mk (by decide) (exAt_leaf _ _ _ (by decide)) (exsV_nil _) (strV_nil _) (rusV_nil _) (strV_of (names_blk (l := [⟨#[97]⟩, ⟨#[]⟩]) (((((K1.out.bel HB2.out).bel l1).bel l2).bel l3)) rfl rfl).1 rfl (Nat.le_refl _)) rfl (Nat.le_refl _) (.inr ⟨w2.heap.size + 1, 0, rfl, lgs_two (k2.bel l3) rfl (lgAt_lit e1) (lgAt_lit e2)⟩)
  have HBU := Lib.hid (L1.out.trans (HB2.out.trans (l1.trans (l2.trans l3))))
  have HX := Lib.hid hx
  have HCK : Hid (Calls Tryz.prog 8 #[.agg #[.int .i64 2, .int .i64 0, .string ⟨#[]⟩, .slice none 0 0, .slice none 0 0, .string ⟨#[]⟩, .slice none 0 0, .slice none 0 0, .slice none 0 0, .slice (some ⟨w.heap.size, 0, none⟩) 2 2, .slice (some ⟨w2.heap.size + 1, 0, none⟩) 2 2]] U3 (RetBel (.int .i64 0) U3)) := by
    have h := check_lx exL _ U3 (HE.out.bel HBU.out) (HP.out.bel HBU.out) (by have := exL_bulk; omega) hx
    rw [exL_check] at h
    exact Lib.hid h
  have HFR : Hid (∀ W, Bel U3 W → Calls Tryz.prog 12 #[.agg #[.int .i64 2, .int .i64 0, .string ⟨#[]⟩, .slice none 0 0, .slice none 0 0, .string ⟨#[]⟩, .slice none 0 0, .slice none 0 0, .slice none 0 0, .slice (some ⟨w.heap.size, 0, none⟩) 2 2, .slice (some ⟨w2.heap.size + 1, 0, none⟩) 2 2]] W (RetRow0 [⟨#[98]⟩] W)) := Lib.hid fun W hW => by
    have h := free_lx exL _ W (CheckL_ok exL_check) (by have := exL_bulk; omega) (LgAt.bel hW _ hx)
    rw [exL_free] at h
    exact h
  have KB := Lib.hid k3
  clear h1 h2 h3 k1 k2 k3 l1 l2 l3 s1 s2 s3 hx K1 L1 HB2
  refine ⟨trivial, ?_⟩
  refine (callsIn_wide.2 HCK.out).mono ?_
  rintro e3 w3 ⟨rfl, hb3⟩
  have kb := KB.out.bel hb3
  have d0 := Blk.at kb 0
  have d1 := Blk.at kb 1
  have d2 := Blk.at kb 2
  have d3 := Blk.at kb 3
  have d4 := Blk.at kb 4
  have d5 := Blk.at kb 5
  have d6 := Blk.at kb 6
  have d7 := Blk.at kb 7
  have d8 := Blk.at kb 8
  have d9 := Blk.at kb 9
  have d10 := Blk.at kb 10
  have HB3 := Lib.hid hb3
  clear kb hb3 HCK
  gi_wp2_with fail
  refine ⟨trivial, ?_⟩
  refine (callsIn_wide.2 (HFR.out _ HB3.out)).mono ?_
  rintro e4 w4 ⟨fa, fn, fc, rfl, hfn, hfr, hb4⟩
  obtain rfl : fn = 1 := hfn.symm
  clear d0 d1 d2 d3 d4 d5 d6 d7 d8 d9 d10 HFR
  gi_wp2_with fail
  obtain ⟨V5, h5, k5, l5, s5⟩ := alloc_step w4 9 [.string ⟨#[98]⟩]
  rw [h5]
  have hsm := lsame_c [⟨#[98]⟩] [⟨#[98]⟩] fa (some ⟨w4.heap.size, 0, none⟩) 1 fc 1 1 V5 rfl rfl (by omega) (by omega) (names_of_row0 (hfr.bel l5)).2.2 (names_blk (l := [⟨#[98]⟩]) k5 rfl rfl).1
  rw [decide_eq_true rfl] at hsm
  have HSM := Lib.hid hsm
  have HB5 := Lib.hid (HBU.out.trans (HB3.out.trans (hb4.trans l5)))
  clear h5 k5 l5 s5 hfr hb4 hsm hfn HB3
  refine ⟨trivial, ?_⟩
  refine (callsIn_wide.2 HSM.out).mono ?_
  rintro e5 w5 ⟨rfl, hb5⟩
  have HB6 := Lib.hid (HB5.out.trans hb5)
  clear hb5 HSM HB5 HBU HX KB
  gi_wp2_with (refine ⟨trivial, ?_⟩; gi_at_call 28; refine (policies_in _ _).mono ?_; rintro e6 w6 ⟨rfl, rfl⟩)
  have bL := Boxed.new w5 23 (.slice none 0 0)
  have hb0 : Bel w5 (w5.alloc (.cells #[.slice none 0 0] 23)) := Bel.alloc _ _
  have hs0 : (w5.alloc (.cells #[.slice none 0 0] 23)).heap.size = w5.heap.size + 1 := by simp
  obtain ⟨W0, hW0⟩ : ∃ W0, w5.alloc (.cells #[.slice none 0 0] 23) = W0 := ⟨_, rfl⟩
  rw [hW0] at bL hb0 hs0 ⊢
  obtain ⟨I, hIdef⟩ : ∃ I : List Str → World → Prop, I = fun pre W => ((∃ u, Boxed W w5.heap.size 23 u ∧ W.ownsRow w5.heap.size 9 1 u pre.length (pre.map fun x => Value.string x.1) ∧ True) ∧ W0.heap.size ≤ W.heap.size) ∧ Below w5.heap.size w5 W := ⟨_, rfl⟩
  have hI : OwnFrom W0.heap.size I := by
    rw [hIdef]
    exact OwnFrom.and (OwnFrom.and (Own.from (holdsRow_own w5.heap.size w5.heap.size 23 9 1 (fun pre : List Str => pre.length) (fun pre => pre.map fun x => Value.string x.1) (fun _ _ => True)) _) (fun s A B row hs hg hr => Nat.le_trans hs hg.size)) (ownFrom_below (Nat.le_refl _) (by omega))
  have h0 : I [] W0 := by rw [hIdef]; exact ⟨⟨⟨_, bL, World.ownsRow_nil _ _ _ _, trivial⟩, Nat.le_refl _⟩, hb0⟩
  have HPW := Lib.hid (HP.out.bel (HB6.out.trans hb0))
  refine wpIn_rangeFunc_via rfl (by omega) (gf := 71) (lb := #[]) rfl trivial (enters_of Tryz.func71 (by kernel_rfl) rfl)
    (encs := fun x : Str => #[Value.string x.1]) (S := fun xs => xs = upto polF 7) (N := 7) (fun _ => rfl) w5.heap.size 23 (by omega) I hI h0 ?act1 ?assign ?body ?iter ?done
  case assign =>
    intro l x W K hK
    gi_wp2
    exact hK
  case body =>
    rintro l pre x W hiW hlt
    have HID := Lib.hid hIdef
    rw [hIdef] at hiW
    obtain ⟨⟨⟨u, hu, hrow, _⟩, hge⟩, hB⟩ := hiW
    clear hIdef
    have huc := hu.cell
    have hle : w5.heap.size ≤ W.heap.size := by omega
    gi_wp2_with (gi_at_builtin; refine wpListIn_append_own_at _ rfl _ _ 23 rfl w5.heap.size 9 i0 (.string ⟨#[]⟩) 1 16 Tryz.underlying23 hi hz0 hz1 hz2 rfl (by decide) _ _ _ rfl (hrow.alloc _) ⟨W.heap.size, 0, none⟩ 1 1 [.string x.1] rfl rfl (cell_one_new _ _ _) (by simp [Value.oneCell']) (by unfold maxLen; omega) (by omega) (by simp; omega) ?_; intro v' w1 hown' hgrow _ hat; obtain ⟨g', cap', rfl⟩ := ownsRow_succ hown'; obtain ⟨hv1, hv2, hr2, hk2, hb2⟩ := hu.appended (by decide) hrow hle (Nat.le_refl _) hown' hgrow; have hc1 := hv1.cell; have hf1 := hv1.frozen)
    refine ⟨hk2, ⟨hb2.size, fun k hk => ?_⟩, ?_⟩
    · obtain ⟨⟨cs, t, fr, hc⟩, hkl, hku⟩ := hk
      have hne := hku u hu
      have hks := (Array.getElem?_eq_some_iff.1 hc).1
      have e1 : (w1.setCell ⟨w5.heap.size, 0, none⟩ (.slice (some ⟨g', 0, none⟩) (pre.length + 1) cap')).heap[k]? = W.heap[k]? := by
        rw [Below.heap_setCell _ _ _ k hkl, hgrow.block k (by simp; omega) hne]
        exact (Bel.alloc W _).block hks
      refine ⟨e1, ⟨cs, t, fr, e1.trans hc⟩, hkl, fun u' hu' => ?_⟩
      have hbi : u' = .slice (some ⟨g', 0, none⟩) (pre.length + 1) cap' := by have := hu'.symm.trans hv2; simpa using this
      rw [hbi]
      rcases hat with h | h
      · rw [h]; exact hne
      · rw [h]
        intro e
        have := Option.some.inj e
        simp at this
        omega
    · rw [HID.out]
      exact ⟨⟨⟨_, hv2, by simpa using hr2, trivial⟩, Nat.le_trans hge hb2.size⟩, hB.trans hb2⟩
  case iter =>
    intro l D r W1 hl hD hB1 hI1 hlr hDr hY
    have hP1 : PolAt W1 := HPW.out.bel hB1
    refine (pol_iter 5 (by omega) l (fun pre W => I pre W ∧ W.heap[l]? = some (.loop r) ∧ W.heap[D]? = some (.deferred (some []))) W1 hP1 ⟨hI1, hlr, hDr⟩ (fun pre x W hJ hlen => ?_)).mono ?_
    · obtain ⟨g1, g2, g3⟩ := hJ
      refine YieldAt.mono (hY pre x W g1 g2 hlen) ?_
      rintro e W' ⟨he, h4, h5, _⟩
      exact ⟨he, h4, h5.same _ _ g2 rfl, h5.same _ _ g3 rfl⟩
    · rintro e W' ⟨he, g1, g2, g3⟩
      exact ⟨he, _, rfl, g1, g2, g3⟩
  case done =>
    rintro D ys W hD rfl hIy hK
    rw [hIdef] at hIy
    obtain ⟨⟨⟨u, hu, hrow, _⟩, hge⟩, hB⟩ := hIy
    have huc := hu.cell
    have hpl : (upto polF 7).map (fun x => Value.string x.1) = strsV polS := rfl
    rw [upto_length, hpl] at hrow
    have hr0 := own_row hrow
    obtain ⟨ua, uc, rfl, _⟩ := row0_form hr0 7 rfl
    have HR0 := Lib.hid hr0
    have hal := hu.cell
    have HBW := Lib.hid hB
    have HNA := Lib.hid (fun W' (hW : Bel W W') => (names_of_row0 (hr0.bel hW)).2.2)
    clear hu hr0 hB hIdef hI h0 hrow hpl
    have HSM : Hid (∀ W' pa pn pc, Bel W W' → polS.length = pn → NamesAt W' pa polS → Calls Tryz.prog 16 #[.slice ua 7 uc, .slice pa pn pc] W' (RetBel (.bool true) W')) := Lib.hid fun W' pa pn pc hb hpn hna => by
      have h := lsame_c polS polS ua pa 7 uc pn pc W' rfl hpn (by omega) (by rw [← hpn]; decide) (HNA.out W' hb) hna
      rwa [decide_eq_true rfl] at h
    gi_wp2
    refine wpIn_mono (Q := NormalOnly _) ?_ (fun e a w h => normalOnly_le h)
    gi_region_with (refine ⟨trivial, ?_⟩; first
      | (gi_at_call 10; refine (callsIn_wide.2 (rpolicies_c _)).mono ?_; rintro e7 w7 ⟨pa, pn, pc, rfl, hpn, hpr, hb7⟩; have hal7 := hb7.keep hal)
      | (gi_at_call 16; refine (callsIn_wide.2 (HSM.out _ _ _ _ (by (repeat (first | exact Bel.refl _ | assumption | refine Bel.to_drewN ?_ _ | refine Bel.to_drew ?_ | refine Bel.to_setCell ?_ (by first | exact Nat.le_refl _ | (simp; done) | (simp; omega) | omega) _ | refine Bel.to_alloc ?_ _ | refine Bel.trans ?_ (by assumption)))) hpn (names_of_row0 hpr).2.2)).mono ?_; rintro e8 w8 ⟨rfl, hb8⟩))
    all_goals
      unfold NormalOnly
      dsimp only
      gi_wp2
      have hb9 : Bel W w8 := (Bel.drew W).trans (hb7.trans hb8)
      have hK8 := (hb9.block (Array.getElem?_eq_some_iff.1 hK).1).trans hK
      refine ⟨by simp, .inl ⟨_, _, rfl, run_takeDeferred hK8, ?_⟩⟩
      refine ⟨_, results_tmp rfl _ _ _, rfl, HB6.out.trans ((show Below w5.heap.size w5 w8 from Bel.trans (show Bel w5 W from HBW.out) hb9).trans (belowK_b (w := w5) (Nat.le_refl _) w8 D _ _ (by omega) hK8 rfl rfl))⟩
end Go.Proofs.YtchbhcjhoocjaaaGreatDoor
