/-
  The walk of the law NamesKeys: whatever the number: true.
-/
import Derived.Test.YtfmhpeinikidfaaDoorQ
import Derived.Test.YtfmhpeinikidfaaDoorW
import Derived.Test.YtfmhpeinikidfaaDoorRI
namespace Go.Proofs.YtfmhpeinikidfaaDoor
open Go.RowKit Go.Shelf
attribute [local go_sem] Oper.semAt_some

theorem kw_facts : (List.range 17).all (fun j => isKw (kwF j).1 && !wordS (kwF j).1 && !(wordsS (kwF j).1).isSome && plainS (kwF j).1) = true := by decide +kernel
theorem kw_at (j : Nat) (h : j < 17) : isKw (kwF j).1 = true ∧ wordS (kwF j).1 = false ∧ (wordsS (kwF j).1).isSome = false ∧ plainS (kwF j).1 = true := by
  have := List.all_eq_true.1 kw_facts j (List.mem_range.2 h)
  simp only [Bool.and_eq_true, Bool.not_eq_true'] at this
  exact ⟨this.1.1.1, this.1.1.2, this.1.2, this.2⟩
theorem ks_at (j : Nat) (hj : j < (strsV KS).length) : (strsV KS)[j] = Value.string (kwF j).1 := by
  have h : j < kwL.length := hj
  simp only [strsV, KS, List.getElem_map, kwF, List.getD, List.getElem?_eq_getElem h, Option.getD_some]
theorem kw_size (j : Nat) : (kwF j).1.size ≤ 4294967280 := by
  show (kwL.getD j []).toArray.size ≤ _
  rw [List.size_toArray]
  by_cases h : j < 17
  · exact Nat.le_trans ((by decide : ∀ j : Fin 17, (kwL.getD j.1 []).length ≤ 9) ⟨j, h⟩) (by omega)
  · have h2 : kwL[j]? = none := List.getElem?_eq_none (by have : kwL.length = 17 := rfl; omega)
    simp [List.getD, h2]
theorem boxed_bel {W W' : World} {B : Nat} {t : TypeId} {v : Value} (h : Boxed W B t v) (hb : Bel W W') : Boxed W' B t v := (hb.block h.lt).trans h
theorem not_prefix (pre : List Str) (x : Str) (n : Nat) (f : Nat → Str) (hx : x.1 ≠ (f pre.length).1) : ¬ (pre ++ [x]) <+: upto f n := by
  rintro ⟨r, hr⟩
  have h1 : (upto f n)[pre.length]? = some x := by rw [← hr]; simp
  unfold upto at h1
  rw [List.getElem?_map, List.getElem?_range (by
    have : ((pre ++ [x]) ++ r).length = n := by rw [hr]; simp [upto]
    simp at this; omega)] at h1
  simp at h1
  exact hx (by rw [← h1])
theorem keepB_bel {b : Nat} {W W' : World} (h : Bel W W') (hb : b < W.heap.size) : KeepB b W W' := h.block hb
theorem keepB_set {b : Nat} (W : World) (p : Addr) (v : Value) (h : p.block ≠ b) : KeepB b W (W.setCell p v) := heap_setCell_other W p b v (fun e => h e.symm)
theorem keepsFrom_bel (B : Nat) {W W' : World} (h : Bel W W') : KeepsFrom B W W' := ⟨h.size, fun _ _ _ hk _ => (h.block (Array.getElem?_eq_some_iff.1 hk).1).trans hk⟩
theorem keepsFrom_set {B : Nat} (W : World) (k : Nat) (v : Value) (h : k < B) : KeepsFrom B W (W.setCell ⟨k, 0, none⟩ v) := KeepsFrom.of_grownBy (grownBy_setCell' W k v) (fun j e => by cases e; exact h)
/-- How a round of the range is left: behind a text that is no keyword at its place; behind as many as were asked. -/
def LeftAt (V : World) (leave : Int) (c : Code) (pre : List Str) (W : World) : Prop :=
  ¬ pre <+: upto kwF 17 ∨ c = .exit 2 ∧ (pre.length : Int) = leave ∧ Boxed W V.heap.size 3 (.int .i64 leave) ∧ Below V.heap.size V W
theorem results_cell1 {P : Program} {fn : Func} {p : Tmp} {ty : TypeId} (h : fn.results = #[.cell p ty]) (tmps : Array Value) (w : World) (g : Nat) (v : Value)
    (hp : tmps.getD p undef = .pointer (some ⟨g, 0, none⟩)) (hl : (loadVar ty ⟨g, 0, none⟩).run P w = .ok v w) : (results fn tmps).run P w = .ok v w := by
  have hp' : tmps[p]?.getD undef = .pointer (some ⟨g, 0, none⟩) := by simpa using hp
  simp [results, h, hp', asAddr, hl]
theorem load_bool (w : World) (g : Nat) (v : Value) (hc : w.cell? ⟨g, 0, none⟩ = some v) : (loadVar 4 ⟨g, 0, none⟩).run Tryd.prog w = .ok v w := by
  have hu := Tryd.underlying4
  simp [loadVar, isAgg, Sem.run_bind, run_underlying hu, load, Result.andThen, Sem.run, hc]
theorem left_own (V : World) (leave : Int) (c : Code) (B : Nat) (hB : V.heap.size < B) : OwnFrom B (LeftAt V leave c) := by
  intro s A W row hs hg hr
  rcases hs with h | ⟨h1, h2, h3, h4⟩
  · exact .inl h
  · exact .inr ⟨h1, h2, h3.kept hg (fun e => by have := (hr _ e.symm).1; omega), ownFrom_below (Nat.le_refl _) (Nat.le_of_lt hB) () A W row h4 hg hr⟩

set_option maxRecDepth 100000 in
set_option maxHeartbeats 8000000 in
theorem namesKeys_walk (leave : Int) (w : World) (hE : Env w) : Calls Tryd.prog 6 #[.int .i64 leave] w (RetBel (.bool true) w) := by
  refine (callsIn_wide (n := 12)).1 ?_
  refine callsIn_of_wp_marks Tryd.func6 rfl trivial ?_ rfl
  simp only [Tryd.ntmps6, List.size_toArray, List.length_cons, List.length_nil, Nat.reduceAdd, Nat.reduceSub, Array.replicate_succ, Array.replicate_zero, List.push_toArray, List.append_toArray, List.nil_append, List.cons_append]
  gi_wp2_with (refine ⟨trivial, ?_⟩; first
    | (gi_at_call 9; refine (callsIn_wide.2 (alive_c _ (hE.bel ((Bel.alloc _ _).to_alloc _)))).mono ?_; rintro e w1 ⟨rfl, hb1⟩)
    | (gi_at_call 22; refine (callsIn_wide.2 (rall_c _)).mono ?_; rintro e w2 ⟨v2, rfl, ⟨b, off, cap, rfl, hcap, hlt, hcl⟩, hb2⟩))
  have hn17 : (strsV KS).length = 17 := rfl
  rw [hn17] at hcap ⊢
  have e1 : Boxed w2 w.heap.size 3 (.int .i64 leave) := boxed_bel ((Boxed.new w _ _).alloc _) (hb1.trans hb2)
  have e2 : Boxed w2 (w.heap.size + 1) 4 (.bool false) := by
    have := boxed_bel (Boxed.new (w.alloc (.cells #[.int .i64 leave] 3)) 4 (.bool false)) (hb1.trans hb2)
    simp only [World.size_alloc] at this
    exact this
  have e3 := Boxed.new w2 30 (.slice (some ⟨b, off, none⟩) 17 cap)
  have hbw : Bel w w2 := (((Bel.alloc w _).to_alloc _).trans hb1).trans hb2
  have hE2 := hE.bel hbw
  have hsz : w.heap.size + 2 ≤ w2.heap.size := by
    have h1 := hb1.size
    have h2 := hb2.size
    simp at h1
    omega
  have e4 : ∀ j, j < 17 → w2.cell? ⟨b, off + j, none⟩ = some (.string (kwF j).1) := fun j hj => (hcl j hj).trans (by rw [ks_at j hj])
  have hb3 := Bel.alloc w2 (.cells #[.slice (some ⟨b, off, none⟩) 17 cap] 30)
  have e1 := boxed_bel e1 hb3
  have e2 := boxed_bel e2 hb3
  have hE3 := hE2.bel hb3
  have e5 : ∀ j, j < 17 → (w2.alloc (.cells #[.slice (some ⟨b, off, none⟩) 17 cap] 30)).cell? ⟨b, off + j, none⟩ = some (.string (kwF j).1) := fun j hj => (hb3.cell hlt).trans (e4 j hj)
  have hlt3 : b < (w2.alloc (.cells #[.slice (some ⟨b, off, none⟩) 17 cap] 30)).heap.size := by simp; omega
  have hbw3 := hbw.trans hb3
  have e1' := e1.lt
  have hsz3 : w2.heap.size < (w2.alloc (.cells #[.slice (some ⟨b, off, none⟩) 17 cap] 30)).heap.size := by simp
  obtain ⟨W3, hW3⟩ : ∃ W3, w2.alloc (.cells #[.slice (some ⟨b, off, none⟩) 17 cap] 30) = W3 := ⟨_, rfl⟩
  obtain ⟨c3, hc3⟩ : ∃ c3, w2.heap.size = c3 := ⟨_, rfl⟩
  rw [hW3] at e1 e2 e3 hE3 e5 hlt3 hbw3 hsz3 ⊢
  rw [hc3] at e3 hsz hsz3 ⊢
  have E1 := Lib.hid e1
  have E2 := Lib.hid e2
  have E3 := Lib.hid e3
  have E4 := Lib.hid hE3
  have E5 := Lib.hid e5
  have E6 := Lib.hid hbw3
  clear e1 e2 e3 hE3 e4 e5 hbw3 hb1 hb2 hb3 hbw hE2 hE hcl hlt hW3 hc3 e1'
  refine wpIn_loop_rounds 3 ?_
  rw [roundsIn_succ]
  have B0 : Bel W3 W3 := Bel.refl _
  have hV0 := B0.size
  gi_wp2_with (refine ⟨trivial, ?_⟩; gi_at_call 23; refine (all_in _ (by omega) _).mono ?_; rintro e w' ⟨rfl, rfl⟩)
  have bN0 := Boxed.new ((W3.alloc (.cells #[.int .i64 0] 3)).alloc (.cells kwV.toArray 9)) 30 (.slice (some ⟨W3.heap.size + 1, 0, none⟩) 17 17)
  have bI0 := ((Boxed.new W3 3 (.int .i64 0)).alloc (.cells kwV.toArray 9)).alloc (.cells #[.slice (some ⟨W3.heap.size + 1, 0, none⟩) 17 17] 30)
  simp only [World.size_alloc] at bN0 bI0
  have bB0 : Below W3.heap.size W3 (((W3.alloc (.cells #[.int .i64 0] 3)).alloc (.cells kwV.toArray 9)).alloc (.cells #[.slice (some ⟨W3.heap.size + 1, 0, none⟩) 17 17] 30)) := (((Bel.alloc W3 _).to_alloc _).to_alloc _)
  obtain ⟨U0, hU0⟩ : ∃ U, (((W3.alloc (.cells #[.int .i64 0] 3)).alloc (.cells kwV.toArray 9)).alloc (.cells #[.slice (some ⟨W3.heap.size + 1, 0, none⟩) 17 17] 30)) = U := ⟨_, rfl⟩
  have hrow0 : ∀ j, j < 17 → U0.cell? ⟨W3.heap.size + 1, 0 + j, none⟩ = some (.string (kwF j).1) := fun j hj => by
    rw [← hU0, cell_alloc_old _ _ _ _ (by simp), show W3.heap.size + 1 = (W3.alloc (.cells #[.int .i64 0] 3)).heap.size from by simp]
    rw [cell_new_row _ _ _ _ (by simp [kwV, kwL]; exact hj)]
    exact kwV_at j hj
  have hs0 : U0.heap.size = W3.heap.size + 3 := by rw [← hU0]; simp
  rw [hU0] at bN0 bI0 bB0 ⊢
  clear hU0
  refine wpIn_rangeFunc_ownG rfl (by omega) (gf := 46) (lb := #[.pointer (some ⟨W3.heap.size + 2, 0, none⟩)]) rfl trivial (enters_of Tryd.func46 (by kernel_rfl) rfl)
    (values_stops Fence.wide _ trivial rfl (by omega) (W3.heap.size + 2) (W3.heap.size + 1) 0 17 17 kwF (by omega) U0 (by omega) (by omega) bN0.cell hrow0) KeepB.trans (KeepB.putObj U0.heap.size (by omega)) (Below.refl _ _) (fun _ => rfl)
    (fun pre W => (Boxed W W3.heap.size 3 (.int .i64 pre.length) ∧ U0.heap.size ≤ W.heap.size) ∧ Below W3.heap.size W3 W)
    (LeftAt W3 leave)
    (OwnFrom.and (fun s A B row hs hg hr => ⟨hs.1.kept hg (fun e => by have := (hr _ e.symm).1; omega), Nat.le_trans hs.2 hg.size⟩) (ownFrom_below (Nat.le_refl _) (by omega)))
    (fun c => left_own W3 leave c _ (by omega))
    ⟨⟨bI0, Nat.le_refl _⟩, bB0⟩
    ?act1 ?assign1 ?body1 ?done1 ?stop1
  case assign1 =>
    intro l x W K hK
    gi_wp2
    exact hK
  case body1 =>
    rintro l pre ⟨x, hxs⟩ W ⟨⟨hc, hge⟩, hB⟩ hlt
    have hBW : Bel W3 W := hB
    have hcc := hc.cell
    have hcf := hc.frozen
    have f1 := (boxed_bel E1.out (B0.trans hBW)).cell
    have f2 := boxed_bel E2.out (B0.trans hBW)
    have f2c := f2.cell
    have f2f := f2.frozen
    have f3 := (boxed_bel E3.out (B0.trans hBW)).cell
    have f4 := E4.out.bel (B0.trans hBW)
    have f5 := ((B0.trans hBW).cell hlt3).trans (E5.out pre.length hlt)
    have hnp := not_prefix pre ⟨x, hxs⟩ 17 kwF
    have kf := kw_at pre.length hlt
    have ksz := kw_size pre.length
    obtain ⟨j, hj⟩ : ∃ j, pre.length = j := ⟨_, rfl⟩
    obtain ⟨y, hy⟩ : ∃ y, (kwF pre.length).1 = y := ⟨_, rfl⟩
    rw [hy] at f5 hnp kf ksz
    rw [hj] at hc hcc f5 hlt
    have HJ := Lib.hid hj
    have HC := Lib.hid hc
    have F4 := Lib.hid f4
    have HBW := Lib.hid hBW
    have HNP := Lib.hid hnp
    have hszB := hBW.size
    have hlti : (j : Int) < 17 := by omega
    clear hj hc f4 hB hBW hnp hy f2
    by_cases hx : x = y
    · subst hx
      have k1 := fun w1 => keyword_c x ksz w1
      have k2 := fun w1 (hE1 : Env w1) => word_c x ksz w1 hE1
      have k3 := fun w1 (hE1 : Env w1) => right_c x ksz w1 hE1
      have k4 := fun w1 (hE1 : Env w1) => plain_c x ksz w1 hE1
      rw [kf.1] at k1
      rw [kf.2.1] at k2
      rw [kf.2.2.1] at k3
      rw [kf.2.2.2] at k4
      have K1 := Lib.hid k1
      have K2 := Lib.hid k2
      have K3 := Lib.hid k3
      have K4 := Lib.hid k4
      clear k1 k2 k3 k4 kf
      gi_wp2_with (refine ⟨trivial, ?_⟩; first
        | (gi_at_call 18; refine (callsIn_wide.2 (K1.out _)).mono ?_; rintro e w4 ⟨rfl, hb4⟩; have hE4' := F4.out.bel hb4)
        | (gi_at_call 20; refine (callsIn_wide.2 (K2.out _ hE4')).mono ?_; rintro e w5 ⟨rfl, hb5⟩; have hE5' := hE4'.bel hb5)
        | (gi_at_call 17; refine (callsIn_wide.2 (K3.out _ hE5')).mono ?_; rintro e w6 ⟨rfl, hb6⟩; have hE6' := hE5'.bel hb6)
        )
      refine ⟨trivial, ?_⟩
      refine (callsIn_wide.2 (K4.out _ hE6')).mono ?_
      rintro e w7 ⟨rfl, hb7⟩
      have hb47 : Bel W w7 := ((hb4.trans hb5).trans hb6).trans hb7
      have hc7 := boxed_bel HC.out hb47
      have hcc7 := hc7.cell
      have hcf7 := hc7.frozen
      have f17 := hb47.keep f1
      have HC7 := Lib.hid hc7
      have HB7 := Lib.hid hb47
      have f27 : (w7.setCell ⟨W3.heap.size, 0, none⟩ (.int .i64 ((j : Int) + 1))).cell? ⟨w.heap.size, 0, none⟩ = some (.int .i64 leave) := (World.cell?_of_block (heap_setCell_other w7 ⟨W3.heap.size, 0, none⟩ w.heap.size _ (by show w.heap.size ≠ W3.heap.size; omega))).trans f17
      clear hc7 hb47 K1 K2 K3 K4
      gi_wp2
      · have hl : (j : Int) + 1 = leave := eq_of_beq (by assumption)
        refine ⟨(keepsFrom_bel _ HB7.out).trans (keepsFrom_set _ _ _ (by omega)), .inr ⟨rfl, ?_, ?_, ?_⟩⟩
        · rw [List.length_append, HJ.out]; simpa using hl
        · have := HC7.out.set (.int .i64 ((j : Int) + 1)); rw [hl] at this ⊢; exact this
        · exact (HBW.out.trans HB7.out).to_setCell (p := ⟨W3.heap.size, 0, none⟩) (Nat.le_refl _) _
      · refine ⟨(keepsFrom_bel _ HB7.out).trans (keepsFrom_set _ _ _ (by omega)), (keepB_bel HB7.out (by omega)).trans (keepB_set _ _ _ (by show W3.heap.size ≠ _; omega)), ⟨?_, ?_⟩, ?_⟩
        · rw [List.length_append, HJ.out]; exact HC7.out.set (.int .i64 ((j : Int) + 1))
        · have := HB7.out.size; simp; omega
        · exact (HBW.out.trans HB7.out).to_setCell (p := ⟨W3.heap.size, 0, none⟩) (Nat.le_refl _) _
    · have hne : (y.toList == x.toList) = false := by simpa using fun h => hx (toList_eq h).symm
      gi_wp2_with (refine ⟨trivial, ?_⟩)
      exact ⟨keepsFrom_set _ _ _ (by omega), .inl (HNP.out hx)⟩
  case done1 =>
    rintro D0 ys Z0 hD0 rfl ⟨⟨hc, _⟩, hB⟩ hK0
    rw [upto_length] at hc
    have hBI0 : Bel W3 Z0 := hB
    have hBZ0 : Bel W3 Z0 := B0.trans hB
    have hcc0 := hc.cell
    have f10 := (boxed_bel E1.out hBZ0).cell
    have f30 := (boxed_bel E3.out hBZ0).cell
    clear hc hB
    gi_wp2
    rw [roundsIn_succ]
    have B1 : Bel W3 Z0 := hBZ0
    have hV1 := B1.size
    gi_wp2_with (refine ⟨trivial, ?_⟩; gi_at_call 23; refine (all_in _ (by omega) _).mono ?_; rintro e w' ⟨rfl, rfl⟩)
    have bN1 := Boxed.new ((Z0.alloc (.cells #[.int .i64 0] 3)).alloc (.cells kwV.toArray 9)) 30 (.slice (some ⟨Z0.heap.size + 1, 0, none⟩) 17 17)
    have bI1 := ((Boxed.new Z0 3 (.int .i64 0)).alloc (.cells kwV.toArray 9)).alloc (.cells #[.slice (some ⟨Z0.heap.size + 1, 0, none⟩) 17 17] 30)
    simp only [World.size_alloc] at bN1 bI1
    have bB1 : Below Z0.heap.size Z0 (((Z0.alloc (.cells #[.int .i64 0] 3)).alloc (.cells kwV.toArray 9)).alloc (.cells #[.slice (some ⟨Z0.heap.size + 1, 0, none⟩) 17 17] 30)) := (((Bel.alloc Z0 _).to_alloc _).to_alloc _)
    obtain ⟨U1, hU1⟩ : ∃ U, (((Z0.alloc (.cells #[.int .i64 0] 3)).alloc (.cells kwV.toArray 9)).alloc (.cells #[.slice (some ⟨Z0.heap.size + 1, 0, none⟩) 17 17] 30)) = U := ⟨_, rfl⟩
    have hrow1 : ∀ j, j < 17 → U1.cell? ⟨Z0.heap.size + 1, 0 + j, none⟩ = some (.string (kwF j).1) := fun j hj => by
      rw [← hU1, cell_alloc_old _ _ _ _ (by simp), show Z0.heap.size + 1 = (Z0.alloc (.cells #[.int .i64 0] 3)).heap.size from by simp]
      rw [cell_new_row _ _ _ _ (by simp [kwV, kwL]; exact hj)]
      exact kwV_at j hj
    have hs1 : U1.heap.size = Z0.heap.size + 3 := by rw [← hU1]; simp
    rw [hU1] at bN1 bI1 bB1 ⊢
    clear hU1
    refine wpIn_rangeFunc_ownG rfl (by omega) (gf := 46) (lb := #[.pointer (some ⟨Z0.heap.size + 2, 0, none⟩)]) rfl trivial (enters_of Tryd.func46 (by kernel_rfl) rfl)
      (values_stops Fence.wide _ trivial rfl (by omega) (Z0.heap.size + 2) (Z0.heap.size + 1) 0 17 17 kwF (by omega) U1 (by omega) (by omega) bN1.cell hrow1) KeepB.trans (KeepB.putObj U1.heap.size (by omega)) (Below.refl _ _) (fun _ => rfl)
      (fun pre W => (Boxed W Z0.heap.size 3 (.int .i64 pre.length) ∧ U1.heap.size ≤ W.heap.size) ∧ Below Z0.heap.size Z0 W)
      (LeftAt Z0 leave)
      (OwnFrom.and (fun s A B row hs hg hr => ⟨hs.1.kept hg (fun e => by have := (hr _ e.symm).1; omega), Nat.le_trans hs.2 hg.size⟩) (ownFrom_below (Nat.le_refl _) (by omega)))
      (fun c => left_own Z0 leave c _ (by omega))
      ⟨⟨bI1, Nat.le_refl _⟩, bB1⟩
      ?act2 ?assign2 ?body2 ?done2 ?stop2
    case assign2 =>
      intro l x W K hK
      gi_wp2
      exact hK
    case body2 =>
      rintro l pre ⟨x, hxs⟩ W ⟨⟨hc, hge⟩, hB⟩ hlt
      have hBW : Bel Z0 W := hB
      have hcc := hc.cell
      have hcf := hc.frozen
      have f1 := (boxed_bel E1.out (B1.trans hBW)).cell
      have f2 := boxed_bel E2.out (B1.trans hBW)
      have f2c := f2.cell
      have f2f := f2.frozen
      have f3 := (boxed_bel E3.out (B1.trans hBW)).cell
      have f4 := E4.out.bel (B1.trans hBW)
      have f5 := ((B1.trans hBW).cell hlt3).trans (E5.out pre.length hlt)
      have hnp := not_prefix pre ⟨x, hxs⟩ 17 kwF
      have kf := kw_at pre.length hlt
      have ksz := kw_size pre.length
      obtain ⟨j, hj⟩ : ∃ j, pre.length = j := ⟨_, rfl⟩
      obtain ⟨y, hy⟩ : ∃ y, (kwF pre.length).1 = y := ⟨_, rfl⟩
      rw [hy] at f5 hnp kf ksz
      rw [hj] at hc hcc f5 hlt
      have HJ := Lib.hid hj
      have HC := Lib.hid hc
      have F4 := Lib.hid f4
      have HBW := Lib.hid hBW
      have HNP := Lib.hid hnp
      have hszB := hBW.size
      have hlti : (j : Int) < 17 := by omega
      clear hj hc f4 hB hBW hnp hy f2
      by_cases hx : x = y
      · subst hx
        have k1 := fun w1 => keyword_c x ksz w1
        have k2 := fun w1 (hE1 : Env w1) => word_c x ksz w1 hE1
        have k3 := fun w1 (hE1 : Env w1) => right_c x ksz w1 hE1
        have k4 := fun w1 (hE1 : Env w1) => plain_c x ksz w1 hE1
        rw [kf.1] at k1
        rw [kf.2.1] at k2
        rw [kf.2.2.1] at k3
        rw [kf.2.2.2] at k4
        have K1 := Lib.hid k1
        have K2 := Lib.hid k2
        have K3 := Lib.hid k3
        have K4 := Lib.hid k4
        clear k1 k2 k3 k4 kf
        gi_wp2_with (refine ⟨trivial, ?_⟩; first
          | (gi_at_call 18; refine (callsIn_wide.2 (K1.out _)).mono ?_; rintro e w4 ⟨rfl, hb4⟩; have hE4' := F4.out.bel hb4)
          | (gi_at_call 20; refine (callsIn_wide.2 (K2.out _ hE4')).mono ?_; rintro e w5 ⟨rfl, hb5⟩; have hE5' := hE4'.bel hb5)
          | (gi_at_call 17; refine (callsIn_wide.2 (K3.out _ hE5')).mono ?_; rintro e w6 ⟨rfl, hb6⟩; have hE6' := hE5'.bel hb6)
          )
        refine ⟨trivial, ?_⟩
        refine (callsIn_wide.2 (K4.out _ hE6')).mono ?_
        rintro e w7 ⟨rfl, hb7⟩
        have hb47 : Bel W w7 := ((hb4.trans hb5).trans hb6).trans hb7
        have hc7 := boxed_bel HC.out hb47
        have hcc7 := hc7.cell
        have hcf7 := hc7.frozen
        have f17 := hb47.keep f1
        have HC7 := Lib.hid hc7
        have HB7 := Lib.hid hb47
        have f27 : (w7.setCell ⟨Z0.heap.size, 0, none⟩ (.int .i64 ((j : Int) + 1))).cell? ⟨w.heap.size, 0, none⟩ = some (.int .i64 leave) := (World.cell?_of_block (heap_setCell_other w7 ⟨Z0.heap.size, 0, none⟩ w.heap.size _ (by show w.heap.size ≠ Z0.heap.size; omega))).trans f17
        clear hc7 hb47 K1 K2 K3 K4
        gi_wp2
        · have hl : (j : Int) + 1 = leave := eq_of_beq (by assumption)
          refine ⟨(keepsFrom_bel _ HB7.out).trans (keepsFrom_set _ _ _ (by omega)), .inr ⟨rfl, ?_, ?_, ?_⟩⟩
          · rw [List.length_append, HJ.out]; simpa using hl
          · have := HC7.out.set (.int .i64 ((j : Int) + 1)); rw [hl] at this ⊢; exact this
          · exact (HBW.out.trans HB7.out).to_setCell (p := ⟨Z0.heap.size, 0, none⟩) (Nat.le_refl _) _
        · refine ⟨(keepsFrom_bel _ HB7.out).trans (keepsFrom_set _ _ _ (by omega)), (keepB_bel HB7.out (by omega)).trans (keepB_set _ _ _ (by show Z0.heap.size ≠ _; omega)), ⟨?_, ?_⟩, ?_⟩
          · rw [List.length_append, HJ.out]; exact HC7.out.set (.int .i64 ((j : Int) + 1))
          · have := HB7.out.size; simp; omega
          · exact (HBW.out.trans HB7.out).to_setCell (p := ⟨Z0.heap.size, 0, none⟩) (Nat.le_refl _) _
      · have hne : (y.toList == x.toList) = false := by simpa using fun h => hx (toList_eq h).symm
        gi_wp2_with (refine ⟨trivial, ?_⟩)
        exact ⟨keepsFrom_set _ _ _ (by omega), .inl (HNP.out hx)⟩
    case done2 =>
      rintro D1 ys Z1 hD1 rfl ⟨⟨hc, _⟩, hB⟩ hK1
      rw [upto_length] at hc
      have hBI1 : Bel Z0 Z1 := hB
      have hBZ1 : Bel W3 Z1 := B1.trans hB
      have hcc1 := hc.cell
      have f11 := (boxed_bel E1.out hBZ1).cell
      have f31 := (boxed_bel E3.out hBZ1).cell
      clear hc hB
      gi_wp2
      rw [roundsIn_succ]
      have f2Z := boxed_bel E2.out hBZ1
      have f2c := f2Z.cell
      have f2f := f2Z.frozen
      gi_wp2
      have hd1 := (hBI1.block (Array.getElem?_eq_some_iff.1 hK0).1).trans hK0
      have hlt0 := (Array.getElem?_eq_some_iff.1 hK0).1
      have q2 : (Z1.setCell ⟨w.heap.size + 1, 0, none⟩ (.bool true)).heap[D1]? = some (.deferred (some [])) := (heap_setCell_other _ _ _ _ (by show D1 ≠ w.heap.size + 1; omega)).trans hK1
      have q1 : ((Z1.setCell ⟨w.heap.size + 1, 0, none⟩ (.bool true)).putObj D1 (.deferred none)).heap[D0]? = some (.deferred (some [])) := (World.putObj_heap_other (by omega)).trans ((heap_setCell_other _ _ _ _ (by show D0 ≠ w.heap.size + 1; omega)).trans hd1)
      have q3 := (f2Z.set (.bool true)).cell
      have q4 : Bel w (Z1.setCell ⟨w.heap.size + 1, 0, none⟩ (.bool true)) := (E6.out.trans hBZ1).to_setCell (p := ⟨w.heap.size + 1, 0, none⟩) (by show w.heap.size ≤ w.heap.size + 1; omega) _
      refine ⟨by simp, .inl ⟨_, _, rfl, run_takeDeferred q2, ?_⟩⟩
      refine ⟨by simp, .inl ⟨_, _, rfl, run_takeDeferred q1, ?_⟩⟩
      refine ⟨.bool true, results_cell1 rfl _ _ (w.heap.size + 1) _ rfl (load_bool _ _ _ ?_), rfl, ?_⟩
      · exact (World.cell?_of_block ((World.putObj_heap_other (by show w.heap.size + 1 ≠ D0; omega)).trans (World.putObj_heap_other (by show w.heap.size + 1 ≠ D1; omega)))).trans q3
      · exact (Below.trans q4 (belowK_b (w := w) (Nat.le_refl _) _ D1 _ _ (by omega) q2 rfl rfl)).trans (belowK_b (w := w) (Nat.le_refl _) _ D0 _ _ (by omega) q1 rfl rfl)
    case stop2 =>
      rintro D1 c pre Z1 hD1 hSp hIx hK1
      rcases hIx with h | ⟨rfl, _, hc, hB⟩
      · exact absurd hSp h
      have hBI1 : Bel Z0 Z1 := hB
      have hBZ1 : Bel W3 Z1 := B1.trans hB
      have hcc1 := hc.cell
      have f11 := (boxed_bel E1.out hBZ1).cell
      have f31 := (boxed_bel E3.out hBZ1).cell
      have hself1 : (leave != leave) = false := by simp
      clear hc hB
      by_cases h17 : leave = 17
      · have h17' : (leave != 17) = false := by simpa using h17
        have H17 := Lib.hid h17'
        clear h17
        gi_wp2
        clear h17'
        rw [roundsIn_succ]
        have f2Z := boxed_bel E2.out hBZ1
        have f2c := f2Z.cell
        have f2f := f2Z.frozen
        gi_wp2
        have hd1 := (hBI1.block (Array.getElem?_eq_some_iff.1 hK0).1).trans hK0
        have hlt0 := (Array.getElem?_eq_some_iff.1 hK0).1
        have q2 : (Z1.setCell ⟨w.heap.size + 1, 0, none⟩ (.bool true)).heap[D1]? = some (.deferred (some [])) := (heap_setCell_other _ _ _ _ (by show D1 ≠ w.heap.size + 1; omega)).trans hK1
        have q1 : ((Z1.setCell ⟨w.heap.size + 1, 0, none⟩ (.bool true)).putObj D1 (.deferred none)).heap[D0]? = some (.deferred (some [])) := (World.putObj_heap_other (by omega)).trans ((heap_setCell_other _ _ _ _ (by show D0 ≠ w.heap.size + 1; omega)).trans hd1)
        have q3 := (f2Z.set (.bool true)).cell
        have q4 : Bel w (Z1.setCell ⟨w.heap.size + 1, 0, none⟩ (.bool true)) := (E6.out.trans hBZ1).to_setCell (p := ⟨w.heap.size + 1, 0, none⟩) (by show w.heap.size ≤ w.heap.size + 1; omega) _
        refine ⟨by simp, .inl ⟨_, _, rfl, run_takeDeferred q2, ?_⟩⟩
        refine ⟨by simp, .inl ⟨_, _, rfl, run_takeDeferred q1, ?_⟩⟩
        refine ⟨.bool true, results_cell1 rfl _ _ (w.heap.size + 1) _ rfl (load_bool _ _ _ ?_), rfl, ?_⟩
        · exact (World.cell?_of_block ((World.putObj_heap_other (by show w.heap.size + 1 ≠ D0; omega)).trans (World.putObj_heap_other (by show w.heap.size + 1 ≠ D1; omega)))).trans q3
        · exact (Below.trans q4 (belowK_b (w := w) (Nat.le_refl _) _ D1 _ _ (by omega) q2 rfl rfl)).trans (belowK_b (w := w) (Nat.le_refl _) _ D0 _ _ (by omega) q1 rfl rfl)
      · have h17' : (leave != 17) = true := by simpa using h17
        have H17 := Lib.hid h17'
        clear h17
        gi_wp2
        clear h17'
        rw [roundsIn_succ]
        have f2Z := boxed_bel E2.out hBZ1
        have f2c := f2Z.cell
        have f2f := f2Z.frozen
        gi_wp2
        have hd1 := (hBI1.block (Array.getElem?_eq_some_iff.1 hK0).1).trans hK0
        have hlt0 := (Array.getElem?_eq_some_iff.1 hK0).1
        have q2 : (Z1.setCell ⟨w.heap.size + 1, 0, none⟩ (.bool true)).heap[D1]? = some (.deferred (some [])) := (heap_setCell_other _ _ _ _ (by show D1 ≠ w.heap.size + 1; omega)).trans hK1
        have q1 : ((Z1.setCell ⟨w.heap.size + 1, 0, none⟩ (.bool true)).putObj D1 (.deferred none)).heap[D0]? = some (.deferred (some [])) := (World.putObj_heap_other (by omega)).trans ((heap_setCell_other _ _ _ _ (by show D0 ≠ w.heap.size + 1; omega)).trans hd1)
        have q3 := (f2Z.set (.bool true)).cell
        have q4 : Bel w (Z1.setCell ⟨w.heap.size + 1, 0, none⟩ (.bool true)) := (E6.out.trans hBZ1).to_setCell (p := ⟨w.heap.size + 1, 0, none⟩) (by show w.heap.size ≤ w.heap.size + 1; omega) _
        refine ⟨by simp, .inl ⟨_, _, rfl, run_takeDeferred q2, ?_⟩⟩
        refine ⟨by simp, .inl ⟨_, _, rfl, run_takeDeferred q1, ?_⟩⟩
        refine ⟨.bool true, results_cell1 rfl _ _ (w.heap.size + 1) _ rfl (load_bool _ _ _ ?_), rfl, ?_⟩
        · exact (World.cell?_of_block ((World.putObj_heap_other (by show w.heap.size + 1 ≠ D0; omega)).trans (World.putObj_heap_other (by show w.heap.size + 1 ≠ D1; omega)))).trans q3
        · exact (Below.trans q4 (belowK_b (w := w) (Nat.le_refl _) _ D1 _ _ (by omega) q2 rfl rfl)).trans (belowK_b (w := w) (Nat.le_refl _) _ D0 _ _ (by omega) q1 rfl rfl)
  case stop1 =>
    rintro D0 c pre Z0 hD0 hSp hIx hK0
    rcases hIx with h | ⟨rfl, _, hc, hB⟩
    · exact absurd hSp h
    have hBI0 : Bel W3 Z0 := hB
    have hBZ0 : Bel W3 Z0 := B0.trans hB
    have hcc0 := hc.cell
    have f10 := (boxed_bel E1.out hBZ0).cell
    have f30 := (boxed_bel E3.out hBZ0).cell
    have hself0 : (leave != leave) = false := by simp
    clear hc hB
    by_cases h17 : leave = 17
    · have h17' : (leave != 17) = false := by simpa using h17
      have H17 := Lib.hid h17'
      clear h17
      gi_wp2
      clear h17'
      rw [roundsIn_succ]
      have B1 : Bel W3 Z0 := hBZ0
      have hV1 := B1.size
      gi_wp2_with (refine ⟨trivial, ?_⟩; gi_at_call 23; refine (all_in _ (by omega) _).mono ?_; rintro e w' ⟨rfl, rfl⟩)
      have bN1 := Boxed.new ((Z0.alloc (.cells #[.int .i64 0] 3)).alloc (.cells kwV.toArray 9)) 30 (.slice (some ⟨Z0.heap.size + 1, 0, none⟩) 17 17)
      have bI1 := ((Boxed.new Z0 3 (.int .i64 0)).alloc (.cells kwV.toArray 9)).alloc (.cells #[.slice (some ⟨Z0.heap.size + 1, 0, none⟩) 17 17] 30)
      simp only [World.size_alloc] at bN1 bI1
      have bB1 : Below Z0.heap.size Z0 (((Z0.alloc (.cells #[.int .i64 0] 3)).alloc (.cells kwV.toArray 9)).alloc (.cells #[.slice (some ⟨Z0.heap.size + 1, 0, none⟩) 17 17] 30)) := (((Bel.alloc Z0 _).to_alloc _).to_alloc _)
      obtain ⟨U1, hU1⟩ : ∃ U, (((Z0.alloc (.cells #[.int .i64 0] 3)).alloc (.cells kwV.toArray 9)).alloc (.cells #[.slice (some ⟨Z0.heap.size + 1, 0, none⟩) 17 17] 30)) = U := ⟨_, rfl⟩
      have hrow1 : ∀ j, j < 17 → U1.cell? ⟨Z0.heap.size + 1, 0 + j, none⟩ = some (.string (kwF j).1) := fun j hj => by
        rw [← hU1, cell_alloc_old _ _ _ _ (by simp), show Z0.heap.size + 1 = (Z0.alloc (.cells #[.int .i64 0] 3)).heap.size from by simp]
        rw [cell_new_row _ _ _ _ (by simp [kwV, kwL]; exact hj)]
        exact kwV_at j hj
      have hs1 : U1.heap.size = Z0.heap.size + 3 := by rw [← hU1]; simp
      rw [hU1] at bN1 bI1 bB1 ⊢
      clear hU1
      refine wpIn_rangeFunc_ownG rfl (by omega) (gf := 46) (lb := #[.pointer (some ⟨Z0.heap.size + 2, 0, none⟩)]) rfl trivial (enters_of Tryd.func46 (by kernel_rfl) rfl)
        (values_stops Fence.wide _ trivial rfl (by omega) (Z0.heap.size + 2) (Z0.heap.size + 1) 0 17 17 kwF (by omega) U1 (by omega) (by omega) bN1.cell hrow1) KeepB.trans (KeepB.putObj U1.heap.size (by omega)) (Below.refl _ _) (fun _ => rfl)
        (fun pre W => (Boxed W Z0.heap.size 3 (.int .i64 pre.length) ∧ U1.heap.size ≤ W.heap.size) ∧ Below Z0.heap.size Z0 W)
        (LeftAt Z0 leave)
        (OwnFrom.and (fun s A B row hs hg hr => ⟨hs.1.kept hg (fun e => by have := (hr _ e.symm).1; omega), Nat.le_trans hs.2 hg.size⟩) (ownFrom_below (Nat.le_refl _) (by omega)))
        (fun c => left_own Z0 leave c _ (by omega))
        ⟨⟨bI1, Nat.le_refl _⟩, bB1⟩
        ?act3 ?assign3 ?body3 ?done3 ?stop3
      case assign3 =>
        intro l x W K hK
        gi_wp2
        exact hK
      case body3 =>
        rintro l pre ⟨x, hxs⟩ W ⟨⟨hc, hge⟩, hB⟩ hlt
        have hBW : Bel Z0 W := hB
        have hcc := hc.cell
        have hcf := hc.frozen
        have f1 := (boxed_bel E1.out (B1.trans hBW)).cell
        have f2 := boxed_bel E2.out (B1.trans hBW)
        have f2c := f2.cell
        have f2f := f2.frozen
        have f3 := (boxed_bel E3.out (B1.trans hBW)).cell
        have f4 := E4.out.bel (B1.trans hBW)
        have f5 := ((B1.trans hBW).cell hlt3).trans (E5.out pre.length hlt)
        have hnp := not_prefix pre ⟨x, hxs⟩ 17 kwF
        have kf := kw_at pre.length hlt
        have ksz := kw_size pre.length
        obtain ⟨j, hj⟩ : ∃ j, pre.length = j := ⟨_, rfl⟩
        obtain ⟨y, hy⟩ : ∃ y, (kwF pre.length).1 = y := ⟨_, rfl⟩
        rw [hy] at f5 hnp kf ksz
        rw [hj] at hc hcc f5 hlt
        have HJ := Lib.hid hj
        have HC := Lib.hid hc
        have F4 := Lib.hid f4
        have HBW := Lib.hid hBW
        have HNP := Lib.hid hnp
        have hszB := hBW.size
        have hlti : (j : Int) < 17 := by omega
        clear hj hc f4 hB hBW hnp hy f2
        by_cases hx : x = y
        · subst hx
          have k1 := fun w1 => keyword_c x ksz w1
          have k2 := fun w1 (hE1 : Env w1) => word_c x ksz w1 hE1
          have k3 := fun w1 (hE1 : Env w1) => right_c x ksz w1 hE1
          have k4 := fun w1 (hE1 : Env w1) => plain_c x ksz w1 hE1
          rw [kf.1] at k1
          rw [kf.2.1] at k2
          rw [kf.2.2.1] at k3
          rw [kf.2.2.2] at k4
          have K1 := Lib.hid k1
          have K2 := Lib.hid k2
          have K3 := Lib.hid k3
          have K4 := Lib.hid k4
          clear k1 k2 k3 k4 kf
          gi_wp2_with (refine ⟨trivial, ?_⟩; first
            | (gi_at_call 18; refine (callsIn_wide.2 (K1.out _)).mono ?_; rintro e w4 ⟨rfl, hb4⟩; have hE4' := F4.out.bel hb4)
            | (gi_at_call 20; refine (callsIn_wide.2 (K2.out _ hE4')).mono ?_; rintro e w5 ⟨rfl, hb5⟩; have hE5' := hE4'.bel hb5)
            | (gi_at_call 17; refine (callsIn_wide.2 (K3.out _ hE5')).mono ?_; rintro e w6 ⟨rfl, hb6⟩; have hE6' := hE5'.bel hb6)
            )
          refine ⟨trivial, ?_⟩
          refine (callsIn_wide.2 (K4.out _ hE6')).mono ?_
          rintro e w7 ⟨rfl, hb7⟩
          have hb47 : Bel W w7 := ((hb4.trans hb5).trans hb6).trans hb7
          have hc7 := boxed_bel HC.out hb47
          have hcc7 := hc7.cell
          have hcf7 := hc7.frozen
          have f17 := hb47.keep f1
          have HC7 := Lib.hid hc7
          have HB7 := Lib.hid hb47
          have f27 : (w7.setCell ⟨Z0.heap.size, 0, none⟩ (.int .i64 ((j : Int) + 1))).cell? ⟨w.heap.size, 0, none⟩ = some (.int .i64 leave) := (World.cell?_of_block (heap_setCell_other w7 ⟨Z0.heap.size, 0, none⟩ w.heap.size _ (by show w.heap.size ≠ Z0.heap.size; omega))).trans f17
          clear hc7 hb47 K1 K2 K3 K4
          gi_wp2
          · have hl : (j : Int) + 1 = leave := eq_of_beq (by assumption)
            refine ⟨(keepsFrom_bel _ HB7.out).trans (keepsFrom_set _ _ _ (by omega)), .inr ⟨rfl, ?_, ?_, ?_⟩⟩
            · rw [List.length_append, HJ.out]; simpa using hl
            · have := HC7.out.set (.int .i64 ((j : Int) + 1)); rw [hl] at this ⊢; exact this
            · exact (HBW.out.trans HB7.out).to_setCell (p := ⟨Z0.heap.size, 0, none⟩) (Nat.le_refl _) _
          · refine ⟨(keepsFrom_bel _ HB7.out).trans (keepsFrom_set _ _ _ (by omega)), (keepB_bel HB7.out (by omega)).trans (keepB_set _ _ _ (by show Z0.heap.size ≠ _; omega)), ⟨?_, ?_⟩, ?_⟩
            · rw [List.length_append, HJ.out]; exact HC7.out.set (.int .i64 ((j : Int) + 1))
            · have := HB7.out.size; simp; omega
            · exact (HBW.out.trans HB7.out).to_setCell (p := ⟨Z0.heap.size, 0, none⟩) (Nat.le_refl _) _
        · have hne : (y.toList == x.toList) = false := by simpa using fun h => hx (toList_eq h).symm
          gi_wp2_with (refine ⟨trivial, ?_⟩)
          exact ⟨keepsFrom_set _ _ _ (by omega), .inl (HNP.out hx)⟩
      case done3 =>
        rintro D1 ys Z1 hD1 rfl ⟨⟨hc, _⟩, hB⟩ hK1
        rw [upto_length] at hc
        have hBI1 : Bel Z0 Z1 := hB
        have hBZ1 : Bel W3 Z1 := B1.trans hB
        have hcc1 := hc.cell
        have f11 := (boxed_bel E1.out hBZ1).cell
        have f31 := (boxed_bel E3.out hBZ1).cell
        clear hc hB
        gi_wp2
        rw [roundsIn_succ]
        have f2Z := boxed_bel E2.out hBZ1
        have f2c := f2Z.cell
        have f2f := f2Z.frozen
        gi_wp2
        have hd1 := (hBI1.block (Array.getElem?_eq_some_iff.1 hK0).1).trans hK0
        have hlt0 := (Array.getElem?_eq_some_iff.1 hK0).1
        have q2 : (Z1.setCell ⟨w.heap.size + 1, 0, none⟩ (.bool true)).heap[D1]? = some (.deferred (some [])) := (heap_setCell_other _ _ _ _ (by show D1 ≠ w.heap.size + 1; omega)).trans hK1
        have q1 : ((Z1.setCell ⟨w.heap.size + 1, 0, none⟩ (.bool true)).putObj D1 (.deferred none)).heap[D0]? = some (.deferred (some [])) := (World.putObj_heap_other (by omega)).trans ((heap_setCell_other _ _ _ _ (by show D0 ≠ w.heap.size + 1; omega)).trans hd1)
        have q3 := (f2Z.set (.bool true)).cell
        have q4 : Bel w (Z1.setCell ⟨w.heap.size + 1, 0, none⟩ (.bool true)) := (E6.out.trans hBZ1).to_setCell (p := ⟨w.heap.size + 1, 0, none⟩) (by show w.heap.size ≤ w.heap.size + 1; omega) _
        refine ⟨by simp, .inl ⟨_, _, rfl, run_takeDeferred q2, ?_⟩⟩
        refine ⟨by simp, .inl ⟨_, _, rfl, run_takeDeferred q1, ?_⟩⟩
        refine ⟨.bool true, results_cell1 rfl _ _ (w.heap.size + 1) _ rfl (load_bool _ _ _ ?_), rfl, ?_⟩
        · exact (World.cell?_of_block ((World.putObj_heap_other (by show w.heap.size + 1 ≠ D0; omega)).trans (World.putObj_heap_other (by show w.heap.size + 1 ≠ D1; omega)))).trans q3
        · exact (Below.trans q4 (belowK_b (w := w) (Nat.le_refl _) _ D1 _ _ (by omega) q2 rfl rfl)).trans (belowK_b (w := w) (Nat.le_refl _) _ D0 _ _ (by omega) q1 rfl rfl)
      case stop3 =>
        rintro D1 c pre Z1 hD1 hSp hIx hK1
        rcases hIx with h | ⟨rfl, _, hc, hB⟩
        · exact absurd hSp h
        have hBI1 : Bel Z0 Z1 := hB
        have hBZ1 : Bel W3 Z1 := B1.trans hB
        have hcc1 := hc.cell
        have f11 := (boxed_bel E1.out hBZ1).cell
        have f31 := (boxed_bel E3.out hBZ1).cell
        have hself1 : (leave != leave) = false := by simp
        clear hc hB
        have h17' := H17.out
        gi_wp2
        rw [roundsIn_succ]
        have f2Z := boxed_bel E2.out hBZ1
        have f2c := f2Z.cell
        have f2f := f2Z.frozen
        gi_wp2
        have hd1 := (hBI1.block (Array.getElem?_eq_some_iff.1 hK0).1).trans hK0
        have hlt0 := (Array.getElem?_eq_some_iff.1 hK0).1
        have q2 : (Z1.setCell ⟨w.heap.size + 1, 0, none⟩ (.bool true)).heap[D1]? = some (.deferred (some [])) := (heap_setCell_other _ _ _ _ (by show D1 ≠ w.heap.size + 1; omega)).trans hK1
        have q1 : ((Z1.setCell ⟨w.heap.size + 1, 0, none⟩ (.bool true)).putObj D1 (.deferred none)).heap[D0]? = some (.deferred (some [])) := (World.putObj_heap_other (by omega)).trans ((heap_setCell_other _ _ _ _ (by show D0 ≠ w.heap.size + 1; omega)).trans hd1)
        have q3 := (f2Z.set (.bool true)).cell
        have q4 : Bel w (Z1.setCell ⟨w.heap.size + 1, 0, none⟩ (.bool true)) := (E6.out.trans hBZ1).to_setCell (p := ⟨w.heap.size + 1, 0, none⟩) (by show w.heap.size ≤ w.heap.size + 1; omega) _
        refine ⟨by simp, .inl ⟨_, _, rfl, run_takeDeferred q2, ?_⟩⟩
        refine ⟨by simp, .inl ⟨_, _, rfl, run_takeDeferred q1, ?_⟩⟩
        refine ⟨.bool true, results_cell1 rfl _ _ (w.heap.size + 1) _ rfl (load_bool _ _ _ ?_), rfl, ?_⟩
        · exact (World.cell?_of_block ((World.putObj_heap_other (by show w.heap.size + 1 ≠ D0; omega)).trans (World.putObj_heap_other (by show w.heap.size + 1 ≠ D1; omega)))).trans q3
        · exact (Below.trans q4 (belowK_b (w := w) (Nat.le_refl _) _ D1 _ _ (by omega) q2 rfl rfl)).trans (belowK_b (w := w) (Nat.le_refl _) _ D0 _ _ (by omega) q1 rfl rfl)
    · have h17' : (leave != 17) = true := by simpa using h17
      have H17 := Lib.hid h17'
      clear h17
      gi_wp2
      clear h17'
      rw [roundsIn_succ]
      have B1 : Bel W3 Z0 := hBZ0
      have hV1 := B1.size
      gi_wp2_with (refine ⟨trivial, ?_⟩; gi_at_call 23; refine (all_in _ (by omega) _).mono ?_; rintro e w' ⟨rfl, rfl⟩)
      have bN1 := Boxed.new ((Z0.alloc (.cells #[.int .i64 0] 3)).alloc (.cells kwV.toArray 9)) 30 (.slice (some ⟨Z0.heap.size + 1, 0, none⟩) 17 17)
      have bI1 := ((Boxed.new Z0 3 (.int .i64 0)).alloc (.cells kwV.toArray 9)).alloc (.cells #[.slice (some ⟨Z0.heap.size + 1, 0, none⟩) 17 17] 30)
      simp only [World.size_alloc] at bN1 bI1
      have bB1 : Below Z0.heap.size Z0 (((Z0.alloc (.cells #[.int .i64 0] 3)).alloc (.cells kwV.toArray 9)).alloc (.cells #[.slice (some ⟨Z0.heap.size + 1, 0, none⟩) 17 17] 30)) := (((Bel.alloc Z0 _).to_alloc _).to_alloc _)
      obtain ⟨U1, hU1⟩ : ∃ U, (((Z0.alloc (.cells #[.int .i64 0] 3)).alloc (.cells kwV.toArray 9)).alloc (.cells #[.slice (some ⟨Z0.heap.size + 1, 0, none⟩) 17 17] 30)) = U := ⟨_, rfl⟩
      have hrow1 : ∀ j, j < 17 → U1.cell? ⟨Z0.heap.size + 1, 0 + j, none⟩ = some (.string (kwF j).1) := fun j hj => by
        rw [← hU1, cell_alloc_old _ _ _ _ (by simp), show Z0.heap.size + 1 = (Z0.alloc (.cells #[.int .i64 0] 3)).heap.size from by simp]
        rw [cell_new_row _ _ _ _ (by simp [kwV, kwL]; exact hj)]
        exact kwV_at j hj
      have hs1 : U1.heap.size = Z0.heap.size + 3 := by rw [← hU1]; simp
      rw [hU1] at bN1 bI1 bB1 ⊢
      clear hU1
      refine wpIn_rangeFunc_ownG rfl (by omega) (gf := 46) (lb := #[.pointer (some ⟨Z0.heap.size + 2, 0, none⟩)]) rfl trivial (enters_of Tryd.func46 (by kernel_rfl) rfl)
        (values_stops Fence.wide _ trivial rfl (by omega) (Z0.heap.size + 2) (Z0.heap.size + 1) 0 17 17 kwF (by omega) U1 (by omega) (by omega) bN1.cell hrow1) KeepB.trans (KeepB.putObj U1.heap.size (by omega)) (Below.refl _ _) (fun _ => rfl)
        (fun pre W => (Boxed W Z0.heap.size 3 (.int .i64 pre.length) ∧ U1.heap.size ≤ W.heap.size) ∧ Below Z0.heap.size Z0 W)
        (LeftAt Z0 leave)
        (OwnFrom.and (fun s A B row hs hg hr => ⟨hs.1.kept hg (fun e => by have := (hr _ e.symm).1; omega), Nat.le_trans hs.2 hg.size⟩) (ownFrom_below (Nat.le_refl _) (by omega)))
        (fun c => left_own Z0 leave c _ (by omega))
        ⟨⟨bI1, Nat.le_refl _⟩, bB1⟩
        ?act4 ?assign4 ?body4 ?done4 ?stop4
      case assign4 =>
        intro l x W K hK
        gi_wp2
        exact hK
      case body4 =>
        rintro l pre ⟨x, hxs⟩ W ⟨⟨hc, hge⟩, hB⟩ hlt
        have hBW : Bel Z0 W := hB
        have hcc := hc.cell
        have hcf := hc.frozen
        have f1 := (boxed_bel E1.out (B1.trans hBW)).cell
        have f2 := boxed_bel E2.out (B1.trans hBW)
        have f2c := f2.cell
        have f2f := f2.frozen
        have f3 := (boxed_bel E3.out (B1.trans hBW)).cell
        have f4 := E4.out.bel (B1.trans hBW)
        have f5 := ((B1.trans hBW).cell hlt3).trans (E5.out pre.length hlt)
        have hnp := not_prefix pre ⟨x, hxs⟩ 17 kwF
        have kf := kw_at pre.length hlt
        have ksz := kw_size pre.length
        obtain ⟨j, hj⟩ : ∃ j, pre.length = j := ⟨_, rfl⟩
        obtain ⟨y, hy⟩ : ∃ y, (kwF pre.length).1 = y := ⟨_, rfl⟩
        rw [hy] at f5 hnp kf ksz
        rw [hj] at hc hcc f5 hlt
        have HJ := Lib.hid hj
        have HC := Lib.hid hc
        have F4 := Lib.hid f4
        have HBW := Lib.hid hBW
        have HNP := Lib.hid hnp
        have hszB := hBW.size
        have hlti : (j : Int) < 17 := by omega
        clear hj hc f4 hB hBW hnp hy f2
        by_cases hx : x = y
        · subst hx
          have k1 := fun w1 => keyword_c x ksz w1
          have k2 := fun w1 (hE1 : Env w1) => word_c x ksz w1 hE1
          have k3 := fun w1 (hE1 : Env w1) => right_c x ksz w1 hE1
          have k4 := fun w1 (hE1 : Env w1) => plain_c x ksz w1 hE1
          rw [kf.1] at k1
          rw [kf.2.1] at k2
          rw [kf.2.2.1] at k3
          rw [kf.2.2.2] at k4
          have K1 := Lib.hid k1
          have K2 := Lib.hid k2
          have K3 := Lib.hid k3
          have K4 := Lib.hid k4
          clear k1 k2 k3 k4 kf
          gi_wp2_with (refine ⟨trivial, ?_⟩; first
            | (gi_at_call 18; refine (callsIn_wide.2 (K1.out _)).mono ?_; rintro e w4 ⟨rfl, hb4⟩; have hE4' := F4.out.bel hb4)
            | (gi_at_call 20; refine (callsIn_wide.2 (K2.out _ hE4')).mono ?_; rintro e w5 ⟨rfl, hb5⟩; have hE5' := hE4'.bel hb5)
            | (gi_at_call 17; refine (callsIn_wide.2 (K3.out _ hE5')).mono ?_; rintro e w6 ⟨rfl, hb6⟩; have hE6' := hE5'.bel hb6)
            )
          refine ⟨trivial, ?_⟩
          refine (callsIn_wide.2 (K4.out _ hE6')).mono ?_
          rintro e w7 ⟨rfl, hb7⟩
          have hb47 : Bel W w7 := ((hb4.trans hb5).trans hb6).trans hb7
          have hc7 := boxed_bel HC.out hb47
          have hcc7 := hc7.cell
          have hcf7 := hc7.frozen
          have f17 := hb47.keep f1
          have HC7 := Lib.hid hc7
          have HB7 := Lib.hid hb47
          have f27 : (w7.setCell ⟨Z0.heap.size, 0, none⟩ (.int .i64 ((j : Int) + 1))).cell? ⟨w.heap.size, 0, none⟩ = some (.int .i64 leave) := (World.cell?_of_block (heap_setCell_other w7 ⟨Z0.heap.size, 0, none⟩ w.heap.size _ (by show w.heap.size ≠ Z0.heap.size; omega))).trans f17
          clear hc7 hb47 K1 K2 K3 K4
          gi_wp2
          · have hl : (j : Int) + 1 = leave := eq_of_beq (by assumption)
            refine ⟨(keepsFrom_bel _ HB7.out).trans (keepsFrom_set _ _ _ (by omega)), .inr ⟨rfl, ?_, ?_, ?_⟩⟩
            · rw [List.length_append, HJ.out]; simpa using hl
            · have := HC7.out.set (.int .i64 ((j : Int) + 1)); rw [hl] at this ⊢; exact this
            · exact (HBW.out.trans HB7.out).to_setCell (p := ⟨Z0.heap.size, 0, none⟩) (Nat.le_refl _) _
          · refine ⟨(keepsFrom_bel _ HB7.out).trans (keepsFrom_set _ _ _ (by omega)), (keepB_bel HB7.out (by omega)).trans (keepB_set _ _ _ (by show Z0.heap.size ≠ _; omega)), ⟨?_, ?_⟩, ?_⟩
            · rw [List.length_append, HJ.out]; exact HC7.out.set (.int .i64 ((j : Int) + 1))
            · have := HB7.out.size; simp; omega
            · exact (HBW.out.trans HB7.out).to_setCell (p := ⟨Z0.heap.size, 0, none⟩) (Nat.le_refl _) _
        · have hne : (y.toList == x.toList) = false := by simpa using fun h => hx (toList_eq h).symm
          gi_wp2_with (refine ⟨trivial, ?_⟩)
          exact ⟨keepsFrom_set _ _ _ (by omega), .inl (HNP.out hx)⟩
      case done4 =>
        rintro D1 ys Z1 hD1 rfl ⟨⟨hc, _⟩, hB⟩ hK1
        rw [upto_length] at hc
        have hBI1 : Bel Z0 Z1 := hB
        have hBZ1 : Bel W3 Z1 := B1.trans hB
        have hcc1 := hc.cell
        have f11 := (boxed_bel E1.out hBZ1).cell
        have f31 := (boxed_bel E3.out hBZ1).cell
        clear hc hB
        gi_wp2
        rw [roundsIn_succ]
        have f2Z := boxed_bel E2.out hBZ1
        have f2c := f2Z.cell
        have f2f := f2Z.frozen
        gi_wp2
        have hd1 := (hBI1.block (Array.getElem?_eq_some_iff.1 hK0).1).trans hK0
        have hlt0 := (Array.getElem?_eq_some_iff.1 hK0).1
        have q2 : (Z1.setCell ⟨w.heap.size + 1, 0, none⟩ (.bool true)).heap[D1]? = some (.deferred (some [])) := (heap_setCell_other _ _ _ _ (by show D1 ≠ w.heap.size + 1; omega)).trans hK1
        have q1 : ((Z1.setCell ⟨w.heap.size + 1, 0, none⟩ (.bool true)).putObj D1 (.deferred none)).heap[D0]? = some (.deferred (some [])) := (World.putObj_heap_other (by omega)).trans ((heap_setCell_other _ _ _ _ (by show D0 ≠ w.heap.size + 1; omega)).trans hd1)
        have q3 := (f2Z.set (.bool true)).cell
        have q4 : Bel w (Z1.setCell ⟨w.heap.size + 1, 0, none⟩ (.bool true)) := (E6.out.trans hBZ1).to_setCell (p := ⟨w.heap.size + 1, 0, none⟩) (by show w.heap.size ≤ w.heap.size + 1; omega) _
        refine ⟨by simp, .inl ⟨_, _, rfl, run_takeDeferred q2, ?_⟩⟩
        refine ⟨by simp, .inl ⟨_, _, rfl, run_takeDeferred q1, ?_⟩⟩
        refine ⟨.bool true, results_cell1 rfl _ _ (w.heap.size + 1) _ rfl (load_bool _ _ _ ?_), rfl, ?_⟩
        · exact (World.cell?_of_block ((World.putObj_heap_other (by show w.heap.size + 1 ≠ D0; omega)).trans (World.putObj_heap_other (by show w.heap.size + 1 ≠ D1; omega)))).trans q3
        · exact (Below.trans q4 (belowK_b (w := w) (Nat.le_refl _) _ D1 _ _ (by omega) q2 rfl rfl)).trans (belowK_b (w := w) (Nat.le_refl _) _ D0 _ _ (by omega) q1 rfl rfl)
      case stop4 =>
        rintro D1 c pre Z1 hD1 hSp hIx hK1
        rcases hIx with h | ⟨rfl, _, hc, hB⟩
        · exact absurd hSp h
        have hBI1 : Bel Z0 Z1 := hB
        have hBZ1 : Bel W3 Z1 := B1.trans hB
        have hcc1 := hc.cell
        have f11 := (boxed_bel E1.out hBZ1).cell
        have f31 := (boxed_bel E3.out hBZ1).cell
        have hself1 : (leave != leave) = false := by simp
        clear hc hB
        have h17' := H17.out
        gi_wp2
        rw [roundsIn_succ]
        have f2Z := boxed_bel E2.out hBZ1
        have f2c := f2Z.cell
        have f2f := f2Z.frozen
        gi_wp2
        have hd1 := (hBI1.block (Array.getElem?_eq_some_iff.1 hK0).1).trans hK0
        have hlt0 := (Array.getElem?_eq_some_iff.1 hK0).1
        have q2 : (Z1.setCell ⟨w.heap.size + 1, 0, none⟩ (.bool true)).heap[D1]? = some (.deferred (some [])) := (heap_setCell_other _ _ _ _ (by show D1 ≠ w.heap.size + 1; omega)).trans hK1
        have q1 : ((Z1.setCell ⟨w.heap.size + 1, 0, none⟩ (.bool true)).putObj D1 (.deferred none)).heap[D0]? = some (.deferred (some [])) := (World.putObj_heap_other (by omega)).trans ((heap_setCell_other _ _ _ _ (by show D0 ≠ w.heap.size + 1; omega)).trans hd1)
        have q3 := (f2Z.set (.bool true)).cell
        have q4 : Bel w (Z1.setCell ⟨w.heap.size + 1, 0, none⟩ (.bool true)) := (E6.out.trans hBZ1).to_setCell (p := ⟨w.heap.size + 1, 0, none⟩) (by show w.heap.size ≤ w.heap.size + 1; omega) _
        refine ⟨by simp, .inl ⟨_, _, rfl, run_takeDeferred q2, ?_⟩⟩
        refine ⟨by simp, .inl ⟨_, _, rfl, run_takeDeferred q1, ?_⟩⟩
        refine ⟨.bool true, results_cell1 rfl _ _ (w.heap.size + 1) _ rfl (load_bool _ _ _ ?_), rfl, ?_⟩
        · exact (World.cell?_of_block ((World.putObj_heap_other (by show w.heap.size + 1 ≠ D0; omega)).trans (World.putObj_heap_other (by show w.heap.size + 1 ≠ D1; omega)))).trans q3
        · exact (Below.trans q4 (belowK_b (w := w) (Nat.le_refl _) _ D1 _ _ (by omega) q2 rfl rfl)).trans (belowK_b (w := w) (Nat.le_refl _) _ D0 _ _ (by omega) q1 rfl rfl)
end Go.Proofs.YtfmhpeinikidfaaDoor
