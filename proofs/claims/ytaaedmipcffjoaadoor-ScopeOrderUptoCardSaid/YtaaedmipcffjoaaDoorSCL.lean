/-
  The walk of the scope laws' own 'names': all of a scope's names, in order.
-/
import Derived.Test.YtaaedmipcffjoaaDoorSCK
import Derived.Test.YtaaedmipcffjoaaDoorP
namespace Go.Proofs.YtaaedmipcffjoaaDoor
open Go.RowKit Go.Shelf
attribute [local go_sem] Oper.semAt_some

set_option maxHeartbeats 400000 in
theorem scopeNames_in (n : Nat) (po : Option Addr) (w : World) :
    CallsIn Fence.wide n Tryd.prog 43 #[.pointer po] w fun e w' => e = .returned (.func (.func 67) #[] #[.pointer (some ⟨w.heap.size, 0, none⟩)]) ∧ w' = w.alloc (.cells #[.pointer po] 25) := by
  refine callsIn_of_wp Tryd.func43 rfl trivial ?_ rfl
  simp only [Tryd.ntmps43, List.size_toArray, List.length_cons, List.length_nil, Nat.reduceAdd, Nat.reduceSub, Array.replicate_succ, Array.replicate_zero, List.push_toArray, List.append_toArray, List.nil_append, List.cons_append]
  gi_wp2
  go_ret
  exact ⟨rfl, rfl⟩

theorem boxed_inj {W : World} {B : Nat} {T : TypeId} {u v : Value} (h : Boxed W B T u) (k : Boxed W B T v) : u = v := by
  have := h.symm.trans k
  simpa using this

set_option maxRecDepth 100000 in
set_option maxHeartbeats 4000000 in
theorem names_c (v : Value) (N : List ByteArray) (w : World) (h : ScopeIs w v N) :
    Calls Tryd.prog 29 #[v] w fun e w' => ∃ u, e = .returned u ∧ RowAt0 w' u (strsV N) ∧ Bel w w' := by
  obtain ⟨po, rfl⟩ := scope_ptr h
  have hx : ∀ x ∈ N, x.size ≤ maxLen := fun x hx => by have := h.1.2 x hx; unfold maxLen; omega
  obtain ⟨i0, hi, hz0, hz1, hz2⟩ := info_parts info_str5
  cases po with
  | none =>
    have hN : N = [] := by
      obtain ⟨_, _, C, hv, hp⟩ := h
      cases C with
      | nil => exact List.Perm.eq_nil hp
      | cons own C => obtain ⟨b, u, sl, h1, _⟩ := hv; cases h1
    subst hN
    go_enter Tryd.func29, Tryd.ntmps29
    go_wp2
    go_ret
    exact ⟨_, rfl, .inl ⟨rfl, rfl⟩, Bel.alloc _ _⟩
  | some p =>
    refine (callsIn_wide (n := 6)).1 ?_
    refine callsIn_of_wp_marks Tryd.func29 rfl trivial ?_ rfl
    simp only [Tryd.ntmps29, List.size_toArray, List.length_cons, List.length_nil, Nat.reduceAdd, Nat.reduceSub, Array.replicate_succ, Array.replicate_zero, List.push_toArray, List.append_toArray, List.nil_append, List.cons_append]
    gi_wp2_with (refine ⟨trivial, ?_⟩; gi_at_call 43; refine (scopeNames_in _ _ _).mono ?_; rintro e w1 ⟨rfl, rfl⟩)
    have bL := Boxed.new w 22 (.slice none 0 0)
    have bS := Boxed.new (w.alloc (.cells #[.slice none 0 0] 22)) 25 (.pointer (some p))
    have bL := bL.alloc (.cells #[.pointer (some p)] 25)
    have hb0 : Bel w ((w.alloc (.cells #[.slice none 0 0] 22)).alloc (.cells #[.pointer (some p)] 25)) := (Bel.alloc _ _).to_alloc _
    have hs0 : ((w.alloc (.cells #[.slice none 0 0] 22)).alloc (.cells #[.pointer (some p)] 25)).heap.size = w.heap.size + 2 := by simp
    simp only [World.size_alloc] at bS bL
    obtain ⟨W0, hW0⟩ : ∃ W0, (w.alloc (.cells #[.slice none 0 0] 22)).alloc (.cells #[.pointer (some p)] 25) = W0 := ⟨_, rfl⟩
    rw [hW0] at bL bS hb0 hs0 ⊢
    have hsc := h.bel hb0
    obtain ⟨I, hIdef⟩ : ∃ I : List Str → World → Prop, I = fun pre W => ((∃ u, Boxed W w.heap.size 22 u ∧ W.ownsRow w.heap.size 9 1 u pre.length (pre.map fun x => Value.string x.1) ∧ True) ∧ W0.heap.size ≤ W.heap.size) ∧ Below w.heap.size w W := ⟨_, rfl⟩
    have hI : OwnFrom W0.heap.size I := by
      rw [hIdef]
      exact OwnFrom.and (OwnFrom.and (Own.from (holdsRow_own w.heap.size w.heap.size 22 9 1 (fun pre : List Str => pre.length) (fun pre => pre.map fun x => Value.string x.1) (fun _ _ => True)) _) (fun s A B row hs hg hr => Nat.le_trans hs hg.size)) (ownFrom_below (Nat.le_refl _) (by omega))
    have hIb : ∀ pre W W', I pre W → Bel W W' → I pre W' := by
      rw [hIdef]
      rintro pre W W' ⟨⟨⟨u, hu, hr, _⟩, h1⟩, h2⟩ hb
      exact ⟨⟨⟨u, (hb.block hu.lt).trans hu, own_bel hr hb, trivial⟩, Nat.le_trans h1 hb.size⟩, Bel.trans h2 hb⟩
    have h0 : I [] W0 := by rw [hIdef]; exact ⟨⟨⟨_, bL, World.ownsRow_nil _ _ _ _, trivial⟩, Nat.le_refl _⟩, hb0⟩
    refine wpIn_rangeFunc_via rfl (by omega) (gf := 67) (lb := #[.pointer (some ⟨w.heap.size + 1, 0, none⟩)]) rfl trivial (enters_of Tryd.func67 (by kernel_rfl) rfl)
      (encs := fun x : Str => #[Value.string x.1]) (S := fun xs => xs = upto (strAt N hx) N.length) (N := N.length) (fun _ => rfl) w.heap.size 22 (by omega) I hI h0 ?act1 ?assign ?body ?iter ?done
    case assign =>
      intro l x W K hK
      gi_wp2
      exact hK
    case body =>
      rintro l pre x W hiW hlt
      have HID := Lib.hid hIdef
      rw [hIdef] at hiW
      obtain ⟨⟨⟨u, hu, hrow, _⟩, hge⟩, hB⟩ := hiW
      clear hIdef
      have huc := hu.cell
      have hle : w.heap.size ≤ W.heap.size := by omega
      have hN4 := h.2.1
      gi_wp2_with (gi_at_builtin; refine wpListIn_append_own_at _ rfl _ _ 22 rfl w.heap.size 9 i0 (.string ⟨#[]⟩) 1 16 Tryd.underlying22 hi hz0 hz1 hz2 rfl (by decide) _ _ _ rfl (hrow.alloc _) ⟨W.heap.size, 0, none⟩ 1 1 [.string x.1] rfl rfl (cell_one_new _ _ _) (by simp [Value.oneCell']) (by unfold maxLen; omega) (by omega) (by simp; omega) ?_; intro v' w1 hown' hgrow _ hat; obtain ⟨g', cap', rfl⟩ := ownsRow_succ hown'; obtain ⟨hv1, hv2, hr2, hk2, hb2⟩ := hu.appended (by decide) hrow hle (Nat.le_refl _) hown' hgrow; have hc1 := hv1.cell; have hf1 := hv1.frozen)
      refine ⟨hk2, ⟨hb2.size, fun k hk => ?_⟩, ?_⟩
      · obtain ⟨⟨cs, t, fr, hc⟩, hkl, hku⟩ := hk
        have hne := hku u hu
        have hks := (Array.getElem?_eq_some_iff.1 hc).1
        have e1 : (w1.setCell ⟨w.heap.size, 0, none⟩ (.slice (some ⟨g', 0, none⟩) (pre.length + 1) cap')).heap[k]? = W.heap[k]? := by
          rw [Below.heap_setCell _ _ _ k hkl, hgrow.block k (by simp; omega) hne]
          exact (Bel.alloc W _).block hks
        refine ⟨e1, ⟨cs, t, fr, e1.trans hc⟩, hkl, fun u' hu' => ?_⟩
        rw [boxed_inj hu' hv2]
        rcases hat with h | h
        · rw [h]; exact hne
        · rw [h]
          intro e
          have := Option.some.inj e
          simp at this
          omega
      · rw [HID.out]
        exact ⟨⟨⟨_, hv2, by simpa using hr2, trivial⟩, Nat.le_trans hge hb2.size⟩, hB.trans hb2⟩
    case iter =>
      intro l D r W1 hl hD hB1 hI1 hlr hDr hY
      have hbs : Boxed W1 (w.heap.size + 1) 25 (.pointer (some p)) := (Bel.block hB1 (by omega)).trans bS
      have hsz := Below.size hB1
      refine names_iter 5 (by omega) w.heap.size 22 I W0.heap.size hI hIb (.pointer (some p)) N hx (w.heap.size + 1) l D r W1 (hsc.bel hB1) hbs hsz hI1 (by omega) ?_ hlr hDr (fun pre x W => hY pre x W)
      rw [hIdef] at hI1
      obtain ⟨⟨⟨u', hu', hr', _⟩, _⟩, _⟩ := hI1
      intro u hu k hk e
      rw [boxed_inj hu hu'] at e
      have := (hr'.lt k e.symm).2
      omega
    case done =>
      rintro D ys W hD rfl hIy hK
      rw [hIdef] at hIy
      obtain ⟨⟨⟨u, hu, hrow, _⟩, hge⟩, hB⟩ := hIy
      have huc := hu.cell
      gi_wp2
      refine ⟨by simp, .inl ⟨_, _, rfl, run_takeDeferred hK, ?_⟩⟩
      rw [upto_length, upto_strAt] at hrow
      exact ⟨_, results_tmp rfl _ _ _, _, rfl, own_row (ownsRow_putObj hrow _ hK rfl), hB.trans (belowK_b (w := w) (Nat.le_refl _) W D _ _ (by omega) hK rfl rfl)⟩
end Go.Proofs.YtaaedmipcffjoaaDoor
