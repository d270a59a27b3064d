/-
  What serves each card's frame: arguments read behind the call as before; the bound's parts; a slice of strings that came in.
-/
import Derived.Test.YtaaedmipcffjoaaDoorZ
import Derived.Test.YtaaedmipcffjoaaDoorSCA
import Derived.Carry
import Derived.LaidSub
import Derived.LaidHandle
import Derived.SliceStrings
namespace Go.Proofs.YtaaedmipcffjoaaDoor
open Go.ChangeShapes Go.WideShapes Go.ChangeAt Go.RowKit Go.Shelf Go.Lib

set_option maxRecDepth 100000
theorem laidOut : laidOutB Tryd.prog = true := by kernel_rfl
theorem trodAll_stays {P : Program} (hl : laidOutB P = true) {H : Type} {enc : TypeId × Value → H} {W W' : World} (hb : Bel W W') : ∀ (ts : List TypeId) {vs : List Value} {ds : List (DataW H)} {ps : List MemPlace}, (ts.all fun t => P.readableRec t && decide (t < P.types.size)) = true →
    DataW.TrodAll enc P W 0 (fun _ => true) true ts vs ds ps → (∀ x ∈ ps, x.block < W.heap.size) → DataW.TrodAll enc P W' 0 (fun b => decide (b < W.heap.size)) true ts vs ds ps := by
  intro ts
  induction ts with
  | nil =>
    intro vs ds ps _ h _
    obtain ⟨rfl, rfl, rfl⟩ := trodAll_nil h
    exact trodAll_mk0
  | cons t ts ih =>
    intro vs ds ps ht h hp
    obtain ⟨v, vs', d, ds', p, q, rfl, rfl, rfl, h0, h1⟩ := trodAll_cons h
    simp only [List.all_cons, Bool.and_eq_true, decide_eq_true_eq] at ht
    exact trodAll_cons_mk (Below.trod hl ht.1.1 ht.1.2 h0 hb (fun x hx => hp x (by simp [hx]))) (ih ht.2 h1 (fun x hx => hp x (by simp [hx])))
/-- A world for the witness: the settled one, the listed variables holding what their initialisers lay. -/
noncomputable def laidWorld (os : Os) : World :=
  { World.holding Tryd.prog os ⟨#[], #[], []⟩ with heap := layTabs (World.holding Tryd.prog os ⟨#[], #[], []⟩).heap }
theorem laid_met_at (os : Os) (args : Array Value) : laidMetH Tryd.prog rowLaid ((laidWorld os).forCall (fun _ _ => 0) ⟨#[], args, []⟩).memory :=
  laidMetH_of_parts (laidMet_of_run' 8 (by kernel_rfl) (by kernel_rfl)) (by kernel_rfl)
/-- The row's last step: true is handed back, all that lay before the call lies as it lay. -/
theorem post_stay {H : Type} {enc : TypeId × Value → H} {f : Func} {s : ChangeSpec} {W W' : World} {args : Array Value} {ds gs : List (DataW H)} {pa : List MemPlace}
    (hW : DataW.Whole enc Tryd.prog f.params.toList s.vars false W args.toList ds gs (pa ++ [])) (hA : DataW.TrodAll enc Tryd.prog W 0 (fun _ => true) true f.params.toList args.toList ds pa)
    (ht : (f.params.toList.all fun t => Tryd.prog.readableRec t && decide (t < Tryd.prog.types.size)) = true)
    (hr : f.resultTypes = #[4]) (hs : s.vars = []) (hsr : (s.fn H (ds ++ gs)).results = [.lit (.bool true)]) (hsa : (s.fn H (ds ++ gs)).args = ds) (hsv : (s.fn H (ds ++ gs)).vars = [])
    (hb : Bel W W') : s.post enc Tryd.prog f false true false false W args (.bool true) W' := by
  have hin : ∀ p ∈ pa ++ [], p.block < W.heap.size := fun p hp => hW.lt p hp
  refine ⟨ds, gs, pa ++ [], [], pa, [], hW, ?_, ?_, ?_, World.keptBut_mono (fun p hp => ⟨hp, Or.inr (List.mem_append.1 hp)⟩) (Below.frame hb (· ∈ pa ++ [])), fun h => by cases h⟩
  · rw [hr, hsr]
    exact trodAll_cons_mk (shut_bool Tryd.underlying4 _) trodAll_mk0
  · rw [hsa]
    exact trodAll_stays laidOut hb _ ht hA (fun x hx => hin x (by simp [hx]))
  · rw [hs, hsv]; rfl

/-! The bound. -/
theorem bulk_all {H : Type} {l : List (DataW H)} (hk : Rows.uptoSmall H l = true) : Rows.uptoBulkAll l ≤ 1048576 := by
  have h := of_decide_eq_true hk
  exact h
theorem bulk_cons {H : Type} (d : DataW H) (l : List (DataW H)) : Rows.uptoBulkAll (d :: l) = Rows.uptoBulk d + Rows.uptoBulkAll l := by simp [Rows.uptoBulkAll]
theorem bulk_strs {H : Type} : ∀ l : List ByteArray, Rows.uptoBulkAll (strs (H := H) l) = sumS l
  | [] => rfl
  | x :: l => by
    rw [show strs (H := H) (x :: l) = .lit (.string x.data.toList) :: strs l from rfl, bulk_cons, bulk_strs l, sumS_cons]
    simp [Rows.uptoBulk]
section
variable {H : Type} {enc : TypeId × Value → H} {w : World} {base : Nat} {spare : Nat → Bool} {held : Bool}
theorem shape_lt {w : World} {b : Nat} {x : TypeId × Nat} (h : w.shape? b = some x) : b < w.heap.size := by
  unfold World.shape? at h
  cases hh : w.heap[b]? with
  | none => rw [hh] at h; simp at h
  | some o => exact (Array.getElem?_eq_some_iff.1 hh).1
/-- A slice that came in lies at a plain place. -/
theorem okWide_slice2 {P : Program} {w : World} {r : Reach} {b0 : Nat} {t e : TypeId} {v : Value} (ht : P.underlying t = some (.slice e)) (h : Value.okWide P w r b0 t v) :
    v = .slice none 0 0 ∨ ∃ b off len cap, v = .slice (some ⟨b, off, none⟩) len cap ∧ b < w.heap.size := by
  simp only [Value.okWide, ht, Cell.okWide] at h
  cases v <;> simp_all [Cell.ok]
  rename_i a len cap
  cases a with
  | none => left; cases len <;> cases cap <;> simp_all
  | some a =>
    obtain ⟨b, off, spot⟩ := a
    simp only [World.has] at h
    obtain ⟨_, _, _, rfl, row, cells, h3, _⟩ := h
    exact .inr ⟨b, ⟨off, rfl⟩, shape_lt h3⟩
/-- A slice of strings that came in. -/
theorem open_strs {r : Reach} {b0 : Nat} {v : Value} {d : DataW H} {p : List MemPlace} (hv : Value.okWide Tryd.prog w r b0 22 v) (h : DataW.Trod enc Tryd.prog w base (fun _ => true) held 22 v d p) :
    ∃ l : List ByteArray, RowAt0 w v (strsV l) ∧ sumS l ≤ Rows.uptoBulk d := by
  obtain ⟨fuel, hf⟩ := h
  rcases okWide_slice2 Tryd.underlying22 hv with rfl | ⟨b, off, len, cap, rfl, hlt⟩
  · rcases open_strings Tryd.underlying22 Tryd.underlying9 (by kernel_rfl) hf with ⟨hcs, hx⟩ | ⟨a, len', cap', ss, hcs, _⟩
    · exact ⟨[], .inl ⟨rfl, rfl⟩, Nat.zero_le _⟩
    · simp [Value.cells] at hcs
  · rcases open_strings Tryd.underlying22 Tryd.underlying9 (by kernel_rfl) hf with ⟨hcs, hx⟩ | ⟨a, len', cap', ss, hcs, _, hl, hm, hz, hx, hcell, hsz⟩
    · simp [Value.cells] at hcs
    · simp [Value.cells] at hcs
      obtain ⟨rfl, rfl, rfl⟩ := hcs
      simp at hz
      obtain ⟨hd, hpl⟩ := Prod.mk.inj hx
      subst hd hpl
      have hlen : (strsV (ss.take len)).length = len := by rw [strsV_length, List.length_take]; omega
      refine ⟨ss.take len, .inr ⟨b, off, cap, by rw [hlen], by rw [hlen]; exact hl, hlt, fun j hj => ?_⟩, ?_⟩
      · rw [hlen] at hj
        have := hcell j (by omega)
        rw [show ((⟨b, off, none⟩ : Addr).add j) = ⟨b, off + j, none⟩ from by simp [Addr.add]] at this
        rw [this]
        have hj2 : j < ss.length := by omega
        simp [strsV, List.getElem?_eq_getElem hj2]
      · simp only [Rows.uptoBulk, bulk_strs]
        omega
end
end Go.Proofs.YtaaedmipcffjoaaDoor
