/-
  Expressions as arguments: what reads as a tree lies as one.
-/
import Derived.Test.YtbcdbefogfmhfaaGreatDoorEXA
import Derived.Test.YtbcdbefogfmhfaaGreatDoorZB
import Derived.Lib.SmallJoins
import Derived.Deep.Slices
import Derived.DataReads
namespace Go.Proofs.YtbcdbefogfmhfaaGreatDoor
open Go.ChangeShapes Go.WideShapes Go.ChangeAt Go.RowKit Go.Shelf Go.Lib Go.Joins Go.Deep

theorem ExsAt.of {W : World} {b : Nat} : ∀ (l : List Ex) (off : Nat), (∀ i e, l[i]? = some e → ∃ vn vl, W.cell? ⟨b, off + i * 4, none⟩ = some (.int .i64 e.k) ∧ W.cell? ⟨b, off + i * 4 + 1, none⟩ = some (.string e.s) ∧ W.cell? ⟨b, off + i * 4 + 2, none⟩ = some vn ∧ W.cell? ⟨b, off + i * 4 + 3, none⟩ = some vl ∧ ExAt W e vn vl) → ExsAt W b off l
  | [], _, _ => by unfold ExsAt; trivial
  | .mk k s ns l :: r, off, h => by
    unfold ExsAt
    refine ⟨?_, ExsAt.of r (off + 4) fun i e he => ?_⟩
    · obtain ⟨vn, vl, c0, c1, c2, c3, c4⟩ := h 0 _ rfl
      rw [Nat.zero_mul, Nat.add_zero] at c0 c1 c2 c3
      exact ⟨vn, vl, c0, c1, c2, c3, c4⟩
    · have := h (i + 1) e he
      rw [show off + 4 + i * 4 = off + (i + 1) * 4 from by omega]
      exact this
theorem pick_list {α : Type} (p : Nat → α → Prop) : ∀ n : Nat, (∀ i, i < n → ∃ x, p i x) → ∃ l : List α, l.length = n ∧ ∀ i x, l[i]? = some x → p i x
  | 0, _ => ⟨[], rfl, fun i x h => by cases h⟩
  | n + 1, h => by
    obtain ⟨l, hl, hp⟩ := pick_list p n fun i hi => h i (by omega)
    obtain ⟨y, hy⟩ := h n (by omega)
    refine ⟨l ++ [y], by simp [hl], fun i x hx => ?_⟩
    by_cases hi : i < l.length
    · rw [List.getElem?_append_left hi] at hx
      exact hp i x hx
    · rw [List.getElem?_append_right (by omega)] at hx
      cases hd : i - l.length with
      | zero =>
        rw [hd] at hx
        simp at hx
        subst hx
        rw [show i = n from by omega]
        exact hy
      | succ m => rw [hd] at hx; simp at hx
theorem addr_add (b o m : Nat) : (⟨b, o, none⟩ : Addr).add m = ⟨b, o + m, none⟩ := by unfold Addr.add; split <;> simp_all
theorem cell_none {w : World} {a : Addr} {v : Value} (h : w.cell? a = some v) : a = ⟨a.block, a.off, none⟩ := by
  obtain ⟨b, o, s⟩ := a
  rw [cell_spot h]
theorem bulks_map {H : Type} (D : List (DataW H)) : ∀ l : List Ex, (∀ (i : Nat) (e : Ex) (d : DataW H), l[i]? = some e → D[i]? = some d → e.bulk ≤ Rows.uptoBulk d) → l.length = D.length → Ex.bulk.bulks l ≤ Rows.uptoBulkAll D := by
  induction D with
  | nil => intro l _ hl; rw [List.eq_nil_of_length_eq_zero hl]; exact Nat.le_refl _
  | cons d D ih =>
    intro l h hl
    cases l with
    | nil => simp at hl
    | cons e l =>
      have h1 := h 0 e d rfl rfl
      have h2 := ih l (fun i e' d' he hd => h (i + 1) e' d' he hd) (by simpa using hl)
      unfold Ex.bulk.bulks
      rw [bulk_cons]
      omega
theorem bulk_strs {H : Type} : ∀ l : List ByteArray, Rows.uptoBulkAll (strs (H := H) l) = (l.map fun x => x.size + 1).sum
  | [] => rfl
  | x :: l => by
    rw [show strs (H := H) (x :: l) = .lit (.string x.data.toList) :: strs l from rfl, bulk_cons, bulk_strs l, List.map_cons, List.sum_cons]
    simp [Rows.uptoBulk]
section
variable {H : Type} {enc : TypeId × Value → H} {w : World} {base : Nat} {held : Bool}
/-- A slice of texts among the cells of a block. -/
theorem open_names {fuel : Nat} {v : Value} {y : DataW H × List MemPlace} (h : DataW.trod enc Tryz.prog w base (fun _ => true) held fuel 35 [v] = some y) :
    ∃ ns : List ByteArray, RowE w v (strsV ns) ∧ (ns.map fun x => x.size + 1).sum ≤ Rows.uptoBulk y.1 := by
  rcases open_strings Tryz.underlying35 Tryz.underlying9 (by kernel_rfl) h with ⟨hcs, rfl⟩ | ⟨a, len, cap, ss, hcs, _, hl, hm, hz, rfl, hcell, hsz⟩
  · obtain rfl := List.singleton_inj.1 hcs
    exact ⟨[], ⟨none, 0, rfl, Nat.le_refl _, .inl rfl⟩, Nat.zero_le _⟩
  · obtain rfl := List.singleton_inj.1 hcs
    simp at hz
    have hlen : (strsV (ss.take len)).length = len := by rw [strsV_length, List.length_take]; omega
    refine ⟨ss.take len, ⟨some a, cap, by rw [hlen], by rw [hlen]; exact hl, ?_⟩, ?_⟩
    · by_cases h0 : len = 0
      · subst h0; exact .inl rfl
      · have h1 := hcell 0 (by omega)
        have h2 : a.add 0 = a := by obtain ⟨b, o, s⟩ := a; simp [Addr.add]
        rw [h2] at h1
        have ha := cell_none h1
        rw [ha] at h1
        refine .inr ⟨a.block, a.off, by rw [← ha], cell_lt h1, fun j hj => ?_⟩
        rw [hlen] at hj
        have h3 := hcell j (by omega)
        rw [ha, addr_add] at h3
        rw [h3]
        have hj2 : j < ss.length := by omega
        simp [strsV, List.getElem?_eq_getElem hj2]
    · simp only [Rows.uptoBulk, bulk_strs]
      omega
set_option maxRecDepth 100000 in
/-- What reads as an expression lies as one. -/
theorem open_ex : ∀ (fuel : Nat) (cs : List Value) (x : DataW H × List MemPlace), DataW.trod enc Tryz.prog w base (fun _ => true) held fuel 38 cs = some x →
    ∃ (e : Ex) (vn vl : Value), cs = [.int .i64 e.k, .string e.s, vn, vl] ∧ ExAt w e vn vl ∧ e.bulk ≤ Rows.uptoBulk x.1 := by
  intro fuel
  induction fuel using Nat.strongRecOn with
  | _ fuel ih =>
    intro cs x h
    obtain ⟨xs, n, hn, hxs, hcl, hxl, hall⟩ := DataW.trod_struct Tryz.underlying38 h
    rw [show Tryz.prog.cellsOf 38 = 4 from by kernel_rfl] at hcl
    have t0 := hall 0 _ rfl
    have t1 := hall 1 _ rfl
    have t2 := hall 2 _ rfl
    have t3 := hall 3 _ rfl
    match cs, hcl with
    | [c0, c1, c2, c3], _ =>
      match xs, hxl with
      | [y0, y1, y2, y3], _ =>
        simp [show Tryz.prog.cellsOf 3 = 1 from by kernel_rfl, show Tryz.prog.cellsOf 9 = 1 from by kernel_rfl, show Tryz.prog.cellsOf 35 = 1 from by kernel_rfl, show Tryz.prog.cellsOf 36 = 1 from by kernel_rfl] at t0 t1 t2 t3
        obtain ⟨k, e0, rfl, hkw⟩ := DataW.trod_int Tryz.underlying3 t0
        obtain ⟨s, e1, rfl, _⟩ := DataW.trod_string Tryz.underlying9 t1
        obtain rfl := List.singleton_inj.1 e0
        obtain rfl := List.singleton_inj.1 e1
        obtain ⟨ns, hns, hnb⟩ := open_names t2
        have hparts : ∃ l : List Ex, (∃ a cap, c3 = .slice a l.length cap ∧ l.length ≤ cap ∧ (l = [] ∨ ∃ b off, a = some ⟨b, off, none⟩ ∧ b < w.heap.size ∧ ExsAt w b off l)) ∧ Ex.bulk.bulks l ≤ Rows.uptoBulk y3.1 := by
          rcases DataW.trod_slice Tryz.underlying36 t3 with ⟨hcs, rfl⟩ | ⟨a, len, cap, elems, rest, m, hm, hcs, rfl, _, hl, _, hlen, hel, _, _⟩
          · obtain rfl := List.singleton_inj.1 hcs
            exact ⟨[], ⟨none, 0, rfl, Nat.le_refl _, .inl rfl⟩, Nat.zero_le _⟩
          · obtain rfl := List.singleton_inj.1 hcs
            have key : ∀ i, i < len → ∃ e : Ex, (∃ vn vl, w.cell? (a.add (i * 4)) = some (.int .i64 e.k) ∧ w.cell? ((a.add (i * 4)).add 1) = some (.string e.s) ∧ w.cell? ((a.add (i * 4)).add 2) = some vn ∧ w.cell? ((a.add (i * 4)).add 3) = some vl ∧ ExAt w e vn vl) ∧ ∀ y, elems[i]? = some y → e.bulk ≤ Rows.uptoBulk y.1 := by
              intro i hi
              have h1 := hel i hi
              rw [show Tryz.prog.cellsOf 38 = 4 from by kernel_rfl] at h1
              have h2 : elems[i]? = some (elems[i]'(by omega)) := List.getElem?_eq_getElem _
              rw [h2, Option.bind_eq_some_iff] at h1
              obtain ⟨cs', hc', ht'⟩ := h1
              obtain ⟨e, vn, vl, rfl, he, heb⟩ := ih m (by omega) cs' _ ht'
              obtain ⟨_, _, hat⟩ := World.cells?_some hc'
              have g0 := hat 0 (by omega)
              have hz : (a.add (i * 4)).add 0 = a.add (i * 4) := by unfold Addr.add; simp
              rw [hz] at g0
              exact ⟨e, ⟨vn, vl, g0, hat 1 (by omega), hat 2 (by omega), hat 3 (by omega), he⟩, fun y hy => by rw [h2] at hy; cases hy; exact heb⟩
            obtain ⟨l, hl1, hl2⟩ := pick_list _ len key
            refine ⟨l, ⟨some a, cap, by rw [hl1], by omega, ?_⟩, ?_⟩
            · by_cases h0 : len = 0
              · exact .inl (List.eq_nil_of_length_eq_zero (by omega))
              · have h1 : l[0]? = some (l[0]'(by omega)) := List.getElem?_eq_getElem _
                obtain ⟨⟨vn, vl, g0, _⟩, _⟩ := hl2 0 _ h1
                have hz : a.add (0 * 4) = a := by obtain ⟨b, o, s⟩ := a; simp [Addr.add]
                rw [hz] at g0
                have ha := cell_none g0
                rw [ha] at g0
                refine .inr ⟨a.block, a.off, by rw [← ha], cell_lt g0, ExsAt.of l a.off fun i e he => ?_⟩
                obtain ⟨⟨vn, vl, q0, q1, q2, q3, q4⟩, _⟩ := hl2 i e he
                rw [ha] at q0 q1 q2 q3
                simp only [addr_add] at q0 q1 q2 q3
                exact ⟨vn, vl, q0, q1, q2, q3, q4⟩
            · have h3 := bulks_map (elems.map (·.1)) l (fun i e d he hd => by
                rw [List.getElem?_map] at hd
                obtain ⟨y, hy, rfl⟩ := Option.map_eq_some_iff.1 hd
                exact (hl2 i e he).2 y hy) (by rw [List.length_map]; omega)
              simp only [Rows.uptoBulk]
              omega
        obtain ⟨l, hla, hlb⟩ := hparts
        refine ⟨.mk k s ns l, c2, c3, rfl, by unfold ExAt; exact ⟨hns, hkw, hla⟩, ?_⟩
        rw [hxs]
        simp only [Rows.uptoBulk, List.map_cons, List.map_nil, bulk_cons]
        unfold Ex.bulk
        have : s.data.toList.length = s.size := rfl
        omega
end
end Go.Proofs.YtbcdbefogfmhfaaGreatDoor
