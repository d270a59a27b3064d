/-
  Nodes as arguments: what reads as a tree lies as one.
-/
import Derived.Test.YtojeclfcgnamoaaDoorDP
import Derived.Test.YtojeclfcgnamoaaDoorZB
import Derived.Lib.SmallJoins
import Derived.Deep.Slices
import Derived.DataReads
namespace Go.Proofs.YtojeclfcgnamoaaDoor
open Go.ChangeShapes Go.WideShapes Go.ChangeAt Go.RowKit Go.Shelf Go.Lib Go.Joins Go.Deep

theorem pick_list {α : Type} (p : Nat → α → Prop) : ∀ n : Nat, (∀ i, i < n → ∃ x, p i x) → ∃ l : List α, l.length = n ∧ ∀ i x, l[i]? = some x → p i x
  | 0, _ => ⟨[], rfl, fun i x h => by cases h⟩
  | n + 1, h => by
    obtain ⟨l, hl, hp⟩ := pick_list p n fun i hi => h i (by omega)
    obtain ⟨y, hy⟩ := h n (by omega)
    refine ⟨l ++ [y], by simp [hl], fun i x hx => ?_⟩
    by_cases hi : i < l.length
    · rw [List.getElem?_append_left hi] at hx
      exact hp i x hx
    · rw [List.getElem?_append_right (by omega)] at hx
      cases hd : i - l.length with
      | zero =>
        rw [hd] at hx
        simp at hx
        subst hx
        rw [show i = n from by omega]
        exact hy
      | succ m => rw [hd] at hx; simp at hx
theorem addr_add (b o m : Nat) : (⟨b, o, none⟩ : Addr).add m = ⟨b, o + m, none⟩ := by unfold Addr.add; split <;> simp_all
theorem cell_none {w : World} {a : Addr} {v : Value} (h : w.cell? a = some v) : a = ⟨a.block, a.off, none⟩ := by
  obtain ⟨b, o, s⟩ := a
  rw [cell_spot h]
theorem nbulks_map {H : Type} (D : List (DataW H)) : ∀ l : List Nd, (∀ (i : Nat) (e : Nd) (d : DataW H), l[i]? = some e → D[i]? = some d → e.bulk ≤ Rows.uptoBulk d) → l.length = D.length → Nd.bulk.bulks l ≤ Rows.uptoBulkAll D := by
  induction D with
  | nil => intro l _ hl; rw [List.eq_nil_of_length_eq_zero hl]; exact Nat.le_refl _
  | cons d D ih =>
    intro l h hl
    cases l with
    | nil => simp at hl
    | cons e l =>
      have h1 := h 0 e d rfl rfl
      have h2 := ih l (fun i e' d' he hd => h (i + 1) e' d' he hd) (by simpa using hl)
      unfold Nd.bulk.bulks
      rw [bulk_cons]
      omega
theorem abulks_map {H : Type} (D : List (DataW H)) : ∀ l : List Atr, (∀ (i : Nat) (e : Atr) (d : DataW H), l[i]? = some e → D[i]? = some d → e.1.size + e.2.1.size + e.2.2.size + 1 ≤ Rows.uptoBulk d) → l.length = D.length → atrSum l ≤ Rows.uptoBulkAll D := by
  induction D with
  | nil => intro l _ hl; rw [List.eq_nil_of_length_eq_zero hl]; exact Nat.le_refl _
  | cons d D ih =>
    intro l h hl
    cases l with
    | nil => simp at hl
    | cons e l =>
      have h1 := h 0 e d rfl rfl
      have h2 := ih l (fun i e' d' he hd => h (i + 1) e' d' he hd) (by simpa using hl)
      unfold atrSum at h2 ⊢
      rw [bulk_cons, List.map_cons, List.sum_cons]
      omega
section
variable {H : Type} {enc : TypeId × Value → H} {w : World} {base : Nat} {held : Bool}
set_option maxRecDepth 100000 in
theorem open_nm {fuel : Nat} {cs : List Value} {x : DataW H × List MemPlace} (h : DataW.trod enc Tryd.prog w base (fun _ => true) held fuel 23 cs = some x) :
    ∃ a b : ByteArray, cs = [.string a, .string b] ∧ a.size + b.size ≤ Rows.uptoBulk x.1 := by
  obtain ⟨xs, n, hn, hxs, hcl, hxl, hall⟩ := DataW.trod_struct Tryd.underlying23 h
  rw [show Tryd.prog.cellsOf 23 = 2 from by kernel_rfl] at hcl
  have t0 := hall 0 _ rfl
  have t1 := hall 1 _ rfl
  match cs, hcl with
  | [c0, c1], _ =>
    match xs, hxl with
    | [y0, y1], _ =>
      simp [show Tryd.prog.cellsOf 9 = 1 from by kernel_rfl] at t0 t1
      obtain ⟨a, e0, rfl, _⟩ := DataW.trod_string Tryd.underlying9 t0
      obtain ⟨b, e1, rfl, _⟩ := DataW.trod_string Tryd.underlying9 t1
      obtain rfl := List.singleton_inj.1 e0
      obtain rfl := List.singleton_inj.1 e1
      refine ⟨a, b, rfl, ?_⟩
      rw [hxs]
      simp only [Rows.uptoBulk, List.map_cons, List.map_nil, bulk_cons]
      have h1 : a.data.toList.length = a.size := rfl
      have h2 : b.data.toList.length = b.size := rfl
      omega
set_option maxRecDepth 100000 in
theorem open_at {fuel : Nat} {cs : List Value} {x : DataW H × List MemPlace} (h : DataW.trod enc Tryd.prog w base (fun _ => true) held fuel 63 cs = some x) :
    ∃ a b c : ByteArray, cs = [.string a, .string b, .string c] ∧ a.size + b.size + c.size + 1 ≤ Rows.uptoBulk x.1 := by
  obtain ⟨xs, n, hn, hxs, hcl, hxl, hall⟩ := DataW.trod_struct Tryd.underlying63 h
  rw [show Tryd.prog.cellsOf 63 = 3 from by kernel_rfl] at hcl
  have t0 := hall 0 _ rfl
  have t1 := hall 1 _ rfl
  match cs, hcl with
  | [c0, c1, c2], _ =>
    match xs, hxl with
    | [y0, y1], _ =>
      simp [show Tryd.prog.cellsOf 9 = 1 from by kernel_rfl, show Tryd.prog.cellsOf 23 = 2 from by kernel_rfl] at t0 t1
      obtain ⟨a, b, e0, hb⟩ := open_nm t0
      obtain ⟨c, e1, rfl, _⟩ := DataW.trod_string Tryd.underlying9 t1
      injection e0 with e2 e3
      injection e3 with e3 _
      obtain rfl := List.singleton_inj.1 e1
      subst e2 e3
      refine ⟨a, b, c, rfl, ?_⟩
      rw [hxs]
      simp only [Rows.uptoBulk, List.map_cons, List.map_nil, bulk_cons]
      have h1 : c.data.toList.length = c.size := rfl
      omega
set_option maxRecDepth 100000 in
theorem open_attrs {fuel : Nat} {v : Value} {y : DataW H × List MemPlace} (h : DataW.trod enc Tryd.prog w base (fun _ => true) held fuel 24 [v] = some y) :
    ∃ al : List Atr, AttrsV w v al ∧ atrSum al ≤ Rows.uptoBulk y.1 := by
  rcases DataW.trod_slice Tryd.underlying24 h with ⟨hcs, rfl⟩ | ⟨a, len, cap, elems, rest, m, hm, hcs, rfl, _, hl, _, hlen, hel, _, _⟩
  · obtain rfl := List.singleton_inj.1 hcs
    exact ⟨[], ⟨none, 0, rfl, Nat.le_refl _, .inl rfl⟩, Nat.zero_le _⟩
  · obtain rfl := List.singleton_inj.1 hcs
    have key : ∀ i, i < len → ∃ e : Atr, (w.cell? (a.add (i * 3)) = some (.string e.1) ∧ w.cell? ((a.add (i * 3)).add 1) = some (.string e.2.1) ∧ w.cell? ((a.add (i * 3)).add 2) = some (.string e.2.2)) ∧ ∀ y, elems[i]? = some y → e.1.size + e.2.1.size + e.2.2.size + 1 ≤ Rows.uptoBulk y.1 := by
      intro i hi
      have h1 := hel i hi
      rw [show Tryd.prog.cellsOf 63 = 3 from by kernel_rfl] at h1
      have h2 : elems[i]? = some (elems[i]'(by omega)) := List.getElem?_eq_getElem _
      rw [h2, Option.bind_eq_some_iff] at h1
      obtain ⟨cs', hc', ht'⟩ := h1
      obtain ⟨ea, eb, ec, rfl, heb⟩ := open_at ht'
      obtain ⟨_, _, hat⟩ := World.cells?_some hc'
      have g0 := hat 0 (by omega)
      have hz : (a.add (i * 3)).add 0 = a.add (i * 3) := by unfold Addr.add; simp
      rw [hz] at g0
      exact ⟨(ea, eb, ec), ⟨g0, hat 1 (by omega), hat 2 (by omega)⟩, fun y hy => by rw [h2] at hy; cases hy; exact heb⟩
    obtain ⟨l, hl1, hl2⟩ := pick_list _ len key
    refine ⟨l, ⟨some a, cap, by rw [hl1], by omega, ?_⟩, ?_⟩
    · by_cases h0 : len = 0
      · exact .inl (List.eq_nil_of_length_eq_zero (by omega))
      · have h1 : l[0]? = some (l[0]'(by omega)) := List.getElem?_eq_getElem _
        obtain ⟨⟨g0, _⟩, _⟩ := hl2 0 _ h1
        have hz : a.add (0 * 3) = a := by obtain ⟨b, o, s⟩ := a; simp [Addr.add]
        rw [hz] at g0
        have ha := cell_none g0
        rw [ha] at g0
        refine .inr ⟨a.block, a.off, by rw [← ha], cell_lt g0, fun i e he => ?_⟩
        obtain ⟨⟨q0, q1, q2⟩, _⟩ := hl2 i e he
        rw [ha] at q0 q1 q2
        simp only [addr_add] at q0 q1 q2
        exact ⟨q0, q1, q2⟩
    · have h3 := abulks_map (elems.map (·.1)) l (fun i e d he hd => by
        rw [List.getElem?_map] at hd
        obtain ⟨y, hy, rfl⟩ := Option.map_eq_some_iff.1 hd
        exact (hl2 i e he).2 y hy) (by rw [List.length_map]; omega)
      simp only [Rows.uptoBulk]
      omega
set_option maxRecDepth 100000 in
/-- What reads as a node lies as one. -/
theorem open_nd : ∀ (fuel : Nat) (cs : List Value) (x : DataW H × List MemPlace), DataW.trod enc Tryd.prog w base (fun _ => true) held fuel 27 cs = some x →
    ∃ (e : Nd) (va vk : Value), cs = [.int .i64 e.t, .string e.sp, .string e.lo, va, vk, .string e.tx] ∧ NdAt w e va vk ∧ e.bulk ≤ Rows.uptoBulk x.1 := by
  intro fuel
  induction fuel using Nat.strongRecOn with
  | _ fuel ih =>
    intro cs x h
    obtain ⟨xs, n, hn, hxs, hcl, hxl, hall⟩ := DataW.trod_struct Tryd.underlying27 h
    rw [show Tryd.prog.cellsOf 27 = 6 from by kernel_rfl] at hcl
    have t0 := hall 0 _ rfl
    have t1 := hall 1 _ rfl
    have t2 := hall 2 _ rfl
    have t3 := hall 3 _ rfl
    have t4 := hall 4 _ rfl
    match cs, hcl with
    | [c0, c1, c2, c3, c4, c5], _ =>
      match xs, hxl with
      | [y0, y1, y2, y3, y4], _ =>
        simp [show Tryd.prog.cellsOf 3 = 1 from by kernel_rfl, show Tryd.prog.cellsOf 9 = 1 from by kernel_rfl, show Tryd.prog.cellsOf 23 = 2 from by kernel_rfl, show Tryd.prog.cellsOf 24 = 1 from by kernel_rfl, show Tryd.prog.cellsOf 25 = 1 from by kernel_rfl] at t0 t1 t2 t3 t4
        obtain ⟨k, e0, rfl, hkw⟩ := DataW.trod_int Tryd.underlying3 t0
        obtain ⟨sp, lo, e1, hnb⟩ := open_nm t1
        obtain ⟨tx, e5, rfl, _⟩ := DataW.trod_string Tryd.underlying9 t4
        obtain rfl := List.singleton_inj.1 e0
        injection e1 with e1 e2
        injection e2 with e2 _
        obtain rfl := List.singleton_inj.1 e5
        subst e1 e2
        obtain ⟨al, hal, hab⟩ := open_attrs t2
        have hparts : ∃ l : List Nd, (∃ a cap, c4 = .slice a l.length cap ∧ l.length ≤ cap ∧ (l = [] ∨ ∃ b off, a = some ⟨b, off, none⟩ ∧ b < w.heap.size ∧ NdsAt w b off l)) ∧ Nd.bulk.bulks l ≤ Rows.uptoBulk y3.1 := by
          rcases DataW.trod_slice Tryd.underlying25 t3 with ⟨hcs, rfl⟩ | ⟨a, len, cap, elems, rest, m, hm, hcs, rfl, _, hl, _, hlen, hel, _, _⟩
          · obtain rfl := List.singleton_inj.1 hcs
            exact ⟨[], ⟨none, 0, rfl, Nat.le_refl _, .inl rfl⟩, Nat.zero_le _⟩
          · obtain rfl := List.singleton_inj.1 hcs
            have key : ∀ i, i < len → ∃ e : Nd, (∃ va vk, w.cell? (a.add (i * 6)) = some (.int .i64 e.t) ∧ w.cell? ((a.add (i * 6)).add 1) = some (.string e.sp) ∧ w.cell? ((a.add (i * 6)).add 2) = some (.string e.lo) ∧ w.cell? ((a.add (i * 6)).add 3) = some va ∧ w.cell? ((a.add (i * 6)).add 4) = some vk ∧ w.cell? ((a.add (i * 6)).add 5) = some (.string e.tx) ∧ NdAt w e va vk) ∧ ∀ y, elems[i]? = some y → e.bulk ≤ Rows.uptoBulk y.1 := by
              intro i hi
              have h1 := hel i hi
              rw [show Tryd.prog.cellsOf 27 = 6 from by kernel_rfl] at h1
              have h2 : elems[i]? = some (elems[i]'(by omega)) := List.getElem?_eq_getElem _
              rw [h2, Option.bind_eq_some_iff] at h1
              obtain ⟨cs', hc', ht'⟩ := h1
              obtain ⟨e, va, vk, rfl, he, heb⟩ := ih m (by omega) cs' _ ht'
              obtain ⟨_, _, hat⟩ := World.cells?_some hc'
              have g0 := hat 0 (by omega)
              have hz : (a.add (i * 6)).add 0 = a.add (i * 6) := by unfold Addr.add; simp
              rw [hz] at g0
              exact ⟨e, ⟨va, vk, g0, hat 1 (by omega), hat 2 (by omega), hat 3 (by omega), hat 4 (by omega), hat 5 (by omega), he⟩, fun y hy => by rw [h2] at hy; cases hy; exact heb⟩
            obtain ⟨l, hl1, hl2⟩ := pick_list _ len key
            refine ⟨l, ⟨some a, cap, by rw [hl1], by omega, ?_⟩, ?_⟩
            · by_cases h0 : len = 0
              · exact .inl (List.eq_nil_of_length_eq_zero (by omega))
              · have h1 : l[0]? = some (l[0]'(by omega)) := List.getElem?_eq_getElem _
                obtain ⟨⟨va, vk, g0, _⟩, _⟩ := hl2 0 _ h1
                have hz : a.add (0 * 6) = a := by obtain ⟨b, o, s⟩ := a; simp [Addr.add]
                rw [hz] at g0
                have ha := cell_none g0
                rw [ha] at g0
                refine .inr ⟨a.block, a.off, by rw [← ha], cell_lt g0, NdsAt.of l a.off fun i e he => ?_⟩
                obtain ⟨⟨va, vk, q0, q1, q2, q3, q4, q5, q6⟩, _⟩ := hl2 i e he
                rw [ha] at q0 q1 q2 q3 q4 q5
                simp only [addr_add] at q0 q1 q2 q3 q4 q5
                exact ⟨va, vk, ⟨q0, q1, q2, q3, q4, q5⟩, q6⟩
            · have h3 := nbulks_map (elems.map (·.1)) l (fun i e d he hd => by
                rw [List.getElem?_map] at hd
                obtain ⟨y, hy, rfl⟩ := Option.map_eq_some_iff.1 hd
                exact (hl2 i e he).2 y hy) (by rw [List.length_map]; omega)
              simp only [Rows.uptoBulk]
              omega
        obtain ⟨l, hla, hlb⟩ := hparts
        refine ⟨.mk k sp lo al l tx, c3, c4, rfl, NdAt.make hkw hal hla, ?_⟩
        rw [hxs, nd_bulk]
        simp only [Rows.uptoBulk, List.map_cons, List.map_nil, bulk_cons]
        have h1 : tx.data.toList.length = tx.size := rfl
        show sp.size + lo.size + tx.size + atrSum al + Nd.bulk.bulks l + 1 ≤ _
        omega
set_option maxRecDepth 100000 in
/-- A node that came in. -/
theorem open_ndv {r : Reach} {b0 : Nat} {v : Value} {d : DataW H} {p : List MemPlace} (hv : Value.okWide Tryd.prog w r b0 27 v) (h : DataW.Trod enc Tryd.prog w base (fun _ => true) held 27 v d p) :
    ∃ (e : Nd) (va vk : Value), v = ndV e va vk ∧ NdAt w e va vk ∧ e.bulk ≤ Rows.uptoBulk d := by
  obtain ⟨cs, rfl, hsz⟩ := okWide_struct Tryd.underlying27 hv
  obtain ⟨fuel, hf⟩ := h
  obtain ⟨e, va, vk, hcs, he, hb⟩ := open_nd fuel _ _ hf
  have hc : cs.toList = [.int .i64 e.t, .string e.sp, .string e.lo, va, vk, .string e.tx] := hcs
  refine ⟨e, va, vk, ?_, he, hb⟩
  unfold ndV
  rw [← Array.toArray_toList (xs := cs), hc]
end
end Go.Proofs.YtojeclfcgnamoaaDoor
