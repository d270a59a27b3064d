/-
  Logics as arguments: what reads as a tree lies as one.
-/
import Derived.Test.YtbcdbefogfmhfaaGreatDoorZE
import Derived.Test.YtbcdbefogfmhfaaGreatDoorLGA
namespace Go.Proofs.YtbcdbefogfmhfaaGreatDoor
open Go.ChangeShapes Go.WideShapes Go.ChangeAt Go.RowKit Go.Shelf Go.Lib Go.Joins Go.Deep

theorem sum_map_le {H α : Type} (B : α → Nat) (D : List (DataW H)) : ∀ l : List α, (∀ (i : Nat) (e : α) (d : DataW H), l[i]? = some e → D[i]? = some d → B e ≤ Rows.uptoBulk d) → l.length = D.length → (l.map B).sum ≤ Rows.uptoBulkAll D := by
  induction D with
  | nil => intro l _ hl; rw [List.eq_nil_of_length_eq_zero hl]; exact Nat.le_refl _
  | cons d D ih =>
    intro l h hl
    cases l with
    | nil => simp at hl
    | cons e l =>
      have h1 := h 0 e d rfl rfl
      have h2 := ih l (fun i e' d' he hd => h (i + 1) e' d' he hd) (by simpa using hl)
      rw [List.map_cons, List.sum_cons, bulk_cons]
      omega
section
variable {H : Type} {enc : TypeId × Value → H} {w : World} {base : Nat} {held : Bool}
/-- A slice whose elements open. -/
theorem open_row {α : Type} {E T : TypeId} (hT : Tryz.prog.underlying T = some (.slice E)) (n : Nat) (hn0 : 0 < n) (hn : Tryz.prog.cellsOf E = n) (P : List Value → α → Prop) (B : α → Nat) (fuel : Nat)
    (hel : ∀ m, m < fuel → ∀ cs x, DataW.trod enc Tryz.prog w base (fun _ => true) held m E cs = some x → ∃ a, P cs a ∧ B a ≤ Rows.uptoBulk x.1 ∧ cs.length = n)
    {v : Value} {y : DataW H × List MemPlace} (h : DataW.trod enc Tryz.prog w base (fun _ => true) held fuel T [v] = some y) :
    ∃ (l : List α) (a : Option Addr) (c : Nat), v = .slice a l.length c ∧ l.length ≤ c ∧ ThingsAt n (fun b o x => ∃ cs, P cs x ∧ CellsAt w b o cs) a l ∧ (l.map B).sum + 1 ≤ Rows.uptoBulk y.1 := by
  rcases DataW.trod_slice hT h with ⟨hcs, rfl⟩ | ⟨a, len, cap, elems, rest, m, hm, hcs, rfl, _, hl, _, hlen, hel2, _, _⟩
  · obtain rfl := List.singleton_inj.1 hcs
    exact ⟨[], none, 0, rfl, Nat.le_refl _, fun j x hx => (by cases hx), Nat.le_refl _⟩
  · obtain rfl := List.singleton_inj.1 hcs
    have key : ∀ i, i < len → ∃ x : α, (∃ cs, P cs x ∧ cs.length = n ∧ ∀ j, j < n → w.cell? ((a.add (i * n)).add j) = cs[j]?) ∧ ∀ y, elems[i]? = some y → B x ≤ Rows.uptoBulk y.1 := by
      intro i hi
      have h1 := hel2 i hi
      rw [hn] at h1
      have h2 : elems[i]? = some (elems[i]'(by omega)) := List.getElem?_eq_getElem _
      rw [h2, Option.bind_eq_some_iff] at h1
      obtain ⟨cs', hc', ht'⟩ := h1
      obtain ⟨x, hx, hb, hl2⟩ := hel m (by omega) cs' _ ht'
      obtain ⟨_, _, hat⟩ := World.cells?_some hc'
      exact ⟨x, ⟨cs', hx, hl2, hat⟩, fun y hy => by rw [h2] at hy; cases hy; exact hb⟩
    obtain ⟨l, hl1, hl2⟩ := pick_list _ len key
    refine ⟨l, some a, cap, by rw [hl1], by omega, fun j x hx => ?_, ?_⟩
    · obtain ⟨⟨cs, hp, hlc, hat⟩, _⟩ := hl2 j x hx
      have hl0 : 0 < l.length := by have := (List.getElem?_eq_some_iff.1 hx).1; omega
      obtain ⟨⟨cs0, _, hlc0, hat0⟩, _⟩ := hl2 0 _ (List.getElem?_eq_getElem hl0)
      have g0 := hat0 0 hn0
      rw [List.getElem?_eq_getElem (by omega)] at g0
      have hz : (a.add (0 * n)).add 0 = a := by obtain ⟨b, o, s⟩ := a; simp [Addr.add]
      rw [hz] at g0
      have ha2 := cell_none g0
      refine ⟨a.block, a.off, by rw [← ha2], cs, hp, fun i u hi => ?_⟩
      have hin : i < n := by have := (List.getElem?_eq_some_iff.1 hi).1; omega
      have := hat i hin
      rw [ha2, addr_add, addr_add, hi] at this
      exact this
    · have h3 := sum_map_le B (elems.map (·.1)) l (fun i e d he hd => by
        rw [List.getElem?_map] at hd
        obtain ⟨y, hy, rfl⟩ := Option.map_eq_some_iff.1 hd
        exact (hl2 i e he).2 y hy) (by rw [List.length_map]; omega)
      simp only [Rows.uptoBulk]
      omega
theorem bulks_sum : ∀ l : List Ex, Ex.bulk.bulks l = (l.map Ex.bulk).sum
  | [] => rfl
  | x :: r => by unfold Ex.bulk.bulks; rw [bulks_sum r]; rfl
theorem tbulks_sum : ∀ l : List Te, tbulks l = (l.map Te.bulk).sum
  | [] => rfl
  | x :: r => by unfold tbulks; rw [tbulks_sum r]; rfl
theorem rbulks_sum : ∀ l : List Ru, rbulks l = (l.map Ru.bulk).sum
  | [] => rfl
  | x :: r => by unfold rbulks; rw [rbulks_sum r]; rfl
theorem lbulks_sum : ∀ l : List Lg, lbulks l = (l.map Lg.bulk).sum
  | [] => rfl
  | x :: r => by unfold lbulks; rw [lbulks_sum r]; rfl
theorem open_exs {fuel : Nat} {v : Value} {y : DataW H × List MemPlace} (h : DataW.trod enc Tryz.prog w base (fun _ => true) held fuel 36 [v] = some y) : ∃ l : List Ex, ExsV w v l ∧ Ex.bulk.bulks l + 1 ≤ Rows.uptoBulk y.1 := by
  obtain ⟨l, a, c, h1, h2, h3, h4⟩ := open_row Tryz.underlying36 4 (by omega) (by kernel_rfl) (fun cs (e : Ex) => ∃ vn vl, cs = [.int .i64 e.k, .string e.s, vn, vl] ∧ ExAt w e vn vl) Ex.bulk fuel (fun m _ cs x hx => by
    obtain ⟨e, vn, vl, rfl, he, hb⟩ := open_ex m cs x hx
    exact ⟨e, ⟨vn, vl, rfl, he⟩, hb, rfl⟩) h
  refine ⟨l, ⟨a, c, h1, h2, fun j x hx => ?_⟩, by rw [bulks_sum]; exact h4⟩
  obtain ⟨b, off, ha, cs, ⟨vn, vl, rfl, he⟩, hc⟩ := h3 j x hx
  obtain ⟨⟨xna, xnc, hvn, _⟩, xla, xlc, hvl, _⟩ := he.parts
  subst hvn hvl
  exact ⟨b, off, _, _, _, _, _, _, ha, hc.get0, hc.get 1 rfl, hc.get 2 rfl, hc.get 3 rfl, he⟩
theorem open_texts {fuel : Nat} {v : Value} {y : DataW H × List MemPlace} (h : DataW.trod enc Tryz.prog w base (fun _ => true) held fuel 35 [v] = some y) : ∃ l : List ByteArray, StrV w v l ∧ sumS l ≤ Rows.uptoBulk y.1 := by
  obtain ⟨ns, hns, hb⟩ := open_names h
  obtain ⟨na, n, c, rfl, hn, hc, hat⟩ := hns.names
  subst hn
  exact ⟨ns, ⟨na, c, rfl, hc, hat⟩, hb⟩
set_option maxRecDepth 100000 in
theorem open_te {fuel : Nat} {cs : List Value} {x : DataW H × List MemPlace} (h : DataW.trod enc Tryz.prog w base (fun _ => true) held fuel 52 cs = some x) :
    ∃ (t : Te) (v : Value), cs = [.bool t.any, .bool t.no, v] ∧ ExsV w v t.l ∧ t.bulk ≤ Rows.uptoBulk x.1 := by
  obtain ⟨xs, n, hn, hxs, hcl, hxl, hall⟩ := DataW.trod_struct Tryz.underlying52 h
  rw [show Tryz.prog.cellsOf 52 = 3 from by kernel_rfl] at hcl
  have t0 := hall 0 _ rfl
  have t1 := hall 1 _ rfl
  have t2 := hall 2 _ rfl
  match cs, hcl with
  | [c0, c1, c2], _ =>
    match xs, hxl with
    | [y0, y1, y2], _ =>
      simp [show Tryz.prog.cellsOf 4 = 1 from by kernel_rfl, show Tryz.prog.cellsOf 36 = 1 from by kernel_rfl] at t0 t1 t2
      obtain ⟨b0, e0, rfl⟩ := DataW.trod_bool Tryz.underlying4 t0
      obtain ⟨b1, e1, rfl⟩ := DataW.trod_bool Tryz.underlying4 t1
      obtain rfl := List.singleton_inj.1 e0
      obtain rfl := List.singleton_inj.1 e1
      obtain ⟨l, hl, hb⟩ := open_exs t2
      refine ⟨⟨b0, b1, l⟩, c2, rfl, hl, ?_⟩
      rw [hxs]
      simp only [Rows.uptoBulk, List.map_cons, List.map_nil, bulk_cons, Te.bulk]
      omega
set_option maxRecDepth 100000 in
theorem open_ru {fuel : Nat} {cs : List Value} {x : DataW H × List MemPlace} (h : DataW.trod enc Tryz.prog w base (fun _ => true) held fuel 108 cs = some x) :
    ∃ (r : Ru) (vi vo : Value), cs = [vi, vo] ∧ TesV w vi r.ins ∧ ExsV w vo r.out ∧ r.bulk ≤ Rows.uptoBulk x.1 := by
  obtain ⟨xs, n, hn, hxs, hcl, hxl, hall⟩ := DataW.trod_struct Tryz.underlying108 h
  rw [show Tryz.prog.cellsOf 108 = 2 from by kernel_rfl] at hcl
  have t0 := hall 0 _ rfl
  have t1 := hall 1 _ rfl
  match cs, hcl with
  | [c0, c1], _ =>
    match xs, hxl with
    | [y0, y1], _ =>
      simp [show Tryz.prog.cellsOf 106 = 1 from by kernel_rfl, show Tryz.prog.cellsOf 36 = 1 from by kernel_rfl] at t0 t1
      obtain ⟨l, a, c, h1, h2, h3, h4⟩ := open_row Tryz.underlying106 3 (by omega) (by kernel_rfl) (fun cs (t : Te) => ∃ v, cs = [.bool t.any, .bool t.no, v] ∧ ExsV w v t.l) Te.bulk _ (fun m _ cs x hx => by
        obtain ⟨t, v, rfl, ht, hb⟩ := open_te hx
        exact ⟨t, ⟨v, rfl, ht⟩, hb, rfl⟩) t0
      obtain ⟨lo, hlo, hbo⟩ := open_exs t1
      refine ⟨⟨l, lo⟩, c0, c1, rfl, ⟨a, c, h1, h2, ThingsAt.mono h3 fun b o t => ?_⟩, hlo, ?_⟩
      · rintro ⟨cs, ⟨v, rfl, ht⟩, hc⟩
        exact ⟨v, hc, ht⟩
      · rw [hxs]
        simp only [Rows.uptoBulk, List.map_cons, List.map_nil, bulk_cons, Ru.bulk]
        rw [tbulks_sum]
        omega
set_option maxRecDepth 100000 in
/-- What reads as a logic lies as one. -/
theorem open_lg : ∀ (fuel : Nat) (cs : List Value) (x : DataW H × List MemPlace), DataW.trod enc Tryz.prog w base (fun _ => true) held fuel 42 cs = some x →
    ∃ (l : Lg) (q : LgQ), cs = lgC l q ∧ LgAt w l q ∧ l.bulk ≤ Rows.uptoBulk x.1 := by
  intro fuel
  induction fuel using Nat.strongRecOn with
  | _ fuel ih =>
    intro cs x h
    obtain ⟨xs, n, hn, hxs, hcl, hxl, hall⟩ := DataW.trod_struct Tryz.underlying42 h
    rw [show Tryz.prog.cellsOf 42 = 11 from by kernel_rfl] at hcl
    have t0 := hall 0 _ rfl
    have t1 := hall 1 _ rfl
    have t2 := hall 2 _ rfl
    have t3 := hall 3 _ rfl
    have t4 := hall 4 _ rfl
    have t5 := hall 5 _ rfl
    have t6 := hall 6 _ rfl
    have t7 := hall 7 _ rfl
    match cs, hcl with
    | [c0, c1, c2, c3, c4, c5, c6, c7, c8, c9, c10], _ =>
      match xs, hxl with
      | [y0, y1, y2, y3, y4, y5, y6, y7], _ =>
        simp [show Tryz.prog.cellsOf 3 = 1 from by kernel_rfl, show Tryz.prog.cellsOf 9 = 1 from by kernel_rfl, show Tryz.prog.cellsOf 38 = 4 from by kernel_rfl, show Tryz.prog.cellsOf 35 = 1 from by kernel_rfl, show Tryz.prog.cellsOf 36 = 1 from by kernel_rfl,
          show Tryz.prog.cellsOf 39 = 1 from by kernel_rfl, show Tryz.prog.cellsOf 40 = 1 from by kernel_rfl] at t0 t1 t2 t3 t4 t5 t6 t7
        obtain ⟨k, e0, rfl, hkw⟩ := DataW.trod_int Tryz.underlying3 t0
        obtain rfl := List.singleton_inj.1 e0
        obtain ⟨e, en, el, e1, hex, heb⟩ := open_ex _ _ _ t1
        simp only [List.cons.injEq, and_true] at e1
        obtain ⟨rfl, rfl, rfl, rfl⟩ := e1
        obtain ⟨p, e2, rfl, _⟩ := DataW.trod_string Tryz.underlying9 t2
        obtain rfl := List.singleton_inj.1 e2
        obtain ⟨ins, hi, hib⟩ := open_exs t3
        obtain ⟨outs, ho, hob⟩ := open_texts t4
        obtain ⟨rs, ra, rc, hr1, hr2, hr3, hr4⟩ := open_row Tryz.underlying39 2 (by omega) (by kernel_rfl) (fun cs (r : Ru) => ∃ vi vo, cs = [vi, vo] ∧ TesV w vi r.ins ∧ ExsV w vo r.out) Ru.bulk _ (fun m _ cs x hx => by
          obtain ⟨r, vi, vo, rfl, h1, h2, hb⟩ := open_ru hx
          exact ⟨r, ⟨vi, vo, rfl, h1, h2⟩, hb, rfl⟩) t5
        obtain ⟨ns, hns, hnb⟩ := open_texts t6
        obtain ⟨l, la, lc, hl1, hl2, hl3, hl4⟩ := open_row Tryz.underlying40 11 (by omega) (by kernel_rfl) (fun cs (y : Lg) => ∃ q, cs = lgC y q ∧ LgAt w y q) Lg.bulk _ (fun m hm cs x hx => by
          obtain ⟨y, q, rfl, h1, hb⟩ := ih m (by omega) cs x hx
          exact ⟨y, ⟨q, rfl, h1⟩, hb, rfl⟩) t7
        refine ⟨.mk k e p ins outs rs ns l, ⟨c3, c4, c6, c7, c8, c9, c10⟩, rfl, ?_, ?_⟩
        · refine lgAt_mk hkw hex hi ho ⟨ra, rc, hr1, hr2, ThingsAt.mono hr3 fun b o r => ?_⟩ hns hl1 hl2 ?_
          · rintro ⟨cs, ⟨vi, vo, rfl, h1, h2⟩, hc⟩
            exact ⟨vi, vo, hc, h1, h2⟩
          · cases l with
            | nil => exact .inl rfl
            | cons y r =>
              obtain ⟨b, off, ha, _⟩ := hl3 0 y rfl
              refine .inr ⟨b, off, ha, LgsAt.of _ _ fun i z hz => ?_⟩
              obtain ⟨b', off', ha', cs, ⟨q, rfl, hq⟩, hc⟩ := hl3 i z hz
              rw [ha] at ha'
              cases ha'
              exact ⟨q, hc, hq⟩
        · rw [hxs]
          have h5 : p.data.toList.length = p.size := rfl
          simp only [Rows.uptoBulk, List.map_cons, List.map_nil, bulk_cons]
          rw [show Rows.uptoBulkAll ([] : List (DataW H)) = 0 from rfl]
          unfold Lg.bulk
          rw [rbulks_sum, lbulks_sum]
          omega
end
end Go.Proofs.YtbcdbefogfmhfaaGreatDoor
