/-
  Tokens as arguments.
-/
import Derived.Test.YtjnaikojoemkaaaDoorZF
import Derived.Test.YtjnaikojoemkaaaDoorMI
import Derived.Lib.SmallJoins
import Derived.Deep.Slices
import Derived.DataReads
namespace Go.Proofs.YtjnaikojoemkaaaDoor
open Go.ChangeShapes Go.WideShapes Go.ChangeAt Go.RowKit Go.Shelf Go.Lib Go.Joins Go.Deep

section
variable {H : Type} {enc : TypeId × Value → H} {w : World} {base : Nat} {spare : Nat → Bool} {held : Bool}
set_option maxRecDepth 100000 in
/-- A token that came in. -/
theorem open_lex {r : Reach} {b0 : Nat} {v : Value} {d : DataW H} {p : List MemPlace} (hv : Value.okWide Tryd.prog w r b0 28 v) (h : DataW.Trod enc Tryd.prog w base spare held 28 v d p) :
    ∃ (k a : Int) (s : ByteArray), v = .agg #[.int .i64 k, .int .i64 a, .string s] ∧ d = .agg [.lit (.int .i64 k), .lit (.int .i64 a), .lit (.string s.data.toList)] ∧ p = [] ∧ s.size ≤ maxLen := by
  obtain ⟨c0, c1, c2, y0, y1, y2, m, rfl, rfl, rfl, hy0, hy1, hy2⟩ := open_agg3 Tryd.underlying28 (by kernel_rfl) (by kernel_rfl) hv h
  obtain ⟨k, e0, rfl, _⟩ := DataW.trod_int Tryd.underlying3 hy0
  obtain ⟨a, e1, rfl, _⟩ := DataW.trod_int Tryd.underlying3 hy1
  obtain ⟨s, e2, rfl, ws⟩ := DataW.trod_string Tryd.underlying9 hy2
  simp at e0 e1 e2
  subst e0 e1 e2
  exact ⟨k, a, s, rfl, rfl, rfl, ws⟩
theorem pick_list {α : Type} (p : Nat → α → Prop) : ∀ n : Nat, (∀ i, i < n → ∃ x, p i x) → ∃ l : List α, l.length = n ∧ ∀ i x, l[i]? = some x → p i x
  | 0, _ => ⟨[], rfl, fun i x h => by cases h⟩
  | n + 1, h => by
    obtain ⟨l, hl, hp⟩ := pick_list p n fun i hi => h i (by omega)
    obtain ⟨y, hy⟩ := h n (by omega)
    refine ⟨l ++ [y], by simp [hl], fun i x hx => ?_⟩
    by_cases hi : i < l.length
    · rw [List.getElem?_append_left hi] at hx
      exact hp i x hx
    · rw [List.getElem?_append_right (by omega)] at hx
      cases hd : i - l.length with
      | zero =>
        rw [hd] at hx
        simp at hx
        subst hx
        rw [show i = n from by omega]
        exact hy
      | succ m => rw [hd] at hx; simp at hx
theorem bulk_mem {d : DataW H} : ∀ {l : List (DataW H)}, d ∈ l → Rows.uptoBulk d ≤ Rows.uptoBulkAll l
  | e :: l, h => by
    rw [bulk_cons]
    rcases List.mem_cons.1 h with rfl | h
    · omega
    · have := bulk_mem h
      omega
theorem bulk_len : ∀ l : List (DataW H), (∀ d ∈ l, 1 ≤ Rows.uptoBulk d) → l.length ≤ Rows.uptoBulkAll l
  | [], _ => Nat.zero_le _
  | e :: l, h => by
    rw [bulk_cons, List.length_cons]
    have h1 := h e (by simp)
    have h2 := bulk_len l fun d hd => h d (by simp [hd])
    omega
theorem lex_fields : Tryd.prog.cellsOf 28 = 3 := by kernel_rfl
set_option maxRecDepth 100000 in
/-- Tokens that came in. -/
theorem open_lexes {r : Reach} {b0 : Nat} {v : Value} {d : DataW H} {p : List MemPlace} (hv : Value.okWide Tryd.prog w r b0 23 v) (h : DataW.Trod enc Tryd.prog w base (fun _ => true) held 23 v d p) :
    ∃ l : List Lx, RowL w v l ∧ (∀ x ∈ l, x.2.2.size ≤ Rows.uptoBulk d) ∧ l.length ≤ Rows.uptoBulk d := by
  obtain ⟨fuel, hf⟩ := h
  rcases okWide_slice2 Tryd.underlying23 hv with rfl | ⟨b, off, len, cap, rfl, hlt⟩
  · exact ⟨[], .inl ⟨rfl, rfl⟩, fun x hx => (by cases hx), Nat.zero_le _⟩
  · rcases open_slice Tryd.underlying23 hf with ⟨hcs, hx⟩ | ⟨a, len', cap', m, n, D, Pl, hcs, _, hl, _, hm, hx, hi⟩
    · simp [Value.cells] at hcs
    · simp [Value.cells] at hcs
      obtain ⟨rfl, rfl, rfl⟩ := hcs
      simp at hm
      subst hm
      obtain ⟨hd, _⟩ := Prod.mk.inj hx
      have key : ∀ i, i < len → ∃ x : Lx, (w.cell? ⟨b, off + i * 3, none⟩ = some (.int .i64 x.1) ∧ w.cell? ⟨b, off + i * 3 + 1, none⟩ = some (.int .i64 x.2.1) ∧ w.cell? ⟨b, off + i * 3 + 2, none⟩ = some (.string x.2.2)) ∧ x.2.2.size ≤ Rows.uptoBulk (D i) ∧ 1 ≤ Rows.uptoBulk (D i) := by
        intro i hil
        obtain ⟨cs', hc, ht⟩ := hi i (by omega)
        rw [lex_fields] at hc
        obtain ⟨_, hcl, hat⟩ := World.cells?_some hc
        match cs', hcl with
        | [c0, c1, c2], _ =>
          have had : ∀ j, ((⟨b, off, none⟩ : Addr).add (i * 3)).add j = ⟨b, off + i * 3 + j, none⟩ := fun j => by
            have e : ∀ o m : Nat, (⟨b, o, none⟩ : Addr).add m = ⟨b, o + m, none⟩ := fun o m => by unfold Addr.add; split <;> simp_all
            rw [e, e]
          obtain ⟨xs, n', _, hxs, _, hxl, hall⟩ := DataW.trod_struct Tryd.underlying28 ht
          have t0 := hall 0 _ rfl
          have t1 := hall 1 _ rfl
          have t2 := hall 2 _ rfl
          match xs, hxl with
          | [y0, y1, y2], _ =>
            obtain ⟨k, e0, rfl, _⟩ := DataW.trod_int Tryd.underlying3 t0
            obtain ⟨q, e1, rfl, _⟩ := DataW.trod_int Tryd.underlying3 t1
            obtain ⟨s, e2, rfl, _⟩ := DataW.trod_string Tryd.underlying9 t2
            simp [show Tryd.prog.cellsOf 3 = 1 from by kernel_rfl, show Tryd.prog.cellsOf 9 = 1 from by kernel_rfl] at e0 e1 e2
            subst e0 e1 e2
            have hD : D i = .agg [.lit (.int .i64 k), .lit (.int .i64 q), .lit (.string s.data.toList)] := by
              have := congrArg Prod.fst hxs
              simpa using this
            refine ⟨(k, q, s), ⟨?_, ?_, ?_⟩, ?_, ?_⟩
            · have := hat 0 (by omega); rw [had] at this; simpa using this
            · have := hat 1 (by omega); rw [had] at this; simpa using this
            · have := hat 2 (by omega); rw [had] at this; simpa using this
            · rw [hD]
              simp only [Rows.uptoBulk, bulk_cons]
              have : s.data.toList.length = s.size := rfl
              omega
            · rw [hD]
              simp only [Rows.uptoBulk, bulk_cons]
              omega
      obtain ⟨l, hl1, hl2⟩ := pick_list _ len key
      have hbd : Rows.uptoBulkAll ((List.range len).map D) ≤ Rows.uptoBulk d := by rw [hd]; simp only [Rows.uptoBulk]; omega
      refine ⟨l, .inr ⟨b, off, _, by rw [hl1], by omega, hlt, fun j x hx => (hl2 j x hx).1⟩, fun x hx => ?_, ?_⟩
      · obtain ⟨j, hj⟩ := List.mem_iff_getElem?.1 hx
        have hjl : j < len := by have := (List.getElem?_eq_some_iff.1 hj).1; omega
        have h1 := (hl2 j x hj).2.1
        have h2 : Rows.uptoBulk (D j) ≤ Rows.uptoBulkAll ((List.range len).map D) := bulk_mem (List.mem_map.2 ⟨j, List.mem_range.2 hjl, rfl⟩)
        omega
      · have h2 := bulk_len ((List.range len).map D) fun e he => by
          obtain ⟨j, hj, rfl⟩ := List.mem_map.1 he
          have hjl := List.mem_range.1 hj
          obtain ⟨x, _, _, h1⟩ := key j hjl
          exact h1
        simp at h2
        omega
end
end Go.Proofs.YtjnaikojoemkaaaDoor
