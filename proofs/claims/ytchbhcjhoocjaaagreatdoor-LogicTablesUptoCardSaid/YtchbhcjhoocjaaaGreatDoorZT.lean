/-
  Three bytes in an array as an argument.
-/
import Derived.OpenShut
import Derived.Test.YtchbhcjhoocjaaaGreatDoorZY
namespace Go.Proofs.YtchbhcjhoocjaaaGreatDoor
open Go.ChangeShapes Go.WideShapes Go.ChangeAt Go.RowKit Go.Shelf Go.Lib

theorem byte_nat {n : Int} (h : (Lit.int .u8 n).wf = true) : ∃ x : Nat, n = x ∧ x < 256 := by
  simp [Lit.wf, IntKind.min, IntKind.max, IntKind.signed, IntKind.bits] at h
  exact ⟨n.toNat, by omega, by omega⟩
set_option maxRecDepth 100000 in
theorem open_u8x3 {H : Type} {enc : TypeId × Value → H} {w : World} {base : Nat} {held : Bool} {r : Reach} {b0 : Nat} {v : Value} {d : DataW H} {p : List MemPlace} (hv : Value.okWide Tryz.prog w r b0 22 v) (h : DataW.Trod enc Tryz.prog w base (fun _ => true) held 22 v d p) :
    ∃ x0 x1 x2 : Nat, v = .agg #[.int .u8 x0, .int .u8 x1, .int .u8 x2] ∧ x0 < 256 ∧ x1 < 256 ∧ x2 < 256 := by
  simp only [Value.okWide, Tryz.underlying22] at hv
  obtain ⟨cs, rfl, _⟩ := hv
  obtain ⟨fuel, hf⟩ := h
  obtain ⟨xs, m, _, _, hcl, hxl, hall⟩ := DataW.trod_array Tryz.underlying22 hf
  rw [show Tryz.prog.cellsOf 22 = 3 from by kernel_rfl] at hcl
  have hcs : (Value.agg cs).cells.toList = cs.toList := rfl
  rw [hcs] at hcl hall
  have t0 := hall 0 (by decide)
  have t1 := hall 1 (by decide)
  have t2 := hall 2 (by decide)
  match xs, hxl with
  | [y0, y1, y2], _ =>
    obtain ⟨l, hl⟩ : ∃ l, cs.toList = l := ⟨_, rfl⟩
    rw [hl] at hcl t0 t1 t2
    match l, hcl with
    | [c0, c1, c2], _ =>
      simp [show Tryz.prog.cellsOf 5 = 1 from by kernel_rfl] at t0 t1 t2
      obtain ⟨n0, e0, _, w0⟩ := DataW.trod_int Tryz.underlying5 t0
      obtain ⟨n1, e1, _, w1⟩ := DataW.trod_int Tryz.underlying5 t1
      obtain ⟨n2, e2, _, w2⟩ := DataW.trod_int Tryz.underlying5 t2
      obtain rfl := List.singleton_inj.1 e0
      obtain rfl := List.singleton_inj.1 e1
      obtain rfl := List.singleton_inj.1 e2
      obtain ⟨x0, rfl, h0⟩ := byte_nat w0
      obtain ⟨x1, rfl, h1⟩ := byte_nat w1
      obtain ⟨x2, rfl, h2⟩ := byte_nat w2
      exact ⟨x0, x1, x2, by rw [← Array.toArray_toList (xs := cs), hl], h0, h1, h2⟩
end Go.Proofs.YtchbhcjhoocjaaaGreatDoor
