/-
  A region that draws: what is held of the world may be made stronger on the way. The block of a literal that is made on the way.
-/
import Derived.Test.YtpenfnabeckboaaGreatDoorEXE
namespace Go.Proofs.YtpenfnabeckboaaGreatDoor
open Go.RowKit

theorem bel_setNew {w W : World} (h : Bel w W) {b : Nat} (hb : w.heap.size ≤ b) (j : Nat) (z : Value) : Bel w (W.setCell ⟨b, j, none⟩ z) := Bel.to_setCell h (p := ⟨b, j, none⟩) hb z
/-- An expression's four cells are stored. -/
theorem store_ex {U V : World} {b : Nat} {cs : List Value} (z0 z1 z2 z3 : Value) (h : Blk V b 25 cs) (hl : cs.length = 4) (hb : Bel U V) (hlt : U.heap.size ≤ b) :
    Blk ((((V.setCell ⟨b, 0, none⟩ z0).setCell ⟨b, 1, none⟩ z1).setCell ⟨b, 2, none⟩ z2).setCell ⟨b, 3, none⟩ z3) b 25 [z0, z1, z2, z3] ∧
    Bel U ((((V.setCell ⟨b, 0, none⟩ z0).setCell ⟨b, 1, none⟩ z1).setCell ⟨b, 2, none⟩ z2).setCell ⟨b, 3, none⟩ z3) ∧
    ∀ b' t' cs', b' ≠ b → Blk V b' t' cs' → Blk ((((V.setCell ⟨b, 0, none⟩ z0).setCell ⟨b, 1, none⟩ z1).setCell ⟨b, 2, none⟩ z2).setCell ⟨b, 3, none⟩ z3) b' t' cs' := by
  match cs, hl with
  | [a0, a1, a2, a3], _ =>
    exact ⟨(((h.set 0 z0).set 1 z1).set 2 z2).set 3 z3, bel_setNew (bel_setNew (bel_setNew (bel_setNew hb hlt 0 z0) hlt 1 z1) hlt 2 z2) hlt 3 z3,
      fun b' t' cs' hne hk => (((hk.far hne z0).far hne z1).far hne z2).far hne z3⟩
theorem rowE_nil (W : World) : RowE W (.slice none 0 0) (strsV []) := ⟨none, 0, rfl, Nat.le_refl _, .inl rfl⟩
theorem exAt_leaf (W : World) (k : Int) (s : ByteArray) (hk : (Lit.int .i64 k).wf = true) : ExAt W (.mk k s [] []) (.slice none 0 0) (.slice none 0 0) := by
  unfold ExAt
  exact ⟨rowE_nil W, hk, none, 0, rfl, Nat.le_refl _, .inl rfl⟩
theorem exAt_mk {W : World} {k : Int} {s : ByteArray} {ns : List ByteArray} {l : List Ex} {vn : Value} {b n : Nat} (hk : (Lit.int .i64 k).wf = true) (hns : RowE W vn (strsV ns)) (hl : ExsAt W b 0 l) (hn : l.length = n) (hlt : b < W.heap.size) :
    ExAt W (.mk k s ns l) vn (.slice (some ⟨b, 0, none⟩) n n) := by
  subst hn
  unfold ExAt
  exact ⟨hns, hk, _, _, rfl, Nat.le_refl _, .inr ⟨b, 0, rfl, hlt, hl⟩⟩
theorem exs_one {W : World} {b t : Nat} {e : Ex} {n l : Value} {cs : List Value} (hb : Blk W b t cs) (hcs : cs = [.int .i64 e.k, .string e.s, n, l]) (h : ExAt W e n l) : ExsAt W b 0 [e] := by
  subst hcs
  obtain ⟨k, s, ns, ll⟩ := e
  unfold ExsAt ExsAt
  exact ⟨⟨n, l, hb.at 0, hb.at 1, hb.at 2, hb.at 3, h⟩, trivial⟩
theorem exs_two {W : World} {b t : Nat} {e1 e2 : Ex} {n1 l1 n2 l2 : Value} {cs : List Value} (hb : Blk W b t cs) (hcs : cs = [.int .i64 e1.k, .string e1.s, n1, l1, .int .i64 e2.k, .string e2.s, n2, l2]) (h1 : ExAt W e1 n1 l1) (h2 : ExAt W e2 n2 l2) : ExsAt W b 0 [e1, e2] := by
  subst hcs
  obtain ⟨k1, s1, ns1, ll1⟩ := e1
  obtain ⟨k2, s2, ns2, ll2⟩ := e2
  unfold ExsAt ExsAt ExsAt
  exact ⟨⟨n1, l1, hb.at 0, hb.at 1, hb.at 2, hb.at 3, h1⟩, ⟨n2, l2, hb.at 4, hb.at 5, hb.at 6, hb.at 7, h2⟩, trivial⟩

end Go.Proofs.YtpenfnabeckboaaGreatDoor
