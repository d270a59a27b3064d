/-
  logic: the walks of the names that one needs.
-/
import Derived.Test.YtchbhcjhoocjaaaGreatDoorLGE
import Derived.Lib.AppendZerosOnto
import Derived.Lib.Walk
import Derived.Lib.SliceRun
namespace Go.Proofs.YtchbhcjhoocjaaaGreatDoor
open Go.RowKit Go.Maps

set_option maxRecDepth 100000 in
set_option maxHeartbeats 4000000 in
theorem grow_nil (n : Nat) (w : World) (hn : n ≤ 4294967296) :
    Calls Tryz.prog 100 #[.slice none 0 0, .int .i64 n] w fun e w' => ∃ a c, e = .returned (.slice a 0 c) ∧ w'.ownsRow w.heap.size 9 1 (.slice a 0 c) 0 [] ∧ Bel w w' := by
  by_cases h0 : n = 0
  · subst h0
    go_enter Tryz.func100, Tryz.ntmps100
    go_wp2_with fail
    go_ret
    exact ⟨_, _, rfl, World.ownsRow_nil _ _ _ _, Bel.refl _⟩
  · obtain ⟨i0, hi, hz0, hz1, hz2⟩ := info_parts info_str4
    have hn0 : (0 : Int) < n := by omega
    have hnn : ¬ ((n : Int) < 0) := by omega
    have hcap := grownCap_ge w n 0 9
    have hcap2 := grownCap_le_maxLen w n 0 9 (by unfold maxLen; omega)
    have hrz : ∀ ty, (Builtin.append_ #[23, 3] ty #[.slice none 0 0, .int .i64 n]).run Tryz.prog w =
        .ok (.slice (some ⟨w.heap.size, 0, none⟩) n (grownCap w n 0 9)) (w.drew.alloc (.cells (#[] ++ Builtin.zeroCells (Value.string ⟨#[]⟩).cells n ++ Builtin.zeroCells (Value.string ⟨#[]⟩).cells (grownCap w n 0 9 - n)) 9)) := fun ty => by
      have h := Lib.run_append_grow_zeros (P := Tryz.prog) w 23 3 ty 9 i0 (.string ⟨#[]⟩) .i64 .i64 Tryz.underlying23 Tryz.underlying3 hi hz0 none 0 0 [] (Go.run_firstCells_none w.drew i0.size 0 0 0) n (by omega) (by omega) (by omega) (by omega)
        (by rw [hz2]; omega) (Go.growslice_fits (by omega) (by rw [hz2]; omega))
      simpa using h
    obtain ⟨G, hG⟩ : ∃ G, grownCap w n 0 9 = G := ⟨_, rfl⟩
    rw [hG] at hrz hcap hcap2
    have hG2 : G ≤ 9223372036854775807 := by unfold maxLen at hcap2; omega
    have HC := Lib.hid hcap
    have HC2 := Lib.hid hcap2
    clear hG hi hz0 hz1 hz2 hcap2
    go_enter Tryz.func100, Tryz.ntmps100
    go_wp2_with (at_builtin; refine Lib.wpList_append_run _ rfl _ _ _ _ rfl _ _ rfl rfl _ _ (hrz _) ?_)
    go_ret
    refine ⟨_, _, rfl, World.ownsRow_made w.drew _ G (Nat.le_refl _) HC2.out ?_, (Bel.drew _).trans (Bel.alloc _ _)⟩
    have := HC.out
    simp [Builtin.zeroCells]
    omega

theorem at_two {x y : Value} {j : Nat} {v : Value} (h : [x, y][j]? = some v) : (j = 0 ∧ v = x) ∨ (j = 1 ∧ v = y) := by
  match j, h with
  | 0, h => exact .inl ⟨rfl, by simpa using h.symm⟩
  | 1, h => exact .inr ⟨rfl, by simpa using h.symm⟩
  | j + 2, h => simp at h
/-- How many there are in the first ones. -/
def lenTwo (n1 n2 j : Nat) : Nat := if j = 0 then 0 else if j = 1 then n1 else n1 + n2
def appTwo (l1 l2 : List ByteArray) (j : Nat) : List ByteArray := if j = 0 then [] else if j = 1 then l1 else l1 ++ l2
set_option maxRecDepth 100000 in
set_option maxHeartbeats 8000000 in
theorem concat_c (a1 a2 : Option Addr) (n1 c1 n2 c2 : Nat) (l1 l2 : List ByteArray) (xb t : Nat) (w : World) (hb : Blk w xb t [.slice a1 n1 c1, .slice a2 n2 c2]) (h1 : l1.length = n1) (h2 : l2.length = n2) (hn1 : n1 ≤ 1073741824) (hn2 : n2 ≤ 1073741824)
    (hr1 : RowAt0 w (.slice a1 n1 c1) (strsV l1)) (hr2 : RowAt0 w (.slice a2 n2 c2) (strsV l2)) :
    Calls Tryz.prog 75 #[.slice (some ⟨xb, 0, none⟩) 2 2] w (RetRow0 (l1 ++ l2) w) := by
  have HB := Lib.hid hb
  have H1 := Lib.hid h1
  have H2 := Lib.hid h2
  have HR1 := Lib.hid hr1
  have HR2 := Lib.hid hr2
  have HG := Lib.hid (fun W => grow_nil (n1 + n2) W (by omega))
  clear hb h1 h2 hr1 hr2
  go_enter Tryz.func75, Tryz.ntmps75
  go_wp2_with fail
  go_loopw [3, 11] (fun s i wr => ∃ j : Nat, j ≤ 2 ∧ i = .int .i64 j ∧ s = .int .i64 (lenTwo n1 n2 j) ∧ Bel w wr) (fun _ i _ => 2 - (intOf i).toNat)
  case atStart => exact ⟨0, by omega, rfl, rfl, Bel.refl _⟩
  case round =>
    obtain ⟨j, hj, rfl, rfl, hbel⟩ := hrel
    have t0 := (HB.out.bel hbel).at 0
    have t1 := (HB.out.bel hbel).at 1
    have HBL := Lib.hid hbel
    clear hbel
    by_cases hlt : j < 2
    · have hcase : j = 0 ∨ j = 1 := by omega
      rcases hcase with rfl | rfl
      · have hl : lenTwo n1 n2 0 = 0 := rfl
        have hl1 : lenTwo n1 n2 1 = n1 := rfl
        rw [hl]
        have HL1 := Lib.hid hl1
        clear hl hl1 hlt hj
        go_wp2_with fail
        exact ⟨⟨1, by omega, rfl, by rw [HL1.out], HBL.out⟩, by simp [intOf]⟩
      · have hl : lenTwo n1 n2 1 = n1 := rfl
        have hl1 : lenTwo n1 n2 2 = n1 + n2 := rfl
        rw [hl]
        have HL1 := Lib.hid hl1
        clear hl hl1 hlt hj
        go_wp2_with fail
        exact ⟨⟨2, by omega, rfl, by rw [HL1.out]; exact int_eq (by omega), HBL.out⟩, by simp [intOf]⟩
    · obtain rfl : j = 2 := by omega
      have hl : lenTwo n1 n2 2 = n1 + n2 := rfl
      rw [hl]
      clear hl hlt hj t0 t1
      have hcast : ((n1 + n2 : Nat) : Int) = (n1 : Int) + n2 := by omega
      obtain ⟨m, hm⟩ : ∃ m, n1 + n2 = m := ⟨_, rfl⟩
      rw [hm] at HG ⊢
      have hm2 : m ≤ 2147483648 := by omega
      have HM := Lib.hid hm
      clear hm hcast
      go_wp2_with fail
      refine (HG.out wr).mono ?_
      rintro e2 w2 ⟨ga, gc, rfl, hown, hb2⟩
      have HO := Lib.hid hown
      have HB2 := Lib.hid (HBL.out.trans hb2)
      obtain ⟨wo, hwo⟩ : ∃ W, W = wr := ⟨_, rfl⟩
      subst hwo
      have L2 := Lib.hid hb2
      clear hown hb2
      go_wp2_with fail
      go_loopw [6, 27] (fun s i wr => ∃ j : Nat, j ≤ 2 ∧ i = .int .i64 j ∧ wr.ownsRow wo.heap.size 9 1 s (lenTwo n1 n2 j) (strsV (appTwo l1 l2 j)) ∧ Bel wo wr) (fun _ i _ => 2 - (intOf i).toNat)
      case atStart => exact ⟨0, by omega, rfl, HO.out, L2.out⟩
      case round =>
        obtain ⟨j, hj, rfl, hown, hbel⟩ := hrel
        have hbw := HBL.out.trans hbel
        have t0 := (HB.out.bel hbw).at 0
        have t1 := (HB.out.bel hbw).at 1
        have HBW := Lib.hid hbw
        have HBO := Lib.hid hbel
        clear hbel hbw
        by_cases hlt : j < 2
        · have hcase : j = 0 ∨ j = 1 := by omega
          rcases hcase with rfl | rfl
          · have hown0 : wr.ownsRow wo.heap.size 9 1 u6 0 [] := hown
            have hrow := HR1.out.bel HBW.out
            have hln := H1.out
            clear hlt hj hown
            go_wp2_with (at_builtin; refine wpL_appendR rfl _ _ 23 rfl wo.heap.size (HBO.out.size) 9 (.string ⟨#[]⟩) 16 Tryz.underlying23 info_str4 rfl (by decide) _ 0 [] rfl hown0 _ (strsV l1) rfl hrow (by simp [strsV, Value.oneCell']) (by rw [strsV_length]; omega) ?_; intro v' w3 hown3 hg3)
            refine ⟨⟨1, by omega, rfl, ?_, Below.grown HBO.out hg3 HBO.out.size (fun k hk => (hown0.lt k hk).1)⟩, by simp [intOf]⟩
            rw [strsV_length, hln, Nat.zero_add, List.nil_append] at hown3
            exact hown3
          · have hown0 : wr.ownsRow wo.heap.size 9 1 u6 n1 (strsV l1) := hown
            have hrow := HR2.out.bel HBW.out
            have hln := H2.out
            clear hlt hj hown
            go_wp2_with (at_builtin; refine wpL_appendR rfl _ _ 23 rfl wo.heap.size (HBO.out.size) 9 (.string ⟨#[]⟩) 16 Tryz.underlying23 info_str4 rfl (by decide) _ n1 (strsV l1) rfl hown0 _ (strsV l2) rfl hrow (by simp [strsV, Value.oneCell']) (by rw [strsV_length]; omega) ?_; intro v' w3 hown3 hg3)
            refine ⟨⟨2, by omega, rfl, ?_, Below.grown HBO.out hg3 HBO.out.size (fun k hk => (hown0.lt k hk).1)⟩, by simp [intOf]⟩
            rw [strsV_length, hln] at hown3
            have e : strsV (appTwo l1 l2 2) = strsV l1 ++ strsV l2 := by unfold appTwo strsV; simp
            rw [e]
            exact hown3
        · obtain rfl : j = 2 := by omega
          have hrow := own_row hown
          have e : appTwo l1 l2 2 = l1 ++ l2 := rfl
          rw [e] at hrow
          have hlen : (strsV (l1 ++ l2)).length = lenTwo n1 n2 2 := by rw [strsV_length, List.length_append, H1.out, H2.out]; rfl
          obtain ⟨ra, rc, rfl, _⟩ := row0_form hrow (lenTwo n1 n2 2) hlen
          have HROW := Lib.hid hrow
          have HLEN : Hid ((l1 ++ l2).length = lenTwo n1 n2 2) := Lib.hid (by rw [← hlen, strsV_length])
          clear hlt hj t0 t1 hown hrow e hlen
          go_wp2_with fail
          go_ret
          exact ⟨ra, _, rc, rfl, HLEN.out, HROW.out, HBW.out⟩
end Go.Proofs.YtchbhcjhoocjaaaGreatDoor
