/-
  The walk of the law ModelTypes: whatever the numbers: true.
-/
import Derived.Test.YtbcdbefogfmhfaaGreatDoorMPE
import Derived.Test.YtbcdbefogfmhfaaGreatDoorKT
namespace Go.Proofs.YtbcdbefogfmhfaaGreatDoor
open Go.RowKit

def tyRow (j : Nat) : List Value := (List.range j).flatMap fun i => [.string (tyN i), .string (tyN (i + 1)), .bool false, .bool false, .slice none 0 0]
theorem tyRow_snoc (j : Nat) : tyRow (j + 1) = tyRow j ++ [.string (tyN j), .string (tyN (j + 1)), .bool false, .bool false, .slice none 0 0] := by
  unfold tyRow
  rw [List.range_succ, List.flatMap_append]
  rfl
theorem tyRow_next {j j1 : Nat} {s t : ByteArray} (h1 : s = tyN j) (h2 : t = tyN j1) (hj : j + 1 = j1) : tyRow j ++ [.string s, .string t, .bool false, .bool false, .slice none 0 0] = tyRow j1 := by
  subst h1 h2 hj
  exact (tyRow_snoc j).symm
theorem info_itT : (Tryz.prog.info? 54).map (fun i => (i.zero, i.size, i.bytes)) = some (some (.agg #[.string ⟨#[]⟩, .string ⟨#[]⟩, .bool false, .bool false, .slice none 0 0]), 5, 64) := by kernel_rfl
theorem cellsM_new (w : World) (cs : List Value) (t : TypeId) : ∀ j u, cs[j]? = some u → (w.alloc (.cells cs.toArray t)).cell? ((⟨w.heap.size, 0, none⟩ : Addr).add j) = some u := by
  intro j u hj
  rw [show ((⟨w.heap.size, 0, none⟩ : Addr).add j) = ⟨w.heap.size, j, none⟩ from by simp [Addr.add]; omega, (Blk.new w t cs).at]
  exact hj
theorem bytes_two {W : World} {b c d : Nat} (hc : c < 256) (hd : d < 256) (hb : Blk W b 5 [.int .u8 c, .int .u8 d]) : BytesAt W (.slice (some ⟨b, 0, none⟩) 2 2) ⟨#[UInt8.ofNat c, UInt8.ofNat d]⟩ := by
  refine ⟨b, 0, 2, rfl, hb.lt, fun j hj => ?_, Nat.le_refl _⟩
  have hj0 : j = 0 ∨ j = 1 := by have : j < 2 := hj; omega
  rcases hj0 with rfl | rfl
  · rw [Nat.zero_add, hb.at 0]
    show some (Value.int .u8 c) = some (Value.int .u8 (UInt8.ofNat c).toNat)
    rw [UInt8.toNat_ofNat', Nat.mod_eq_of_lt hc]
  · rw [Nat.zero_add, hb.at 1]
    show some (Value.int .u8 d) = some (Value.int .u8 (UInt8.ofNat d).toNat)
    rw [UInt8.toNat_ofNat', Nat.mod_eq_of_lt hd]
theorem ty_join (j : Nat) : (⟨#[116]⟩ : ByteArray) ++ ⟨#[UInt8.ofNat (97 + j % 26), UInt8.ofNat (97 + j / 26)]⟩ = tyN j := rfl
theorem flat_get5 {α : Type} (f : α → List Value) (hm : ∀ x, (f x).length = 5) : ∀ (l : List α) (i : Nat) (x : α) (c : Nat), l[i]? = some x → c < 5 → (l.flatMap f)[i * 5 + c]? = (f x)[c]?
  | [], _, _, _, h, _ => by cases h
  | y :: r, 0, x, c, h, hc => by
    cases h
    rw [List.flatMap_cons, Nat.zero_mul, Nat.zero_add, List.getElem?_append_left (by rw [hm]; exact hc)]
  | y :: r, i + 1, x, c, h, hc => by
    have := flat_get5 f hm r i x c (show r[i]? = some x from h) hc
    rw [List.flatMap_cons, List.getElem?_append_right (by rw [hm]; omega), hm, show (i + 1) * 5 + c - 5 = i * 5 + c from by omega]
    exact this
/-- The row of types with its last base. -/
def rowT (k : Nat) (s : ByteArray) : List Value := (tyRow k).set ((k - 1) * 5 + 1) (.string s)
theorem tyRow_get {k i c : Nat} (hi : i < k) (hc : c < 5) : (tyRow k)[i * 5 + c]? = [Value.string (tyN i), .string (tyN (i + 1)), .bool false, .bool false, .slice none 0 0][c]? :=
  flat_get5 (fun i => [Value.string (tyN i), .string (tyN (i + 1)), .bool false, .bool false, .slice none 0 0]) (fun _ => rfl) (List.range k) i i c (List.getElem?_range hi) hc
theorem tyRow_len (k : Nat) : (tyRow k).length = k * 5 := by
  induction k with
  | zero => rfl
  | succ k ih => rw [tyRow_snoc, List.length_append, ih]; simp; omega
theorem types_at {W : World} {g k oc : Nat} {cs : List Value} {s : ByteArray} (hb : Blk W g 54 cs) (h : cs.take (k * 5) = rowT k s) (hk : 1 ≤ k) (hoc : k ≤ oc) : MdAt W (typM k s) ⟨some ⟨g, 0, none⟩, k, oc, none, 0, 0, none, 0, 0, none, 0, 0⟩ := by
  have hli : (typIts k s).length = k := by unfold typIts; rw [List.length_map, List.length_range]
  refine ⟨hli, rfl, rfl, rfl, hoc, Nat.le_refl _, Nat.le_refl _, Nat.le_refl _, fun i x hx => ?_, none_at, none_at, none_at⟩
  have hik : i < k := by have h1 : i < (typIts k s).length := (List.getElem?_eq_some_iff.1 hx).1; omega
  have hx2 : x = ⟨tyN i, if i + 1 = k then s else tyN (i + 1), noTe⟩ := by
    unfold typM typIts at hx
    rw [List.getElem?_map, List.getElem?_range hik] at hx
    exact (Option.some.inj hx).symm
  subst hx2
  refine ⟨g, 0, rfl, .slice none 0 0, fun c v hv => ?_, exsV_nil W⟩
  have hc5 : c < 5 := by have := (List.getElem?_eq_some_iff.1 hv).1; exact this
  rw [Nat.zero_add, hb.at]
  have h1 : cs[i * 5 + c]? = (rowT k s)[i * 5 + c]? := by rw [← h, List.getElem?_take_of_lt (by omega)]
  rw [h1]
  unfold rowT
  have hg := tyRow_get hik hc5
  have hlen := tyRow_len k
  by_cases hlast : i + 1 = k
  · have hki : k - 1 = i := by omega
    rw [hki]
    unfold itL at hv
    rw [if_pos hlast] at hv
    match c, hc5, hv with
    | 0, _, hv => rw [List.getElem?_set_ne (by omega), hg]; exact hv
    | 1, _, hv => rw [List.getElem?_set_self (by rw [hlen]; omega)]; exact hv
    | 2, _, hv => rw [List.getElem?_set_ne (by omega), hg]; exact hv
    | 3, _, hv => rw [List.getElem?_set_ne (by omega), hg]; exact hv
    | 4, _, hv => rw [List.getElem?_set_ne (by omega), hg]; exact hv
  · rw [List.getElem?_set_ne (by omega), hg]
    unfold itL at hv
    rw [if_neg hlast] at hv
    exact hv
theorem bulk_types {k : Nat} {s : ByteArray} (hk : k ≤ 40) (hs : s.size ≤ 1000) : (typM k s).bulk ≤ 1048576 := by
  have h : ∀ l : List Nat, ((l.map fun i => (⟨tyN i, if i + 1 = k then s else tyN (i + 1), noTe⟩ : It)).map It.bulk).sum ≤ 2000 * l.length := fun l => by
    induction l with
    | nil => exact Nat.zero_le _
    | cons x r ih =>
      have hx : It.bulk ⟨tyN x, if x + 1 = k then s else tyN (x + 1), noTe⟩ ≤ 2000 := by
        unfold It.bulk
        have h1 : (tyN x).size = 3 := rfl
        have h2 : (if x + 1 = k then s else tyN (x + 1)).size ≤ 1000 := by
          by_cases h : x + 1 = k
          · rw [if_pos h]; exact hs
          · rw [if_neg h]; exact (by decide : (3 : Nat) ≤ 1000)
        have h3 : noTe.bulk = 2 := rfl
        dsimp only
        omega
      rw [List.map_cons, List.map_cons, List.sum_cons, List.length_cons]
      omega
  have h1 := h (List.range k)
  rw [List.length_range] at h1
  unfold Md.bulk typM typIts
  have h2 : mS.size = 1 := rfl
  have h3 : (⟨#[]⟩ : ByteArray).size = 0 := rfl
  simp only [h2, h3, List.map_nil, List.sum_nil]
  omega
theorem set_row {cs : List Value} {k : Nat} {s : ByteArray} (h : cs.take (k * 5) = tyRow k ∨ ∃ t, cs.take (k * 5) = rowT k t) : (cs.set ((k - 1) * 5 + 1) (.string s)).take (k * 5) = rowT k s := by
  rw [List.take_set]
  rcases h with h | ⟨t, h⟩
  · rw [h]; rfl
  · rw [h]; unfold rowT; rw [List.set_set]
theorem blk_far {W : World} {b t g j : Nat} {cs : List Value} {z : Value} (h : Blk W b t cs) (hne : b ≠ g) : Blk (W.setCell ⟨g, j, none⟩ z) b t cs :=
  (Below.heap_setCell W ⟨g, j, none⟩ z b hne).trans h
/-- The model of types, its row in a block of its own. -/
structure LastT (w : World) (mb g k oc : Nat) (P : List Value → Prop) (W : World) : Prop where
  m : Blk W mb 27 [.string mS, .string mS, .string ⟨#[]⟩, .slice (some ⟨g, 0, none⟩) k oc, .slice none 0 0, .slice none 0 0, .slice none 0 0]
  r : ∃ cs, Blk W g 54 cs ∧ P (cs.take (k * 5))
  b : Bel w W
theorem LastT.go {w W W' : World} {mb g k oc : Nat} {P : List Value → Prop} (h : LastT w mb g k oc P W) (hb : Bel W W') : LastT w mb g k oc P W' := by
  obtain ⟨h1, ⟨cs, h2, h3⟩, h4⟩ := h
  exact ⟨h1.bel hb, ⟨cs, h2.bel hb, h3⟩, h4.trans hb⟩
theorem LastT.set {w W : World} {mb g k kk oc : Nat} {P : List Value → Prop} (h : LastT w mb g k oc P W) (hP : ∀ l, P l → l = tyRow k ∨ ∃ t, l = rowT k t) (hk : k - 1 = kk) (hg : w.heap.size ≤ g) (hne : mb ≠ g) (s : ByteArray) : LastT w mb g k oc (fun l => l = rowT k s) (W.setCell ⟨g, kk * 5 + 1, none⟩ (.string s)) := by
  subst hk
  obtain ⟨h1, ⟨cs, h2, h3⟩, h4⟩ := h
  exact ⟨blk_far h1 hne, ⟨_, h2.set _ _, set_row (hP _ h3)⟩, bel_setNew h4 hg _ _⟩
theorem LastT.at0 {w W : World} {mb g k oc : Nat} {s : ByteArray} (h : LastT w mb g k oc (fun l => l = rowT k s) W) (hk : 1 ≤ k) : W.cell? ⟨g, 0, none⟩ = some (.string (tyN 0)) := by
  obtain ⟨_, ⟨cs, h2, h3⟩, _⟩ := h
  have h4 := tyRow_get (k := k) (i := 0) (c := 0) (by omega) (by omega)
  rw [h2.at, ← List.getElem?_take_of_lt (show 0 < k * 5 by omega), h3]
  unfold rowT
  rw [List.getElem?_set_ne (by omega)]
  exact h4
theorem LastT.last {w W : World} {mb g k kk oc : Nat} {s : ByteArray} (h : LastT w mb g k oc (fun l => l = rowT k s) W) (hk : 1 ≤ k) (hkk : k - 1 = kk) : W.cell? ⟨g, kk * 5 + 1, none⟩ = some (.string s) ∧ W.frozen? ⟨g, kk * 5 + 1, none⟩ = false := by
  subst hkk
  obtain ⟨_, ⟨cs, h2, h3⟩, _⟩ := h
  refine ⟨?_, h2.fz _⟩
  rw [h2.at, ← List.getElem?_take_of_lt (show (k - 1) * 5 + 1 < k * 5 by omega), h3]
  unfold rowT
  rw [List.getElem?_set_self (by rw [tyRow_len]; omega)]
theorem basic_size {s : ByteArray} (h : s ∈ basicS) : s.size ≤ 1000 := by
  have h1 : (basicS.all fun s => decide (s.size ≤ 1000)) = true := by decide +kernel
  exact of_decide_eq_true (List.all_eq_true.1 h1 s h)
theorem LastT.md {w W : World} {mb g k oc : Nat} {s : ByteArray} (h : LastT w mb g k oc (fun l => l = rowT k s) W) (hk : 1 ≤ k) (hoc : k ≤ oc) : MdAt W (typM k s) ⟨some ⟨g, 0, none⟩, k, oc, none, 0, 0, none, 0, 0, none, 0, 0⟩ := by
  obtain ⟨_, ⟨cs, h2, h3⟩, _⟩ := h
  exact types_at h2 h3 hk hoc
theorem types_c {w W : World} {mb g k oc : Nat} {s : ByteArray} (h : LastT w mb g k oc (fun l => l = rowT k s) W) (hE : EnvM w) (hk : 1 ≤ k) (hk4 : k ≤ 40) (hoc : k ≤ oc) (hs : s.size ≤ 1000) :
    Calls Tryz.prog 10 #[.agg #[.string ⟨#[109]⟩, .string ⟨#[109]⟩, .string ⟨#[]⟩, .slice (some ⟨g, 0, none⟩) k oc, .slice none 0 0, .slice none 0 0, .slice none 0 0]] W (RetBel (.int .i64 (CheckM (typM k s))) W) :=
  mcheck_c (typM k s) ⟨some ⟨g, 0, none⟩, k, oc, none, 0, 0, none, 0, 0, none, 0, 0⟩ W (hE.bel h.b) (bulk_types hk4 hs) (h.md hk hoc)
set_option maxRecDepth 100000 in
set_option maxHeartbeats 8000000 in
theorem modelTypes_walk {w : World} (n : Int) (_hn : (Lit.int .i64 n).wf = true) (b : Int) (hb : (Lit.int .u8 b).wf = true) (hE : EnvM w) : Calls Tryz.prog 5 #[.int .i64 n, .int .u8 b] w (RetBel (.bool true) w) := by
  have HE := Lib.hid hE
  have HBY := Lib.hid hb
  obtain ⟨k, hk⟩ : ∃ k : Nat, 1 + max 0 n % 40 = (k : Int) := ⟨(1 + max 0 n % 40).toNat, by omega⟩
  have hk2 : 1 ≤ k ∧ k ≤ 40 := by omega
  have hk1 := hk2.1
  have hk40 := hk2.2
  have HKE := Lib.hid hk
  obtain ⟨mb, hmb⟩ : ∃ x, w.heap.size = x := ⟨_, rfl⟩
  obtain ⟨V1, h1, m1, l1, s1⟩ := alloc_step w 27 [.string mS, .string mS, .string ⟨#[]⟩, .slice none 0 0, .slice none 0 0, .slice none 0 0, .slice none 0 0]
  have hs1 : V1.heap.size = mb + 1 := by rw [s1, hmb]
  rw [hmb] at m1
  have HV1 := Lib.hid h1
  have HM1 := Lib.hid m1
  have HL1 := Lib.hid l1
  have HMB := Lib.hid hmb
  have HS1 := Lib.hid hs1
  clear hE hb hk hk2 hmb h1 m1 l1 s1 hs1
  go_enter Tryz.func5, Tryz.ntmps5
  go_upto_region 2 with fail
  rw [HKE.out]
  go_upto_region 3 with fail
  rw [show w.alloc (.cells #[.string ⟨#[109]⟩, .string ⟨#[109]⟩, .string ⟨#[]⟩, .slice none 0 0, .slice none 0 0, .slice none 0 0, .slice none 0 0] 27) = V1 from HV1.out, HMB.out]
  clear HV1
  go_wp2_with fail
  go_loopw [17] (fun i wr => ∃ j : Nat, i = .int .i64 j ∧ j ≤ k ∧ ∃ (oa : Option Addr) (oc : Nat), Hid (Blk wr mb 27 [.string mS, .string mS, .string ⟨#[]⟩, .slice oa j oc, .slice none 0 0, .slice none 0 0, .slice none 0 0]) ∧ Hid (wr.ownsRow (mb + 1) 54 5 (.slice oa j oc) j (tyRow j)) ∧ Hid (Bel w wr) ∧ Hid (mb + 1 ≤ wr.heap.size)) (fun i _ => k - (intOf i).toNat)
  case atStart => exact ⟨0, rfl, Nat.zero_le _, none, 0, HM1, Lib.hid (World.ownsRow_nil _ _ _ _), HL1, Lib.hid (by rw [HS1.out]; exact Nat.le_refl _)⟩
  case round =>
    obtain ⟨j, rfl, hj, oa, oc, HBK, HOW, HB, HSZ⟩ := hrel
    by_cases hjk : j < k
    · have hji : (j : Int) < k := by omega
      have c3 : wr.cell? ⟨mb, 3, none⟩ = some (.slice oa j oc) := HBK.out.at 3
      have hlt : mb < wr.heap.size := HBK.out.lt
      have HJN : Hid (j ≤ 4294967296) := Lib.hid (by omega)
      obtain ⟨j1, hj1⟩ : ∃ z, j + 1 = z := ⟨_, rfl⟩
      obtain ⟨r1, hr1⟩ : ∃ r, j % 26 = r := ⟨_, rfl⟩
      obtain ⟨d1, hd1⟩ : ∃ r, j / 26 = r := ⟨_, rfl⟩
      obtain ⟨r2, hr2⟩ : ∃ r, j1 % 26 = r := ⟨_, rfl⟩
      obtain ⟨d2, hd2⟩ : ∃ r, j1 / 26 = r := ⟨_, rfl⟩
      obtain ⟨x1, hx1⟩ : ∃ r, 97 + r1 = r := ⟨_, rfl⟩
      obtain ⟨y1, hy1⟩ : ∃ r, 97 + d1 = r := ⟨_, rfl⟩
      obtain ⟨x2, hx2⟩ : ∃ r, 97 + r2 = r := ⟨_, rfl⟩
      obtain ⟨y2, hy2⟩ : ∃ r, 97 + d2 = r := ⟨_, rfl⟩
      have u1 : IntKind.i64.wrap ((j : Int) + 1) = (j1 : Int) := by rw [IntWalk.i64_in _ (by omega)]; omega
      have u2 : (j : Int) % 26 = (r1 : Int) := by omega
      have u3 : (j : Int) / 26 = (d1 : Int) := by omega
      have u4 : (j1 : Int) % 26 = (r2 : Int) := by omega
      have u5 : (j1 : Int) / 26 = (d2 : Int) := by omega
      have hw8 : ∀ z : Nat, z < 256 → IntKind.u8.wrap (z : Int) = (z : Int) := fun z hz => by unfold IntKind.wrap; simp [IntKind.bits, IntKind.signed]; omega
      have v1 := hw8 r1 (by omega)
      have v2 := hw8 d1 (by omega)
      have v3 := hw8 r2 (by omega)
      have v4 := hw8 d2 (by omega)
      have v5 : IntKind.u8.wrap (97 + (r1 : Int)) = (x1 : Int) := by rw [← hx1]; exact hw8 (97 + r1) (by omega)
      have v6 : IntKind.u8.wrap (97 + (d1 : Int)) = (y1 : Int) := by rw [← hy1]; exact hw8 (97 + d1) (by omega)
      have v7 : IntKind.u8.wrap (97 + (r2 : Int)) = (x2 : Int) := by rw [← hx2]; exact hw8 (97 + r2) (by omega)
      have v8 : IntKind.u8.wrap (97 + (d2 : Int)) = (y2 : Int) := by rw [← hy2]; exact hw8 (97 + d2) (by omega)
      have k2 := Blk.new (wr.alloc (.cells #[.int .u8 x1, .int .u8 y1] 5)) 5 [.int .u8 x2, .int .u8 y2]
      rw [World.size_alloc] at k2
      have hcv1 := bytes_string _ _ _ (bytes_two (c := x1) (d := y1) (by omega) (by omega) (Blk.new wr 5 [.int .u8 x1, .int .u8 y1]))
      have hcv2 := bytes_string _ _ _ (bytes_two (c := x2) (d := y2) (by omega) (by omega) k2)
      have hj1' : (⟨#[116]⟩ : ByteArray) ++ ⟨#[UInt8.ofNat x1, UInt8.ofNat y1]⟩ = tyN j := by rw [← hx1, ← hy1, ← hr1, ← hd1]; exact ty_join j
      have hj2' : (⟨#[116]⟩ : ByteArray) ++ ⟨#[UInt8.ofNat x2, UInt8.ofNat y2]⟩ = tyN j1 := by rw [← hx2, ← hy2, ← hr2, ← hd2]; exact ty_join j1
      have hz1 : ¬ (9223372036854775807 < (⟨#[116]⟩ : ByteArray).size + (⟨#[UInt8.ofNat x1, UInt8.ofNat y1]⟩ : ByteArray).size) := by show ¬ (9223372036854775807 < 1 + 2); decide
      have hz2 : ¬ (9223372036854775807 < (⟨#[116]⟩ : ByteArray).size + (⟨#[UInt8.ofNat x2, UInt8.ofNat y2]⟩ : ByteArray).size) := by show ¬ (9223372036854775807 < 1 + 2); decide
      have hj1n : j1 ≤ 40 := by omega
      have hj1i : (j1 : Int) ≤ 40 := by omega
      have HJ1 := Lib.hid hj1
      have HN1 := Lib.hid hj1'
      have HN2 := Lib.hid hj2'
      have hx := ((Bel.alloc wr (.cells #[.int .u8 x1, .int .u8 y1] 5)).trans (Bel.alloc _ (.cells #[.int .u8 x2, .int .u8 y2] 5))).trans (Bel.alloc _ (.cells #[.string (⟨#[116]⟩ ++ ⟨#[UInt8.ofNat x1, UInt8.ofNat y1]⟩), .string (⟨#[116]⟩ ++ ⟨#[UInt8.ofNat x2, UInt8.ofNat y2]⟩), .bool false, .bool false, .slice none 0 0] 54))
      have HX := Lib.hid hx
      have HNEW : Hid (∀ (i : Nat) (u : Value), [.string (⟨#[116]⟩ ++ ⟨#[UInt8.ofNat x1, UInt8.ofNat y1]⟩), .string (⟨#[116]⟩ ++ ⟨#[UInt8.ofNat x2, UInt8.ofNat y2]⟩), .bool false, .bool false, .slice none 0 0][i]? = some u → (((wr.alloc (.cells #[.int .u8 x1, .int .u8 y1] 5)).alloc (.cells #[.int .u8 x2, .int .u8 y2] 5)).alloc (.cells #[.string (⟨#[116]⟩ ++ ⟨#[UInt8.ofNat x1, UInt8.ofNat y1]⟩), .string (⟨#[116]⟩ ++ ⟨#[UInt8.ofNat x2, UInt8.ofNat y2]⟩), .bool false, .bool false, .slice none 0 0] 54)).cell? ((⟨wr.heap.size + 1 + 1, 0, none⟩ : Addr).add i) = some u) := Lib.hid fun i u hu => by
        have := cellsM_new ((wr.alloc (.cells #[.int .u8 x1, .int .u8 y1] 5)).alloc (.cells #[.int .u8 x2, .int .u8 y2] 5)) [.string (⟨#[116]⟩ ++ ⟨#[UInt8.ofNat x1, UInt8.ofNat y1]⟩), .string (⟨#[116]⟩ ++ ⟨#[UInt8.ofNat x2, UInt8.ofNat y2]⟩), .bool false, .bool false, .slice none 0 0] 54 i u hu
        rwa [World.size_alloc, World.size_alloc] at this
      have HSZX : Hid (mb + 1 ≤ (((wr.alloc (.cells #[.int .u8 x1, .int .u8 y1] 5)).alloc (.cells #[.int .u8 x2, .int .u8 y2] 5)).alloc (.cells #[.string (⟨#[116]⟩ ++ ⟨#[UInt8.ofNat x1, UInt8.ofNat y1]⟩), .string (⟨#[116]⟩ ++ ⟨#[UInt8.ofNat x2, UInt8.ofNat y2]⟩), .bool false, .bool false, .slice none 0 0] 54)).heap.size) := Lib.hid (by have := HSZ.out; simp only [World.size_alloc]; omega)
      have HAPP : Hid (∀ g cap w3, World.ownsRow w3 (mb + 1) 54 5 (.slice (some ⟨g, 0, none⟩) (j + 1) cap) (j + 1) (tyRow j ++ [.string (⟨#[116]⟩ ++ ⟨#[UInt8.ofNat x1, UInt8.ofNat y1]⟩), .string (⟨#[116]⟩ ++ ⟨#[UInt8.ofNat x2, UInt8.ofNat y2]⟩), .bool false, .bool false, .slice none 0 0]) → World.grownBy (((wr.alloc (.cells #[.int .u8 x1, .int .u8 y1] 5)).alloc (.cells #[.int .u8 x2, .int .u8 y2] 5)).alloc (.cells #[.string (⟨#[116]⟩ ++ ⟨#[UInt8.ofNat x1, UInt8.ofNat y1]⟩), .string (⟨#[116]⟩ ++ ⟨#[UInt8.ofNat x2, UInt8.ofNat y2]⟩), .bool false, .bool false, .slice none 0 0] 54)) w3 (Value.slice oa j oc).ownBlock → (Blk w3 mb 27 [.string mS, .string mS, .string ⟨#[]⟩, .slice oa j oc, .slice none 0 0, .slice none 0 0, .slice none 0 0] ∧ Bel w w3 ∧ mb + 1 ≤ w3.heap.size ∧ World.ownsRow w3 (mb + 1) 54 5 (.slice (some ⟨g, 0, none⟩) (j + 1) cap) (j + 1) (tyRow j1))) := Lib.hid fun g cap w3 hown3 hg3 => by
        have hbk3 := (HBK.out.bel HX.out).grown (own_bel HOW.out HX.out) hg3 (by decide)
        have hb3 := own_grown (own_bel HOW.out HX.out) (HB.out.trans HX.out) hg3 (by have := HMB.out; omega)
        refine ⟨hbk3, hb3, by have := hbk3.lt; omega, ?_⟩
        rwa [tyRow_next HN1.out HN2.out HJ1.out] at hown3
      clear hj1 hr1 hd1 hr2 hd2 hx1 hy1 hx2 hy2 hw8 hj1' hj2' k2 hx
      go_upto_region 6 with fail
      go_wp2_with (at_builtin; refine wpL_append1k rfl _ _ 22 rfl (mb + 1) HSZX.out 54 (.agg #[.string ⟨#[]⟩, .string ⟨#[]⟩, .bool false, .bool false, .slice none 0 0]) 5 64 Tryz.underlying22 info_itT rfl (by decide) (by decide) _ j _ rfl (own_bel HOW.out HX.out) ⟨wr.heap.size + 1 + 1, 0, none⟩ 1 [.string (⟨#[116]⟩ ++ ⟨#[UInt8.ofNat x1, UInt8.ofNat y1]⟩), .string (⟨#[116]⟩ ++ ⟨#[UInt8.ofNat x2, UInt8.ofNat y2]⟩), .bool false, .bool false, .slice none 0 0] rfl rfl HNEW.out (by simp [Value.oneCell']) HJN.out ?_; intro g cap w3 hown3 hg3; have happ := HAPP.out g cap w3 hown3 hg3; have e3 := happ.1.at 3; have f3 := happ.1.fz 3; have HAP := Lib.hid happ; clear hown3 hg3 happ)
      clear u1 u2 u3 u4 u5 v1 v2 v3 v4 v5 v6 v7 v8 hcv1 hcv2 hz1 hz2 e3 f3
      have hne := own_ne HAP.out.2.2.2 HAP.out.1 (by decide)
      have r1 := HAP.out.1.set 3 (.slice (some ⟨g, 0, none⟩) (j + 1) cap)
      have r2 := own_set HAP.out.2.2.2 hne (.slice (some ⟨g, 0, none⟩) (j + 1) cap) (p := ⟨mb, 3, none⟩)
      have r3 := bel_setNew HAP.out.2.1 (by have := HMB.out; omega : w.heap.size ≤ mb) 3 (.slice (some ⟨g, 0, none⟩) (j + 1) cap)
      have hjj := HJ1.out
      subst hjj
      exact ⟨⟨j + 1, rfl, by omega, some ⟨g, 0, none⟩, cap, Lib.hid r1, Lib.hid r2, Lib.hid r3, Lib.hid (by rw [World.size_setCell]; exact HAP.out.2.2.1)⟩, by simp [intOf]; omega⟩
    · have hjk2 : j = k := by omega
      subst hjk2
      obtain ⟨hl, ⟨hv, h0⟩ | ⟨g, cap, cur, hv, hg, hh, hn, _, hsz, ht⟩⟩ := HOW.out
      · exfalso
        have h1 := tyRow_len j
        rw [hl] at h1
        omega
      · injection hv with hv1 _ hv3
        subst hv1 hv3
        have hrow : Blk wr g 54 cur.toList := by unfold Blk; simpa using hh
        have hgm : g ≠ mb := by omega
        have hbr : 0 ≤ b ∧ b ≤ 255 := by
          have h1 := HBY.out
          simp [Lit.wf, IntKind.min, IntKind.max, IntKind.bits, IntKind.signed] at h1
          omega
        obtain ⟨bi, hbi⟩ : ∃ n : Nat, b.tmod 6 = (n : Int) := ⟨(b % 6).toNat, by rw [Int.tmod_eq_emod_of_nonneg hbr.1]; omega⟩
        have hbe : b.tmod 6 = b % 6 := Int.tmod_eq_emod_of_nonneg hbr.1
        have hbi6 : bi < 6 := by omega
        have hbii : (bi : Int) < 6 := by omega
        obtain ⟨s, hs⟩ : ∃ s, basicS[bi]? = some s := ⟨_, List.getElem?_eq_getElem hbi6⟩
        have hsb : s ∈ basicS := List.mem_of_getElem? hs
        obtain ⟨kk, hkk⟩ : ∃ n, j - 1 = n := ⟨_, rfl⟩
        have hkj : (j : Int) - 1 = (kk : Int) := by omega
        have hkl : kk < j := by omega
        have hkli : (kk : Int) < j := by omega
        obtain ⟨W1, z1, k1, l1, s1⟩ := alloc_step wr 9 [.string ⟨#[97, 110, 121]⟩, .string ⟨#[98, 111, 111, 108, 101, 97, 110]⟩, .string ⟨#[99, 111, 110, 116, 101, 120, 116]⟩, .string ⟨#[100, 97, 116, 101]⟩, .string ⟨#[110, 117, 109, 98, 101, 114]⟩, .string ⟨#[115, 116, 114, 105, 110, 103]⟩]
        obtain ⟨ab, hab⟩ : ∃ x, wr.heap.size = x := ⟨_, rfl⟩
        rw [hab] at k1
        have hv : ∀ h : bi < ([Value.string ⟨#[97, 110, 121]⟩, .string ⟨#[98, 111, 111, 108, 101, 97, 110]⟩, .string ⟨#[99, 111, 110, 116, 101, 120, 116]⟩, .string ⟨#[100, 97, 116, 101]⟩, .string ⟨#[110, 117, 109, 98, 101, 114]⟩, .string ⟨#[115, 116, 114, 105, 110, 103]⟩] : List Value).length, ([Value.string ⟨#[97, 110, 121]⟩, .string ⟨#[98, 111, 111, 108, 101, 97, 110]⟩, .string ⟨#[99, 111, 110, 116, 101, 120, 116]⟩, .string ⟨#[100, 97, 116, 101]⟩, .string ⟨#[110, 117, 109, 98, 101, 114]⟩, .string ⟨#[115, 116, 114, 105, 110, 103]⟩] : List Value)[bi]'h = .string s := fun h => by
          have h1 : (strsV basicS)[bi]? = some (.string s) := by unfold strsV; rw [List.getElem?_map, hs]; rfl
          exact Option.some.inj ((List.getElem?_eq_getElem h).symm.trans h1)
        have c3 : wr.cell? ⟨mb, 3, none⟩ = some (.slice (some ⟨g, 0, none⟩) j oc) := HBK.out.at 3
        have HL : Hid (LastT w mb g j oc (fun l => l = tyRow j) wr) := Lib.hid ⟨HBK.out, ⟨_, hrow, ht⟩, HB.out⟩
        have hrow1 := hrow.bel l1
        have f1 := hrow1.fz (kk * 5 + 1)
        have hgl : g < wr.heap.size := hrow.lt
        have hbk5 := tyRow_get (k := j) (i := kk) (c := 1) hkl (by omega)
        have e1 : W1.cell? ⟨g, kk * 5 + 1, none⟩ = some (.string (tyN (kk + 1))) := by
          rw [hrow1.at, ← List.getElem?_take_of_lt (show kk * 5 + 1 < j * 5 by omega), ht]
          exact hbk5
        have HGW : Hid (w.heap.size ≤ g ∧ mb ≠ g) := Lib.hid (by have := HMB.out; omega)
        subst z1 hab
        have HKK := Lib.hid hkk
        have HN := Lib.hid hn
        have HSBB := Lib.hid hsb
        clear hbr hbe hs hsb hkk k1 l1 s1 hrow hrow1 hl hg hh hn hsz ht hj HOW HBK HB hbk5
        go_upto_region 10 with fail
        have HL2 := Lib.hid ((HL.out.set (fun l h => .inl h) HKK.out HGW.out.1 HGW.out.2 s).go (Bel.alloc _ (.cells #[.string ⟨#[97, 110, 121]⟩, .string ⟨#[98, 111, 111, 108, 101, 97, 110]⟩, .string ⟨#[99, 111, 110, 116, 101, 120, 116]⟩, .string ⟨#[100, 97, 116, 101]⟩, .string ⟨#[110, 117, 109, 98, 101, 114]⟩, .string ⟨#[115, 116, 114, 105, 110, 103]⟩] 9)))
        generalize (wr.setCell ⟨g, kk * 5 + 1, none⟩ (.string s)).alloc _ = W2 at HL2 ⊢
        have HC2 := Lib.hid (types_c HL2.out HE.out hk1 hk40 HN.out (basic_size HSBB.out))
        rw [typ_chain hk1 hk40 HSBB.out] at HC2
        clear hv c3 f1 e1 hgl hbi hbii HL
        have x0 : W2.cell? ⟨mb, 0, none⟩ = some (.string ⟨#[109]⟩) := HL2.out.m.at 0
        have x1 : W2.cell? ⟨mb, 1, none⟩ = some (.string ⟨#[109]⟩) := HL2.out.m.at 1
        have x2 : W2.cell? ⟨mb, 2, none⟩ = some (.string ⟨#[]⟩) := HL2.out.m.at 2
        have x3 : W2.cell? ⟨mb, 3, none⟩ = some (.slice (some ⟨g, 0, none⟩) j oc) := HL2.out.m.at 3
        have x4 : W2.cell? ⟨mb, 4, none⟩ = some (.slice none 0 0) := HL2.out.m.at 4
        have x5 : W2.cell? ⟨mb, 5, none⟩ = some (.slice none 0 0) := HL2.out.m.at 5
        have x6 : W2.cell? ⟨mb, 6, none⟩ = some (.slice none 0 0) := HL2.out.m.at 6
        go_wp2_with fail
        refine HC2.out.mono ?_
        rintro e2 w3 ⟨rfl, hb3⟩
        have HL3 := Lib.hid (HL2.out.go hb3)
        have y0 := HL3.out.at0 hk1
        have y3 : w3.cell? ⟨mb, 3, none⟩ = some (.slice (some ⟨g, 0, none⟩) j oc) := HL3.out.m.at 3
        have e3 := (HL3.out.last hk1 HKK.out).1
        have f3 := (HL3.out.last hk1 HKK.out).2
        clear hb3 HC2 HL2 x0 x1 x2 x3 x4 x5 x6
        go_upto_region 12 with fail
        have HL4 := Lib.hid (HL3.out.set (fun l h => .inr ⟨_, h⟩) HKK.out HGW.out.1 HGW.out.2 (tyN 0))
        generalize w3.setCell ⟨g, kk * 5 + 1, none⟩ (.string (tyN 0)) = W4 at HL4 ⊢
        have HC4 := Lib.hid (types_c HL4.out HE.out hk1 hk40 HN.out (by decide +kernel))
        rw [typ_circle hk1 hk40] at HC4
        clear y0 y3 e3 f3 HL3
        have x0 : W4.cell? ⟨mb, 0, none⟩ = some (.string ⟨#[109]⟩) := HL4.out.m.at 0
        have x1 : W4.cell? ⟨mb, 1, none⟩ = some (.string ⟨#[109]⟩) := HL4.out.m.at 1
        have x2 : W4.cell? ⟨mb, 2, none⟩ = some (.string ⟨#[]⟩) := HL4.out.m.at 2
        have x3 : W4.cell? ⟨mb, 3, none⟩ = some (.slice (some ⟨g, 0, none⟩) j oc) := HL4.out.m.at 3
        have x4 : W4.cell? ⟨mb, 4, none⟩ = some (.slice none 0 0) := HL4.out.m.at 4
        have x5 : W4.cell? ⟨mb, 5, none⟩ = some (.slice none 0 0) := HL4.out.m.at 5
        have x6 : W4.cell? ⟨mb, 6, none⟩ = some (.slice none 0 0) := HL4.out.m.at 6
        go_wp2_with fail
        refine HC4.out.mono ?_
        rintro e4 w5 ⟨rfl, hb5⟩
        have HL5 := Lib.hid (HL4.out.go hb5)
        have e5 := (HL5.out.last hk1 HKK.out).1
        have f5 := (HL5.out.last hk1 HKK.out).2
        clear hb5 HC4 HL4 x0 x1 x2 x3 x4 x5 x6
        go_upto_region 14 with fail
        have HL6 := Lib.hid (HL5.out.set (fun l h => .inr ⟨_, h⟩) HKK.out HGW.out.1 HGW.out.2 nowS)
        unfold nowS at HL6
        generalize w5.setCell ⟨g, kk * 5 + 1, none⟩ (.string ⟨#[110, 111, 119, 104, 101, 114, 101]⟩) = W6 at HL6 ⊢
        have HA6 := Lib.hid (malive_c W6 (HE.out.bel HL6.out.b))
        clear e5 f5 HL5
        go_wp2_with fail
        refine HA6.out.mono ?_
        rintro e6 w7 ⟨rfl, hb7⟩
        have HL7 := Lib.hid (HL6.out.go hb7)
        have HC7 := Lib.hid (types_c (s := nowS) HL7.out HE.out hk1 hk40 HN.out (by decide +kernel))
        rw [typ_lost hk1 hk40] at HC7
        clear hb7 HA6 HL6
        have x0 : w7.cell? ⟨mb, 0, none⟩ = some (.string ⟨#[109]⟩) := HL7.out.m.at 0
        have x1 : w7.cell? ⟨mb, 1, none⟩ = some (.string ⟨#[109]⟩) := HL7.out.m.at 1
        have x2 : w7.cell? ⟨mb, 2, none⟩ = some (.string ⟨#[]⟩) := HL7.out.m.at 2
        have x3 : w7.cell? ⟨mb, 3, none⟩ = some (.slice (some ⟨g, 0, none⟩) j oc) := HL7.out.m.at 3
        have x4 : w7.cell? ⟨mb, 4, none⟩ = some (.slice none 0 0) := HL7.out.m.at 4
        have x5 : w7.cell? ⟨mb, 5, none⟩ = some (.slice none 0 0) := HL7.out.m.at 5
        have x6 : w7.cell? ⟨mb, 6, none⟩ = some (.slice none 0 0) := HL7.out.m.at 6
        go_wp2_with fail
        refine HC7.out.mono ?_
        rintro e8 w8 ⟨rfl, hb8⟩
        have HB8 := Lib.hid (HL7.out.b.trans hb8)
        clear hb8 HC7 HL7 x0 x1 x2 x3 x4 x5 x6
        go_wp2_with fail
        go_ret
        exact ⟨rfl, HB8.out⟩
end Go.Proofs.YtbcdbefogfmhfaaGreatDoor
