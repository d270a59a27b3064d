/-
  feelprint: the printer's methods that write parts and texts.
-/
import Derived.Test.YtpenfnabeckboaaGreatDoorFPF
namespace Go.Proofs.YtpenfnabeckboaaGreatDoor
open Go.RowKit

set_option maxRecDepth 100000 in
set_option maxHeartbeats 4000000 in
theorem p_neg_c (u : World) (b mb : Nat) (bare : Bool) (k : Int) (s : ByteArray) (ns : List ByteArray) (x0 : Ex) (na : Option Addr) (nn nc : Nat) (la : Option Addr) (ln lc : Nat) (bs : List UInt8) (w : World) (hs : s.size ≤ 1073741824) (hl : ([x0] : List Ex).length = ln) (hlc : ln ≤ lc) (hln : ln ≤ 1073741824) (hn : ns.length = nn) (hnn : nn ≤ 1073741824)
    (hp : PartsAt u la ([x0] : List Ex)) (hnm : NamesAt u na ns) (hx : ∀ x ∈ ([x0] : List Ex), PartOk u b mb bare x) (h : PR u b mb bare bs w) (hlen : bs.length + ([45] ++ partT bare 7 (ptOf bare x0)).length ≤ 140737488355328) :
    Calls Tryz.prog 55 #[.pointer (some ⟨b, 0, none⟩), .agg #[.int .i64 k, .string s, .slice na nn nc, .slice la ln lc]] w (RetP u b mb bare (bs ++ ([45] ++ partT bare 7 (ptOf bare x0))) w) := by
  obtain ⟨pb, po, hla⟩ : ∃ pb po, la = some ⟨pb, po, none⟩ := by obtain ⟨pb, po, _, _, _, _, _, _, h, _⟩ := hp 0 x0 rfl; exact ⟨pb, po, h⟩
  obtain ⟨na0, nn0, nc0, la0, ln0, lc0, g00, g01, g02, g03, ha0⟩ := parts_at hp hla (j := 0) (x := x0) rfl
  have G00 : Hid (u.cell? ⟨pb, po, none⟩ = some (.int .i64 x0.k)) := Lib.hid g00
  have G01 : Hid (u.cell? ⟨pb, po + 1, none⟩ = some (.string x0.s)) := Lib.hid g01
  have G02 : Hid (u.cell? ⟨pb, po + 2, none⟩ = some (.slice na0 nn0 nc0)) := Lib.hid g02
  have G03 : Hid (u.cell? ⟨pb, po + 3, none⟩ = some (.slice la0 ln0 lc0)) := Lib.hid g03
  have HQ0 := Lib.hid (fun (c : List UInt8) (W : World) (hW : PR u b mb bare c W) (hc : c.length + (partT bare 7 (ptOf bare x0)).length ≤ 140737488355328) => prpart_c u b mb bare x0 7 na0 nn0 nc0 la0 ln0 lc0 c W (hx x0 (by simp)).2.1 (hx x0 (by simp)).2.2 (by decide) ha0 hW (hx x0 (by simp)).1 hc)
  obtain ⟨T0, hT0⟩ : ∃ T, partT bare 7 (ptOf bare x0) = T := ⟨_, rfl⟩
  rw [hT0] at hlen HQ0 ⊢
  clear hT0 ha0 g00 g01 g02 g03
  subst hla
  obtain rfl : 1 = ln := by simpa using hl
  obtain ⟨V1, h1, k1, l1, s1⟩ := alloc_step w 25 [.int .i64 k, .string s, .slice na nn nc, .slice (some ⟨pb, po, none⟩) 1 lc]
  have HV1 := Lib.hid h1
  have HP0 := Lib.hid (h.bel l1)
  have HT0 := Lib.hid (KeepT.of_bel (p := keepP) l1)
  have HK0 := Lib.hid k1
  have HL := Lib.hid hlen
  clear h1 k1 l1 s1 h hlen hp hx hnm hl hn
  go_enter Tryz.func55, Tryz.ntmps55
  go_upto_region 1 with fail
  rw [show w.alloc (.cells #[.int .i64 k, .string s, .slice na nn nc, .slice (some ⟨pb, po, none⟩) 1 lc] 25) = V1 from HV1.out]
  clear HV1
  go_wp2_with fail
  obtain ⟨U1, h1, k1, l1, s1⟩ := alloc_step _ 9 [.string ⟨#[45]⟩]
  rw [h1]
  have HA := Lib.hid (add_c u b mb bare _ [⟨#[45]⟩] _ 1 U1 (HP0.out.bel l1) k1 rfl (by decide) (by have := HL.out; simp [btsOf] at this ⊢; omega))
  have HT := Lib.hid (HT0.out.trans (KeepT.of_bel (p := keepP) l1))
  have HK := Lib.hid (HK0.out.bel l1)
  clear h1 k1 l1 s1
  refine HA.out.mono ?_
  clear HA
  rintro e0 w0 ⟨rfl, hp, ht⟩
  have HP1 := Lib.hid hp
  have HT1 := Lib.hid (HT.out.trans ht)
  have HK1 := Lib.hid (ht.blk HK.out keep_ex)
  clear hp ht HT HK HP0 HT0 HK0
  have y3 := HK1.out.at 3
  have d00 := HP1.out.2.keep G00.out
  have d01 := HP1.out.2.keep G01.out
  have d02 := HP1.out.2.keep G02.out
  have d03 := HP1.out.2.keep G03.out
  go_wp2_with fail
  have HT := Lib.hid HT1.out
  have HK := Lib.hid HK1.out
  refine (HQ0.out _ _ HP1.out (by have := HL.out; simp [btsOf] at this ⊢; omega)).mono ?_
  rintro e1 w1 ⟨rfl, hp, ht⟩
  clear y3 d00 d01 d02 d03
  have HP2 := Lib.hid hp
  have HT2 := Lib.hid (HT.out.trans ht)
  have HK2 := Lib.hid (ht.blk HK.out keep_ex)
  clear hp ht HT HK HP1 HT1 HK1
  go_wp2_with fail
  go_end0
  exact ⟨rfl, by simpa [btsOf] using HP2.out, HT2.out⟩
set_option maxRecDepth 100000 in
set_option maxHeartbeats 4000000 in
theorem p_test_c (u : World) (b mb : Nat) (bare : Bool) (k : Int) (s : ByteArray) (ns : List ByteArray) (x0 : Ex) (na : Option Addr) (nn nc : Nat) (la : Option Addr) (ln lc : Nat) (bs : List UInt8) (w : World) (hs : s.size ≤ 1073741824) (hl : ([x0] : List Ex).length = ln) (hlc : ln ≤ lc) (hln : ln ≤ 1073741824) (hn : ns.length = nn) (hnn : nn ≤ 1073741824)
    (hp : PartsAt u la ([x0] : List Ex)) (hnm : NamesAt u na ns) (hx : ∀ x ∈ ([x0] : List Ex), PartOk u b mb bare x) (h : PR u b mb bare bs w) (hlen : bs.length + (btsOf s ++ [32] ++ partT bare 4 (ptOf bare x0)).length ≤ 140737488355328) :
    Calls Tryz.prog 70 #[.pointer (some ⟨b, 0, none⟩), .agg #[.int .i64 k, .string s, .slice na nn nc, .slice la ln lc]] w (RetP u b mb bare (bs ++ (btsOf s ++ [32] ++ partT bare 4 (ptOf bare x0))) w) := by
  obtain ⟨pb, po, hla⟩ : ∃ pb po, la = some ⟨pb, po, none⟩ := by obtain ⟨pb, po, _, _, _, _, _, _, h, _⟩ := hp 0 x0 rfl; exact ⟨pb, po, h⟩
  obtain ⟨na0, nn0, nc0, la0, ln0, lc0, g00, g01, g02, g03, ha0⟩ := parts_at hp hla (j := 0) (x := x0) rfl
  have G00 : Hid (u.cell? ⟨pb, po, none⟩ = some (.int .i64 x0.k)) := Lib.hid g00
  have G01 : Hid (u.cell? ⟨pb, po + 1, none⟩ = some (.string x0.s)) := Lib.hid g01
  have G02 : Hid (u.cell? ⟨pb, po + 2, none⟩ = some (.slice na0 nn0 nc0)) := Lib.hid g02
  have G03 : Hid (u.cell? ⟨pb, po + 3, none⟩ = some (.slice la0 ln0 lc0)) := Lib.hid g03
  have HQ0 := Lib.hid (fun (c : List UInt8) (W : World) (hW : PR u b mb bare c W) (hc : c.length + (partT bare 4 (ptOf bare x0)).length ≤ 140737488355328) => prpart_c u b mb bare x0 4 na0 nn0 nc0 la0 ln0 lc0 c W (hx x0 (by simp)).2.1 (hx x0 (by simp)).2.2 (by decide) ha0 hW (hx x0 (by simp)).1 hc)
  obtain ⟨T0, hT0⟩ : ∃ T, partT bare 4 (ptOf bare x0) = T := ⟨_, rfl⟩
  rw [hT0] at hlen HQ0 ⊢
  clear hT0 ha0 g00 g01 g02 g03
  subst hla
  obtain rfl : 1 = ln := by simpa using hl
  obtain ⟨V1, h1, k1, l1, s1⟩ := alloc_step w 25 [.int .i64 k, .string s, .slice na nn nc, .slice (some ⟨pb, po, none⟩) 1 lc]
  have HV1 := Lib.hid h1
  have HP0 := Lib.hid (h.bel l1)
  have HT0 := Lib.hid (KeepT.of_bel (p := keepP) l1)
  have HK0 := Lib.hid k1
  have HL := Lib.hid hlen
  clear h1 k1 l1 s1 h hlen hp hx hnm hl hn
  go_enter Tryz.func70, Tryz.ntmps70
  go_upto_region 1 with fail
  rw [show w.alloc (.cells #[.int .i64 k, .string s, .slice na nn nc, .slice (some ⟨pb, po, none⟩) 1 lc] 25) = V1 from HV1.out]
  clear HV1
  have y1 := HK0.out.at 1
  go_wp2_with fail
  obtain ⟨U1, h1, k1, l1, s1⟩ := alloc_step _ 9 [.string s, .string ⟨#[32]⟩]
  rw [h1]
  have HA := Lib.hid (add_c u b mb bare _ [s, ⟨#[32]⟩] _ 2 U1 (HP0.out.bel l1) k1 rfl (by decide) (by have := HL.out; simp [btsOf] at this ⊢; omega))
  have HT := Lib.hid (HT0.out.trans (KeepT.of_bel (p := keepP) l1))
  have HK := Lib.hid (HK0.out.bel l1)
  clear h1 k1 l1 s1
  refine HA.out.mono ?_
  clear HA
  rintro e0 w0 ⟨rfl, hp, ht⟩
  clear y1
  have HP1 := Lib.hid hp
  have HT1 := Lib.hid (HT.out.trans ht)
  have HK1 := Lib.hid (ht.blk HK.out keep_ex)
  clear hp ht HT HK HP0 HT0 HK0
  have y3 := HK1.out.at 3
  have d00 := HP1.out.2.keep G00.out
  have d01 := HP1.out.2.keep G01.out
  have d02 := HP1.out.2.keep G02.out
  have d03 := HP1.out.2.keep G03.out
  go_wp2_with fail
  have HT := Lib.hid HT1.out
  have HK := Lib.hid HK1.out
  refine (HQ0.out _ _ HP1.out (by have := HL.out; simp [btsOf] at this ⊢; omega)).mono ?_
  rintro e1 w1 ⟨rfl, hp, ht⟩
  clear y3 d00 d01 d02 d03
  have HP2 := Lib.hid hp
  have HT2 := Lib.hid (HT.out.trans ht)
  have HK2 := Lib.hid (ht.blk HK.out keep_ex)
  clear hp ht HT HK HP1 HT1 HK1
  go_wp2_with fail
  go_end0
  exact ⟨rfl, by simpa [btsOf] using HP2.out, HT2.out⟩
set_option maxRecDepth 100000 in
set_option maxHeartbeats 4000000 in
theorem p_path_c (u : World) (b mb : Nat) (bare : Bool) (k : Int) (s : ByteArray) (ns : List ByteArray) (x0 : Ex) (na : Option Addr) (nn nc : Nat) (la : Option Addr) (ln lc : Nat) (bs : List UInt8) (w : World) (hs : s.size ≤ 1073741824) (hl : ([x0] : List Ex).length = ln) (hlc : ln ≤ lc) (hln : ln ≤ 1073741824) (hn : ns.length = nn) (hnn : nn ≤ 1073741824)
    (hp : PartsAt u la ([x0] : List Ex)) (hnm : NamesAt u na ns) (hx : ∀ x ∈ ([x0] : List Ex), PartOk u b mb bare x) (h : PR u b mb bare bs w) (hlen : bs.length + (partT bare 8 (ptOf bare x0) ++ ([46] ++ btsOf s)).length ≤ 140737488355328) :
    Calls Tryz.prog 59 #[.pointer (some ⟨b, 0, none⟩), .agg #[.int .i64 k, .string s, .slice na nn nc, .slice la ln lc]] w (RetP u b mb bare (bs ++ (partT bare 8 (ptOf bare x0) ++ ([46] ++ btsOf s))) w) := by
  obtain ⟨pb, po, hla⟩ : ∃ pb po, la = some ⟨pb, po, none⟩ := by obtain ⟨pb, po, _, _, _, _, _, _, h, _⟩ := hp 0 x0 rfl; exact ⟨pb, po, h⟩
  obtain ⟨na0, nn0, nc0, la0, ln0, lc0, g00, g01, g02, g03, ha0⟩ := parts_at hp hla (j := 0) (x := x0) rfl
  have G00 : Hid (u.cell? ⟨pb, po, none⟩ = some (.int .i64 x0.k)) := Lib.hid g00
  have G01 : Hid (u.cell? ⟨pb, po + 1, none⟩ = some (.string x0.s)) := Lib.hid g01
  have G02 : Hid (u.cell? ⟨pb, po + 2, none⟩ = some (.slice na0 nn0 nc0)) := Lib.hid g02
  have G03 : Hid (u.cell? ⟨pb, po + 3, none⟩ = some (.slice la0 ln0 lc0)) := Lib.hid g03
  have HQ0 := Lib.hid (fun (c : List UInt8) (W : World) (hW : PR u b mb bare c W) (hc : c.length + (partT bare 8 (ptOf bare x0)).length ≤ 140737488355328) => prpart_c u b mb bare x0 8 na0 nn0 nc0 la0 ln0 lc0 c W (hx x0 (by simp)).2.1 (hx x0 (by simp)).2.2 (by decide) ha0 hW (hx x0 (by simp)).1 hc)
  obtain ⟨T0, hT0⟩ : ∃ T, partT bare 8 (ptOf bare x0) = T := ⟨_, rfl⟩
  rw [hT0] at hlen HQ0 ⊢
  clear hT0 ha0 g00 g01 g02 g03
  subst hla
  obtain rfl : 1 = ln := by simpa using hl
  obtain ⟨V1, h1, k1, l1, s1⟩ := alloc_step w 25 [.int .i64 k, .string s, .slice na nn nc, .slice (some ⟨pb, po, none⟩) 1 lc]
  have HV1 := Lib.hid h1
  have HP0 := Lib.hid (h.bel l1)
  have HT0 := Lib.hid (KeepT.of_bel (p := keepP) l1)
  have HK0 := Lib.hid k1
  have HL := Lib.hid hlen
  clear h1 k1 l1 s1 h hlen hp hx hnm hl hn
  go_enter Tryz.func59, Tryz.ntmps59
  go_upto_region 1 with fail
  rw [show w.alloc (.cells #[.int .i64 k, .string s, .slice na nn nc, .slice (some ⟨pb, po, none⟩) 1 lc] 25) = V1 from HV1.out]
  clear HV1
  have y3 := HK0.out.at 3
  have d00 := HP0.out.2.keep G00.out
  have d01 := HP0.out.2.keep G01.out
  have d02 := HP0.out.2.keep G02.out
  have d03 := HP0.out.2.keep G03.out
  go_wp2_with fail
  have HT := Lib.hid HT0.out
  have HK := Lib.hid HK0.out
  refine (HQ0.out _ _ HP0.out (by have := HL.out; simp [btsOf] at this ⊢; omega)).mono ?_
  rintro e0 w0 ⟨rfl, hp, ht⟩
  clear y3 d00 d01 d02 d03
  have HP1 := Lib.hid hp
  have HT1 := Lib.hid (HT.out.trans ht)
  have HK1 := Lib.hid (ht.blk HK.out keep_ex)
  clear hp ht HT HK HP0 HT0 HK0
  have y1 := HK1.out.at 1
  go_wp2_with fail
  obtain ⟨U1, h1, k1, l1, s1⟩ := alloc_step _ 9 [.string ⟨#[46]⟩, .string s]
  rw [h1]
  have HA := Lib.hid (add_c u b mb bare _ [⟨#[46]⟩, s] _ 2 U1 (HP1.out.bel l1) k1 rfl (by decide) (by have := HL.out; simp [btsOf] at this ⊢; omega))
  have HT := Lib.hid (HT1.out.trans (KeepT.of_bel (p := keepP) l1))
  have HK := Lib.hid (HK1.out.bel l1)
  clear h1 k1 l1 s1
  refine HA.out.mono ?_
  clear HA
  rintro e1 w1 ⟨rfl, hp, ht⟩
  clear y1
  have HP2 := Lib.hid hp
  have HT2 := Lib.hid (HT.out.trans ht)
  have HK2 := Lib.hid (ht.blk HK.out keep_ex)
  clear hp ht HT HK HP1 HT1 HK1
  go_wp2_with fail
  go_end0
  exact ⟨rfl, by simpa [btsOf] using HP2.out, HT2.out⟩
set_option maxRecDepth 100000 in
set_option maxHeartbeats 4000000 in
theorem p_filter_c (u : World) (b mb : Nat) (bare : Bool) (k : Int) (s : ByteArray) (ns : List ByteArray) (x0 x1 : Ex) (na : Option Addr) (nn nc : Nat) (la : Option Addr) (ln lc : Nat) (bs : List UInt8) (w : World) (hs : s.size ≤ 1073741824) (hl : ([x0, x1] : List Ex).length = ln) (hlc : ln ≤ lc) (hln : ln ≤ 1073741824) (hn : ns.length = nn) (hnn : nn ≤ 1073741824)
    (hp : PartsAt u la ([x0, x1] : List Ex)) (hnm : NamesAt u na ns) (hx : ∀ x ∈ ([x0, x1] : List Ex), PartOk u b mb bare x) (h : PR u b mb bare bs w) (hlen : bs.length + (partT bare 8 (ptOf bare x0) ++ [91] ++ partT bare 0 (ptOf bare x1) ++ [93]).length ≤ 140737488355328) :
    Calls Tryz.prog 60 #[.pointer (some ⟨b, 0, none⟩), .agg #[.int .i64 k, .string s, .slice na nn nc, .slice la ln lc]] w (RetP u b mb bare (bs ++ (partT bare 8 (ptOf bare x0) ++ [91] ++ partT bare 0 (ptOf bare x1) ++ [93])) w) := by
  obtain ⟨pb, po, hla⟩ : ∃ pb po, la = some ⟨pb, po, none⟩ := by obtain ⟨pb, po, _, _, _, _, _, _, h, _⟩ := hp 0 x0 rfl; exact ⟨pb, po, h⟩
  obtain ⟨na0, nn0, nc0, la0, ln0, lc0, g00, g01, g02, g03, ha0⟩ := parts_at hp hla (j := 0) (x := x0) rfl
  have G00 : Hid (u.cell? ⟨pb, po, none⟩ = some (.int .i64 x0.k)) := Lib.hid g00
  have G01 : Hid (u.cell? ⟨pb, po + 1, none⟩ = some (.string x0.s)) := Lib.hid g01
  have G02 : Hid (u.cell? ⟨pb, po + 2, none⟩ = some (.slice na0 nn0 nc0)) := Lib.hid g02
  have G03 : Hid (u.cell? ⟨pb, po + 3, none⟩ = some (.slice la0 ln0 lc0)) := Lib.hid g03
  have HQ0 := Lib.hid (fun (c : List UInt8) (W : World) (hW : PR u b mb bare c W) (hc : c.length + (partT bare 8 (ptOf bare x0)).length ≤ 140737488355328) => prpart_c u b mb bare x0 8 na0 nn0 nc0 la0 ln0 lc0 c W (hx x0 (by simp)).2.1 (hx x0 (by simp)).2.2 (by decide) ha0 hW (hx x0 (by simp)).1 hc)
  obtain ⟨T0, hT0⟩ : ∃ T, partT bare 8 (ptOf bare x0) = T := ⟨_, rfl⟩
  rw [hT0] at hlen HQ0 ⊢
  clear hT0 ha0 g00 g01 g02 g03
  obtain ⟨na1, nn1, nc1, la1, ln1, lc1, g10, g11, g12, g13, ha1⟩ := parts_at hp hla (j := 1) (x := x1) rfl
  have G10 : Hid (u.cell? ⟨pb, po + 4, none⟩ = some (.int .i64 x1.k)) := Lib.hid g10
  have G11 : Hid (u.cell? ⟨pb, po + 5, none⟩ = some (.string x1.s)) := Lib.hid g11
  have G12 : Hid (u.cell? ⟨pb, po + 6, none⟩ = some (.slice na1 nn1 nc1)) := Lib.hid g12
  have G13 : Hid (u.cell? ⟨pb, po + 7, none⟩ = some (.slice la1 ln1 lc1)) := Lib.hid g13
  have HQ1 := Lib.hid (fun (c : List UInt8) (W : World) (hW : PR u b mb bare c W) (hc : c.length + (partT bare 0 (ptOf bare x1)).length ≤ 140737488355328) => prpart_c u b mb bare x1 0 na1 nn1 nc1 la1 ln1 lc1 c W (hx x1 (by simp)).2.1 (hx x1 (by simp)).2.2 (by decide) ha1 hW (hx x1 (by simp)).1 hc)
  obtain ⟨T1, hT1⟩ : ∃ T, partT bare 0 (ptOf bare x1) = T := ⟨_, rfl⟩
  rw [hT1] at hlen HQ1 ⊢
  clear hT1 ha1 g10 g11 g12 g13
  subst hla
  obtain rfl : 2 = ln := by simpa using hl
  obtain ⟨V1, h1, k1, l1, s1⟩ := alloc_step w 25 [.int .i64 k, .string s, .slice na nn nc, .slice (some ⟨pb, po, none⟩) 2 lc]
  have HV1 := Lib.hid h1
  have HP0 := Lib.hid (h.bel l1)
  have HT0 := Lib.hid (KeepT.of_bel (p := keepP) l1)
  have HK0 := Lib.hid k1
  have HL := Lib.hid hlen
  clear h1 k1 l1 s1 h hlen hp hx hnm hl hn
  go_enter Tryz.func60, Tryz.ntmps60
  go_upto_region 1 with fail
  rw [show w.alloc (.cells #[.int .i64 k, .string s, .slice na nn nc, .slice (some ⟨pb, po, none⟩) 2 lc] 25) = V1 from HV1.out]
  clear HV1
  have y3 := HK0.out.at 3
  have d00 := HP0.out.2.keep G00.out
  have d01 := HP0.out.2.keep G01.out
  have d02 := HP0.out.2.keep G02.out
  have d03 := HP0.out.2.keep G03.out
  go_wp2_with fail
  have HT := Lib.hid HT0.out
  have HK := Lib.hid HK0.out
  refine (HQ0.out _ _ HP0.out (by have := HL.out; simp [btsOf] at this ⊢; omega)).mono ?_
  rintro e0 w0 ⟨rfl, hp, ht⟩
  clear y3 d00 d01 d02 d03
  have HP1 := Lib.hid hp
  have HT1 := Lib.hid (HT.out.trans ht)
  have HK1 := Lib.hid (ht.blk HK.out keep_ex)
  clear hp ht HT HK HP0 HT0 HK0
  go_wp2_with fail
  obtain ⟨U1, h1, k1, l1, s1⟩ := alloc_step _ 9 [.string ⟨#[91]⟩]
  rw [h1]
  have HA := Lib.hid (add_c u b mb bare _ [⟨#[91]⟩] _ 1 U1 (HP1.out.bel l1) k1 rfl (by decide) (by have := HL.out; simp [btsOf] at this ⊢; omega))
  have HT := Lib.hid (HT1.out.trans (KeepT.of_bel (p := keepP) l1))
  have HK := Lib.hid (HK1.out.bel l1)
  clear h1 k1 l1 s1
  refine HA.out.mono ?_
  clear HA
  rintro e1 w1 ⟨rfl, hp, ht⟩
  have HP2 := Lib.hid hp
  have HT2 := Lib.hid (HT.out.trans ht)
  have HK2 := Lib.hid (ht.blk HK.out keep_ex)
  clear hp ht HT HK HP1 HT1 HK1
  have y3 := HK2.out.at 3
  have d10 := HP2.out.2.keep G10.out
  have d11 := HP2.out.2.keep G11.out
  have d12 := HP2.out.2.keep G12.out
  have d13 := HP2.out.2.keep G13.out
  go_wp2_with fail
  have HT := Lib.hid HT2.out
  have HK := Lib.hid HK2.out
  refine (HQ1.out _ _ HP2.out (by have := HL.out; simp [btsOf] at this ⊢; omega)).mono ?_
  rintro e2 w2 ⟨rfl, hp, ht⟩
  clear y3 d10 d11 d12 d13
  have HP3 := Lib.hid hp
  have HT3 := Lib.hid (HT.out.trans ht)
  have HK3 := Lib.hid (ht.blk HK.out keep_ex)
  clear hp ht HT HK HP2 HT2 HK2
  go_wp2_with fail
  obtain ⟨U1, h1, k1, l1, s1⟩ := alloc_step _ 9 [.string ⟨#[93]⟩]
  rw [h1]
  have HA := Lib.hid (add_c u b mb bare _ [⟨#[93]⟩] _ 1 U1 (HP3.out.bel l1) k1 rfl (by decide) (by have := HL.out; simp [btsOf] at this ⊢; omega))
  have HT := Lib.hid (HT3.out.trans (KeepT.of_bel (p := keepP) l1))
  have HK := Lib.hid (HK3.out.bel l1)
  clear h1 k1 l1 s1
  refine HA.out.mono ?_
  clear HA
  rintro e3 w3 ⟨rfl, hp, ht⟩
  have HP4 := Lib.hid hp
  have HT4 := Lib.hid (HT.out.trans ht)
  have HK4 := Lib.hid (ht.blk HK.out keep_ex)
  clear hp ht HT HK HP3 HT3 HK3
  go_wp2_with fail
  go_end0
  exact ⟨rfl, by simpa [btsOf] using HP4.out, HT4.out⟩
set_option maxRecDepth 100000 in
set_option maxHeartbeats 4000000 in
theorem p_between_c (u : World) (b mb : Nat) (bare : Bool) (k : Int) (s : ByteArray) (ns : List ByteArray) (x0 x1 x2 : Ex) (na : Option Addr) (nn nc : Nat) (la : Option Addr) (ln lc : Nat) (bs : List UInt8) (w : World) (hs : s.size ≤ 1073741824) (hl : ([x0, x1, x2] : List Ex).length = ln) (hlc : ln ≤ lc) (hln : ln ≤ 1073741824) (hn : ns.length = nn) (hnn : nn ≤ 1073741824)
    (hp : PartsAt u la ([x0, x1, x2] : List Ex)) (hnm : NamesAt u na ns) (hx : ∀ x ∈ ([x0, x1, x2] : List Ex), PartOk u b mb bare x) (h : PR u b mb bare bs w) (hlen : bs.length + (partT bare 4 (ptOf bare x0) ++ [32, 98, 101, 116, 119, 101, 101, 110, 32] ++ partT bare 4 (ptOf bare x1) ++ [32, 97, 110, 100, 32] ++ partT bare 4 (ptOf bare x2)).length ≤ 140737488355328) :
    Calls Tryz.prog 57 #[.pointer (some ⟨b, 0, none⟩), .agg #[.int .i64 k, .string s, .slice na nn nc, .slice la ln lc]] w (RetP u b mb bare (bs ++ (partT bare 4 (ptOf bare x0) ++ [32, 98, 101, 116, 119, 101, 101, 110, 32] ++ partT bare 4 (ptOf bare x1) ++ [32, 97, 110, 100, 32] ++ partT bare 4 (ptOf bare x2))) w) := by
  obtain ⟨pb, po, hla⟩ : ∃ pb po, la = some ⟨pb, po, none⟩ := by obtain ⟨pb, po, _, _, _, _, _, _, h, _⟩ := hp 0 x0 rfl; exact ⟨pb, po, h⟩
  obtain ⟨na0, nn0, nc0, la0, ln0, lc0, g00, g01, g02, g03, ha0⟩ := parts_at hp hla (j := 0) (x := x0) rfl
  have G00 : Hid (u.cell? ⟨pb, po, none⟩ = some (.int .i64 x0.k)) := Lib.hid g00
  have G01 : Hid (u.cell? ⟨pb, po + 1, none⟩ = some (.string x0.s)) := Lib.hid g01
  have G02 : Hid (u.cell? ⟨pb, po + 2, none⟩ = some (.slice na0 nn0 nc0)) := Lib.hid g02
  have G03 : Hid (u.cell? ⟨pb, po + 3, none⟩ = some (.slice la0 ln0 lc0)) := Lib.hid g03
  have HQ0 := Lib.hid (fun (c : List UInt8) (W : World) (hW : PR u b mb bare c W) (hc : c.length + (partT bare 4 (ptOf bare x0)).length ≤ 140737488355328) => prpart_c u b mb bare x0 4 na0 nn0 nc0 la0 ln0 lc0 c W (hx x0 (by simp)).2.1 (hx x0 (by simp)).2.2 (by decide) ha0 hW (hx x0 (by simp)).1 hc)
  obtain ⟨T0, hT0⟩ : ∃ T, partT bare 4 (ptOf bare x0) = T := ⟨_, rfl⟩
  rw [hT0] at hlen HQ0 ⊢
  clear hT0 ha0 g00 g01 g02 g03
  obtain ⟨na1, nn1, nc1, la1, ln1, lc1, g10, g11, g12, g13, ha1⟩ := parts_at hp hla (j := 1) (x := x1) rfl
  have G10 : Hid (u.cell? ⟨pb, po + 4, none⟩ = some (.int .i64 x1.k)) := Lib.hid g10
  have G11 : Hid (u.cell? ⟨pb, po + 5, none⟩ = some (.string x1.s)) := Lib.hid g11
  have G12 : Hid (u.cell? ⟨pb, po + 6, none⟩ = some (.slice na1 nn1 nc1)) := Lib.hid g12
  have G13 : Hid (u.cell? ⟨pb, po + 7, none⟩ = some (.slice la1 ln1 lc1)) := Lib.hid g13
  have HQ1 := Lib.hid (fun (c : List UInt8) (W : World) (hW : PR u b mb bare c W) (hc : c.length + (partT bare 4 (ptOf bare x1)).length ≤ 140737488355328) => prpart_c u b mb bare x1 4 na1 nn1 nc1 la1 ln1 lc1 c W (hx x1 (by simp)).2.1 (hx x1 (by simp)).2.2 (by decide) ha1 hW (hx x1 (by simp)).1 hc)
  obtain ⟨T1, hT1⟩ : ∃ T, partT bare 4 (ptOf bare x1) = T := ⟨_, rfl⟩
  rw [hT1] at hlen HQ1 ⊢
  clear hT1 ha1 g10 g11 g12 g13
  obtain ⟨na2, nn2, nc2, la2, ln2, lc2, g20, g21, g22, g23, ha2⟩ := parts_at hp hla (j := 2) (x := x2) rfl
  have G20 : Hid (u.cell? ⟨pb, po + 8, none⟩ = some (.int .i64 x2.k)) := Lib.hid g20
  have G21 : Hid (u.cell? ⟨pb, po + 9, none⟩ = some (.string x2.s)) := Lib.hid g21
  have G22 : Hid (u.cell? ⟨pb, po + 10, none⟩ = some (.slice na2 nn2 nc2)) := Lib.hid g22
  have G23 : Hid (u.cell? ⟨pb, po + 11, none⟩ = some (.slice la2 ln2 lc2)) := Lib.hid g23
  have HQ2 := Lib.hid (fun (c : List UInt8) (W : World) (hW : PR u b mb bare c W) (hc : c.length + (partT bare 4 (ptOf bare x2)).length ≤ 140737488355328) => prpart_c u b mb bare x2 4 na2 nn2 nc2 la2 ln2 lc2 c W (hx x2 (by simp)).2.1 (hx x2 (by simp)).2.2 (by decide) ha2 hW (hx x2 (by simp)).1 hc)
  obtain ⟨T2, hT2⟩ : ∃ T, partT bare 4 (ptOf bare x2) = T := ⟨_, rfl⟩
  rw [hT2] at hlen HQ2 ⊢
  clear hT2 ha2 g20 g21 g22 g23
  subst hla
  obtain rfl : 3 = ln := by simpa using hl
  obtain ⟨V1, h1, k1, l1, s1⟩ := alloc_step w 25 [.int .i64 k, .string s, .slice na nn nc, .slice (some ⟨pb, po, none⟩) 3 lc]
  have HV1 := Lib.hid h1
  have HP0 := Lib.hid (h.bel l1)
  have HT0 := Lib.hid (KeepT.of_bel (p := keepP) l1)
  have HK0 := Lib.hid k1
  have HL := Lib.hid hlen
  clear h1 k1 l1 s1 h hlen hp hx hnm hl hn
  go_enter Tryz.func57, Tryz.ntmps57
  go_upto_region 1 with fail
  rw [show w.alloc (.cells #[.int .i64 k, .string s, .slice na nn nc, .slice (some ⟨pb, po, none⟩) 3 lc] 25) = V1 from HV1.out]
  clear HV1
  have y3 := HK0.out.at 3
  have d00 := HP0.out.2.keep G00.out
  have d01 := HP0.out.2.keep G01.out
  have d02 := HP0.out.2.keep G02.out
  have d03 := HP0.out.2.keep G03.out
  go_wp2_with fail
  have HT := Lib.hid HT0.out
  have HK := Lib.hid HK0.out
  refine (HQ0.out _ _ HP0.out (by have := HL.out; simp [btsOf] at this ⊢; omega)).mono ?_
  rintro e0 w0 ⟨rfl, hp, ht⟩
  clear y3 d00 d01 d02 d03
  have HP1 := Lib.hid hp
  have HT1 := Lib.hid (HT.out.trans ht)
  have HK1 := Lib.hid (ht.blk HK.out keep_ex)
  clear hp ht HT HK HP0 HT0 HK0
  go_wp2_with fail
  obtain ⟨U1, h1, k1, l1, s1⟩ := alloc_step _ 9 [.string ⟨#[32, 98, 101, 116, 119, 101, 101, 110, 32]⟩]
  rw [h1]
  have HA := Lib.hid (add_c u b mb bare _ [⟨#[32, 98, 101, 116, 119, 101, 101, 110, 32]⟩] _ 1 U1 (HP1.out.bel l1) k1 rfl (by decide) (by have := HL.out; simp [btsOf] at this ⊢; omega))
  have HT := Lib.hid (HT1.out.trans (KeepT.of_bel (p := keepP) l1))
  have HK := Lib.hid (HK1.out.bel l1)
  clear h1 k1 l1 s1
  refine HA.out.mono ?_
  clear HA
  rintro e1 w1 ⟨rfl, hp, ht⟩
  have HP2 := Lib.hid hp
  have HT2 := Lib.hid (HT.out.trans ht)
  have HK2 := Lib.hid (ht.blk HK.out keep_ex)
  clear hp ht HT HK HP1 HT1 HK1
  have y3 := HK2.out.at 3
  have d10 := HP2.out.2.keep G10.out
  have d11 := HP2.out.2.keep G11.out
  have d12 := HP2.out.2.keep G12.out
  have d13 := HP2.out.2.keep G13.out
  go_wp2_with fail
  have HT := Lib.hid HT2.out
  have HK := Lib.hid HK2.out
  refine (HQ1.out _ _ HP2.out (by have := HL.out; simp [btsOf] at this ⊢; omega)).mono ?_
  rintro e2 w2 ⟨rfl, hp, ht⟩
  clear y3 d10 d11 d12 d13
  have HP3 := Lib.hid hp
  have HT3 := Lib.hid (HT.out.trans ht)
  have HK3 := Lib.hid (ht.blk HK.out keep_ex)
  clear hp ht HT HK HP2 HT2 HK2
  go_wp2_with fail
  obtain ⟨U1, h1, k1, l1, s1⟩ := alloc_step _ 9 [.string ⟨#[32, 97, 110, 100, 32]⟩]
  rw [h1]
  have HA := Lib.hid (add_c u b mb bare _ [⟨#[32, 97, 110, 100, 32]⟩] _ 1 U1 (HP3.out.bel l1) k1 rfl (by decide) (by have := HL.out; simp [btsOf] at this ⊢; omega))
  have HT := Lib.hid (HT3.out.trans (KeepT.of_bel (p := keepP) l1))
  have HK := Lib.hid (HK3.out.bel l1)
  clear h1 k1 l1 s1
  refine HA.out.mono ?_
  clear HA
  rintro e3 w3 ⟨rfl, hp, ht⟩
  have HP4 := Lib.hid hp
  have HT4 := Lib.hid (HT.out.trans ht)
  have HK4 := Lib.hid (ht.blk HK.out keep_ex)
  clear hp ht HT HK HP3 HT3 HK3
  have y3 := HK4.out.at 3
  have d20 := HP4.out.2.keep G20.out
  have d21 := HP4.out.2.keep G21.out
  have d22 := HP4.out.2.keep G22.out
  have d23 := HP4.out.2.keep G23.out
  go_wp2_with fail
  have HT := Lib.hid HT4.out
  have HK := Lib.hid HK4.out
  refine (HQ2.out _ _ HP4.out (by have := HL.out; simp [btsOf] at this ⊢; omega)).mono ?_
  rintro e4 w4 ⟨rfl, hp, ht⟩
  clear y3 d20 d21 d22 d23
  have HP5 := Lib.hid hp
  have HT5 := Lib.hid (HT.out.trans ht)
  have HK5 := Lib.hid (ht.blk HK.out keep_ex)
  clear hp ht HT HK HP4 HT4 HK4
  go_wp2_with fail
  go_end0
  exact ⟨rfl, by simpa [btsOf] using HP5.out, HT5.out⟩
set_option maxRecDepth 100000 in
set_option maxHeartbeats 4000000 in
theorem p_plain_c (u : World) (b mb : Nat) (bare : Bool) (k : Int) (s : ByteArray) (ns : List ByteArray) (na : Option Addr) (nn nc : Nat) (la : Option Addr) (ln lc : Nat) (bs : List UInt8) (w : World) (hs : s.size ≤ 1073741824) (hl : ([] : List Ex).length = ln) (hlc : ln ≤ lc) (hln : ln ≤ 1073741824) (hn : ns.length = nn) (hnn : nn ≤ 1073741824)
    (hp : PartsAt u la ([] : List Ex)) (hnm : NamesAt u na ns) (hx : ∀ x ∈ ([] : List Ex), PartOk u b mb bare x) (h : PR u b mb bare bs w) (hlen : bs.length + (btsOf s).length ≤ 140737488355328) :
    Calls Tryz.prog 53 #[.pointer (some ⟨b, 0, none⟩), .agg #[.int .i64 k, .string s, .slice na nn nc, .slice la ln lc]] w (RetP u b mb bare (bs ++ (btsOf s)) w) := by
  obtain ⟨V1, h1, k1, l1, s1⟩ := alloc_step w 25 [.int .i64 k, .string s, .slice na nn nc, .slice la ln lc]
  have HV1 := Lib.hid h1
  have HP0 := Lib.hid (h.bel l1)
  have HT0 := Lib.hid (KeepT.of_bel (p := keepP) l1)
  have HK0 := Lib.hid k1
  have HL := Lib.hid hlen
  clear h1 k1 l1 s1 h hlen hp hx hnm hl hn
  go_enter Tryz.func53, Tryz.ntmps53
  go_upto_region 1 with fail
  rw [show w.alloc (.cells #[.int .i64 k, .string s, .slice na nn nc, .slice la ln lc] 25) = V1 from HV1.out]
  clear HV1
  have y1 := HK0.out.at 1
  go_wp2_with fail
  obtain ⟨U1, h1, k1, l1, s1⟩ := alloc_step _ 9 [.string s]
  rw [h1]
  have HA := Lib.hid (add_c u b mb bare _ [s] _ 1 U1 (HP0.out.bel l1) k1 rfl (by decide) (by have := HL.out; simp [btsOf] at this ⊢; omega))
  have HT := Lib.hid (HT0.out.trans (KeepT.of_bel (p := keepP) l1))
  have HK := Lib.hid (HK0.out.bel l1)
  clear h1 k1 l1 s1
  refine HA.out.mono ?_
  clear HA
  rintro e0 w0 ⟨rfl, hp, ht⟩
  clear y1
  have HP1 := Lib.hid hp
  have HT1 := Lib.hid (HT.out.trans ht)
  have HK1 := Lib.hid (ht.blk HK.out keep_ex)
  clear hp ht HT HK HP0 HT0 HK0
  go_wp2_with fail
  go_end0
  exact ⟨rfl, by simpa [btsOf] using HP1.out, HT1.out⟩
end Go.Proofs.YtpenfnabeckboaaGreatDoor
