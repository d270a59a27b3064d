/-
  feelprint: the printer's call, in, and two parts with a sign between.
-/
import Derived.Test.YtpenfnabeckboaaGreatDoorFPI
namespace Go.Proofs.YtpenfnabeckboaaGreatDoor
open Go.RowKit

theorem tail_at {W : World} {pb po ln lc : Nat} {x0 : Ex} {r : List Ex} (hp : PartsAt W (some ⟨pb, po, none⟩) (x0 :: r)) (hl : (x0 :: r).length = ln) (hlc : ln ≤ lc) : PartsAt W (if lc = 1 then some ⟨pb, po, none⟩ else some ⟨pb, po + 4, none⟩) r := by
  by_cases h1 : lc = 1
  · have hr : r = [] := List.eq_nil_of_length_eq_zero (by simp at hl; omega)
    subst hr
    intro j x hx
    cases hx
  · rw [if_neg h1]
    intro j x hx
    obtain ⟨na, nn, nc, la, l, c, h⟩ := parts_at hp rfl (j := j + 1) (x := x) hx
    refine ⟨pb, po + 4, na, nn, nc, la, l, c, rfl, ?_⟩
    rw [show po + 4 + j * 4 = po + (j + 1) * 4 from by omega]
    exact h
set_option maxRecDepth 100000 in
set_option maxHeartbeats 4000000 in
theorem p_call_c (u : World) (b mb : Nat) (bare : Bool) (k : Int) (s : ByteArray) (ns : List ByteArray) (x0 : Ex) (r : List Ex) (na : Option Addr) (nn nc : Nat) (la : Option Addr) (ln lc : Nat) (bs : List UInt8) (w : World) (hs : s.size ≤ 1073741824) (hl : (x0 :: r).length = ln) (hlc : ln ≤ lc) (hln : ln ≤ 1073741824) (hn : ns.length = nn) (hnn : nn ≤ 1073741824)
    (hp : PartsAt u la (x0 :: r)) (hnm : NamesAt u na ns) (hx : ∀ x ∈ (x0 :: r), PartOk u b mb bare x) (h : PR u b mb bare bs w) (hlen : bs.length + (partT bare 8 (ptOf bare x0) ++ [40] ++ listT bare [] 0 (r.map (ptOf bare)) ++ [41]).length ≤ 140737488355328) :
    Calls Tryz.prog 61 #[.pointer (some ⟨b, 0, none⟩), .agg #[.int .i64 k, .string s, .slice na nn nc, .slice la ln lc]] w (RetP u b mb bare (bs ++ (partT bare 8 (ptOf bare x0) ++ [40] ++ listT bare [] 0 (r.map (ptOf bare)) ++ [41])) w) := by
  by_cases hl1 : lc = 1
  · obtain ⟨pb, po, hla⟩ : ∃ pb po, la = some ⟨pb, po, none⟩ := by obtain ⟨pb, po, _, _, _, _, _, _, h, _⟩ := hp 0 x0 rfl; exact ⟨pb, po, h⟩
    obtain ⟨na0, nn0, nc0, la0, ln0, lc0, g00, g01, g02, g03, ha0⟩ := parts_at hp hla (j := 0) (x := x0) rfl
    have G00 : Hid (u.cell? ⟨pb, po, none⟩ = some (.int .i64 x0.k)) := Lib.hid g00
    have G01 : Hid (u.cell? ⟨pb, po + 1, none⟩ = some (.string x0.s)) := Lib.hid g01
    have G02 : Hid (u.cell? ⟨pb, po + 2, none⟩ = some (.slice na0 nn0 nc0)) := Lib.hid g02
    have G03 : Hid (u.cell? ⟨pb, po + 3, none⟩ = some (.slice la0 ln0 lc0)) := Lib.hid g03
    have HQ0 := Lib.hid (fun (c : List UInt8) (W : World) (hW : PR u b mb bare c W) (hc : c.length + (partT bare 8 (ptOf bare x0)).length ≤ 140737488355328) => prpart_c u b mb bare x0 8 na0 nn0 nc0 la0 ln0 lc0 c W (hx x0 (by simp)).2.1 (hx x0 (by simp)).2.2 (by decide) ha0 hW (hx x0 (by simp)).1 hc)
    obtain ⟨T0, hT0⟩ : ∃ T, partT bare 8 (ptOf bare x0) = T := ⟨_, rfl⟩
    rw [hT0] at hlen HQ0 ⊢
    clear hT0 ha0 g00 g01 g02 g03
    have HLI := Lib.hid (fun (c : List UInt8) (W : World) (hW : PR u b mb bare c W) (hc : c.length + (listT bare [] 0 (r.map (ptOf bare))).length ≤ 140737488355328) => list_c u b mb bare r [] (some ⟨pb, po, none⟩) none (ln - 1) (lc - 1) 0 0 c W (by simp at hl; omega) (by omega) rfl (by decide) (by have h := tail_at (hla ▸ hp) hl hlc; rw [if_pos hl1] at h; exact h) (fun j x h => by simp at h) (fun x hm => hx x (by simp [hm])) hW hc)
    obtain ⟨TR', hTR⟩ : ∃ T, listT bare [] 0 (r.map (ptOf bare)) = T := ⟨_, rfl⟩
    rw [hTR] at hlen HLI ⊢
    clear hTR
    subst hla
    subst hl1
    obtain rfl : 1 = ln := by simp at hl; omega
    obtain ⟨V1, h1, k1, l1, s1⟩ := alloc_step w 25 [.int .i64 k, .string s, .slice na nn nc, .slice (some ⟨pb, po, none⟩) 1 1]
    have HV1 := Lib.hid h1
    have HP0 := Lib.hid (h.bel l1)
    have HT0 := Lib.hid (KeepT.of_bel (p := keepP) l1)
    have HK0 := Lib.hid k1
    have HL := Lib.hid hlen
    clear h1 k1 l1 s1 h hlen hp hx hnm hl hn
    go_enter Tryz.func61, Tryz.ntmps61
    go_upto_region 1 with fail
    rw [show w.alloc (.cells #[.int .i64 k, .string s, .slice na nn nc, .slice (some ⟨pb, po, none⟩) 1 1] 25) = V1 from HV1.out]
    clear HV1
    have y3 := HK0.out.at 3
    have d00 := HP0.out.2.keep G00.out
    have d01 := HP0.out.2.keep G01.out
    have d02 := HP0.out.2.keep G02.out
    have d03 := HP0.out.2.keep G03.out
    go_wp2_with fail
    have HT := Lib.hid HT0.out
    have HK := Lib.hid HK0.out
    refine (HQ0.out _ _ HP0.out (by have := HL.out; simp [btsOf] at this ⊢; omega)).mono ?_
    rintro e0 w0 ⟨rfl, hp, ht⟩
    clear y3 d00 d01 d02 d03
    have HP1 := Lib.hid hp
    have HT1 := Lib.hid (HT.out.trans ht)
    have HK1 := Lib.hid (ht.blk HK.out keep_ex)
    clear hp ht HT HK HP0 HT0 HK0
    go_wp2_with fail
    obtain ⟨U1, h1, k1, l1, s1⟩ := alloc_step _ 9 [.string ⟨#[40]⟩]
    rw [h1]
    have HA := Lib.hid (add_c u b mb bare _ [⟨#[40]⟩] _ 1 U1 (HP1.out.bel l1) k1 rfl (by decide) (by have := HL.out; simp [btsOf] at this ⊢; omega))
    have HT := Lib.hid (HT1.out.trans (KeepT.of_bel (p := keepP) l1))
    have HK := Lib.hid (HK1.out.bel l1)
    clear h1 k1 l1 s1
    refine HA.out.mono ?_
    clear HA
    rintro e1 w1 ⟨rfl, hp, ht⟩
    have HP2 := Lib.hid hp
    have HT2 := Lib.hid (HT.out.trans ht)
    have HK2 := Lib.hid (ht.blk HK.out keep_ex)
    clear hp ht HT HK HP1 HT1 HK1
    have y3 := HK2.out.at 3
    go_wp2_with fail
    have HT := Lib.hid HT2.out
    have HK := Lib.hid HK2.out
    refine (HLI.out _ _ HP2.out (by have := HL.out; simp [btsOf] at this ⊢; omega)).mono ?_
    rintro e2 w2 ⟨rfl, hp, ht⟩
    clear y3
    have HP3 := Lib.hid hp
    have HT3 := Lib.hid (HT.out.trans ht)
    have HK3 := Lib.hid (ht.blk HK.out keep_ex)
    clear hp ht HT HK HP2 HT2 HK2
    go_wp2_with fail
    obtain ⟨U1, h1, k1, l1, s1⟩ := alloc_step _ 9 [.string ⟨#[41]⟩]
    rw [h1]
    have HA := Lib.hid (add_c u b mb bare _ [⟨#[41]⟩] _ 1 U1 (HP3.out.bel l1) k1 rfl (by decide) (by have := HL.out; simp [btsOf] at this ⊢; omega))
    have HT := Lib.hid (HT3.out.trans (KeepT.of_bel (p := keepP) l1))
    have HK := Lib.hid (HK3.out.bel l1)
    clear h1 k1 l1 s1
    refine HA.out.mono ?_
    clear HA
    rintro e3 w3 ⟨rfl, hp, ht⟩
    have HP4 := Lib.hid hp
    have HT4 := Lib.hid (HT.out.trans ht)
    have HK4 := Lib.hid (ht.blk HK.out keep_ex)
    clear hp ht HT HK HP3 HT3 HK3
    go_wp2_with fail
    go_end0
    exact ⟨rfl, by simpa [btsOf] using HP4.out, HT4.out⟩
  · obtain ⟨pb, po, hla⟩ : ∃ pb po, la = some ⟨pb, po, none⟩ := by obtain ⟨pb, po, _, _, _, _, _, _, h, _⟩ := hp 0 x0 rfl; exact ⟨pb, po, h⟩
    obtain ⟨na0, nn0, nc0, la0, ln0, lc0, g00, g01, g02, g03, ha0⟩ := parts_at hp hla (j := 0) (x := x0) rfl
    have G00 : Hid (u.cell? ⟨pb, po, none⟩ = some (.int .i64 x0.k)) := Lib.hid g00
    have G01 : Hid (u.cell? ⟨pb, po + 1, none⟩ = some (.string x0.s)) := Lib.hid g01
    have G02 : Hid (u.cell? ⟨pb, po + 2, none⟩ = some (.slice na0 nn0 nc0)) := Lib.hid g02
    have G03 : Hid (u.cell? ⟨pb, po + 3, none⟩ = some (.slice la0 ln0 lc0)) := Lib.hid g03
    have HQ0 := Lib.hid (fun (c : List UInt8) (W : World) (hW : PR u b mb bare c W) (hc : c.length + (partT bare 8 (ptOf bare x0)).length ≤ 140737488355328) => prpart_c u b mb bare x0 8 na0 nn0 nc0 la0 ln0 lc0 c W (hx x0 (by simp)).2.1 (hx x0 (by simp)).2.2 (by decide) ha0 hW (hx x0 (by simp)).1 hc)
    obtain ⟨T0, hT0⟩ : ∃ T, partT bare 8 (ptOf bare x0) = T := ⟨_, rfl⟩
    rw [hT0] at hlen HQ0 ⊢
    clear hT0 ha0 g00 g01 g02 g03
    have HLI := Lib.hid (fun (c : List UInt8) (W : World) (hW : PR u b mb bare c W) (hc : c.length + (listT bare [] 0 (r.map (ptOf bare))).length ≤ 140737488355328) => list_c u b mb bare r [] (some ⟨pb, po + 4, none⟩) none (ln - 1) (lc - 1) 0 0 c W (by simp at hl; omega) (by omega) rfl (by decide) (by have h := tail_at (hla ▸ hp) hl hlc; rw [if_neg hl1] at h; exact h) (fun j x h => by simp at h) (fun x hm => hx x (by simp [hm])) hW hc)
    obtain ⟨TR', hTR⟩ : ∃ T, listT bare [] 0 (r.map (ptOf bare)) = T := ⟨_, rfl⟩
    rw [hTR] at hlen HLI ⊢
    clear hTR
    subst hla
    have hln1 : 1 ≤ ln := by simp at hl; omega
    obtain ⟨V1, h1, k1, l1, s1⟩ := alloc_step w 25 [.int .i64 k, .string s, .slice na nn nc, .slice (some ⟨pb, po, none⟩) ln lc]
    have HV1 := Lib.hid h1
    have HP0 := Lib.hid (h.bel l1)
    have HT0 := Lib.hid (KeepT.of_bel (p := keepP) l1)
    have HK0 := Lib.hid k1
    have HL := Lib.hid hlen
    clear h1 k1 l1 s1 h hlen hp hx hnm hl hn
    go_enter Tryz.func61, Tryz.ntmps61
    go_upto_region 1 with fail
    rw [show w.alloc (.cells #[.int .i64 k, .string s, .slice na nn nc, .slice (some ⟨pb, po, none⟩) ln lc] 25) = V1 from HV1.out]
    clear HV1
    have y3 := HK0.out.at 3
    have d00 := HP0.out.2.keep G00.out
    have d01 := HP0.out.2.keep G01.out
    have d02 := HP0.out.2.keep G02.out
    have d03 := HP0.out.2.keep G03.out
    go_wp2_with fail
    have HT := Lib.hid HT0.out
    have HK := Lib.hid HK0.out
    refine (HQ0.out _ _ HP0.out (by have := HL.out; simp [btsOf] at this ⊢; omega)).mono ?_
    rintro e0 w0 ⟨rfl, hp, ht⟩
    clear y3 d00 d01 d02 d03
    have HP1 := Lib.hid hp
    have HT1 := Lib.hid (HT.out.trans ht)
    have HK1 := Lib.hid (ht.blk HK.out keep_ex)
    clear hp ht HT HK HP0 HT0 HK0
    go_wp2_with fail
    obtain ⟨U1, h1, k1, l1, s1⟩ := alloc_step _ 9 [.string ⟨#[40]⟩]
    rw [h1]
    have HA := Lib.hid (add_c u b mb bare _ [⟨#[40]⟩] _ 1 U1 (HP1.out.bel l1) k1 rfl (by decide) (by have := HL.out; simp [btsOf] at this ⊢; omega))
    have HT := Lib.hid (HT1.out.trans (KeepT.of_bel (p := keepP) l1))
    have HK := Lib.hid (HK1.out.bel l1)
    clear h1 k1 l1 s1
    refine HA.out.mono ?_
    clear HA
    rintro e1 w1 ⟨rfl, hp, ht⟩
    have HP2 := Lib.hid hp
    have HT2 := Lib.hid (HT.out.trans ht)
    have HK2 := Lib.hid (ht.blk HK.out keep_ex)
    clear hp ht HT HK HP1 HT1 HK1
    have y3 := HK2.out.at 3
    go_wp2_with fail
    have HT := Lib.hid HT2.out
    have HK := Lib.hid HK2.out
    refine (HLI.out _ _ HP2.out (by have := HL.out; simp [btsOf] at this ⊢; omega)).mono ?_
    rintro e2 w2 ⟨rfl, hp, ht⟩
    clear y3
    have HP3 := Lib.hid hp
    have HT3 := Lib.hid (HT.out.trans ht)
    have HK3 := Lib.hid (ht.blk HK.out keep_ex)
    clear hp ht HT HK HP2 HT2 HK2
    go_wp2_with fail
    obtain ⟨U1, h1, k1, l1, s1⟩ := alloc_step _ 9 [.string ⟨#[41]⟩]
    rw [h1]
    have HA := Lib.hid (add_c u b mb bare _ [⟨#[41]⟩] _ 1 U1 (HP3.out.bel l1) k1 rfl (by decide) (by have := HL.out; simp [btsOf] at this ⊢; omega))
    have HT := Lib.hid (HT3.out.trans (KeepT.of_bel (p := keepP) l1))
    have HK := Lib.hid (HK3.out.bel l1)
    clear h1 k1 l1 s1
    refine HA.out.mono ?_
    clear HA
    rintro e3 w3 ⟨rfl, hp, ht⟩
    have HP4 := Lib.hid hp
    have HT4 := Lib.hid (HT.out.trans ht)
    have HK4 := Lib.hid (ht.blk HK.out keep_ex)
    clear hp ht HT HK HP3 HT3 HK3
    go_wp2_with fail
    go_end0
    exact ⟨rfl, by simpa [btsOf] using HP4.out, HT4.out⟩
set_option maxRecDepth 100000 in
set_option maxHeartbeats 4000000 in
theorem p_in_c (u : World) (b mb : Nat) (bare : Bool) (k : Int) (s : ByteArray) (ns : List ByteArray) (x0 x1 : Ex) (na : Option Addr) (nn nc : Nat) (la : Option Addr) (ln lc : Nat) (bs : List UInt8) (w : World) (hs : s.size ≤ 1073741824) (hl : ([x0, x1] : List Ex).length = ln) (hlc : ln ≤ lc) (hln : ln ≤ 1073741824) (hn : ns.length = nn) (hnn : nn ≤ 1073741824)
    (hp : PartsAt u la ([x0, x1] : List Ex)) (hnm : NamesAt u na ns) (hx : ∀ x ∈ ([x0, x1] : List Ex), PartOk u b mb bare x) (h : PR u b mb bare bs w) (hlen : bs.length + (partT bare 4 (ptOf bare x0) ++ [32, 105, 110, 32] ++ (if x1.k = 19 then prE qB bare x1 else partT bare 4 (ptOf bare x1))).length ≤ 140737488355328) :
    Calls Tryz.prog 58 #[.pointer (some ⟨b, 0, none⟩), .agg #[.int .i64 k, .string s, .slice na nn nc, .slice la ln lc]] w (RetP u b mb bare (bs ++ (partT bare 4 (ptOf bare x0) ++ [32, 105, 110, 32] ++ (if x1.k = 19 then prE qB bare x1 else partT bare 4 (ptOf bare x1)))) w) := by
  by_cases hk19 : x1.k = 19
  · rw [if_pos hk19] at hlen ⊢
    obtain ⟨pb, po, hla⟩ : ∃ pb po, la = some ⟨pb, po, none⟩ := by obtain ⟨pb, po, _, _, _, _, _, _, h, _⟩ := hp 0 x0 rfl; exact ⟨pb, po, h⟩
    obtain ⟨na0, nn0, nc0, la0, ln0, lc0, g00, g01, g02, g03, ha0⟩ := parts_at hp hla (j := 0) (x := x0) rfl
    have G00 : Hid (u.cell? ⟨pb, po, none⟩ = some (.int .i64 x0.k)) := Lib.hid g00
    have G01 : Hid (u.cell? ⟨pb, po + 1, none⟩ = some (.string x0.s)) := Lib.hid g01
    have G02 : Hid (u.cell? ⟨pb, po + 2, none⟩ = some (.slice na0 nn0 nc0)) := Lib.hid g02
    have G03 : Hid (u.cell? ⟨pb, po + 3, none⟩ = some (.slice la0 ln0 lc0)) := Lib.hid g03
    have HQ0 := Lib.hid (fun (c : List UInt8) (W : World) (hW : PR u b mb bare c W) (hc : c.length + (partT bare 4 (ptOf bare x0)).length ≤ 140737488355328) => prpart_c u b mb bare x0 4 na0 nn0 nc0 la0 ln0 lc0 c W (hx x0 (by simp)).2.1 (hx x0 (by simp)).2.2 (by decide) ha0 hW (hx x0 (by simp)).1 hc)
    obtain ⟨T0, hT0⟩ : ∃ T, partT bare 4 (ptOf bare x0) = T := ⟨_, rfl⟩
    rw [hT0] at hlen HQ0 ⊢
    clear hT0 ha0 g00 g01 g02 g03
    obtain ⟨na1, nn1, nc1, la1, ln1, lc1, g10, g11, g12, g13, ha1⟩ := parts_at hp hla (j := 1) (x := x1) rfl
    have G10 : Hid (u.cell? ⟨pb, po + 4, none⟩ = some (.int .i64 x1.k)) := Lib.hid g10
    have G11 : Hid (u.cell? ⟨pb, po + 5, none⟩ = some (.string x1.s)) := Lib.hid g11
    have G12 : Hid (u.cell? ⟨pb, po + 6, none⟩ = some (.slice na1 nn1 nc1)) := Lib.hid g12
    have G13 : Hid (u.cell? ⟨pb, po + 7, none⟩ = some (.slice la1 ln1 lc1)) := Lib.hid g13
    clear g10 g11 g12 g13
    subst hla
    obtain rfl : 2 = ln := by simpa using hl
    have HX1 := Lib.hid (hx x1 (by simp))
    have hkb : (x1.k == 19) = true := by rw [hk19]; rfl
    clear hk19
    obtain ⟨V1, h1, k1, l1, s1⟩ := alloc_step w 25 [.int .i64 k, .string s, .slice na nn nc, .slice (some ⟨pb, po, none⟩) 2 lc]
    have HV1 := Lib.hid h1
    have HP0 := Lib.hid (h.bel l1)
    have HT0 := Lib.hid (KeepT.of_bel (p := keepP) l1)
    have HK0 := Lib.hid k1
    have HL := Lib.hid hlen
    clear h1 k1 l1 s1 h hlen hp hx hnm hl hn
    go_enter Tryz.func58, Tryz.ntmps58
    go_upto_region 1 with fail
    rw [show w.alloc (.cells #[.int .i64 k, .string s, .slice na nn nc, .slice (some ⟨pb, po, none⟩) 2 lc] 25) = V1 from HV1.out]
    clear HV1
    have y3 := HK0.out.at 3
    have d00 := HP0.out.2.keep G00.out
    have d01 := HP0.out.2.keep G01.out
    have d02 := HP0.out.2.keep G02.out
    have d03 := HP0.out.2.keep G03.out
    go_wp2_with fail
    have HT := Lib.hid HT0.out
    have HK := Lib.hid HK0.out
    refine (HQ0.out _ _ HP0.out (by have := HL.out; simp [btsOf] at this ⊢; omega)).mono ?_
    rintro e0 w0 ⟨rfl, hp, ht⟩
    clear y3 d00 d01 d02 d03
    have HP1 := Lib.hid hp
    have HT1 := Lib.hid (HT.out.trans ht)
    have HK1 := Lib.hid (ht.blk HK.out keep_ex)
    clear hp ht HT HK HP0 HT0 HK0
    go_wp2_with fail
    obtain ⟨U1, h1, k1, l1, s1⟩ := alloc_step _ 9 [.string ⟨#[32, 105, 110, 32]⟩]
    rw [h1]
    have HA := Lib.hid (add_c u b mb bare _ [⟨#[32, 105, 110, 32]⟩] _ 1 U1 (HP1.out.bel l1) k1 rfl (by decide) (by have := HL.out; simp [btsOf] at this ⊢; omega))
    have HT := Lib.hid (HT1.out.trans (KeepT.of_bel (p := keepP) l1))
    have HK := Lib.hid (HK1.out.bel l1)
    clear h1 k1 l1 s1
    refine HA.out.mono ?_
    clear HA
    rintro e1 w1 ⟨rfl, hp, ht⟩
    have HP2 := Lib.hid hp
    have HT2 := Lib.hid (HT.out.trans ht)
    have HK2 := Lib.hid (ht.blk HK.out keep_ex)
    clear hp ht HT HK HP1 HT1 HK1
    have y3 := HK2.out.at 3
    have d10 := HP2.out.2.keep G10.out
    have d11 := HP2.out.2.keep G11.out
    have d12 := HP2.out.2.keep G12.out
    have d13 := HP2.out.2.keep G13.out
    go_wp2_with fail
    have HT := Lib.hid HT2.out
    have HK := Lib.hid HK2.out
    refine (HX1.out.1 na1 nn1 nc1 la1 ln1 lc1 _ _ ha1 HP2.out (by have := HL.out; simp [btsOf] at this ⊢; omega)).mono ?_
    rintro e2 w2 ⟨rfl, hp, ht⟩
    clear y3 d10 d11 d12 d13
    have HP3 := Lib.hid hp
    have HT3 := Lib.hid (HT.out.trans ht)
    have HK3 := Lib.hid (ht.blk HK.out keep_ex)
    clear hp ht HT HK HP2 HT2 HK2
    go_wp2_with fail
    go_end0
    exact ⟨rfl, by simpa [btsOf] using HP3.out, HT3.out⟩
  · rw [if_neg hk19] at hlen ⊢
    obtain ⟨pb, po, hla⟩ : ∃ pb po, la = some ⟨pb, po, none⟩ := by obtain ⟨pb, po, _, _, _, _, _, _, h, _⟩ := hp 0 x0 rfl; exact ⟨pb, po, h⟩
    obtain ⟨na0, nn0, nc0, la0, ln0, lc0, g00, g01, g02, g03, ha0⟩ := parts_at hp hla (j := 0) (x := x0) rfl
    have G00 : Hid (u.cell? ⟨pb, po, none⟩ = some (.int .i64 x0.k)) := Lib.hid g00
    have G01 : Hid (u.cell? ⟨pb, po + 1, none⟩ = some (.string x0.s)) := Lib.hid g01
    have G02 : Hid (u.cell? ⟨pb, po + 2, none⟩ = some (.slice na0 nn0 nc0)) := Lib.hid g02
    have G03 : Hid (u.cell? ⟨pb, po + 3, none⟩ = some (.slice la0 ln0 lc0)) := Lib.hid g03
    have HQ0 := Lib.hid (fun (c : List UInt8) (W : World) (hW : PR u b mb bare c W) (hc : c.length + (partT bare 4 (ptOf bare x0)).length ≤ 140737488355328) => prpart_c u b mb bare x0 4 na0 nn0 nc0 la0 ln0 lc0 c W (hx x0 (by simp)).2.1 (hx x0 (by simp)).2.2 (by decide) ha0 hW (hx x0 (by simp)).1 hc)
    obtain ⟨T0, hT0⟩ : ∃ T, partT bare 4 (ptOf bare x0) = T := ⟨_, rfl⟩
    rw [hT0] at hlen HQ0 ⊢
    clear hT0 ha0 g00 g01 g02 g03
    obtain ⟨na1, nn1, nc1, la1, ln1, lc1, g10, g11, g12, g13, ha1⟩ := parts_at hp hla (j := 1) (x := x1) rfl
    have G10 : Hid (u.cell? ⟨pb, po + 4, none⟩ = some (.int .i64 x1.k)) := Lib.hid g10
    have G11 : Hid (u.cell? ⟨pb, po + 5, none⟩ = some (.string x1.s)) := Lib.hid g11
    have G12 : Hid (u.cell? ⟨pb, po + 6, none⟩ = some (.slice na1 nn1 nc1)) := Lib.hid g12
    have G13 : Hid (u.cell? ⟨pb, po + 7, none⟩ = some (.slice la1 ln1 lc1)) := Lib.hid g13
    clear g10 g11 g12 g13
    subst hla
    obtain rfl : 2 = ln := by simpa using hl
    have HX1 := Lib.hid (hx x1 (by simp))
    have hkb : (x1.k == 19) = false := beq_eq_false_iff_ne.2 hk19
    clear hk19
    obtain ⟨V1, h1, k1, l1, s1⟩ := alloc_step w 25 [.int .i64 k, .string s, .slice na nn nc, .slice (some ⟨pb, po, none⟩) 2 lc]
    have HV1 := Lib.hid h1
    have HP0 := Lib.hid (h.bel l1)
    have HT0 := Lib.hid (KeepT.of_bel (p := keepP) l1)
    have HK0 := Lib.hid k1
    have HL := Lib.hid hlen
    clear h1 k1 l1 s1 h hlen hp hx hnm hl hn
    go_enter Tryz.func58, Tryz.ntmps58
    go_upto_region 1 with fail
    rw [show w.alloc (.cells #[.int .i64 k, .string s, .slice na nn nc, .slice (some ⟨pb, po, none⟩) 2 lc] 25) = V1 from HV1.out]
    clear HV1
    have y3 := HK0.out.at 3
    have d00 := HP0.out.2.keep G00.out
    have d01 := HP0.out.2.keep G01.out
    have d02 := HP0.out.2.keep G02.out
    have d03 := HP0.out.2.keep G03.out
    go_wp2_with fail
    have HT := Lib.hid HT0.out
    have HK := Lib.hid HK0.out
    refine (HQ0.out _ _ HP0.out (by have := HL.out; simp [btsOf] at this ⊢; omega)).mono ?_
    rintro e0 w0 ⟨rfl, hp, ht⟩
    clear y3 d00 d01 d02 d03
    have HP1 := Lib.hid hp
    have HT1 := Lib.hid (HT.out.trans ht)
    have HK1 := Lib.hid (ht.blk HK.out keep_ex)
    clear hp ht HT HK HP0 HT0 HK0
    go_wp2_with fail
    obtain ⟨U1, h1, k1, l1, s1⟩ := alloc_step _ 9 [.string ⟨#[32, 105, 110, 32]⟩]
    rw [h1]
    have HA := Lib.hid (add_c u b mb bare _ [⟨#[32, 105, 110, 32]⟩] _ 1 U1 (HP1.out.bel l1) k1 rfl (by decide) (by have := HL.out; simp [btsOf] at this ⊢; omega))
    have HT := Lib.hid (HT1.out.trans (KeepT.of_bel (p := keepP) l1))
    have HK := Lib.hid (HK1.out.bel l1)
    clear h1 k1 l1 s1
    refine HA.out.mono ?_
    clear HA
    rintro e1 w1 ⟨rfl, hp, ht⟩
    have HP2 := Lib.hid hp
    have HT2 := Lib.hid (HT.out.trans ht)
    have HK2 := Lib.hid (ht.blk HK.out keep_ex)
    clear hp ht HT HK HP1 HT1 HK1
    have y3 := HK2.out.at 3
    have d10 := HP2.out.2.keep G10.out
    have d11 := HP2.out.2.keep G11.out
    have d12 := HP2.out.2.keep G12.out
    have d13 := HP2.out.2.keep G13.out
    go_wp2_with fail
    have HT := Lib.hid HT2.out
    have HK := Lib.hid HK2.out
    refine (prpart_c u b mb bare x1 4 na1 nn1 nc1 la1 ln1 lc1 _ _ HX1.out.2.1 HX1.out.2.2 (by decide) ha1 HP2.out HX1.out.1 (by have := HL.out; simp [btsOf] at this ⊢; omega)).mono ?_
    rintro e2 w2 ⟨rfl, hp, ht⟩
    clear y3 d10 d11 d12 d13
    have HP3 := Lib.hid hp
    have HT3 := Lib.hid (HT.out.trans ht)
    have HK3 := Lib.hid (ht.blk HK.out keep_ex)
    clear hp ht HT HK HP2 HT2 HK2
    go_wp2_with fail
    go_end0
    exact ⟨rfl, by simpa [btsOf] using HP3.out, HT3.out⟩
set_option maxRecDepth 100000 in
set_option maxHeartbeats 4000000 in
theorem p_bin_c (u : World) (b mb : Nat) (bare : Bool) (k : Int) (s : ByteArray) (ns : List ByteArray) (x0 x1 : Ex) (na : Option Addr) (nn nc : Nat) (la : Option Addr) (ln lc : Nat) (bs : List UInt8) (w : World) (hs : s.size ≤ 1073741824) (hl : ([x0, x1] : List Ex).length = ln) (hlc : ln ≤ lc) (hln : ln ≤ 1073741824) (hn : ns.length = nn) (hnn : nn ≤ 1073741824) (hsg : SgAt u mb)
    (hp : PartsAt u la ([x0, x1] : List Ex)) (hnm : NamesAt u na ns) (hx : ∀ x ∈ ([x0, x1] : List Ex), PartOk u b mb bare x) (h : PR u b mb bare bs w) (hlen : bs.length + ((partT bare (if (signLv s).getD 0 = 3 then 4 else (signLv s).getD 0) (ptOf bare x0) ++ ([32] ++ btsOf s ++ [32])) ++ partT bare ((signLv s).getD 0 + 1) (ptOf bare x1)).length ≤ 140737488355328) :
    Calls Tryz.prog 56 #[.pointer (some ⟨b, 0, none⟩), .agg #[.int .i64 k, .string s, .slice na nn nc, .slice la ln lc]] w (RetP u b mb bare (bs ++ ((partT bare (if (signLv s).getD 0 = 3 then 4 else (signLv s).getD 0) (ptOf bare x0) ++ ([32] ++ btsOf s ++ [32])) ++ partT bare ((signLv s).getD 0 + 1) (ptOf bare x1))) w) := by
  by_cases h3 : (signLv s).getD 0 = 3
  · rw [if_pos h3] at hlen ⊢
    obtain ⟨pb, po, hla⟩ : ∃ pb po, la = some ⟨pb, po, none⟩ := by obtain ⟨pb, po, _, _, _, _, _, _, h, _⟩ := hp 0 x0 rfl; exact ⟨pb, po, h⟩
    obtain ⟨na0, nn0, nc0, la0, ln0, lc0, g00, g01, g02, g03, ha0⟩ := parts_at hp hla (j := 0) (x := x0) rfl
    have G00 : Hid (u.cell? ⟨pb, po, none⟩ = some (.int .i64 x0.k)) := Lib.hid g00
    have G01 : Hid (u.cell? ⟨pb, po + 1, none⟩ = some (.string x0.s)) := Lib.hid g01
    have G02 : Hid (u.cell? ⟨pb, po + 2, none⟩ = some (.slice na0 nn0 nc0)) := Lib.hid g02
    have G03 : Hid (u.cell? ⟨pb, po + 3, none⟩ = some (.slice la0 ln0 lc0)) := Lib.hid g03
    have HQ0 := Lib.hid (fun (c : List UInt8) (W : World) (hW : PR u b mb bare c W) (hc : c.length + (partT bare 4 (ptOf bare x0)).length ≤ 140737488355328) => prpart_c u b mb bare x0 4 na0 nn0 nc0 la0 ln0 lc0 c W (hx x0 (by simp)).2.1 (hx x0 (by simp)).2.2 (by have := signLv_le s; omega) ha0 hW (hx x0 (by simp)).1 hc)
    obtain ⟨T0, hT0⟩ : ∃ T, partT bare 4 (ptOf bare x0) = T := ⟨_, rfl⟩
    rw [hT0] at hlen HQ0 ⊢
    clear hT0 ha0 g00 g01 g02 g03
    obtain ⟨na1, nn1, nc1, la1, ln1, lc1, g10, g11, g12, g13, ha1⟩ := parts_at hp hla (j := 1) (x := x1) rfl
    have G10 : Hid (u.cell? ⟨pb, po + 4, none⟩ = some (.int .i64 x1.k)) := Lib.hid g10
    have G11 : Hid (u.cell? ⟨pb, po + 5, none⟩ = some (.string x1.s)) := Lib.hid g11
    have G12 : Hid (u.cell? ⟨pb, po + 6, none⟩ = some (.slice na1 nn1 nc1)) := Lib.hid g12
    have G13 : Hid (u.cell? ⟨pb, po + 7, none⟩ = some (.slice la1 ln1 lc1)) := Lib.hid g13
    have HQ1 := Lib.hid (fun (c : List UInt8) (W : World) (hW : PR u b mb bare c W) (hc : c.length + (partT bare ((signLv s).getD 0 + 1) (ptOf bare x1)).length ≤ 140737488355328) => prpart_c u b mb bare x1 ((signLv s).getD 0 + 1) na1 nn1 nc1 la1 ln1 lc1 c W (hx x1 (by simp)).2.1 (hx x1 (by simp)).2.2 (by have := signLv_le s; omega) ha1 hW (hx x1 (by simp)).1 hc)
    obtain ⟨T1, hT1⟩ : ∃ T, partT bare ((signLv s).getD 0 + 1) (ptOf bare x1) = T := ⟨_, rfl⟩
    rw [hT1] at hlen HQ1 ⊢
    clear hT1 ha1 g10 g11 g12 g13
    subst hla
    obtain rfl : 2 = ln := by simpa using hl
    have hlv := signLv_le s
    have HLK := Lib.hid (fun W (hW : Bel u W) => sg_look1 (hsg.bel hW) s (by unfold maxLen; omega))
    obtain ⟨N, hN⟩ : ∃ N, (signLv s).getD 0 = N := ⟨_, rfl⟩
    rw [hN] at HLK HQ1 hlv h3
    clear hN hsg
    subst h3
    obtain ⟨V1, h1, k1, l1, s1⟩ := alloc_step w 25 [.int .i64 k, .string s, .slice na nn nc, .slice (some ⟨pb, po, none⟩) 2 lc]
    have HV1 := Lib.hid h1
    have HP0 := Lib.hid (h.bel l1)
    have HT0 := Lib.hid (KeepT.of_bel (p := keepP) l1)
    have HK0 := Lib.hid k1
    have HL := Lib.hid hlen
    clear h1 k1 l1 s1 h hlen hp hx hnm hl hn
    go_enter Tryz.func56, Tryz.ntmps56
    go_upto_region 1 with fail
    rw [show w.alloc (.cells #[.int .i64 k, .string s, .slice na nn nc, .slice (some ⟨pb, po, none⟩) 2 lc] 25) = V1 from HV1.out]
    clear HV1
    have hlk := HLK.out V1.drew HP0.out.2.to_drew
    have p2 := HP0.out.c2
    have y1 := HK0.out.at 1
    go_wp2_with fail
    go_region
    skip
    have y3 := HK0.out.at 3
    have d00 := HP0.out.2.keep G00.out
    have d01 := HP0.out.2.keep G01.out
    have d02 := HP0.out.2.keep G02.out
    have d03 := HP0.out.2.keep G03.out
    go_wp2_with fail
    refine (HQ0.out _ _ (HP0.out.bel (by (repeat (first | exact Bel.refl _ | assumption | refine Bel.to_drewN ?_ _ | refine Bel.to_drew ?_ | refine Bel.to_setCell ?_ (by first | exact Nat.le_refl _ | (simp; done) | (simp; omega) | omega) _ | refine Bel.to_alloc ?_ _ | refine Bel.trans ?_ (by assumption))))) (by have := HL.out; simp at this ⊢; omega)).mono ?_
    rintro e0 w0 ⟨rfl, hp, ht⟩
    have HP1 := Lib.hid hp
    have HT1 := Lib.hid ((HT0.out.trans (KeepT.of_bel (p := keepP) (by (repeat (first | exact Bel.refl _ | assumption | refine Bel.to_drewN ?_ _ | refine Bel.to_drew ?_ | refine Bel.to_setCell ?_ (by first | exact Nat.le_refl _ | (simp; done) | (simp; omega) | omega) _ | refine Bel.to_alloc ?_ _ | refine Bel.trans ?_ (by assumption)))))).trans ht)
    have HK1 := Lib.hid (ht.blk (HK0.out.bel (by (repeat (first | exact Bel.refl _ | assumption | refine Bel.to_drewN ?_ _ | refine Bel.to_drew ?_ | refine Bel.to_setCell ?_ (by first | exact Nat.le_refl _ | (simp; done) | (simp; omega) | omega) _ | refine Bel.to_alloc ?_ _ | refine Bel.trans ?_ (by assumption))))) keep_ex)
    clear y1 p2 hlk y3 d00 d01 d02 d03 hp ht HP0 HT0 HK0
    have y1 := HK1.out.at 1
    go_wp2_with fail
    obtain ⟨U1, h1, k1, l1, s1⟩ := alloc_step _ 9 [.string ⟨#[32]⟩, .string s, .string ⟨#[32]⟩]
    rw [h1]
    have HA := Lib.hid (add_c u b mb bare _ [⟨#[32]⟩, s, ⟨#[32]⟩] _ 3 U1 (HP1.out.bel l1) k1 rfl (by decide) (by have := HL.out; simp [btsOf] at this ⊢; omega))
    have HT := Lib.hid (HT1.out.trans (KeepT.of_bel (p := keepP) l1))
    have HK := Lib.hid (HK1.out.bel l1)
    clear h1 k1 l1 s1
    refine HA.out.mono ?_
    clear HA
    rintro e1 w1 ⟨rfl, hp, ht⟩
    clear y1
    have HP2 := Lib.hid hp
    have HT2 := Lib.hid (HT.out.trans ht)
    have HK2 := Lib.hid (ht.blk HK.out keep_ex)
    clear hp ht HT HK HP1 HT1 HK1
    have y3 := HK2.out.at 3
    have d10 := HP2.out.2.keep G10.out
    have d11 := HP2.out.2.keep G11.out
    have d12 := HP2.out.2.keep G12.out
    have d13 := HP2.out.2.keep G13.out
    go_wp2_with fail
    have HT := Lib.hid HT2.out
    have HK := Lib.hid HK2.out
    refine (HQ1.out _ _ HP2.out (by have := HL.out; simp [btsOf] at this ⊢; omega)).mono ?_
    rintro e2 w2 ⟨rfl, hp, ht⟩
    clear y3 d10 d11 d12 d13
    have HP3 := Lib.hid hp
    have HT3 := Lib.hid (HT.out.trans ht)
    have HK3 := Lib.hid (ht.blk HK.out keep_ex)
    clear hp ht HT HK HP2 HT2 HK2
    go_wp2_with fail
    go_end0
    exact ⟨rfl, by simpa [btsOf] using HP3.out, HT3.out⟩
  · rw [if_neg h3] at hlen ⊢
    obtain ⟨pb, po, hla⟩ : ∃ pb po, la = some ⟨pb, po, none⟩ := by obtain ⟨pb, po, _, _, _, _, _, _, h, _⟩ := hp 0 x0 rfl; exact ⟨pb, po, h⟩
    obtain ⟨na0, nn0, nc0, la0, ln0, lc0, g00, g01, g02, g03, ha0⟩ := parts_at hp hla (j := 0) (x := x0) rfl
    have G00 : Hid (u.cell? ⟨pb, po, none⟩ = some (.int .i64 x0.k)) := Lib.hid g00
    have G01 : Hid (u.cell? ⟨pb, po + 1, none⟩ = some (.string x0.s)) := Lib.hid g01
    have G02 : Hid (u.cell? ⟨pb, po + 2, none⟩ = some (.slice na0 nn0 nc0)) := Lib.hid g02
    have G03 : Hid (u.cell? ⟨pb, po + 3, none⟩ = some (.slice la0 ln0 lc0)) := Lib.hid g03
    have HQ0 := Lib.hid (fun (c : List UInt8) (W : World) (hW : PR u b mb bare c W) (hc : c.length + (partT bare ((signLv s).getD 0) (ptOf bare x0)).length ≤ 140737488355328) => prpart_c u b mb bare x0 ((signLv s).getD 0) na0 nn0 nc0 la0 ln0 lc0 c W (hx x0 (by simp)).2.1 (hx x0 (by simp)).2.2 (by have := signLv_le s; omega) ha0 hW (hx x0 (by simp)).1 hc)
    obtain ⟨T0, hT0⟩ : ∃ T, partT bare ((signLv s).getD 0) (ptOf bare x0) = T := ⟨_, rfl⟩
    rw [hT0] at hlen HQ0 ⊢
    clear hT0 ha0 g00 g01 g02 g03
    obtain ⟨na1, nn1, nc1, la1, ln1, lc1, g10, g11, g12, g13, ha1⟩ := parts_at hp hla (j := 1) (x := x1) rfl
    have G10 : Hid (u.cell? ⟨pb, po + 4, none⟩ = some (.int .i64 x1.k)) := Lib.hid g10
    have G11 : Hid (u.cell? ⟨pb, po + 5, none⟩ = some (.string x1.s)) := Lib.hid g11
    have G12 : Hid (u.cell? ⟨pb, po + 6, none⟩ = some (.slice na1 nn1 nc1)) := Lib.hid g12
    have G13 : Hid (u.cell? ⟨pb, po + 7, none⟩ = some (.slice la1 ln1 lc1)) := Lib.hid g13
    have HQ1 := Lib.hid (fun (c : List UInt8) (W : World) (hW : PR u b mb bare c W) (hc : c.length + (partT bare ((signLv s).getD 0 + 1) (ptOf bare x1)).length ≤ 140737488355328) => prpart_c u b mb bare x1 ((signLv s).getD 0 + 1) na1 nn1 nc1 la1 ln1 lc1 c W (hx x1 (by simp)).2.1 (hx x1 (by simp)).2.2 (by have := signLv_le s; omega) ha1 hW (hx x1 (by simp)).1 hc)
    obtain ⟨T1, hT1⟩ : ∃ T, partT bare ((signLv s).getD 0 + 1) (ptOf bare x1) = T := ⟨_, rfl⟩
    rw [hT1] at hlen HQ1 ⊢
    clear hT1 ha1 g10 g11 g12 g13
    subst hla
    obtain rfl : 2 = ln := by simpa using hl
    have hlv := signLv_le s
    have HLK := Lib.hid (fun W (hW : Bel u W) => sg_look1 (hsg.bel hW) s (by unfold maxLen; omega))
    obtain ⟨N, hN⟩ : ∃ N, (signLv s).getD 0 = N := ⟨_, rfl⟩
    rw [hN] at HLK HQ0 HQ1 hlv h3
    clear hN hsg
    have h3i : ((N : Int) == 3) = false := beq_eq_false_iff_ne.2 (by omega)
    obtain ⟨V1, h1, k1, l1, s1⟩ := alloc_step w 25 [.int .i64 k, .string s, .slice na nn nc, .slice (some ⟨pb, po, none⟩) 2 lc]
    have HV1 := Lib.hid h1
    have HP0 := Lib.hid (h.bel l1)
    have HT0 := Lib.hid (KeepT.of_bel (p := keepP) l1)
    have HK0 := Lib.hid k1
    have HL := Lib.hid hlen
    clear h1 k1 l1 s1 h hlen hp hx hnm hl hn
    go_enter Tryz.func56, Tryz.ntmps56
    go_upto_region 1 with fail
    rw [show w.alloc (.cells #[.int .i64 k, .string s, .slice na nn nc, .slice (some ⟨pb, po, none⟩) 2 lc] 25) = V1 from HV1.out]
    clear HV1
    have hlk := HLK.out V1.drew HP0.out.2.to_drew
    have p2 := HP0.out.c2
    have y1 := HK0.out.at 1
    go_wp2_with fail
    go_region
    skip
    have y3 := HK0.out.at 3
    have d00 := HP0.out.2.keep G00.out
    have d01 := HP0.out.2.keep G01.out
    have d02 := HP0.out.2.keep G02.out
    have d03 := HP0.out.2.keep G03.out
    go_wp2_with fail
    refine (HQ0.out _ _ (HP0.out.bel (by (repeat (first | exact Bel.refl _ | assumption | refine Bel.to_drewN ?_ _ | refine Bel.to_drew ?_ | refine Bel.to_setCell ?_ (by first | exact Nat.le_refl _ | (simp; done) | (simp; omega) | omega) _ | refine Bel.to_alloc ?_ _ | refine Bel.trans ?_ (by assumption))))) (by have := HL.out; simp at this ⊢; omega)).mono ?_
    rintro e0 w0 ⟨rfl, hp, ht⟩
    have HP1 := Lib.hid hp
    have HT1 := Lib.hid ((HT0.out.trans (KeepT.of_bel (p := keepP) (by (repeat (first | exact Bel.refl _ | assumption | refine Bel.to_drewN ?_ _ | refine Bel.to_drew ?_ | refine Bel.to_setCell ?_ (by first | exact Nat.le_refl _ | (simp; done) | (simp; omega) | omega) _ | refine Bel.to_alloc ?_ _ | refine Bel.trans ?_ (by assumption)))))).trans ht)
    have HK1 := Lib.hid (ht.blk (HK0.out.bel (by (repeat (first | exact Bel.refl _ | assumption | refine Bel.to_drewN ?_ _ | refine Bel.to_drew ?_ | refine Bel.to_setCell ?_ (by first | exact Nat.le_refl _ | (simp; done) | (simp; omega) | omega) _ | refine Bel.to_alloc ?_ _ | refine Bel.trans ?_ (by assumption))))) keep_ex)
    clear y1 p2 hlk y3 d00 d01 d02 d03 hp ht HP0 HT0 HK0
    have y1 := HK1.out.at 1
    go_wp2_with fail
    obtain ⟨U1, h1, k1, l1, s1⟩ := alloc_step _ 9 [.string ⟨#[32]⟩, .string s, .string ⟨#[32]⟩]
    rw [h1]
    have HA := Lib.hid (add_c u b mb bare _ [⟨#[32]⟩, s, ⟨#[32]⟩] _ 3 U1 (HP1.out.bel l1) k1 rfl (by decide) (by have := HL.out; simp [btsOf] at this ⊢; omega))
    have HT := Lib.hid (HT1.out.trans (KeepT.of_bel (p := keepP) l1))
    have HK := Lib.hid (HK1.out.bel l1)
    clear h1 k1 l1 s1
    refine HA.out.mono ?_
    clear HA
    rintro e1 w1 ⟨rfl, hp, ht⟩
    clear y1
    have HP2 := Lib.hid hp
    have HT2 := Lib.hid (HT.out.trans ht)
    have HK2 := Lib.hid (ht.blk HK.out keep_ex)
    clear hp ht HT HK HP1 HT1 HK1
    have y3 := HK2.out.at 3
    have d10 := HP2.out.2.keep G10.out
    have d11 := HP2.out.2.keep G11.out
    have d12 := HP2.out.2.keep G12.out
    have d13 := HP2.out.2.keep G13.out
    go_wp2_with fail
    have HT := Lib.hid HT2.out
    have HK := Lib.hid HK2.out
    refine (HQ1.out _ _ HP2.out (by have := HL.out; simp [btsOf] at this ⊢; omega)).mono ?_
    rintro e2 w2 ⟨rfl, hp, ht⟩
    clear y3 d10 d11 d12 d13
    have HP3 := Lib.hid hp
    have HT3 := Lib.hid (HT.out.trans ht)
    have HK3 := Lib.hid (ht.blk HK.out keep_ex)
    clear hp ht HT HK HP2 HT2 HK2
    go_wp2_with fail
    go_end0
    exact ⟨rfl, by simpa [btsOf] using HP3.out, HT3.out⟩
end Go.Proofs.YtpenfnabeckboaaGreatDoor
