/-
  feelprint: the printer's methods that write lists, words, a text in quotes, two parts with a sign between.
-/
import Derived.Test.YtpenfnabeckboaaGreatDoorFPG
import Derived.Test.YtpenfnabeckboaaGreatDoorMJ
namespace Go.Proofs.YtpenfnabeckboaaGreatDoor
open Go.RowKit

theorem signLv_le (s : ByteArray) : (signLv s).getD 0 ≤ 6 := by
  unfold signLv
  cases h : signsP.reverse.find? fun x => decide (x.1 = s) with
  | none => simp
  | some y =>
    have hm := List.mem_of_find?_eq_some h
    have : ∀ y ∈ signsP.reverse, y.2 ≤ 6 := by decide
    exact this y hm
set_option maxRecDepth 100000 in
set_option maxHeartbeats 4000000 in
theorem p_row_c (u : World) (b mb : Nat) (bare : Bool) (k : Int) (s : ByteArray) (ns : List ByteArray) (l : List Ex) (na : Option Addr) (nn nc : Nat) (la : Option Addr) (ln lc : Nat) (bs : List UInt8) (w : World) (hs : s.size ≤ 1073741824) (hl : l.length = ln) (hlc : ln ≤ lc) (hln : ln ≤ 1073741824) (hn : ns.length = nn) (hnn : nn ≤ 1073741824)
    (hp : PartsAt u la l) (hnm : NamesAt u na ns) (hx : ∀ x ∈ l, PartOk u b mb bare x) (h : PR u b mb bare bs w) (hlen : bs.length + ([91] ++ listT bare [] 0 (l.map (ptOf bare)) ++ [93]).length ≤ 140737488355328) :
    Calls Tryz.prog 67 #[.pointer (some ⟨b, 0, none⟩), .agg #[.int .i64 k, .string s, .slice na nn nc, .slice la ln lc]] w (RetP u b mb bare (bs ++ ([91] ++ listT bare [] 0 (l.map (ptOf bare)) ++ [93])) w) := by
  have HLI := Lib.hid (fun (c : List UInt8) (W : World) (hW : PR u b mb bare c W) (hc : c.length + (listT bare [] 0 (l.map (ptOf bare))).length ≤ 140737488355328) => list_c u b mb bare l ([] : List ByteArray) la none ln lc 0 0 c W hl hln rfl (by decide) hp (fun j x h => by simp at h) hx hW hc)
  obtain ⟨T0, hT0⟩ : ∃ T, listT bare [] 0 (l.map (ptOf bare)) = T := ⟨_, rfl⟩
  rw [hT0] at hlen HLI ⊢
  clear hT0
  obtain ⟨V1, h1, k1, l1, s1⟩ := alloc_step w 25 [.int .i64 k, .string s, .slice na nn nc, .slice la ln lc]
  have HV1 := Lib.hid h1
  have HP0 := Lib.hid (h.bel l1)
  have HT0 := Lib.hid (KeepT.of_bel (p := keepP) l1)
  have HK0 := Lib.hid k1
  have HL := Lib.hid hlen
  clear h1 k1 l1 s1 h hlen hp hx hnm hl hn
  go_enter Tryz.func67, Tryz.ntmps67
  go_upto_region 1 with fail
  rw [show w.alloc (.cells #[.int .i64 k, .string s, .slice na nn nc, .slice la ln lc] 25) = V1 from HV1.out]
  clear HV1
  go_wp2_with fail
  obtain ⟨U1, h1, k1, l1, s1⟩ := alloc_step _ 9 [.string ⟨#[91]⟩]
  rw [h1]
  have HA := Lib.hid (add_c u b mb bare _ [⟨#[91]⟩] _ 1 U1 (HP0.out.bel l1) k1 rfl (by decide) (by have := HL.out; simp [btsOf] at this ⊢; omega))
  have HT := Lib.hid (HT0.out.trans (KeepT.of_bel (p := keepP) l1))
  have HK := Lib.hid (HK0.out.bel l1)
  clear h1 k1 l1 s1
  refine HA.out.mono ?_
  clear HA
  rintro e0 w0 ⟨rfl, hp, ht⟩
  have HP1 := Lib.hid hp
  have HT1 := Lib.hid (HT.out.trans ht)
  have HK1 := Lib.hid (ht.blk HK.out keep_ex)
  clear hp ht HT HK HP0 HT0 HK0
  have y3 := HK1.out.at 3
  go_wp2_with fail
  have HT := Lib.hid HT1.out
  have HK := Lib.hid HK1.out
  refine (HLI.out _ _ HP1.out (by have := HL.out; simp [btsOf] at this ⊢; omega)).mono ?_
  rintro e1 w1 ⟨rfl, hp, ht⟩
  clear y3
  have HP2 := Lib.hid hp
  have HT2 := Lib.hid (HT.out.trans ht)
  have HK2 := Lib.hid (ht.blk HK.out keep_ex)
  clear hp ht HT HK HP1 HT1 HK1
  go_wp2_with fail
  obtain ⟨U1, h1, k1, l1, s1⟩ := alloc_step _ 9 [.string ⟨#[93]⟩]
  rw [h1]
  have HA := Lib.hid (add_c u b mb bare _ [⟨#[93]⟩] _ 1 U1 (HP2.out.bel l1) k1 rfl (by decide) (by have := HL.out; simp [btsOf] at this ⊢; omega))
  have HT := Lib.hid (HT2.out.trans (KeepT.of_bel (p := keepP) l1))
  have HK := Lib.hid (HK2.out.bel l1)
  clear h1 k1 l1 s1
  refine HA.out.mono ?_
  clear HA
  rintro e2 w2 ⟨rfl, hp, ht⟩
  have HP3 := Lib.hid hp
  have HT3 := Lib.hid (HT.out.trans ht)
  have HK3 := Lib.hid (ht.blk HK.out keep_ex)
  clear hp ht HT HK HP2 HT2 HK2
  go_wp2_with fail
  go_end0
  exact ⟨rfl, by simpa [btsOf] using HP3.out, HT3.out⟩
set_option maxRecDepth 100000 in
set_option maxHeartbeats 4000000 in
theorem p_record_c (u : World) (b mb : Nat) (bare : Bool) (k : Int) (s : ByteArray) (ns : List ByteArray) (l : List Ex) (na : Option Addr) (nn nc : Nat) (la : Option Addr) (ln lc : Nat) (bs : List UInt8) (w : World) (hs : s.size ≤ 1073741824) (hl : l.length = ln) (hlc : ln ≤ lc) (hln : ln ≤ 1073741824) (hn : ns.length = nn) (hnn : nn ≤ 1073741824)
    (hp : PartsAt u la l) (hnm : NamesAt u na ns) (hx : ∀ x ∈ l, PartOk u b mb bare x) (h : PR u b mb bare bs w) (hlen : bs.length + ([123] ++ listT bare ns 0 (l.map (ptOf bare)) ++ [125]).length ≤ 140737488355328) :
    Calls Tryz.prog 68 #[.pointer (some ⟨b, 0, none⟩), .agg #[.int .i64 k, .string s, .slice na nn nc, .slice la ln lc]] w (RetP u b mb bare (bs ++ ([123] ++ listT bare ns 0 (l.map (ptOf bare)) ++ [125])) w) := by
  have HLI := Lib.hid (fun (c : List UInt8) (W : World) (hW : PR u b mb bare c W) (hc : c.length + (listT bare ns 0 (l.map (ptOf bare))).length ≤ 140737488355328) => list_c u b mb bare l ns la na ln lc nn nc c W hl hln hn hnn hp hnm hx hW hc)
  obtain ⟨T0, hT0⟩ : ∃ T, listT bare ns 0 (l.map (ptOf bare)) = T := ⟨_, rfl⟩
  rw [hT0] at hlen HLI ⊢
  clear hT0
  obtain ⟨V1, h1, k1, l1, s1⟩ := alloc_step w 25 [.int .i64 k, .string s, .slice na nn nc, .slice la ln lc]
  have HV1 := Lib.hid h1
  have HP0 := Lib.hid (h.bel l1)
  have HT0 := Lib.hid (KeepT.of_bel (p := keepP) l1)
  have HK0 := Lib.hid k1
  have HL := Lib.hid hlen
  clear h1 k1 l1 s1 h hlen hp hx hnm hl hn
  go_enter Tryz.func68, Tryz.ntmps68
  go_upto_region 1 with fail
  rw [show w.alloc (.cells #[.int .i64 k, .string s, .slice na nn nc, .slice la ln lc] 25) = V1 from HV1.out]
  clear HV1
  go_wp2_with fail
  obtain ⟨U1, h1, k1, l1, s1⟩ := alloc_step _ 9 [.string ⟨#[123]⟩]
  rw [h1]
  have HA := Lib.hid (add_c u b mb bare _ [⟨#[123]⟩] _ 1 U1 (HP0.out.bel l1) k1 rfl (by decide) (by have := HL.out; simp [btsOf] at this ⊢; omega))
  have HT := Lib.hid (HT0.out.trans (KeepT.of_bel (p := keepP) l1))
  have HK := Lib.hid (HK0.out.bel l1)
  clear h1 k1 l1 s1
  refine HA.out.mono ?_
  clear HA
  rintro e0 w0 ⟨rfl, hp, ht⟩
  have HP1 := Lib.hid hp
  have HT1 := Lib.hid (HT.out.trans ht)
  have HK1 := Lib.hid (ht.blk HK.out keep_ex)
  clear hp ht HT HK HP0 HT0 HK0
  have y3 := HK1.out.at 3
  have y2 := HK1.out.at 2
  go_wp2_with fail
  have HT := Lib.hid HT1.out
  have HK := Lib.hid HK1.out
  refine (HLI.out _ _ HP1.out (by have := HL.out; simp [btsOf] at this ⊢; omega)).mono ?_
  rintro e1 w1 ⟨rfl, hp, ht⟩
  clear y3 y2
  have HP2 := Lib.hid hp
  have HT2 := Lib.hid (HT.out.trans ht)
  have HK2 := Lib.hid (ht.blk HK.out keep_ex)
  clear hp ht HT HK HP1 HT1 HK1
  go_wp2_with fail
  obtain ⟨U1, h1, k1, l1, s1⟩ := alloc_step _ 9 [.string ⟨#[125]⟩]
  rw [h1]
  have HA := Lib.hid (add_c u b mb bare _ [⟨#[125]⟩] _ 1 U1 (HP2.out.bel l1) k1 rfl (by decide) (by have := HL.out; simp [btsOf] at this ⊢; omega))
  have HT := Lib.hid (HT2.out.trans (KeepT.of_bel (p := keepP) l1))
  have HK := Lib.hid (HK2.out.bel l1)
  clear h1 k1 l1 s1
  refine HA.out.mono ?_
  clear HA
  rintro e2 w2 ⟨rfl, hp, ht⟩
  have HP3 := Lib.hid hp
  have HT3 := Lib.hid (HT.out.trans ht)
  have HK3 := Lib.hid (ht.blk HK.out keep_ex)
  clear hp ht HT HK HP2 HT2 HK2
  go_wp2_with fail
  go_end0
  exact ⟨rfl, by simpa [btsOf] using HP3.out, HT3.out⟩
set_option maxRecDepth 100000 in
set_option maxHeartbeats 4000000 in
theorem p_choice_c (u : World) (b mb : Nat) (bare : Bool) (k : Int) (s : ByteArray) (ns : List ByteArray) (l : List Ex) (na : Option Addr) (nn nc : Nat) (la : Option Addr) (ln lc : Nat) (bs : List UInt8) (w : World) (hs : s.size ≤ 1073741824) (hl : l.length = ln) (hlc : ln ≤ lc) (hln : ln ≤ 1073741824) (hn : ns.length = nn) (hnn : nn ≤ 1073741824) (hl0 : l.length = 3)
    (hp : PartsAt u la l) (hnm : NamesAt u na ns) (hx : ∀ x ∈ l, PartOk u b mb bare x) (h : PR u b mb bare bs w) (hlen : bs.length + (wordsT bare (l.map (ptOf bare)) [[105, 102, 32], [32, 116, 104, 101, 110, 32], [32, 101, 108, 115, 101, 32]]).length ≤ 140737488355328) :
    Calls Tryz.prog 62 #[.pointer (some ⟨b, 0, none⟩), .agg #[.int .i64 k, .string s, .slice na nn nc, .slice la ln lc]] w (RetP u b mb bare (bs ++ (wordsT bare (l.map (ptOf bare)) [[105, 102, 32], [32, 116, 104, 101, 110, 32], [32, 101, 108, 115, 101, 32]])) w) := by
  have HEQ : ([[105, 102, 32], [32, 116, 104, 101, 110, 32], [32, 101, 108, 115, 101, 32]] : List (List UInt8)) = ([⟨#[105, 102, 32]⟩, ⟨#[32, 116, 104, 101, 110, 32]⟩, ⟨#[32, 101, 108, 115, 101, 32]⟩] : List ByteArray).map btsOf := by simp [btsOf, ByteArray.data_append]
  rw [HEQ] at hlen ⊢
  clear HEQ
  have HWO := Lib.hid (fun (wb : Nat) (W : World) (hwb : Blk W wb 9 (strsV [⟨#[105, 102, 32]⟩, ⟨#[32, 116, 104, 101, 110, 32]⟩, ⟨#[32, 101, 108, 115, 101, 32]⟩])) (hW : PR u b mb bare bs W) => prwords_c u b mb bare l [⟨#[105, 102, 32]⟩, ⟨#[32, 116, 104, 101, 110, 32]⟩, ⟨#[32, 101, 108, 115, 101, 32]⟩] la ln lc wb 3 bs W hl hln rfl (by omega) (by decide) hp hwb hx hW hlen)
  clear hl0
  obtain ⟨V1, h1, k1, l1, s1⟩ := alloc_step w 25 [.int .i64 k, .string s, .slice na nn nc, .slice la ln lc]
  have HV1 := Lib.hid h1
  have HP0 := Lib.hid (h.bel l1)
  have HT0 := Lib.hid (KeepT.of_bel (p := keepP) l1)
  have HK0 := Lib.hid k1
  have HL := Lib.hid hlen
  clear h1 k1 l1 s1 h hlen hp hx hnm hl hn
  go_enter Tryz.func62, Tryz.ntmps62
  go_upto_region 1 with fail
  rw [show w.alloc (.cells #[.int .i64 k, .string s, .slice na nn nc, .slice la ln lc] 25) = V1 from HV1.out]
  clear HV1
  have y3 := HK0.out.at 3
  have y1 := HK0.out.at 1
  go_wp2_with fail
  obtain ⟨U1, h1, k1, l1, s1⟩ := alloc_step V1 9 [.string ⟨#[105, 102, 32]⟩, .string ⟨#[32, 116, 104, 101, 110, 32]⟩, .string ⟨#[32, 101, 108, 115, 101, 32]⟩]
  rw [h1]
  have HA := Lib.hid (HWO.out _ U1 k1 (HP0.out.bel l1))
  have HT := Lib.hid (HT0.out.trans (KeepT.of_bel (p := keepP) l1))
  have HK := Lib.hid (HK0.out.bel l1)
  clear h1 k1 l1 s1
  refine HA.out.mono ?_
  rintro e0 w0 ⟨rfl, hp, ht⟩
  clear y3 y1
  have HP1 := Lib.hid hp
  have HT1 := Lib.hid (HT.out.trans ht)
  have HK1 := Lib.hid (ht.blk HK.out keep_ex)
  clear hp ht HT HK HP0 HT0 HK0
  go_wp2_with fail
  go_end0
  exact ⟨rfl, by simpa [btsOf] using HP1.out, HT1.out⟩
set_option maxRecDepth 100000 in
set_option maxHeartbeats 4000000 in
theorem p_loop_c (u : World) (b mb : Nat) (bare : Bool) (k : Int) (s : ByteArray) (ns : List ByteArray) (l : List Ex) (na : Option Addr) (nn nc : Nat) (la : Option Addr) (ln lc : Nat) (bs : List UInt8) (w : World) (hs : s.size ≤ 1073741824) (hl : l.length = ln) (hlc : ln ≤ lc) (hln : ln ≤ 1073741824) (hn : ns.length = nn) (hnn : nn ≤ 1073741824) (hl0 : l.length = 2)
    (hp : PartsAt u la l) (hnm : NamesAt u na ns) (hx : ∀ x ∈ l, PartOk u b mb bare x) (h : PR u b mb bare bs w) (hlen : bs.length + (wordsT bare (l.map (ptOf bare)) [[102, 111, 114, 32] ++ btsOf s ++ [32, 105, 110, 32], [32, 114, 101, 116, 117, 114, 110, 32]]).length ≤ 140737488355328) :
    Calls Tryz.prog 63 #[.pointer (some ⟨b, 0, none⟩), .agg #[.int .i64 k, .string s, .slice na nn nc, .slice la ln lc]] w (RetP u b mb bare (bs ++ (wordsT bare (l.map (ptOf bare)) [[102, 111, 114, 32] ++ btsOf s ++ [32, 105, 110, 32], [32, 114, 101, 116, 117, 114, 110, 32]])) w) := by
  have HEQ : ([[102, 111, 114, 32] ++ btsOf s ++ [32, 105, 110, 32], [32, 114, 101, 116, 117, 114, 110, 32]] : List (List UInt8)) = ([(⟨#[102, 111, 114, 32]⟩ ++ s ++ ⟨#[32, 105, 110, 32]⟩), ⟨#[32, 114, 101, 116, 117, 114, 110, 32]⟩] : List ByteArray).map btsOf := by simp [btsOf, ByteArray.data_append]
  rw [HEQ] at hlen ⊢
  clear HEQ
  have HWO := Lib.hid (fun (wb : Nat) (W : World) (hwb : Blk W wb 9 (strsV [(⟨#[102, 111, 114, 32]⟩ ++ s ++ ⟨#[32, 105, 110, 32]⟩), ⟨#[32, 114, 101, 116, 117, 114, 110, 32]⟩])) (hW : PR u b mb bare bs W) => prwords_c u b mb bare l [(⟨#[102, 111, 114, 32]⟩ ++ s ++ ⟨#[32, 105, 110, 32]⟩), ⟨#[32, 114, 101, 116, 117, 114, 110, 32]⟩] la ln lc wb 2 bs W hl hln rfl (by omega) (by decide) hp hwb hx hW hlen)
  clear hl0
  have hA1 : ¬ (9223372036854775807 < (⟨#[102, 111, 114, 32]⟩ : ByteArray).size + s.size) := by have h : (⟨#[102, 111, 114, 32]⟩ : ByteArray).size = 4 := rfl; omega
  have hA2 : ¬ (9223372036854775807 < ((⟨#[102, 111, 114, 32]⟩ : ByteArray) ++ s).size + (⟨#[32, 105, 110, 32]⟩ : ByteArray).size) := by have h : (⟨#[102, 111, 114, 32]⟩ : ByteArray).size = 4 := rfl; have h2 : (⟨#[32, 105, 110, 32]⟩ : ByteArray).size = 4 := rfl; rw [ByteArray.size_append]; omega
  obtain ⟨V1, h1, k1, l1, s1⟩ := alloc_step w 25 [.int .i64 k, .string s, .slice na nn nc, .slice la ln lc]
  have HV1 := Lib.hid h1
  have HP0 := Lib.hid (h.bel l1)
  have HT0 := Lib.hid (KeepT.of_bel (p := keepP) l1)
  have HK0 := Lib.hid k1
  have HL := Lib.hid hlen
  clear h1 k1 l1 s1 h hlen hp hx hnm hl hn
  go_enter Tryz.func63, Tryz.ntmps63
  go_upto_region 1 with fail
  rw [show w.alloc (.cells #[.int .i64 k, .string s, .slice na nn nc, .slice la ln lc] 25) = V1 from HV1.out]
  clear HV1
  have y3 := HK0.out.at 3
  have y1 := HK0.out.at 1
  go_wp2_with fail
  obtain ⟨U1, h1, k1, l1, s1⟩ := alloc_step V1 9 [.string (⟨#[102, 111, 114, 32]⟩ ++ s ++ ⟨#[32, 105, 110, 32]⟩), .string ⟨#[32, 114, 101, 116, 117, 114, 110, 32]⟩]
  rw [h1]
  have HA := Lib.hid (HWO.out _ U1 k1 (HP0.out.bel l1))
  have HT := Lib.hid (HT0.out.trans (KeepT.of_bel (p := keepP) l1))
  have HK := Lib.hid (HK0.out.bel l1)
  clear h1 k1 l1 s1
  refine HA.out.mono ?_
  rintro e0 w0 ⟨rfl, hp, ht⟩
  clear y3 y1
  have HP1 := Lib.hid hp
  have HT1 := Lib.hid (HT.out.trans ht)
  have HK1 := Lib.hid (ht.blk HK.out keep_ex)
  clear hp ht HT HK HP0 HT0 HK0
  go_wp2_with fail
  go_end0
  exact ⟨rfl, by simpa [btsOf] using HP1.out, HT1.out⟩
set_option maxRecDepth 100000 in
set_option maxHeartbeats 4000000 in
theorem p_some_c (u : World) (b mb : Nat) (bare : Bool) (k : Int) (s : ByteArray) (ns : List ByteArray) (l : List Ex) (na : Option Addr) (nn nc : Nat) (la : Option Addr) (ln lc : Nat) (bs : List UInt8) (w : World) (hs : s.size ≤ 1073741824) (hl : l.length = ln) (hlc : ln ≤ lc) (hln : ln ≤ 1073741824) (hn : ns.length = nn) (hnn : nn ≤ 1073741824) (hl0 : l.length = 2)
    (hp : PartsAt u la l) (hnm : NamesAt u na ns) (hx : ∀ x ∈ l, PartOk u b mb bare x) (h : PR u b mb bare bs w) (hlen : bs.length + (wordsT bare (l.map (ptOf bare)) [[115, 111, 109, 101, 32] ++ btsOf s ++ [32, 105, 110, 32], [32, 115, 97, 116, 105, 115, 102, 105, 101, 115, 32]]).length ≤ 140737488355328) :
    Calls Tryz.prog 64 #[.pointer (some ⟨b, 0, none⟩), .agg #[.int .i64 k, .string s, .slice na nn nc, .slice la ln lc]] w (RetP u b mb bare (bs ++ (wordsT bare (l.map (ptOf bare)) [[115, 111, 109, 101, 32] ++ btsOf s ++ [32, 105, 110, 32], [32, 115, 97, 116, 105, 115, 102, 105, 101, 115, 32]])) w) := by
  have HEQ : ([[115, 111, 109, 101, 32] ++ btsOf s ++ [32, 105, 110, 32], [32, 115, 97, 116, 105, 115, 102, 105, 101, 115, 32]] : List (List UInt8)) = ([(⟨#[115, 111, 109, 101, 32]⟩ ++ s ++ ⟨#[32, 105, 110, 32]⟩), ⟨#[32, 115, 97, 116, 105, 115, 102, 105, 101, 115, 32]⟩] : List ByteArray).map btsOf := by simp [btsOf, ByteArray.data_append]
  rw [HEQ] at hlen ⊢
  clear HEQ
  have HWO := Lib.hid (fun (wb : Nat) (W : World) (hwb : Blk W wb 9 (strsV [(⟨#[115, 111, 109, 101, 32]⟩ ++ s ++ ⟨#[32, 105, 110, 32]⟩), ⟨#[32, 115, 97, 116, 105, 115, 102, 105, 101, 115, 32]⟩])) (hW : PR u b mb bare bs W) => prwords_c u b mb bare l [(⟨#[115, 111, 109, 101, 32]⟩ ++ s ++ ⟨#[32, 105, 110, 32]⟩), ⟨#[32, 115, 97, 116, 105, 115, 102, 105, 101, 115, 32]⟩] la ln lc wb 2 bs W hl hln rfl (by omega) (by decide) hp hwb hx hW hlen)
  clear hl0
  have hA1 : ¬ (9223372036854775807 < (⟨#[115, 111, 109, 101, 32]⟩ : ByteArray).size + s.size) := by have h : (⟨#[115, 111, 109, 101, 32]⟩ : ByteArray).size = 5 := rfl; omega
  have hA2 : ¬ (9223372036854775807 < ((⟨#[115, 111, 109, 101, 32]⟩ : ByteArray) ++ s).size + (⟨#[32, 105, 110, 32]⟩ : ByteArray).size) := by have h : (⟨#[115, 111, 109, 101, 32]⟩ : ByteArray).size = 5 := rfl; have h2 : (⟨#[32, 105, 110, 32]⟩ : ByteArray).size = 4 := rfl; rw [ByteArray.size_append]; omega
  obtain ⟨V1, h1, k1, l1, s1⟩ := alloc_step w 25 [.int .i64 k, .string s, .slice na nn nc, .slice la ln lc]
  have HV1 := Lib.hid h1
  have HP0 := Lib.hid (h.bel l1)
  have HT0 := Lib.hid (KeepT.of_bel (p := keepP) l1)
  have HK0 := Lib.hid k1
  have HL := Lib.hid hlen
  clear h1 k1 l1 s1 h hlen hp hx hnm hl hn
  go_enter Tryz.func64, Tryz.ntmps64
  go_upto_region 1 with fail
  rw [show w.alloc (.cells #[.int .i64 k, .string s, .slice na nn nc, .slice la ln lc] 25) = V1 from HV1.out]
  clear HV1
  have y3 := HK0.out.at 3
  have y1 := HK0.out.at 1
  go_wp2_with fail
  obtain ⟨U1, h1, k1, l1, s1⟩ := alloc_step V1 9 [.string (⟨#[115, 111, 109, 101, 32]⟩ ++ s ++ ⟨#[32, 105, 110, 32]⟩), .string ⟨#[32, 115, 97, 116, 105, 115, 102, 105, 101, 115, 32]⟩]
  rw [h1]
  have HA := Lib.hid (HWO.out _ U1 k1 (HP0.out.bel l1))
  have HT := Lib.hid (HT0.out.trans (KeepT.of_bel (p := keepP) l1))
  have HK := Lib.hid (HK0.out.bel l1)
  clear h1 k1 l1 s1
  refine HA.out.mono ?_
  rintro e0 w0 ⟨rfl, hp, ht⟩
  clear y3 y1
  have HP1 := Lib.hid hp
  have HT1 := Lib.hid (HT.out.trans ht)
  have HK1 := Lib.hid (ht.blk HK.out keep_ex)
  clear hp ht HT HK HP0 HT0 HK0
  go_wp2_with fail
  go_end0
  exact ⟨rfl, by simpa [btsOf] using HP1.out, HT1.out⟩
set_option maxRecDepth 100000 in
set_option maxHeartbeats 4000000 in
theorem p_every_c (u : World) (b mb : Nat) (bare : Bool) (k : Int) (s : ByteArray) (ns : List ByteArray) (l : List Ex) (na : Option Addr) (nn nc : Nat) (la : Option Addr) (ln lc : Nat) (bs : List UInt8) (w : World) (hs : s.size ≤ 1073741824) (hl : l.length = ln) (hlc : ln ≤ lc) (hln : ln ≤ 1073741824) (hn : ns.length = nn) (hnn : nn ≤ 1073741824) (hl0 : l.length = 2)
    (hp : PartsAt u la l) (hnm : NamesAt u na ns) (hx : ∀ x ∈ l, PartOk u b mb bare x) (h : PR u b mb bare bs w) (hlen : bs.length + (wordsT bare (l.map (ptOf bare)) [[101, 118, 101, 114, 121, 32] ++ btsOf s ++ [32, 105, 110, 32], [32, 115, 97, 116, 105, 115, 102, 105, 101, 115, 32]]).length ≤ 140737488355328) :
    Calls Tryz.prog 65 #[.pointer (some ⟨b, 0, none⟩), .agg #[.int .i64 k, .string s, .slice na nn nc, .slice la ln lc]] w (RetP u b mb bare (bs ++ (wordsT bare (l.map (ptOf bare)) [[101, 118, 101, 114, 121, 32] ++ btsOf s ++ [32, 105, 110, 32], [32, 115, 97, 116, 105, 115, 102, 105, 101, 115, 32]])) w) := by
  have HEQ : ([[101, 118, 101, 114, 121, 32] ++ btsOf s ++ [32, 105, 110, 32], [32, 115, 97, 116, 105, 115, 102, 105, 101, 115, 32]] : List (List UInt8)) = ([(⟨#[101, 118, 101, 114, 121, 32]⟩ ++ s ++ ⟨#[32, 105, 110, 32]⟩), ⟨#[32, 115, 97, 116, 105, 115, 102, 105, 101, 115, 32]⟩] : List ByteArray).map btsOf := by simp [btsOf, ByteArray.data_append]
  rw [HEQ] at hlen ⊢
  clear HEQ
  have HWO := Lib.hid (fun (wb : Nat) (W : World) (hwb : Blk W wb 9 (strsV [(⟨#[101, 118, 101, 114, 121, 32]⟩ ++ s ++ ⟨#[32, 105, 110, 32]⟩), ⟨#[32, 115, 97, 116, 105, 115, 102, 105, 101, 115, 32]⟩])) (hW : PR u b mb bare bs W) => prwords_c u b mb bare l [(⟨#[101, 118, 101, 114, 121, 32]⟩ ++ s ++ ⟨#[32, 105, 110, 32]⟩), ⟨#[32, 115, 97, 116, 105, 115, 102, 105, 101, 115, 32]⟩] la ln lc wb 2 bs W hl hln rfl (by omega) (by decide) hp hwb hx hW hlen)
  clear hl0
  have hA1 : ¬ (9223372036854775807 < (⟨#[101, 118, 101, 114, 121, 32]⟩ : ByteArray).size + s.size) := by have h : (⟨#[101, 118, 101, 114, 121, 32]⟩ : ByteArray).size = 6 := rfl; omega
  have hA2 : ¬ (9223372036854775807 < ((⟨#[101, 118, 101, 114, 121, 32]⟩ : ByteArray) ++ s).size + (⟨#[32, 105, 110, 32]⟩ : ByteArray).size) := by have h : (⟨#[101, 118, 101, 114, 121, 32]⟩ : ByteArray).size = 6 := rfl; have h2 : (⟨#[32, 105, 110, 32]⟩ : ByteArray).size = 4 := rfl; rw [ByteArray.size_append]; omega
  obtain ⟨V1, h1, k1, l1, s1⟩ := alloc_step w 25 [.int .i64 k, .string s, .slice na nn nc, .slice la ln lc]
  have HV1 := Lib.hid h1
  have HP0 := Lib.hid (h.bel l1)
  have HT0 := Lib.hid (KeepT.of_bel (p := keepP) l1)
  have HK0 := Lib.hid k1
  have HL := Lib.hid hlen
  clear h1 k1 l1 s1 h hlen hp hx hnm hl hn
  go_enter Tryz.func65, Tryz.ntmps65
  go_upto_region 1 with fail
  rw [show w.alloc (.cells #[.int .i64 k, .string s, .slice na nn nc, .slice la ln lc] 25) = V1 from HV1.out]
  clear HV1
  have y3 := HK0.out.at 3
  have y1 := HK0.out.at 1
  go_wp2_with fail
  obtain ⟨U1, h1, k1, l1, s1⟩ := alloc_step V1 9 [.string (⟨#[101, 118, 101, 114, 121, 32]⟩ ++ s ++ ⟨#[32, 105, 110, 32]⟩), .string ⟨#[32, 115, 97, 116, 105, 115, 102, 105, 101, 115, 32]⟩]
  rw [h1]
  have HA := Lib.hid (HWO.out _ U1 k1 (HP0.out.bel l1))
  have HT := Lib.hid (HT0.out.trans (KeepT.of_bel (p := keepP) l1))
  have HK := Lib.hid (HK0.out.bel l1)
  clear h1 k1 l1 s1
  refine HA.out.mono ?_
  rintro e0 w0 ⟨rfl, hp, ht⟩
  clear y3 y1
  have HP1 := Lib.hid hp
  have HT1 := Lib.hid (HT.out.trans ht)
  have HK1 := Lib.hid (ht.blk HK.out keep_ex)
  clear hp ht HT HK HP0 HT0 HK0
  go_wp2_with fail
  go_end0
  exact ⟨rfl, by simpa [btsOf] using HP1.out, HT1.out⟩
set_option maxRecDepth 100000 in
set_option maxHeartbeats 4000000 in
theorem p_text_c (u : World) (b mb : Nat) (bare : Bool) (k : Int) (s : ByteArray) (ns : List ByteArray) (l : List Ex) (na : Option Addr) (nn nc : Nat) (la : Option Addr) (ln lc : Nat) (bs : List UInt8) (w : World) (hs : s.size ≤ 1073741824) (hl : l.length = ln) (hlc : ln ≤ lc) (hln : ln ≤ 1073741824) (hn : ns.length = nn) (hnn : nn ≤ 1073741824) (hE : Env u) (hq : ¬ chkS s < s.size)
    (hp : PartsAt u la l) (hnm : NamesAt u na ns) (hx : ∀ x ∈ l, PartOk u b mb bare x) (h : PR u b mb bare bs w) (hlen : bs.length + (qB s).length ≤ 140737488355328) :
    Calls Tryz.prog 54 #[.pointer (some ⟨b, 0, none⟩), .agg #[.int .i64 k, .string s, .slice na nn nc, .slice la ln lc]] w (RetP u b mb bare (bs ++ (qB s)) w) := by
  have HQU : Hid (∀ W, Bel u W → Calls Tryz.prog 95 #[.string s] W (RetBel (.tuple #[.string (quoteB s), .int .i64 0]) W)) := Lib.hid (fun W hW => by have h := quote_c s hs W (hE.bel hW); unfold quoteS at h; rw [if_neg hq] at h; exact h)
  clear hE hq
  obtain ⟨V1, h1, k1, l1, s1⟩ := alloc_step w 25 [.int .i64 k, .string s, .slice na nn nc, .slice la ln lc]
  have HV1 := Lib.hid h1
  have HP0 := Lib.hid (h.bel l1)
  have HT0 := Lib.hid (KeepT.of_bel (p := keepP) l1)
  have HK0 := Lib.hid k1
  have HL := Lib.hid hlen
  clear h1 k1 l1 s1 h hlen hp hx hnm hl hn
  go_enter Tryz.func54, Tryz.ntmps54
  go_upto_region 1 with fail
  rw [show w.alloc (.cells #[.int .i64 k, .string s, .slice na nn nc, .slice la ln lc] 25) = V1 from HV1.out]
  clear HV1
  have y1 := HK0.out.at 1
  go_wp2_with fail
  refine (HQU.out _ HP0.out.2).mono ?_
  rintro e9 w9 ⟨rfl, hb9⟩
  clear y1
  have HP1 := Lib.hid (HP0.out.bel hb9)
  have HT1 := Lib.hid (HT0.out.trans (KeepT.of_bel (p := keepP) hb9))
  have HK1 := Lib.hid (HK0.out.bel hb9)
  clear hb9 HP0 HT0 HK0
  have HL2 := Lib.hid (show bs.length + (btsOf (quoteB s)).length ≤ 140737488355328 from HL.out)
  clear HL
  have HL := HL2
  go_wp2_with fail
  obtain ⟨U1, h1, k1, l1, s1⟩ := alloc_step _ 9 [.string (quoteB s)]
  rw [h1]
  have HA := Lib.hid (add_c u b mb bare _ [(quoteB s)] _ 1 U1 (HP1.out.bel l1) k1 rfl (by decide) (by have := HL.out; simp [btsOf] at this ⊢; omega))
  have HT := Lib.hid (HT1.out.trans (KeepT.of_bel (p := keepP) l1))
  have HK := Lib.hid (HK1.out.bel l1)
  clear h1 k1 l1 s1
  refine HA.out.mono ?_
  clear HA
  rintro e1 w1 ⟨rfl, hp, ht⟩
  have HP2 := Lib.hid hp
  have HT2 := Lib.hid (HT.out.trans ht)
  have HK2 := Lib.hid (ht.blk HK.out keep_ex)
  clear hp ht HT HK HP1 HT1 HK1
  go_wp2_with fail
  go_end0
  exact ⟨rfl, by simpa [btsOf, qB] using HP2.out, HT2.out⟩
end Go.Proofs.YtpenfnabeckboaaGreatDoor
