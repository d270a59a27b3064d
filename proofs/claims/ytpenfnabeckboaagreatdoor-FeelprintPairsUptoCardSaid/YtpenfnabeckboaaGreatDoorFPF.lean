/-
  feelprint: the printer; part, list, words.
-/
import Derived.Test.YtpenfnabeckboaaGreatDoorFPE
namespace Go.Proofs.YtpenfnabeckboaaGreatDoor
open Go.RowKit

/-- A part, as the text sees it. -/
def ptOf (bare : Bool) (x : Ex) : Pt := ⟨x.k, levelE x, prE qB bare x⟩
/-- What a part needs, to be written. -/
def PartOk (u : World) (b mb : Nat) (bare : Bool) (x : Ex) : Prop := SaysP u b mb bare x ∧ x.s.size ≤ 1073741824 ∧ 0 ≤ x.k ∧ x.k ≤ 19
theorem parts_at {W : World} {la : Option Addr} {l : List Ex} {pb po : Nat} (h : PartsAt W la l) (hla : la = some ⟨pb, po, none⟩) {j : Nat} {x : Ex} (hx : l[j]? = some x) :
    ∃ xna xnn xnc xla xln xlc, W.cell? ⟨pb, po + j * 4, none⟩ = some (.int .i64 x.k) ∧ W.cell? ⟨pb, po + j * 4 + 1, none⟩ = some (.string x.s) ∧
    W.cell? ⟨pb, po + j * 4 + 2, none⟩ = some (.slice xna xnn xnc) ∧ W.cell? ⟨pb, po + j * 4 + 3, none⟩ = some (.slice xla xln xlc) ∧ ExAt W x (.slice xna xnn xnc) (.slice xla xln xlc) := by
  obtain ⟨b, off, xna, xnn, xnc, xla, xln, xlc, h1, h2⟩ := h j x hx
  rw [hla] at h1
  injection h1 with h1
  injection h1 with h3 h4
  subst h3 h4
  exact ⟨xna, xnn, xnc, xla, xln, xlc, h2⟩
theorem strsV_blk (W : World) (l : List ByteArray) : Blk (W.alloc (.cells (strsV l).toArray 9)) W.heap.size 9 (strsV l) := Blk.new W 9 (strsV l)
set_option maxRecDepth 100000 in
set_option maxHeartbeats 4000000 in
theorem prpart_c (u : World) (b mb : Nat) (bare : Bool) (x : Ex) (lev : Nat) (na : Option Addr) (nn nc : Nat) (la : Option Addr) (ln lc : Nat) (bs : List UInt8) (w : World) (hs : x.s.size ≤ 1073741824) (hk : 0 ≤ x.k ∧ x.k ≤ 19) (_hl : lev ≤ 9)
    (hat : ExAt u x (.slice na nn nc) (.slice la ln lc)) (h : PR u b mb bare bs w) (hX : SaysP u b mb bare x) (hlen : bs.length + (partT bare lev (ptOf bare x)).length ≤ 140737488355328) :
    Calls Tryz.prog 96 #[.pointer (some ⟨b, 0, none⟩), .agg #[.int .i64 x.k, .string x.s, .slice na nn nc, .slice la ln lc], .int .i64 lev] w (RetP u b mb bare (bs ++ partT bare lev (ptOf bare x)) w) := by
  have HLV := Lib.hid (fun W => level_c x na nn nc la ln lc W hs hk)
  have HSX := Lib.hid (fun c W (hW : PR u b mb bare c W) (hc : c.length + (prE qB bare x).length ≤ 140737488355328) => hX na nn nc la ln lc c W hat hW hc)
  have HADD := Lib.hid (fun (c : List UInt8) (d : UInt8) (xb : Nat) (W : World) (hW : PR u b mb bare c W) (hx : Blk W xb 9 [.string ⟨#[d]⟩]) (hc : c.length + 1 ≤ 140737488355328) => add_c u b mb bare c [⟨#[d]⟩] xb 1 W hW hx rfl (by decide) (by simpa [btsOf] using hc))
  have hlv := levelE_le x
  unfold partT ptOf at hlen ⊢
  dsimp only at hlen ⊢
  obtain ⟨L, hL⟩ : ∃ L, levelE x = L := ⟨_, rfl⟩
  obtain ⟨T, hT⟩ : ∃ T, prE qB bare x = T := ⟨_, rfl⟩
  obtain ⟨k, hkk⟩ : ∃ k, x.k = k := ⟨_, rfl⟩
  obtain ⟨s, hss⟩ : ∃ s, x.s = s := ⟨_, rfl⟩
  rw [hL] at HLV hlv hlen ⊢
  rw [hT] at HSX hlen ⊢
  rw [hkk] at HLV HSX ⊢
  rw [hss] at HLV HSX ⊢
  clear hL hT hkk hss hs hk hat hX
  obtain ⟨V1, h1, k1, l1, s1⟩ := alloc_step w 25 [.int .i64 k, .string s, .slice na nn nc, .slice la ln lc]
  have HV1 := Lib.hid h1
  have HB := Lib.hid l1
  have x0 := k1.at 0
  have x1 := k1.at 1
  have x2 := k1.at 2
  have x3 := k1.at 3
  have p3 := (h.bel l1).c3
  have HK1 := Lib.hid k1
  have HP1 := Lib.hid (h.bel l1)
  have HT1 := Lib.hid (KeepT.of_bel (p := keepP) l1)
  clear h1 k1 l1 s1 h
  by_cases hin : bare = true ∨ L < lev
  · rw [if_pos hin] at hlen ⊢
    have HL := Lib.hid hlen
    have hcase : (bare = true) ∨ (bare = false ∧ ¬ ((lev : Int) ≤ L)) := by
      cases bare with
      | true => exact .inl rfl
      | false =>
        refine .inr ⟨rfl, ?_⟩
        rcases hin with h | h
        · cases h
        · omega
    have h9 : ¬ ((9 : Int) ≤ L) := by omega
    clear hin hlen
    rcases hcase with rfl | ⟨rfl, hnl⟩
    all_goals
      go_enter Tryz.func96, Tryz.ntmps96
      go_upto_region 1 with fail
      rw [show w.alloc (.cells #[.int .i64 k, .string s, .slice na nn nc, .slice la ln lc] 25) = V1 from HV1.out]
      go_wp2_with fail
      refine (HLV.out _).mono ?_
      rintro e2 w2 ⟨rfl, hb2⟩
      have HP2 := Lib.hid (HP1.out.bel hb2)
      have HK2 := Lib.hid (HK1.out.bel hb2)
      have HT2 := Lib.hid (HT1.out.trans (KeepT.of_bel (p := keepP) hb2))
      clear x0 x1 x2 x3 p3 hb2 HLV
      go_wp2_with fail
      obtain ⟨U1, h1, k1, l1, s1⟩ := alloc_step w2 9 [.string ⟨#[40]⟩]
      rw [h1]
      have HA := Lib.hid (HADD.out _ 40 _ U1 (HP2.out.bel l1) k1 (by have := HL.out; simp at this; omega))
      have HT3 := Lib.hid (HT2.out.trans (KeepT.of_bel (p := keepP) l1))
      have HK3 := Lib.hid (HK2.out.bel l1)
      clear h1 k1 l1 s1
      refine HA.out.mono ?_
      rintro e3 w3 ⟨rfl, hp3, ht3⟩
      have k3 := ht3.blk HK3.out keep_ex
      have x0 := k3.at 0
      have x1 := k3.at 1
      have x2 := k3.at 2
      have x3 := k3.at 3
      have HP3 := Lib.hid hp3
      have HK4 := Lib.hid k3
      have HT4 := Lib.hid (HT3.out.trans ht3)
      clear hp3 ht3 k3
      go_wp2_with fail
      refine (HSX.out _ _ HP3.out (by have := HL.out; simp [btsOf] at this ⊢; omega)).mono ?_
      rintro e5 w5 ⟨rfl, hp5, ht5⟩
      have HP5 := Lib.hid hp5
      have HT5 := Lib.hid (HT4.out.trans ht5)
      clear hp5 ht5 x0 x1 x2 x3
      go_wp2_with fail
      obtain ⟨U1, h1, k1, l1, s1⟩ := alloc_step w5 9 [.string ⟨#[41]⟩]
      rw [h1]
      have HA2 := Lib.hid (HADD.out _ 41 _ U1 (HP5.out.bel l1) k1 (by have := HL.out; simp [btsOf] at this ⊢; omega))
      have HT6 := Lib.hid (HT5.out.trans (KeepT.of_bel (p := keepP) l1))
      clear h1 k1 l1 s1
      refine HA2.out.mono ?_
      rintro e6 w6 ⟨rfl, hp6, ht6⟩
      go_wp2_with fail
      go_end0
      exact ⟨rfl, by simpa [btsOf] using hp6, HT6.out.trans ht6⟩
  · rw [if_neg hin] at hlen ⊢
    have hbf : bare = false := by cases bare with | true => exact absurd (.inl rfl) hin | false => rfl
    subst hbf
    have hnl : (lev : Int) ≤ L := by
      have : ¬ L < lev := fun h => hin (.inr h)
      omega
    have HL := Lib.hid hlen
    clear hin hlen
    go_enter Tryz.func96, Tryz.ntmps96
    go_upto_region 1 with fail
    rw [show w.alloc (.cells #[.int .i64 k, .string s, .slice na nn nc, .slice la ln lc] 25) = V1 from HV1.out]
    go_wp2_with fail
    refine (HLV.out _).mono ?_
    rintro e2 w2 ⟨rfl, hb2⟩
    have y0 := hb2.keep x0
    have y1 := hb2.keep x1
    have y2 := hb2.keep x2
    have y3 := hb2.keep x3
    have HP2 := Lib.hid (HP1.out.bel hb2)
    have HT2 := Lib.hid (HT1.out.trans (KeepT.of_bel (p := keepP) hb2))
    clear x0 x1 x2 x3 p3 hb2 HLV
    go_wp2_with fail
    refine (HSX.out _ _ HP2.out HL.out).mono ?_
    rintro e5 w5 ⟨rfl, hp5, ht5⟩
    go_wp2_with fail
    go_end0
    exact ⟨rfl, hp5, HT2.out.trans ht5⟩
end Go.Proofs.YtpenfnabeckboaaGreatDoor
