/-
  expr's laws: the document's example.
  expr's laws: what all of them begin with: the example, and which expressions are more than are looked at.
-/
import Derived.Test.YtgfikaagoflbbaaGreatDoorEXD
import Derived.Test.YtgfikaagoflbbaaGreatDoorRXB
import Derived.Test.YtgfikaagoflbbaaGreatDoorEXC
import Derived.Test.YtgfikaagoflbbaaGreatDoorEXB
namespace Go.Proofs.YtgfikaagoflbbaaGreatDoor
open Go.RowKit

def nE (s : ByteArray) : Ex := .mk 3 s [] []
def plusE : Ex := .mk 5 ⟨#[43]⟩ [] [nE ⟨#[120]⟩, nE ⟨#[121]⟩]
def exX : Ex := .mk 12 ⟨#[120]⟩ [] [nE ⟨#[97]⟩, plusE]
def exM : Ex := .mk 17 ⟨#[]⟩ [⟨#[107]⟩, ⟨#[109]⟩] [.mk 0 ⟨#[49]⟩ [] [], nE ⟨#[107]⟩]
theorem exX_check : CheckE exX = 0 := by decide +kernel
theorem exM_check : CheckE exM = 0 := by decide +kernel
theorem uniq_eq {l m : List ByteArray} (hm : Srt m) (h : ∀ x, x ∈ l ↔ x ∈ m) : uniqS l = m := srt_ext (srt_uniqS l) hm fun x => by rw [mem_uniqS, h]
theorem exX_free0 : freeE exX [] = [⟨#[97]⟩, ⟨#[121]⟩] := by decide +kernel
theorem exM_free0 : freeE exM [] = [] := by decide +kernel
theorem exX_free : uniqS (freeE exX []) = [⟨#[97]⟩, ⟨#[121]⟩] := by
  rw [exX_free0]
  exact uniq_eq (by unfold Srt ltB; decide +kernel) fun _ => Iff.rfl
theorem exM_free : uniqS (freeE exM []) = [] := by
  rw [exM_free0]
  exact uniq_eq srt_nil fun _ => Iff.rfl
theorem exX_in : scopedE exX [⟨#[97]⟩, ⟨#[121]⟩] = 0 := by decide +kernel
theorem exX_out : scopedE exX [⟨#[97]⟩, ⟨#[120]⟩] = 13 := by decide +kernel
theorem ex_with1 : withS [] [⟨#[97]⟩, ⟨#[121]⟩] = (some [⟨#[97]⟩, ⟨#[121]⟩], 0) := by decide +kernel
theorem ex_with2 : withS [] [⟨#[97]⟩, ⟨#[120]⟩] = (some [⟨#[97]⟩, ⟨#[120]⟩], 0) := by decide +kernel
theorem exX_bulk : exX.bulk ≤ 1000 := by decide +kernel
theorem exM_bulk : exM.bulk ≤ 1000 := by decide +kernel

theorem results_cellE {P : Program} {fn : Func} {p : Tmp} {ty : TypeId} (h : fn.results = #[.cell p ty]) (tmps : Array Value) (w : World) (g : Nat) (v : Value)
    (hp : tmps.getD p undef = .pointer (some ⟨g, 0, none⟩)) (hl : (loadVar ty ⟨g, 0, none⟩).run P w = .ok v w) : (results fn tmps).run P w = .ok v w := by
  have hp' : tmps[p]?.getD undef = .pointer (some ⟨g, 0, none⟩) := by simpa using hp
  simp [results, h, hp', asAddr, hl]
theorem load_ex {w : World} {g : Nat} {k : Int} {s : ByteArray} {n l : Value} (hb : Blk w g 25 [.int .i64 k, .string s, n, l]) :
    (loadVar 25 ⟨g, 0, none⟩).run Tryz.prog w = .ok (.agg #[.int .i64 k, .string s, n, l]) w := by
  refine run_loadVar_mid w g 0 25 [.int .i64 k, .string s, n, l] _ (fun j v hv => ?_) Tryz.underlying25 rfl (by kernel_rfl)
  rw [Nat.zero_add, hb.at, hv]
/-- A block that is made, one step. -/
theorem alloc_step (w : World) (t : TypeId) (cs : List Value) : ∃ W, w.alloc (.cells cs.toArray t) = W ∧ Blk W w.heap.size t cs ∧ Bel w W ∧ W.heap.size = w.heap.size + 1 :=
  ⟨_, rfl, Blk.new w t cs, Bel.alloc _ _, World.size_alloc _ _⟩
theorem names_blk {W : World} {b : Nat} {l : List ByteArray} {n : Nat} {cs : List Value} (h : Blk W b 9 cs) (hcs : cs = strsV l) (hn : l.length = n) : NamesAt W (some ⟨b, 0, none⟩) l ∧ RowAt0 W (.slice (some ⟨b, 0, none⟩) n n) (strsV l) ∧ RowE W (.slice (some ⟨b, 0, none⟩) n n) (strsV l) := by
  subst hn hcs
  have h1 : RowAt0 W (.slice (some ⟨b, 0, none⟩) l.length l.length) (strsV l) := .inr ⟨b, 0, l.length, by rw [strsV_length], by rw [strsV_length]; exact Nat.le_refl _, h.lt, fun j hj => by rw [Nat.zero_add, h.at]; simp [hj]⟩
  exact ⟨(names_of_row0 h1).2.2, h1, h1.toE⟩

set_option maxHeartbeats 400000 in
theorem n_c (s : ByteArray) (w : World) : Calls Tryz.prog 27 #[.string s] w (RetBel (.agg #[.int .i64 3, .string s, .slice none 0 0, .slice none 0 0]) w) := by
  go_enter Tryz.func27, Tryz.ntmps27
  go_wp2_with fail
  refine bodyPost_ret (results_cellE rfl _ _ w.heap.size _ rfl (load_ex (Blk.new w 25 [.int .i64 3, .string s, .slice none 0 0, .slice none 0 0]))) rfl ?_
  exact ⟨rfl, by (repeat (first | exact Bel.refl _ | assumption | refine Bel.to_drewN ?_ _ | refine Bel.to_drew ?_ | refine Bel.to_setCell ?_ (by first | exact Nat.le_refl _ | (simp; done) | (simp; omega) | omega) _ | refine Bel.to_alloc ?_ _ | refine Bel.trans ?_ (by assumption)))⟩

set_option maxRecDepth 100000 in
set_option maxHeartbeats 8000000 in
theorem ealive_c (w : World) (hE : EnvX w) : Calls Tryz.prog 9 #[] w (RetBel (.bool true) w) := by
  have hen := fun args w1 => enters_of Tryz.func27 (by kernel_rfl) rfl args w1
  have HN := Lib.hid n_c
  have HE := Lib.hid hE
  have HNW := Lib.hid (fun sl l W (hE : Env W) (hv : RowAt0 W sl (strsV l)) h1 h2 => new_c sl l W hE hv h1 h2)
  clear hE
  go_enter Tryz.func9, Tryz.ntmps9
  go_wp2_with fail
  refine (HN.out _ _).mono ?_
  rintro e1 w1 ⟨rfl, hb1⟩
  go_wp2_with fail
  refine (HN.out _ _).mono ?_
  rintro e2 w2 ⟨rfl, hb2⟩
  go_wp2_with fail
  refine (HN.out _ _).mono ?_
  rintro e3 w3 ⟨rfl, hb3⟩
  have HB3 := Lib.hid (hb1.trans (hb2.trans hb3))
  clear hb1 hb2 hb3
  go_wp2_with fail
  obtain ⟨V1, h1, k1, l1, s1⟩ := alloc_step w3 25 [.int .i64 3, .string ⟨#[120]⟩, .slice none 0 0, .slice none 0 0, .int .i64 3, .string ⟨#[121]⟩, .slice none 0 0, .slice none 0 0]
  obtain ⟨V2, h2, k2, l2, s2⟩ := alloc_step V1 25 [.int .i64 3, .string ⟨#[97]⟩, .slice none 0 0, .slice none 0 0, .int .i64 5, .string ⟨#[43]⟩, .slice none 0 0, .slice (some ⟨w3.heap.size, 0, none⟩) 2 2]
  obtain ⟨V3, h3, k3, l3, s3⟩ := alloc_step V2 25 [.int .i64 12, .string ⟨#[120]⟩, .slice none 0 0, .slice (some ⟨w3.heap.size + 1, 0, none⟩) 2 2]
  obtain ⟨V4, h4, k4, l4, s4⟩ := alloc_step V3 9 [.string ⟨#[107]⟩, .string ⟨#[109]⟩]
  rw [h1, h2, h3, h4]
  rw [s1] at k2 s2
  rw [s2] at k3 s3
  rw [s3] at k4
  have xt : ExAt V4 exX (.slice none 0 0) (.slice (some ⟨w3.heap.size + 1, 0, none⟩) 2 2) := by
    have hb := (k2.bel l3).bel l4
    refine exAt_mk (by decide) (rowE_nil _) (exs_two hb rfl (exAt_leaf _ _ _ (by decide)) (exAt_mk (by decide) (rowE_nil _) (exs_two (((k1.bel l2).bel l3).bel l4) rfl (exAt_leaf _ _ _ (by decide)) (exAt_leaf _ _ _ (by decide))) rfl (((k1.bel l2).bel l3).bel l4).lt)) rfl hb.lt
  have XT := Lib.hid xt
  have X3 := Lib.hid (k3.bel l4)
  have NM := Lib.hid (names_blk (l := [⟨#[107]⟩, ⟨#[109]⟩]) k4 rfl rfl).2.2
  have HB4 := Lib.hid (HB3.out.trans (l1.trans (l2.trans (l3.trans l4))))
  clear h1 h2 h3 h4 k1 k2 k3 k4 l1 l2 l3 l4 s1 s2 s3 xt HB3
  refine (HN.out _ _).mono ?_
  rintro e5 w5 ⟨rfl, hb5⟩
  have XT5 := Lib.hid (ExAt.bel hb5 _ XT.out)
  have X35 := Lib.hid (X3.out.bel hb5)
  have NM5 := Lib.hid (NM.out.bel hb5)
  have HB5 := Lib.hid (HB4.out.trans hb5)
  clear hb5 XT X3 NM HB4
  go_wp2_with fail
  obtain ⟨U1, h1, k1, l1, s1⟩ := alloc_step w5 25 [.int .i64 0, .string ⟨#[49]⟩, .slice none 0 0, .slice none 0 0, .int .i64 3, .string ⟨#[107]⟩, .slice none 0 0, .slice none 0 0]
  obtain ⟨U2, h2, k2, l2, s2⟩ := alloc_step U1 25 [.int .i64 17, .string ⟨#[]⟩, .slice (some ⟨w3.heap.size + 1 + 1 + 1, 0, none⟩) 2 2, .slice (some ⟨w5.heap.size, 0, none⟩) 2 2]
  obtain ⟨U3, h3, k3, l3, s3⟩ := alloc_step U2 9 [.string ⟨#[97]⟩, .string ⟨#[121]⟩]
  rw [h1, h2, h3]
  rw [s1] at k2 s2
  rw [s2] at k3 s3
  have mt : ExAt U3 exM (.slice (some ⟨w3.heap.size + 1 + 1 + 1, 0, none⟩) 2 2) (.slice (some ⟨w5.heap.size, 0, none⟩) 2 2) :=
    exAt_mk (by decide) (((NM5.out.bel l1).bel l2).bel l3) (exs_two ((k1.bel l2).bel l3) rfl (exAt_leaf _ _ _ (by decide)) (exAt_leaf _ _ _ (by decide))) rfl ((k1.bel l2).bel l3).lt
  have hbu := l1.trans (l2.trans l3)
  have MT := Lib.hid mt
  have MB := Lib.hid (k2.bel l3)
  have XT := Lib.hid (ExAt.bel hbu _ XT5.out)
  have XB := Lib.hid (X35.out.bel hbu)
  have HBU := Lib.hid (HB5.out.trans hbu)
  have hn1 := HNW.out (.slice (some ⟨w5.heap.size + 1 + 1, 0, none⟩) 2 2) [⟨#[97]⟩, ⟨#[121]⟩] U3 (HE.out.1.bel HBU.out) (names_blk (l := [⟨#[97]⟩, ⟨#[121]⟩]) k3 rfl rfl).2.1 (by decide) (by decide)
  rw [ex_with1] at hn1
  have HN1 := Lib.hid hn1
  clear h1 h2 h3 k1 k2 k3 l1 l2 l3 s1 s2 s3 mt hbu hn1 XT5 X35 NM5 HB5
  refine HN1.out.mono ?_
  rintro e6 w6 ⟨hb6, p6, rfl, hp6⟩
  obtain ⟨q6, rfl⟩ := scope_ptr hp6
  have HP6 := Lib.hid hp6
  have HB6 := Lib.hid hb6
  clear hb6 hp6 HN1
  go_wp2_with fail
  obtain ⟨Y1, h1, k1, l1, s1⟩ := alloc_step w6 9 [.string ⟨#[97]⟩, .string ⟨#[120]⟩]
  rw [h1]
  have hn1 := HNW.out (.slice (some ⟨w6.heap.size, 0, none⟩) 2 2) [⟨#[97]⟩, ⟨#[120]⟩] Y1 (HE.out.1.bel (HBU.out.trans (HB6.out.trans l1))) (names_blk (l := [⟨#[97]⟩, ⟨#[120]⟩]) k1 rfl rfl).2.1 (by decide) (by decide)
  rw [ex_with2] at hn1
  have HN1 := Lib.hid hn1
  have L1 := Lib.hid l1
  clear h1 k1 l1 s1 hn1
  refine HN1.out.mono ?_
  rintro e7 w7 ⟨hb7, p7, rfl, hp7⟩
  obtain ⟨q7, rfl⟩ := scope_ptr hp7
  have hb := HB6.out.trans (L1.out.trans hb7)
  have XT7 := Lib.hid (ExAt.bel hb _ XT.out)
  have MT7 := Lib.hid (ExAt.bel hb _ MT.out)
  have XB7 := Lib.hid (XB.out.bel hb)
  have MB7 := Lib.hid (MB.out.bel hb)
  have HP67 := Lib.hid (HP6.out.bel (L1.out.trans hb7))
  have HP7 := Lib.hid hp7
  have HB7 := Lib.hid (HBU.out.trans hb)
  have hcx := fun W (hW : Bel w7 W) => check_x exX _ _ W (HE.out.bel (HB7.out.trans hW)) (Nat.le_trans exX_bulk (by decide)) (ExAt.bel hW _ XT7.out)
  have hfx := fun W (hW : Bel w7 W) => free_c exX _ _ W (Nat.le_trans exX_bulk (by decide)) (ExAt.bel hW _ XT7.out)
  have hcm := fun W (hW : Bel w7 W) => check_x exM _ _ W (HE.out.bel (HB7.out.trans hW)) (Nat.le_trans exM_bulk (by decide)) (ExAt.bel hW _ MT7.out)
  have hfm := fun W (hW : Bel w7 W) => free_c exM _ _ W (Nat.le_trans exM_bulk (by decide)) (ExAt.bel hW _ MT7.out)
  have hs1 := fun W (hW : Bel w7 W) => scoped_e exX.bulk exX (Nat.le_refl _) (Nat.le_trans exX_bulk (by decide)) _ _ _ _ W (HE.out.bel (HB7.out.trans hW)) (HP67.out.bel hW) (ExAt.bel hW _ XT7.out)
  have hs2 := fun W (hW : Bel w7 W) => scoped_e exX.bulk exX (Nat.le_refl _) (Nat.le_trans exX_bulk (by decide)) _ _ _ _ W (HE.out.bel (HB7.out.trans hW)) (HP7.out.bel hW) (ExAt.bel hW _ XT7.out)
  rw [exX_check] at hcx
  rw [exM_check] at hcm
  rw [exX_free] at hfx
  rw [exM_free] at hfm
  rw [exX_in] at hs1
  rw [exX_out] at hs2
  have HCX := Lib.hid hcx
  have HFX := Lib.hid hfx
  have HCM := Lib.hid hcm
  have HFM := Lib.hid hfm
  have HS1 := Lib.hid hs1
  have HS2 := Lib.hid hs2
  have x0 := XB7.out.at 0
  have x1 := XB7.out.at 1
  have x2 := XB7.out.at 2
  have x3 := XB7.out.at 3
  clear hb7 hp7 hb XT MT XB MB HP6 HB6 L1 HN1 HNW HBU hcx hfx hcm hfm hs1 hs2 HN HE
  go_wp2_with fail
  refine (HCX.out _ (Bel.refl _)).mono ?_
  rintro e8 w8 ⟨rfl, hb8⟩
  have y0 := hb8.keep x0
  have y1 := hb8.keep x1
  have y2 := hb8.keep x2
  have y3 := hb8.keep x3
  have HB8 := Lib.hid hb8
  clear x0 x1 x2 x3 hb8 HCX
  go_wp2_with fail
  refine (HFX.out _ HB8.out).mono ?_
  rintro e9 w9 ⟨f9, n9, c9, rfl, hn9, hr9, hb9⟩
  have HN9 := Lib.hid hn9
  have HR9 := Lib.hid hr9
  have HB9 := Lib.hid (HB8.out.trans hb9)
  clear y0 y1 y2 y3 hb9 hn9 hr9 HFX HB8
  go_wp2_with fail
  obtain ⟨Y1, h1, k1, l1, s1⟩ := alloc_step w9 9 [.string ⟨#[97]⟩, .string ⟨#[121]⟩]
  rw [h1]
  have HSM := Lib.hid (esame_c [⟨#[97]⟩, ⟨#[121]⟩] [⟨#[97]⟩, ⟨#[121]⟩] f9 (some ⟨w9.heap.size, 0, none⟩) n9 c9 2 2 Y1 HN9.out rfl (by have := HN9.out; simp at this; omega) (by omega) ((names_of_row0 HR9.out).2.2.bel l1) (names_blk (l := [⟨#[97]⟩, ⟨#[121]⟩]) k1 rfl rfl).1)
  have HBY := Lib.hid (HB9.out.trans l1)
  clear h1 k1 l1 s1 HN9 HR9
  refine HSM.out.mono ?_
  rintro e10 w10 ⟨rfl, hb10⟩
  have hb := HBY.out.trans hb10
  have m0 := hb.keep (MB7.out.at 0)
  have m1 := hb.keep (MB7.out.at 1)
  have m2 := hb.keep (MB7.out.at 2)
  have m3 := hb.keep (MB7.out.at 3)
  have HB10 := Lib.hid hb
  clear hb hb10 HSM
  go_wp2_with fail
  refine (HCM.out _ HB10.out).mono ?_
  rintro e11 w11 ⟨rfl, hb11⟩
  have z0 := hb11.keep m0
  have z1 := hb11.keep m1
  have z2 := hb11.keep m2
  have z3 := hb11.keep m3
  have HB11 := Lib.hid (HB10.out.trans hb11)
  clear m0 m1 m2 m3 hb11
  go_wp2_with fail
  refine (HFM.out _ HB11.out).mono ?_
  rintro e12 w12 ⟨f12, n12, c12, rfl, hn12, hr12, hb12⟩
  obtain rfl : n12 = 0 := by rw [← hn12]; rfl
  have hb := HB11.out.trans hb12
  have x0 := hb.keep (XB7.out.at 0)
  have x1 := hb.keep (XB7.out.at 1)
  have x2 := hb.keep (XB7.out.at 2)
  have x3 := hb.keep (XB7.out.at 3)
  have HB12 := Lib.hid hb
  clear z0 z1 z2 z3 hb hb12 hn12 hr12
  go_wp2_with fail
  refine (HS1.out _ HB12.out).mono ?_
  rintro e13 w13 ⟨rfl, hb13⟩
  have y0 := hb13.keep x0
  have y1 := hb13.keep x1
  have y2 := hb13.keep x2
  have y3 := hb13.keep x3
  have HB13 := Lib.hid (HB12.out.trans hb13)
  clear x0 x1 x2 x3 hb13
  go_wp2_with fail
  refine (HS2.out _ HB13.out).mono ?_
  rintro e14 w14 ⟨rfl, hb14⟩
  go_wp2_with fail
  go_ret
  exact ⟨rfl, HB7.out.trans (HB13.out.trans hb14)⟩
end Go.Proofs.YtgfikaagoflbbaaGreatDoor

namespace Go.Proofs.YtgfikaagoflbbaaGreatDoor
open Go.RowKit

theorem parts_of_exs {W : World} {b off : Nat} {l : List Ex} (h : ExsAt W b off l) : PartsAt W (some ⟨b, off, none⟩) l := by
  intro i x hx
  obtain ⟨vn, vl, c0, c1, c2, c3, h1⟩ := h.get hx
  obtain ⟨na, la, nn, nc, m, lc, rfl, rfl, _⟩ := h1.opened
  exact ⟨b, off, na, nn, nc, la, m, lc, rfl, c0, c1, c2, c3, h1⟩
theorem sameE_comm (a b : Ex) : sameE b a = sameE a b := by
  rw [Bool.eq_iff_iff, sameE_iff, sameE_iff, eq_comm]
theorem sameE_refl (a : Ex) : sameE a a = true := (sameE_iff a a).2 rfl
/-- 1 or 0: more than 0? -/
theorem oneIf_pos (b : Bool) : decide (0 < oneIf b) = b := by cases b <;> rfl
end Go.Proofs.YtgfikaagoflbbaaGreatDoor
