/-
  logic: the walks of what is wrong with one.
-/
import Derived.Test.YtchbhcjhoocjaaaGreatDoorLGB
namespace Go.Proofs.YtchbhcjhoocjaaaGreatDoor
open Go.RowKit

set_option maxRecDepth 100000 in
set_option maxHeartbeats 4000000 in
theorem ucheck_c (t : Te) (a : Option Addr) (n c : Nat) (w : World) (hE : EnvX w) (hn : t.l.length = n) (hn2 : n ≤ 1073741824) (hbk : ∀ x ∈ t.l, x.bulk ≤ 1073741824) (hps : PartsAt w a t.l) :
    Calls Tryz.prog 97 #[.agg #[.bool t.any, .bool t.no, .slice a n c]] w (RetBel (.int .i64 (CheckT t)) w) := by
  obtain ⟨any, no, l⟩ := t
  have HC := Lib.hid (fun W (hW : Bel w W) => ueach_c l a n c W (hE.bel hW) hn hn2 hbk (hps.bel hW))
  unfold CheckT
  dsimp only at hn ⊢
  rw [hn]
  obtain ⟨z, hz⟩ : ∃ z, ((n : Int) == 0) = z := ⟨_, rfl⟩
  rw [show decide (n = 0) = z from by rw [← hz, Bool.eq_iff_iff]; simp]
  obtain ⟨R, hR⟩ : ∃ R, nz (l.map CheckE) = R := ⟨_, rfl⟩
  rw [hR] at HC ⊢
  clear hE hn hbk hps hR
  cases any <;> cases no <;> cases z
  all_goals
    go_enter Tryz.func97, Tryz.ntmps97
    go_wp2_with (go_at_call 127; refine (HC.out _ (by (repeat (first | exact Bel.refl _ | assumption | refine Bel.to_drewN ?_ _ | refine Bel.to_drew ?_ | refine Bel.to_setCell ?_ (by first | exact Nat.le_refl _ | (simp; done) | (simp; omega) | omega) _ | refine Bel.to_alloc ?_ _ | refine Bel.trans ?_ (by assumption))))).mono ?_; rintro e w1 ⟨rfl, hb1⟩)
    go_ret
    first
      | exact ⟨rfl, by (repeat (first | exact Bel.refl _ | assumption | refine Bel.to_drewN ?_ _ | refine Bel.to_drew ?_ | refine Bel.to_setCell ?_ (by first | exact Nat.le_refl _ | (simp; done) | (simp; omega) | omega) _ | refine Bel.to_alloc ?_ _ | refine Bel.trans ?_ (by assumption)))⟩
      | (simp only [Bool.and_self, Bool.and_false, Bool.false_and, Bool.and_true, Bool.true_and, Bool.bne_false, Bool.bne_true, Bool.or_false, Bool.false_or, Bool.or_true, Bool.true_or, Bool.not_false, Bool.not_true]; exact ⟨rfl, by (repeat (first | exact Bel.refl _ | assumption | refine Bel.to_drewN ?_ _ | refine Bel.to_drew ?_ | refine Bel.to_setCell ?_ (by first | exact Nat.le_refl _ | (simp; done) | (simp; omega) | omega) _ | refine Bel.to_alloc ?_ _ | refine Bel.trans ?_ (by assumption)))⟩)

/-- Function values without arguments that answer errors. -/
def FunsAt (W : World) (fs : List Value) (es : List Nat) : Prop :=
  fs.length = es.length ∧ ∀ (j : Nat) (v : Value) (e : Nat), fs[j]? = some v → es[j]? = some e → ∃ h caps, v = .func (.func h) #[] caps ∧ (∀ args w, (callFunc h args).run Tryz.prog w = .ok (.enter h args) w) ∧
    ∀ W', Bel W W' → Calls Tryz.prog h caps W' (RetBel (.int .i64 e) W')
theorem nz_drop (l : List Nat) (i x : Nat) (h : l[i]? = some x) : nz (l.drop i) = if x = 0 then nz (l.drop (i + 1)) else x := by
  have := nz_map_drop id l i x h
  simpa using this
set_option maxRecDepth 100000 in
set_option maxHeartbeats 4000000 in
theorem lfirst_c (fs : List Value) (es : List Nat) (b t n c : Nat) (w : World) (hn : fs.length = n) (hn2 : n ≤ 1073741824) (hblk : Blk w b t fs) (hfs : FunsAt w fs es) :
    Calls Tryz.prog 62 #[.slice (some ⟨b, 0, none⟩) n c] w (RetBel (.int .i64 (nz es)) w) := by
  obtain ⟨R, hR⟩ : ∃ R, nz es = R := ⟨_, rfl⟩
  rw [hR]
  have HR := Lib.hid hR
  have HM := Lib.hid hn
  have HB := Lib.hid hblk
  have HF := Lib.hid hfs
  clear hR hn hblk hfs
  go_enter Tryz.func62, Tryz.ntmps62
  go_wp2_with fail
  go_loopw [8] (fun i wr => ∃ j : Nat, j ≤ n ∧ i = .int .i64 j ∧ Bel w wr ∧ nz (es.drop j) = R) (fun i _ => n - (intOf i).toNat)
  case atStart => exact ⟨0, Nat.zero_le _, rfl, Bel.refl _, HR.out⟩
  case round =>
    obtain ⟨j, hj, rfl, hbel, hck⟩ := hrel
    by_cases hlt : j < n
    · have hlti : (j : Int) < n := by omega
      obtain ⟨v, hv⟩ : ∃ v, fs[j]? = some v := ⟨_, List.getElem?_eq_getElem (by have := HM.out; omega)⟩
      obtain ⟨e, he⟩ : ∃ e, es[j]? = some e := ⟨_, List.getElem?_eq_getElem (by have := HM.out; have := HF.out.1; omega)⟩
      obtain ⟨h, caps, rfl, hen, hcall⟩ := HF.out.2 j v e hv he
      have f0 : wr.cell? ⟨b, 0 + j, none⟩ = some (.func (.func h) #[] caps) := by rw [Nat.zero_add, (HB.out.bel hbel).at, hv]
      rw [Nat.zero_add] at f0
      rw [nz_drop es j e he] at hck
      have HC := Lib.hid (hcall wr hbel)
      have HBE := Lib.hid hbel
      have HCK := Lib.hid hck
      clear hcall hbel hck hv he
      go_wp2_with fail
      refine HC.out.mono ?_
      rintro e2 w2 ⟨rfl, hb2⟩
      have HB2 := Lib.hid (HBE.out.trans hb2)
      clear hb2 HC
      by_cases hk0 : e = 0
      · subst hk0
        go_wp2_with fail
        exact ⟨⟨j + 1, by omega, by go_num, HB2.out, by have := HCK.out; simpa using this⟩, by simp [intOf]; omega⟩
      · have hc2 : ((e : Int) == 0) = false := by simpa using hk0
        have hc3 : ((e : Int) != 0) = true := by simpa using hk0
        have HF : Hid (e = R) := Lib.hid (by have := HCK.out; simpa [hk0] using this)
        clear hk0 HCK
        go_wp2_with fail
        go_ret
        exact ⟨ret_int (by rw [HF.out]), HB2.out⟩
    · obtain rfl : j = n := by omega
      rw [List.drop_of_length_le (by have := HM.out; have := HF.out.1; omega)] at hck
      have hck : 0 = R := hck
      subst hck
      go_wp2_with fail
      go_ret
      exact ⟨rfl, hbel⟩

set_option maxHeartbeats 400000 in
theorem lnotright_c (s : ByteArray) (hs : s.size ≤ 4294967280) (w : World) (hE : Env w) :
    Calls Tryz.prog 95 #[.string s] w fun e w' => e = .returned (.bool (!rightS s)) ∧ Bel w w' := by
  have h := right_c s hs w hE
  obtain ⟨R, hR⟩ : ∃ R, (wordsS s).isSome = R := ⟨_, rfl⟩
  unfold rightS
  rw [hR] at h ⊢
  have H := Lib.hid h
  clear h hR
  go_enter Tryz.func95, Tryz.ntmps95
  go_wp2_with fail
  refine H.out.mono ?_
  rintro e w1 ⟨rfl, hb⟩
  go_wp2_with fail
  go_ret
  exact ⟨rfl, hb⟩
theorem asks_lnotright : AsksS 95 (fun s => !rightS s) (fun s => s.size ≤ 4294967280) := ⟨enters_of Tryz.func95 (by kernel_rfl) rfl, fun s w h hE => lnotright_c s h w hE⟩
set_option maxRecDepth 100000 in
set_option maxHeartbeats 4000000 in
theorem named_c (l : List ByteArray) (a : Option Addr) (n c : Nat) (w : World) (hE : EnvX w) (hn : l.length = n) (hc : n ≤ c) (hn2 : n ≤ 1073741824) (hs : ∀ x ∈ l, x.size ≤ 1073741824) (hat : NamesAt w a l) :
    Calls Tryz.prog 64 #[.slice a n c] w (RetBel (.int .i64 (namedS l)) w) := by
  have hrow := hat.row hn hc
  have HCF := Lib.hid (containsFunc_c (.slice a n c) l _ _ _ asks_lnotright w hE.1 (fun x hx => by have := hs x hx; omega) hrow (by omega))
  have HV := Lib.hid (fun W (hW : Bel w W) => values_s W l (.slice a n c) W (Bel.refl _) (hrow.bel hW))
  have HSO := Lib.hid (fun W0 W p (h : IterS W0 l W p) => sorted_s W0 l W p h (by omega) (fun x hx => by have := hs x hx; unfold maxLen; omega))
  have HCO := Lib.hid (fun W0 W v (h : OwnS W0 l W v) => compact_s W0 l W v h (by omega))
  have hul := uniq_lt l
  rw [hn] at hul
  unfold namedS
  obtain ⟨q, hq⟩ : ∃ q, (l.any fun x => !rightS x) = q := ⟨_, rfl⟩
  obtain ⟨d, hd⟩ : ∃ d, decide l.Nodup = d := ⟨_, rfl⟩
  obtain ⟨u, hu⟩ : ∃ u, (uniqS l).length = u := ⟨_, rfl⟩
  have hul2 : u ≤ 1073741824 := by rw [← hu]; have := uniqS_len l; omega
  rw [hq] at HCF ⊢
  rw [hd, hu] at hul
  rw [hu] at HCO
  rw [show (if ¬ l.Nodup then 8 else 0) = if d = false then 8 else 0 from by rw [← hd]; simp]
  obtain ⟨R, hR⟩ : ∃ R, (if q = true then 6 else if d = false then 8 else 0) = R := ⟨_, rfl⟩
  rw [hR]
  have HR := Lib.hid hR
  have hul3 : decide ((u : Int) < n) = !d := by rw [← hul, decide_eq_decide]; omega
  have HU := Lib.hid hul3
  clear hrow hE hn hs hat hq hd hu hul hul3 hR
  go_enter Tryz.func64, Tryz.ntmps64
  go_wp2_with fail
  refine HCF.out.mono ?_
  rintro e1 w1 ⟨rfl, hb1⟩
  cases q with
  | true =>
    go_wp2_with fail
    go_ret
    exact ⟨ret_int (by rw [← HR.out]; rfl), hb1⟩
  | false =>
    go_wp2_with fail
    refine (HV.out _ hb1).mono ?_
    rintro e2 w2 ⟨p, rfl, hp, hb2⟩
    go_wp2_with fail
    refine (HSO.out _ _ _ hp).mono ?_
    rintro e3 w3 ⟨sa, sn, sc, rfl, hown, hb3⟩
    go_wp2_with fail
    refine (HCO.out _ _ _ hown).mono ?_
    rintro e4 w4 ⟨ca, cc, rfl, hb4⟩
    have HB := Lib.hid (hb1.trans hb4)
    clear hb1 hb2 hb3 hb4 hp hown
    have hu := HU.out
    cases d with
    | true =>
      have hlt : ¬ (u : Int) < n := by simpa using hu
      clear hu
      go_wp2_with fail
      go_ret
      exact ⟨ret_int (by rw [← HR.out]; rfl), HB.out⟩
    | false =>
      have hlt : (u : Int) < n := by simpa using hu
      clear hu
      go_wp2_with fail
      go_ret
      exact ⟨ret_int (by rw [← HR.out]; rfl), HB.out⟩

theorem lisEmpty (s : ByteArray) : s.toList.isEmpty = decide (s.size = 0) := by
  rw [Lib.toList_data, Lib.size_eq]
  cases s.data.toList <;> simp
set_option maxRecDepth 100000 in
set_option maxHeartbeats 4000000 in
theorem bare_c (l : Lg) (q : LgQ) (w : World) (hat : LgAt w l q) (hb : l.bulk ≤ 1073741824) : Calls Tryz.prog 93 #[lgV l q] w (RetBel (.bool (bareL l)) w) := by
  obtain ⟨nea, nen, nec, lea, len, lec, ia, im, ic, oa, om, oc, ra, rm, rc, na, nm, nc, la, lm, lc, rfl, ⟨him, hom, hrm, hnm, hlm⟩, ⟨hci, hco, hcr, hcn, hcl⟩, ⟨hbi, hbo, hbr, hbn, hbl⟩, hex, hpi, hpo, hpr, hpn, hpl⟩ := LgAt.opened hat
  unfold lgV
  dsimp only
  unfold bareL
  rw [him, hom, hrm]
  have he := lisEmpty l.p
  obtain ⟨z, hz⟩ : ∃ z, ((im : Int) + om + rm == 0) = z := ⟨_, rfl⟩
  rw [show decide (im + om + rm = 0) = z from by rw [← hz, Bool.eq_iff_iff]; simp; omega]
  obtain ⟨p, hp⟩ : ∃ p, l.p = p := ⟨_, rfl⟩
  rw [hp] at he ⊢
  have hi2 : im ≤ 1073741824 := by omega
  have ho2 : om ≤ 1073741824 := by omega
  have hr2 : rm ≤ 1073741824 := by omega
  by_cases h0 : p.size = 0
  · obtain rfl : p = ⟨#[]⟩ := ByteArray.ext (Array.eq_empty_of_size_eq_zero h0)
    clear him hom hrm hnm hlm hex hpi hpo hpr hpn hpl hat he h0 hp
    go_enter Tryz.func93, Tryz.ntmps93
    go_wp2_with fail
    go_ret
    exact ⟨ret_bool (by simp), by (repeat (first | exact Bel.refl _ | assumption | refine Bel.to_drewN ?_ _ | refine Bel.to_drew ?_ | refine Bel.to_setCell ?_ (by first | exact Nat.le_refl _ | (simp; done) | (simp; omega) | omega) _ | refine Bel.to_alloc ?_ _ | refine Bel.trans ?_ (by assumption)))⟩
  · have hpe : decide (p = (⟨#[]⟩ : ByteArray)) = false := by
      rw [decide_eq_false_iff_not]; rintro rfl; exact h0 rfl
    rw [decide_eq_false h0] at he
    have he2 : (!p.toList.isEmpty) = true := by rw [he]; rfl
    rw [hpe]
    clear him hom hrm hnm hlm hex hpi hpo hpr hpn hpl hat h0 hp hpe
    go_enter Tryz.func93, Tryz.ntmps93
    go_wp2_with fail
    go_ret
    exact ⟨rfl, by (repeat (first | exact Bel.refl _ | assumption | refine Bel.to_drewN ?_ _ | refine Bel.to_drew ?_ | refine Bel.to_setCell ?_ (by first | exact Nat.le_refl _ | (simp; done) | (simp; omega) | omega) _ | refine Bel.to_alloc ?_ _ | refine Bel.trans ?_ (by assumption)))⟩

end Go.Proofs.YtchbhcjhoocjaaaGreatDoor
