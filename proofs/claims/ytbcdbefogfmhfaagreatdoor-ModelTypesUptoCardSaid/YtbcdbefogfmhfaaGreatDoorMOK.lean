/-
  model: the walk of named.
-/
import Derived.Test.YtbcdbefogfmhfaaGreatDoorMXA
import Derived.Test.YtbcdbefogfmhfaaGreatDoorOXA
import Derived.Deep.RegionHeld3
import Derived.Deep.DeepCutAuto
namespace Go.Proofs.YtbcdbefogfmhfaaGreatDoor
open Go.RowKit Go.Maps

def RetNamed (u w : World) (cb bb tb : Nat) (m : Md) (q : MdQ) (e : Ending) (w' : World) : Prop := e = .returned (.int .i64 (namedM m)) ∧ Bel u w' ∧ But bb tb w w' ∧ Blk w' cb 93 (ckL m q bb tb) ∧ (namedM m = 0 → ByM w' bb m.things.length (atT m.things) ∧ MapV w' tb m.typ.length int0 (typC m.typ))
theorem NmB.ret {u w W : World} {cb bb tb xb : Nat} {m : Md} {q : MdQ} (h : NmB u w cb bb tb xb m q W) {E : Nat} (hE : E = namedM m) (h0 : E ≠ 0) : RetNamed u w cb bb tb m q (.returned (.int .i64 E)) W := ⟨by rw [hE], h.bel, h.but, h.bc, fun h1 => absurd (hE.trans h1) h0⟩
set_option maxRecDepth 100000 in
set_option maxHeartbeats 16000000 in
theorem mnamed_c (u w : World) (cb bb tb : Nat) (m : Md) (q : MdQ) (hE : Env u) (hu : Bel u w) (hc : Blk w cb 93 (ckL m q bb tb)) (hm : ByM w bb 0 fun _ => none) (ht : MapV w tb 0 int0 fun _ => none) (h1 : u.heap.size ≤ bb) (h2 : u.heap.size ≤ tb) (h3 : bb ≠ tb) (h4 : cb ≠ bb ∧ cb ≠ tb)
    (hat : MdAt u m q) (hbk : m.bulk ≤ 1048576) : Calls Tryz.prog 50 #[.pointer (some ⟨cb, 0, none⟩)] w (RetNamed u w cb bb tb m q) := by
  obtain ⟨V, hV, hxV, hbV, hsV⟩ := alloc_step w 71 [.pointer (some ⟨cb, 0, none⟩)]
  obtain ⟨xb, hxb⟩ : ∃ x, w.heap.size = x := ⟨_, rfl⟩
  have hlb := hm.lt
  have hlt := ht.lt
  have hsz : m.id.size ≤ 1048576 ∧ m.nm.size ≤ 1048576 ∧ m.sp.size ≤ 1048576 := by unfold Md.bulk at hbk; omega
  have HNB : Hid (NmB u w cb bb tb xb m q V) := Lib.hid ⟨hu.trans hbV, hbV.but _ _, hc.bel hbV, by rw [← hxb]; exact hxV⟩
  have HI := Lib.hid fun W (hb : Bel V W) => id_c cb bb tb 0 0 0 m q (fun _ => none) m.id W (hE.bel ((hu.trans hbV).trans hb)) ((hc.bel hbV).bel hb) ((hm.bel hbV).bel hb) (by omega) (by omega)
  have x0 : V.cell? ⟨xb, 0, none⟩ = some (.pointer (some ⟨cb, 0, none⟩)) := HNB.out.bx.at 0
  have c0 : V.cell? ⟨cb, 0, none⟩ = some (.string m.id) := HNB.out.bc.at 0
  have HTY : Hid (MapV V tb 0 int0 fun _ => none) := Lib.hid (ht.bel hbV)
  have HF : Hid (u.heap.size ≤ bb ∧ u.heap.size ≤ tb ∧ bb ≠ tb ∧ cb ≠ bb ∧ cb ≠ tb ∧ xb ≠ bb ∧ xb ≠ tb ∧ w.heap.size = xb ∧ u.heap.size ≤ w.heap.size ∧ bb < xb ∧ tb < xb) := Lib.hid ⟨h1, h2, h3, h4.1, h4.2, by omega, by omega, hxb, hu.size, by omega, by omega⟩
  have HV := Lib.hid hV
  have HSZ := Lib.hid hsz
  have HBK := Lib.hid hbk
  have HAT := Lib.hid hat
  have HEU := Lib.hid hE
  clear hV hxV hbV hsV hxb hlb hlt hsz hE hu hc hm ht h1 h2 h3 h4 hat hbk
  obtain ⟨R, hR⟩ : ∃ R, namedM m = R := ⟨_, rfl⟩
  have HR := Lib.hid hR
  clear hR
  obtain ⟨E, hE⟩ : ∃ E, idF (fun _ => none) m.id = E := ⟨_, rfl⟩
  have HE := Lib.hid hE
  rw [hE] at HI
  have HI0 : Hid (E = if plainS m.id = false then 6 else 0) := Lib.hid (by rw [← hE]; rfl)
  clear hE
  unfold thgV at HI
  dsimp only at HI
  go_enter Tryz.func50, Tryz.ntmps50
  go_upto_region 1 with fail
  rw [HV.out, HF.out.2.2.2.2.2.2.2.1]
  clear HV
  refine wp_region_held_drew (S := fun w' => w'.cell? ⟨xb, 0, none⟩ = some (.pointer (some ⟨cb, 0, none⟩)) ∧ w'.cell? ⟨cb, 0, none⟩ = some (.string m.id)) (by kernel_rfl) ⟨x0, c0⟩ (fun hHeld => ?_)
  refine wpAnyH_take (i := 0) (oi := _) (v := ?_) rfl (by kernel_rfl) (by kernel_rfl) (by kernel_rfl) (fun _ _ _ h => h) ?_ (by assumption) ?_
  rotate_left 1
  · first
      | (refine Or.inl ⟨by rfl, ?_⟩; intro w9 hSw; (try dsimp only at hSw); go_simp; (try with_reducible rfl); done)
      | (refine Or.inr ⟨by rfl, ?_⟩; rfl)
  simp only [List.getElem_toArray, List.getElem_cons_zero, Act.put, List.setIfInBounds_toArray, List.set_cons_zero, List.set_cons_succ]
  refine wpAnyH_take (i := 1) (oi := _) (v := ?_) rfl (by kernel_rfl) (by kernel_rfl) (by kernel_rfl) (fun _ _ _ h => h) ?_ (by assumption) ?_
  rotate_left 1
  · first
      | (refine Or.inl ⟨by rfl, ?_⟩; intro w9 hSw; (try dsimp only at hSw); go_simp; (try with_reducible rfl); done)
      | (refine Or.inr ⟨by rfl, ?_⟩; rfl)
  simp only [List.getElem_toArray, List.getElem_cons_succ, List.getElem_cons_zero, Act.put, List.setIfInBounds_toArray, List.set_cons_zero, List.set_cons_succ]
  refine wpAnyH_take (i := 2) (oi := _) (v := ?_) rfl (by kernel_rfl) (by kernel_rfl) (by kernel_rfl) (fun _ _ _ h => h) ?_ (by assumption) ?_
  rotate_left 1
  · first
      | (refine Or.inl ⟨by rfl, ?_⟩; intro w9 hSw; (try dsimp only at hSw); go_simp; (try with_reducible rfl); done)
      | (refine Or.inr ⟨by rfl, ?_⟩; rfl)
  simp only [List.getElem_toArray, List.getElem_cons_succ, List.getElem_cons_zero, Act.put, List.setIfInBounds_toArray, List.set_cons_zero, List.set_cons_succ]
  refine wpAnyH_take (i := 3) (oi := _) (v := ?_) rfl (by kernel_rfl) (by kernel_rfl) (by kernel_rfl) (fun _ _ _ h => h) ?_ (by assumption) ?_
  rotate_left 1
  · first
      | (refine Or.inl ⟨by rfl, ?_⟩; intro w9 hSw; (try dsimp only at hSw); go_simp; (try with_reducible rfl); done)
      | (refine Or.inr ⟨by rfl, ?_⟩; rfl)
  simp only [List.getElem_toArray, List.getElem_cons_succ, List.getElem_cons_zero, Act.put, List.setIfInBounds_toArray, List.set_cons_zero, List.set_cons_succ]
  refine wpAnyH_take (i := 4) (oi := _) (v := ?_) rfl (by kernel_rfl) (by kernel_rfl) (by kernel_rfl) (fun _ _ _ h => h) ?_ (by assumption) ?_
  rotate_left 1
  · first
      | (refine Or.inl ⟨by rfl, ?_⟩; intro w9 hSw; (try dsimp only at hSw); go_simp; (try with_reducible rfl); done)
      | (refine Or.inr ⟨by rfl, ?_⟩; rfl)
  simp only [List.getElem_toArray, List.getElem_cons_succ, List.getElem_cons_zero, Act.put, List.setIfInBounds_toArray, List.set_cons_zero, List.set_cons_succ]
  refine wpAnyH_take (i := 5) (oi := _) (v := ?_) rfl (by kernel_rfl) (by kernel_rfl) (by kernel_rfl) (fun _ _ _ h => h) ?_ (by assumption) ?_
  rotate_left 1
  · first
      | (refine Or.inl ⟨by rfl, ?_⟩; intro w9 hSw; (try dsimp only at hSw); go_simp; (try with_reducible rfl); done)
      | (refine Or.inr ⟨by rfl, ?_⟩; rfl)
  simp only [List.getElem_toArray, List.getElem_cons_succ, List.getElem_cons_zero, Act.put, List.setIfInBounds_toArray, List.set_cons_zero, List.set_cons_succ]
  refine wpAnyH_take (i := 6) (oi := _) (v := ?_) rfl (by kernel_rfl) (by kernel_rfl) (by kernel_rfl) (fun _ _ _ h => h) ?_ (by assumption) ?_
  rotate_left 1
  · first
      | (refine Or.inl ⟨by rfl, ?_⟩; intro w9 hSw; (try dsimp only at hSw); go_simp; (try with_reducible rfl); done)
      | (refine Or.inr ⟨by rfl, ?_⟩; rfl)
  simp only [List.getElem_toArray, List.getElem_cons_succ, List.getElem_cons_zero, Act.put, List.setIfInBounds_toArray, List.set_cons_zero, List.set_cons_succ]
  refine wpAnyH_ready (rs := [7]) (by kernel_rfl) (by simp) ?_
  refine AllReadyH.cons (o := _) rfl (fun K hK => ?_) AllReadyH.nil
  go_simp
  refine (HI.out _ (by (repeat (first | exact Bel.refl _ | assumption | refine Bel.to_drewN ?_ _ | refine Bel.to_drew ?_ | refine Bel.to_setCell ?_ (by first | exact Nat.le_refl _ | (simp; done) | (simp; omega) | omega) _ | refine Bel.to_alloc ?_ _ | refine Bel.trans ?_ (by assumption))))).mono ?_
  rintro e1 w1 ⟨rfl, hb1, hk1⟩
  dsimp only
  have HB1 := Lib.hid ((HNB.out.go (show Bel V V.drew from by (repeat (first | exact Bel.refl _ | assumption | refine Bel.to_drewN ?_ _ | refine Bel.to_drew ?_ | refine Bel.to_setCell ?_ (by first | exact Nat.le_refl _ | (simp; done) | (simp; omega) | omega) _ | refine Bel.to_alloc ?_ _ | refine Bel.trans ?_ (by assumption))))).step hb1.left HF.out.1 HF.out.2.1 (.inr rfl) ⟨HF.out.2.2.2.1, HF.out.2.2.2.2.1, HF.out.2.2.2.2.2.1, HF.out.2.2.2.2.2.2.1⟩)
  have HTY1 := Lib.hid (MapV.but (HTY.out.bel (show Bel V V.drew from by (repeat (first | exact Bel.refl _ | assumption | refine Bel.to_drewN ?_ _ | refine Bel.to_drew ?_ | refine Bel.to_setCell ?_ (by first | exact Nat.le_refl _ | (simp; done) | (simp; omega) | omega) _ | refine Bel.to_alloc ?_ _ | refine Bel.trans ?_ (by assumption))))) hb1 (Ne.symm HF.out.2.2.1) (Ne.symm HF.out.2.2.1))
  have HK1 := Lib.hid hk1
  refine hK.out _ _ ⟨hb1.keep hHeld.1 HF.out.2.2.2.2.2.1 HF.out.2.2.2.2.2.1, hb1.keep hHeld.2 HF.out.2.2.2.1 HF.out.2.2.2.1⟩ (fun hHeld => ?_)
  clear hK K
  refine wpAnyH_take (i := 8) (oi := _) (v := ?_) rfl (by kernel_rfl) (by kernel_rfl) (by kernel_rfl) (fun _ _ _ h => h) ?_ (by assumption) ?_
  rotate_left 1
  · first
      | (refine Or.inl ⟨by rfl, ?_⟩; intro w9 hSw; (try dsimp only at hSw); go_simp; (try with_reducible rfl); done)
      | (refine Or.inr ⟨by rfl, ?_⟩; rfl)
  simp only [List.getElem_toArray, List.getElem_cons_succ, List.getElem_cons_zero, Act.put, List.setIfInBounds_toArray, List.set_cons_zero, List.set_cons_succ]
  refine wpAnyH_done (by kernel_rfl) ?_ _
  clear hHeld hb1 hk1 x0 c0 HNB HTY HI
  by_cases hE0 : E = 0
  case neg =>
    have hE0b : ((E : Int) == 0) = false := by simpa using hE0
    have HRE : Hid (E = namedM m) := Lib.hid (by
      have h1 := HI0.out
      unfold namedM
      by_cases hp : plainS m.id = false
      · rw [if_pos hp]; rwa [if_pos hp] at h1
      · rw [if_neg hp] at h1; exact absurd h1 hE0)
    have HE0 := Lib.hid hE0
    clear hE0
    go_wp2_with fail
    go_ret
    exact HB1.out.ret HRE.out HE0.out
  case pos =>
  subst hE0
  have hp0 : Hid (plainS m.id ≠ false) := Lib.hid fun hp => by have h1 := HI0.out; rw [if_pos hp] at h1; cases h1
  have HBY1 : Hid (ByM w1 bb 1 (atT [(m.id, 0, 0)])) := Lib.hid ((HK1.out rfl).congr fun s => by
    unfold updF
    by_cases hs : s = m.id
    · subst hs; simp [atT]
    · simp [atT, hs, Ne.symm hs])
  have x1 : w1.cell? ⟨xb, 0, none⟩ = some (.pointer (some ⟨cb, 0, none⟩)) := HB1.out.bx.at 0
  have c1 : w1.cell? ⟨cb, 1, none⟩ = some (.string m.nm) := HB1.out.bc.at 1
  have HRI := Lib.hid (right_c m.nm (by have := HSZ.out; omega) w1 (HEU.out.bel HB1.out.bel))
  clear HK1 HI0 HE
  have HRG : Hid ((wordsS m.nm).isSome = rightS m.nm) := Lib.hid rfl
  obtain ⟨G, hG⟩ : ∃ G, (wordsS m.nm).isSome = G := ⟨_, rfl⟩
  rw [hG] at HRI HRG
  clear hG
  cases G with
  | false =>
    have HRE : Hid (6 = namedM m) := Lib.hid (by unfold namedM; rw [if_neg hp0.out, if_pos HRG.out.symm])
    go_wp2_with fail
    refine HRI.out.mono ?_
    rintro e2 w2 ⟨rfl, hb2⟩
    have HB2 := Lib.hid (HB1.out.go hb2)
    clear hb2 x1 c1
    go_wp2_with fail
    go_ret
    exact HB2.out.ret HRE.out (by decide)
  | true =>
  go_wp2_with fail
  refine HRI.out.mono ?_
  rintro e2 w2 ⟨rfl, hb2⟩
  have HB2 := Lib.hid (HB1.out.go hb2)
  have HBY2 := Lib.hid (HBY1.out.bel hb2)
  have HTY2 := Lib.hid (HTY1.out.bel hb2)
  have x2 : w2.cell? ⟨xb, 0, none⟩ = some (.pointer (some ⟨cb, 0, none⟩)) := HB2.out.bx.at 0
  have c2 : w2.cell? ⟨cb, 2, none⟩ = some (.string m.sp) := HB2.out.bc.at 2
  have HCK : Hid (∀ v w3, Bel w2 w3 → BytesAt w3 v m.sp → Calls Tryz.prog 93 #[v] w3 fun e w' => e = .returned (.tuple #[.int .i64 (chkS m.sp), .int .i64 (if chkS m.sp < m.sp.size then 4 else 0)]) ∧ Bel w3 w') := Lib.hid fun v w3 hb hv => check_c m.sp (by have := HSZ.out; omega) v w3 ((HEU.out.bel HB2.out.bel).bel hb) hv
  clear hb2 x1 c1 HRI HB1 HBY1 HTY1
  by_cases hck : chkS m.sp < m.sp.size
  case pos =>
    rw [if_pos hck] at HCK
    have HRE : Hid (4 = namedM m) := Lib.hid (by unfold namedM; rw [if_neg hp0.out, if_neg (by rw [← HRG.out]; decide), if_pos hck])
    clear hck
    go_wp2_with (refine wpL_bytes rfl 9 50 5 _ rfl m.sp rfl Tryz.underlying9 Tryz.underlying50 Tryz.underlying5 ?_; intro v W1 hv hb1)
    refine (HCK.out _ _ hb1 hv).mono ?_
    rintro e3 w3 ⟨rfl, hb3⟩
    have HB3 := Lib.hid ((HB2.out.go hb1).go hb3)
    clear hb1 hb3 hv x2 c2
    go_wp2_with fail
    go_ret
    exact HB3.out.ret HRE.out (by decide)
  case neg =>
  rw [if_neg hck] at HCK
  have HPR : Hid (R = if freshE [] m.typ ≠ 0 then freshE [] m.typ else pairsE [m.id] [] m.pairs) := Lib.hid (by rw [← HR.out]; unfold namedM; rw [if_neg hp0.out, if_neg (by rw [← HRG.out]; decide), if_neg hck])
  clear hck hp0 HRG
  go_wp2_with (refine wpL_bytes rfl 9 50 5 _ rfl m.sp rfl Tryz.underlying9 Tryz.underlying50 Tryz.underlying5 ?_; intro v W1 hv hb1)
  refine (HCK.out _ _ hb1 hv).mono ?_
  rintro e3 w3 ⟨rfl, hb3⟩
  obtain ⟨F, hF⟩ : ∃ F, freshE [] m.typ = F := ⟨_, rfl⟩
  have HT3 : Hid (TyS u w cb bb tb xb m q [(m.id, 0, 0)] [] m.typ F w3) := Lib.hid ⟨(HB2.out.go hb1).go hb3, (HBY2.out.bel hb1).bel hb3, MapV.congr ((HTY2.out.bel hb1).bel hb3) fun s => by unfold typC; rw [if_neg (by simp)], hF⟩
  rw [hF] at HPR
  obtain ⟨ia, hia⟩ : ∃ a, q.ia = a := ⟨_, rfl⟩
  obtain ⟨im, him⟩ : ∃ a, q.im = a := ⟨_, rfl⟩
  obtain ⟨ic, hic⟩ : ∃ a, q.ic = a := ⟨_, rfl⟩
  have x3 : w3.cell? ⟨xb, 0, none⟩ = some (.pointer (some ⟨cb, 0, none⟩)) := HT3.out.b.bx.at 0
  have c3 : w3.cell? ⟨cb, 3, none⟩ = some (.slice ia im ic) := by rw [← hia, ← him, ← hic]; exact HT3.out.b.bc.at 3
  have HIT : Hid (ItsAt u ia m.its ∧ m.its.length = im ∧ im ≤ 1048576) := Lib.hid ⟨hia ▸ HAT.out.its, him ▸ HAT.out.li, by have := m.bulk_len; have := HBK.out; have := HAT.out.li; omega⟩
  clear hb1 hb3 hv x2 c2 HB2 HBY2 HTY2 HCK hF hia him hic
  obtain ⟨V3, hV3⟩ : ∃ X, X = w3 := ⟨_, rfl⟩
  subst hV3
  go_wp2_with fail
  go_loopw [57] (fun i wr => ∃ j : Nat, i = .int .i64 j ∧ j ≤ im ∧ Hid (TyS u w cb bb tb xb m q [(m.id, 0, 0)] (m.typ.take j) (m.typ.drop j) F wr)) (fun i _ => im - (intOf i).toNat)
  case atStart => exact ⟨0, rfl, Nat.zero_le _, Lib.hid (by rw [List.drop_zero]; exact HT3.out)⟩
  case round =>
    obtain ⟨j, rfl, hj, HTJ⟩ := hrel
    have him2 : im ≤ 1048576 := HIT.out.2.2
    by_cases hjm : j < im
    · as_aux_lemma =>
      have hji : (j : Int) < im := by omega
      obtain ⟨x, hx⟩ : ∃ x, m.its[j]? = some x := ⟨_, List.getElem?_eq_getElem (by have := HIT.out; omega)⟩
      obtain ⟨b, off, rfl, v, hcl, va, vc, rfl, _, _⟩ := HIT.out.1 j x hx
      obtain ⟨vn, hvn⟩ : ∃ n, x.te.l.length = n := ⟨_, rfl⟩
      rw [hvn] at hcl
      have hbu := HTJ.out.b.bel
      have hcl2 := hcl.bel hbu
      have g0 := hcl2.get0
      have g1 := hcl2.get 1 rfl
      have g2 := hcl2.get 2 rfl
      have g3 := hcl2.get 3 rfl
      have g4 := hcl2.get 4 rfl
      have hxt : m.typ[j]? = some x.nm := by unfold Md.typ; rw [List.getElem?_map, hx]; rfl
      have htl : (m.typ.take j).length = j := by rw [List.length_take]; have := (List.getElem?_eq_some_iff.1 hxt).1; omega
      have hxs : x.nm.size ≤ 1048576 := by have := Md.bulk_its (List.mem_of_getElem? hx); have := HBK.out; unfold It.bulk at *; omega
      obtain ⟨V4, h4, q4, l4, s4⟩ := alloc_step wr 54 (itL x (.slice va vn vc))
      have HT4 : Hid (TyS u w cb bb tb xb m q [(m.id, 0, 0)] (m.typ.take j) (x.nm :: m.typ.drop (j + 1)) F V4) := Lib.hid (by rw [← drop_at hxt]; exact HTJ.out.go l4)
      have HFR := Lib.hid fun W (hW : Bel V4 W) => fresh_t (HT4.out.go hW) HEU.out (by omega) (by have := HIT.out; omega) HF.out.1 HF.out.2.1 HF.out.2.2.1 ⟨HF.out.2.2.2.1, HF.out.2.2.2.2.1, HF.out.2.2.2.2.2.1, HF.out.2.2.2.2.2.2.1⟩
      rw [htl] at HFR
      have HTK : Hid (m.typ.take j ++ [x.nm] = m.typ.take (j + 1)) := Lib.hid (by rw [List.take_add_one, hxt]; rfl)
      rw [HTK.out] at HFR
      obtain ⟨ib, hib⟩ : ∃ x, wr.heap.size = x := ⟨_, rfl⟩
      rw [hib] at q4
      have y0 : V4.cell? ⟨xb, 0, none⟩ = some (.pointer (some ⟨cb, 0, none⟩)) := HT4.out.b.bx.at 0
      have y8 : V4.cell? ⟨cb, 8, none⟩ = some (.map (some tb)) := HT4.out.b.bc.at 8
      have z0 : V4.cell? ⟨ib, 0, none⟩ = some (.string x.nm) := q4.at 0
      have HV4 := Lib.hid h4
      have HIB := Lib.hid hib
      clear hx hcl hbu hcl2 hvn hxt htl hxs h4 q4 l4 s4 hib x3 c3
      unfold itL at HV4
      go_upto_region 12 with fail
      rw [show wr.alloc (.cells #[.string x.nm, .string x.base, .bool x.te.any, .bool x.te.no, .slice va vn vc] 54) = V4 from HV4.out, HIB.out]
      have hib : ib ≠ tb := by have := HTJ.out.ty.lt; have := HIB.out; omega
      have HIBT := Lib.hid hib
      clear HV4 g0 g1 g2 g3 g4 hib
      refine wp_region_held_drew (S := fun w' => w'.cell? ⟨xb, 0, none⟩ = some (.pointer (some ⟨cb, 0, none⟩)) ∧ w'.cell? ⟨cb, 8, none⟩ = some (.map (some tb)) ∧ w'.cell? ⟨ib, 0, none⟩ = some (.string x.nm)) (by kernel_rfl) ⟨y0, y8, z0⟩ (fun hHeld => ?_)
      refine wpAnyH_take (i := 0) (oi := _) (v := ?_) rfl (by kernel_rfl) (by kernel_rfl) (by kernel_rfl) (fun _ _ _ h => h) ?_ (by assumption) ?_
      rotate_left 1
      · first
          | (refine Or.inl ⟨by rfl, ?_⟩; intro w9 hSw; (try dsimp only at hSw); go_simp; (try with_reducible rfl); done)
          | (refine Or.inr ⟨by rfl, ?_⟩; rfl)
      simp only [List.getElem_toArray, List.getElem_cons_zero, Act.put, List.setIfInBounds_toArray, List.set_cons_zero, List.set_cons_succ]
      refine wpAnyH_take (i := 1) (oi := _) (v := ?_) rfl (by kernel_rfl) (by kernel_rfl) (by kernel_rfl) (fun _ _ _ h => h) ?_ (by assumption) ?_
      rotate_left 1
      · first
          | (refine Or.inl ⟨by rfl, ?_⟩; intro w9 hSw; (try dsimp only at hSw); go_simp; (try with_reducible rfl); done)
          | (refine Or.inr ⟨by rfl, ?_⟩; rfl)
      simp only [List.getElem_toArray, List.getElem_cons_succ, List.getElem_cons_zero, Act.put, List.setIfInBounds_toArray, List.set_cons_zero, List.set_cons_succ]
      refine wpAnyH_take (i := 2) (oi := _) (v := ?_) rfl (by kernel_rfl) (by kernel_rfl) (by kernel_rfl) (fun _ _ _ h => h) ?_ (by assumption) ?_
      rotate_left 1
      · first
          | (refine Or.inl ⟨by rfl, ?_⟩; intro w9 hSw; (try dsimp only at hSw); go_simp; (try with_reducible rfl); done)
          | (refine Or.inr ⟨by rfl, ?_⟩; rfl)
      simp only [List.getElem_toArray, List.getElem_cons_succ, List.getElem_cons_zero, Act.put, List.setIfInBounds_toArray, List.set_cons_zero, List.set_cons_succ]
      refine wpAnyH_take (i := 3) (oi := _) (v := ?_) rfl (by kernel_rfl) (by kernel_rfl) (by kernel_rfl) (fun _ _ _ h => h) ?_ (by assumption) ?_
      rotate_left 1
      · first
          | (refine Or.inl ⟨by rfl, ?_⟩; intro w9 hSw; (try dsimp only at hSw); go_simp; (try with_reducible rfl); done)
          | (refine Or.inr ⟨by rfl, ?_⟩; rfl)
      simp only [List.getElem_toArray, List.getElem_cons_succ, List.getElem_cons_zero, Act.put, List.setIfInBounds_toArray, List.set_cons_zero, List.set_cons_succ]
      refine wpAnyH_take (i := 4) (oi := _) (v := ?_) rfl (by kernel_rfl) (by kernel_rfl) (by kernel_rfl) (fun _ _ _ h => h) ?_ (by assumption) ?_
      rotate_left 1
      · first
          | (refine Or.inl ⟨by rfl, ?_⟩; intro w9 hSw; (try dsimp only at hSw); go_simp; (try with_reducible rfl); done)
          | (refine Or.inr ⟨by rfl, ?_⟩; rfl)
      simp only [List.getElem_toArray, List.getElem_cons_succ, List.getElem_cons_zero, Act.put, List.setIfInBounds_toArray, List.set_cons_zero, List.set_cons_succ]
      refine wpAnyH_take (i := 5) (oi := _) (v := ?_) rfl (by kernel_rfl) (by kernel_rfl) (by kernel_rfl) (fun _ _ _ h => h) ?_ (by assumption) ?_
      rotate_left 1
      · first
          | (refine Or.inl ⟨by rfl, ?_⟩; intro w9 hSw; (try dsimp only at hSw); go_simp; (try with_reducible rfl); done)
          | (refine Or.inr ⟨by rfl, ?_⟩; rfl)
      simp only [List.getElem_toArray, List.getElem_cons_succ, List.getElem_cons_zero, Act.put, List.setIfInBounds_toArray, List.set_cons_zero, List.set_cons_succ]
      refine wpAnyH_take (i := 6) (oi := _) (v := ?_) rfl (by kernel_rfl) (by kernel_rfl) (by kernel_rfl) (fun _ _ _ h => h) ?_ (by assumption) ?_
      rotate_left 1
      · first
          | (refine Or.inl ⟨by rfl, ?_⟩; intro w9 hSw; (try dsimp only at hSw); go_simp; (try with_reducible rfl); done)
          | (refine Or.inr ⟨by rfl, ?_⟩; rfl)
      simp only [List.getElem_toArray, List.getElem_cons_succ, List.getElem_cons_zero, Act.put, List.setIfInBounds_toArray, List.set_cons_zero, List.set_cons_succ]
      refine wpAnyH_ready (rs := [7]) (by kernel_rfl) (by simp) ?_
      refine AllReadyH.cons (o := _) rfl (fun K hK => ?_) AllReadyH.nil
      go_simp
      refine (HFR.out _ (by (repeat (first | exact Bel.refl _ | assumption | refine Bel.to_drewN ?_ _ | refine Bel.to_drew ?_ | refine Bel.to_setCell ?_ (by first | exact Nat.le_refl _ | (simp; done) | (simp; omega) | omega) _ | refine Bel.to_alloc ?_ _ | refine Bel.trans ?_ (by assumption))))).mono ?_
      rintro e5 w5 ⟨E5, rfl, hR5, hb5, hT5, hbt5⟩
      dsimp only
      have HR5 := Lib.hid hR5
      have HB5 := Lib.hid hb5
      have HT5 := Lib.hid hT5
      refine hK.out _ _ ⟨hb5.bx.at 0, hb5.bc.at 8, hbt5.keep hHeld.2.2 HIBT.out HIBT.out⟩ (fun hHeld => ?_)
      clear hK K
      refine wpAnyH_take (i := 8) (oi := _) (v := ?_) rfl (by kernel_rfl) (by kernel_rfl) (by kernel_rfl) (fun _ _ _ h => h) ?_ (by assumption) ?_
      rotate_left 1
      · first
          | (refine Or.inl ⟨by rfl, ?_⟩; intro w9 hSw; (try dsimp only at hSw); go_simp; (try with_reducible rfl); done)
          | (refine Or.inr ⟨by rfl, ?_⟩; rfl)
      simp only [List.getElem_toArray, List.getElem_cons_succ, List.getElem_cons_zero, Act.put, List.setIfInBounds_toArray, List.set_cons_zero, List.set_cons_succ]
      refine wpAnyH_done (by kernel_rfl) ?_ _
      clear hHeld hR5 hb5 hT5 hbt5 y0 y8 z0 HFR HT4
      by_cases hE5 : E5 = 0
      · subst hE5
        have HN := Lib.hid (HT5.out rfl)
        clear HR5 HT5
        go_wp2_with fail
        exact ⟨⟨j + 1, by go_num, by omega, HN⟩, by simp [intOf]; omega⟩
      · have hE5b : ((E5 : Int) == 0) = false := by simpa using hE5
        have HRE : Hid (E5 = namedM m) := Lib.hid (by
          have h1 := HR5.out hE5
          rw [HR.out, HPR.out, if_pos (by rw [← h1]; exact hE5), h1])
        have HE5 := Lib.hid hE5
        clear hE5 HR5 HT5
        go_wp2_with fail
        go_ret
        exact HB5.out.ret HRE.out HE5.out
    · have hji : ¬ (j : Int) < im := by omega
      have hjl : m.typ.length ≤ j := by unfold Md.typ; rw [List.length_map]; have := HIT.out.2.1; omega
      have HTZ : Hid (TyS u w cb bb tb xb m q [(m.id, 0, 0)] m.typ [] F wr) := Lib.hid (by have h1 := HTJ.out; rwa [List.take_of_length_le hjl, List.drop_of_length_le hjl] at h1)
      have hF0 : F = 0 := by rw [← HTZ.out.eq]; rfl
      subst hF0
      have HPR2 : Hid (R = pairsE [m.id] [] m.pairs) := Lib.hid (by have h1 := HPR.out; rwa [if_neg (by decide)] at h1)
      clear hjl HTJ HPR HT3
      have hmm := @run_makeMap Tryz.prog
      obtain ⟨sb, hsb⟩ : ∃ x, wr.heap.size = x := ⟨_, rfl⟩
      obtain ⟨yb, hyb⟩ : ∃ x, sb + 1 = x := ⟨_, rfl⟩
      have hnew : MapV (wr.alloc (.map #[] 0)) sb 0 int0 fun _ => none := by rw [← hsb]; exact mv_new wr int0
      obtain ⟨V6, h6, q6, l6, s6⟩ := alloc_step (wr.alloc (.map #[] 0)) 60 [.map (some sb)]
      have hs6 : (wr.alloc (.map #[] 0)).heap.size = yb := by rw [World.size_alloc]; omega
      rw [hs6] at q6
      have hl6 := (Bel.alloc wr (.map #[] 0)).trans l6
      have HPS : Hid (PrS u w cb bb tb xb yb sb m q [(m.id, 0, 0)] [] m.pairs R V6) := Lib.hid ⟨HTZ.out.b.go hl6, q6, HTZ.out.by'.bel hl6, HTZ.out.ty.bel hl6, ⟨_, hnew.bel l6, fun s => rfl⟩, HPR2.out.symm⟩
      have HSB : Hid (u.heap.size ≤ sb ∧ bb ≠ sb ∧ tb ≠ sb ∧ w.heap.size ≤ sb ∧ cb ≠ sb ∧ xb ≠ sb ∧ tb < V6.heap.size ∧ bb < V6.heap.size ∧ sb < V6.heap.size) := Lib.hid (by
        have h1 := HTZ.out.b.bel.size
        have h2 := HTZ.out.b.but.size
        have h3 := HF.out
        have h4 := HTZ.out.b.bc.lt
        have h5 := HTZ.out.b.bx.lt
        have h6 := hl6.size
        have h7 := q6.lt
        omega)
      have HV6 := Lib.hid h6
      have HYB := Lib.hid hyb
      have HSE := Lib.hid hsb
      clear hnew h6 q6 l6 s6 hs6 hl6 hyb hsb HTZ HPR2
      go_upto_region 17 with fail
      rw [HSE.out, HYB.out, show (wr.alloc (.map #[] 0)).alloc (.cells #[.map (some sb)] 60) = V6 from HV6.out]
      clear HV6
      obtain ⟨a7, ha7⟩ : ∃ a, q.na = a := ⟨_, rfl⟩
      obtain ⟨n7, hn7⟩ : ∃ a, q.nm = a := ⟨_, rfl⟩
      obtain ⟨d7, hd7⟩ : ∃ a, q.nc = a := ⟨_, rfl⟩
      have x7 : V6.cell? ⟨xb, 0, none⟩ = some (.pointer (some ⟨cb, 0, none⟩)) := HPS.out.b.bx.at 0
      have c7 : V6.cell? ⟨cb, 4, none⟩ = some (.slice a7 n7 d7) := by rw [← ha7, ← hn7, ← hd7]; exact HPS.out.b.bc.at 4
      have HIN7 : Hid (InpsAt u a7 m.ins ∧ m.ins.length = n7 ∧ n7 ≤ 1048576) := Lib.hid ⟨ha7 ▸ HAT.out.ins, hn7 ▸ HAT.out.ln, by have := m.bulk_len; have := HBK.out; have := HAT.out.ln; omega⟩
      have HTL7 : Hid (([(m.id, 0, 0)] : List Thg).length ≤ 4194304 ∧ ([] : List ByteArray).length ≤ 4194304) := Lib.hid (by
        constructor <;> simp)
      clear ha7 hn7 hd7
      go_wp2_with fail
      go_loopw [82] (fun i wr => ∃ j : Nat, i = .int .i64 j ∧ j ≤ n7 ∧ Hid (PrJ u w cb bb tb xb yb sb m q 1 (inpP m.ins) (knP m.kns ++ deP m.des) ([(m.id, 0, 0)]) ([]) R j wr)) (fun i _ => n7 - (intOf i).toNat)
      case atStart => exact ⟨0, rfl, Nat.zero_le _, Lib.hid (PrJ.start HPS.out)⟩
      case round =>
        obtain ⟨j, rfl, hj, HPJ⟩ := hrel
        have hnm2 : n7 ≤ 1048576 := HIN7.out.2.2
        by_cases hjm : j < n7
        · as_aux_lemma =>
          have hji : (j : Int) < n7 := by omega
          obtain ⟨x, hx⟩ : ∃ x, m.ins[j]? = some x := ⟨_, List.getElem?_eq_getElem (by have := HIN7.out; omega)⟩
          obtain ⟨b, off, rfl, hcl⟩ := HIN7.out.1 j x hx
          have hcl2 := hcl.bel HPJ.out.b.bel
          have g0 := hcl2.get0
          have g1 := hcl2.get 1 rfl
          have g2 := hcl2.get 2 rfl
          have hxp : (inpP m.ins)[j]? = some (x.id, x.nm) := by unfold inpP; rw [List.getElem?_map, hx]; rfl
          have hxs : x.id.size ≤ 1048576 ∧ x.nm.size ≤ 1048576 := by have := Md.bulk_ins (List.mem_of_getElem? hx); have := HBK.out; unfold Inp.bulk at *; omega
          have hAl : (inpP m.ins).length = n7 := by unfold inpP; rw [List.length_map]; exact HIN7.out.2.1
          obtain ⟨V7, h7, q7, l7, s7⟩ := alloc_step wr 33 (inpL x)
          have HONE := Lib.hid fun W (hW : Bel V7 W) => one_j (k := 1) 1 rfl (HPJ.out.go (l7.trans hW)) hxp HEU.out (by dsimp only; omega) (by dsimp only; omega) (by have := HTL7.out; omega) (by have := HTL7.out; omega) HF.out.1 HSB.out.1 HSB.out.2.1 (Ne.symm HF.out.2.2.1) HSB.out.2.2.1 HSB.out.2.2.2.1 ⟨HF.out.2.2.2.1, HSB.out.2.2.2.2.1, HF.out.2.2.2.2.2.1, HSB.out.2.2.2.2.2.1⟩
          dsimp only at HONE
          obtain ⟨ib, hib⟩ : ∃ x, wr.heap.size = x := ⟨_, rfl⟩
          rw [hib] at q7
          have z0 : V7.cell? ⟨ib, 0, none⟩ = some (.string x.id) := q7.at 0
          have z1 : V7.cell? ⟨ib, 1, none⟩ = some (.string x.nm) := q7.at 1
          have HV7 := Lib.hid h7
          have HIB := Lib.hid hib
          have hen := fun args w1 => enters_of Tryz.func95 (by kernel_rfl) rfl args w1
          clear hx hcl hcl2 hxp hxs hAl h7 q7 l7 s7 hib x7 c7 HPJ 
          go_upto_region 21 with fail
          rw [show wr.alloc (.cells #[.string x.id, .string x.nm, .string x.ty] 33) = V7 from HV7.out, HIB.out]
          clear HV7 g0 g1 g2
          go_wp2_with fail
          refine (HONE.out _ (Bel.refl _)).mono ?_
          rintro e8 w8 ⟨E8, rfl, hR8, hb8, hP8, _⟩
          have HR8 := Lib.hid hR8
          have HB8 := Lib.hid hb8
          have HP8 := Lib.hid hP8
          clear hR8 hb8 hP8 z0 z1 HONE
          by_cases hE8 : E8 = 0
          · subst hE8
            have HN := Lib.hid (HP8.out rfl)
            clear HR8 HP8
            go_wp2_with fail
            exact ⟨⟨j + 1, by go_num, by omega, HN⟩, by simp [intOf]; omega⟩
          · have hE8b : ((E8 : Int) == 0) = false := by simpa using hE8
            have HRE : Hid (E8 = namedM m) := Lib.hid (by rw [HR.out]; exact HR8.out hE8)
            have HE8 := Lib.hid hE8
            clear hE8 HR8 HP8
            go_wp2_with fail
            go_ret
            exact HB8.out.ret HRE.out HE8.out
        · have hji : ¬ (j : Int) < n7 := by omega
          have HPF7 := Lib.hid (HPJ.out.fin (by unfold inpP; rw [List.length_map]; have := HIN7.out; omega))
          clear HPJ HPS
          obtain ⟨W7, hW7⟩ : ∃ X, X = wr := ⟨_, rfl⟩
          subst hW7
          obtain ⟨a8, ha8⟩ : ∃ a, q.ka = a := ⟨_, rfl⟩
          obtain ⟨n8, hn8⟩ : ∃ a, q.km = a := ⟨_, rfl⟩
          obtain ⟨d8, hd8⟩ : ∃ a, q.kc = a := ⟨_, rfl⟩
          have x8 : W7.cell? ⟨xb, 0, none⟩ = some (.pointer (some ⟨cb, 0, none⟩)) := HPF7.out.b.bx.at 0
          have c8 : W7.cell? ⟨cb, 5, none⟩ = some (.slice a8 n8 d8) := by rw [← ha8, ← hn8, ← hd8]; exact HPF7.out.b.bc.at 5
          have HIN8 : Hid (KnsAt u a8 m.kns ∧ m.kns.length = n8 ∧ n8 ≤ 1048576) := Lib.hid ⟨ha8 ▸ HAT.out.kns, hn8 ▸ HAT.out.lk, by have := m.bulk_len; have := HBK.out; have := HAT.out.lk; omega⟩
          have HTL8 : Hid (([(m.id, 0, 0)] ++ numb 1 0 ((inpP m.ins).map Prod.fst) : List Thg).length ≤ 4194304 ∧ ([] ++ (inpP m.ins).map Prod.snd : List ByteArray).length ≤ 4194304) := Lib.hid (by
            have := m.bulk_len
            have := HBK.out
            constructor <;> (simp [numb_len, inpP]; try omega))
          clear ha8 hn8 hd8
          go_wp2_with fail
          go_loopw [105] (fun i wr => ∃ j : Nat, i = .int .i64 j ∧ j ≤ n8 ∧ Hid (PrJ u w cb bb tb xb yb sb m q 2 (knP m.kns) (deP m.des) ([(m.id, 0, 0)] ++ numb 1 0 ((inpP m.ins).map Prod.fst)) ([] ++ (inpP m.ins).map Prod.snd) R j wr)) (fun i _ => n8 - (intOf i).toNat)
          case atStart => exact ⟨0, rfl, Nat.zero_le _, Lib.hid (PrJ.start HPF7.out)⟩
          case round =>
            obtain ⟨j, rfl, hj, HPJ⟩ := hrel
            have hnm2 : n8 ≤ 1048576 := HIN8.out.2.2
            by_cases hjm : j < n8
            · as_aux_lemma =>
              have hji : (j : Int) < n8 := by omega
              obtain ⟨x, hx⟩ : ∃ x, m.kns[j]? = some x := ⟨_, List.getElem?_eq_getElem (by have := HIN8.out; omega)⟩
              obtain ⟨b, off, rfl, vp, vk, qq, hcl, ⟨pa, pc, rfl, _, _⟩, ⟨ka, kc, rfl, _, _⟩, hlg⟩ := HIN8.out.1 j x hx
              obtain ⟨nea, nen, nec, lea, len, lec, lia, lim, lic, oa, om, oc, ra, rm, rc, lna, lnm, lnc, la, lm, lc, rfl, _, _, _, _, _, _, _, _, _⟩ := hlg.opened
              obtain ⟨pn, hpn⟩ : ∃ n, x.ps.length = n := ⟨_, rfl⟩
              obtain ⟨kn, hkn⟩ : ∃ n, x.kw.length = n := ⟨_, rfl⟩
              rw [hpn, hkn] at hcl
              have hcl2 := hcl.bel HPJ.out.b.bel
              have g0 := hcl2.get0
              have g1 := hcl2.get 1 rfl
              have g2 := hcl2.get 2 rfl
              have g3 := hcl2.get 3 rfl
              have g4 := hcl2.get 4 rfl
              have g5 := hcl2.get 5 rfl
              have g6 := hcl2.get 6 rfl
              have g7 := hcl2.get 7 rfl
              have g8 := hcl2.get 8 rfl
              have g9 := hcl2.get 9 rfl
              have g10 := hcl2.get 10 rfl
              have g11 := hcl2.get 11 rfl
              have g12 := hcl2.get 12 rfl
              have g13 := hcl2.get 13 rfl
              have g14 := hcl2.get 14 rfl
              have hxp : (knP m.kns)[j]? = some (x.id, x.nm) := by unfold knP; rw [List.getElem?_map, hx]; rfl
              have hxs : x.id.size ≤ 1048576 ∧ x.nm.size ≤ 1048576 := by have := Md.bulk_kns (List.mem_of_getElem? hx); have := HBK.out; unfold Kn.bulk at *; omega
              have hAl : (knP m.kns).length = n8 := by unfold knP; rw [List.length_map]; exact HIN8.out.2.1
              obtain ⟨V7, h7, q7, l7, s7⟩ := alloc_step wr 44 (knL x (.slice pa pn pc) (.slice ka kn kc) ⟨.slice nea nen nec, .slice lea len lec, .slice lia lim lic, .slice oa om oc, .slice ra rm rc, .slice lna lnm lnc, .slice la lm lc⟩)
              have HONE := Lib.hid fun W (hW : Bel V7 W) => one_j (k := 2) 2 rfl (HPJ.out.go (l7.trans hW)) hxp HEU.out (by dsimp only; omega) (by dsimp only; omega) (by have := HTL8.out; omega) (by have := HTL8.out; omega) HF.out.1 HSB.out.1 HSB.out.2.1 (Ne.symm HF.out.2.2.1) HSB.out.2.2.1 HSB.out.2.2.2.1 ⟨HF.out.2.2.2.1, HSB.out.2.2.2.2.1, HF.out.2.2.2.2.2.1, HSB.out.2.2.2.2.2.1⟩
              dsimp only at HONE
              obtain ⟨ib, hib⟩ : ∃ x, wr.heap.size = x := ⟨_, rfl⟩
              rw [hib] at q7
              have z0 : V7.cell? ⟨ib, 0, none⟩ = some (.string x.id) := q7.at 0
              have z1 : V7.cell? ⟨ib, 1, none⟩ = some (.string x.nm) := q7.at 1
              have HV7 := Lib.hid h7
              have HIB := Lib.hid hib
              have hen := fun args w1 => enters_of Tryz.func95 (by kernel_rfl) rfl args w1
              clear hx hcl hcl2 hxp hxs hAl h7 q7 l7 s7 hib x8 c8 HPJ hlg hpn hkn
              go_upto_region 28 with fail
              rw [show wr.alloc (.cells #[.string x.id, .string x.nm, .slice pa pn pc, .slice ka kn kc, .int .i64 x.lg.k, .int .i64 x.lg.e.k, .string x.lg.e.s, .slice nea nen nec, .slice lea len lec, .string x.lg.p, .slice lia lim lic, .slice oa om oc, .slice ra rm rc, .slice lna lnm lnc, .slice la lm lc] 44) = V7 from HV7.out, HIB.out]
              clear HV7 g0 g1 g2 g3 g4 g5 g6 g7 g8 g9 g10 g11 g12 g13 g14
              go_wp2_with fail
              refine (HONE.out _ (Bel.refl _)).mono ?_
              rintro e8 w8 ⟨E8, rfl, hR8, hb8, hP8, _⟩
              have HR8 := Lib.hid hR8
              have HB8 := Lib.hid hb8
              have HP8 := Lib.hid hP8
              clear hR8 hb8 hP8 z0 z1 HONE
              by_cases hE8 : E8 = 0
              · subst hE8
                have HN := Lib.hid (HP8.out rfl)
                clear HR8 HP8
                go_wp2_with fail
                exact ⟨⟨j + 1, by go_num, by omega, HN⟩, by simp [intOf]; omega⟩
              · have hE8b : ((E8 : Int) == 0) = false := by simpa using hE8
                have HRE : Hid (E8 = namedM m) := Lib.hid (by rw [HR.out]; exact HR8.out hE8)
                have HE8 := Lib.hid hE8
                clear hE8 HR8 HP8
                go_wp2_with fail
                go_ret
                exact HB8.out.ret HRE.out HE8.out
            · have hji : ¬ (j : Int) < n8 := by omega
              have HPF8 := Lib.hid (HPJ.out.fin (by unfold knP; rw [List.length_map]; have := HIN8.out; omega))
              clear HPJ HPF7
              obtain ⟨W8, hW8⟩ : ∃ X, X = wr := ⟨_, rfl⟩
              subst hW8
              have HPG8 : Hid (PrS u w cb bb tb xb yb sb m q (([(m.id, 0, 0)] ++ numb 1 0 ((inpP m.ins).map Prod.fst)) ++ numb 2 0 ((knP m.kns).map Prod.fst)) (([] ++ (inpP m.ins).map Prod.snd) ++ (knP m.kns).map Prod.snd) (deP m.des ++ []) R W8) := Lib.hid (by rw [List.append_nil]; exact HPF8.out)
              clear HPF8
              obtain ⟨a9, ha9⟩ : ∃ a, q.da = a := ⟨_, rfl⟩
              obtain ⟨n9, hn9⟩ : ∃ a, q.dm = a := ⟨_, rfl⟩
              obtain ⟨d9, hd9⟩ : ∃ a, q.dc = a := ⟨_, rfl⟩
              have x9 : W8.cell? ⟨xb, 0, none⟩ = some (.pointer (some ⟨cb, 0, none⟩)) := HPG8.out.b.bx.at 0
              have c9 : W8.cell? ⟨cb, 6, none⟩ = some (.slice a9 n9 d9) := by rw [← ha9, ← hn9, ← hd9]; exact HPG8.out.b.bc.at 6
              have HIN9 : Hid (DesAt u a9 m.des ∧ m.des.length = n9 ∧ n9 ≤ 1048576) := Lib.hid ⟨ha9 ▸ HAT.out.des, hn9 ▸ HAT.out.ld, by have := m.bulk_len; have := HBK.out; have := HAT.out.ld; omega⟩
              have HTL9 : Hid ((([(m.id, 0, 0)] ++ numb 1 0 ((inpP m.ins).map Prod.fst)) ++ numb 2 0 ((knP m.kns).map Prod.fst) : List Thg).length ≤ 4194304 ∧ (([] ++ (inpP m.ins).map Prod.snd) ++ (knP m.kns).map Prod.snd : List ByteArray).length ≤ 4194304) := Lib.hid (by
                have := m.bulk_len
                have := HBK.out
                constructor <;> (simp [numb_len, inpP, knP]; try omega))
              clear ha9 hn9 hd9
              go_wp2_with fail
              go_loopw [128] (fun i wr => ∃ j : Nat, i = .int .i64 j ∧ j ≤ n9 ∧ Hid (PrJ u w cb bb tb xb yb sb m q 3 (deP m.des) ([]) (([(m.id, 0, 0)] ++ numb 1 0 ((inpP m.ins).map Prod.fst)) ++ numb 2 0 ((knP m.kns).map Prod.fst)) (([] ++ (inpP m.ins).map Prod.snd) ++ (knP m.kns).map Prod.snd) R j wr)) (fun i _ => n9 - (intOf i).toNat)
              case atStart => exact ⟨0, rfl, Nat.zero_le _, Lib.hid (PrJ.start HPG8.out)⟩
              case round =>
                obtain ⟨j, rfl, hj, HPJ⟩ := hrel
                have hnm2 : n9 ≤ 1048576 := HIN9.out.2.2
                by_cases hjm : j < n9
                · as_aux_lemma =>
                  have hji : (j : Int) < n9 := by omega
                  obtain ⟨x, hx⟩ : ∃ x, m.des[j]? = some x := ⟨_, List.getElem?_eq_getElem (by have := HIN9.out; omega)⟩
                  obtain ⟨b, off, rfl, vn, vk, qq, hcl, ⟨pa, pc, rfl, _, _⟩, ⟨ka, kc, rfl, _, _⟩, hlg⟩ := HIN9.out.1 j x hx
                  obtain ⟨nea, nen, nec, lea, len, lec, lia, lim, lic, oa, om, oc, ra, rm, rc, lna, lnm, lnc, la, lm, lc, rfl, _, _, _, _, _, _, _, _, _⟩ := hlg.opened
                  obtain ⟨pn, hpn⟩ : ∃ n, x.nd.length = n := ⟨_, rfl⟩
                  obtain ⟨kn, hkn⟩ : ∃ n, x.kw.length = n := ⟨_, rfl⟩
                  rw [hpn, hkn] at hcl
                  have hcl2 := hcl.bel HPJ.out.b.bel
                  have g0 := hcl2.get0
                  have g1 := hcl2.get 1 rfl
                  have g2 := hcl2.get 2 rfl
                  have g3 := hcl2.get 3 rfl
                  have g4 := hcl2.get 4 rfl
                  have g5 := hcl2.get 5 rfl
                  have g6 := hcl2.get 6 rfl
                  have g7 := hcl2.get 7 rfl
                  have g8 := hcl2.get 8 rfl
                  have g9 := hcl2.get 9 rfl
                  have g10 := hcl2.get 10 rfl
                  have g11 := hcl2.get 11 rfl
                  have g12 := hcl2.get 12 rfl
                  have g13 := hcl2.get 13 rfl
                  have g14 := hcl2.get 14 rfl
                  have g15 := hcl2.get 15 rfl
                  have hxp : (deP m.des)[j]? = some (x.id, x.nm) := by unfold deP; rw [List.getElem?_map, hx]; rfl
                  have hxs : x.id.size ≤ 1048576 ∧ x.nm.size ≤ 1048576 := by have := Md.bulk_des (List.mem_of_getElem? hx); have := HBK.out; unfold De.bulk at *; omega
                  have hAl : (deP m.des).length = n9 := by unfold deP; rw [List.length_map]; exact HIN9.out.2.1
                  obtain ⟨V7, h7, q7, l7, s7⟩ := alloc_step wr 46 (deL x (.slice pa pn pc) (.slice ka kn kc) ⟨.slice nea nen nec, .slice lea len lec, .slice lia lim lic, .slice oa om oc, .slice ra rm rc, .slice lna lnm lnc, .slice la lm lc⟩)
                  have HONE := Lib.hid fun W (hW : Bel V7 W) => one_j (k := 3) 3 rfl (HPJ.out.go (l7.trans hW)) hxp HEU.out (by dsimp only; omega) (by dsimp only; omega) (by have := HTL9.out; omega) (by have := HTL9.out; omega) HF.out.1 HSB.out.1 HSB.out.2.1 (Ne.symm HF.out.2.2.1) HSB.out.2.2.1 HSB.out.2.2.2.1 ⟨HF.out.2.2.2.1, HSB.out.2.2.2.2.1, HF.out.2.2.2.2.2.1, HSB.out.2.2.2.2.2.1⟩
                  dsimp only at HONE
                  obtain ⟨ib, hib⟩ : ∃ x, wr.heap.size = x := ⟨_, rfl⟩
                  rw [hib] at q7
                  have z0 : V7.cell? ⟨ib, 0, none⟩ = some (.string x.id) := q7.at 0
                  have z1 : V7.cell? ⟨ib, 1, none⟩ = some (.string x.nm) := q7.at 1
                  have HV7 := Lib.hid h7
                  have HIB := Lib.hid hib
                  have hen := fun args w1 => enters_of Tryz.func95 (by kernel_rfl) rfl args w1
                  clear hx hcl hcl2 hxp hxs hAl h7 q7 l7 s7 hib x9 c9 HPJ hlg hpn hkn
                  go_upto_region 35 with fail
                  rw [show wr.alloc (.cells #[.string x.id, .string x.nm, .string x.ty, .slice pa pn pc, .slice ka kn kc, .int .i64 x.lg.k, .int .i64 x.lg.e.k, .string x.lg.e.s, .slice nea nen nec, .slice lea len lec, .string x.lg.p, .slice lia lim lic, .slice oa om oc, .slice ra rm rc, .slice lna lnm lnc, .slice la lm lc] 46) = V7 from HV7.out, HIB.out]
                  clear HV7 g0 g1 g2 g3 g4 g5 g6 g7 g8 g9 g10 g11 g12 g13 g14 g15
                  go_wp2_with fail
                  refine (HONE.out _ (Bel.refl _)).mono ?_
                  rintro e8 w8 ⟨E8, rfl, hR8, hb8, hP8, _⟩
                  have HR8 := Lib.hid hR8
                  have HB8 := Lib.hid hb8
                  have HP8 := Lib.hid hP8
                  clear hR8 hb8 hP8 z0 z1 HONE
                  by_cases hE8 : E8 = 0
                  · subst hE8
                    have HN := Lib.hid (HP8.out rfl)
                    clear HR8 HP8
                    go_wp2_with fail
                    exact ⟨⟨j + 1, by go_num, by omega, HN⟩, by simp [intOf]; omega⟩
                  · have hE8b : ((E8 : Int) == 0) = false := by simpa using hE8
                    have HRE : Hid (E8 = namedM m) := Lib.hid (by rw [HR.out]; exact HR8.out hE8)
                    have HE8 := Lib.hid hE8
                    clear hE8 HR8 HP8
                    go_wp2_with fail
                    go_ret
                    exact HB8.out.ret HRE.out HE8.out
                · have hji : ¬ (j : Int) < n9 := by omega
                  have HPF9 := Lib.hid (HPJ.out.fin (by unfold deP; rw [List.length_map]; have := HIN9.out; omega))
                  clear HPJ HPG8
                  obtain ⟨W9, hW9⟩ : ∃ X, X = wr := ⟨_, rfl⟩
                  subst hW9
                  have HZ : Hid (namedM m = 0 ∧ Bel u W9 ∧ But bb tb w W9 ∧ Blk W9 cb 93 (ckL m q bb tb) ∧ ByM W9 bb m.things.length (atT m.things) ∧ MapV W9 tb m.typ.length int0 (typC m.typ)) := Lib.hid (by
                    have h1 := HPF9.out
                    have h2 := h1.by'
                    rw [things_eq] at h2
                    exact ⟨by rw [HR.out, ← h1.eq]; rfl, h1.b.bel, h1.b.but, h1.b.bc, h2, h1.ty⟩)
                  clear HPF9
                  go_wp2_with fail
                  go_ret
                  exact ⟨by rw [HZ.out.1]; rfl, HZ.out.2.1, HZ.out.2.2.1, HZ.out.2.2.2.1, fun _ => HZ.out.2.2.2.2⟩
end Go.Proofs.YtbcdbefogfmhfaaGreatDoor
