/-
  xmlout's document: Sorted walked.
-/
import Derived.Test.YtojeclfcgnamoaaDoorRAA
namespace Go.Proofs.YtojeclfcgnamoaaDoor
open Go.RowKit Go.Sort Go.Shelf Go.Lib

def RetSo (e : Nd) (w : World) (S : Nat → Bool) (r : Ending) (w' : World) : Prop := ∃ va' vk', r = .returned (ndV (sortN e) va' vk') ∧ NdAt (hole w' S) (sortN e) va' vk' ∧ Bel w w'
/-- A row's own cells, three by three. -/
theorem own_atr {w : World} {B n c g : Nat} {e : TypeId} {M : List Atr} (h : w.ownsRow B e 3 (.slice (some ⟨g, 0, none⟩) n c) n (M.flatMap encA)) {i : Nat} {x : Atr} (hx : M[i]? = some x) :
    (w.cell? ⟨g, i * 3, none⟩ = some (.string x.1) ∧ w.cell? ⟨g, i * 3 + 1, none⟩ = some (.string x.2.1) ∧ w.cell? ⟨g, i * 3 + 2, none⟩ = some (.string x.2.2)) ∧ ∀ j, w.frozen? ⟨g, j, none⟩ = false := by
  obtain ⟨_, h1, h2⟩ := own_cells h rfl
  exact ⟨⟨h1 _ _ (flatA_get M i x 0 hx (by omega)), h1 _ _ (flatA_get M i x 1 hx (by omega)), h1 _ _ (flatA_get M i x 2 hx (by omega))⟩, h2⟩
theorem own_grownA {w w' : World} {B n m : Nat} {e : TypeId} {v : Value} {xs : List Value} (ho : w.ownsRow B e m v n xs) (hg : w.grownBy w' v.ownBlock) {u : World} (hb : Below B u w) (hB : B ≤ w.heap.size) : Below B u w' :=
  Below.grown hb hg hB fun k e => by
    rcases ho.2 with ⟨e0, _⟩ | ⟨g', cap2, cur, e0, hge, _⟩
    · rw [e0] at e; cases e
    · rw [e0] at e
      simp only [Value.ownBlock, Option.some.injEq] at e
      omega
theorem own_len {w : World} {B n : Nat} {e : TypeId} {v : Value} {M : List Atr} (h : w.ownsRow B e 3 v n (M.flatMap encA)) : M.length = n := by
  have := h.1
  rw [flatA_len] at this
  omega
theorem swap_row {W : World} {B n c g K m : Nat} {e : TypeId} {P' Q : List Atr} {y z : Atr} (hm : P'.length = m) (hK : K = m + 1) (h : W.ownsRow B e 3 (.slice (some ⟨g, 0, none⟩) n c) n ((P' ++ z :: y :: Q).flatMap encA)) :
    (put3 W g (K * 3) z).ownsRow B e 3 (.slice (some ⟨g, 0, none⟩) n c) n ((P' ++ z :: z :: Q).flatMap encA) ∧ (put3 (put3 W g (K * 3) z) g (m * 3) y).ownsRow B e 3 (.slice (some ⟨g, 0, none⟩) n c) n ((P' ++ y :: z :: Q).flatMap encA) := by
  have e1 : ∀ (x : Atr), P' ++ z :: x :: Q = (P' ++ [z]) ++ x :: Q := fun x => by simp
  have hl : (P' ++ [z]).length = K := by simp; omega
  have h1 : (put3 W g (K * 3) z).ownsRow B e 3 (.slice (some ⟨g, 0, none⟩) n c) n ((P' ++ z :: z :: Q).flatMap encA) := by
    have := put3_own (x := y) z h (j := K) (by rw [e1, ← hl]; exact get_mid _ _ _)
    rw [e1, ← hl, set_mid, ← e1] at this
    rw [← hl]
    exact this
  refine ⟨h1, ?_⟩
  have := put3_own (x := z) y h1 (j := m) (by rw [← hm]; exact get_mid _ _ _)
  rw [← hm, set_mid] at this
  rw [← hm]
  exact this
set_option maxRecDepth 100000 in
set_option maxHeartbeats 16000000 in
theorem rsortF_c (f : Nat) (ih : ∀ (e : Nd), e.bulk ≤ f → DistN e → ∀ va vk w (S : Nat → Bool), (∀ k, S k = true → k < w.heap.size) → NdAt (hole w S) e va vk → Calls Tryd.prog 13 #[ndV e va vk] w (RetSo e w S))
    (e : Nd) (hf : e.bulk ≤ f + 1) (hbk : f ≤ 1000000) (hd : DistN e) (va vk : Value) (w : World) (S : Nat → Bool) (hS : ∀ k, S k = true → k < w.heap.size) (h : NdAt (hole w S) e va vk) :
    Calls Tryd.prog 13 #[ndV e va vk] w (RetSo e w S) := by
  obtain ⟨aa, ka, an, ac, kn, kc, rfl, rfl, han, hkn, hac, hkc, hab, hkb, hatr, hkid⟩ := (NdAt.reads (reads_hole w S) e h).opened
  have HN := Lib.hid h
  have HSS := Lib.hid hS
  have HIH := Lib.hid ih
  have HAN := Lib.hid han
  have HKN := Lib.hid hkn
  have HAT := Lib.hid hatr
  have HF := Lib.hid hf
  have HD := Lib.hid hd
  obtain ⟨L, hL, HCK0⟩ : ∃ L : List (Nd × Value × Value), L.map (fun x => x.1) = e.ks ∧ (NewsAt w ka (L.flatMap ndC) ∧ ∀ x ∈ L, NdAt (hole w S) x.1 x.2.1 x.2.2) := by
    obtain ⟨_, a, cap, hv, _, hk⟩ := HN.out.two
    injection hv with hv1 hv2 hv3
    subst hv1
    rcases hk with hk | ⟨b, off, hk, hlt, hn⟩
    · rw [hk]
      exact ⟨[], rfl, (fun j u hj => by cases hj), (fun x hx => by cases hx)⟩
    · obtain ⟨L, h1, h2, h3⟩ := nds_list _ _ hn
      exact ⟨L, h1, (fun j u hj => ⟨b, off, hk, hole_cell (h2 j u hj)⟩), h3⟩
  have HLK := Lib.hid HCK0
  have HL := Lib.hid hL
  have hal := atr_len e.al
  have hbe := nd_bulk e
  have hkl := nbulks_len e.ks
  have han2 : an ≤ 1000001 := by omega
  have hkn2 : kn ≤ 1000001 := by omega
  obtain ⟨t, ht⟩ : ∃ t, e.t = t := ⟨_, rfl⟩
  obtain ⟨sp, hsp⟩ : ∃ t, e.sp = t := ⟨_, rfl⟩
  obtain ⟨lo, hlo⟩ : ∃ t, e.lo = t := ⟨_, rfl⟩
  obtain ⟨tx, htx⟩ : ∃ t, e.tx = t := ⟨_, rfl⟩
  have HE := Lib.hid (And.intro ht (And.intro hsp (And.intro hlo htx)))
  unfold ndV
  rw [ht, hsp, hlo, htx]
  obtain ⟨V1, h1, q1, l1, s1⟩ := alloc_step w 27 [.int .i64 t, .string sp, .string lo, .slice aa an ac, .slice ka kn kc, .string tx]
  obtain ⟨V2, h2, q2, l2, s2⟩ := alloc_step V1 27 [.int .i64 0, .string ⟨#[]⟩, .string ⟨#[]⟩, .slice none 0 0, .slice none 0 0, .string ⟨#[]⟩]
  obtain ⟨b0, hb0⟩ : ∃ b, w.heap.size = b := ⟨_, rfl⟩
  have hb1 : V1.heap.size = b0 + 1 := by omega
  obtain ⟨B, hB⟩ : ∃ b, V2.heap.size = b := ⟨_, rfl⟩
  rw [hb0] at q1
  rw [hb1] at q2
  have Q0 := Lib.hid (q1.bel l2)
  have Q1 := Lib.hid q2
  have HV1 := Lib.hid h1
  have HV2 := Lib.hid h2
  have HBL := Lib.hid (l1.trans l2)
  have HNUM : Hid (w.heap.size = b0 ∧ V1.heap.size = b0 + 1 ∧ V2.heap.size = B ∧ B = b0 + 2) := Lib.hid ⟨hb0, hb1, hB, by omega⟩
  clear h hS ih han hkn hatr hkid HCK0 hL hal hbe hkl ht hsp hlo htx h1 h2 q1 q2 l1 l2 s1 s2 hb0 hb1 hB hf hbk hd hac hkc hab hkb
  go_enter Tryd.func13, Tryd.ntmps13
  go_upto_region 1 with fail
  rw [show w.alloc (.cells #[.int .i64 t, .string sp, .string lo, .slice aa an ac, .slice ka kn kc, .string tx] 27) = V1 from HV1.out, HNUM.out.1]
  rw [show V1.alloc (.cells #[.int .i64 0, .string ⟨#[]⟩, .string ⟨#[]⟩, .slice none 0 0, .slice none 0 0, .string ⟨#[]⟩] 27) = V2 from HV2.out]
  clear HV1 HV2
  go_wp2_with fail
  have H0 : Hid (∃ M : List Atr, V2.ownsRow B 63 3 (.slice none 0 0) 0 (M.flatMap encA) ∧ M.Perm (e.al.take 0) ∧ (M.Pairwise fun a b => ltA b a = false) ∧ Below B V2 V2) := Lib.hid ⟨[], ⟨rfl, .inl ⟨rfl, rfl⟩⟩, by simp, by simp, Below.refl _ _⟩
  go_loopw [3, 4] (fun v i wr => ∃ (j : Nat), i = .int .i64 j ∧ j ≤ an ∧ Hid (∃ M : List Atr, wr.ownsRow B 63 3 v j (M.flatMap encA) ∧ M.Perm (e.al.take j) ∧ (M.Pairwise fun a b => ltA b a = false) ∧ Below B V2 wr)) (fun _ i _ => an - (intOf i).toNat)
  case atStart => exact ⟨0, rfl, Nat.zero_le _, H0⟩
  case round =>
    obtain ⟨j, rfl, hj, HSJ⟩ := hrel
    by_cases hlt : j < an
    · have hlti : (j : Int) < an := by omega
      obtain ⟨M, ho, hp, hs, hb⟩ := HSJ.out
      obtain ⟨a1, c1, rfl, hc1, -⟩ := own_wh ho
      obtain ⟨y, hy⟩ : ∃ y, e.al[j]? = some y := ⟨_, List.getElem?_eq_getElem (by have := HAN.out; omega)⟩
      obtain ⟨ba, off, rfl, g0, g1, g2⟩ := HAT.out j y hy
      obtain ⟨k0, -, k2, k3⟩ := HNUM.out
      have q0 : Blk wr b0 27 [.int .i64 t, .string sp, .string lo, .slice (some ⟨ba, off, none⟩) an ac, .slice ka kn kc, .string tx] := (hb.block _ (by omega)).trans Q0.out
      have c3 := q0.at 3
      have hbw : Bel w wr := Below.trans HBL.out (hb.mono (by omega))
      have f0 := hbw.keep g0
      have f1 := hbw.keep g1
      have f2 := hbw.keep g2
      have hsz : B ≤ wr.heap.size := by rw [← k2]; exact hb.size
      have hBb : B ≤ (wr.alloc (.cells #[.string y.1, .string y.2.1, .string y.2.2] 63)).heap.size := by rw [World.size_alloc]; omega
      have HOW := Lib.hid (own_bel ho (Bel.alloc wr (.cells #[.string y.1, .string y.2.1, .string y.2.2] 63)))
      have HB5 : Hid (Below B V2 (wr.alloc (.cells #[.string y.1, .string y.2.1, .string y.2.2] 63))) := Lib.hid (hb.alloc hsz _)
      have HML := Lib.hid (own_len ho)
      have HPS := Lib.hid (And.intro hp hs)
      have HTK : Hid (e.al.take (j + 1) = e.al.take j ++ [y]) := Lib.hid (by rw [List.take_add_one, hy]; rfl)
      clear ho hp hs hb hc1 hy g0 g1 g2 k0 k2 k3 q0 hbw HSJ hsz
      obtain ⟨ya, yb, yc⟩ := y
      dsimp only at f0 f1 f2 hBb HOW HB5
      go_wp2_with (at_builtin; refine wpL_append1k rfl _ _ 24 rfl B hBb 63 (.agg #[.string ⟨#[]⟩, .string ⟨#[]⟩, .string ⟨#[]⟩]) 3 48 Tryd.underlying24 info_atr rfl (by decide) (by decide) _ j _ rfl HOW.out ⟨wr.heap.size, 0, none⟩ 1 (encA (ya, yb, yc)) rfl rfl (cells_new _ _ _) (encA_one _) (by omega) ?_; intro g cap2 w7 hown7 hg7; have HO7 := Lib.hid hown7; have HB7 := Lib.hid (own_grownA HOW.out hg7 HB5.out hBb); clear hown7 hg7 hBb HOW HB5 f0 f1 f2 c3)
      have H1 : Hid (InsA M (ya, yb, yc) [] ∧ (M ++ []).Perm M ∧ w7.ownsRow B 63 3 (.slice (some ⟨g, 0, none⟩) (j + 1) cap2) (j + 1) ((M ++ (ya, yb, yc) :: []).flatMap encA) ∧ Below B V2 w7) := Lib.hid ⟨InsA.start HPS.out.2 _, by simp, by rw [List.flatMap_append]; simpa using HO7.out, HB7.out⟩
      have hmj : M.length = j := HML.out
      go_loopw [5] (fun i wq => ∃ (P Q : List Atr), i = .int .i64 P.length ∧ Hid (InsA P (ya, yb, yc) Q ∧ (P ++ Q).Perm M ∧ wq.ownsRow B 63 3 (.slice (some ⟨g, 0, none⟩) (j + 1) cap2) (j + 1) ((P ++ (ya, yb, yc) :: Q).flatMap encA) ∧ Below B V2 wq)) (fun i _ => (intOf i).toNat)
      case atStart => exact ⟨M, [], by rw [hmj], H1⟩
      case round =>
        obtain ⟨P, Q, rfl, HI⟩ := hrel
        obtain ⟨hins, hper, hown, hbe⟩ := HI.out
        rcases List.eq_nil_or_concat P with rfl | ⟨P', z, rfl⟩
        · have HN : Hid (∀ W, Bel wr W → ∃ M' : List Atr, W.ownsRow B 63 3 (.slice (some ⟨g, 0, none⟩) (j + 1) cap2) (j + 1) (M'.flatMap encA) ∧ M'.Perm (e.al.take (j + 1)) ∧ (M'.Pairwise fun a b => ltA b a = false) ∧ Below B V2 W) := Lib.hid fun W hW => ⟨_, own_bel hown hW, by
            rw [HTK.out]
            exact (List.perm_middle.trans ((hper.trans HPS.out.1).cons _)).trans (List.perm_append_singleton _ _).symm, hins.done (fun P' y h => by simp at h), hbe.trans (hW.mono (by have := hbe.size; have := HNUM.out.2.2.1; omega))⟩
          clear hins hper hown hbe HI H1
          rw [List.length_nil]
          go_upto_region 7 with fail
          go_quiet (fail)
          go_wp2_with fail
          exact ⟨⟨j + 1, by go_num, by omega, Lib.hid (HN.out _ (Bel.drewN _ _))⟩, by simp [intOf]; omega⟩
        · have hln := hper.length_eq
          rw [hmj] at hln
          obtain ⟨za, zb, zc⟩ := z
          rw [show P'.concat (za, zb, zc) ++ (ya, yb, yc) :: Q = P' ++ (za, zb, zc) :: (ya, yb, yc) :: Q from by simp] at hown
          obtain ⟨m, hm⟩ : ∃ m, P'.length = m := ⟨_, rfl⟩
          obtain ⟨K, hK⟩ : ∃ K, (P'.concat (za, zb, zc)).length = K := ⟨_, rfl⟩
          have hKm : K = m + 1 := by rw [← hK, ← hm]; simp
          have hKj : K < j + 1 := by rw [List.length_append, hK] at hln; omega
          have gy := own_atr hown (i := K) (x := (ya, yb, yc)) (by rw [← hK, show P' ++ (za, zb, zc) :: (ya, yb, yc) :: Q = P'.concat (za, zb, zc) ++ (ya, yb, yc) :: Q from by simp]; exact get_mid _ _ _)
          have gz := own_atr hown (i := m) (x := (za, zb, zc)) (by rw [← hm]; exact get_mid _ _ _)
          obtain ⟨⟨y0, y1, y2⟩, hfz⟩ := gy
          obtain ⟨⟨z0, z1, z2⟩, -⟩ := gz
          dsimp only at y0 y1 y2 z0 z1 z2
          have hk1 : (K : Int) - 1 = (m : Int) := by omega
          have hk0 : (0 : Int) < (K : Int) := by omega
          have hmj2 : m < j + 1 := by omega
          have fy0 := hfz (K * 3)
          have fy1 := hfz (K * 3 + 1)
          have fy2 := hfz (K * 3 + 2)
          have fz0 := hfz (m * 3)
          have fz1 := hfz (m * 3 + 1)
          have fz2 := hfz (m * 3 + 2)
          have HLS := Lib.hid fun W => rless_c ya yb za zb W
          obtain ⟨l, hl⟩ : ∃ l, nmLt ya yb za zb = l := ⟨_, rfl⟩
          rw [hl] at HLS
          rw [hK]
          have hdw := Bel.drew wr
          have HKm := Lib.hid (And.intro hm hKm)
          have HINS := Lib.hid hins
          have HPER := Lib.hid hper
          have HOWN := Lib.hid hown
          have HBE := Lib.hid hbe
          have HGB := Lib.hid (own_blk hown g 0 rfl).1
          have HLL := Lib.hid hl
          have hk0n : 0 < K := by omega
          have hwm : IntKind.i64.wrap (m : Int) = (m : Int) := IntWalk.i64_in _ (by omega)
          have hmi0 : (0 : Int) ≤ (m : Int) := by omega
          have hmi1 : (m : Int) ≤ (j : Int) := by omega
          have hwr : IntKind.i64.wrap ((K : Int) - 1) = (m : Int) := by rw [hk1]; exact IntWalk.i64_in _ (by omega)
          have hKle : K ≤ j := by omega
          have hmle : m ≤ j := by omega
          have hKi : (K : Int) < (j : Int) + 1 := by omega
          have hmi : (m : Int) < (j : Int) + 1 := by omega
          have hkd : decide ((0 : Int) < (K : Int)) = true := decide_eq_true hk0
          have hkd2 : decide (0 < K) = true := decide_eq_true hk0n
          clear hfz hln hm hK hins hper hown hbe hKm hl HI H1
          cases l
          · go_upto_region 7 with fail
            go_region_held3 (fun w' => w'.cell? ⟨g, K * 3, none⟩ = some (.string ya) ∧ w'.cell? ⟨g, K * 3 + 1, none⟩ = some (.string yb) ∧ w'.cell? ⟨g, m * 3, none⟩ = some (.string za) ∧ w'.cell? ⟨g, m * 3 + 1, none⟩ = some (.string zb) ∧ Bel wr w') (((try dsimp only); (try go_split_ands); (refine ⟨?_, ?_, ?_, ?_, ?_⟩ <;> first | assumption | exact Bel.keep (by assumption) (by assumption) | ((repeat (first | exact Bel.refl _ | assumption | refine Bel.to_drewN ?_ _ | refine Bel.to_drew ?_ | refine Bel.to_setCell ?_ (by first | exact Nat.le_refl _ | (simp; done) | (simp; omega) | omega) _ | refine Bel.to_alloc ?_ _ | refine Bel.trans ?_ (by assumption))); done) | (go_keep; done))))
              (first | (go_at_call 25; refine (HLS.out _).mono ?_; rintro e w1 ⟨rfl, hb1⟩))
            have hbd : Bel wr w1 := hdw.trans hb1
            have HN : Hid (∃ M' : List Atr, w1.ownsRow B 63 3 (.slice (some ⟨g, 0, none⟩) (j + 1) cap2) (j + 1) (M'.flatMap encA) ∧ M'.Perm (e.al.take (j + 1)) ∧ (M'.Pairwise fun a b => ltA b a = false) ∧ Below B V2 w1) := Lib.hid ⟨P'.concat (za, zb, zc) ++ (ya, yb, yc) :: Q, by
              have := own_bel HOWN.out hbd
              rwa [show P' ++ (za, zb, zc) :: (ya, yb, yc) :: Q = P'.concat (za, zb, zc) ++ (ya, yb, yc) :: Q from by simp] at this, by
              rw [HTK.out]
              exact (List.perm_middle.trans ((HPER.out.trans HPS.out.1).cons _)).trans (List.perm_append_singleton _ _).symm, HINS.out.done (fun P2 y2 h => by
                rw [List.concat_eq_append] at h
                have h2 := List.append_inj_right' h rfl
                injection h2 with h2
                rw [← h2]
                exact HLL.out), HBE.out.trans (hbd.mono (by have := HBE.out.size; have := HNUM.out.2.2.1; omega))⟩
            clear hb1 hbd y0 y1 y2 z0 z1 z2 fy0 fy1 fy2 fz0 fz1 fz2
            go_wp2_with fail
            exact ⟨⟨j + 1, by go_num, by omega, HN⟩, by simp [intOf]; omega⟩
          · go_upto_region 7 with fail
            go_region_held3 (fun w' => w'.cell? ⟨g, K * 3, none⟩ = some (.string ya) ∧ w'.cell? ⟨g, K * 3 + 1, none⟩ = some (.string yb) ∧ w'.cell? ⟨g, m * 3, none⟩ = some (.string za) ∧ w'.cell? ⟨g, m * 3 + 1, none⟩ = some (.string zb) ∧ Bel wr w') (((try dsimp only); (try go_split_ands); (refine ⟨?_, ?_, ?_, ?_, ?_⟩ <;> first | assumption | exact Bel.keep (by assumption) (by assumption) | ((repeat (first | exact Bel.refl _ | assumption | refine Bel.to_drewN ?_ _ | refine Bel.to_drew ?_ | refine Bel.to_setCell ?_ (by first | exact Nat.le_refl _ | (simp; done) | (simp; omega) | omega) _ | refine Bel.to_alloc ?_ _ | refine Bel.trans ?_ (by assumption))); done) | (go_keep; done))))
              (first | (go_at_call 25; refine (HLS.out _).mono ?_; rintro e w1 ⟨rfl, hb1⟩))
            have hbd : Bel wr w1 := hdw.trans hb1
            obtain ⟨V3, h3, q3, l3, s3⟩ := alloc_step w1 63 [.string ya, .string yb, .string yc]
            have hb3 := hbd.trans l3
            have a0 := hbd.keep y0
            have a1' := hbd.keep y1
            have a2 := hbd.keep y2
            have d0 := hb3.keep z0
            have d1 := hb3.keep z1
            have d2 := hb3.keep z2
            have e0 := hb3.keep y0
            have e1 := hb3.keep y1
            have e2 := hb3.keep y2
            have ho3 := own_bel HOWN.out hb3
            obtain ⟨-, hfz3⟩ := own_atr ho3 (i := m) (x := (za, zb, zc)) (by rw [← HKm.out.1]; exact get_mid _ _ _)
            have p0 := hfz3 (K * 3)
            have p1 := hfz3 (K * 3 + 1)
            have p2 := hfz3 (K * 3 + 2)
            obtain ⟨hx1, hx2⟩ := swap_row HKm.out.1 HKm.out.2 ho3
            have hbe3 : Below B V2 V3 := HBE.out.trans (hb3.mono (by have := HBE.out.size; have := HNUM.out.2.2.1; omega))
            have hne : w1.heap.size ≠ g := by have := (own_blk (own_bel HOWN.out hbd) g 0 rfl).2; omega
            obtain ⟨X1, hX1⟩ : ∃ X, put3 V3 g (K * 3) (za, zb, zc) = X := ⟨_, rfl⟩
            have hq1 : Blk X1 w1.heap.size 63 [.string ya, .string yb, .string yc] := by rw [← hX1]; exact ((q3.far (p := ⟨g, K * 3, none⟩) hne _).far (p := ⟨g, K * 3 + 1, none⟩) hne _).far (p := ⟨g, K * 3 + 2, none⟩) hne _
            rw [hX1] at hx1 hx2
            have hbx : Below B V2 X1 := by rw [← hX1]; exact put3_below hbe3 HGB.out _ _
            obtain ⟨⟨v0, v1, v2⟩, hfx⟩ := own_atr hx1 (i := m) (x := (za, zb, zc)) (by rw [← HKm.out.1]; exact get_mid _ _ _)
            dsimp only at v0 v1 v2
            have r0 := hfx (m * 3)
            have r1 := hfx (m * 3 + 1)
            have r2 := hfx (m * 3 + 2)
            have u0 := hq1.at 0
            have u1 := hq1.at 1
            have u2 := hq1.at 2
            unfold put3 at hX1
            have HX1 := Lib.hid hX1
            have HV3 := Lib.hid h3
            have HF : Hid (InsA P' (ya, yb, yc) ((za, zb, zc) :: Q) ∧ (P' ++ (za, zb, zc) :: Q).Perm M ∧ (put3 X1 g (m * 3) (ya, yb, yc)).ownsRow B 63 3 (.slice (some ⟨g, 0, none⟩) (j + 1) cap2) (j + 1) ((P' ++ (ya, yb, yc) :: (za, zb, zc) :: Q).flatMap encA) ∧ Below B V2 (put3 X1 g (m * 3) (ya, yb, yc))) := Lib.hid ⟨InsA.step (by have := HINS.out; rwa [List.concat_eq_append] at this) HLL.out, by have := HPER.out; rwa [List.concat_eq_append, List.append_assoc, List.singleton_append] at this, hx2, put3_below hbx HGB.out _ _⟩
            unfold put3 at HF
            clear hb1 hbd y0 y1 y2 z0 z1 z2 fy0 fy1 fy2 fz0 fz1 fz2 h3 q3 l3 s3 hb3 ho3 hfz3 hx1 hx2 hbe3 hne hX1 hq1 hbx hfx
            go_upto_region 10 with fail
            rw [show w1.alloc (.cells #[.string ya, .string yb, .string yc] 63) = V3 from HV3.out]
            clear HV3
            go_upto_region 11 with fail
            rw [HX1.out]
            clear HX1
            go_wp2_with fail
            exact ⟨⟨P', (za, zb, zc) :: Q, by rw [HKm.out.1], HF⟩, by have := HKm.out.2; simp [intOf]; omega⟩
    · have hlti : ¬ ((j : Int) < an) := by omega
      obtain rfl : j = an := by omega
      obtain ⟨w5, rfl⟩ : ∃ x, x = wr := ⟨_, rfl⟩
      obtain ⟨M, ho, hp, hs, hb⟩ := HSJ.out
      obtain ⟨a1, c1, rfl, hc1, -⟩ := own_wh ho
      obtain ⟨k0, -, k2, k3⟩ := HNUM.out
      have hM : M = sortA e.al := sort_unique (by have := HD.out; obtain ⟨t, sp, lo, al, ks, tx⟩ := e; unfold DistN at this; exact this.1) (by rwa [List.take_of_length_le (by have := HAN.out; omega)] at hp) hs
      have hatr : AttrsV w5 (.slice a1 j c1) (sortA e.al) := by rw [← hM]; exact attrs_own ho hc1
      have hbw : Bel w w5 := Below.trans HBL.out (hb.mono (by omega))
      have hsz : B ≤ w5.heap.size := by rw [← k2]; exact hb.size
      have q0 : Blk w5 b0 27 [.int .i64 t, .string sp, .string lo, .slice aa j ac, .slice ka kn kc, .string tx] := (hb.block _ (by omega)).trans Q0.out
      have q1 : Blk w5 (b0 + 1) 27 [.int .i64 0, .string ⟨#[]⟩, .string ⟨#[]⟩, .slice none 0 0, .slice none 0 0, .string ⟨#[]⟩] := (hb.block _ (by omega)).trans Q1.out
      have x3 : w5.cell? ⟨b0, 3, none⟩ = some (.slice aa j ac) := q0.at 3
      have HATR := Lib.hid hatr
      have HA1 : Hid (∀ b off, a1 = some ⟨b, off, none⟩ → B ≤ b ∧ b < w5.heap.size) := Lib.hid (own_blk ho)
      have HBW := Lib.hid hbw
      have HQ0 := Lib.hid q0
      have HQ1 := Lib.hid q1
      have HSZ := Lib.hid hsz
      clear ho hp hs hb hc1 k0 k2 k3 hM hatr hbw hsz q0 q1 HSJ
      obtain ⟨C, hC⟩ : ∃ C, w5.heap.size = C := ⟨_, rfl⟩
      have HC := Lib.hid hC
      have H2 : Hid (∃ N : List (Nd × Value × Value), w5.ownsRow C 27 6 (.slice none 0 0) 0 (N.flatMap ndC) ∧ N.map (fun x => x.1) = (e.ks.take 0).map sortN ∧ (∀ x ∈ N, NdAt (hole w5 (rowT S b0 (.slice none 0 0))) x.1 x.2.1 x.2.2) ∧ Below C w5 w5) := Lib.hid ⟨[], World.ownsRow_nil _ _ _ _, by simp, by simp, Below.refl _ _⟩
      clear hC
      go_wp2_with fail
      go_loopw [7, 8] (fun v i wq => ∃ (k : Nat), i = .int .i64 k ∧ k ≤ kn ∧ Hid (∃ N : List (Nd × Value × Value), wq.ownsRow C 27 6 v k (N.flatMap ndC) ∧ N.map (fun x => x.1) = (e.ks.take k).map sortN ∧ (∀ x ∈ N, NdAt (hole wq (rowT S b0 v)) x.1 x.2.1 x.2.2) ∧ Below C w5 wq)) (fun _ i _ => kn - (intOf i).toNat)
      case atStart => exact ⟨0, rfl, Nat.zero_le _, H2⟩
      case round =>
        obtain ⟨k, rfl, hk, HSK⟩ := hrel
        by_cases hlk : k < kn
        · have hlki : (k : Int) < kn := by omega
          obtain ⟨N, ho, hN, hnd, hb⟩ := HSK.out
          obtain ⟨a2, c2, rfl, hc2, -⟩ := own_wh ho
          obtain ⟨h1, h2, h3, h4⟩ := HNUM.out
          have hCs := HC.out
          have hBC := HSZ.out
          have hbwr : Bel w5 wr := by unfold Bel; rw [hCs]; exact hb
          have hbwq : Bel w wr := HBW.out.trans hbwr
          have hL := HL.out
          obtain ⟨⟨x, xva, xvk⟩, hx⟩ : ∃ x, L[k]? = some x := ⟨_, List.getElem?_eq_getElem (by have := congrArg List.length hL; rw [List.length_map] at this; have := HKN.out; omega)⟩
          have hxk : e.ks[k]? = some x := by rw [← hL, List.getElem?_map, hx]; rfl
          have hxn := HLK.out.2 _ (List.mem_of_getElem? hx)
          dsimp only at hxn
          obtain ⟨⟨xaa, xac, e1, -, -⟩, xka, xkc, e2, -, -⟩ := hxn.two
          obtain ⟨xan, hxan⟩ : ∃ n, x.al.length = n := ⟨_, rfl⟩
          obtain ⟨xkn, hxkn⟩ : ∃ n, x.ks.length = n := ⟨_, rfl⟩
          rw [hxan] at e1
          rw [hxkn] at e2
          subst e1 e2
          have hnw := fun c u (hc : c < 6) (hu : (ndC (x, .slice xaa xan xac, .slice xka xkn xkc))[c]? = some u) => HLK.out.1 (k * 6 + c) u (by rw [flatN_get L k _ c hx hc]; exact hu)
          obtain ⟨kb, koff, rfl, g0⟩ := hnw 0 _ (by omega) rfl
          have gk : ∀ c u, c < 6 → (ndC (x, .slice xaa xan xac, .slice xka xkn xkc))[c]? = some u → wr.cell? ⟨kb, koff + (k * 6 + c), none⟩ = some u := fun c u hc hu => by
            obtain ⟨kb', koff', e3, g⟩ := hnw c u hc hu
            injection e3 with e3
            injection e3 with e3 e4
            subst e3 e4
            exact hbwq.keep g
          have f0 : wr.cell? ⟨kb, koff + k * 6, none⟩ = some (.int .i64 x.t) := gk 0 _ (by omega) rfl
          have f1 : wr.cell? ⟨kb, koff + k * 6 + 1, none⟩ = some (.string x.sp) := gk 1 _ (by omega) rfl
          have f2 : wr.cell? ⟨kb, koff + k * 6 + 2, none⟩ = some (.string x.lo) := gk 2 _ (by omega) rfl
          have f3 : wr.cell? ⟨kb, koff + k * 6 + 3, none⟩ = some (.slice xaa xan xac) := gk 3 _ (by omega) rfl
          have f4 : wr.cell? ⟨kb, koff + k * 6 + 4, none⟩ = some (.slice xka xkn xkc) := gk 4 _ (by omega) rfl
          have f5 : wr.cell? ⟨kb, koff + k * 6 + 5, none⟩ = some (.string x.tx) := gk 5 _ (by omega) rfl
          have x4 : wr.cell? ⟨b0, 4, none⟩ = some (.slice (some ⟨kb, koff, none⟩) kn kc) := (HQ0.out.bel hbwr).at 4
          have hown2 : ∀ kk, (Value.slice a2 k c2).ownBlock = some kk → C ≤ kk ∧ kk < wr.heap.size := fun kk hkk => ho.lt kk hkk
          have hT : ∀ kk, rowT S b0 (.slice a2 k c2) kk = true → kk < wr.heap.size := fun kk hkk => by
            have hs := hbwq.size
            have hs2 := hbwr.size
            rcases rowT_iff.1 hkk with h | h | h | h
            · have := HSS.out kk h; omega
            · omega
            · omega
            · exact (hown2 kk h).2
          have hTS : ∀ kk, kk < w.heap.size → rowT S b0 (.slice a2 k c2) kk = true → S kk = true := fun kk hlt hkk => by
            rcases rowT_iff.1 hkk with h | h | h | h
            · exact h
            · omega
            · omega
            · have := (hown2 kk h).1; omega
          have HCL := Lib.hid (HIH.out x (by have := nbulks_mem (List.mem_of_getElem? hxk); have := nd_bulk e; have := HF.out; omega) (by have := HD.out; obtain ⟨t, sp, lo, al, ks, tx⟩ := e; unfold DistN at this; exact dists_mem this.2 (List.mem_of_getElem? hxk)) _ _ wr (rowT S b0 (.slice a2 k c2)) hT (hxn.reads (reads_grow hbwq hTS)))
          unfold ndV at HCL
          have HO := Lib.hid ho
          have HNN := Lib.hid hN
          have HND := Lib.hid hnd
          have HB := Lib.hid hb
          have HTK : Hid (e.ks.take (k + 1) = e.ks.take k ++ [x]) := Lib.hid (by rw [List.take_add_one, hxk]; rfl)
          have hCq : C ≤ wr.heap.size := by rw [← hCs]; exact hbwr.size
          clear ho hN hnd hb hc2 h1 h2 h3 h4 hCs hBC hbwr hbwq hL hx hxk hxn hxan hxkn hnw g0 gk hown2 hT hTS HSK
          go_wp2_with fail
          refine HCL.out.mono ?_
          rintro e4 w4 ⟨ya, yk, rfl, hyn, hb4⟩
          obtain ⟨⟨yaa, yac, e1, -, -⟩, yka, ykc, e2, -, -⟩ := hyn.two
          obtain ⟨yan, hyan⟩ : ∃ n, (sortN x).al.length = n := ⟨_, rfl⟩
          obtain ⟨ykn, hykn⟩ : ∃ n, (sortN x).ks.length = n := ⟨_, rfl⟩
          rw [hyan] at e1
          rw [hykn] at e2
          subst e1 e2
          obtain ⟨y, hy⟩ : ∃ y, sortN x = y := ⟨_, rfl⟩
          have HY := Lib.hid hy
          rw [hy] at hyn ⊢
          unfold ndV
          obtain ⟨w6, hw6⟩ : ∃ W, w4.alloc (.cells #[.int .i64 y.t, .string y.sp, .string y.lo, .slice yaa yan yac, .slice yka ykn ykc, .string y.tx] 27) = W := ⟨_, rfl⟩
          have hb6 : Bel w4 w6 := by rw [← hw6]; exact Bel.alloc _ _
          have hcn : ∀ j u, (ndC (y, .slice yaa yan yac, .slice yka ykn ykc))[j]? = some u → w6.cell? ((⟨w4.heap.size, 0, none⟩ : Addr).add j) = some u := by rw [← hw6]; exact cells_new w4 _ _
          have HCN := Lib.hid hcn
          have hC6 : C ≤ w6.heap.size := Nat.le_trans hCq (hb4.trans hb6).size
          have HO6 := Lib.hid (own_bel HO.out (hb4.trans hb6))
          have HB6 : Hid (Below C w5 w6) := Lib.hid (HB.out.trans ((hb4.trans hb6).mono hCq))
          have hr6 : Reads (hole wr (rowT S b0 (.slice a2 k c2))) (hole w6 (rowT S b0 (.slice a2 k c2))) := reads_grow (hb4.trans hb6) fun _ _ h => h
          have HND6 : Hid (∀ x ∈ N, NdAt (hole w6 (rowT S b0 (.slice a2 k c2))) x.1 x.2.1 x.2.2) := Lib.hid fun x hx => (HND.out x hx).reads hr6
          have HYN6 : Hid (NdAt (hole w6 (rowT S b0 (.slice a2 k c2))) y (.slice yaa yan yac) (.slice yka ykn ykc)) := Lib.hid (hyn.reads (reads_grow hb6 fun _ _ h => h))
          have HW6 := Lib.hid hw6
          have HONE : Hid (∀ u ∈ ndC (y, .slice yaa yan yac, .slice yka ykn ykc), u.oneCell' = true) := Lib.hid fun u hu => by
            simp only [ndC, List.mem_cons, List.not_mem_nil, or_false] at hu
            rcases hu with rfl | rfl | rfl | rfl | rfl | rfl <;> rfl
          clear hyan hykn hy hw6 hb6 hcn hr6 hyn hb4 hCq HO HB HND HCL f0 f1 f2 f3 f4 f5 x4
          go_wp2_with (at_builtin; rw [show w4.alloc (.cells #[.int .i64 y.t, .string y.sp, .string y.lo, .slice yaa yan yac, .slice yka ykn ykc, .string y.tx] 27) = w6 from HW6.out]; refine wpL_append1g rfl _ _ 25 rfl C hC6 27 (.agg #[.int .i64 0, .string ⟨#[]⟩, .string ⟨#[]⟩, .slice none 0 0, .slice none 0 0, .string ⟨#[]⟩]) 6 104 Tryd.underlying25 info_nod rfl (by decide) (by decide) _ k _ rfl HO6.out ⟨w4.heap.size, 0, none⟩ 1 (ndC (y, .slice yaa yan yac, .slice yka ykn ykc)) rfl rfl HCN.out HONE.out (by omega) ?_; intro g cap2 w7 hown7 hg7 hpl; have HO7 := Lib.hid hown7; have HG7 := Lib.hid hg7; have HPL := Lib.hid hpl; clear hown7 hg7 hpl)
          have HN : Hid (∃ N : List (Nd × Value × Value), w7.ownsRow C 27 6 (.slice (some ⟨g, 0, none⟩) (k + 1) cap2) (k + 1) (N.flatMap ndC) ∧ N.map (fun x => x.1) = (e.ks.take (k + 1)).map sortN ∧ (∀ x ∈ N, NdAt (hole w7 (rowT S b0 (.slice (some ⟨g, 0, none⟩) (k + 1) cap2))) x.1 x.2.1 x.2.2) ∧ Below C w5 w7) := Lib.hid (by
            have hrd : Reads (hole w6 (rowT S b0 (.slice a2 k c2))) (hole w7 (rowT S b0 (.slice (some ⟨g, 0, none⟩) (k + 1) cap2))) := reads_app HG7.out (fun kk hkk => rowT_iff.2 (.inr (.inr (.inr hkk)))) fun kk hlt hkk => by
              rcases rowT_iff.1 hkk with h | h | h | h
              · exact rowT_iff.2 (.inl h)
              · exact rowT_iff.2 (.inr (.inl h))
              · exact rowT_iff.2 (.inr (.inr (.inl h)))
              · simp only [Value.ownBlock, Option.some.injEq] at h
                subst h
                rcases HPL.out with h | h
                · exact rowT_iff.2 (.inr (.inr (.inr h)))
                · omega
            refine ⟨N ++ [(y, .slice yaa yan yac, .slice yka ykn ykc)], ?_, ?_, ?_, own_grownA HO6.out HG7.out HB6.out hC6⟩
            · rw [List.flatMap_append]
              simpa using HO7.out
            · rw [List.map_append, HNN.out, HTK.out, List.map_append, List.map_cons, List.map_nil, List.map_cons, List.map_nil, HY.out]
            · intro z hz
              rcases List.mem_append.1 hz with hz | hz
              · exact (HND6.out z hz).reads hrd
              · obtain rfl := List.mem_singleton.1 hz
                exact HYN6.out.reads hrd)
          clear HO7 HG7 HPL HYN6 HND6 HB6 HO6
          go_wp2_with fail
          exact ⟨⟨k + 1, by go_num, by omega, HN⟩, by simp [intOf]; omega⟩
        · have hlki : ¬ ((k : Int) < kn) := by omega
          obtain rfl : k = kn := by omega
          obtain ⟨N, ho, hN, hnd, hb⟩ := HSK.out
          obtain ⟨a2, c2, rfl, hc2, -⟩ := own_wh ho
          obtain ⟨h1, h2, h3, h4⟩ := HNUM.out
          have hCs := HC.out
          have hBC := HSZ.out
          have hb5 : Bel w5 wr := by unfold Bel; rw [hCs]; exact hb
          have hbw : Bel w wr := HBW.out.trans hb5
          have t0 := HQ0.out.bel hb5
          have t1 := HQ1.out.bel hb5
          have q3 : wr.cell? ⟨b0, 3, none⟩ = some (.slice aa j ac) := t0.at 3
          have q4 : wr.cell? ⟨b0, 4, none⟩ = some (.slice ka k kc) := t0.at 4
          have fz3 : wr.frozen? ⟨b0, 3, none⟩ = false := t0.fz 3
          obtain ⟨W1, hW1⟩ : ∃ W, wr.setCell ⟨b0, 3, none⟩ (.slice a1 j c1) = W := ⟨_, rfl⟩
          have t01 : Blk W1 b0 27 [.int .i64 t, .string sp, .string lo, .slice a1 j c1, .slice ka k kc, .string tx] := by rw [← hW1]; exact t0.set 3 _
          have t11 : Blk W1 (b0 + 1) 27 [.int .i64 0, .string ⟨#[]⟩, .string ⟨#[]⟩, .slice none 0 0, .slice none 0 0, .string ⟨#[]⟩] := by rw [← hW1]; exact t1.far (p := ⟨b0, 3, none⟩) (by simp) _
          have q41 : W1.cell? ⟨b0, 4, none⟩ = some (.slice ka k kc) := t01.at 4
          have fz4 : W1.frozen? ⟨b0, 4, none⟩ = false := t01.fz 4
          obtain ⟨W2, hW2⟩ : ∃ W, W1.setCell ⟨b0, 4, none⟩ (.slice a2 k c2) = W := ⟨_, rfl⟩
          have t02 : Blk W2 b0 27 [.int .i64 t, .string sp, .string lo, .slice a1 j c1, .slice a2 k c2, .string tx] := by rw [← hW2]; exact t01.set 4 _
          have t12 : Blk W2 (b0 + 1) 27 [.int .i64 0, .string ⟨#[]⟩, .string ⟨#[]⟩, .slice none 0 0, .slice none 0 0, .string ⟨#[]⟩] := by rw [← hW2]; exact t11.far (p := ⟨b0, 4, none⟩) (by simp) _
          have hbw1 : Bel w W1 := by rw [← hW1]; exact bel_setNew hbw (by omega) _ _
          have hbw2 : Bel w W2 := by rw [← hW2]; exact bel_setNew hbw1 (by omega) _ _
          obtain ⟨T, hT⟩ : ∃ T, rowT S b0 (.slice a2 k c2) = T := ⟨_, rfl⟩
          have hT0 : T b0 = true := by rw [← hT]; exact rowT_iff.2 (.inr (.inl rfl))
          have hT1 : T (b0 + 1) = true := by rw [← hT]; exact rowT_iff.2 (.inr (.inr (.inl rfl)))
          have hr2 : Reads (hole wr T) (hole W2 T) := by
            rw [← hW2, ← hW1]
            exact reads_trans (reads_set (p := ⟨b0, 3, none⟩) hT0 _) (reads_set (p := ⟨b0, 4, none⟩) hT0 _)
          have hatw : AttrsV (hole wr T) (.slice a1 j c1) (sortA e.al) := (HATR.out.bel hb5).hole fun b off hb2 => by
            obtain ⟨g1, g2⟩ := HA1.out b off hb2
            cases hh : T b with
            | false => rfl
            | true =>
              exfalso
              rw [← hT] at hh
              rcases rowT_iff.1 hh with h | h | h | h
              · have := HSS.out b h; omega
              · omega
              · omega
              · have := (ho.lt b h).1; omega
          have HATW := Lib.hid (hatw.reads hr2)
          have HND2 : Hid (∀ x ∈ N, NdAt (hole W2 T) x.1 x.2.1 x.2.2) := Lib.hid fun x hx => (by have := hnd x hx; rw [hT] at this; exact this.reads hr2)
          have HO2 : Hid (W2.ownsRow C 27 6 (.slice a2 k c2) k (N.flatMap ndC)) := Lib.hid (by
            rw [← hW2, ← hW1]
            exact ownsRow_setCell_below (ownsRow_setCell_below ho (show b0 < C by omega) _) (show b0 < C by omega) _)
          have HNN : Hid (N.map (fun x => x.1) = sortsN e.ks) := Lib.hid (by rw [hN, List.take_of_length_le (by have := HKN.out; omega), sortsN_map])
          have HTT := Lib.hid (And.intro hT (And.intro hT0 hT1))
          have HW1 := Lib.hid hW1
          have HW2 := Lib.hid hW2
          have HBW2 := Lib.hid hbw2
          have HT02 := Lib.hid t02
          have HT12 := Lib.hid t12
          have HC2 := Lib.hid hc2
          clear ho hN hnd hb hc2 h1 h2 h3 h4 hCs hBC hb5 hbw t0 t1 hW1 t01 t11 hW2 t02 t12 hbw1 hbw2 hT hT0 hT1 hr2 hatw HSK
          go_upto_region 18 with fail
          rw [HW1.out]
          go_upto_region 19 with fail
          rw [HW2.out]
          have x0 := HT02.out.at 0
          have x1 := HT02.out.at 1
          have x2 := HT02.out.at 2
          have x3 := HT02.out.at 3
          have x4 := HT02.out.at 4
          have x5 := HT02.out.at 5
          have y0 := HT12.out.at 0
          have y1 := HT12.out.at 1
          have y2 := HT12.out.at 2
          have y3 := HT12.out.at 3
          have y4 := HT12.out.at 4
          have y5 := HT12.out.at 5
          have z0 := HT12.out.fz 0
          have z1 := HT12.out.fz 1
          have z2 := HT12.out.fz 2
          have z3 := HT12.out.fz 3
          have z4 := HT12.out.fz 4
          have z5 := HT12.out.fz 5
          clear q3 q4 fz3 q41 fz4
          go_wp2_with fail
          have hfin := ((((((HT12.out.set 0 (.int .i64 t)).set 1 (.string sp)).set 2 (.string lo)).set 3 (.slice a1 j c1)).set 4 (.slice a2 k c2)).set 5 (.string tx))
          refine bodyPost_ret (results_cellN rfl _ _ (b0 + 1) _ rfl (load_nd hfin)) rfl ?_
          obtain ⟨hT, hT0, hT1⟩ := HTT.out
          obtain ⟨k0, k1, k2, k3⟩ := HNUM.out
          have hkw := HSZ.out
          have hkc := HC.out
          have hrd : Reads (hole W2 T) (hole (put6 W2 (b0 + 1) 0 (.int .i64 t) (.string sp) (.string lo) (.slice a1 j c1) (.slice a2 k c2) (.string tx)) T) := put6_reads hT1 0 _ _ _ _ _ _
          have hls : Reads (hole (put6 W2 (b0 + 1) 0 (.int .i64 t) (.string sp) (.string lo) (.slice a1 j c1) (.slice a2 k c2) (.string tx)) T) (hole (put6 W2 (b0 + 1) 0 (.int .i64 t) (.string sp) (.string lo) (.slice a1 j c1) (.slice a2 k c2) (.string tx)) S) := reads_less fun kk hkk => by rw [← hT]; exact rowT_iff.2 (.inl hkk)
          obtain ⟨g1, g2, g3, g4⟩ := HE.out
          unfold RetSo
          rw [sortN_eq, g1, g2, g3, g4]
          refine ⟨_, _, rfl, ?_, put6_bel HBW2.out (by omega) 0 _ _ _ _ _ _⟩
          refine NdAt.make ?_ ((HATW.out.reads hrd).reads hls) ⟨a2, c2, ?_, ?_, ?_⟩
          · rw [← g1]; exact HN.out.wf
          · rw [sorts_len, HKN.out]
          · rw [sorts_len, HKN.out]; exact HC2.out
          · by_cases hj0 : 0 < k
            · obtain ⟨g, hg0, hgw, hgs⟩ := own_some HO2.out hj0
              have hSg : S g = false := by
                cases hs : S g with
                | false => rfl
                | true => have := HSS.out g hs; omega
              obtain ⟨_, hcs, _⟩ := own_cells HO2.out hg0
              refine .inr ⟨g, 0, hg0, ?_, ?_⟩
              · rw [hole_size]
                simp only [World.size_setCell]
                exact hgs
              · rw [← HNN.out]
                refine nds_of N 0 (fun i u hi => ?_) fun x hx => ((HND2.out x hx).reads hrd).reads hls
                rw [Nat.zero_add]
                rw [hole_cell_of (p := ⟨g, i, none⟩) hSg]
                have h0 := hcs i u hi
                have hne : g ≠ b0 + 1 := by omega
                simp only [World.cell?, World.setCell] at h0 ⊢
                simp [Array.getElem?_modify, Ne.symm hne]
                simpa using h0
            · left
              rw [← HNN.out]
              have hl := congrArg List.length HNN.out
              rw [List.length_map, sorts_len, HKN.out] at hl
              rw [List.eq_nil_of_length_eq_zero (by omega : N.length = 0)]
              rfl
theorem rsortS_c : ∀ (f : Nat) (e : Nd), e.bulk ≤ f → f ≤ 1000000 → DistN e → ∀ va vk w (S : Nat → Bool), (∀ k, S k = true → k < w.heap.size) → NdAt (hole w S) e va vk → Calls Tryd.prog 13 #[ndV e va vk] w (RetSo e w S) := by
  intro f
  induction f with
  | zero => intro e he; have := nd_pos e; omega
  | succ f ih =>
    intro e he hf hd va vk w S hS h
    exact rsortF_c f (fun e' he' hd' va' vk' w' S' hS' h' => ih e' he' (by omega) hd' va' vk' w' S' hS' h') e he (by omega) hd va vk w S hS h
/-- The document's Sorted. -/
theorem rsort_c (e : Nd) (va vk : Value) (w : World) (he : e.bulk ≤ 1000000) (hd : DistN e) (h : NdAt w e va vk) :
    Calls Tryd.prog 13 #[ndV e va vk] w fun r w' => ∃ va' vk', r = .returned (ndV (sortN e) va' vk') ∧ NdAt w' (sortN e) va' vk' ∧ Bel w w' := by
  have hr : Reads w (hole w fun _ => false) := ⟨fun p v hp => (hole_cell_of (S := fun _ => false) rfl).trans hp, by rw [hole_size]; exact Nat.le_refl _⟩
  refine (rsortS_c e.bulk e (Nat.le_refl _) he hd va vk w (fun _ => false) (fun k hk => by cases hk) (h.reads hr)).mono ?_
  rintro r w' ⟨va', vk', h1, h2, h3⟩
  exact ⟨va', vk', h1, NdAt.reads (reads_hole w' _) _ h2, h3⟩
end Go.Proofs.YtojeclfcgnamoaaDoor
