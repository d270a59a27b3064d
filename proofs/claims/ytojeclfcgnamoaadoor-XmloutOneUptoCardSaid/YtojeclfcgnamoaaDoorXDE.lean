/-
  The law's count of namespaces: a map of numbers; the walk of spaces.
  The law's spaces held against the prefixes (plain).
-/
import Derived.Test.YtojeclfcgnamoaaDoorWII
import Derived.Test.YtojeclfcgnamoaaDoorXA
import Derived.Maps.OwnSet
import Derived.Maps.Range
namespace Go.Proofs.YtojeclfcgnamoaaDoor
open Go.RowKit Go.Maps

/-- A map of numbers. -/
structure CntD (D : DataW Unit) (c : ByteArray → Nat) : Prop where
  map : IsMap D
  atk : ∀ s, D.atKey (keyT s) (.lit (.int .i64 0)) = .lit (.int .i64 (c s))
  has : ∀ s, Maps.has D (keyT s) = decide (0 < c s)
  all : ∀ k, Maps.has D k = true → ∃ s, k = keyT s
def CntM (W : World) (mb n : Nat) (c : ByteArray → Nat) : Prop := ∃ D : DataW Unit, W.ownsMap Tryd.prog 9 (plainElem Tryd.prog 3) mb n D ∧ CntD D c
theorem CntM.kept {W W' : World} {mb n : Nat} {c : ByteArray → Nat} (h : CntM W mb n c) (hb : W'.heap[mb]? = W.heap[mb]?) : CntM W' mb n c := by
  obtain ⟨D, ⟨es, ck, h1, h2⟩, h3⟩ := h
  exact ⟨D, ⟨es, ck, hb.trans h1, h2⟩, h3⟩
theorem CntM.lt {W : World} {mb n : Nat} {c : ByteArray → Nat} (h : CntM W mb n c) : mb < W.heap.size := by
  obtain ⟨D, h1, _⟩ := h
  exact h1.lt
theorem CntM.bel {W W' : World} {mb n : Nat} {c : ByteArray → Nat} (h : CntM W mb n c) (hb : Bel W W') : CntM W' mb n c := h.kept (hb.block h.lt)
theorem CntM.mono {W : World} {mb n n' : Nat} {c : ByteArray → Nat} (h : CntM W mb n c) (hn : n ≤ n') : CntM W mb n' c := by
  obtain ⟨D, h1, h2⟩ := h
  exact ⟨D, h1.mono hn, h2⟩
theorem cnt_new (W : World) : CntM (W.alloc (.map #[] 0)) W.heap.size 0 fun _ => 0 := ⟨_, World.ownsMap_made W _ _ _, isMap_empty, fun _ => rfl, fun _ => by simp [Maps.has], fun k h => by simp [Maps.has] at h⟩
theorem cnt_look {W : World} {mb n : Nat} {c : ByteArray → Nat} (h : CntM W mb n c) {s : ByteArray} (hs : s.size ≤ maxLen) :
    (Instr.lookup 44 (.map (some mb)) (.string s) false).run Tryd.prog W = .ok (.int .i64 (c s)) W := by
  obtain ⟨D, h1, h2⟩ := h
  have hz : (zeroValue 3).run Tryd.prog W = .ok (.int .i64 0) W := by kernel_rfl
  obtain ⟨v, hrun, hat, _⟩ := h1.lookup_int lawT Tryd.underlying44 Tryd.underlying3 hz (keyT_of hs)
  rw [h2.atk s] at hat
  simp at hat
  rw [hrun, ← hat]
theorem cnt_put {W : World} {mb n : Nat} {c : ByteArray → Nat} (h : CntM W mb n c) (hn : n < 1073741824) {s : ByteArray} (hs : s.size ≤ maxLen) (hc : c s < 1073741824) :
    ∃ W', (Instr.mapUpdate 44 (.map (some mb)) (.string s) (.int .i64 ((c s + 1 : Nat)))).run Tryd.prog W = .ok () W' ∧ CntM W' mb (n + 1) (fun x => if x = s then c s + 1 else c x) ∧ W.grownBy W' (some mb) := by
  obtain ⟨D, h1, h2⟩ := h
  have hcw : (Lit.int .i64 ((c s + 1 : Nat) : Int)).wf = true := WalkArith.wf_i64 (by omega)
  obtain ⟨W', hrun, hown, hg⟩ := h1.update lawT Tryd.underlying44 (by unfold maxLen; omega) (keyT_of hs) (plainElem_int Tryd.underlying3 hcw)
  refine ⟨W', hrun, ⟨_, hown, h2.map.put _ _, fun x => ?_, fun x => ?_, fun k hk => ?_⟩, hg⟩
  · by_cases hx : x = s
    · subst hx
      rw [atKey_put_same h2.map (show WideAt.IsKeyLit (keyT x) by trivial), if_pos rfl]
    · rw [atKey_put_other (keyT_ne hx), h2.atk x, if_neg hx]
  · by_cases hx : x = s
    · subst hx
      rw [has_put_same h2.map (show WideAt.IsKeyLit (keyT x) by trivial), if_pos rfl]
      simp
    · rw [has_put_other (keyT_ne hx), h2.has x, if_neg hx]
  · by_cases hx : k = keyT s
    · exact ⟨s, hx⟩
    · rw [has_put_other hx] at hk
      exact h2.all k hk
theorem cnt_del {W : World} {mb n : Nat} {c : ByteArray → Nat} (h : CntM W mb n c) {s : ByteArray} (hs : s.size ≤ maxLen) (ty : TypeId) :
    ∃ W', (Builtin.delete_ #[44, 9] ty #[.map (some mb), .string s]).run Tryd.prog W = .ok (.tuple #[]) W' ∧ CntM W' mb n (fun x => if x = s then 0 else c x) ∧ W.grownBy W' (some mb) := by
  obtain ⟨D, h1, h2⟩ := h
  obtain ⟨W', hrun, hown, hg⟩ := h1.drop lawT Tryd.underlying44 (keyT_of hs) ty
  refine ⟨W', hrun, ⟨_, hown, h2.map.del _, fun x => ?_, fun x => ?_, fun k hk => ?_⟩, hg.grown⟩
  · by_cases hx : x = s
    · subst hx
      rw [atKey_del_same, if_pos rfl]; rfl
    · rw [atKey_del_other (keyT_ne hx), h2.atk x, if_neg hx]
  · by_cases hx : x = s
    · subst hx
      rw [has_del_same, if_pos rfl]; rfl
    · rw [has_del_other (keyT_ne hx), h2.has x, if_neg hx]
  · by_cases hx : k = keyT s
    · exact ⟨s, hx⟩
    · rw [has_del_other hx] at hk
      exact h2.all k hk
theorem cnt_len {W : World} {mb n : Nat} {c : ByteArray → Nat} (h : CntM W mb n c) (h0 : ∀ s, c s = 0) (ty : TypeId) : (Builtin.len_ #[44] ty #[.map (some mb)]).run Tryd.prog W = .ok (.int .i64 0) W := by
  obtain ⟨D, h1, h2⟩ := h
  have hz : Maps.size D = 0 := by
    obtain ⟨es, rfl, _, hk⟩ := h1.entries lawT
    cases es with
    | nil => rfl
    | cons p r =>
      exfalso
      have hh : Maps.has (.map (p :: r)) p.1 = true := by
        rw [Maps.has_eq, List.any_cons, WideAt.sameKey_self (hk p (List.mem_cons_self ..))]
        rfl
      obtain ⟨s, hs⟩ := h2.all _ hh
      rw [hs, h2.has s, h0 s] at hh
      cases hh
  rw [h1.len Tryd.underlying44 ty, hz]
  rfl
theorem cnt_keep {w w' : World} {mb n : Nat} {c : ByteArray → Nat} (h : CntM w mb n c) (hg : w.grownBy w' (some mb)) : KeepT (fun _ => true) w w' := by
  obtain ⟨D, h1, _⟩ := h
  exact map_keep h1 hg

/-! How often each namespace stands in a tree. -/
def one (s x : ByteArray) : Nat := if s = x ∧ s ≠ ⟨#[]⟩ then 1 else 0
def occA (al : List Atr) (x : ByteArray) : Nat := (al.map fun a => one a.1 x).sum
mutual
def occN : Nd → ByteArray → Nat
  | .mk _ sp _ al ks _, x => one sp x + occA al x + occsN ks x
def occsN : List Nd → ByteArray → Nat
  | [], _ => 0
  | y :: r, x => occN y x + occsN r x
end
theorem occN_eq (n : Nd) (x : ByteArray) : occN n x = one n.sp x + occA n.al x + occsN n.ks x := by
  obtain ⟨t, sp, lo, al, ks, tx⟩ := n
  rw [occN]; rfl
theorem one_le (s x : ByteArray) : one s x ≤ 1 := by unfold one; split <;> omega
theorem occA_le : ∀ (al : List Atr) (x : ByteArray), occA al x ≤ al.length
  | [], x => by simp [occA]
  | a :: r, x => by
    have h1 := occA_le r x
    have h2 := one_le a.1 x
    unfold occA at h1 ⊢
    rw [List.map_cons, List.sum_cons, List.length_cons]
    omega
mutual
theorem occN_le : ∀ (n : Nd) (x : ByteArray), occN n x ≤ n.bulk
  | .mk t sp lo al ks tx, x => by
    rw [occN, nd_bulk]
    have h1 := one_le sp x
    have h2 := occA_le al x
    have h3 := occsN_le ks x
    have h4 := atr_len al
    show _ ≤ (_ + _ + _ + atrSum al + Nd.bulk.bulks ks) + 1
    omega
theorem occsN_le : ∀ (l : List Nd) (x : ByteArray), occsN l x ≤ Nd.bulk.bulks l
  | [], x => by rw [occsN]; omega
  | y :: r, x => by
    have h1 := occN_le y x
    have h2 := occsN_le r x
    rw [occsN, bulks_cons]
    omega
end
theorem one_add {c : ByteArray → Nat} {s : ByteArray} (h : s ≠ ⟨#[]⟩) : (fun x => if x = s then c s + 1 else c x) = fun x => c x + one s x := by
  funext x
  unfold one
  by_cases hx : x = s
  · subst hx; rw [if_pos rfl, if_pos ⟨rfl, h⟩]
  · rw [if_neg hx, if_neg fun e => hx e.1.symm]; rfl
theorem one_none {c : ByteArray → Nat} : (fun x => c x + one ⟨#[]⟩ x) = c := by
  funext x
  unfold one
  rw [if_neg fun e => e.2 rfl]; rfl
theorem occA_take {al : List Atr} {j : Nat} {a : Atr} (h : al[j]? = some a) (x : ByteArray) : occA (al.take (j + 1)) x = occA (al.take j) x + one a.1 x := by
  rw [List.take_add_one, h]
  unfold occA
  simp
theorem occsN_app : ∀ (a b : List Nd) (x : ByteArray), occsN (a ++ b) x = occsN a x + occsN b x
  | [], b, x => by rw [List.nil_append, occsN]; omega
  | y :: a, b, x => by rw [List.cons_append, occsN, occsN, occsN_app a b x]; omega
theorem occsN_take {l : List Nd} {j : Nat} {y : Nd} (h : l[j]? = some y) (x : ByteArray) : occsN (l.take (j + 1)) x = occsN (l.take j) x + occN y x := by
  rw [List.take_add_one, h, occsN_app]
  simp [occsN]
def RetC6 (B mb n : Nat) (c : ByteArray → Nat) (w : World) (e : Ending) (w' : World) : Prop := e = .returned (.tuple #[]) ∧ CntM w' mb n c ∧ Below B w w' ∧ KeepT (fun _ => true) w w'
set_option maxRecDepth 100000 in
set_option maxHeartbeats 8000000 in
theorem spacesF_c (u : World) (mb : Nat) (hmb : u.heap.size ≤ mb) (f : Nat)
    (ih : ∀ (x : Nd), x.bulk ≤ f → ∀ va vk q c w, NdAt u x va vk → Bel u w → CntM w mb q c → (∀ s, c s ≤ q) → q + x.bulk ≤ 536870912 →
      Calls Tryd.prog 15 #[ndV x va vk, .map (some mb)] w (RetC6 u.heap.size mb (q + x.bulk) (fun s => c s + occN x s) w))
    (x : Nd) (hf : x.bulk ≤ f + 1) (hbk : f ≤ 1000000) (va vk : Value) (q : Nat) (c : ByteArray → Nat) (w : World) (h : NdAt u x va vk) (hb : Bel u w) (hcm : CntM w mb q c) (hcq : ∀ s, c s ≤ q) (hq : q + x.bulk ≤ 536870912) :
    Calls Tryd.prog 15 #[ndV x va vk, .map (some mb)] w (RetC6 u.heap.size mb (q + x.bulk) (fun s => c s + occN x s) w) := by
  obtain ⟨aa, ka, an, ac, kn, kc, rfl, rfl, han, hkn, hac, hkc, hab, hkb, hatr, hkid⟩ := h.opened
  have hbe := nd_bulk x
  have hal := atr_len x.al
  have HALL : Hid (∀ y : Nd, y ∈ x.ks → ∀ ya yk q' c' W, NdAt u y ya yk → Bel u W → CntM W mb q' c' → (∀ s, c' s ≤ q') → q' + y.bulk ≤ 536870912 → Calls Tryd.prog 15 #[ndV y ya yk, .map (some mb)] W (RetC6 u.heap.size mb (q' + y.bulk) (fun s => c' s + occN y s) W)) :=
    Lib.hid fun y hy ya yk q' c' W h1 h2 h3 h4 h5 => ih y (by have := nbulks_mem hy; omega) ya yk q' c' W h1 h2 h3 h4 h5
  have HA := Lib.hid hatr
  have HK := Lib.hid hkid
  have HAN := Lib.hid han
  have HKN := Lib.hid hkn
  have HBE := Lib.hid hbe
  have HCQ := Lib.hid hcq
  have HMB := Lib.hid hmb
  have han2 : an ≤ 1000001 := by omega
  have hkn2 : kn ≤ 1000001 := by omega
  have HSZ : Hid (∀ a ∈ x.al, a.1.size ≤ maxLen) := Lib.hid fun a ha => by have := atr_mem ha; unfold maxLen; omega
  have hspz : x.sp.size ≤ maxLen := by unfold maxLen; omega
  have hocc : (fun s => c s + occN x s) = fun s => c s + (one x.sp s + occA x.al s + occsN x.ks s) := by funext s; rw [occN_eq]
  rw [hocc]
  obtain ⟨NT, hNT⟩ : ∃ N, q + x.bulk = N := ⟨_, rfl⟩
  have HNT := Lib.hid hNT
  have hq4 : q ≤ 536870912 := by omega
  rw [hNT] at hq ⊢
  unfold ndV
  obtain ⟨t, ht⟩ : ∃ t, x.t = t := ⟨_, rfl⟩
  obtain ⟨sp, hsp⟩ : ∃ t, x.sp = t := ⟨_, rfl⟩
  obtain ⟨lo, hlo⟩ : ∃ t, x.lo = t := ⟨_, rfl⟩
  obtain ⟨tx, htx⟩ : ∃ t, x.tx = t := ⟨_, rfl⟩
  obtain ⟨al, hal2⟩ : ∃ t, x.al = t := ⟨_, rfl⟩
  obtain ⟨ks, hks⟩ : ∃ t, x.ks = t := ⟨_, rfl⟩
  rw [hsp] at hspz
  rw [hal2] at HA HAN HSZ
  rw [hks] at HK HKN HALL
  rw [hsp, hlo, htx, hal2, hks] at HBE
  rw [ht, hsp, hlo, htx, hal2, hks]
  obtain ⟨V1, h1, q1, l1, s1⟩ := alloc_step w 27 [.int .i64 t, .string sp, .string lo, .slice aa an ac, .slice ka kn kc, .string tx]
  have hse := lempty sp
  have Q1 := Lib.hid q1
  have HV1 := Lib.hid h1
  have HB1 := Lib.hid (hb.trans l1)
  have hc1 := hcm.bel l1
  have hlk := cnt_look hc1 hspz
  obtain ⟨n0, hn0⟩ : ∃ n, c sp = n := ⟨_, rfl⟩
  have hn0q : n0 ≤ q := by rw [← hn0]; exact hcq sp
  obtain ⟨W2, hup, hc2, hg2⟩ := cnt_put hc1 (by omega) hspz (by have := hcq sp; omega)
  rw [hn0] at hlk hup
  have hup2 : (Instr.mapUpdate 44 (.map (some mb)) (.string sp) (.int .i64 ((n0 : Int) + 1))).run Tryd.prog V1 = .ok () W2 := hup
  have c1 := q1.at 1
  have HBW : Hid (Below u.heap.size w V1) := Lib.hid (l1.mono hb.size)
  have HKW : Hid (KeepT (fun _ => true) w V1) := Lib.hid (KeepT.of_bel l1)
  have hk2 := cnt_keep hc1 hg2
  have hb2 : Below u.heap.size V1 W2 := Below.grown (Below.refl _ V1) hg2 (by have := HB1.out.size; exact this) (fun k e => by cases e; exact hmb)
  -- the state behind the first test
  have HST : Hid (∀ W, (W = V1 ∧ sp = ⟨#[]⟩) ∨ (W = W2 ∧ sp ≠ ⟨#[]⟩) → CntM W mb (q + 1 + 0) (fun s => c s + (one sp s + occA (al.take 0) s)) ∧ Bel u W ∧ Below u.heap.size w W ∧ KeepT (fun _ => true) V1 W) := Lib.hid fun W hW => by
    have hz : (fun s => c s + (one sp s + occA (al.take 0) s)) = fun s => c s + one sp s := by funext s; simp [occA]
    rw [hz]
    rcases hW with ⟨rfl, hs0⟩ | ⟨rfl, hs0⟩
    · rw [hs0, one_none]
      exact ⟨hc1.mono (by omega), HB1.out, HBW.out, KeepT.refl _ _⟩
    · rw [one_add hs0] at hc2
      exact ⟨hc2, Below.trans HB1.out hb2, HBW.out.trans hb2, hk2⟩
  clear h1 q1 l1 s1 h hb hcm hcq hmb hatr hkid han hkn hac hkc hab hkb hbe hal ih hf hbk hNT hocc hc1 hc2 hg2 hk2 hb2 hup ht hsp hlo htx hal2 hks hn0
  by_cases hs0 : sp = ⟨#[]⟩
  · rw [decide_eq_true hs0] at hse
    have HS0 := Lib.hid (HST.out V1 (.inl ⟨rfl, hs0⟩))
    have q2 := Q1.out
    have e3 : V1.cell? ⟨w.heap.size, 3, none⟩ = some (.slice aa an ac) := q2.at 3
    clear HST hs0 hlk hup2 q2
    go_enter Tryd.func15, Tryd.ntmps15
    go_upto_region 1 with fail
    rw [show w.alloc (.cells #[.int .i64 t, .string sp, .string lo, .slice aa an ac, .slice ka kn kc, .string tx] 27) = V1 from HV1.out]
    clear HV1
    go_wp2_with fail
    go_loopw [21] (fun i wr => ∃ (j : Nat), i = .int .i64 j ∧ j ≤ an ∧ Hid (CntM wr mb (q + 1 + j) (fun s => c s + (one sp s + occA (al.take j) s)) ∧ Bel u wr ∧ Below u.heap.size w wr ∧ KeepT (fun _ => true) V1 wr)) (fun i _ => an - (intOf i).toNat)
    case atStart => exact ⟨0, rfl, Nat.zero_le _, HS0⟩
    case round =>
      obtain ⟨j, rfl, hj, HSJ⟩ := hrel
      by_cases hlt : j < an
      · have hlti : (j : Int) < an := by omega
        obtain ⟨y, hy⟩ : ∃ y, al[j]? = some y := ⟨_, List.getElem?_eq_getElem (by have := HAN.out; omega)⟩
        obtain ⟨b, off, rfl, g0, g1, g2⟩ := HA.out j y hy
        have f0 := HSJ.out.2.1.keep g0
        have f1 := HSJ.out.2.1.keep g1
        have f2 := HSJ.out.2.1.keep g2
        have hys := HSZ.out y (List.mem_of_getElem? hy)
        have hfun : (fun s => c s + (one sp s + occA (al.take (j + 1)) s)) = fun s => (c s + (one sp s + occA (al.take j) s)) + one y.1 s := by funext s; rw [occA_take hy]; omega
        have hyl := lempty y.1
        obtain ⟨ya, yb, yc⟩ := y
        dsimp only at f0 f1 f2 hys hfun hyl
        obtain ⟨V3, h3, q3, l3, s3⟩ := alloc_step wr 63 [.string ya, .string yb, .string yc]
        have e0 := q3.at 0
        have e1 := q3.at 1
        have e2 := q3.at 2
        have hc3 := HSJ.out.1.bel l3
        have hcb : c ya + (one sp ya + occA (al.take j) ya) ≤ q + 1 + j := by
          have h1 := HCQ.out ya
          have h2 := one_le sp ya
          have h3 := occA_le (al.take j) ya
          have h4 : (al.take j).length ≤ j := List.length_take_le _ _
          omega
        have hlk3 := cnt_look hc3 hys
        obtain ⟨n1, hn1⟩ : ∃ n, c ya + (one sp ya + occA (al.take j) ya) = n := ⟨_, rfl⟩
        obtain ⟨W4, hup, hc4, hg4⟩ := cnt_put hc3 (by omega) hys (by omega)
        rw [hn1] at hlk3 hup
        have hn1q : n1 ≤ 1073741824 := by omega
        have hup4 : (Instr.mapUpdate 44 (.map (some mb)) (.string ya) (.int .i64 ((n1 : Int) + 1))).run Tryd.prog V3 = .ok () W4 := hup
        have HV3 := Lib.hid h3
        have HB3 := Lib.hid (HSJ.out.2.1.trans l3)
        have HW3 : Hid (Below u.heap.size w V3) := Lib.hid (HSJ.out.2.2.1.trans (l3.mono HSJ.out.2.1.size))
        have HK3 := Lib.hid (HSJ.out.2.2.2.trans (KeepT.of_bel l3))
        have hb4 : Below u.heap.size V3 W4 := Below.grown (Below.refl _ V3) hg4 HB3.out.size (fun k e => by cases e; exact HMB.out)
        have hk4 := cnt_keep hc3 hg4
        by_cases hy0 : ya = ⟨#[]⟩
        · rw [decide_eq_true hy0] at hyl
          have HN : Hid (CntM V3 mb (q + 1 + (j + 1)) (fun s => c s + (one sp s + occA (al.take (j + 1)) s)) ∧ Bel u V3 ∧ Below u.heap.size w V3 ∧ KeepT (fun _ => true) V1 V3) := Lib.hid ⟨by rw [hfun, hy0, one_none]; exact hc3.mono (by omega), HB3.out, HW3.out, HK3.out⟩
          clear g0 g1 g2 hy hys hfun h3 q3 l3 s3 hc3 hcb hlk3 hn1 hup hup4 hc4 hg4 hb4 hk4 hy0
          go_upto_region 6 with fail
          rw [show wr.alloc (.cells #[.string ya, .string yb, .string yc] 63) = V3 from HV3.out]
          clear HV3
          go_wp2_with fail
          exact ⟨⟨j + 1, by go_num, by omega, HN⟩, by simp [intOf]; omega⟩
        · rw [decide_eq_false hy0] at hyl
          have HN : Hid (CntM W4 mb (q + 1 + (j + 1)) (fun s => c s + (one sp s + occA (al.take (j + 1)) s)) ∧ Bel u W4 ∧ Below u.heap.size w W4 ∧ KeepT (fun _ => true) V1 W4) := Lib.hid ⟨by rw [hfun, ← one_add hy0]; exact hc4, Below.trans HB3.out hb4, HW3.out.trans hb4, HK3.out.trans hk4⟩
          clear g0 g1 g2 hy hys hfun h3 q3 l3 s3 hc3 hcb hn1 hup hc4 hg4 hb4 hk4 hy0
          go_upto_region 6 with fail
          rw [show wr.alloc (.cells #[.string ya, .string yb, .string yc] 63) = V3 from HV3.out]
          clear HV3
          go_wp2_with fail
          exact ⟨⟨j + 1, by go_num, by omega, HN⟩, by simp [intOf]; omega⟩
      · have hlti : ¬ ((j : Int) < an) := by omega
        obtain rfl : j = an := by omega
        have q5 := Q1.out.keepT HSJ.out.2.2.2 rfl
        have e4 : wr.cell? ⟨w.heap.size, 4, none⟩ = some (.slice ka kn kc) := q5.at 4
        have HSA : Hid (CntM wr mb (q + 1 + j + Nd.bulk.bulks (ks.take 0)) (fun s => c s + (one sp s + occA al s + occsN (ks.take 0) s)) ∧ Bel u wr ∧ Below u.heap.size w wr ∧ KeepT (fun _ => true) V1 wr) := Lib.hid ⟨by
          have h5 := HSJ.out.1
          rw [List.take_of_length_le (by have := HAN.out; omega)] at h5
          have hfz : (fun s => c s + (one sp s + occA al s + occsN (ks.take 0) s)) = fun s => c s + (one sp s + occA al s) := by funext s; rw [List.take_zero, occsN]; omega
          rw [hfz]
          exact h5.mono (by omega), HSJ.out.2⟩
        clear HSJ q5
        go_wp2_with fail
        go_loopw [39] (fun i wq => ∃ (k : Nat), i = .int .i64 k ∧ k ≤ kn ∧ Hid (CntM wq mb (q + 1 + j + Nd.bulk.bulks (ks.take k)) (fun s => c s + (one sp s + occA al s + occsN (ks.take k) s)) ∧ Bel u wq ∧ Below u.heap.size w wq ∧ KeepT (fun _ => true) V1 wq)) (fun i _ => kn - (intOf i).toNat)
        case atStart => exact ⟨0, rfl, Nat.zero_le _, HSA⟩
        case round =>
          obtain ⟨k, rfl, hk, HSK⟩ := hrel
          by_cases hlk : k < kn
          · have hlki : (k : Int) < kn := by omega
            obtain ⟨y, hy⟩ : ∃ y, ks[k]? = some y := ⟨_, List.getElem?_eq_getElem (by have := HKN.out; omega)⟩
            obtain ⟨bb, off, yaa, yan, yac, yka, ykn, ykc, rfl, g0, g1, g2, g3, g4, g5, hyn⟩ := HK.out k y hy
            have f0 := HSK.out.2.1.keep g0
            have f1 := HSK.out.2.1.keep g1
            have f2 := HSK.out.2.1.keep g2
            have f3 := HSK.out.2.1.keep g3
            have f4 := HSK.out.2.1.keep g4
            have f5 := HSK.out.2.1.keep g5
            have htk := bulks_take hy
            have hle := bulks_take_le ks (k + 1)
            have hfun : (fun s => c s + (one sp s + occA al s + occsN (ks.take (k + 1)) s)) = fun s => (c s + (one sp s + occA al s + occsN (ks.take k) s)) + occN y s := by funext s; rw [occsN_take hy]; omega
            obtain ⟨V3, h3, q3, l3, s3⟩ := alloc_step wr 27 [.int .i64 y.t, .string y.sp, .string y.lo, .slice yaa yan yac, .slice yka ykn ykc, .string y.tx]
            have e0 := q3.at 0
            have e1 := q3.at 1
            have e2 := q3.at 2
            have e3 := q3.at 3
            have e5 := q3.at 4
            have e6 := q3.at 5
            have HV3 := Lib.hid h3
            have HB3 := Lib.hid (HSK.out.2.1.trans l3)
            have HW3 : Hid (Below u.heap.size w V3) := Lib.hid (HSK.out.2.2.1.trans (l3.mono HSK.out.2.1.size))
            have HK3 := Lib.hid (HSK.out.2.2.2.trans (KeepT.of_bel l3))
            have HC := Lib.hid (HALL.out y (List.mem_of_getElem? hy) _ _ (q + 1 + j + Nd.bulk.bulks (ks.take k)) (fun s => c s + (one sp s + occA al s + occsN (ks.take k) s)) V3 hyn HB3.out (HSK.out.1.bel l3) (fun s => by
              have h1 := HCQ.out s
              have h2 := one_le sp s
              have h3 := occA_le al s
              have h4 := occsN_le (ks.take k) s
              have h5 := HAN.out
              omega) (by have h1 := HBE.out; have h2 := HNT.out; have h3 := HAN.out; have h4 := atr_len al; omega))
            unfold ndV at HC
            have HFU := Lib.hid hfun
            have HTK := Lib.hid htk
            clear g0 g1 g2 g3 g4 g5 hy hyn htk hle hfun h3 q3 l3 s3
            go_upto_region 12 with fail
            rw [show wr.alloc (.cells #[.int .i64 y.t, .string y.sp, .string y.lo, .slice yaa yan yac, .slice yka ykn ykc, .string y.tx] 27) = V3 from HV3.out]
            clear HV3
            go_wp2_with fail
            refine HC.out.mono ?_
            rintro e4 w4 ⟨rfl, hc4, hb4, hk4⟩
            have HN : Hid (CntM w4 mb (q + 1 + j + Nd.bulk.bulks (ks.take (k + 1))) (fun s => c s + (one sp s + occA al s + occsN (ks.take (k + 1)) s)) ∧ Bel u w4 ∧ Below u.heap.size w w4 ∧ KeepT (fun _ => true) V1 w4) := Lib.hid ⟨by rw [HFU.out, HTK.out, ← Nat.add_assoc]; exact hc4, Below.trans HB3.out hb4, HW3.out.trans hb4, HK3.out.trans hk4⟩
            clear hc4 hb4 hk4 e0 e1 e2 e3 e5 e6 f0 f1 f2 f3 f4 f5 HC
            go_wp2_with fail
            exact ⟨⟨k + 1, by go_num, by omega, HN⟩, by simp [intOf]; omega⟩
          · have hlki : ¬ ((k : Int) < kn) := by omega
            have HX : Hid (CntM wr mb NT (fun s => c s + (one sp s + occA al s + occsN ks s))) := Lib.hid (by
              have h5 := HSK.out.1
              rw [List.take_of_length_le (by have := HKN.out; omega)] at h5
              exact h5.mono (by have h1 := HBE.out; have h2 := HNT.out; have h3 := HAN.out; have h4 := atr_len al; omega))
            go_wp2_with fail
            refine bodyPost_ret (results_none rfl _ _ _) rfl ?_
            exact ⟨rfl, HX.out, HSK.out.2.2.1, HKW.out.trans HSK.out.2.2.2⟩
  · rw [decide_eq_false hs0] at hse
    have HS0 := Lib.hid (HST.out W2 (.inr ⟨rfl, hs0⟩))
    have q2 := Q1.out.keepT HS0.out.2.2.2 rfl
    have e3 : W2.cell? ⟨w.heap.size, 3, none⟩ = some (.slice aa an ac) := q2.at 3
    clear HST hs0 q2
    go_enter Tryd.func15, Tryd.ntmps15
    go_upto_region 1 with fail
    rw [show w.alloc (.cells #[.int .i64 t, .string sp, .string lo, .slice aa an ac, .slice ka kn kc, .string tx] 27) = V1 from HV1.out]
    clear HV1
    go_wp2_with fail
    go_loopw [21] (fun i wr => ∃ (j : Nat), i = .int .i64 j ∧ j ≤ an ∧ Hid (CntM wr mb (q + 1 + j) (fun s => c s + (one sp s + occA (al.take j) s)) ∧ Bel u wr ∧ Below u.heap.size w wr ∧ KeepT (fun _ => true) V1 wr)) (fun i _ => an - (intOf i).toNat)
    case atStart => exact ⟨0, rfl, Nat.zero_le _, HS0⟩
    case round =>
      obtain ⟨j, rfl, hj, HSJ⟩ := hrel
      by_cases hlt : j < an
      · have hlti : (j : Int) < an := by omega
        obtain ⟨y, hy⟩ : ∃ y, al[j]? = some y := ⟨_, List.getElem?_eq_getElem (by have := HAN.out; omega)⟩
        obtain ⟨b, off, rfl, g0, g1, g2⟩ := HA.out j y hy
        have f0 := HSJ.out.2.1.keep g0
        have f1 := HSJ.out.2.1.keep g1
        have f2 := HSJ.out.2.1.keep g2
        have hys := HSZ.out y (List.mem_of_getElem? hy)
        have hfun : (fun s => c s + (one sp s + occA (al.take (j + 1)) s)) = fun s => (c s + (one sp s + occA (al.take j) s)) + one y.1 s := by funext s; rw [occA_take hy]; omega
        have hyl := lempty y.1
        obtain ⟨ya, yb, yc⟩ := y
        dsimp only at f0 f1 f2 hys hfun hyl
        obtain ⟨V3, h3, q3, l3, s3⟩ := alloc_step wr 63 [.string ya, .string yb, .string yc]
        have e0 := q3.at 0
        have e1 := q3.at 1
        have e2 := q3.at 2
        have hc3 := HSJ.out.1.bel l3
        have hcb : c ya + (one sp ya + occA (al.take j) ya) ≤ q + 1 + j := by
          have h1 := HCQ.out ya
          have h2 := one_le sp ya
          have h3 := occA_le (al.take j) ya
          have h4 : (al.take j).length ≤ j := List.length_take_le _ _
          omega
        have hlk3 := cnt_look hc3 hys
        obtain ⟨n1, hn1⟩ : ∃ n, c ya + (one sp ya + occA (al.take j) ya) = n := ⟨_, rfl⟩
        obtain ⟨W4, hup, hc4, hg4⟩ := cnt_put hc3 (by omega) hys (by omega)
        rw [hn1] at hlk3 hup
        have hn1q : n1 ≤ 1073741824 := by omega
        have hup4 : (Instr.mapUpdate 44 (.map (some mb)) (.string ya) (.int .i64 ((n1 : Int) + 1))).run Tryd.prog V3 = .ok () W4 := hup
        have HV3 := Lib.hid h3
        have HB3 := Lib.hid (HSJ.out.2.1.trans l3)
        have HW3 : Hid (Below u.heap.size w V3) := Lib.hid (HSJ.out.2.2.1.trans (l3.mono HSJ.out.2.1.size))
        have HK3 := Lib.hid (HSJ.out.2.2.2.trans (KeepT.of_bel l3))
        have hb4 : Below u.heap.size V3 W4 := Below.grown (Below.refl _ V3) hg4 HB3.out.size (fun k e => by cases e; exact HMB.out)
        have hk4 := cnt_keep hc3 hg4
        by_cases hy0 : ya = ⟨#[]⟩
        · rw [decide_eq_true hy0] at hyl
          have HN : Hid (CntM V3 mb (q + 1 + (j + 1)) (fun s => c s + (one sp s + occA (al.take (j + 1)) s)) ∧ Bel u V3 ∧ Below u.heap.size w V3 ∧ KeepT (fun _ => true) V1 V3) := Lib.hid ⟨by rw [hfun, hy0, one_none]; exact hc3.mono (by omega), HB3.out, HW3.out, HK3.out⟩
          clear g0 g1 g2 hy hys hfun h3 q3 l3 s3 hc3 hcb hlk3 hn1 hup hup4 hc4 hg4 hb4 hk4 hy0
          go_upto_region 6 with fail
          rw [show wr.alloc (.cells #[.string ya, .string yb, .string yc] 63) = V3 from HV3.out]
          clear HV3
          go_wp2_with fail
          exact ⟨⟨j + 1, by go_num, by omega, HN⟩, by simp [intOf]; omega⟩
        · rw [decide_eq_false hy0] at hyl
          have HN : Hid (CntM W4 mb (q + 1 + (j + 1)) (fun s => c s + (one sp s + occA (al.take (j + 1)) s)) ∧ Bel u W4 ∧ Below u.heap.size w W4 ∧ KeepT (fun _ => true) V1 W4) := Lib.hid ⟨by rw [hfun, ← one_add hy0]; exact hc4, Below.trans HB3.out hb4, HW3.out.trans hb4, HK3.out.trans hk4⟩
          clear g0 g1 g2 hy hys hfun h3 q3 l3 s3 hc3 hcb hn1 hup hc4 hg4 hb4 hk4 hy0
          go_upto_region 6 with fail
          rw [show wr.alloc (.cells #[.string ya, .string yb, .string yc] 63) = V3 from HV3.out]
          clear HV3
          go_wp2_with fail
          exact ⟨⟨j + 1, by go_num, by omega, HN⟩, by simp [intOf]; omega⟩
      · have hlti : ¬ ((j : Int) < an) := by omega
        obtain rfl : j = an := by omega
        have q5 := Q1.out.keepT HSJ.out.2.2.2 rfl
        have e4 : wr.cell? ⟨w.heap.size, 4, none⟩ = some (.slice ka kn kc) := q5.at 4
        have HSA : Hid (CntM wr mb (q + 1 + j + Nd.bulk.bulks (ks.take 0)) (fun s => c s + (one sp s + occA al s + occsN (ks.take 0) s)) ∧ Bel u wr ∧ Below u.heap.size w wr ∧ KeepT (fun _ => true) V1 wr) := Lib.hid ⟨by
          have h5 := HSJ.out.1
          rw [List.take_of_length_le (by have := HAN.out; omega)] at h5
          have hfz : (fun s => c s + (one sp s + occA al s + occsN (ks.take 0) s)) = fun s => c s + (one sp s + occA al s) := by funext s; rw [List.take_zero, occsN]; omega
          rw [hfz]
          exact h5.mono (by omega), HSJ.out.2⟩
        clear HSJ q5
        go_wp2_with fail
        go_loopw [39] (fun i wq => ∃ (k : Nat), i = .int .i64 k ∧ k ≤ kn ∧ Hid (CntM wq mb (q + 1 + j + Nd.bulk.bulks (ks.take k)) (fun s => c s + (one sp s + occA al s + occsN (ks.take k) s)) ∧ Bel u wq ∧ Below u.heap.size w wq ∧ KeepT (fun _ => true) V1 wq)) (fun i _ => kn - (intOf i).toNat)
        case atStart => exact ⟨0, rfl, Nat.zero_le _, HSA⟩
        case round =>
          obtain ⟨k, rfl, hk, HSK⟩ := hrel
          by_cases hlk : k < kn
          · have hlki : (k : Int) < kn := by omega
            obtain ⟨y, hy⟩ : ∃ y, ks[k]? = some y := ⟨_, List.getElem?_eq_getElem (by have := HKN.out; omega)⟩
            obtain ⟨bb, off, yaa, yan, yac, yka, ykn, ykc, rfl, g0, g1, g2, g3, g4, g5, hyn⟩ := HK.out k y hy
            have f0 := HSK.out.2.1.keep g0
            have f1 := HSK.out.2.1.keep g1
            have f2 := HSK.out.2.1.keep g2
            have f3 := HSK.out.2.1.keep g3
            have f4 := HSK.out.2.1.keep g4
            have f5 := HSK.out.2.1.keep g5
            have htk := bulks_take hy
            have hle := bulks_take_le ks (k + 1)
            have hfun : (fun s => c s + (one sp s + occA al s + occsN (ks.take (k + 1)) s)) = fun s => (c s + (one sp s + occA al s + occsN (ks.take k) s)) + occN y s := by funext s; rw [occsN_take hy]; omega
            obtain ⟨V3, h3, q3, l3, s3⟩ := alloc_step wr 27 [.int .i64 y.t, .string y.sp, .string y.lo, .slice yaa yan yac, .slice yka ykn ykc, .string y.tx]
            have e0 := q3.at 0
            have e1 := q3.at 1
            have e2 := q3.at 2
            have e3 := q3.at 3
            have e5 := q3.at 4
            have e6 := q3.at 5
            have HV3 := Lib.hid h3
            have HB3 := Lib.hid (HSK.out.2.1.trans l3)
            have HW3 : Hid (Below u.heap.size w V3) := Lib.hid (HSK.out.2.2.1.trans (l3.mono HSK.out.2.1.size))
            have HK3 := Lib.hid (HSK.out.2.2.2.trans (KeepT.of_bel l3))
            have HC := Lib.hid (HALL.out y (List.mem_of_getElem? hy) _ _ (q + 1 + j + Nd.bulk.bulks (ks.take k)) (fun s => c s + (one sp s + occA al s + occsN (ks.take k) s)) V3 hyn HB3.out (HSK.out.1.bel l3) (fun s => by
              have h1 := HCQ.out s
              have h2 := one_le sp s
              have h3 := occA_le al s
              have h4 := occsN_le (ks.take k) s
              have h5 := HAN.out
              omega) (by have h1 := HBE.out; have h2 := HNT.out; have h3 := HAN.out; have h4 := atr_len al; omega))
            unfold ndV at HC
            have HFU := Lib.hid hfun
            have HTK := Lib.hid htk
            clear g0 g1 g2 g3 g4 g5 hy hyn htk hle hfun h3 q3 l3 s3
            go_upto_region 12 with fail
            rw [show wr.alloc (.cells #[.int .i64 y.t, .string y.sp, .string y.lo, .slice yaa yan yac, .slice yka ykn ykc, .string y.tx] 27) = V3 from HV3.out]
            clear HV3
            go_wp2_with fail
            refine HC.out.mono ?_
            rintro e4 w4 ⟨rfl, hc4, hb4, hk4⟩
            have HN : Hid (CntM w4 mb (q + 1 + j + Nd.bulk.bulks (ks.take (k + 1))) (fun s => c s + (one sp s + occA al s + occsN (ks.take (k + 1)) s)) ∧ Bel u w4 ∧ Below u.heap.size w w4 ∧ KeepT (fun _ => true) V1 w4) := Lib.hid ⟨by rw [HFU.out, HTK.out, ← Nat.add_assoc]; exact hc4, Below.trans HB3.out hb4, HW3.out.trans hb4, HK3.out.trans hk4⟩
            clear hc4 hb4 hk4 e0 e1 e2 e3 e5 e6 f0 f1 f2 f3 f4 f5 HC
            go_wp2_with fail
            exact ⟨⟨k + 1, by go_num, by omega, HN⟩, by simp [intOf]; omega⟩
          · have hlki : ¬ ((k : Int) < kn) := by omega
            have HX : Hid (CntM wr mb NT (fun s => c s + (one sp s + occA al s + occsN ks s))) := Lib.hid (by
              have h5 := HSK.out.1
              rw [List.take_of_length_le (by have := HKN.out; omega)] at h5
              exact h5.mono (by have h1 := HBE.out; have h2 := HNT.out; have h3 := HAN.out; have h4 := atr_len al; omega))
            go_wp2_with fail
            refine bodyPost_ret (results_none rfl _ _ _) rfl ?_
            exact ⟨rfl, HX.out, HSK.out.2.2.1, HKW.out.trans HSK.out.2.2.2⟩
theorem spaces_c (u : World) (mb : Nat) (hmb : u.heap.size ≤ mb) : ∀ (f : Nat) (x : Nd), x.bulk ≤ f → f ≤ 1000000 → ∀ va vk q c w, NdAt u x va vk → Bel u w → CntM w mb q c → (∀ s, c s ≤ q) → q + x.bulk ≤ 536870912 →
      Calls Tryd.prog 15 #[ndV x va vk, .map (some mb)] w (RetC6 u.heap.size mb (q + x.bulk) (fun s => c s + occN x s) w) := by
  intro f
  induction f with
  | zero => intro x hx; have := nd_pos x; omega
  | succ f ih => exact fun x hx hf va vk q c w h1 h2 h3 h4 h5 => spacesF_c u mb hmb f (fun y hy ya yk q' c' w' g1 g2 g3 g4 g5 => ih y hy (by omega) ya yk q' c' w' g1 g2 g3 g4 g5) x hx (by omega) va vk q c w h1 h2 h3 h4 h5
end Go.Proofs.YtojeclfcgnamoaaDoor

namespace Go.Proofs.YtojeclfcgnamoaaDoor

theorem atrs_perm {a b : List Atr} (h : a.Perm b) (x : ByteArray) : occA a x = occA b x := (h.map _).sum_nat
mutual
theorem occ_sort : ∀ (n : Nd) (x : ByteArray), occN (sortN n) x = occN n x
  | .mk t sp lo al ks tx, x => by
    rw [sortN, occN, occN, atrs_perm (sortA_perm al) x, occs_sort ks x]
theorem occs_sort : ∀ (l : List Nd) (x : ByteArray), occsN (sortsN l) x = occsN l x
  | [], x => by rw [sortsN]
  | y :: r, x => by rw [sortsN, occsN, occsN, occ_sort y x, occs_sort r x]
end
theorem one_pos {s : ByteArray} (h : s ≠ ⟨#[]⟩) : one s s = 1 := by unfold one; rw [if_pos ⟨rfl, h⟩]
theorem one_of {s x : ByteArray} (h : 0 < one s x) : s = x ∧ s ≠ ⟨#[]⟩ := by
  unfold one at h
  split at h
  · assumption
  · omega
theorem occA_of : ∀ (al : List Atr) (x : ByteArray), 0 < occA al x → ∃ a ∈ al, a.1 = x ∧ x ≠ ⟨#[]⟩
  | [], x, h => by simp [occA] at h
  | a :: r, x, h => by
    by_cases h1 : 0 < one a.1 x
    · obtain ⟨e, hn⟩ := one_of h1
      exact ⟨a, List.mem_cons_self .., e, e ▸ hn⟩
    · obtain ⟨b, hb, e⟩ := occA_of r x (by unfold occA at h ⊢; rw [List.map_cons, List.sum_cons] at h; omega)
      exact ⟨b, List.mem_cons_of_mem _ hb, e⟩
theorem occA_pos : ∀ (al : List Atr) (a : Atr), a ∈ al → a.1 ≠ ⟨#[]⟩ → 0 < occA al a.1
  | b :: r, a, h, hn => by
    unfold occA
    rw [List.map_cons, List.sum_cons]
    rcases List.mem_cons.1 h with rfl | h
    · rw [one_pos hn]; omega
    · have := occA_pos r a h hn
      unfold occA at this
      omega
mutual
theorem cov_occ : ∀ (n : Nd) (L : List Pr6) (s : ByteArray), covN L n → 0 < occN n s → s ∈ L.map Prod.snd
  | .mk t sp lo al ks tx, L, s, hc, h => by
    rw [covN] at hc
    rw [occN] at h
    by_cases h1 : 0 < one sp s
    · obtain ⟨rfl, hn⟩ := one_of h1
      exact hc.1.resolve_left hn
    · by_cases h2 : 0 < occA al s
      · obtain ⟨a, ha, rfl, hn⟩ := occA_of al s h2
        exact (hc.2.1 a ha).resolve_left hn
      · exact covs_occ ks L s hc.2.2 (by omega)
theorem covs_occ : ∀ (l : List Nd) (L : List Pr6) (s : ByteArray), covsN L l → 0 < occsN l s → s ∈ L.map Prod.snd
  | [], L, s, _, h => by rw [occsN] at h; omega
  | x :: r, L, s, hc, h => by
    rw [covsN] at hc
    rw [occsN] at h
    by_cases h1 : 0 < occN x s
    · exact cov_occ x L s hc.1 h1
    · exact covs_occ r L s hc.2 (by omega)
end
mutual
theorem occ_all : ∀ (n : Nd) (Q : ByteArray → Prop), (∀ s, 0 < occN n s → Q s) → allN (fun s => s = ⟨#[]⟩ ∨ Q s) n
  | .mk t sp lo al ks tx, Q, h => by
    rw [allN]
    refine ⟨?_, fun a ha => ?_, occs_all ks Q fun s hs => h s (by rw [occN]; omega)⟩
    · by_cases hs : sp = ⟨#[]⟩
      · exact .inl hs
      · exact .inr (h sp (by rw [occN, one_pos hs]; omega))
    · by_cases hs : a.1 = ⟨#[]⟩
      · exact .inl hs
      · exact .inr (h a.1 (by rw [occN]; have := occA_pos al a ha hs; omega))
theorem occs_all : ∀ (l : List Nd) (Q : ByteArray → Prop), (∀ s, 0 < occsN l s → Q s) → allsN (fun s => s = ⟨#[]⟩ ∨ Q s) l
  | [], _, _ => by rw [allsN]; trivial
  | x :: r, Q, h => by
    rw [allsN]
    exact ⟨occ_all x Q fun s hs => h s (by rw [occsN]; omega), occs_all r Q fun s hs => h s (by rw [occsN]; omega)⟩
end
/-- What the prefixes are, held against the counts. -/
theorem prefN_occ (n : Nd) : (∀ p ∈ PrefN n, p.2 ≠ ⟨#[]⟩ ∧ p.1 ≠ ⟨#[]⟩ ∧ 0 < occN n p.2) ∧ ∀ s, 0 < occN n s → s ∈ (PrefN n).map Prod.snd := by
  have ho := prefN_ok n
  refine ⟨fun p hp => ?_, fun s hs => cov_occ (sortN n) _ s (cov_met _ _) (by rw [occ_sort]; exact hs)⟩
  obtain ⟨h1, h2⟩ := ho.each p hp
  refine ⟨h1, ?_, ?_⟩
  · rcases h2 with ⟨_, h⟩ | ⟨_, h⟩ | ⟨_, _, i, _, _, h⟩
    · rw [h]; decide +kernel
    · rw [h]; decide +kernel
    · rw [h]
      intro e
      have := congrArg (fun b : ByteArray => b.data.toList) e
      simp [numP] at this
  · have h3 := met_all (P := fun s => s = ⟨#[]⟩ ∨ 0 < occN n s) (sortN n) [] (by simp) (occ_all _ _ fun s hs => by rw [occ_sort] at hs; exact hs) p hp
    exact h3.resolve_left h1
/-! The counts that are left, the names met. -/
open Classical in
noncomputable def leftF (n : Nd) (L : List Pr6) (j : Nat) (s : ByteArray) : Nat := if s ∈ (L.take j).map Prod.snd then 0 else occN n s
open Classical in
noncomputable def nmF (L : List Pr6) (j : Nat) (s : ByteArray) : Nat := if s ∈ (L.take j).map Prod.fst then 1 else 0
theorem take_get {α β : Type} {f : α → β} {L : List α} {j : Nat} {p : α} (h : L[j]? = some p) (x : β) : x ∈ (L.take (j + 1)).map f ↔ x ∈ (L.take j).map f ∨ x = f p := by
  rw [List.take_add_one, h]
  simp
theorem nodup_take {α β : Type} {f : α → β} {L : List α} {j : Nat} {p : α} (hn : (L.map f).Nodup) (h : L[j]? = some p) : f p ∉ (L.take j).map f := fun hm => by
  obtain ⟨q, hq, he⟩ := List.mem_map.1 hm
  obtain ⟨i, hi⟩ := List.mem_iff_getElem?.1 hq
  rw [List.getElem?_take] at hi
  split at hi
  · rename_i hij
    have h1 : (L.map f)[i]? = some (f p) := by rw [List.getElem?_map, hi, Option.map_some, he]
    have h2 : (L.map f)[j]? = some (f p) := by rw [List.getElem?_map, h, Option.map_some]
    have hl := (List.getElem?_eq_some_iff.1 h1).1
    have := (List.getElem?_inj hl hn).1 (h1.trans h2.symm)
    omega
  · cases hi
theorem left_start (n : Nd) (L : List Pr6) : leftF n L 0 = occN n := by funext s; simp [leftF]
theorem nm_start (L : List Pr6) : nmF L 0 = fun _ => 0 := by funext s; simp [nmF]
theorem left_step {n : Nd} {L : List Pr6} {j : Nat} {p : Pr6} (h : L[j]? = some p) : (fun x => if x = p.2 then 0 else leftF n L j x) = leftF n L (j + 1) := by
  funext x
  unfold leftF
  by_cases hx : x = p.2
  · rw [if_pos hx, if_pos ((take_get h x).2 (.inr hx))]
  · rw [if_neg hx]
    by_cases hm : x ∈ (L.take j).map Prod.snd
    · rw [if_pos hm, if_pos ((take_get h x).2 (.inl hm))]
    · rw [if_neg hm, if_neg fun e => ((take_get h x).1 e).elim hm hx]
theorem left_now {n : Nd} {L : List Pr6} {j : Nat} {p : Pr6} (hn : (L.map Prod.snd).Nodup) (h : L[j]? = some p) : leftF n L j p.2 = occN n p.2 := by
  unfold leftF
  rw [if_neg (nodup_take hn h)]
theorem nm_now {L : List Pr6} {j : Nat} {p : Pr6} (hn : (L.map Prod.fst).Nodup) (h : L[j]? = some p) : nmF L j p.1 = 0 := by
  unfold nmF
  rw [if_neg (nodup_take hn h)]
theorem nm_step {L : List Pr6} {j : Nat} {p : Pr6} (hn : (L.map Prod.fst).Nodup) (h : L[j]? = some p) : (fun x => if x = p.1 then nmF L j p.1 + 1 else nmF L j x) = nmF L (j + 1) := by
  funext x
  rw [nm_now hn h]
  unfold nmF
  by_cases hx : x = p.1
  · rw [if_pos hx, if_pos ((take_get h x).2 (.inr hx))]
  · rw [if_neg hx]
    by_cases hm : x ∈ (L.take j).map Prod.fst
    · rw [if_pos hm, if_pos ((take_get h x).2 (.inl hm))]
    · rw [if_neg hm, if_neg fun e => ((take_get h x).1 e).elim hm hx]
theorem left_end (n : Nd) {j : Nat} (hj : (PrefN n).length ≤ j) (s : ByteArray) : leftF n (PrefN n) j s = 0 := by
  unfold leftF
  rw [List.take_of_length_le hj]
  split
  · rfl
  · rename_i h
    have := (prefN_occ n).2 s
    by_cases h0 : 0 < occN n s
    · exact absurd (this h0) h
    · omega
theorem left_le (n : Nd) (L : List Pr6) (j : Nat) (s : ByteArray) : leftF n L j s ≤ n.bulk := by
  unfold leftF
  have := occN_le n s
  split <;> omega
end Go.Proofs.YtojeclfcgnamoaaDoor
