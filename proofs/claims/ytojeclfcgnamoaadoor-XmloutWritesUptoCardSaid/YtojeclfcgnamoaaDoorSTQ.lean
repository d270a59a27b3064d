/-
  xmlout.Sorted walked.
-/
import Derived.Test.YtojeclfcgnamoaaDoorST3
import Derived.Test.YtojeclfcgnamoaaDoorDP
import Derived.Test.YtojeclfcgnamoaaDoorDQ
namespace Go.Proofs.YtojeclfcgnamoaaDoor
open Go.RowKit Go.Sort Go.Shelf Go.Lib

theorem news_atrs {W : World} {a : Option Addr} {al : List Atr} (h : AtrsAt W a al) : NewsAt W a (al.flatMap encA) := fun j u hj => by
  have hlt : j < al.length * 3 := by
    have := (List.getElem?_eq_some_iff.1 hj).1
    rwa [flatA_len] at this
  have hx : j / 3 < al.length := by omega
  obtain ⟨b, off, ha, c0, c1, c2⟩ := h (j / 3) _ (List.getElem?_eq_getElem hx)
  have e := flatA_get al (j / 3) _ (j % 3) (List.getElem?_eq_getElem hx) (by omega)
  rw [show j / 3 * 3 + j % 3 = j from by omega, hj] at e
  refine ⟨b, off, ha, ?_⟩
  have h3 : j % 3 = 0 ∨ j % 3 = 1 ∨ j % 3 = 2 := by omega
  rcases h3 with h3 | h3 | h3
  · rw [h3] at e
    have e2 : u = _ := Option.some.inj e
    rw [e2, show off + j = off + j / 3 * 3 from by omega]
    exact c0
  · rw [h3] at e
    have e2 : u = _ := Option.some.inj e
    rw [e2, show off + j = off + j / 3 * 3 + 1 from by omega]
    exact c1
  · rw [h3] at e
    have e2 : u = _ := Option.some.inj e
    rw [e2, show off + j = off + j / 3 * 3 + 2 from by omega]
    exact c2
theorem flatA_one (al : List Atr) : ∀ y ∈ al.flatMap encA, y.oneCell' = true := fun y hy => by
  obtain ⟨x, _, hx⟩ := List.mem_flatMap.1 hy
  exact encA_one x y hx
/-- What a row of one's own holds. -/
theorem own_cells {w : World} {B e m n c k : Nat} {a : Option Addr} {cs : List Value} (h : w.ownsRow B e m (.slice a n c) k cs) {b off : Nat} (ha : a = some ⟨b, off, none⟩) :
    off = 0 ∧ (∀ j u, cs[j]? = some u → w.cell? ⟨b, j, none⟩ = some u) ∧ ∀ j, w.frozen? ⟨b, j, none⟩ = false := by
  obtain ⟨hl, ⟨e0, _⟩ | ⟨g, cap, cur, e0, hg, hh, hc, hm, hs, ht⟩⟩ := h
  · injection e0 with e1; rw [e1] at ha; cases ha
  · injection e0 with e1 _ e3
    rw [e1] at ha
    injection ha with ha
    injection ha with h1 h2
    subst h1 h2
    refine ⟨rfl, fun j u hj => ?_, fun j => by simp [World.frozen?, hh]⟩
    rw [← ht, List.getElem?_take] at hj
    split at hj
    · simp [World.cell?, hh]
      simpa using hj
    · cases hj
theorem own_some {w : World} {B e m n c k : Nat} {a : Option Addr} {cs : List Value} (h : w.ownsRow B e m (.slice a n c) k cs) (hn : 0 < k) : ∃ g, a = some ⟨g, 0, none⟩ ∧ B ≤ g ∧ g < w.heap.size := by
  obtain ⟨hl, ⟨e0, e1⟩ | ⟨g, cap, cur, e0, hg, hh, hc, hm, hs, ht⟩⟩ := h
  · omega
  · injection e0 with e1 _ e3
    exact ⟨g, e1, hg, (Array.getElem?_eq_some_iff.1 hh).1⟩
/-- Six cells stored. -/
def put6 (w : World) (g o : Nat) (u0 u1 u2 u3 u4 u5 : Value) : World :=
  (((((w.setCell ⟨g, o, none⟩ u0).setCell ⟨g, o + 1, none⟩ u1).setCell ⟨g, o + 2, none⟩ u2).setCell ⟨g, o + 3, none⟩ u3).setCell ⟨g, o + 4, none⟩ u4).setCell ⟨g, o + 5, none⟩ u5
theorem put6_reads {w : World} {T : Nat → Bool} {g : Nat} (hT : T g = true) (o : Nat) (u0 u1 u2 u3 u4 u5 : Value) : Reads (hole w T) (hole (put6 w g o u0 u1 u2 u3 u4 u5) T) := by
  have tr : ∀ {a b c : World}, Reads a b → Reads b c → Reads a c := fun h k => ⟨fun p v hp => k.cell _ _ (h.cell _ _ hp), Nat.le_trans h.size k.size⟩
  unfold put6
  exact tr (tr (tr (tr (tr (reads_set (p := ⟨g, o, none⟩) hT _) (reads_set (p := ⟨g, o + 1, none⟩) hT _)) (reads_set (p := ⟨g, o + 2, none⟩) hT _)) (reads_set (p := ⟨g, o + 3, none⟩) hT _)) (reads_set (p := ⟨g, o + 4, none⟩) hT _)) (reads_set (p := ⟨g, o + 5, none⟩) hT _)
theorem put6_blk {w : World} {b g : Nat} {t : TypeId} {cs : List Value} (h : Blk w b t cs) (hne : b ≠ g) (o : Nat) (u0 u1 u2 u3 u4 u5 : Value) : Blk (put6 w g o u0 u1 u2 u3 u4 u5) b t cs :=
  (((((h.far (p := ⟨g, o, none⟩) hne _).far (p := ⟨g, o + 1, none⟩) hne _).far (p := ⟨g, o + 2, none⟩) hne _).far (p := ⟨g, o + 3, none⟩) hne _).far (p := ⟨g, o + 4, none⟩) hne _).far (p := ⟨g, o + 5, none⟩) hne _
theorem put6_bel {w W : World} {g : Nat} (h : Bel w W) (hg : w.heap.size ≤ g) (o : Nat) (u0 u1 u2 u3 u4 u5 : Value) : Bel w (put6 W g o u0 u1 u2 u3 u4 u5) :=
  bel_setNew (bel_setNew (bel_setNew (bel_setNew (bel_setNew (bel_setNew h hg o _) hg (o + 1) _) hg (o + 2) _) hg (o + 3) _) hg (o + 4) _) hg (o + 5) _
theorem put6_own {w : World} {B g cap n m j : Nat} {e : TypeId} {M : List (Nd × Value × Value)} {x y : Nd × Value × Value} (h : w.ownsRow B e m (.slice (some ⟨g, 0, none⟩) n cap) n (M.flatMap ndC)) (hx : M[j]? = some x) :
    (put6 w g (j * 6) (.int .i64 y.1.t) (.string y.1.sp) (.string y.1.lo) y.2.1 y.2.2 (.string y.1.tx)).ownsRow B e m (.slice (some ⟨g, 0, none⟩) n cap) n ((M.set j y).flatMap ndC) := by
  rw [← set6 M j x y hx]
  exact own_put (own_put (own_put (own_put (own_put (own_put h _) _) _) _) _) _
theorem load_nd {w : World} {g : Nat} {t : Int} {sp lo tx : ByteArray} {va vk : Value} (hb : Blk w g 27 [.int .i64 t, .string sp, .string lo, va, vk, .string tx]) :
    (loadVar 27 ⟨g, 0, none⟩).run Tryd.prog w = .ok (.agg #[.int .i64 t, .string sp, .string lo, va, vk, .string tx]) w := by
  refine run_loadVar_mid w g 0 27 [.int .i64 t, .string sp, .string lo, va, vk, .string tx] _ (fun j v hv => ?_) Tryd.underlying27 rfl (by kernel_rfl)
  rw [Nat.zero_add, hb.at, hv]
theorem results_cellN {P : Program} {fn : Func} {p : Tmp} {ty : TypeId} (h : fn.results = #[.cell p ty]) (tmps : Array Value) (w : World) (g : Nat) (v : Value)
    (hp : tmps.getD p undef = .pointer (some ⟨g, 0, none⟩)) (hl : (loadVar ty ⟨g, 0, none⟩).run P w = .ok v w) : (results fn tmps).run P w = .ok v w := by
  have hp' : tmps[p]?.getD undef = .pointer (some ⟨g, 0, none⟩) := by simpa using hp
  simp [results, h, hp', asAddr, hl]
theorem sortN_eq (e : Nd) : sortN e = .mk e.t e.sp e.lo (sortA e.al) (sortsN e.ks) e.tx := by obtain ⟨t, sp, lo, al, ks, tx⟩ := e; rw [sortN]; rfl
theorem sorts_len (l : List Nd) : (sortsN l).length = l.length := by rw [sortsN_map, List.length_map]
set_option maxRecDepth 100000 in
set_option maxHeartbeats 4000000 in
theorem sortN_c (f : Nat) (ih : ∀ (e : Nd), e.bulk ≤ f → DistN e → ∀ va vk w (S : Nat → Bool), (∀ k, S k = true → k < w.heap.size) → NdAt (hole w S) e va vk → Calls Tryd.prog 18 #[ndV e va vk] w fun r w' => ∃ va' vk', r = .returned (ndV (sortN e) va' vk') ∧ NdAt (hole w' S) (sortN e) va' vk' ∧ Bel w w')
    (e : Nd) (hf : e.bulk ≤ f + 1) (hbk : f ≤ 1000000) (hd : DistN e) (va vk : Value) (w : World) (S : Nat → Bool) (hS : ∀ k, S k = true → k < w.heap.size) (h : NdAt (hole w S) e va vk) :
    Calls Tryd.prog 18 #[ndV e va vk] w fun r w' => ∃ va' vk', r = .returned (ndV (sortN e) va' vk') ∧ NdAt (hole w' S) (sortN e) va' vk' ∧ Bel w w' := by
  obtain ⟨aa, ka, an, ac, kn, kc, rfl, rfl, han, hkn, hac, hkc, hab, hkb, hatr, hkid⟩ := (NdAt.reads (reads_hole w S) e h).opened
  have HN := Lib.hid h
  have HSS := Lib.hid hS
  clear hS
  have HAN := Lib.hid han
  have HKN := Lib.hid hkn
  have HCA : Hid (∀ W, Bel w W → Calls Tryd.prog 30 #[.slice aa an ac] W fun r w' => ∃ v', r = .returned v' ∧ Bel W w' ∧ w'.ownsRow W.heap.size 63 3 v' an (e.al.flatMap encA)) := Lib.hid fun W hb => cloneA_c aa an ac _ W (by rw [flatA_len, HAN.out]) ((news_atrs hatr).bel hb) (flatA_one _) (by omega)
  have HSO : Hid (∀ v W, W.ownsRow (w.heap.size + 2) 63 3 v an (e.al.flatMap encA) → w.heap.size + 2 ≤ W.heap.size → Calls Tryd.prog 31 #[v, .func (.func 32) #[] #[]] W fun r w' => r = .returned (.tuple #[]) ∧ Below (w.heap.size + 2) W w' ∧ AttrsV w' v (sortA e.al)) := Lib.hid fun v W h1 h2 => sortAtrs (by rw [HAN.out]; exact h1) h2 (by rw [HAN.out]; omega) (by obtain ⟨t, sp, lo, al, ks, tx⟩ := e; unfold DistN at hd; exact hd.1)
  obtain ⟨L, hL, HCK0⟩ : ∃ L : List (Nd × Value × Value), L.map (fun x => x.1) = e.ks ∧ (NewsAt w ka (L.flatMap ndC) ∧ ∀ x ∈ L, NdAt (hole w S) x.1 x.2.1 x.2.2) := by
    obtain ⟨_, a, cap, hv, _, hk⟩ := HN.out.two
    injection hv with hv1 hv2 hv3
    subst hv1
    rcases hk with hk | ⟨b, off, hk, hlt, hn⟩
    · rw [hk]
      exact ⟨[], rfl, (fun j u hj => by cases hj), (fun x hx => by cases hx)⟩
    · obtain ⟨L, h1, h2, h3⟩ := nds_list _ _ hn
      exact ⟨L, h1, (fun j u hj => ⟨b, off, hk, hole_cell (h2 j u hj)⟩), h3⟩
  have hLn : L.length = kn := by rw [← HKN.out, ← hL, List.length_map]
  have HCK : Hid (∀ W, Bel w W → Calls Tryd.prog 35 #[.slice ka kn kc] W fun r w' => ∃ v', r = .returned v' ∧ Bel W w' ∧ w'.ownsRow W.heap.size 27 6 v' kn (L.flatMap ndC)) := Lib.hid fun W hb => cloneN_c ka kn kc _ W (by rw [flatN_len, hLn]) (HCK0.1.bel hb) (fun y hy => by
    obtain ⟨x, hx1, hx⟩ := List.mem_flatMap.1 hy
    obtain ⟨⟨_, _, g1, _⟩, _, _, g2, _⟩ := (HCK0.2 x hx1).two
    simp only [ndC, List.mem_cons, List.not_mem_nil, or_false] at hx
    rcases hx with rfl | rfl | rfl | rfl | rfl | rfl
    · rfl
    · rfl
    · rfl
    · rw [g1]; rfl
    · rw [g2]; rfl
    · rfl) (by omega)
  have HLK := Lib.hid HCK0.2
  have HL := Lib.hid hL
  have HLN := Lib.hid hLn
  clear h han hkn hatr hkid HCK0 hL hLn
  obtain ⟨t, ht⟩ : ∃ t, e.t = t := ⟨_, rfl⟩
  obtain ⟨sp, hsp⟩ : ∃ t, e.sp = t := ⟨_, rfl⟩
  obtain ⟨lo, hlo⟩ : ∃ t, e.lo = t := ⟨_, rfl⟩
  obtain ⟨tx, htx⟩ : ∃ t, e.tx = t := ⟨_, rfl⟩
  have HE := Lib.hid (And.intro ht (And.intro hsp (And.intro hlo htx)))
  unfold ndV
  rw [ht, hsp, hlo, htx]
  clear ht hsp hlo htx
  go_enter Tryd.func18, Tryd.ntmps18
  go_wp2_with (go_at_call 30; refine (HCA.out _ (by (repeat (first | exact Bel.refl _ | assumption | refine Bel.to_drewN ?_ _ | refine Bel.to_drew ?_ | refine Bel.to_setCell ?_ (by first | exact Nat.le_refl _ | (simp; done) | (simp; omega) | omega) _ | refine Bel.to_alloc ?_ _ | refine Bel.trans ?_ (by assumption))))).mono ?_; rintro e1 w1 ⟨v1, rfl, hb1, hown⟩; obtain ⟨bt, hbt⟩ : ∃ b, w.heap.size + 1 = b := ⟨_, rfl⟩; have t1 := Blk.bel (Blk.new (w.alloc (.cells #[.int .i64 t, .string sp, .string lo, .slice aa an ac, .slice ka kn kc, .string tx] 27)) 27 [.int .i64 0, .string ⟨#[]⟩, .string ⟨#[]⟩, .slice none 0 0, .slice none 0 0, .string ⟨#[]⟩]) hb1; have t0 := ((Blk.new w 27 [.int .i64 t, .string sp, .string lo, .slice aa an ac, .slice ka kn kc, .string tx]).bel (Bel.alloc _ _)).bel hb1; have hs1 := hb1.size; simp only [World.size_alloc] at hown t1 hs1; have hbel : Bel w w1 := ((Bel.alloc _ _).to_alloc _).trans hb1; have HOW := Lib.hid hown; have HB1 := Lib.hid hbel; obtain ⟨a1, c1, rfl, hc1, _⟩ := own_wh hown; have HA1 : Hid (∀ b off, a1 = some ⟨b, off, none⟩ → w.heap.size + 1 + 1 ≤ b ∧ b < w1.heap.size) := Lib.hid (own_blk hown); have c3 : w1.cell? ⟨w.heap.size, 3, none⟩ = some (.slice aa an ac) := t0.at 3; have f3 : w1.frozen? ⟨w.heap.size, 3, none⟩ = false := t0.fz 3; have g3 : (w1.setCell ⟨w.heap.size, 3, none⟩ (.slice a1 an c1)).cell? ⟨w.heap.size, 3, none⟩ = some (.slice a1 an c1) := (t0.set 3 _).at 3; have T0 := Lib.hid t0; have T1 := Lib.hid t1; clear hown HCA hb1 hbel t0 t1)
  refine (HSO.out _ _ (Go.RowKit.ownsRow_setCell_below HOW.out (Nat.lt_succ_of_lt (Nat.lt_succ_self _)) _) (by rw [World.size_setCell]; omega)).mono ?_
  rintro e2 w2 ⟨rfl, hb2, hv2⟩
  have T02 : Hid (Blk w2 w.heap.size 27 [.int .i64 t, .string sp, .string lo, .slice a1 an c1, .slice ka kn kc, .string tx]) := Lib.hid ((hb2.block _ (by omega)).trans (T0.out.set 3 _))
  have T12 : Hid (Blk w2 (w.heap.size + 1) 27 [.int .i64 0, .string ⟨#[]⟩, .string ⟨#[]⟩, .slice none 0 0, .slice none 0 0, .string ⟨#[]⟩]) := Lib.hid ((hb2.block _ (by omega)).trans (T1.out.far (p := ⟨w.heap.size, 3, none⟩) (by simp) _))
  have HB2 : Hid (Bel w w2) := Lib.hid (Below.trans (bel_setNew HB1.out (Nat.le_refl _) 3 _) (hb2.mono (by omega)))
  have HV2 := Lib.hid hv2
  have hs2 : w.heap.size + 2 ≤ w2.heap.size := by have := hb2.size; rw [World.size_setCell] at this; omega
  have hs12 : w1.heap.size ≤ w2.heap.size := by have := hb2.size; rw [World.size_setCell] at this; exact this
  have d4 : w2.cell? ⟨w.heap.size, 4, none⟩ = some (.slice ka kn kc) := T02.out.at 4
  clear hb2 hv2 HSO T0 T1 HB1 HOW c3 f3 g3
  go_wp2_with fail
  refine (HCK.out _ HB2.out).mono ?_
  rintro e3 w3 ⟨v2, rfl, hb3, hown⟩
  obtain ⟨a2, c2, rfl, hc2, hat2⟩ := own_wh hown
  have HA2 : Hid (∀ b off, a2 = some ⟨b, off, none⟩ → w2.heap.size ≤ b ∧ b < w3.heap.size) := Lib.hid (own_blk hown)
  have T03 : Hid (Blk w3 w.heap.size 27 [.int .i64 t, .string sp, .string lo, .slice a1 an c1, .slice ka kn kc, .string tx]) := Lib.hid (T02.out.bel hb3)
  have T13 : Hid (Blk w3 (w.heap.size + 1) 27 [.int .i64 0, .string ⟨#[]⟩, .string ⟨#[]⟩, .slice none 0 0, .slice none 0 0, .string ⟨#[]⟩]) := Lib.hid (T12.out.bel hb3)
  have HB3 : Hid (Bel w w3) := Lib.hid (HB2.out.trans hb3)
  have HV3 : Hid (AttrsV w3 (.slice a1 an c1) (sortA e.al)) := Lib.hid (HV2.out.bel hb3)
  have HOW := Lib.hid hown
  have c4 : w3.cell? ⟨w.heap.size, 4, none⟩ = some (.slice ka kn kc) := T03.out.at 4
  have f4 : w3.frozen? ⟨w.heap.size, 4, none⟩ = false := T03.out.fz 4
  have g4 : (w3.setCell ⟨w.heap.size, 4, none⟩ (.slice a2 kn c2)).cell? ⟨w.heap.size, 4, none⟩ = some (.slice a2 kn c2) := (T03.out.set 4 _).at 4
  have T04 : Hid (Blk (w3.setCell ⟨w.heap.size, 4, none⟩ (.slice a2 kn c2)) w.heap.size 27 [.int .i64 t, .string sp, .string lo, .slice a1 an c1, .slice a2 kn c2, .string tx]) := Lib.hid (T03.out.set 4 _)
  have T14 : Hid (Blk (w3.setCell ⟨w.heap.size, 4, none⟩ (.slice a2 kn c2)) (w.heap.size + 1) 27 [.int .i64 0, .string ⟨#[]⟩, .string ⟨#[]⟩, .slice none 0 0, .slice none 0 0, .string ⟨#[]⟩]) := Lib.hid (T13.out.far (p := ⟨w.heap.size, 4, none⟩) (by simp) _)
  have HB4 : Hid (Bel w (w3.setCell ⟨w.heap.size, 4, none⟩ (.slice a2 kn c2))) := Lib.hid (bel_setNew HB3.out (Nat.le_refl _) 4 _)
  have HOW4 : Hid ((w3.setCell ⟨w.heap.size, 4, none⟩ (.slice a2 kn c2)).ownsRow w2.heap.size 27 6 (.slice a2 kn c2) kn (L.flatMap ndC)) := Lib.hid (ownsRow_setCell_below HOW.out (show w.heap.size < w2.heap.size by omega) _)
  clear hb3 hown hat2 d4 T02 T12 HB2 HV2 HCK T03 T13
  obtain ⟨T, hT⟩ : ∃ T : Nat → Bool, (∀ k, T k = (S k || k == w.heap.size || k == w.heap.size + 1 || (match a2 with | some ad => ad.block == k | none => false))) := ⟨_, fun _ => rfl⟩
  have hg2 : ∀ b off, a2 = some ⟨b, off, none⟩ → w2.heap.size ≤ b := fun b off hb => (HA2.out b off hb).1
  have hT0 : T w.heap.size = true := by rw [hT]; simp
  have hT1 : T (w.heap.size + 1) = true := by rw [hT]; simp
  have hTS : ∀ k, k < w.heap.size → T k = true → S k = true := fun k hk hk2 => by
    rw [hT] at hk2
    cases hs : S k with
    | true => rfl
    | false =>
      exfalso
      rw [hs] at hk2
      rcases own_wh HOW.out with ⟨a, c, e1, _⟩
      have hh := HOW.out.2
      rcases hh with ⟨e0, _⟩ | ⟨g, cap, cur, e0, hg, _⟩
      · injection e0 with e0; subst e0
        simp at hk2; omega
      · injection e0 with e0; subst e0
        simp at hk2; omega
  have HT := Lib.hid hT
  have hT1a : ∀ b off, a1 = some ⟨b, off, none⟩ → T b = false := fun b off hb => by
    obtain ⟨h1, h2⟩ := HA1.out b off hb
    have hs : S b = false := by
      cases hs : S b with
      | false => rfl
      | true => have := HSS.out b hs; omega
    have e1 : (b == w.heap.size) = false := by simp; omega
    have e2 : (b == w.heap.size + 1) = false := by simp; omega
    rw [hT, hs, e1, e2]
    rcases HOW.out.2 with ⟨e0, _⟩ | ⟨g, cap, cur, e0, hg, _⟩
    · injection e0 with e0; subst e0; rfl
    · injection e0 with e0; subst e0
      simp; omega
  have HA4 : Hid (AttrsV (hole (w3.setCell ⟨w.heap.size, 4, none⟩ (.slice a2 kn c2)) T) (.slice a1 an c1) (sortA e.al)) := Lib.hid ((HV3.out.hole hT1a).reads (reads_set (p := ⟨w.heap.size, 4, none⟩) hT0 _))
  have HK4 : Hid (∀ x ∈ L, NdAt (hole (w3.setCell ⟨w.heap.size, 4, none⟩ (.slice a2 kn c2)) T) x.1 x.2.1 x.2.2) := Lib.hid fun x hx => (HLK.out x hx).reads (reads_grow HB4.out hTS)
  clear hT hT1a HA1 HV3 HB3
  go_wp2_with fail
  go_loopw [19] (fun i wr => ∃ (j : Nat) (M : List (Nd × Value × Value)), i = .int .i64 j ∧ j ≤ kn ∧ Hid (M.map (fun x => x.1) = (e.ks.take j).map sortN ++ e.ks.drop j) ∧ Hid (wr.ownsRow w2.heap.size 27 6 (.slice a2 kn c2) kn (M.flatMap ndC)) ∧ Hid (∀ x ∈ M, NdAt (hole wr T) x.1 x.2.1 x.2.2) ∧ Hid (Blk wr w.heap.size 27 [.int .i64 t, .string sp, .string lo, .slice a1 an c1, .slice a2 kn c2, .string tx]) ∧ Hid (Blk wr (w.heap.size + 1) 27 [.int .i64 0, .string ⟨#[]⟩, .string ⟨#[]⟩, .slice none 0 0, .slice none 0 0, .string ⟨#[]⟩]) ∧ Hid (Bel w wr) ∧ Hid (AttrsV (hole wr T) (.slice a1 an c1) (sortA e.al))) (fun i _ => kn - (intOf i).toNat)
  case atStart => exact ⟨0, L, rfl, Nat.zero_le _, Lib.hid (by rw [HL.out]; rfl), HOW4, HK4, T04, T14, HB4, HA4⟩
  case round =>
    obtain ⟨j, M, rfl, hj, HM, HOM, HKM, TA, TB, HBM, HAM⟩ := hrel
    by_cases hlt : j < kn
    · have hlti : (j : Int) < kn := by omega
      obtain ⟨g, hg0, hgw, hgs⟩ := own_some HOM.out (by omega)
      subst hg0
      have hml : M.length = kn := by have := congrArg List.length HM.out; rw [List.length_map, List.length_append, List.length_map, List.length_take, List.length_drop, HKN.out] at this; omega
      obtain ⟨y, hy⟩ : ∃ y, M[j]? = some y := ⟨_, List.getElem?_eq_getElem (by omega)⟩
      have hyk : e.ks[j]? = some y.1 := by
        have h1 : (M.map fun x => x.1)[j]? = some y.1 := by rw [List.getElem?_map, hy]; rfl
        rw [HM.out, List.getElem?_append_right (by rw [List.length_map, List.length_take]; omega), List.length_map, List.length_take, Nat.min_eq_left (by rw [HKN.out]; omega), List.getElem?_drop, show j + (j - j) = j from by omega] at h1
        exact h1
      have hyn := HKM.out y (List.mem_of_getElem? hy)
      obtain ⟨x, va, vk⟩ := y
      dsimp only at hyk hyn
      obtain ⟨xaa, xka, xan, xac, xkn, xkc, rfl, rfl, _⟩ := hyn.opened
      obtain ⟨_, hcs, hfs⟩ := own_cells HOM.out rfl
      have hc : ∀ c u, c < 6 → (ndC (x, .slice xaa xan xac, .slice xka xkn xkc))[c]? = some u → wr.cell? ⟨g, j * 6 + c, none⟩ = some u := fun c u h6 hu => hcs _ _ ((flatN_get M j _ c hy h6).trans hu)
      obtain ⟨xt, hxt⟩ : ∃ t, x.t = t := ⟨_, rfl⟩
      obtain ⟨xsp, hxsp⟩ : ∃ t, x.sp = t := ⟨_, rfl⟩
      obtain ⟨xlo, hxlo⟩ : ∃ t, x.lo = t := ⟨_, rfl⟩
      obtain ⟨xtx, hxtx⟩ : ∃ t, x.tx = t := ⟨_, rfl⟩
      have k0 : wr.cell? ⟨g, j * 6, none⟩ = some (.int .i64 xt) := by rw [← hxt]; exact hc 0 _ (by decide) rfl
      have k1 : wr.cell? ⟨g, j * 6 + 1, none⟩ = some (.string xsp) := by rw [← hxsp]; exact hc 1 _ (by decide) rfl
      have k2 : wr.cell? ⟨g, j * 6 + 2, none⟩ = some (.string xlo) := by rw [← hxlo]; exact hc 2 _ (by decide) rfl
      have k3 : wr.cell? ⟨g, j * 6 + 3, none⟩ = some (.slice xaa xan xac) := hc 3 _ (by decide) rfl
      have k4 : wr.cell? ⟨g, j * 6 + 4, none⟩ = some (.slice xka xkn xkc) := hc 4 _ (by decide) rfl
      have k5 : wr.cell? ⟨g, j * 6 + 5, none⟩ = some (.string xtx) := by rw [← hxtx]; exact hc 5 _ (by decide) rfl
      have hTg : T g = true := by rw [HT.out]; simp
      have HTlt : Hid (∀ k, T k = true → k < wr.heap.size) := Lib.hid fun k hk => by
        rw [HT.out] at hk
        have hbs := HBM.out.size
        have hbT := TB.out.lt
        rcases Bool.or_eq_true_iff.1 hk with hk | hk
        · rcases Bool.or_eq_true_iff.1 hk with hk | hk
          · rcases Bool.or_eq_true_iff.1 hk with hk | hk
            · have := HSS.out k hk; omega
            · have := beq_iff_eq.1 hk; omega
          · have := beq_iff_eq.1 hk; omega
        · have : g = k := by simpa using hk
          omega
      have HX : Hid (∀ V, Bel wr V → Calls Tryd.prog 18 #[.agg #[.int .i64 xt, .string xsp, .string xlo, .slice xaa xan xac, .slice xka xkn xkc, .string xtx]] V fun r w' => ∃ va' vk', r = .returned (ndV (sortN x) va' vk') ∧ NdAt (hole w' T) (sortN x) va' vk' ∧ Bel V w') := Lib.hid fun V hV => by
        rw [← hxt, ← hxsp, ← hxlo, ← hxtx]
        exact ih x (by have := nbulk_kid hyk; omega) (dists_mem (by obtain ⟨t', sp', lo', al', ks', tx'⟩ := e; rw [DistN] at hd; exact hd.2) (List.mem_of_getElem? hyk)) _ _ V T (fun k hk => Nat.lt_of_lt_of_le (HTlt.out k hk) hV.size) (hyn.reads (reads_grow hV fun _ _ h => h))
      obtain ⟨V1, h1, q1, l1, s1⟩ := alloc_step wr 27 [.int .i64 xt, .string xsp, .string xlo, .slice xaa xan xac, .slice xka xkn xkc, .string xtx]
      have d4 : V1.cell? ⟨w.heap.size, 4, none⟩ = some (.slice (some ⟨g, 0, none⟩) kn c2) := l1.keep (TA.out.at 4)
      obtain ⟨b4, hb4⟩ : ∃ b, wr.heap.size = b := ⟨_, rfl⟩
      rw [hb4] at q1
      have r0 : V1.cell? ⟨b4, 0, none⟩ = some (.int .i64 xt) := q1.at 0
      have r1 : V1.cell? ⟨b4, 1, none⟩ = some (.string xsp) := q1.at 1
      have r2 : V1.cell? ⟨b4, 2, none⟩ = some (.string xlo) := q1.at 2
      have r3 : V1.cell? ⟨b4, 3, none⟩ = some (.slice xaa xan xac) := q1.at 3
      have r4 : V1.cell? ⟨b4, 4, none⟩ = some (.slice xka xkn xkc) := q1.at 4
      have r5 : V1.cell? ⟨b4, 5, none⟩ = some (.string xtx) := q1.at 5
      have HF := Lib.hid hfs
      have HV1 := Lib.hid h1
      have HB4 := Lib.hid hb4
      have Q1 := Lib.hid q1
      have L1 := Lib.hid l1
      have HYK := Lib.hid hyk
      have HY := Lib.hid hy
      have HGG := Lib.hid (And.intro hgw (And.intro hgs hTg))
      clear hyn hcs hfs hc hxt hxsp hxlo hxtx h1 q1 l1 s1 hyk hy hgw hgs hTg hml hd hb4
      go_upto_region 7 with fail
      rw [show wr.alloc (.cells #[.int .i64 xt, .string xsp, .string xlo, .slice xaa xan xac, .slice xka xkn xkc, .string xtx] 27) = V1 from HV1.out, HB4.out]
      clear HV1
      refine wp_region_held_drew (S := fun w' => w'.cell? ⟨w.heap.size, 4, none⟩ = some (.slice (some ⟨g, 0, none⟩) kn c2) ∧ w'.cell? ⟨b4, 0, none⟩ = some (.int .i64 xt) ∧ w'.cell? ⟨b4, 1, none⟩ = some (.string xsp) ∧ w'.cell? ⟨b4, 2, none⟩ = some (.string xlo) ∧ w'.cell? ⟨b4, 3, none⟩ = some (.slice xaa xan xac) ∧ w'.cell? ⟨b4, 4, none⟩ = some (.slice xka xkn xkc) ∧ w'.cell? ⟨b4, 5, none⟩ = some (.string xtx)) (by kernel_rfl) ⟨d4, r0, r1, r2, r3, r4, r5⟩ (fun hHeld => ?_)
      refine wpAnyH_take (i := 0) (oi := _) (v := ?_) rfl (by kernel_rfl) (by kernel_rfl) (by kernel_rfl) (fun _ _ _ h => h) ?_ (by assumption) ?_
      rotate_left 1
      · first
          | (refine Or.inl ⟨by rfl, ?_⟩; intro w9 hSw; (try dsimp only at hSw); go_simp; (try with_reducible rfl); done)
          | (refine Or.inr ⟨by rfl, ?_⟩; rfl)
      simp only [List.getElem_toArray, List.getElem_cons_zero, Act.put, List.setIfInBounds_toArray, List.set_cons_zero, List.set_cons_succ]
      refine wpAnyH_take (i := 1) (oi := _) (v := ?_) rfl (by kernel_rfl) (by kernel_rfl) (by kernel_rfl) (fun _ _ _ h => h) ?_ (by assumption) ?_
      rotate_left 1
      · first
          | (refine Or.inl ⟨by rfl, ?_⟩; intro w9 hSw; (try dsimp only at hSw); go_simp; (try with_reducible rfl); done)
          | (refine Or.inr ⟨by rfl, ?_⟩; rfl)
      simp only [List.getElem_toArray, List.getElem_cons_succ, List.getElem_cons_zero, Act.put, List.setIfInBounds_toArray, List.set_cons_zero, List.set_cons_succ]
      refine wpAnyH_take (i := 2) (oi := _) (v := ?_) rfl (by kernel_rfl) (by kernel_rfl) (by kernel_rfl) (fun _ _ _ h => h) ?_ (by assumption) ?_
      rotate_left 1
      · first
          | (refine Or.inl ⟨by rfl, ?_⟩; intro w9 hSw; (try dsimp only at hSw); go_simp; (try with_reducible rfl); done)
          | (refine Or.inr ⟨by rfl, ?_⟩; rfl)
      simp only [List.getElem_toArray, List.getElem_cons_succ, List.getElem_cons_zero, Act.put, List.setIfInBounds_toArray, List.set_cons_zero, List.set_cons_succ]
      refine wpAnyH_take (i := 3) (oi := _) (v := ?_) rfl (by kernel_rfl) (by kernel_rfl) (by kernel_rfl) (fun _ _ _ h => h) ?_ (by assumption) ?_
      rotate_left 1
      · first
          | (refine Or.inl ⟨by rfl, ?_⟩; intro w9 hSw; (try dsimp only at hSw); go_simp; (try with_reducible rfl); done)
          | (refine Or.inr ⟨by rfl, ?_⟩; rfl)
      simp only [List.getElem_toArray, List.getElem_cons_succ, List.getElem_cons_zero, Act.put, List.setIfInBounds_toArray, List.set_cons_zero, List.set_cons_succ]
      refine wpAnyH_ready (rs := [4]) (by kernel_rfl) (by simp) ?_
      refine AllReadyH.cons (o := _) rfl (fun K hK => ?_) AllReadyH.nil
      go_simp
      go_at_call 18
      refine (HX.out _ (L1.out.trans (Bel.drew _))).mono ?_
      rintro e4 w4 ⟨va', vk', rfl, hnd4, hb4⟩
      obtain ⟨⟨ya, yc, rfl, _⟩, za, zc, rfl, _⟩ := hnd4.two
      unfold ndV
      dsimp only
      have hb5 : Bel V1 w4 := (Bel.drew _).trans hb4
      refine hK.out _ _ ⟨hb5.keep d4, hb5.keep r0, hb5.keep r1, hb5.keep r2, hb5.keep r3, hb5.keep r4, hb5.keep r5⟩ (fun hHeld => ?_)
      clear hK K
      refine wpAnyH_take (i := 5) (oi := _) (v := ?_) rfl (by kernel_rfl) (by kernel_rfl) (by kernel_rfl) (fun _ _ _ h => h) ?_ (by assumption) ?_
      rotate_left 1
      · first
          | (refine Or.inl ⟨by rfl, ?_⟩; intro w9 hSw; (try dsimp only at hSw); go_simp; (try with_reducible rfl); done)
          | (refine Or.inr ⟨by rfl, ?_⟩; rfl)
      simp only [List.getElem_toArray, List.getElem_cons_succ, List.getElem_cons_zero, Act.put, List.setIfInBounds_toArray, List.set_cons_zero, List.set_cons_succ]
      obtain ⟨yt, hyt⟩ : ∃ t, (sortN x).t = t := ⟨_, rfl⟩
      obtain ⟨ysp, hysp⟩ : ∃ t, (sortN x).sp = t := ⟨_, rfl⟩
      obtain ⟨ylo, hylo⟩ : ∃ t, (sortN x).lo = t := ⟨_, rfl⟩
      obtain ⟨ytx, hytx⟩ : ∃ t, (sortN x).tx = t := ⟨_, rfl⟩
      have HYE := Lib.hid (And.intro hyt (And.intro hysp (And.intro hylo hytx)))
      rw [hyt, hysp, hylo, hytx]
      obtain ⟨yan, hyan⟩ : ∃ t, (sortN x).al.length = t := ⟨_, rfl⟩
      obtain ⟨ykn, hykn⟩ : ∃ t, (sortN x).ks.length = t := ⟨_, rfl⟩
      have HND4 : Hid (NdAt (hole w4 T) (sortN x) (.slice ya yan yc) (.slice za ykn zc)) := Lib.hid (by rw [← hyan, ← hykn]; exact hnd4)
      rw [hyan, hykn]
      have HB5 := Lib.hid (L1.out.trans hb5)
      have HQ5 := Lib.hid (Q1.out.bel hb5)
      have hb6 := L1.out.trans hb5
      have p0 := hb6.keep k0
      have p1 := hb6.keep k1
      have p2 := hb6.keep k2
      have p3 := hb6.keep k3
      have p4 := hb6.keep k4
      have p5 := hb6.keep k5
      have z0 : w4.frozen? ⟨g, j * 6, none⟩ = false := (hb6.frozen HGG.out.2.1).trans (HF.out _)
      have z1 : w4.frozen? ⟨g, j * 6 + 1, none⟩ = false := (hb6.frozen HGG.out.2.1).trans (HF.out _)
      have z2 : w4.frozen? ⟨g, j * 6 + 2, none⟩ = false := (hb6.frozen HGG.out.2.1).trans (HF.out _)
      have z3 : w4.frozen? ⟨g, j * 6 + 3, none⟩ = false := (hb6.frozen HGG.out.2.1).trans (HF.out _)
      have z4 : w4.frozen? ⟨g, j * 6 + 4, none⟩ = false := (hb6.frozen HGG.out.2.1).trans (HF.out _)
      have z5 : w4.frozen? ⟨g, j * 6 + 5, none⟩ = false := (hb6.frozen HGG.out.2.1).trans (HF.out _)
      clear hyt hysp hylo hytx hyan hykn hnd4 hb4 hb5 hb6 d4 r0 r1 r2 r3 r4 r5 k0 k1 k2 k3 k4 k5
      refine wpAnyH_ready (rs := [6]) (by kernel_rfl) (by simp) ?_
      refine AllReadyH.cons (o := _) rfl (fun K hK => ?_) AllReadyH.nil
      go_simp
      obtain ⟨W6, hW6⟩ : ∃ W, put6 w4 g (j * 6) (.int .i64 yt) (.string ysp) (.string ylo) (.slice ya yan yc) (.slice za ykn zc) (.string ytx) = W := ⟨_, rfl⟩
      have HW6 := Lib.hid hW6
      unfold put6 at hW6
      rw [hW6]
      have hgl := HGG.out.1
      have hb4g : b4 ≠ g := by have := HGG.out.2.1; have := HB4.out; omega
      have hb0g : w.heap.size ≠ g := by omega
      have hb1g : w.heap.size + 1 ≠ g := by omega
      have TA6 : Hid (Blk W6 w.heap.size 27 [.int .i64 t, .string sp, .string lo, .slice a1 an c1, .slice (some ⟨g, 0, none⟩) kn c2, .string tx]) := Lib.hid (by rw [← HW6.out]; exact put6_blk (TA.out.bel HB5.out) hb0g _ _ _ _ _ _ _)
      have TB6 : Hid (Blk W6 (w.heap.size + 1) 27 [.int .i64 0, .string ⟨#[]⟩, .string ⟨#[]⟩, .slice none 0 0, .slice none 0 0, .string ⟨#[]⟩]) := Lib.hid (by rw [← HW6.out]; exact put6_blk (TB.out.bel HB5.out) hb1g _ _ _ _ _ _ _)
      have TQ6 : Hid (Blk W6 b4 27 [.int .i64 xt, .string xsp, .string xlo, .slice xaa xan xac, .slice xka xkn xkc, .string xtx]) := Lib.hid (by rw [← HW6.out]; exact put6_blk HQ5.out hb4g _ _ _ _ _ _ _)
      refine hK.out _ _ ⟨TA6.out.at 4, TQ6.out.at 0, TQ6.out.at 1, TQ6.out.at 2, TQ6.out.at 3, TQ6.out.at 4, TQ6.out.at 5⟩ (fun hHeld => ?_)
      clear hK K hW6 TQ6 HQ5 p0 p1 p2 p3 p4 p5 z0 z1 z2 z3 z4 z5
      refine wpAnyH_done (by kernel_rfl) ?_ _
      clear hHeld
      have hR6 : Reads (hole w4 T) (hole W6 T) := by rw [← HW6.out]; exact put6_reads HGG.out.2.2 _ _ _ _ _ _ _
      have hR4 : Reads (hole wr T) (hole w4 T) := reads_grow HB5.out fun _ _ h => h
      have HR : Hid (Reads (hole wr T) (hole W6 T)) := Lib.hid ⟨fun p v hp => hR6.cell _ _ (hR4.cell _ _ hp), Nat.le_trans hR4.size hR6.size⟩
      have HBW : Hid (Bel w W6) := Lib.hid (by rw [← HW6.out]; exact put6_bel (HBM.out.trans HB5.out) (by omega) _ _ _ _ _ _ _)
      obtain ⟨y6, hy6⟩ : ∃ y : Nd × Value × Value, y = (sortN x, .slice ya yan yc, .slice za ykn zc) := ⟨_, rfl⟩
      obtain ⟨e1, e2, e3, e4⟩ := HYE.out
      have HOM6 : Hid (W6.ownsRow w2.heap.size 27 6 (.slice (some ⟨g, 0, none⟩) kn c2) kn ((M.set j y6).flatMap ndC)) := Lib.hid (by
        rw [← HW6.out, ← e1, ← e2, ← e3, ← e4, hy6]
        exact put6_own (y := (sortN x, .slice ya yan yc, .slice za ykn zc)) (own_bel HOM.out HB5.out) HY.out)
      have HKM6 : Hid (∀ y ∈ M.set j y6, NdAt (hole W6 T) y.1 y.2.1 y.2.2) := Lib.hid fun y hy => by
        rcases List.mem_or_eq_of_mem_set hy with hy | rfl
        · exact (HKM.out y hy).reads HR.out
        · rw [hy6]; exact HND4.out.reads hR6
      have HM6 : Hid ((M.set j y6).map (fun x => x.1) = (e.ks.take (j + 1)).map sortN ++ e.ks.drop (j + 1)) := Lib.hid (by
        have h1 : (M.set j y6).map (fun x => x.1) = (M.map fun x => x.1).set j (sortN x) := by rw [List.map_set, hy6]
        rw [h1, HM.out, List.set_append_right _ _ (by rw [List.length_map, List.length_take]; omega), List.length_map, List.length_take, Nat.min_eq_left (by rw [HKN.out]; omega), show j - j = 0 from by omega, List.drop_eq_getElem_cons (by rw [HKN.out]; exact hlt), List.set_cons_zero, List.take_add_one, HYK.out, List.map_append]
        simp)
      have HAM6 := Lib.hid (HAM.out.reads HR.out)
      clear hR6 hR4 hy6 e1 e2 e3 e4 hgl hb4g hb0g hb1g
      go_wp2_with fail
      exact ⟨⟨j + 1, M.set j y6, by go_num, by omega, HM6, HOM6, HKM6, TA6, TB6, HBW, HAM6⟩, by simp [intOf]; omega⟩
    · have hlti : ¬ ((j : Int) < kn) := by omega
      obtain rfl : j = kn := by omega
      have x0 : wr.cell? ⟨w.heap.size, 0, none⟩ = some (.int .i64 t) := TA.out.at 0
      have x1 : wr.cell? ⟨w.heap.size, 1, none⟩ = some (.string sp) := TA.out.at 1
      have x2 : wr.cell? ⟨w.heap.size, 2, none⟩ = some (.string lo) := TA.out.at 2
      have x3 : wr.cell? ⟨w.heap.size, 3, none⟩ = some (.slice a1 an c1) := TA.out.at 3
      have x4 : wr.cell? ⟨w.heap.size, 4, none⟩ = some (.slice a2 j c2) := TA.out.at 4
      have x5 : wr.cell? ⟨w.heap.size, 5, none⟩ = some (.string tx) := TA.out.at 5
      rw [hbt] at TB
      have y0 : wr.cell? ⟨bt, 0, none⟩ = some (.int .i64 0) := TB.out.at 0
      have y1 : wr.cell? ⟨bt, 1, none⟩ = some (.string ⟨#[]⟩) := TB.out.at 1
      have y2 : wr.cell? ⟨bt, 2, none⟩ = some (.string ⟨#[]⟩) := TB.out.at 2
      have y3 : wr.cell? ⟨bt, 3, none⟩ = some (.slice none 0 0) := TB.out.at 3
      have y4 : wr.cell? ⟨bt, 4, none⟩ = some (.slice none 0 0) := TB.out.at 4
      have y5 : wr.cell? ⟨bt, 5, none⟩ = some (.string ⟨#[]⟩) := TB.out.at 5
      have z0 : wr.frozen? ⟨bt, 0, none⟩ = false := TB.out.fz 0
      have z1 : wr.frozen? ⟨bt, 1, none⟩ = false := TB.out.fz 1
      have z2 : wr.frozen? ⟨bt, 2, none⟩ = false := TB.out.fz 2
      have z3 : wr.frozen? ⟨bt, 3, none⟩ = false := TB.out.fz 3
      have z4 : wr.frozen? ⟨bt, 4, none⟩ = false := TB.out.fz 4
      have z5 : wr.frozen? ⟨bt, 5, none⟩ = false := TB.out.fz 5
      go_wp2_with fail
      have hb5 := ((((((TB.out.set 0 (.int .i64 t)).set 1 (.string sp)).set 2 (.string lo)).set 3 (.slice a1 an c1)).set 4 (.slice a2 j c2)).set 5 (.string tx))
      refine bodyPost_ret (results_cellN rfl _ _ bt _ rfl (load_nd hb5)) rfl ?_
      have hbw : w.heap.size ≤ bt := by omega
      have hbL : bt < wr.heap.size := TB.out.lt
      have hTt : T bt = true := by rw [← hbt]; exact hT1
      have hrd : Reads (hole wr T) (hole (put6 wr bt 0 (.int .i64 t) (.string sp) (.string lo) (.slice a1 an c1) (.slice a2 j c2) (.string tx)) T) := put6_reads hTt 0 _ _ _ _ _ _
      have hls : Reads (hole (put6 wr bt 0 (.int .i64 t) (.string sp) (.string lo) (.slice a1 an c1) (.slice a2 j c2) (.string tx)) T) (hole (put6 wr bt 0 (.int .i64 t) (.string sp) (.string lo) (.slice a1 an c1) (.slice a2 j c2) (.string tx)) S) := reads_less fun k hk => by rw [HT.out, hk]; rfl
      obtain ⟨g1, g2, g3, g4⟩ := HE.out
      rw [sortN_eq, g1, g2, g3, g4]
      refine ⟨_, _, rfl, ?_, put6_bel HBM.out hbw 0 _ _ _ _ _ _⟩
      refine NdAt.make ?_ ((HAM.out.reads hrd).reads hls) ⟨a2, c2, ?_, ?_, ?_⟩
      · rw [← g1]; exact HN.out.wf
      · rw [sorts_len, HKN.out]
      · rw [sorts_len, HKN.out]; exact hc2
      · have hmk : M.map (fun x => x.1) = sortsN e.ks := by
          rw [HM.out, List.take_of_length_le (by rw [HKN.out]; exact Nat.le_refl _), List.drop_eq_nil_of_le (by rw [HKN.out]; exact Nat.le_refl _), List.append_nil, sortsN_map]
        by_cases hj0 : 0 < j
        · obtain ⟨g, hg0, hgw, hgs⟩ := own_some HOM.out hj0
          have hSg : S g = false := by
            cases hs : S g with
            | false => rfl
            | true => have := HSS.out g hs; omega
          obtain ⟨_, hcs, _⟩ := own_cells HOM.out hg0
          refine .inr ⟨g, 0, hg0, ?_, ?_⟩
          · rw [hole_size]
            simp only [World.size_setCell]
            exact hgs
          · rw [← hmk]
            refine nds_of M 0 (fun i u hi => ?_) fun x hx => ((HKM.out x hx).reads hrd).reads hls
            rw [Nat.zero_add]
            rw [hole_cell_of (p := ⟨g, i, none⟩) hSg]
            have h0 := hcs i u hi
            have hne : g ≠ bt := by omega
            simp only [World.cell?, World.setCell] at h0 ⊢
            simp [Array.getElem?_modify, Ne.symm hne]
            simpa using h0
        · left
          rw [← hmk]
          have := HKN.out
          cases hM : M with
          | nil => rfl
          | cons x r =>
            exfalso
            have := congrArg List.length hmk
            rw [hM, sorts_len, HKN.out] at this
            simp at this
            omega
theorem sortedS_c : ∀ (f : Nat) (e : Nd), e.bulk ≤ f → f ≤ 1000000 → DistN e → ∀ va vk w (S : Nat → Bool), (∀ k, S k = true → k < w.heap.size) → NdAt (hole w S) e va vk → Calls Tryd.prog 18 #[ndV e va vk] w fun r w' => ∃ va' vk', r = .returned (ndV (sortN e) va' vk') ∧ NdAt (hole w' S) (sortN e) va' vk' ∧ Bel w w' := by
  intro f
  induction f with
  | zero => intro e he; have := nd_pos e; omega
  | succ f ih =>
    intro e he hf hd va vk w S hS h
    exact sortN_c f (fun e' he' hd' va' vk' w' S' hS' h' => ih e' he' (by omega) hd' va' vk' w' S' hS' h') e he (by omega) hd va vk w S hS h
/-- xmlout.Sorted. -/
theorem sorted_c (e : Nd) (va vk : Value) (w : World) (he : e.bulk ≤ 1000000) (hd : DistN e) (h : NdAt w e va vk) :
    Calls Tryd.prog 18 #[ndV e va vk] w fun r w' => ∃ va' vk', r = .returned (ndV (sortN e) va' vk') ∧ NdAt w' (sortN e) va' vk' ∧ Bel w w' := by
  have hr : Reads w (hole w fun _ => false) := ⟨fun p v hp => (hole_cell_of (S := fun _ => false) rfl).trans hp, by rw [hole_size]; exact Nat.le_refl _⟩
  refine (sortedS_c e.bulk e (Nat.le_refl _) he hd va vk w (fun _ => false) (fun k hk => by cases hk) (h.reads hr)).mono ?_
  rintro r w' ⟨va', vk', h1, h2, h3⟩
  exact ⟨va', vk', h1, NdAt.reads (reads_hole w' _) _ h2, h3⟩
end Go.Proofs.YtojeclfcgnamoaaDoor
