/-
  feellex: the law FeellexBack is true.
-/
import Derived.Test.YtjnaikojoemkaaaDoorJE
namespace Go.Proofs.YtjnaikojoemkaaaDoor
open Go.RowKit

theorem lxCells_snoc (l : List Lx) (x : Lx) : lxCells (l ++ [x]) = lxCells l ++ [.int .i64 x.1, .int .i64 x.2.1, .string x.2.2] := by simp [lxCells]
theorem lxCells_length (l : List Lx) : (lxCells l).length = 3 * l.length := by
  induction l with
  | nil => rfl
  | cons x l ih => simp only [lxCells, List.flatMap_cons, List.length_append, List.length_cons, List.length_nil] at ih ⊢; omega
theorem own_rowX {W : World} {B : Nat} {v : Value} {l : List Lx} (h : W.ownsRow B 28 3 v l.length (lxCells l)) : RowL W v l := by
  obtain ⟨hl, ⟨rfl, h0⟩ | ⟨g, cap, cur, rfl, hg, hh, hn, _, hsz, ht⟩⟩ := h
  · exact .inl ⟨rfl, List.eq_nil_of_length_eq_zero h0⟩
  · refine .inr ⟨g, 0, cap, rfl, hn, (Array.getElem?_eq_some_iff.1 hh).1, fun j x hx => ?_⟩
    obtain ⟨g0, g1, g2⟩ := lxCells_at l j x hx
    have hj : j < l.length := (List.getElem?_eq_some_iff.1 hx).1
    have hc : ∀ k u, k < l.length * 3 → (lxCells l)[k]? = some u → W.cell? ⟨g, 0 + k, none⟩ = some u := by
      intro k u hk hu
      rw [← ht, List.getElem?_take, if_pos hk] at hu
      simp only [World.cell?, hh, Nat.zero_add]
      simpa using hu
    exact ⟨hc _ _ (by omega) g0, hc (j * 3 + 1) _ (by omega) g1, hc (j * 3 + 2) _ (by omega) g2⟩

set_option maxRecDepth 100000 in
set_option maxHeartbeats 8000000 in
theorem back_c {w : World} (v0 : Value) (l : List Lx) (h0 : RowL w v0 l) (hb : ∀ x ∈ l, x.2.2.size ≤ 1048576) (hl : l.length ≤ 1048576) (hE : Env w ∧ SignsAt w) :
    Calls Tryd.prog 6 #[v0] w (RetBel (.bool true) w) := by
  obtain ⟨hE, hw⟩ := hE
  have HAL : Hid (∀ w1, Bel w w1 → Calls Tryd.prog 7 #[] w1 (RetBel (.bool true) w1)) := Lib.hid fun w1 hb => alive_c w1 (hE.bel hb) (signs_bel hw hb)
  have HTX : Hid (∀ w1, Bel w w1 → ∀ k p (x : ByteArray), x.size ≤ 1048576 → Calls Tryd.prog 11 #[.agg #[.int .i64 k, .int .i64 p, .string x]] w1 (RetBel (.tuple #[.string (textOf k x).1, .int .i64 (textOf k x).2]) w1)) :=
    Lib.hid fun w1 hb k p x hx => ptext_c k p x (by omega) w1 (hE.bel hb) (signs_bel hw hb)
  have HLX : Hid (∀ x : ByteArray, x.size ≤ 4294967280 → ∀ w1, Bel w w1 → Calls Tryd.prog 8 #[.string x] w1 (RetLex (lexS x) w1)) := Lib.hid fun x hx w1 hb => lex_c x hx w1 (hE.bel hb) (signs_bel hw hb)
  obtain ⟨a0, c0, rfl, hr0⟩ := rowL_form h0
  obtain ⟨n, hn⟩ : ∃ n, l.length = n := ⟨_, rfl⟩
  rw [hn] at hl ⊢
  have HN := Lib.hid hn
  have HR0 := Lib.hid hr0
  have HBN := Lib.hid hb
  clear hE hw hr0 hn hb h0
  by_cases h100 : n ≤ 100
  · have h100i : (n : Int) ≤ 100 := by omega
    have h100d : decide ((100 : Int) < n) = false := decide_eq_false (by omega)
    go_enter Tryd.func6, Tryd.ntmps6
    go_wp2_with fail
    refine (HAL.out _ (Bel.refl _)).mono ?_
    rintro e w1 ⟨rfl, b1⟩
    go_wp2_with fail
    go_loopw [3, 4, 25] (fun s o i wr => ∃ (j : Nat) (S : ByteArray) (O : List Lx) (T : List Tok), j ≤ n ∧ i = .int .i64 j ∧ s = .string S ∧ Bel w wr ∧ wr.ownsRow w.heap.size 28 3 o O.length (lxCells O) ∧ O.length ≤ j ∧ S.size ≤ 201 * j ∧ Gath S O T) (fun _ _ i _ => n - (intOf i).toNat)
    case atStart => exact ⟨0, ⟨#[]⟩, [], [], Nat.zero_le _, rfl, rfl, b1, World.ownsRow_nil _ _ _ _, Nat.le_refl _, Nat.le_refl _, gath_nil⟩
    case round =>
      obtain ⟨j, S, O, T, hj, rfl, rfl, hbel, hown, hol, hss, hg⟩ := hrel
      have HOW := Lib.hid hown
      have HG := Lib.hid hg
      clear hown hg
      by_cases hlt : j < n
      · have hlti : (j : Int) < n := by omega
        obtain ⟨x, hx⟩ : ∃ x, l[j]? = some x := ⟨_, List.getElem?_eq_getElem (by have := HN.out; omega)⟩
        have hxb := HBN.out x (List.mem_of_getElem? hx)
        rcases HR0.out with h0 | ⟨g0, p0, rfl, hk0, hl0, hc0⟩
        · have := HN.out; rw [h0] at this; simp at this; omega
        rw [HN.out] at hk0
        obtain ⟨f0, f1, f2⟩ := hc0 j x hx
        have f0 := hbel.keep f0
        have f1 := hbel.keep f1
        have f2 := hbel.keep f2
        obtain ⟨k, p, v⟩ := x
        simp only at f0 f1 f2 hxb
        obtain ⟨⟨X, E⟩, hX⟩ : ∃ R, textOf k v = R := ⟨_, rfl⟩
        have HT : Hid (∀ w1, Bel w w1 → Calls Tryd.prog 11 #[.agg #[.int .i64 k, .int .i64 p, .string v]] w1 (RetBel (.tuple #[.string X, .int .i64 E]) w1)) := Lib.hid fun w1 hb => by
          have := HTX.out w1 hb k p v hxb
          rwa [hX] at this
        have HB0 := Lib.hid (hbel.to_alloc (.cells #[.int .i64 k, .int .i64 p, .string v] 28))
        have HBK := Lib.hid (Blk.new wr 28 [.int .i64 k, .int .i64 p, .string v])
        have HOW1 := Lib.hid (HOW.out.alloc (.cells #[.int .i64 k, .int .i64 p, .string v] 28))
        clear hc0 hx
        by_cases hE0 : E = 0
        · subst hE0
          by_cases hk5 : k = 5
          · subst hk5
            clear hX
            go_wp2_with fail
            refine (HT.out _ HB0.out).mono ?_
            rintro e w2 ⟨rfl, b2⟩
            have d0 := (HBK.out.bel b2).at 0
            have d1 := (HBK.out.bel b2).at 1
            have d2 := (HBK.out.bel b2).at 2
            go_wp2_with fail
            exact ⟨⟨j + 1, S, O, T, by omega, by go_num, rfl, HB0.out.trans b2, own_bel HOW1.out b2, by omega, by omega, HG.out⟩, by simp [intOf]; omega⟩
          · have hk5a : (k == 5) = false := by simp [hk5]
            have hk5b : (k != 5) = true := by simp [hk5]
            by_cases h200 : X.size < 200
            · have h200i : (X.size : Int) < 200 := by omega
              have he := isEmpty_size S _ rfl
              by_cases hS0 : S.size = 0
              · obtain ⟨T', hT'⟩ := gath_first k p v X S O T HG.out hS0 hX hk5
                rw [decide_eq_true hS0] at he
                have f10 : (S ++ X).size ≤ maxLen := by rw [ByteArray.size_append]; unfold maxLen; omega
                have hsz : (S ++ X).size ≤ 201 * (j + 1) := by rw [ByteArray.size_append]; omega
                have HG' := Lib.hid hT'
                clear hX hk5 hT' hS0
                go_wp2_with fail
                refine (HT.out _ HB0.out).mono ?_
                rintro e w2 ⟨rfl, b2⟩
                have d0 := (HBK.out.bel b2).at 0
                have d1 := (HBK.out.bel b2).at 1
                have d2 := (HBK.out.bel b2).at 2
                have HB2 := Lib.hid (HB0.out.trans b2)
                have HOW2 := Lib.hid (own_bel HOW1.out b2)
                go_wp2_with (at_builtin; refine wpL_append1 rfl _ _ 23 rfl w 28 (.agg #[.int .i64 0, .int .i64 0, .string ⟨#[]⟩]) 3 32 Tryd.underlying23 info_lex rfl (by decide) (by decide) _ O.length (lxCells O) rfl (HOW2.out.alloc _) ⟨w2.heap.size, 0, none⟩ 1 [.int .i64 k, .int .i64 p, .string v] rfl rfl (cells3_new0 _ _ _ _ _) (by simp [Value.oneCell']) (by omega) (HB2.out.to_alloc _) ?_; intro g9 cp w9 hown9 hb9 hb10; have HOWN9 := Lib.hid hown9; clear hown9)
                exact ⟨⟨j + 1, S ++ X, O ++ [(k, p, v)], T', by omega, by go_num, rfl, hb9, by rw [lxCells_snoc, List.length_append]; exact HOWN9.out, by simp; omega, hsz, HG'.out⟩, by simp [intOf]; omega⟩
              · obtain ⟨T', hT'⟩ := gath_next k p v X S O T HG.out hX hk5
                rw [decide_eq_false hS0] at he
                have he2 : (!S.toList.isEmpty) = true := by rw [he]; rfl
                have hs1 : (S ++ (⟨#[32]⟩ : ByteArray)).size = S.size + 1 := by rw [ByteArray.size_append]; rfl
                have f10 : (S ++ (⟨#[32]⟩ : ByteArray)).size ≤ maxLen := by rw [hs1]; unfold maxLen; omega
                obtain ⟨Y, hY⟩ : ∃ Y, S ++ (⟨#[32]⟩ : ByteArray) = Y := ⟨_, rfl⟩
                rw [hY] at hT' hs1 f10
                have f11 : (Y ++ X).size ≤ maxLen := by rw [ByteArray.size_append]; unfold maxLen; omega
                have hsz : (Y ++ X).size ≤ 201 * (j + 1) := by rw [ByteArray.size_append]; omega
                have HG' := Lib.hid hT'
                clear hX hk5 hT' hS0
                go_wp2_with fail
                refine (HT.out _ HB0.out).mono ?_
                rintro e w2 ⟨rfl, b2⟩
                have d0 := (HBK.out.bel b2).at 0
                have d1 := (HBK.out.bel b2).at 1
                have d2 := (HBK.out.bel b2).at 2
                have HB2 := Lib.hid (HB0.out.trans b2)
                have HOW2 := Lib.hid (own_bel HOW1.out b2)
                go_wp2_with (at_builtin; refine wpL_append1 rfl _ _ 23 rfl w 28 (.agg #[.int .i64 0, .int .i64 0, .string ⟨#[]⟩]) 3 32 Tryd.underlying23 info_lex rfl (by decide) (by decide) _ O.length (lxCells O) rfl (HOW2.out.alloc _) ⟨w2.heap.size, 0, none⟩ 1 [.int .i64 k, .int .i64 p, .string v] rfl rfl (cells3_new0 _ _ _ _ _) (by simp [Value.oneCell']) (by omega) (HB2.out.to_alloc _) ?_; intro g9 cp w9 hown9 hb9 hb10; have HOWN9 := Lib.hid hown9; clear hown9)
                exact ⟨⟨j + 1, Y ++ X, O ++ [(k, p, v)], T', by omega, by go_num, rfl, hb9, by rw [lxCells_snoc, List.length_append]; exact HOWN9.out, by simp; omega, hsz, HG'.out⟩, by simp [intOf]; omega⟩
            · have h200i : ¬ (X.size : Int) < 200 := by omega
              have h200d : decide ((X.size : Int) < 200) = false := decide_eq_false h200i
              clear hX hk5
              go_wp2_with fail
              refine (HT.out _ HB0.out).mono ?_
              rintro e w2 ⟨rfl, b2⟩
              have d0 := (HBK.out.bel b2).at 0
              have d1 := (HBK.out.bel b2).at 1
              have d2 := (HBK.out.bel b2).at 2
              go_wp2_with fail
              exact ⟨⟨j + 1, S, O, T, by omega, by go_num, rfl, HB0.out.trans b2, own_bel HOW1.out b2, by omega, by omega, HG.out⟩, by simp [intOf]; omega⟩
        · have hE1 : ((E : Int) == 0) = false := by simp [hE0]
          have hE2 : ((E : Int) != 0) = true := by simp [hE0]
          clear hX hE0
          go_wp2_with fail
          refine (HT.out _ HB0.out).mono ?_
          rintro e w2 ⟨rfl, b2⟩
          have d0 := (HBK.out.bel b2).at 0
          have d1 := (HBK.out.bel b2).at 1
          have d2 := (HBK.out.bel b2).at 2
          go_wp2_with fail
          exact ⟨⟨j + 1, S, O, T, by omega, by go_num, rfl, HB0.out.trans b2, own_bel HOW1.out b2, by omega, by omega, HG.out⟩, by simp [intOf]; omega⟩
      · obtain rfl : j = n := by omega
        have hlx := HLX.out S (by omega)
        rw [gath_lex S O T HG.out] at hlx
        have HL := Lib.hid hlx
        have hgs := gath_same S O T HG.out
        have hgl := gath_len S O T HG.out
        have HRI := Lib.hid fun i x hx => lastP_all S T 5 ⟨#[]⟩ HG.out.2.1 i x hx
        have HGS := Lib.hid hgs
        obtain ⟨M, hM⟩ : ∃ M, T ++ [((5 : Int), S.size, (⟨#[]⟩ : ByteArray))] = M := ⟨_, rfl⟩
        have hMl : M.length = T.length + 1 := by rw [← hM]; simp
        rw [hM] at HL HGS HRI
        obtain ⟨q, hq⟩ : ∃ q, T.length = q := ⟨_, rfl⟩
        rw [hq] at HRI hMl hgl
        have hsb : S.size ≤ 20100 := by omega
        have hqb : q ≤ 100 := by omega
        clear hlx hgs hM hq
        go_wp2_with fail
        refine (HL.out _ hbel).mono ?_
        rintro e w2 ⟨b2, v2, rfl, o2⟩
        have hRL := own_rowL o2
        obtain ⟨a2, c2, hv2, hr2⟩ := rowL_form hRL
        rw [List.length_map, hMl] at hv2
        subst hv2
        rcases hr2 with hr2 | ⟨g2, p2, rfl, hk2, hl2, hc2⟩
        · have := congrArg List.length hr2; rw [List.length_map, hMl] at this; simp at this
        rw [List.length_map, hMl] at hk2
        have hg2 : wr.heap.size ≤ g2 := (o2.lt g2 rfl).1
        have hnb : some g2 ≠ u4.ownBlock := fun e => by have := (HOW.out.lt g2 e.symm).2; omega
        have HNB := Lib.hid hnb
        have HC2 := Lib.hid hc2
        have HRL := Lib.hid hRL
        have HOW2 := Lib.hid (own_bel HOW.out b2)
        have HB2 := Lib.hid (hbel.trans b2)
        clear o2 hc2 hRL hnb
        go_wp2_with (at_builtin; refine wpL_append1G rfl _ _ 23 rfl w 28 (.agg #[.int .i64 0, .int .i64 0, .string ⟨#[]⟩]) 3 32 Tryd.underlying23 info_lex rfl (by decide) (by decide) _ O.length (lxCells O) rfl (HOW2.out.alloc _) ⟨w2.heap.size, 0, none⟩ 1 [.int .i64 5, .int .i64 0, .string ⟨#[]⟩] rfl rfl (cells3_new0 _ _ _ _ _) (by simp [Value.oneCell']) (by omega) (HB2.out.to_alloc _) ?_; intro g9 cp w9 hown9 hb9 hb10 hkp; have HOWN9 := Lib.hid hown9; have HKP := Lib.hid hkp; clear hown9 hkp)
        have hblk : w9.heap[g2]? = w2.heap[g2]? := by
          rw [HKP.out g2 (by simp; omega) HNB.out]
          exact (Bel.alloc w2 _).block hl2
        have hr9 := rowL_block HRL.out (by have := hb10; simp at this; omega) hblk
        have hcell9 : ∀ o, w9.cell? ⟨g2, o, none⟩ = w2.cell? ⟨g2, o, none⟩ := fun o => World.cell?_of_block (a := ⟨g2, o, none⟩) hblk
        have HCE := Lib.hid hcell9
        have HSM : Hid (Calls Tryd.prog 9 #[.slice (some ⟨g2, p2, none⟩) (O.length + 1) c2, .slice (some ⟨g9, 0, none⟩) (O.length + 1) cp, .bool false] w9 (RetBel (.bool true) w9)) := Lib.hid (by
          have ho9 : RowL w9 (.slice (some ⟨g9, 0, none⟩) (O.length + 1) cp) (O ++ [(5, 0, ⟨#[]⟩)]) := own_rowX (by rw [List.length_append, lxCells_snoc]; exact HOWN9.out)
          have hr9' := hr9
          rw [show q + 1 = O.length + 1 from by omega] at hr9'
          have := rsame_c _ _ _ _ false w9 hr9' ho9 (by rw [List.length_map]; omega) (by simp; omega)
          rwa [HGS.out] at this)
        have hg9 : g2 < w9.heap.size := by simp at hb10; omega
        clear hblk hr9 hcell9
        refine HSM.out.mono ?_
        rintro e w10 ⟨rfl, b10⟩
        go_wp2_with fail
        have hqO : q = O.length := hgl
        have HQO := Lib.hid hqO
        have HML := Lib.hid hMl
        have hb10 : Bel w w10 := hb9.trans b10
        have HB10 := Lib.hid hb10
        have hO : O.length ≤ 100 := by omega
        have hk3 : O.length + 1 ≤ c2 := by omega
        clear hgl hqO hMl hqb hb10 hk2
        go_loopw [12, 83] (fun a i wx => ∃ r : Nat, r ≤ O.length + 1 ∧ i = .int .i64 r ∧ a = .int .i64 (lastP M r) ∧ Bel w10 wx) (fun _ i _ => O.length + 1 - (intOf i).toNat)
        case atStart => exact ⟨0, Nat.zero_le _, rfl, rfl, Bel.refl _⟩
        case round =>
          obtain ⟨r, hr, rfl, rfl, hbx⟩ := hrel
          by_cases hrl : r < O.length + 1
          · have hrli : (r : Int) < (O.length : Int) + 1 := by omega
            obtain ⟨x, hx⟩ : ∃ x, M[r]? = some x := ⟨_, List.getElem?_eq_getElem (by have := HML.out; have := HQO.out; omega)⟩
            obtain ⟨y1, _, y3⟩ := HRI.out r x hx
            obtain ⟨g0, g1, g3⟩ := HC2.out r (toLx x) (by rw [List.getElem?_map, hx]; rfl)
            have hnx := lastP_next M r x hx
            have HNX := Lib.hid hnx
            have g0 := hbx.keep (b10.keep ((HCE.out _).trans g0))
            have g1 := hbx.keep (b10.keep ((HCE.out _).trans g1))
            have g3 := hbx.keep (b10.keep ((HCE.out _).trans g3))
            have hkk : r < c2 := by omega
            obtain ⟨x1, x2, x3⟩ := x
            simp only [toLx] at g0 g1 g3
            simp only at y1 y3
            obtain ⟨L, hL⟩ : ∃ L, lastP M r = L := ⟨_, rfl⟩
            rw [hL] at y1 ⊢
            have y1d : decide ((x2 : Int) ≤ L) = false := decide_eq_false (by omega)
            clear hx hnx hL
            go_wp2_with fail
            refine ⟨⟨r + 1, hrl, by go_num, by rw [HNX.out], by (repeat (first | exact Bel.refl _ | assumption | refine Bel.to_drewN ?_ _ | refine Bel.to_drew ?_ | refine Bel.to_setCell ?_ (by first | exact Nat.le_refl _ | (simp; done) | (simp; omega) | omega) _ | refine Bel.to_alloc ?_ _ | refine Bel.trans ?_ (by assumption)))⟩, by simp [intOf]; omega⟩
          · obtain rfl : r = O.length + 1 := by omega
            obtain ⟨x, hx⟩ : ∃ x, M[O.length]? = some x := ⟨_, List.getElem?_eq_getElem (by have := HML.out; have := HQO.out; omega)⟩
            have hfin : lastP M (O.length + 1) = (S.size : Int) := by rw [lastP_next M _ x hx, (HRI.out _ x hx).2.1 HQO.out]
            rw [hfin]
            clear hfin hx
            go_wp2_with fail
            go_ret
            exact ⟨rfl, HB10.out.trans hbx⟩
  · have h100i : (100 : Int) < n := by omega
    go_enter Tryd.func6, Tryd.ntmps6
    go_wp2_with fail
    refine (HAL.out _ (Bel.refl _)).mono ?_
    rintro e w1 ⟨rfl, b1⟩
    go_wp2_with fail
    refine (HAL.out _ b1).mono ?_
    rintro e w2 ⟨rfl, b2⟩
    go_wp2_with fail
    go_ret
    exact ⟨rfl, b1.trans b2⟩
end Go.Proofs.YtjnaikojoemkaaaDoor
