/-
  feellex: the law FeellexJoins is true.
-/
import Derived.Test.YtjnaikojoemkaaaDoorMI
import Derived.Test.YtjnaikojoemkaaaDoorMJ
namespace Go.Proofs.YtjnaikojoemkaaaDoor
open Go.RowKit

def shT (k : Nat) (x : Tok) : Tok := (x.1, k + x.2.1, x.2.2)
theorem toks_place (s : ByteArray) (pos : Nat) (l : List Tok) (h : Toks s pos l) : ∀ x ∈ l, x.2.1 < s.size := by
  induction h with
  | done => intro x hx; cases hx
  | blank _ _ _ _ _ ih => exact ih
  | tok pos l hp _ _ _ ih =>
    intro x hx
    rcases List.mem_cons.1 hx with rfl | hx
    · exact hp
    · exact ih x hx
/-- What the law asks, on plain lists. -/
theorem joins_plain (s t : ByteArray) (he : (lexS s).2.2 = 0) (hf : (lexS t).2.2 = 0) :
    ∃ la, (lexS s).1 = la ++ [(5, s.size, ⟨#[]⟩)] ∧ (∀ x ∈ (lexS t).1, x.2.1 ≤ t.size) ∧
      (lexS (s ++ ⟨#[32]⟩ ++ t)).1 = la ++ (lexS t).1.map (shT (s.size + 1)) ∧ (lexS (s ++ ⟨#[32]⟩ ++ t)).2.2 = 0 := by
  obtain ⟨h1, la, h2, h3⟩ := toks_ok s he
  obtain ⟨h4, lb, h5, h6⟩ := toks_ok t hf
  obtain ⟨h7, h8⟩ := toks_join s t la lb h1 h4 h2 h5
  have h9 := toks_lexS _ h7 _ h8
  have hsz : (s ++ (⟨#[32]⟩ ++ t)).size = s.size + 1 + t.size := by rw [ByteArray.size_append, ByteArray.size_append, Nat.add_assoc]; rfl
  refine ⟨la, by rw [h3], ?_, ?_, ?_⟩
  · rw [h6]
    intro x hx
    rcases List.mem_append.1 hx with hx | hx
    · exact Nat.le_of_lt (toks_place t 0 lb h5 x hx)
    · rw [List.mem_singleton.1 hx]; exact Nat.le_refl _
  · rw [ByteArray.append_assoc, h9, h6, hsz]
    simp [shiftT, shT]
  · rw [ByteArray.append_assoc, h9]

theorem keep_add {a b : World} (hb : Bel a b) {g p j : Nat} {v : Value} (h : a.cell? ((⟨g, p, none⟩ : Addr).add j) = some v) : b.cell? ((⟨g, p, none⟩ : Addr).add j) = some v := by
  rw [show (⟨g, p, none⟩ : Addr).add j = ⟨g, p + j, none⟩ from by unfold Addr.add; split <;> simp_all] at h ⊢
  exact hb.keep h
theorem lexCells_one (l : List Tok) : ∀ u ∈ lexCells l, u.oneCell' = true := by
  intro u hu
  obtain ⟨x, _, hx⟩ := List.mem_flatMap.1 hu
  simp only [List.mem_cons, List.not_mem_nil, or_false] at hx
  rcases hx with rfl | rfl | rfl <;> rfl
theorem row_cells (la : List Tok) (W : World) (g p : Nat) (h : ∀ (j : Nat) (x : Tok), la[j]? = some x → W.cell? ⟨g, p + j * 3, none⟩ = some (.int .i64 x.1) ∧ W.cell? ⟨g, p + j * 3 + 1, none⟩ = some (.int .i64 x.2.1) ∧ W.cell? ⟨g, p + j * 3 + 2, none⟩ = some (.string x.2.2)) :
    ∀ j u, (lexCells la)[j]? = some u → W.cell? ((⟨g, p, none⟩ : Addr).add j) = some u := by
  intro j u hu
  rw [show (⟨g, p, none⟩ : Addr).add j = ⟨g, p + j, none⟩ from by unfold Addr.add; split <;> simp_all]
  have hj : j < la.length * 3 := by
    have := (List.getElem?_eq_some_iff.1 hu).1
    rw [lexCells_length] at this
    omega
  have hx : la[j / 3]? = some la[j / 3] := List.getElem?_eq_getElem (by omega)
  obtain ⟨h0, h1, h2⟩ := h (j / 3) _ hx
  obtain ⟨c0, c1, c2⟩ := lexCells_at la (j / 3) _ hx
  have hm : j % 3 = 0 ∨ j % 3 = 1 ∨ j % 3 = 2 := by omega
  rcases hm with hm | hm | hm
  · rw [show j / 3 * 3 = j from by omega] at c0
    rw [show p + j / 3 * 3 = p + j from by omega] at h0
    rw [c0] at hu; rw [h0, ← hu]
  · rw [show j / 3 * 3 + 1 = j from by omega] at c1
    rw [show p + j / 3 * 3 + 1 = p + j from by omega] at h1
    rw [c1] at hu; rw [h1, ← hu]
  · rw [show j / 3 * 3 + 2 = j from by omega] at c2
    rw [show p + j / 3 * 3 + 2 = p + j from by omega] at h2
    rw [c2] at hu; rw [h2, ← hu]

set_option maxRecDepth 100000 in
set_option maxHeartbeats 8000000 in
theorem joins_c {w : World} (s : ByteArray) (hs : s.size ≤ maxLen) (t : ByteArray) (ht : t.size ≤ maxLen) (hE : Env w ∧ SignsAt w) :
    Calls Tryd.prog 3 #[.string s, .string t] w (RetBel (.bool true) w) := by
  unfold maxLen at hs ht
  obtain ⟨hE, hw⟩ := hE
  have HAL : Hid (∀ w1, Bel w w1 → Calls Tryd.prog 7 #[] w1 (RetBel (.bool true) w1)) := Lib.hid fun w1 hb => alive_c w1 (hE.bel hb) (signs_bel hw hb)
  have hlx : ∀ x : ByteArray, x.size ≤ 4294967280 → ∀ w1, Bel w w1 → Calls Tryd.prog 8 #[.string x] w1 (RetLex (lexS x) w1) := fun x hx w1 hb => lex_c x hx w1 (hE.bel hb) (signs_bel hw hb)
  clear hE hw
  by_cases h8 : s.size ≤ 800
  · have h8i : (s.size : Int) ≤ 800 := by omega
    have h8d : decide ((800 : Int) < s.size) = false := decide_eq_false (by omega)
    by_cases h9 : t.size ≤ 800
    · have h9i : (t.size : Int) ≤ 800 := by omega
      have h9d : decide ((800 : Int) < t.size) = false := decide_eq_false (by omega)
      have HL1 := Lib.hid (hlx s (by omega))
      have HL2 := Lib.hid (hlx t (by omega))
      have hus : (s ++ ⟨#[32]⟩ ++ t).size = s.size + 1 + t.size := by rw [ByteArray.size_append, ByteArray.size_append]; rfl
      have HL3 := Lib.hid (hlx (s ++ ⟨#[32]⟩ ++ t) (by omega))
      have hjp := joins_plain s t
      have hn1 := lexS_len s
      have hn2 := lexS_len t
      have hn3 := lexS_len (s ++ ⟨#[32]⟩ ++ t)
      rw [hus] at hn3
      obtain ⟨⟨A, A2, A3⟩, hA⟩ : ∃ R, lexS s = R := ⟨_, rfl⟩
      obtain ⟨⟨B, B2, B3⟩, hB⟩ : ∃ R, lexS t = R := ⟨_, rfl⟩
      obtain ⟨⟨C, C2, C3⟩, hC⟩ : ∃ R, lexS (s ++ ⟨#[32]⟩ ++ t) = R := ⟨_, rfl⟩
      rw [hA] at hjp HL1 hn1
      rw [hB] at hjp HL2 hn2
      rw [hC] at hjp HL3 hn3
      simp only at hjp hn1 hn2 hn3
      clear hlx hA hB hC
      by_cases hA0 : A3 = 0
      · subst hA0
        by_cases hB0 : B3 = 0
        · subst hB0
          obtain ⟨la, rfl, hpl, rfl, rfl⟩ := hjp rfl rfl
          have f10 : (s ++ (⟨#[32]⟩ : ByteArray)).size ≤ maxLen := by rw [ByteArray.size_append]; unfold maxLen; show s.size + 1 ≤ _; omega
          have f11 : (s ++ (⟨#[32]⟩ : ByteArray) ++ t).size ≤ maxLen := by rw [hus]; unfold maxLen; omega
          have HPL := Lib.hid hpl
          have hla : la.length ≤ 801 := by rw [List.length_append] at hn1; simp at hn1; omega
          clear hjp hpl
          go_enter Tryd.func3, Tryd.ntmps3
          go_wp2_with fail
          refine (HL1.out _ (Bel.refl _)).mono ?_
          rintro e w1 ⟨b1, v1, rfl, o1⟩
          go_wp2_with fail
          refine (HL2.out _ b1).mono ?_
          rintro e w2 ⟨b2, v2, rfl, o2⟩
          obtain ⟨a1, c1, hv1, hr1⟩ := rowL_form (own_rowL o1)
          rw [List.length_map, List.length_append] at hv1
          rcases hr1 with hr1 | ⟨g1, p1, rfl, hk1, hl1, hc1⟩
          · have := congrArg List.length hr1; simp at this
          subst hv1
          have hk1' : la.length + 1 ≤ c1 := by rw [List.length_map, List.length_append] at hk1; exact hk1
          have HB1 := Lib.hid hc1
          obtain ⟨a2, c2, hv2, hr2⟩ := rowL_form (own_rowL o2)
          rw [List.length_map] at hv2
          subst hv2
          obtain ⟨nb, hnb⟩ : ∃ nb, B.length = nb := ⟨_, rfl⟩
          rw [hnb] at hn2
          simp only [hnb]
          have HNB := Lib.hid hnb
          have HR2 := Lib.hid hr2
          clear o1 o2 hc1 hk1 hr2 hnb
          have hl0 : 0 < la.length + 1 := by omega
          go_wp2_with fail
          refine (HL3.out _ (b1.trans b2)).mono ?_
          rintro e w3 ⟨b3, v3, rfl, o3⟩
          have HO3 := Lib.hid (own_rowL o3)
          clear o3
          have hcells : ∀ j u, (lexCells la)[j]? = some u → w2.cell? ((⟨g1, p1, none⟩ : Addr).add j) = some u := row_cells la w2 g1 p1 (fun j x hx => by
            obtain ⟨h1, h2, h3⟩ := HB1.out j (toLx x) (by rw [List.map_append, List.getElem?_append_left (by rw [List.length_map]; exact (List.getElem?_eq_some_iff.1 hx).1), List.getElem?_map, hx]; rfl)
            exact ⟨b2.keep h1, b2.keep h2, b2.keep h3⟩)
          have HCE := Lib.hid hcells
          clear hcells
          have hb03 := (b1.trans b2).trans b3
          go_wp2_with (at_builtin; refine wpL_appendM rfl _ _ 23 rfl w3 28 (.agg #[.int .i64 0, .int .i64 0, .string ⟨#[]⟩]) 3 32 Tryd.underlying23 info_lex rfl (by decide) (by decide) _ 0 [] rfl (World.ownsRow_made w3 #[] 0 (Nat.le_refl _) (by decide) rfl) ⟨g1, p1, none⟩ la.length _ (lexCells la) rfl (by rw [lexCells_length]; omega) (fun j u h => keep_add (b3.trans (Bel.alloc _ _)) (HCE.out j u h)) (lexCells_one la) (by omega) (Bel.alloc _ _) ?_; intro v4 w4 ho4 hb4 hsz4; have HO4 := Lib.hid ho4; clear ho4)
          go_loopw [14, 76] (fun v i wr => ∃ j : Nat, j ≤ nb ∧ i = .int .i64 j ∧ Bel w3 wr ∧ wr.ownsRow w3.heap.size 28 3 v (la.length + j) (lexCells (la ++ (B.take j).map (shT (s.size + 1))))) (fun _ i _ => nb - (intOf i).toNat)
          case atStart => exact ⟨0, Nat.zero_le _, rfl, hb4, by have := HO4.out; simpa using this⟩
          case round =>
            obtain ⟨j, hj, rfl, hbel, hown⟩ := hrel
            have HOW := Lib.hid hown
            clear hown
            by_cases hlt : j < nb
            · have hlti : (j : Int) < nb := by omega
              obtain ⟨x, hx⟩ : ∃ x, B[j]? = some x := ⟨_, List.getElem?_eq_getElem (by have := HNB.out; omega)⟩
              have hxl := HPL.out x (List.mem_of_getElem? hx)
              rcases HR2.out with h0 | ⟨g2, p2, rfl, hk2, hl2, hc2⟩
              · have := congrArg List.length h0; rw [List.length_map, HNB.out] at this; simp at this; omega
              obtain ⟨f0, f1, f2⟩ := hc2 j (toLx x) (by rw [List.getElem?_map, hx]; rfl)
              have f0 := hbel.keep (b3.keep f0)
              have f1 := hbel.keep (b3.keep f1)
              have f2 := hbel.keep (b3.keep f2)
              rw [List.length_map, HNB.out] at hk2
              have HX : Hid ((B.take (j + 1)).map (shT (s.size + 1)) = (B.take j).map (shT (s.size + 1)) ++ [shT (s.size + 1) x]) := Lib.hid (by rw [List.take_add_one, hx]; simp)
              obtain ⟨x1, x2, x3⟩ := x
              simp only [toLx] at f0 f1 f2
              simp only at hxl
              have hx2 : (x2 : Int) ≤ 801 := by omega
              clear hc2 hx
              go_wp2_with (at_builtin; refine wpL_append1 rfl _ _ 23 rfl w3 28 (.agg #[.int .i64 0, .int .i64 0, .string ⟨#[]⟩]) 3 32 Tryd.underlying23 info_lex rfl (by decide) (by decide) _ (la.length + j) _ rfl ((HOW.out.alloc _).alloc _) ⟨wr.heap.size + 1, 0, none⟩ 1 [.int .i64 x1, .int .i64 ((x2 : Int) + (s.size + 1)), .string x3] rfl rfl (cells3_new _ _ _ _ _ _) (by simp [Value.oneCell']) (by omega) ((hbel.to_alloc _).to_alloc _) ?_; intro g5 cp w5 hown5 hb5 hb6; have HOWN5 := Lib.hid hown5; clear hown5)
              refine ⟨⟨j + 1, by omega, by go_num, hb5, ?_⟩, by simp [intOf]; omega⟩
              rw [HX.out, ← List.append_assoc, lexCells_snoc, show ((shT (s.size + 1) (x1, x2, x3)).2.1 : Int) = (x2 : Int) + (s.size + 1) from by simp [shT]; omega]
              exact HOWN5.out
            · obtain rfl : j = nb := by omega
              have hown := HOW.out
              rw [List.take_of_length_le (by rw [HNB.out]; exact Nat.le_refl _)] at hown
              have HSM : Hid (∀ w9, Bel wr w9 → ∃ v5, v5 = v3 ∧ True) := Lib.hid fun _ _ => ⟨v3, rfl, trivial⟩
              have hlen : (la ++ B.map (shT (s.size + 1))).length = la.length + j := by rw [List.length_append, List.length_map, HNB.out]
              rw [← hlen] at hown
              have HSA : Hid (∀ w9, Bel wr w9 → Calls Tryd.prog 9 #[v3, u14, .bool true] w9 (RetBel (.bool true) w9)) := Lib.hid fun w9 hb9 => by
                have := rsame_c v3 u14 _ _ true w9 ((HO3.out.bel hbel).bel hb9) ((own_rowL hown).bel hb9) (by rw [List.length_map, hlen]; omega) (by rw [List.length_map, hlen]; omega)
                rwa [sameL_refl] at this
              clear hown HSM
              go_wp2_with fail
              refine (HAL.out _ (hb03.trans hbel)).mono ?_
              rintro e w6 ⟨rfl, hb6⟩
              go_wp2_with fail
              refine (HSA.out _ hb6).mono ?_
              rintro e w7 ⟨rfl, hb7⟩
              go_wp2_with fail
              go_ret
              exact ⟨rfl, ((hb03.trans hbel).trans hb6).trans hb7⟩
        · have hB1 : ((B3 : Int) != 0) = true := by simp [hB0]
          have hB2 : ((B3 : Int) == 0) = false := by simp [hB0]
          clear hjp hB0
          go_enter Tryd.func3, Tryd.ntmps3
          go_wp2_with fail
          refine (HL1.out _ (Bel.refl _)).mono ?_
          rintro e w1 ⟨b1, v1, rfl, o1⟩
          go_wp2_with fail
          refine (HL2.out _ b1).mono ?_
          rintro e w2 ⟨b2, v2, rfl, o2⟩
          clear o1 o2
          go_wp2_with fail
          refine (HAL.out _ (b1.trans b2)).mono ?_
          rintro e w6 ⟨rfl, hb6⟩
          go_wp2_with fail
          go_ret
          exact ⟨rfl, (b1.trans b2).trans hb6⟩
      · have hA1 : ((A3 : Int) != 0) = true := by simp [hA0]
        have hA2 : ((A3 : Int) == 0) = false := by simp [hA0]
        clear hjp hA0
        go_enter Tryd.func3, Tryd.ntmps3
        go_wp2_with fail
        refine (HL1.out _ (Bel.refl _)).mono ?_
        rintro e w1 ⟨b1, v1, rfl, o1⟩
        go_wp2_with fail
        refine (HL2.out _ b1).mono ?_
        rintro e w2 ⟨b2, v2, rfl, o2⟩
        clear o1 o2
        go_wp2_with fail
        refine (HAL.out _ (b1.trans b2)).mono ?_
        rintro e w6 ⟨rfl, hb6⟩
        go_wp2_with fail
        go_ret
        exact ⟨rfl, (b1.trans b2).trans hb6⟩
    · have h9i : (800 : Int) < t.size := by omega
      clear hlx
      go_enter Tryd.func3, Tryd.ntmps3
      go_wp2_with fail
      refine (HAL.out _ (Bel.refl _)).mono ?_
      rintro e w3 ⟨rfl, b3⟩
      go_wp2_with fail
      go_ret
      exact ⟨rfl, b3⟩
  · have h8i : (800 : Int) < s.size := by omega
    clear hlx
    go_enter Tryd.func3, Tryd.ntmps3
    go_wp2_with fail
    refine (HAL.out _ (Bel.refl _)).mono ?_
    rintro e w3 ⟨rfl, b3⟩
    go_wp2_with fail
    go_ret
    exact ⟨rfl, b3⟩
end Go.Proofs.YtjnaikojoemkaaaDoor
