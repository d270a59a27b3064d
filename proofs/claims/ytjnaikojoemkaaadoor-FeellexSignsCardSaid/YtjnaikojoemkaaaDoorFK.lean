/-
  feellex: the walk of one.
-/
import Derived.Test.YtjnaikojoemkaaaDoorFJ
import Derived.Test.YtjnaikojoemkaaaDoorN
namespace Go.Proofs.YtjnaikojoemkaaaDoor
open Go.RowKit

/-- The token that a text begins with, how many bytes it has, what is wrong. -/
def oneS (s : ByteArray) : (Int × ByteArray) × Nat × Nat :=
  if wordN s ≠ 0 then ((if isKw (s.extract 0 (wordN s)) = true then 1 else 0, s.extract 0 (wordN s)), wordN s, 0)
  else if numN s ≠ 0 then ((2, s.extract 0 (numN s)), numN s, 0)
  else if s.get! 0 = 34 then ((3, (textS s).1), (textS s).2.1, (textS s).2.2)
  else if (signS s).size = 0 then ((0, ⟨#[]⟩), 0, 11)
  else ((4, signS s), (signS s).size, 0)
def lexV (k a : Int) (s : ByteArray) : Value := .agg #[.int .i64 k, .int .i64 a, .string s]
theorem wordF_le (s : ByteArray) : ∀ b pos, pos ≤ s.size → wordF s b pos ≤ s.size
  | 0, pos, h => h
  | b + 1, pos, h => by
    unfold wordF
    split
    · rename_i hp
      split
      · exact wordF_le s b _ (decode_fits s pos hp)
      · exact h
    · exact h
theorem numN_le (s : ByteArray) : numN s ≤ s.size := by
  unfold numN
  split
  · rename_i h
    have h1 := hasPrefix_one _ _ h.1
    have h2 := digN_le (s.extract (digN s + 1) s.size)
    simp at h1 h2
    omega
  · exact digN_le s
theorem results_cell3 {P : Program} {fn : Func} {p u v : Tmp} {ty : TypeId} (h : fn.results = #[.cell p ty, .tmp u, .tmp v]) (tmps : Array Value) (w : World) (g : Nat) (x : Value)
    (hp : tmps.getD p undef = .pointer (some ⟨g, 0, none⟩)) (hl : (loadVar ty ⟨g, 0, none⟩).run P w = .ok x w) : (results fn tmps).run P w = .ok (.tuple #[x, tmps.getD u undef, tmps.getD v undef]) w := by
  have hp' : tmps[p]?.getD undef = .pointer (some ⟨g, 0, none⟩) := by simpa using hp
  simp [results, h, hp', asAddr, hl, Result.andThen]
theorem load_lex (w : World) (g : Nat) (k a : Int) (s : ByteArray) (h0 : w.cell? ⟨g, 0, none⟩ = some (.int .i64 k)) (h1 : w.cell? ⟨g, 1, none⟩ = some (.int .i64 a)) (h2 : w.cell? ⟨g, 2, none⟩ = some (.string s)) :
    (loadVar 28 ⟨g, 0, none⟩).run Tryd.prog w = .ok (lexV k a s) w := by
  refine run_loadVar_mid w g 0 28 [.int .i64 k, .int .i64 a, .string s] _ (fun j v hv => ?_) Tryd.underlying28 rfl (by kernel_rfl)
  match j, hv with
  | 0, hv => cases hv; exact h0
  | 1, hv => cases hv; exact h1
  | 2, hv => cases hv; exact h2

theorem signs_bel {w w' : World} (h : SignsAt w) (hb : Bel w w') : SignsAt w' := fun j v hv => by
  have h1 := h j v hv
  rw [(bcell hb).1 _ _ (cell_lt h1)]
  exact h1
/-- The result's block: it can be written; what is written is what it reads as. -/
theorem lex_fin (w W : World) (k : Int) (x : ByteArray) (hb : Bel (w.alloc (.cells #[.int .i64 0, .int .i64 0, .string ⟨#[]⟩] 28)) W) :
    W.there w.heap.size 0 3 ∧ (loadVar 28 ⟨w.heap.size, 0, none⟩).run Tryd.prog (W.setCells w.heap.size 0 [.int .i64 k, .int .i64 0, .string x]) = .ok (lexV k 0 x) (W.setCells w.heap.size 0 [.int .i64 k, .int .i64 0, .string x]) ∧ Bel w (W.setCells w.heap.size 0 [.int .i64 k, .int .i64 0, .string x]) := by
  have ht : W.there w.heap.size 0 3 := by
    have h0 : W.heap[w.heap.size]? = some (.cells #[.int .i64 0, .int .i64 0, .string ⟨#[]⟩] 28 (0, 0)) := (hb.block (by simp)).trans (World.alloc_heap_new _ _)
    intro j hj
    constructor
    · simp only [World.cell?, h0, Nat.zero_add]
      match j, hj with
      | 0, _ => rfl
      | 1, _ => rfl
      | 2, _ => rfl
    · simp [World.frozen?, h0]
  refine ⟨ht, ?_, ?_⟩
  · exact run_loadVar_mid _ w.heap.size 0 28 [.int .i64 k, .int .i64 0, .string x] _ (World.rangeAt_setCells_same W _ _ _ ht) Tryd.underlying28 rfl (by kernel_rfl)
  · exact Bel.to_setCell (Bel.to_setCell (Bel.to_setCell ((Bel.alloc w _).trans hb) (p := ⟨w.heap.size, 0, none⟩) (Nat.le_refl _) _) (p := ⟨w.heap.size, 1, none⟩) (Nat.le_refl _) _) (p := ⟨w.heap.size, 2, none⟩) (Nat.le_refl _) _

theorem lex_facts (w W : World) (hb : Bel (w.alloc (.cells #[.int .i64 0, .int .i64 0, .string ⟨#[]⟩] 28)) W) :
    W.cell? ⟨w.heap.size, 0, none⟩ = some (.int .i64 0) ∧ W.cell? ⟨w.heap.size, 1, none⟩ = some (.int .i64 0) ∧ W.cell? ⟨w.heap.size, 2, none⟩ = some (.string ⟨#[]⟩) ∧ (∀ o, W.frozen? ⟨w.heap.size, o, none⟩ = false) := by
  have h0 : W.heap[w.heap.size]? = some (.cells #[.int .i64 0, .int .i64 0, .string ⟨#[]⟩] 28 (0, 0)) := (hb.block (by simp)).trans (World.alloc_heap_new _ _)
  exact ⟨by simp [World.cell?, h0], by simp [World.cell?, h0], by simp [World.cell?, h0], fun o => by simp [World.frozen?, h0]⟩

set_option maxRecDepth 100000 in
set_option maxHeartbeats 4000000 in
theorem one_c (s : ByteArray) (hs : s.size ≤ 4294967280) (h1 : 1 ≤ s.size) (w : World) (hw : SignsAt w) :
    Calls Tryd.prog 14 #[.string s] w fun e w' => e = .returned (.tuple #[lexV (oneS s).1.1 0 (oneS s).1.2, .int .i64 (oneS s).2.1, .int .i64 (oneS s).2.2]) ∧ Bel w w' := by
  obtain ⟨⟨⟨R0, R1⟩, R2, R3⟩, hR⟩ : ∃ R, oneS s = R := ⟨_, rfl⟩
  rw [hR]
  unfold oneS at hR
  have hwd := fun w1 => word_f s hs w1
  have hle : wordN s ≤ s.size := wordF_le s _ 0 (Nat.zero_le _)
  obtain ⟨n, hn⟩ : ∃ n, wordN s = n := ⟨_, rfl⟩
  rw [hn] at hwd hle hR
  have hxs : (s.extract 0 n).size = n := by simp; omega
  have hxe := isEmpty_size _ _ hxs
  have hkw := fun w1 => keyword_c (s.extract 0 n) (by omega) w1
  obtain ⟨x, hx⟩ : ∃ x, s.extract 0 n = x := ⟨_, rfl⟩
  rw [hx] at hwd hxs hxe hkw hR
  have HWD := Lib.hid hwd
  have HKW := Lib.hid hkw
  clear hwd hkw hn hx
  by_cases h0 : n = 0
  · subst h0
    rw [if_neg (by simp)] at hR
    rw [decide_eq_true rfl] at hxe
    have hnu := fun w1 => number_c s hs w1
    have hml := numN_le s
    obtain ⟨m, hm⟩ : ∃ m, numN s = m := ⟨_, rfl⟩
    rw [hm] at hnu hml hR
    have hys : (s.extract 0 m).size = m := by simp; omega
    have hye := isEmpty_size _ _ hys
    obtain ⟨y, hy⟩ : ∃ y, s.extract 0 m = y := ⟨_, rfl⟩
    rw [hy] at hnu hys hye hR
    have HNU := Lib.hid hnu
    clear hnu hm hy
    by_cases hm0 : m = 0
    · subst hm0
      rw [if_neg (by simp)] at hR
      rw [decide_eq_true rfl] at hye
      obtain ⟨c, hc⟩ : ∃ c, s.get! 0 = c := ⟨_, rfl⟩
      have hx2 : s[0]'h1 = c := by rw [← hc]; exact (get_at s 0 h1).symm
      rw [hc] at hR
      clear hc
      by_cases h34 : c = 34
      · have e34 : ((c.toNat : Int) == 34) = true := by rw [h34]; rfl
        rw [if_pos h34] at hR
        have htx := fun w1 => text_c s hs h1 w1
        obtain ⟨⟨T1, T2, T3⟩, hT⟩ : ∃ T, textS s = T := ⟨_, rfl⟩
        rw [hT] at htx hR
        have HTX := Lib.hid htx
        have HR := Lib.hid hR
        clear htx hR hT h34
        go_enter Tryd.func14, Tryd.ntmps14
        go_wp2_with fail
        refine (HWD.out _).mono ?_
        rintro e w1 ⟨rfl, hb1⟩
        go_wp2_with fail
        refine (HNU.out _).mono ?_
        rintro e w2 ⟨rfl, hb2⟩
        go_wp2_with fail
        refine (HTX.out _).mono ?_
        rintro e w3 ⟨rfl, hb3⟩
        have FIN := Lib.hid (lex_fin w w3 3 T1 ((hb1.trans hb2).trans hb3))
        obtain ⟨f0, f1, f2, f3⟩ := lex_facts w w3 ((hb1.trans hb2).trans hb3)
        go_wp2_with fail
        have := HR.out
        injection this with e1 e2
        injection e1 with e1 e3
        injection e2 with e2 e4
        subst e1 e2 e3 e4
        refine bodyPost_ret (results_cell3 rfl _ _ w.heap.size _ rfl FIN.out.2.1) rfl ?_
        exact ⟨rfl, FIN.out.2.2⟩
      · have e34 : ((c.toNat : Int) == 34) = false := by
          simp only [beq_eq_false_iff_ne, ne_eq]
          intro h
          exact h34 (UInt8.toNat_inj.1 (by rw [show (34 : UInt8).toNat = 34 from rfl]; omega))
        rw [if_neg h34] at hR
        have hsg := fun w1 (hb : Bel w w1) => sign_c s w1 (signs_bel hw hb)
        obtain ⟨z, hz⟩ : ∃ z, signS s = z := ⟨_, rfl⟩
        rw [hz] at hsg hR
        have HSG := Lib.hid hsg
        clear hsg hz h34
        have hze := isEmpty_size z _ rfl
        by_cases hz0 : z.size = 0
        · rw [decide_eq_true hz0] at hze
          rw [if_pos hz0] at hR
          have HR := Lib.hid hR
          clear hR hz0
          go_enter Tryd.func14, Tryd.ntmps14
          go_wp2_with fail
          refine (HWD.out _).mono ?_
          rintro e w1 ⟨rfl, hb1⟩
          go_wp2_with fail
          refine (HNU.out _).mono ?_
          rintro e w2 ⟨rfl, hb2⟩
          go_wp2_with fail
          refine (HSG.out _ (((Bel.alloc _ _).trans hb1).trans hb2)).mono ?_
          rintro e w3 ⟨rfl, rfl⟩
          have FIN := Lib.hid (lex_fin w w2 0 ⟨#[]⟩ (hb1.trans hb2))
          obtain ⟨f0, f1, f2, f3⟩ := lex_facts w w2 (hb1.trans hb2)
          go_wp2_with fail
          have := HR.out
          injection this with e1 e2
          injection e1 with e1 e3
          injection e2 with e2 e4
          subst e1 e2 e3 e4
          refine bodyPost_ret (results_cell3 rfl _ _ w.heap.size _ rfl FIN.out.2.1) rfl ?_
          exact ⟨rfl, FIN.out.2.2⟩
        · rw [decide_eq_false hz0] at hze
          rw [if_neg hz0] at hR
          have HR := Lib.hid hR
          clear hR hz0
          go_enter Tryd.func14, Tryd.ntmps14
          go_wp2_with fail
          refine (HWD.out _).mono ?_
          rintro e w1 ⟨rfl, hb1⟩
          go_wp2_with fail
          refine (HNU.out _).mono ?_
          rintro e w2 ⟨rfl, hb2⟩
          go_wp2_with fail
          refine (HSG.out _ (((Bel.alloc _ _).trans hb1).trans hb2)).mono ?_
          rintro e w3 ⟨rfl, rfl⟩
          have FIN := Lib.hid (lex_fin w w2 4 z (hb1.trans hb2))
          obtain ⟨f0, f1, f2, f3⟩ := lex_facts w w2 (hb1.trans hb2)
          go_wp2_with fail
          have := HR.out
          injection this with e1 e2
          injection e1 with e1 e3
          injection e2 with e2 e4
          subst e1 e2 e3 e4
          refine bodyPost_ret (results_cell3 rfl _ _ w.heap.size _ rfl FIN.out.2.1) rfl ?_
          exact ⟨rfl, FIN.out.2.2⟩
    · rw [if_pos hm0] at hR
      rw [decide_eq_false hm0] at hye
      have HR := Lib.hid hR
      clear hR
      go_enter Tryd.func14, Tryd.ntmps14
      go_wp2_with fail
      refine (HWD.out _).mono ?_
      rintro e w1 ⟨rfl, hb1⟩
      go_wp2_with fail
      refine (HNU.out _).mono ?_
      rintro e w2 ⟨rfl, hb2⟩
      have FIN := Lib.hid (lex_fin w w2 2 y (hb1.trans hb2))
      obtain ⟨f0, f1, f2, f3⟩ := lex_facts w w2 (hb1.trans hb2)
      go_wp2_with fail
      have := HR.out
      injection this with e1 e2
      injection e1 with e1 e3
      injection e2 with e2 e4
      subst e1 e2 e3 e4
      refine bodyPost_ret (results_cell3 rfl _ _ w.heap.size _ rfl FIN.out.2.1) rfl ?_
      exact ⟨rfl, FIN.out.2.2⟩
  · rw [decide_eq_false h0] at hxe
    rw [if_pos h0] at hR
    obtain ⟨K, hK⟩ : ∃ K, isKw x = K := ⟨_, rfl⟩
    rw [hK] at HKW hR
    have HR := Lib.hid hR
    clear hR hK
    cases K
    · go_enter Tryd.func14, Tryd.ntmps14
      go_wp2_with fail
      refine (HWD.out _).mono ?_
      rintro e w1 ⟨rfl, hb1⟩
      go_wp2_with fail
      refine (HKW.out _).mono ?_
      rintro e w2 ⟨rfl, hb2⟩
      have FIN := Lib.hid (lex_fin w w2 0 x (hb1.trans hb2))
      obtain ⟨f0, f1, f2, f3⟩ := lex_facts w w2 (hb1.trans hb2)
      go_wp2_with fail
      have := HR.out
      injection this with e1 e2
      injection e1 with e1 e3
      injection e2 with e2 e4
      subst e1 e2 e3 e4
      refine bodyPost_ret (results_cell3 rfl _ _ w.heap.size _ rfl FIN.out.2.1) rfl ?_
      exact ⟨rfl, FIN.out.2.2⟩
    · go_enter Tryd.func14, Tryd.ntmps14
      go_wp2_with fail
      refine (HWD.out _).mono ?_
      rintro e w1 ⟨rfl, hb1⟩
      go_wp2_with fail
      refine (HKW.out _).mono ?_
      rintro e w2 ⟨rfl, hb2⟩
      have FIN := Lib.hid (lex_fin w w2 1 x (hb1.trans hb2))
      obtain ⟨f0, f1, f2, f3⟩ := lex_facts w w2 (hb1.trans hb2)
      go_wp2_with fail
      have := HR.out
      injection this with e1 e2
      injection e1 with e1 e3
      injection e2 with e2 e4
      subst e1 e2 e3 e4
      refine bodyPost_ret (results_cell3 rfl _ _ w.heap.size _ rfl FIN.out.2.1) rfl ?_
      exact ⟨rfl, FIN.out.2.2⟩
end Go.Proofs.YtjnaikojoemkaaaDoor
