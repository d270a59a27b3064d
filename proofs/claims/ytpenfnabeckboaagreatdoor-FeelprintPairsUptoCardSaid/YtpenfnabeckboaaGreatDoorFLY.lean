/-
  feellex: Lex walked (tokens with their places); rows of tokens.
-/
import Derived.Test.YtpenfnabeckboaaGreatDoorFTA
import Derived.Test.YtpenfnabeckboaaGreatDoorMI
namespace Go.Proofs.YtpenfnabeckboaaGreatDoor
open Go.RowKit
set_option maxHeartbeats 400000 in
theorem space_c (c : Int) (w : World) :
    Calls Tryz.prog 28 #[.int .i64 c] w fun e w' => e = .returned (.bool (spaceC c)) ∧ w = w' := by
  go_enter Tryz.func28, Tryz.ntmps28
  go_wp2
  all_goals go_ret
  all_goals exact ⟨ret_bool (by simp [spaceC]; grind), rfl⟩
end Go.Proofs.YtpenfnabeckboaaGreatDoor

namespace Go.Proofs.YtpenfnabeckboaaGreatDoor
/-- The tokens from a place on: each its kind, its place, its text; the place; what is wrong. -/
def lexF (s : ByteArray) : Nat → Nat → List (Int × Nat × ByteArray) → List (Int × Nat × ByteArray) × Nat × Nat
  | 0, _, acc => (acc ++ [(5, s.size, ⟨#[]⟩)], s.size, 0)
  | b + 1, pos, acc => if pos < s.size then
      if spaceC (s.get! pos).toNat = true then lexF s b (pos + 1) acc
      else if (oneS (s.extract pos s.size)).2.2 ≠ 0 then ([], pos + (oneS (s.extract pos s.size)).2.1, (oneS (s.extract pos s.size)).2.2)
      else lexF s b (pos + (oneS (s.extract pos s.size)).2.1) (acc ++ [((oneS (s.extract pos s.size)).1.1, pos, (oneS (s.extract pos s.size)).1.2)])
    else (acc ++ [(5, s.size, ⟨#[]⟩)], s.size, 0)
/-- The tokens of a text, or where it is wrong, and why. -/
def lexS (s : ByteArray) : List (Int × Nat × ByteArray) × Nat × Nat := if chkS s < s.size then ([], chkS s, 4) else lexF s s.size 0 []
theorem lexF_len (s : ByteArray) : ∀ b pos acc, (lexF s b pos acc).1.length ≤ acc.length + b + 1
  | 0, pos, acc => by simp [lexF]
  | b + 1, pos, acc => by
    unfold lexF
    split
    · split
      · have := lexF_len s b (pos + 1) acc
        omega
      · split
        · simp
        · have := lexF_len s b (pos + (oneS (s.extract pos s.size)).2.1) (acc ++ [((oneS (s.extract pos s.size)).1.1, pos, (oneS (s.extract pos s.size)).1.2)])
          simp at this ⊢
          omega
    · simp
theorem lexS_len (s : ByteArray) : (lexS s).1.length ≤ s.size + 1 := by
  unfold lexS
  split
  · simp
  · have := lexF_len s s.size 0 []
    simpa using this
end Go.Proofs.YtpenfnabeckboaaGreatDoor

namespace Go.Proofs.YtpenfnabeckboaaGreatDoor
open Go.RowKit
def lexCells (l : List (Int × Nat × ByteArray)) : List Value := l.flatMap fun x => [.int .i64 x.1, .int .i64 x.2.1, .string x.2.2]
theorem lexCells_snoc (l : List (Int × Nat × ByteArray)) (x : Int × Nat × ByteArray) : lexCells (l ++ [x]) = lexCells l ++ [.int .i64 x.1, .int .i64 x.2.1, .string x.2.2] := by simp [lexCells]
theorem lexF_end (s : ByteArray) (b pos : Nat) (acc : List (Int × Nat × ByteArray)) (h : ¬ pos < s.size) : lexF s b pos acc = (acc ++ [(5, s.size, ⟨#[]⟩)], s.size, 0) := by
  cases b with
  | zero => rfl
  | succ b => rw [lexF, if_neg h]
theorem lexF_step (s : ByteArray) (b pos : Nat) (acc : List (Int × Nat × ByteArray)) (h : pos < s.size) (hb : s.size ≤ pos + b) : ∃ b', b = b' + 1 ∧ lexF s b pos acc =
    if spaceC (s.get! pos).toNat = true then lexF s b' (pos + 1) acc
      else if (oneS (s.extract pos s.size)).2.2 ≠ 0 then ([], pos + (oneS (s.extract pos s.size)).2.1, (oneS (s.extract pos s.size)).2.2)
      else lexF s b' (pos + (oneS (s.extract pos s.size)).2.1) (acc ++ [((oneS (s.extract pos s.size)).1.1, pos, (oneS (s.extract pos s.size)).1.2)]) := by
  cases b with
  | zero => omega
  | succ b => exact ⟨b, rfl, by rw [lexF, if_pos h]⟩
/-- What Lex answers: an owned row of tokens, the place, the error. -/
def RetLex (R : List (Int × Nat × ByteArray) × Nat × Nat) (w : World) (e : Ending) (w' : World) : Prop :=
  Bel w w' ∧ ∃ v, e = .returned (.tuple #[v, .int .i64 R.2.1, .int .i64 R.2.2]) ∧ w'.ownsRow w.heap.size 43 3 v R.1.length (lexCells R.1)
theorem cells3_new0 (w : World) (a b c : Value) (t : TypeId) : ∀ j u, [a, b, c][j]? = some u → (w.alloc (.cells #[a, b, c] t)).cell? ((⟨w.heap.size, 0, none⟩ : Addr).add j) = some u := by
  intro j u h
  have h0 : (w.alloc (.cells #[a, b, c] t)).heap[w.heap.size]? = some (.cells #[a, b, c] t (0, 0)) := World.alloc_heap_new _ _
  rw [show ((⟨w.heap.size, 0, none⟩ : Addr).add j) = ⟨w.heap.size, 0 + j, none⟩ from by unfold Addr.add; split <;> simp_all]
  simp only [World.cell?, h0, Nat.zero_add]
  match j, h with
  | 0, h => simpa using h
  | 1, h => simpa using h
  | 2, h => simpa using h
theorem cells3_new (w : World) (A : Obj) (a b c : Value) (t : TypeId) : ∀ j u, [a, b, c][j]? = some u → ((w.alloc A).alloc (.cells #[a, b, c] t)).cell? ((⟨w.heap.size + 1, 0, none⟩ : Addr).add j) = some u := by
  intro j u h
  have := cells3_new0 (w.alloc A) a b c t j u h
  rwa [show (w.alloc A).heap.size = w.heap.size + 1 from by simp] at this
theorem info_lex : (Tryz.prog.info? 43).map (fun i => (i.zero, i.size, i.bytes)) = some (some (.agg #[.int .i64 0, .int .i64 0, .string ⟨#[]⟩]), 3, 32) := by kernel_rfl
set_option maxRecDepth 100000 in
set_option maxHeartbeats 4000000 in
theorem lex_c (s : ByteArray) (hs : s.size ≤ 4294967280) (w : World) (hE : Env w) (hw : SignsAt w) :
    Calls Tryz.prog 15 #[.string s] w (RetLex (lexS s) w) := by
  have hck := fun v w1 (hb : Bel w w1) (hv : BytesAt w1 v s) => check_c s hs v w1 (hE.bel hb) hv
  have HCK := Lib.hid hck
  clear hck
  obtain ⟨k, hk⟩ : ∃ k, chkS s = k := ⟨_, rfl⟩
  rw [hk] at HCK
  by_cases hlt : k < s.size
  · rw [if_pos hlt] at HCK
    have hR : lexS s = ([], k, 4) := by unfold lexS; rw [hk, if_pos hlt]
    rw [hR]
    clear hR hk hlt
    go_enter Tryz.func15, Tryz.ntmps15
    go_wp2_with (refine wpL_bytes rfl 9 54 5 _ rfl s rfl Tryz.underlying9 Tryz.underlying54 Tryz.underlying5 ?_; intro v W1 hv hb1)
    refine (HCK.out _ _ hb1 hv).mono ?_
    rintro e w2 ⟨rfl, hb2⟩
    go_wp2_with fail
    go_ret3
    exact ⟨hb1.trans hb2, _, rfl, World.ownsRow_nil _ _ _ _⟩
  · rw [if_neg hlt] at HCK
    have hR : lexS s = lexF s s.size 0 [] := by unfold lexS; rw [hk, if_neg hlt]
    obtain ⟨⟨RL, R2, R3⟩, hRR⟩ : ∃ R, lexS s = R := ⟨_, rfl⟩
    rw [hRR] at hR ⊢
    have HR := Lib.hid hR
    have HE := Lib.hid hE
    have HW := Lib.hid hw
    clear hR hRR hk hlt hE hw
    go_enter Tryz.func15, Tryz.ntmps15
    go_wp2_with (refine wpL_bytes rfl 9 54 5 _ rfl s rfl Tryz.underlying9 Tryz.underlying54 Tryz.underlying5 ?_; intro v W1 hv hb1)
    refine (HCK.out _ _ hb1 hv).mono ?_
    rintro e w2 ⟨rfl, hb2⟩
    have hb0 := hb1.trans hb2
    clear hv
    go_wp2_with fail
    go_loopw [7, 8] (fun l i wr => ∃ (pos b : Nat) (acc : List (Int × Nat × ByteArray)), i = .int .i64 pos ∧ pos ≤ s.size ∧ acc.length ≤ pos ∧ Bel w wr ∧ wr.ownsRow w.heap.size 43 3 l acc.length (lexCells acc) ∧ s.size ≤ pos + b ∧ (RL, R2, R3) = lexF s b pos acc) (fun _ i _ => s.size - (intOf i).toNat)
    case atStart => exact ⟨0, s.size, [], rfl, Nat.zero_le _, Nat.zero_le _, hb0, World.ownsRow_nil _ _ _ _, by omega, HR.out⟩
    case round =>
      obtain ⟨pos, b, acc, rfl, hpl, hal, hbel, hown, hb, hsc⟩ := hrel
      clear hb1 hb2 hb0
      by_cases hp : pos < s.size
      · have hpi : (pos : Int) < s.size := by omega
        obtain ⟨b', rfl, hst⟩ := lexF_step s b pos acc hp hb
        obtain ⟨c, hc⟩ : ∃ c, s.get! pos = c := ⟨_, rfl⟩
        have hx2 : s[pos]'hp = c := by rw [← hc]; exact (get_at s pos hp).symm
        rw [← hsc, hc] at hst
        have hsp := fun w1 => space_c (c.toNat : Int) w1
        obtain ⟨S, hS⟩ : ∃ S, spaceC (c.toNat : Int) = S := ⟨_, rfl⟩
        rw [hS] at hsp hst
        have HSP := Lib.hid hsp
        have hcl := c.toNat_lt
        clear hsp hS hc hsc
        cases S
        · rw [if_neg (by decide)] at hst
          have hxs : (s.extract pos s.size).size = s.size - pos := by simp
          have hon := fun w1 (hb : Bel w w1) => lone_c (s.extract pos s.size) (by omega) (by omega) w1 (signs_bel HW.out hb)
          have hle := oneS_le (s.extract pos s.size) (by omega)
          obtain ⟨x, hx⟩ : ∃ x, s.extract pos s.size = x := ⟨_, rfl⟩
          rw [hx] at hst hon hle hxs
          obtain ⟨⟨⟨T1, T2⟩, T3, T4⟩, hT⟩ : ∃ T, oneS x = T := ⟨_, rfl⟩
          rw [hT] at hst hon hle
          simp only [lexV] at hst hon hle
          obtain ⟨hle1, hle2⟩ := hle
          have HON := Lib.hid hon
          have HOWN := Lib.hid hown
          clear hon hown hT
          by_cases h0 : T4 = 0
          · subst h0
            rw [if_neg (by simp)] at hst
            have HST := Lib.hid hst
            have hle3 := hle2 rfl
            clear hst hle2
            go_wp2_with fail
            refine (HSP.out _).mono ?_
            rintro e w3 ⟨rfl, rfl⟩
            go_wp2_with fail
            refine (HON.out _ hbel).mono ?_
            rintro e w3 ⟨rfl, hb3⟩
            have HOWN2 := Lib.hid (own_bel HOWN.out hb3)
            go_wp2_with (at_builtin; refine wpL_append1 rfl _ _ 38 rfl w 43 (.agg #[.int .i64 0, .int .i64 0, .string ⟨#[]⟩]) 3 32 Tryz.underlying38 info_lex rfl (by decide) (by decide) _ acc.length (lexCells acc) rfl ((HOWN2.out.alloc _).alloc _) ⟨w3.heap.size + 1, 0, none⟩ 1 [.int .i64 T1, .int .i64 pos, .string T2] rfl rfl (cells3_new _ _ _ _ _ _) (by simp [Value.oneCell']) (by omega) (((hbel.trans hb3).to_alloc _).to_alloc _) ?_; intro g2 cp w4 hown4 hb4 hb5; have HOWN4 := Lib.hid hown4; clear hown4)
            exact ⟨⟨pos + T3, b', acc ++ [(T1, pos, T2)], by go_num, by omega, by simp; omega, hb4, by rw [lexCells_snoc, List.length_append]; exact HOWN4.out, by omega, HST.out⟩, by simp [intOf]; omega⟩
          · have h4 : ((T4 : Int) != 0) = true := by simp [h0]
            have h5 : ((T4 : Int) == 0) = false := by simp [h0]
            rw [if_pos h0] at hst
            have HST := Lib.hid hst
            clear hst hle2
            go_wp2_with fail
            refine (HSP.out _).mono ?_
            rintro e w3 ⟨rfl, rfl⟩
            go_wp2_with fail
            refine (HON.out _ hbel).mono ?_
            rintro e w3 ⟨rfl, hb3⟩
            go_wp2_with fail
            go_ret3
            have := HST.out
            injection this with e1 e2
            injection e2 with e2 e3
            subst e1 e2 e3
            exact ⟨((hbel.trans hb3).to_alloc _), _, rfl, World.ownsRow_nil _ _ _ _⟩
        · rw [if_pos rfl] at hst
          have HST := Lib.hid hst
          have HOWN := Lib.hid hown
          clear hst hown
          go_wp2_with fail
          refine (HSP.out _).mono ?_
          rintro e w3 ⟨rfl, rfl⟩
          go_wp2_with fail
          exact ⟨⟨pos + 1, b', acc, by go_num, hp, by omega, hbel, HOWN.out, by omega, HST.out⟩, by simp [intOf]; omega⟩
      · have hend := lexF_end s b pos acc hp
        rw [hend] at hsc
        injection hsc with e1 e2
        injection e2 with e2 e3
        have HOWN := Lib.hid hown
        have E1 := Lib.hid e1
        have E2 := Lib.hid e2
        have E3 := Lib.hid e3
        clear hown hend e1 e2 e3
        go_wp2_with (at_builtin; refine wpL_append1 rfl _ _ 38 rfl w 43 (.agg #[.int .i64 0, .int .i64 0, .string ⟨#[]⟩]) 3 32 Tryz.underlying38 info_lex rfl (by decide) (by decide) _ acc.length (lexCells acc) rfl (HOWN.out.alloc _) ⟨wr.heap.size, 0, none⟩ 1 [.int .i64 5, .int .i64 s.size, .string ⟨#[]⟩] rfl rfl (cells3_new0 _ _ _ _ _) (by simp [Value.oneCell']) (by omega) (hbel.to_alloc _) ?_; intro g2 cp w4 hown4 hb4 hb5; have HOWN4 := Lib.hid hown4; clear hown4)
        go_ret3
        refine ⟨hb4, .slice (some ⟨g2, 0, none⟩) (acc.length + 1) cp, ?_, ?_⟩
        · exact tup3 rfl (int_eq (by rw [E2.out])) (int_eq (by rw [E3.out]; rfl))
        · rw [E1.out, lexCells_snoc, List.length_append]
          exact HOWN4.out
/-- v is a slice of tokens that reads as l. -/
def RowL (W : World) (v : Value) (l : List Lx) : Prop :=
  (v = .slice none 0 0 ∧ l = []) ∨ ∃ b off cap, v = .slice (some ⟨b, off, none⟩) l.length cap ∧ l.length ≤ cap ∧ b < W.heap.size ∧
    ∀ j x, l[j]? = some x → W.cell? ⟨b, off + j * 3, none⟩ = some (.int .i64 x.1) ∧ W.cell? ⟨b, off + j * 3 + 1, none⟩ = some (.int .i64 x.2.1) ∧ W.cell? ⟨b, off + j * 3 + 2, none⟩ = some (.string x.2.2)
theorem RowL.bel {W W' : World} {v : Value} {l : List Lx} (h : RowL W v l) (hb : Bel W W') : RowL W' v l := by
  rcases h with h | ⟨b, off, cap, h1, h2, h3, h4⟩
  · exact .inl h
  · refine .inr ⟨b, off, cap, h1, h2, Nat.lt_of_lt_of_le h3 hb.size, fun j x hx => ?_⟩
    obtain ⟨g0, g1, g2⟩ := h4 j x hx
    exact ⟨(hb.cell h3).trans g0, (hb.cell h3).trans g1, (hb.cell h3).trans g2⟩
def toLx (x : Int × Nat × ByteArray) : Lx := (x.1, (x.2.1 : Int), x.2.2)
theorem lexCells_at : ∀ (l : List (Int × Nat × ByteArray)) (j : Nat) (x : Int × Nat × ByteArray), l[j]? = some x → (lexCells l)[j * 3]? = some (.int .i64 x.1) ∧ (lexCells l)[j * 3 + 1]? = some (.int .i64 x.2.1) ∧ (lexCells l)[j * 3 + 2]? = some (.string x.2.2)
  | [], j, x, h => by cases h
  | y :: l, 0, x, h => by
    cases h
    exact ⟨rfl, rfl, rfl⟩
  | y :: l, j + 1, x, h => by
    have ih := lexCells_at l j x h
    have e : lexCells (y :: l) = [.int .i64 y.1, .int .i64 y.2.1, .string y.2.2] ++ lexCells l := rfl
    rw [e, show (j + 1) * 3 = j * 3 + 3 from by omega]
    exact ih
theorem own_rowL {W : World} {B : Nat} {v : Value} {l : List (Int × Nat × ByteArray)} (h : W.ownsRow B 43 3 v l.length (lexCells l)) : RowL W v (l.map toLx) := by
  obtain ⟨hl, ⟨rfl, h0⟩ | ⟨g, cap, cur, rfl, hg, hh, hn, _, hsz, ht⟩⟩ := h
  · exact .inl ⟨rfl, by rw [List.eq_nil_of_length_eq_zero h0]; rfl⟩
  · refine .inr ⟨g, 0, cap, by rw [List.length_map], by rw [List.length_map]; omega, (Array.getElem?_eq_some_iff.1 hh).1, fun j x hx => ?_⟩
    rw [List.getElem?_map] at hx
    obtain ⟨y, hy, rfl⟩ := Option.map_eq_some_iff.1 hx
    obtain ⟨g0, g1, g2⟩ := lexCells_at l j y hy
    have hj : j < l.length := (List.getElem?_eq_some_iff.1 hy).1
    have hc : ∀ k u, k < l.length * 3 → (lexCells l)[k]? = some u → W.cell? ⟨g, 0 + k, none⟩ = some u := by
      intro k u hk hu
      rw [← ht, List.getElem?_take, if_pos hk] at hu
      simp only [World.cell?, hh, Nat.zero_add]
      simpa using hu
    exact ⟨hc _ _ (by omega) g0, hc (j * 3 + 1) _ (by omega) g1, hc (j * 3 + 2) _ (by omega) g2⟩
theorem rowL_form {W : World} {v : Value} {l : List Lx} (h : RowL W v l) : ∃ a cap, v = .slice a l.length cap ∧ (l = [] ∨ ∃ b off, a = some ⟨b, off, none⟩ ∧ l.length ≤ cap ∧ b < W.heap.size ∧
    ∀ j x, l[j]? = some x → W.cell? ⟨b, off + j * 3, none⟩ = some (.int .i64 x.1) ∧ W.cell? ⟨b, off + j * 3 + 1, none⟩ = some (.int .i64 x.2.1) ∧ W.cell? ⟨b, off + j * 3 + 2, none⟩ = some (.string x.2.2)) := by
  rcases h with ⟨rfl, rfl⟩ | ⟨b, off, cap, rfl, h2, h3, h4⟩
  · exact ⟨none, 0, rfl, .inl rfl⟩
  · exact ⟨_, cap, rfl, .inr ⟨b, off, rfl, h2, h3, h4⟩⟩
end Go.Proofs.YtpenfnabeckboaaGreatDoor

namespace Go.Proofs.YtpenfnabeckboaaGreatDoor
theorem toks_lexF (s : ByteArray) (pos : Nat) (l : List Tok) (h : Toks s pos l) : ∀ b acc, s.size ≤ pos + b → lexF s b pos acc = (acc ++ l ++ [(5, s.size, ⟨#[]⟩)], s.size, 0) := by
  induction h with
  | done pos hp => intro b acc hb; rw [lexF_end s b pos acc (by omega), List.append_nil]
  | blank pos l hp hs _ ih =>
    intro b acc hb
    obtain ⟨b1, rfl, h1⟩ := lexF_step s b pos acc hp hb
    rw [h1, if_pos hs]
    exact ih b1 acc (by omega)
  | tok pos l hp hs h0 _ ih =>
    intro b acc hb
    obtain ⟨b1, rfl, h1⟩ := lexF_step s b pos acc hp hb
    have hle := (one_le s pos hp).2 h0
    rw [h1, if_neg (by rw [hs]; decide), if_neg (by rw [h0]; decide), ih b1 _ (by omega)]
    simp
theorem toks_lexS (s : ByteArray) (hok : OKat s 0) (l : List Tok) (h : Toks s 0 l) : lexS s = (l ++ [(5, s.size, ⟨#[]⟩)], s.size, 0) := by
  unfold lexS
  rw [if_neg (ok_chk s hok), toks_lexF s 0 l h s.size [] (by omega), List.nil_append]
end Go.Proofs.YtpenfnabeckboaaGreatDoor
