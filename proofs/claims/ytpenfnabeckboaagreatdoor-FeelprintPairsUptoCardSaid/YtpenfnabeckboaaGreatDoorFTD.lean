/-
  feelprint: the tokens of expressions' texts (plain).
  feelprint: an expression's text has these tokens (plain).
  feelprint: an expression's text has these tokens: the forms (plain).
  feelprint: each expression's text has its tokens; the bare one the same but for parentheses (plain).
  feelprint: a text has no more tokens than the bare one (plain).
-/
import Derived.Test.YtpenfnabeckboaaGreatDoorFTA
import Derived.Test.YtpenfnabeckboaaGreatDoorFPC
namespace Go.Proofs.YtpenfnabeckboaaGreatDoor

def sg (c : UInt8) : TK := (4, ⟨#[c]⟩)
structure PtK where
  k : Int
  lv : Nat
  t : List TK
def partK (bare : Bool) (lev : Nat) (p : PtK) : List TK := if bare = true ∨ p.lv < lev then sg 40 :: (p.t ++ [sg 41]) else p.t
def atK (bare : Bool) (lev : Nat) (P : List PtK) (i : Nat) : List TK := match P[i]? with | some p => partK bare lev p | none => []
def listK (bare : Bool) (ns : List ByteArray) : Nat → List PtK → List TK
  | _, [] => []
  | i, p :: r => (if i = 0 then [] else [sg 44]) ++ ((match ns[i]? with | some x => nameT x ++ [sg 58] | none => []) ++ (partK bare 0 p ++ listK bare ns (i + 1) r))
def joinK : List ByteArray → List TK
  | [] => []
  | [x] => nameT x
  | x :: y :: r => nameT x ++ (sg 44 :: joinK (y :: r))
def opT (s : ByteArray) : TK := (if isKw s = true then 1 else 4, s)
/-- A form's tokens, of its parts'. -/
def shapeK (bare : Bool) (k : Int) (s : ByteArray) (ns : List ByteArray) (P : List PtK) : List TK :=
  if k = 0 then [(2, s)]
  else if k = 1 then [(3, s)]
  else if k = 2 then [(1, s)]
  else if k = 3 then nameT s
  else if k = 4 then sg 45 :: atK bare 7 P 0
  else if k = 5 then atK bare (if (signLv s).getD 0 = 3 then 4 else (signLv s).getD 0) P 0 ++ (opT s :: atK bare ((signLv s).getD 0 + 1) P 1)
  else if k = 6 then atK bare 4 P 0 ++ ((1, ⟨#[98, 101, 116, 119, 101, 101, 110]⟩) :: (atK bare 4 P 1 ++ ((1, ⟨#[97, 110, 100]⟩) :: atK bare 4 P 2)))
  else if k = 7 then atK bare 4 P 0 ++ ((1, ⟨#[105, 110]⟩) :: (match P[1]? with | some p => if p.k = 19 then p.t else partK bare 4 p | none => []))
  else if k = 8 then atK bare 8 P 0 ++ (sg 46 :: nameT s)
  else if k = 9 then atK bare 8 P 0 ++ (sg 91 :: (atK bare 0 P 1 ++ [sg 93]))
  else if k = 10 then atK bare 8 P 0 ++ (sg 40 :: (listK bare [] 0 P.tail ++ [sg 41]))
  else if k = 11 then (1, ⟨#[105, 102]⟩) :: (atK bare 0 P 0 ++ ((1, ⟨#[116, 104, 101, 110]⟩) :: (atK bare 0 P 1 ++ ((1, ⟨#[101, 108, 115, 101]⟩) :: atK bare 0 P 2))))
  else if k = 12 then (1, ⟨#[102, 111, 114]⟩) :: (nameT s ++ ((1, ⟨#[105, 110]⟩) :: (atK bare 0 P 0 ++ ((1, ⟨#[114, 101, 116, 117, 114, 110]⟩) :: atK bare 0 P 1))))
  else if k = 13 then (1, ⟨#[115, 111, 109, 101]⟩) :: (nameT s ++ ((1, ⟨#[105, 110]⟩) :: (atK bare 0 P 0 ++ ((1, ⟨#[115, 97, 116, 105, 115, 102, 105, 101, 115]⟩) :: atK bare 0 P 1))))
  else if k = 14 then (1, ⟨#[101, 118, 101, 114, 121]⟩) :: (nameT s ++ ((1, ⟨#[105, 110]⟩) :: (atK bare 0 P 0 ++ ((1, ⟨#[115, 97, 116, 105, 115, 102, 105, 101, 115]⟩) :: atK bare 0 P 1))))
  else if k = 15 then (1, ⟨#[102, 117, 110, 99, 116, 105, 111, 110]⟩) :: (sg 40 :: (joinK ns ++ (sg 41 :: atK bare 0 P 0)))
  else if k = 16 then sg 91 :: (listK bare [] 0 P ++ [sg 93])
  else if k = 17 then sg 123 :: (listK bare ns 0 P ++ [sg 125])
  else if k = 18 then (4, s.extract 0 1) :: (atK bare 0 P 0 ++ ((4, ⟨#[46, 46]⟩) :: (atK bare 0 P 1 ++ [(4, s.extract 1 2)])))
  else (4, s) :: atK bare 4 P 0
mutual
/-- An expression's tokens. -/
def tkE (bare : Bool) : Ex → List TK
  | .mk k s ns l => shapeK bare k s ns (tksE bare l)
def tksE (bare : Bool) : List Ex → List PtK
  | [] => []
  | x :: r => ⟨x.k, levelE x, tkE bare x⟩ :: tksE bare r
end
theorem tkE_eq (bare : Bool) (e : Ex) : tkE bare e = shapeK bare e.k e.s e.ns (tksE bare e.l) := by
  obtain ⟨k, s, ns, l⟩ := e; unfold tkE; rfl
theorem tksE_map (bare : Bool) : ∀ l : List Ex, tksE bare l = l.map fun x => ⟨x.k, levelE x, tkE bare x⟩
  | [] => by unfold tksE; rfl
  | x :: r => by unfold tksE; rw [tksE_map bare r]; rfl

theorem LastT.app (a : List TK) {b : List TK} (h : LastT b) : LastT (a ++ b) := by
  obtain ⟨x, c, rfl, hc⟩ := h
  exact ⟨a ++ x, c, by simp, hc⟩
theorem LastT.cons (d : TK) {b : List TK} (h : LastT b) : LastT (d :: b) := h.app [d]
theorem LastT.one {c : TK} (h : c ≠ (4, ⟨#[46]⟩)) : LastT [c] := ⟨[], c, rfl, h⟩
theorem LastT.kind {k : Int} {s : ByteArray} (h : k ≠ 4) : LastT [(k, s)] := .one fun e => h (congrArg Prod.fst e)
theorem LastT.sg {c : UInt8} (h : c ≠ 46) : LastT [sg c] := .one fun e => h (by
  have := congrArg (fun x : TK => x.2.data.toList) e
  simpa [Go.Proofs.YtpenfnabeckboaaGreatDoor.sg] using this)
/-- A text with these tokens, the last one no dot. -/
def Lx1 (t : List UInt8) (l : List TK) : Prop := LexL t l ∧ LastT l
theorem Lx1.stop {a b : List UInt8} {l m : List TK} (h : LexL a l) (d : UInt8) (hd : d ∈ [(41 : UInt8), 93, 125, 44, 58, 91, 40]) (g : LexL b m) : LexL (a ++ d :: b) (l ++ sg d :: m) := by
  have h1 : d ∈ [(40 : UInt8), 91, 123, 45, 44, 58, 41, 93, 125] ∧ d ∈ stops := by
    simp only [List.mem_cons, List.not_mem_nil, or_false] at hd
    rcases hd with rfl | rfl | rfl | rfl | rfl | rfl | rfl <;> decide
  exact h.st (g.sign (.inl h1.1)) (st_stop d b h1.2) fun e => absurd e (stop_ne d b h1.2)
theorem Lx1.part {p : Pt} {q : PtK} (bare : Bool) (lev : Nat) (hl : p.lv = q.lv) (h : Lx1 p.t q.t) : Lx1 (partT bare lev p) (partK bare lev q) := by
  unfold partT partK
  rw [hl]
  split
  · have h1 := (Lx1.stop h.1 41 (by simp) LexL.nil).sign (c := 40) (.inl (by simp))
    refine ⟨?_, ((LastT.sg (c := 41) (by decide)).app _).cons _⟩
    rw [show [40] ++ p.t ++ [41] = 40 :: (p.t ++ [41]) from by simp]
    exact h1
  · exact h
theorem lit_lex (k : Int) (s : ByteArray) (h : oneOK k s = true) : LexL (btsOf s) [(k, s)] := by
  obtain ⟨h1, h2, _⟩ := oneOK_toks k s h
  exact ⟨h2, _, h1, rfl⟩
/-- Two dots ahead of a text. -/
theorem one_dots (t : List UInt8) : oneS ⟨(46 :: 46 :: t).toArray⟩ = ((4, ⟨#[46, 46]⟩), 2, 0) := by
  have hw : wordN ⟨(46 :: 46 :: t).toArray⟩ = 0 := word_zero _ (by rw [size_mk]; simp) (by rw [get_mk0]; decide) (by rw [get_mk0]; decide +kernel)
  have hd0 : digAt ⟨(46 :: 46 :: t).toArray⟩ 0 = false := by unfold digAt; rw [get_mk0]; rw [show dgC 46 = false from rfl, Bool.and_false]
  have hn : numN ⟨(46 :: 46 :: t).toArray⟩ = 0 := by
    rw [numN_zero, digE_stop _ 0 hd0, if_neg]
    rintro ⟨_, _, h6⟩
    unfold digAt at h6
    rw [Nat.zero_add, get_mk1, show dgC 46 = false from rfl, Bool.and_false] at h6
    cases h6
  have hsg : signIn ⟨(46 :: 46 :: t).toArray⟩ signsL = [46, 46] := by simp [signsL, signIn, Lib.hasPrefix, List.isPrefixOf]
  have hsS : signS ⟨(46 :: 46 :: t).toArray⟩ = ⟨#[46, 46]⟩ := by unfold signS; rw [hsg]
  unfold oneS
  rw [hw, hn, get_mk0, hsS, if_neg (by simp), if_neg (by simp), if_neg (by decide), if_neg (by decide)]
  rfl
theorem LexL.dots {t : List UInt8} {m : List TK} (g : LexL t m) : LexL (46 :: 46 :: t) ((4, ⟨#[46, 46]⟩) :: m) := by
  obtain ⟨g1, a, g2, rfl⟩ := g
  have ho := one_dots t
  have he : (⟨(46 :: 46 :: t).toArray⟩ : ByteArray) = ⟨#[46, 46]⟩ ++ ⟨t.toArray⟩ := mk_append [46, 46] t
  have hx : (⟨(46 :: 46 :: t).toArray⟩ : ByteArray).extract 0 (⟨(46 :: 46 :: t).toArray⟩ : ByteArray).size = ⟨(46 :: 46 :: t).toArray⟩ := extract_all _
  refine ⟨by rw [he]; exact ok_join (by show charsS _ ≠ none; decide +kernel) g1, (4, 0, ⟨#[46, 46]⟩) :: shiftT 2 a, ?_, by rw [List.map_cons, shift_map]⟩
  have h := Toks.tok (s := ⟨(46 :: 46 :: t).toArray⟩) 0 (shiftT 2 a) (by rw [size_mk]; simp) (by rw [get_mk0]; decide +kernel) (by rw [hx, ho]) (by
    rw [hx, ho]
    have h2 := toks_shift ⟨#[46, 46]⟩ ⟨t.toArray⟩ 0 a g2
    rw [← he] at h2
    exact h2)
  rw [hx, ho] at h
  exact h
end Go.Proofs.YtpenfnabeckboaaGreatDoor

namespace Go.Proofs.YtpenfnabeckboaaGreatDoor

theorem bts_lit (l : List UInt8) : btsOf ⟨l.toArray⟩ = l := rfl
theorem kw_lits : oneOK 1 ⟨#[98, 101, 116, 119, 101, 101, 110]⟩ = true ∧ oneOK 1 ⟨#[97, 110, 100]⟩ = true ∧ oneOK 1 ⟨#[105, 110]⟩ = true ∧ oneOK 1 ⟨#[105, 102]⟩ = true ∧ oneOK 1 ⟨#[116, 104, 101, 110]⟩ = true ∧ oneOK 1 ⟨#[101, 108, 115, 101]⟩ = true ∧ oneOK 1 ⟨#[102, 111, 114]⟩ = true ∧ oneOK 1 ⟨#[114, 101, 116, 117, 114, 110]⟩ = true ∧ oneOK 1 ⟨#[115, 111, 109, 101]⟩ = true ∧ oneOK 1 ⟨#[115, 97, 116, 105, 115, 102, 105, 101, 115]⟩ = true ∧ oneOK 1 ⟨#[101, 118, 101, 114, 121]⟩ = true ∧ oneOK 1 ⟨#[102, 117, 110, 99, 116, 105, 111, 110]⟩ = true := by decide +kernel
theorem const_lex : ∀ s ∈ constS, oneOK 1 s = true := by decide +kernel
theorem bin_lex : ∀ s ∈ binS, oneOK (opT s).1 s = true := by decide +kernel
theorem test_lex : ∀ s ∈ testS, oneOK 4 s = true := by decide +kernel
theorem word_full (s : ByteArray) (h : wordS s = true) : wordN s ≠ 0 := by
  have hm := word_made s h
  obtain ⟨c, l, hcs, hc, hall⟩ := (word_iff s).1 hm
  obtain ⟨_, _, hsz⟩ := toks_word s h
  have hnc : nextC c = true := by unfold nextC; rw [hc]; rfl
  have hw : wordN s = s.size := word_all s s.size 0 (c :: l) hcs (Nat.zero_le _) (by omega) (by simp [hnc, hall]) (fun _ c' r' e => by cases e; exact hc)
  omega
theorem head_all : ((List.range 256).all fun i => !(dgC i.toUInt8 || decide (i.toUInt8 = 46)) || (decide (i < 128) && !(firstC i))) = true := by decide +kernel
/-- A name begins with no digit, no dot. -/
theorem name_head {s : ByteArray} (h : rightS s = true) : ∃ d r, btsOf s = d :: r ∧ dgC d = false ∧ d ≠ 46 := by
  have hw : (partsS s).all wordS = true := by
    unfold rightS wordsS at h
    split at h
    · assumption
    · cases h
  obtain ⟨y, r, hp, hj⟩ := parts_join s
  rw [hp] at hw
  have hy := List.all_eq_true.1 hw y (by simp)
  have hn := word_full y hy
  obtain ⟨_, _, hsz⟩ := toks_word y hy
  have h4 := byte_drop y 0 (by omega)
  rw [List.drop_zero] at h4
  have hb : btsOf s = y.get! 0 :: (y.data.toList.drop 1 ++ (tailJ r).data.toList) := by
    unfold btsOf
    rw [← hj, ByteArray.data_append, Array.toList_append, h4]
    rfl
  have hf : ∀ d : UInt8, dgC d = true ∨ d = 46 → d.toNat < 128 ∧ firstC ((d.toNat : Nat) : Int) = false := by
    intro d hd
    have h1 := List.all_eq_true.1 head_all d.toNat (List.mem_range.2 d.toNat_lt)
    rw [show d.toNat.toUInt8 = d from by simp] at h1
    have h2 : (dgC d || decide (d = 46)) = true := by rcases hd with h | h <;> simp [h]
    rw [h2] at h1
    simpa using h1
  refine ⟨_, _, hb, ?_, ?_⟩
  · cases hd : dgC (y.get! 0) with
    | false => rfl
    | true =>
      obtain ⟨h5, h6⟩ := hf _ (.inl hd)
      exact absurd (word_zero y hsz h5 h6) hn
  · intro hd
    obtain ⟨h5, h6⟩ := hf _ (.inr hd)
    exact absurd (word_zero y hsz h5 h6) hn
theorem Lx1.name {s : ByteArray} (h : rightS s = true) : Lx1 (btsOf s) (nameT s) := by
  refine ⟨lex_name h, ?_⟩
  obtain ⟨y, r, hp, _⟩ := parts_join s
  unfold nameT
  rw [hp]
  rcases List.eq_nil_or_concat (y :: r) with h1 | ⟨a, c, h1⟩
  · cases h1
  · rw [h1, List.concat_eq_append, List.map_append, List.map_singleton]
    exact (LastT.kind (by decide)).app _
/-- Two lists, one by one. -/
inductive All2 {α β : Type} (R : α → β → Prop) : List α → List β → Prop where
  | nil : All2 R [] []
  | cons {a : α} {b : β} {l : List α} {m : List β} : R a b → All2 R l m → All2 R (a :: l) (b :: m)
/-- Parts and their tokens. -/
def PL (p : Pt) (q : PtK) : Prop := p.k = q.k ∧ p.lv = q.lv ∧ Lx1 p.t q.t
theorem PL.part {p : Pt} {q : PtK} (h : PL p q) (bare : Bool) (lev : Nat) : Lx1 (partT bare lev p) (partK bare lev q) := Lx1.part bare lev h.2.1 h.2.2
theorem LexL.pre {b : List UInt8} {m : List TK} (h : LexL b m) : LexL (32 :: b) m := LexL.nil.blank h
theorem item_lex (bare : Bool) (ns : List ByteArray) (hn : ∀ x ∈ ns, rightS x = true) (i : Nat) {p : Pt} {q : PtK} (hp : PL p q) {T : List UInt8} {m : List TK} (hT : LexL T m) (hh : ∃ h t, T = h :: t ∧ h ∈ stops) :
    LexL ((match ns[i]? with | some x => btsOf x ++ [58, 32] | none => []) ++ (partT bare 0 p ++ T)) ((match ns[i]? with | some x => nameT x ++ [sg 58] | none => []) ++ (partK bare 0 q ++ m)) := by
  obtain ⟨h, t, rfl, hs⟩ := hh
  have h1 := (hp.part bare 0).1.st hT (st_stop h t hs) fun e => absurd e (stop_ne h t hs)
  cases hx : ns[i]? with
  | none => exact h1
  | some x =>
    have h2 := Lx1.stop (lex_name (hn x (List.mem_of_getElem? hx))) 58 (by simp) h1.pre
    dsimp only
    rw [List.append_assoc, List.append_assoc]
    exact h2
theorem list_lexS (bare : Bool) (ns : List ByteArray) (hn : ∀ x ∈ ns, rightS x = true) (z : List UInt8) (mz : List TK) (d : UInt8) (hd : d ∈ [(41 : UInt8), 93, 125]) (hz : LexL z mz) :
    ∀ (P : List Pt) (Q : List PtK) (i : Nat), i ≠ 0 → All2 PL P Q → LexL (listT bare ns i P ++ d :: z) (listK bare ns i Q ++ sg d :: mz) ∧ ∃ h t, listT bare ns i P ++ d :: z = h :: t ∧ h ∈ stops
  | [], _, i, _, .nil => by
    have h1 : d ∈ [(40 : UInt8), 91, 123, 45, 44, 58, 41, 93, 125] ∧ d ∈ stops := by
      simp only [List.mem_cons, List.not_mem_nil, or_false] at hd
      rcases hd with rfl | rfl | rfl <;> decide
    exact ⟨hz.sign (.inl h1.1), d, z, rfl, h1.2⟩
  | p :: r, _, i, hi, .cons hp hr => by
    obtain ⟨h1, h2⟩ := list_lexS bare ns hn z mz d hd hz r _ (i + 1) (by omega) hr
    have h3 := item_lex bare ns hn i hp h1 h2
    unfold listT listK
    rw [if_neg hi, if_neg hi]
    have h4 := h3.pre.sign (c := 44) (.inl (by simp))
    refine ⟨?_, 44, _, rfl, by decide⟩
    simp only [List.append_assoc, List.cons_append, List.nil_append] at h4 ⊢
    exact h4
theorem list_lex (bare : Bool) (ns : List ByteArray) (hn : ∀ x ∈ ns, rightS x = true) (z : List UInt8) (mz : List TK) (d : UInt8) (hd : d ∈ [(41 : UInt8), 93, 125]) (hz : LexL z mz) (P : List Pt) (Q : List PtK) (h : All2 PL P Q) :
    LexL (listT bare ns 0 P ++ d :: z) (listK bare ns 0 Q ++ sg d :: mz) := by
  cases h with
  | nil =>
    have h1 : d ∈ [(40 : UInt8), 91, 123, 45, 44, 58, 41, 93, 125] := by
      simp only [List.mem_cons, List.not_mem_nil, or_false] at hd
      rcases hd with rfl | rfl | rfl <;> decide
    exact hz.sign (.inl h1)
  | cons hp hr =>
    obtain ⟨h1, h2⟩ := list_lexS bare ns hn z mz d hd hz _ _ 1 (by decide) hr
    have h3 := item_lex bare ns hn 0 hp h1 h2
    unfold listT listK
    rw [if_pos rfl, if_pos rfl]
    simp only [List.append_assoc, List.nil_append] at h3 ⊢
    exact h3
theorem join_lexS (z : List UInt8) (mz : List TK) (hz : LexL z mz) : ∀ (ns : List ByteArray), (∀ x ∈ ns, rightS x = true) → LexL (joinT ns ++ 41 :: z) (joinK ns ++ sg 41 :: mz)
  | [], _ => hz.sign (.inl (by simp))
  | [x], h => Lx1.stop (lex_name (h x (by simp))) 41 (by simp) hz
  | x :: y :: r, h => by
    have h1 := join_lexS z mz hz (y :: r) fun w hw => h w (by simp [hw])
    have h2 := Lx1.stop (lex_name (h x (by simp))) 44 (by simp) h1.pre
    unfold joinT joinK
    simp only [List.append_assoc, List.cons_append, List.nil_append] at h2 ⊢
    exact h2
end Go.Proofs.YtpenfnabeckboaaGreatDoor

namespace Go.Proofs.YtpenfnabeckboaaGreatDoor

theorem span_lits : ∀ s ∈ spanS, oneOK 4 (s.extract 0 1) = true ∧ oneOK 4 (s.extract 1 2) = true ∧ (s = ⟨#[s.get! 0, s.get! 1]⟩) ∧ (s.get! 0 = 91 ∨ s.get! 0 = 40) ∧ (s.get! 1 = 93 ∨ s.get! 1 = 41) := by decide +kernel
theorem f2_one {p : Pt} {Q : List PtK} (h : All2 PL [p] Q) : ∃ q, Q = [q] ∧ PL p q := by
  cases h with | cons h1 h2 => cases h2; exact ⟨_, rfl, h1⟩
theorem f2_two {p p' : Pt} {Q : List PtK} (h : All2 PL [p, p'] Q) : ∃ q q', Q = [q, q'] ∧ PL p q ∧ PL p' q' := by
  cases h with | cons h1 h2 => obtain ⟨q, rfl, h3⟩ := f2_one h2; exact ⟨_, _, rfl, h1, h3⟩
theorem f2_three {p p' p'' : Pt} {Q : List PtK} (h : All2 PL [p, p', p''] Q) : ∃ q q' q'', Q = [q, q', q''] ∧ PL p q ∧ PL p' q' ∧ PL p'' q'' := by
  cases h with | cons h1 h2 => obtain ⟨q, q', rfl, h3, h4⟩ := f2_two h2; exact ⟨_, _, _, rfl, h1, h3, h4⟩
theorem shape_lex (bare : Bool) (k : Int) (s : ByteArray) (ns : List ByteArray) (P : List Pt) (Q : List PtK) (hPQ : All2 PL P Q) (hk : 0 ≤ k ∧ k ≤ 19) (h1 : 0 ≤ partsK k → (P.length : Int) = partsK k) (h2 : partsK k = -2 → P ≠ [])
    (hnum : k = 0 → canonS s = true) (hq : k = 1 → LexL (qB s) [(3, s)]) (hconst : k = 2 → s ∈ constS) (hname : namedK k = true → rightS s = true) (hns : ∀ x ∈ ns, rightS x = true) (hbin : k = 5 → s ∈ binS) (hspan : k = 18 → s ∈ spanS) (htest : k = 19 → s ∈ testS) :
    Lx1 (shapeT qB bare k s ns P) (shapeK bare k s ns Q) := by
  obtain ⟨kb, ka, ki, kif, kth, kel, kfor, kret, ksome, ksat, kev, kfun⟩ := kw_lits
  have hc : k = 0 ∨ k = 1 ∨ k = 2 ∨ k = 3 ∨ k = 4 ∨ k = 5 ∨ k = 6 ∨ k = 7 ∨ k = 8 ∨ k = 9 ∨ k = 10 ∨ k = 11 ∨ k = 12 ∨ k = 13 ∨ k = 14 ∨ k = 15 ∨ k = 16 ∨ k = 17 ∨ k = 18 ∨ k = 19 := by omega
  have one : ∀ {j : Int}, partsK j = 1 → (0 ≤ partsK j → (P.length : Int) = partsK j) → ∃ a, P = [a] := fun hj h => List.length_eq_one_iff.1 (by have := h (by omega); omega)
  have two : ∀ {j : Int}, partsK j = 2 → (0 ≤ partsK j → (P.length : Int) = partsK j) → ∃ a b, P = [a, b] := fun hj h => by
    have hl : P.length = 2 := by have := h (by omega); omega
    match P, hl with
    | [a, b], _ => exact ⟨a, b, rfl⟩
  have three : ∀ {j : Int}, partsK j = 3 → (0 ≤ partsK j → (P.length : Int) = partsK j) → ∃ a b c, P = [a, b, c] := fun hj h => by
    have hl : P.length = 3 := by have := h (by omega); omega
    match P, hl with
    | [a, b, c], _ => exact ⟨a, b, c, rfl⟩
  rcases hc with rfl | rfl | rfl | rfl | rfl | rfl | rfl | rfl | rfl | rfl | rfl | rfl | rfl | rfl | rfl | rfl | rfl | rfl | rfl | rfl
  · exact ⟨lex_num (hnum rfl), LastT.kind (by decide)⟩
  · exact ⟨hq rfl, LastT.kind (by decide)⟩
  · exact ⟨lit_lex 1 s (const_lex s (hconst rfl)), LastT.kind (by decide)⟩
  · exact Lx1.name (hname rfl)
  · obtain ⟨a, rfl⟩ := one (j := 4) rfl h1
    obtain ⟨x, rfl, ha⟩ := f2_one hPQ
    have pa := ha.part bare 7
    exact ⟨pa.1.sign (c := 45) (.inl (by simp)), pa.2.cons _⟩
  · obtain ⟨a, b, rfl⟩ := two (j := 5) rfl h1
    obtain ⟨x, y, rfl, ha, hb⟩ := f2_two hPQ
    have pa := ha.part bare (if (signLv s).getD 0 = 3 then 4 else (signLv s).getD 0)
    have pb := hb.part bare ((signLv s).getD 0 + 1)
    have h := pa.1.blank ((lit_lex _ s (bin_lex s (hbin rfl))).blank pb.1)
    refine ⟨?_, (pb.2.cons _).app _⟩
    show LexL ((partT bare (if (signLv s).getD 0 = 3 then 4 else (signLv s).getD 0) a ++ ([32] ++ btsOf s ++ [32])) ++ partT bare ((signLv s).getD 0 + 1) b) _
    rw [show (partT bare (if (signLv s).getD 0 = 3 then 4 else (signLv s).getD 0) a ++ ([32] ++ btsOf s ++ [32])) ++ partT bare ((signLv s).getD 0 + 1) b = partT bare (if (signLv s).getD 0 = 3 then 4 else (signLv s).getD 0) a ++ 32 :: (btsOf s ++ 32 :: partT bare ((signLv s).getD 0 + 1) b) from by simp]
    exact h
  · obtain ⟨a, b, c, rfl⟩ := three (j := 6) rfl h1
    obtain ⟨x, y, z, rfl, ha, hb, hc⟩ := f2_three hPQ
    have pa := ha.part bare 4
    have pb := hb.part bare 4
    have pc := hc.part bare 4
    have h := pa.1.blank ((lit_lex 1 _ kb).blank (pb.1.blank ((lit_lex 1 _ ka).blank pc.1)))
    refine ⟨?_, (((pc.2.cons _).app _).cons _).app _⟩
    show LexL (partT bare 4 a ++ [32, 98, 101, 116, 119, 101, 101, 110, 32] ++ partT bare 4 b ++ [32, 97, 110, 100, 32] ++ partT bare 4 c) _
    rw [show partT bare 4 a ++ [32, 98, 101, 116, 119, 101, 101, 110, 32] ++ partT bare 4 b ++ [32, 97, 110, 100, 32] ++ partT bare 4 c = partT bare 4 a ++ 32 :: (btsOf ⟨#[98, 101, 116, 119, 101, 101, 110]⟩ ++ 32 :: (partT bare 4 b ++ 32 :: (btsOf ⟨#[97, 110, 100]⟩ ++ 32 :: partT bare 4 c))) from by simp [btsOf]]
    exact h
  · obtain ⟨a, b, rfl⟩ := two (j := 7) rfl h1
    obtain ⟨x, y, rfl, ha, hb⟩ := f2_two hPQ
    have pa := ha.part bare 4
    have pb : Lx1 (if b.k = 19 then b.t else partT bare 4 b) (if y.k = 19 then y.t else partK bare 4 y) := by
      rw [hb.1]
      split
      · exact hb.2.2
      · exact hb.part bare 4
    have h := pa.1.blank ((lit_lex 1 _ ki).blank pb.1)
    refine ⟨?_, (pb.2.cons _).app _⟩
    show LexL (partT bare 4 a ++ [32, 105, 110, 32] ++ (if b.k = 19 then b.t else partT bare 4 b)) _
    rw [show partT bare 4 a ++ [32, 105, 110, 32] ++ (if b.k = 19 then b.t else partT bare 4 b) = partT bare 4 a ++ 32 :: (btsOf ⟨#[105, 110]⟩ ++ 32 :: (if b.k = 19 then b.t else partT bare 4 b)) from by simp [btsOf]]
    exact h
  · obtain ⟨a, rfl⟩ := one (j := 8) rfl h1
    obtain ⟨x, rfl, ha⟩ := f2_one hPQ
    have pa := ha.part bare 8
    obtain ⟨d, r, hd, hd1, hd2⟩ := name_head (hname rfl)
    have hn := Lx1.name (hname rfl)
    have hg := hn.1.sign (c := 46) (.inr ⟨rfl, d, r, hd, hd1, hd2⟩)
    have h := pa.1.st hg (by rw [hd]; exact st_dot d r hd1) fun _ => pa.2
    exact ⟨h, (hn.2.cons _).app _⟩
  · obtain ⟨a, b, rfl⟩ := two (j := 9) rfl h1
    obtain ⟨x, y, rfl, ha, hb⟩ := f2_two hPQ
    have pa := ha.part bare 8
    have pb := hb.part bare 0
    have h := Lx1.stop pa.1 91 (by simp) (Lx1.stop pb.1 93 (by simp) LexL.nil)
    refine ⟨?_, ((((LastT.sg (c := 93) (by decide)).app _).cons _).app _)⟩
    show LexL (partT bare 8 a ++ [91] ++ partT bare 0 b ++ [93]) _
    rw [show partT bare 8 a ++ [91] ++ partT bare 0 b ++ [93] = partT bare 8 a ++ 91 :: (partT bare 0 b ++ [93]) from by simp]
    exact h
  · cases hPQ with
    | nil => exact absurd rfl (h2 rfl)
    | @cons a x r r' ha hr =>
      have pa := ha.part bare 8
      have h := Lx1.stop pa.1 40 (by simp) (list_lex bare [] (by simp) [] [] 41 (by simp) LexL.nil r r' hr)
      refine ⟨?_, ((((LastT.sg (c := 41) (by decide)).app _).cons _).app _)⟩
      show LexL (partT bare 8 a ++ [40] ++ listT bare [] 0 r ++ [41]) _
      rw [show partT bare 8 a ++ [40] ++ listT bare [] 0 r ++ [41] = partT bare 8 a ++ 40 :: (listT bare [] 0 r ++ [41]) from by simp]
      exact h
  · obtain ⟨a, b, c, rfl⟩ := three (j := 11) rfl h1
    obtain ⟨x, y, z, rfl, ha, hb, hc⟩ := f2_three hPQ
    have pa := ha.part bare 0
    have pb := hb.part bare 0
    have pc := hc.part bare 0
    have h := (lit_lex 1 _ kif).blank (pa.1.blank ((lit_lex 1 _ kth).blank (pb.1.blank ((lit_lex 1 _ kel).blank pc.1))))
    refine ⟨?_, (((((pc.2.cons _).app _).cons _).app _).cons _)⟩
    show LexL (wordsT bare [a, b, c] [[105, 102, 32], [32, 116, 104, 101, 110, 32], [32, 101, 108, 115, 101, 32]]) _
    rw [show wordsT bare [a, b, c] [[105, 102, 32], [32, 116, 104, 101, 110, 32], [32, 101, 108, 115, 101, 32]] = btsOf ⟨#[105, 102]⟩ ++ 32 :: (partT bare 0 a ++ 32 :: (btsOf ⟨#[116, 104, 101, 110]⟩ ++ 32 :: (partT bare 0 b ++ 32 :: (btsOf ⟨#[101, 108, 115, 101]⟩ ++ 32 :: partT bare 0 c)))) from by simp [wordsT, btsOf]]
    exact h
  · obtain ⟨a, b, rfl⟩ := two (j := 12) rfl h1
    obtain ⟨x, y, rfl, ha, hb⟩ := f2_two hPQ
    have pa := ha.part bare 0
    have pb := hb.part bare 0
    have h := (lit_lex 1 _ kfor).blank ((lex_name (hname rfl)).blank ((lit_lex 1 _ ki).blank (pa.1.blank ((lit_lex 1 _ kret).blank pb.1))))
    refine ⟨?_, ((((((pb.2.cons _).app _).cons _).app _).cons _))⟩
    show LexL (wordsT bare [a, b] [[102, 111, 114, 32] ++ btsOf s ++ [32, 105, 110, 32], [32, 114, 101, 116, 117, 114, 110, 32]]) _
    rw [show wordsT bare [a, b] [[102, 111, 114, 32] ++ btsOf s ++ [32, 105, 110, 32], [32, 114, 101, 116, 117, 114, 110, 32]] = btsOf ⟨#[102, 111, 114]⟩ ++ 32 :: (btsOf s ++ 32 :: (btsOf ⟨#[105, 110]⟩ ++ 32 :: (partT bare 0 a ++ 32 :: (btsOf ⟨#[114, 101, 116, 117, 114, 110]⟩ ++ 32 :: partT bare 0 b)))) from by simp [wordsT, btsOf]]
    exact h
  · obtain ⟨a, b, rfl⟩ := two (j := 13) rfl h1
    obtain ⟨x, y, rfl, ha, hb⟩ := f2_two hPQ
    have pa := ha.part bare 0
    have pb := hb.part bare 0
    have h := (lit_lex 1 _ ksome).blank ((lex_name (hname rfl)).blank ((lit_lex 1 _ ki).blank (pa.1.blank ((lit_lex 1 _ ksat).blank pb.1))))
    refine ⟨?_, ((((((pb.2.cons _).app _).cons _).app _).cons _))⟩
    show LexL (wordsT bare [a, b] [[115, 111, 109, 101, 32] ++ btsOf s ++ [32, 105, 110, 32], [32, 115, 97, 116, 105, 115, 102, 105, 101, 115, 32]]) _
    rw [show wordsT bare [a, b] [[115, 111, 109, 101, 32] ++ btsOf s ++ [32, 105, 110, 32], [32, 115, 97, 116, 105, 115, 102, 105, 101, 115, 32]] = btsOf ⟨#[115, 111, 109, 101]⟩ ++ 32 :: (btsOf s ++ 32 :: (btsOf ⟨#[105, 110]⟩ ++ 32 :: (partT bare 0 a ++ 32 :: (btsOf ⟨#[115, 97, 116, 105, 115, 102, 105, 101, 115]⟩ ++ 32 :: partT bare 0 b)))) from by simp [wordsT, btsOf]]
    exact h
  · obtain ⟨a, b, rfl⟩ := two (j := 14) rfl h1
    obtain ⟨x, y, rfl, ha, hb⟩ := f2_two hPQ
    have pa := ha.part bare 0
    have pb := hb.part bare 0
    have h := (lit_lex 1 _ kev).blank ((lex_name (hname rfl)).blank ((lit_lex 1 _ ki).blank (pa.1.blank ((lit_lex 1 _ ksat).blank pb.1))))
    refine ⟨?_, ((((((pb.2.cons _).app _).cons _).app _).cons _))⟩
    show LexL (wordsT bare [a, b] [[101, 118, 101, 114, 121, 32] ++ btsOf s ++ [32, 105, 110, 32], [32, 115, 97, 116, 105, 115, 102, 105, 101, 115, 32]]) _
    rw [show wordsT bare [a, b] [[101, 118, 101, 114, 121, 32] ++ btsOf s ++ [32, 105, 110, 32], [32, 115, 97, 116, 105, 115, 102, 105, 101, 115, 32]] = btsOf ⟨#[101, 118, 101, 114, 121]⟩ ++ 32 :: (btsOf s ++ 32 :: (btsOf ⟨#[105, 110]⟩ ++ 32 :: (partT bare 0 a ++ 32 :: (btsOf ⟨#[115, 97, 116, 105, 115, 102, 105, 101, 115]⟩ ++ 32 :: partT bare 0 b)))) from by simp [wordsT, btsOf]]
    exact h
  · obtain ⟨a, rfl⟩ := one (j := 15) rfl h1
    obtain ⟨x, rfl, ha⟩ := f2_one hPQ
    have pa := ha.part bare 0
    have hj := join_lexS (32 :: partT bare 0 a) _ pa.1.pre ns hns
    have h := (lit_lex 1 _ kfun).st (hj.sign (c := 40) (.inl (by simp))) (st_stop 40 _ (by decide)) fun e => absurd e (stop_ne 40 _ (by decide))
    refine ⟨?_, (((pa.2.cons _).app _).cons _).cons _⟩
    show LexL (wordsT bare [a] [[102, 117, 110, 99, 116, 105, 111, 110, 40] ++ joinT ns ++ [41, 32]]) _
    rw [show wordsT bare [a] [[102, 117, 110, 99, 116, 105, 111, 110, 40] ++ joinT ns ++ [41, 32]] = btsOf ⟨#[102, 117, 110, 99, 116, 105, 111, 110]⟩ ++ 40 :: (joinT ns ++ 41 :: (32 :: partT bare 0 a)) from by simp [wordsT, btsOf]]
    exact h
  · have h := (list_lex bare [] (by simp) [] [] 93 (by simp) LexL.nil P Q hPQ).sign (c := 91) (.inl (by simp))
    refine ⟨?_, ((LastT.sg (c := 93) (by decide)).app _).cons _⟩
    show LexL ([91] ++ listT bare [] 0 P ++ [93]) _
    rw [show [91] ++ listT bare [] 0 P ++ [93] = 91 :: (listT bare [] 0 P ++ [93]) from by simp]
    exact h
  · have h := (list_lex bare ns hns [] [] 125 (by simp) LexL.nil P Q hPQ).sign (c := 123) (.inl (by simp))
    refine ⟨?_, ((LastT.sg (c := 125) (by decide)).app _).cons _⟩
    show LexL ([123] ++ listT bare ns 0 P ++ [125]) _
    rw [show [123] ++ listT bare ns 0 P ++ [125] = 123 :: (listT bare ns 0 P ++ [125]) from by simp]
    exact h
  · obtain ⟨a, b, rfl⟩ := two (j := 18) rfl h1
    obtain ⟨x, y, rfl, ha, hb⟩ := f2_two hPQ
    have pa := ha.part bare 0
    have pb := hb.part bare 0
    have key : ∀ o c : UInt8, (o = 91 ∨ o = 40) → (c = 93 ∨ c = 41) → Lx1 (o :: (partT bare 0 a ++ 46 :: 46 :: (partT bare 0 b ++ [c]))) (sg o :: (partK bare 0 x ++ ((4, ⟨#[46, 46]⟩) :: (partK bare 0 y ++ [sg c])))) := by
      intro o c ho hc
      have hc2 : c ∈ [(41 : UInt8), 93, 125, 44, 58, 91, 40] ∧ c ≠ 46 := by rcases hc with rfl | rfl <;> decide
      have ho2 : o ∈ [(40 : UInt8), 91, 123, 45, 44, 58, 41, 93, 125] := by rcases ho with rfl | rfl <;> decide
      have h := ((pa.1.st (Lx1.stop pb.1 c hc2.1 LexL.nil).dots (st_dot 46 _ (by rfl)) fun _ => pa.2)).sign (c := o) (.inl ho2)
      exact ⟨h, ((((LastT.sg hc2.2).app _).cons _).app _).cons _⟩
    have hs := hspan rfl
    simp only [spanS, List.mem_cons, List.not_mem_nil, or_false] at hs
    rcases hs with rfl | rfl | rfl | rfl
    · have h := key 91 93 (by simp) (by simp)
      have e1 : (⟨#[91, 93]⟩ : ByteArray).extract 0 1 = ⟨#[91]⟩ := by decide +kernel
      have e2 : (⟨#[91, 93]⟩ : ByteArray).extract 1 2 = ⟨#[93]⟩ := by decide +kernel
      show Lx1 (wordsT bare [a, b] [(btsOf ⟨#[91, 93]⟩).take 1, [46, 46]] ++ (btsOf ⟨#[91, 93]⟩).drop 1) ((4, (⟨#[91, 93]⟩ : ByteArray).extract 0 1) :: (partK bare 0 x ++ ((4, ⟨#[46, 46]⟩) :: (partK bare 0 y ++ [(4, (⟨#[91, 93]⟩ : ByteArray).extract 1 2)]))))
      rw [e1, e2, show wordsT bare [a, b] [(btsOf ⟨#[91, 93]⟩).take 1, [46, 46]] ++ (btsOf ⟨#[91, 93]⟩).drop 1 = 91 :: (partT bare 0 a ++ 46 :: 46 :: (partT bare 0 b ++ [93])) from by simp [wordsT, btsOf]]
      exact h
    · have h := key 91 41 (by simp) (by simp)
      have e1 : (⟨#[91, 41]⟩ : ByteArray).extract 0 1 = ⟨#[91]⟩ := by decide +kernel
      have e2 : (⟨#[91, 41]⟩ : ByteArray).extract 1 2 = ⟨#[41]⟩ := by decide +kernel
      show Lx1 (wordsT bare [a, b] [(btsOf ⟨#[91, 41]⟩).take 1, [46, 46]] ++ (btsOf ⟨#[91, 41]⟩).drop 1) ((4, (⟨#[91, 41]⟩ : ByteArray).extract 0 1) :: (partK bare 0 x ++ ((4, ⟨#[46, 46]⟩) :: (partK bare 0 y ++ [(4, (⟨#[91, 41]⟩ : ByteArray).extract 1 2)]))))
      rw [e1, e2, show wordsT bare [a, b] [(btsOf ⟨#[91, 41]⟩).take 1, [46, 46]] ++ (btsOf ⟨#[91, 41]⟩).drop 1 = 91 :: (partT bare 0 a ++ 46 :: 46 :: (partT bare 0 b ++ [41])) from by simp [wordsT, btsOf]]
      exact h
    · have h := key 40 93 (by simp) (by simp)
      have e1 : (⟨#[40, 93]⟩ : ByteArray).extract 0 1 = ⟨#[40]⟩ := by decide +kernel
      have e2 : (⟨#[40, 93]⟩ : ByteArray).extract 1 2 = ⟨#[93]⟩ := by decide +kernel
      show Lx1 (wordsT bare [a, b] [(btsOf ⟨#[40, 93]⟩).take 1, [46, 46]] ++ (btsOf ⟨#[40, 93]⟩).drop 1) ((4, (⟨#[40, 93]⟩ : ByteArray).extract 0 1) :: (partK bare 0 x ++ ((4, ⟨#[46, 46]⟩) :: (partK bare 0 y ++ [(4, (⟨#[40, 93]⟩ : ByteArray).extract 1 2)]))))
      rw [e1, e2, show wordsT bare [a, b] [(btsOf ⟨#[40, 93]⟩).take 1, [46, 46]] ++ (btsOf ⟨#[40, 93]⟩).drop 1 = 40 :: (partT bare 0 a ++ 46 :: 46 :: (partT bare 0 b ++ [93])) from by simp [wordsT, btsOf]]
      exact h
    · have h := key 40 41 (by simp) (by simp)
      have e1 : (⟨#[40, 41]⟩ : ByteArray).extract 0 1 = ⟨#[40]⟩ := by decide +kernel
      have e2 : (⟨#[40, 41]⟩ : ByteArray).extract 1 2 = ⟨#[41]⟩ := by decide +kernel
      show Lx1 (wordsT bare [a, b] [(btsOf ⟨#[40, 41]⟩).take 1, [46, 46]] ++ (btsOf ⟨#[40, 41]⟩).drop 1) ((4, (⟨#[40, 41]⟩ : ByteArray).extract 0 1) :: (partK bare 0 x ++ ((4, ⟨#[46, 46]⟩) :: (partK bare 0 y ++ [(4, (⟨#[40, 41]⟩ : ByteArray).extract 1 2)]))))
      rw [e1, e2, show wordsT bare [a, b] [(btsOf ⟨#[40, 41]⟩).take 1, [46, 46]] ++ (btsOf ⟨#[40, 41]⟩).drop 1 = 40 :: (partT bare 0 a ++ 46 :: 46 :: (partT bare 0 b ++ [41])) from by simp [wordsT, btsOf]]
      exact h
  · obtain ⟨a, rfl⟩ := one (j := 19) rfl h1
    obtain ⟨x, rfl, ha⟩ := f2_one hPQ
    have pa := ha.part bare 4
    have h := (lit_lex 4 s (test_lex s (htest rfl))).blank pa.1
    refine ⟨?_, pa.2.cons _⟩
    show LexL (btsOf s ++ [32] ++ partT bare 4 a) _
    rw [show btsOf s ++ [32] ++ partT bare 4 a = btsOf s ++ 32 :: partT bare 4 a from by simp]
    exact h
end Go.Proofs.YtpenfnabeckboaaGreatDoor

namespace Go.Proofs.YtpenfnabeckboaaGreatDoor

theorem own_quoteP {k : Int} {s : ByteArray} {ns : List ByteArray} {n : Nat} {t : Bool} (h : ownK k s ns n t = 0) (hk : k = 1) : ¬ chkS s < s.size := by
  intro hlt
  unfold ownK at h
  rw [if_pos (show k = 1 ∧ chkS s < s.size from ⟨hk, hlt⟩)] at h
  split at h
  · exact absurd h (by decide)
  · split at h
    · exact absurd h (by decide)
    · split at h
      · exact absurd h (by decide)
      · split at h
        · exact absurd h (by decide)
        · exact absurd h (by decide)
theorem quote_lex {s : ByteArray} (h : ¬ chkS s < s.size) : LexL (qB s) [(3, s)] := by
  have h1 := chk_ok s h
  exact ⟨ok_quoteB s h1, _, toks_quote s, rfl⟩
theorem parts_pl (bare : Bool) : ∀ l : List Ex, (∀ x ∈ l, Lx1 (prE qB bare x) (tkE bare x)) → All2 PL (prsE qB bare l) (tksE bare l)
  | [], _ => by unfold prsE tksE; exact .nil
  | x :: r, h => by
    unfold prsE tksE
    exact .cons ⟨rfl, rfl, h x (by simp)⟩ (parts_pl bare r fun y hy => h y (by simp [hy]))
theorem pr_lex (bare : Bool) : ∀ (n : Nat) (e : Ex), e.bulk ≤ n → OkE e → Lx1 (prE qB bare e) (tkE bare e) := by
  intro n
  induction n with
  | zero => intro e he; exfalso; have := bulk_eq e; omega
  | succ n ih =>
    intro e he hok
    obtain ⟨t, ho⟩ := hok.own
    have hf := own_form ho
    obtain ⟨h1, h2⟩ := form_len hf
    have ht : textK e.k e.s = true := by
      unfold formE at hf
      simp only [Bool.and_eq_true] at hf
      exact hf.2.2.1
    obtain ⟨n1, n2, _⟩ := own_names ho
    have hp := parts_pl bare e.l fun x hx => by
      obtain ⟨i, hi⟩ := List.getElem?_of_mem hx
      have := bulk_part hi
      exact ih x (by omega) (hok.part hi)
    rw [prE_eq, tkE_eq]
    refine shape_lex bare e.k e.s e.ns _ _ hp (own_kind ho) (by rw [prsE_map, List.length_map]; exact h1) (fun hk e' => h2 hk (by rw [prsE_map] at e'; simpa using e')) (fun hk => ?_) (fun hk => quote_lex (own_quoteP ho hk)) (fun hk => ?_) n1 n2 (fun hk => ?_) (fun hk => ?_) (fun hk => ?_)
    · rw [hk] at ht; exact ht
    · rw [hk] at ht; exact of_decide_eq_true ht
    · rw [hk] at ht; exact of_decide_eq_true ht
    · rw [hk] at ht; exact of_decide_eq_true ht
    · rw [hk] at ht; exact of_decide_eq_true ht

/-! Without parentheses. -/
def plainK (l : List TK) : List TK := l.filter fun t => !(decide (t = sg 40) || decide (t = sg 41))
theorem plainK_append (a b : List TK) : plainK (a ++ b) = plainK a ++ plainK b := List.filter_append ..
theorem plainK_cons (t : TK) (a : List TK) : plainK (t :: a) = plainK [t] ++ plainK a := plainK_append [t] a
theorem plainK_idem (a : List TK) : plainK (plainK a) = plainK a := by unfold plainK; rw [List.filter_filter]; simp
theorem plainK_paren : plainK [sg 40] = [] ∧ plainK [sg 41] = [] := by unfold plainK; simp
theorem plain_part (bare : Bool) (lev : Nat) (p : PtK) : plainK (partK bare lev p) = plainK p.t := by
  unfold partK
  split
  · rw [plainK_cons, plainK_append, plainK_paren.1, plainK_paren.2, List.nil_append, List.append_nil]
  · rfl
/-- A part, without parentheses. -/
def bareP (p : PtK) : PtK := ⟨p.k, 100, plainK p.t⟩
theorem plain_at (bare : Bool) (lev : Nat) (P : List PtK) (i : Nat) : plainK (atK bare lev P i) = plainK (atK false lev (P.map bareP) i) := by
  unfold atK
  rw [List.getElem?_map]
  cases P[i]? with
  | none => rfl
  | some p =>
    show plainK (partK bare lev p) = plainK (partK false lev (bareP p))
    rw [plain_part, plain_part]
    exact (plainK_idem _).symm
theorem plain_list (bare : Bool) (ns : List ByteArray) : ∀ (P : List PtK) (i : Nat), plainK (listK bare ns i P) = plainK (listK false ns i (P.map bareP))
  | [], _ => rfl
  | p :: r, i => by
    rw [List.map_cons]
    unfold listK
    rw [plainK_append, plainK_append, plainK_append, plainK_append, plainK_append, plainK_append, plain_part, plain_part, plain_list bare ns r (i + 1)]
    rw [show plainK (bareP p).t = plainK p.t from plainK_idem _]
theorem plain_tail (bare : Bool) (ns : List ByteArray) (P : List PtK) : plainK (listK bare ns 0 P.tail) = plainK (listK false ns 0 (P.map bareP).tail) := by
  rw [← List.map_tail]
  exact plain_list bare ns P.tail 0
theorem plain_in (bare : Bool) (P : List PtK) : plainK (match P[1]? with | some p => if p.k = 19 then p.t else partK bare 4 p | none => []) = plainK (match (P.map bareP)[1]? with | some p => if p.k = 19 then p.t else partK false 4 p | none => []) := by
  rw [List.getElem?_map]
  cases P[1]? with
  | none => rfl
  | some p =>
    show plainK (if p.k = 19 then p.t else partK bare 4 p) = plainK (if p.k = 19 then (bareP p).t else partK false 4 (bareP p))
    split
    · exact (plainK_idem _).symm
    · rw [plain_part, plain_part]
      exact (plainK_idem _).symm
/-- One token, if it is no parenthesis. -/
def pk1 (t : TK) : List TK := plainK [t]
theorem plainK_consP (t : TK) (a : List TK) : plainK (t :: a) = pk1 t ++ plainK a := plainK_cons t a
theorem plainK_nil : plainK [] = [] := rfl
theorem plain_shape (bare : Bool) (k : Int) (s : ByteArray) (ns : List ByteArray) (P : List PtK) (hk : 0 ≤ k ∧ k ≤ 19) : plainK (shapeK bare k s ns P) = plainK (shapeK false k s ns (P.map bareP)) := by
  have hc : k = 0 ∨ k = 1 ∨ k = 2 ∨ k = 3 ∨ k = 4 ∨ k = 5 ∨ k = 6 ∨ k = 7 ∨ k = 8 ∨ k = 9 ∨ k = 10 ∨ k = 11 ∨ k = 12 ∨ k = 13 ∨ k = 14 ∨ k = 15 ∨ k = 16 ∨ k = 17 ∨ k = 18 ∨ k = 19 := by omega
  rcases hc with rfl | rfl | rfl | rfl | rfl | rfl | rfl | rfl | rfl | rfl | rfl | rfl | rfl | rfl | rfl | rfl | rfl | rfl | rfl | rfl
  · rfl
  · rfl
  · rfl
  · rfl
  · show plainK (sg 45 :: atK bare 7 P 0) = plainK (sg 45 :: atK false 7 (P.map bareP) 0)
    simp only [plainK_consP, plain_at bare _ P]
  · show plainK (atK bare (if (signLv s).getD 0 = 3 then 4 else (signLv s).getD 0) P 0 ++ (opT s :: atK bare ((signLv s).getD 0 + 1) P 1)) = plainK (atK false (if (signLv s).getD 0 = 3 then 4 else (signLv s).getD 0) (P.map bareP) 0 ++ (opT s :: atK false ((signLv s).getD 0 + 1) (P.map bareP) 1))
    simp only [plainK_append, plainK_consP, plain_at bare _ P]
  · show plainK (atK bare 4 P 0 ++ ((1, ⟨#[98, 101, 116, 119, 101, 101, 110]⟩) :: (atK bare 4 P 1 ++ ((1, ⟨#[97, 110, 100]⟩) :: atK bare 4 P 2)))) = plainK (atK false 4 (P.map bareP) 0 ++ ((1, ⟨#[98, 101, 116, 119, 101, 101, 110]⟩) :: (atK false 4 (P.map bareP) 1 ++ ((1, ⟨#[97, 110, 100]⟩) :: atK false 4 (P.map bareP) 2))))
    simp only [plainK_append, plainK_consP, plain_at bare _ P]
  · show plainK (atK bare 4 P 0 ++ ((1, ⟨#[105, 110]⟩) :: (match P[1]? with | some p => if p.k = 19 then p.t else partK bare 4 p | none => []))) = plainK (atK false 4 (P.map bareP) 0 ++ ((1, ⟨#[105, 110]⟩) :: (match (P.map bareP)[1]? with | some p => if p.k = 19 then p.t else partK false 4 p | none => [])))
    simp only [plainK_append, plainK_consP, plain_at bare _ P, plain_in bare P]
  · show plainK (atK bare 8 P 0 ++ (sg 46 :: nameT s)) = plainK (atK false 8 (P.map bareP) 0 ++ (sg 46 :: nameT s))
    simp only [plainK_append, plainK_consP, plain_at bare _ P]
  · show plainK (atK bare 8 P 0 ++ (sg 91 :: (atK bare 0 P 1 ++ [sg 93]))) = plainK (atK false 8 (P.map bareP) 0 ++ (sg 91 :: (atK false 0 (P.map bareP) 1 ++ [sg 93])))
    simp only [plainK_append, plainK_consP, plainK_nil, plain_at bare _ P]
  · show plainK (atK bare 8 P 0 ++ (sg 40 :: (listK bare [] 0 P.tail ++ [sg 41]))) = plainK (atK false 8 (P.map bareP) 0 ++ (sg 40 :: (listK false [] 0 (P.map bareP).tail ++ [sg 41])))
    simp only [plainK_append, plainK_consP, plainK_nil, plain_at bare _ P, plain_tail bare _ P]
  · show plainK ((1, ⟨#[105, 102]⟩) :: (atK bare 0 P 0 ++ ((1, ⟨#[116, 104, 101, 110]⟩) :: (atK bare 0 P 1 ++ ((1, ⟨#[101, 108, 115, 101]⟩) :: atK bare 0 P 2))))) = plainK ((1, ⟨#[105, 102]⟩) :: (atK false 0 (P.map bareP) 0 ++ ((1, ⟨#[116, 104, 101, 110]⟩) :: (atK false 0 (P.map bareP) 1 ++ ((1, ⟨#[101, 108, 115, 101]⟩) :: atK false 0 (P.map bareP) 2)))))
    simp only [plainK_append, plainK_consP, plain_at bare _ P]
  · show plainK ((1, ⟨#[102, 111, 114]⟩) :: (nameT s ++ ((1, ⟨#[105, 110]⟩) :: (atK bare 0 P 0 ++ ((1, ⟨#[114, 101, 116, 117, 114, 110]⟩) :: atK bare 0 P 1))))) = plainK ((1, ⟨#[102, 111, 114]⟩) :: (nameT s ++ ((1, ⟨#[105, 110]⟩) :: (atK false 0 (P.map bareP) 0 ++ ((1, ⟨#[114, 101, 116, 117, 114, 110]⟩) :: atK false 0 (P.map bareP) 1)))))
    simp only [plainK_append, plainK_consP, plain_at bare _ P]
  · show plainK ((1, ⟨#[115, 111, 109, 101]⟩) :: (nameT s ++ ((1, ⟨#[105, 110]⟩) :: (atK bare 0 P 0 ++ ((1, ⟨#[115, 97, 116, 105, 115, 102, 105, 101, 115]⟩) :: atK bare 0 P 1))))) = plainK ((1, ⟨#[115, 111, 109, 101]⟩) :: (nameT s ++ ((1, ⟨#[105, 110]⟩) :: (atK false 0 (P.map bareP) 0 ++ ((1, ⟨#[115, 97, 116, 105, 115, 102, 105, 101, 115]⟩) :: atK false 0 (P.map bareP) 1)))))
    simp only [plainK_append, plainK_consP, plain_at bare _ P]
  · show plainK ((1, ⟨#[101, 118, 101, 114, 121]⟩) :: (nameT s ++ ((1, ⟨#[105, 110]⟩) :: (atK bare 0 P 0 ++ ((1, ⟨#[115, 97, 116, 105, 115, 102, 105, 101, 115]⟩) :: atK bare 0 P 1))))) = plainK ((1, ⟨#[101, 118, 101, 114, 121]⟩) :: (nameT s ++ ((1, ⟨#[105, 110]⟩) :: (atK false 0 (P.map bareP) 0 ++ ((1, ⟨#[115, 97, 116, 105, 115, 102, 105, 101, 115]⟩) :: atK false 0 (P.map bareP) 1)))))
    simp only [plainK_append, plainK_consP, plain_at bare _ P]
  · show plainK ((1, ⟨#[102, 117, 110, 99, 116, 105, 111, 110]⟩) :: (sg 40 :: (joinK ns ++ (sg 41 :: atK bare 0 P 0)))) = plainK ((1, ⟨#[102, 117, 110, 99, 116, 105, 111, 110]⟩) :: (sg 40 :: (joinK ns ++ (sg 41 :: atK false 0 (P.map bareP) 0))))
    simp only [plainK_append, plainK_consP, plain_at bare _ P]
  · show plainK (sg 91 :: (listK bare [] 0 P ++ [sg 93])) = plainK (sg 91 :: (listK false [] 0 (P.map bareP) ++ [sg 93]))
    simp only [plainK_append, plainK_consP, plainK_nil, plain_list bare _ P]
  · show plainK (sg 123 :: (listK bare ns 0 P ++ [sg 125])) = plainK (sg 123 :: (listK false ns 0 (P.map bareP) ++ [sg 125]))
    simp only [plainK_append, plainK_consP, plainK_nil, plain_list bare _ P]
  · show plainK ((4, s.extract 0 1) :: (atK bare 0 P 0 ++ ((4, ⟨#[46, 46]⟩) :: (atK bare 0 P 1 ++ [(4, s.extract 1 2)])))) = plainK ((4, s.extract 0 1) :: (atK false 0 (P.map bareP) 0 ++ ((4, ⟨#[46, 46]⟩) :: (atK false 0 (P.map bareP) 1 ++ [(4, s.extract 1 2)]))))
    simp only [plainK_append, plainK_consP, plainK_nil, plain_at bare _ P]
  · show plainK ((4, s) :: atK bare 4 P 0) = plainK ((4, s) :: atK false 4 (P.map bareP) 0)
    simp only [plainK_consP, plain_at bare _ P]
theorem pr_plain : ∀ (n : Nat) (e : Ex), e.bulk ≤ n → OkE e → plainK (tkE true e) = plainK (tkE false e) := by
  intro n
  induction n with
  | zero => intro e he; exfalso; have := bulk_eq e; omega
  | succ n ih =>
    intro e he hok
    obtain ⟨t, ho⟩ := hok.own
    rw [tkE_eq true, tkE_eq false]
    refine (plain_shape true _ _ _ _ (own_kind ho)).trans (Eq.trans ?_ (plain_shape false _ _ _ _ (own_kind ho)).symm)
    have hp : ∀ l : List Ex, (∀ x ∈ l, plainK (tkE true x) = plainK (tkE false x)) → (tksE true l).map bareP = (tksE false l).map bareP := by
      intro l
      induction l with
      | nil => intro _; unfold tksE; rfl
      | cons x r ihr =>
        intro hx
        unfold tksE
        rw [List.map_cons, List.map_cons, ihr fun y hy => hx y (by simp [hy])]
        show (⟨x.k, 100, plainK (tkE true x)⟩ : PtK) :: _ = ⟨x.k, 100, plainK (tkE false x)⟩ :: _
        rw [hx x (by simp)]
    rw [hp e.l fun x hx => by
      obtain ⟨i, hi⟩ := List.getElem?_of_mem hx
      have := bulk_part hi
      exact ih x (by omega) (hok.part hi)]
end Go.Proofs.YtpenfnabeckboaaGreatDoor

namespace Go.Proofs.YtpenfnabeckboaaGreatDoor

/-- Parts with no more tokens. -/
def LeP (p q : PtK) : Prop := p.k = q.k ∧ p.t.length ≤ q.t.length
theorem part_le {p q : PtK} (h : LeP p q) (lev : Nat) : (partK false lev p).length ≤ (partK true lev q).length := by
  have h2 := h.2
  unfold partK
  rw [if_pos (show true = true ∨ q.lv < lev from .inl rfl)]
  split
  · simp only [List.length_cons, List.length_append, List.length_nil]; omega
  · simp only [List.length_cons, List.length_append, List.length_nil]; omega
theorem at_le {P Q : List PtK} (h : All2 LeP P Q) (lev : Nat) : ∀ i, (atK false lev P i).length ≤ (atK true lev Q i).length := by
  induction h with
  | nil => intro i; exact Nat.le_refl _
  | cons hp _ ih =>
    intro i
    cases i with
    | zero => exact part_le hp lev
    | succ i => exact ih i
theorem list_le (ns : List ByteArray) {P Q : List PtK} (h : All2 LeP P Q) : ∀ i, (listK false ns i P).length ≤ (listK true ns i Q).length := by
  induction h with
  | nil => intro i; exact Nat.le_refl _
  | cons hp _ ih =>
    intro i
    have h1 := part_le hp 0
    have h2 := ih (i + 1)
    unfold listK
    simp only [List.length_append]
    omega
theorem tail_le (ns : List ByteArray) {P Q : List PtK} (h : All2 LeP P Q) : (listK false ns 0 P.tail).length ≤ (listK true ns 0 Q.tail).length := by
  cases h with
  | nil => exact Nat.le_refl _
  | cons _ hr => exact list_le ns hr 0
/-- The second part of 'in'. -/
def inK (bare : Bool) (P : List PtK) : List TK := match P[1]? with | some p => if p.k = 19 then p.t else partK bare 4 p | none => []
theorem in_le {P Q : List PtK} (h : All2 LeP P Q) : (inK false P).length ≤ (inK true Q).length := by
  cases h with
  | nil => exact Nat.le_refl _
  | cons _ hr =>
    cases hr with
    | nil => exact Nat.le_refl _
    | @cons a b _ _ hp _ =>
      show (if a.k = 19 then a.t else partK false 4 a).length ≤ (if b.k = 19 then b.t else partK true 4 b).length
      rw [hp.1]
      split
      · exact hp.2
      · exact part_le hp 4
theorem shape_le (k : Int) (s : ByteArray) (ns : List ByteArray) {P Q : List PtK} (h : All2 LeP P Q) (hk : 0 ≤ k ∧ k ≤ 19) : (shapeK false k s ns P).length ≤ (shapeK true k s ns Q).length := by
  have hc : k = 0 ∨ k = 1 ∨ k = 2 ∨ k = 3 ∨ k = 4 ∨ k = 5 ∨ k = 6 ∨ k = 7 ∨ k = 8 ∨ k = 9 ∨ k = 10 ∨ k = 11 ∨ k = 12 ∨ k = 13 ∨ k = 14 ∨ k = 15 ∨ k = 16 ∨ k = 17 ∨ k = 18 ∨ k = 19 := by omega
  have hi := in_le h
  have ht := tail_le [] h
  have hl := list_le ns h 0
  have hl0 := list_le [] h 0
  rcases hc with rfl | rfl | rfl | rfl | rfl | rfl | rfl | rfl | rfl | rfl | rfl | rfl | rfl | rfl | rfl | rfl | rfl | rfl | rfl | rfl
  · exact Nat.le_refl _
  · exact Nat.le_refl _
  · exact Nat.le_refl _
  · exact Nat.le_refl _
  · have a0 := at_le h 7 0
    show (sg 45 :: atK false 7 P 0).length ≤ (sg 45 :: atK true 7 Q 0).length
    simp only [List.length_cons]
    omega
  · have a0 := at_le h (if (signLv s).getD 0 = 3 then 4 else (signLv s).getD 0) 0
    have a1 := at_le h ((signLv s).getD 0 + 1) 1
    show (atK false (if (signLv s).getD 0 = 3 then 4 else (signLv s).getD 0) P 0 ++ (opT s :: atK false ((signLv s).getD 0 + 1) P 1)).length ≤ (atK true (if (signLv s).getD 0 = 3 then 4 else (signLv s).getD 0) Q 0 ++ (opT s :: atK true ((signLv s).getD 0 + 1) Q 1)).length
    simp only [List.length_append, List.length_cons]
    omega
  · have a0 := at_le h 4 0
    have a1 := at_le h 4 1
    have a2 := at_le h 4 2
    show (atK false 4 P 0 ++ ((1, ⟨#[98, 101, 116, 119, 101, 101, 110]⟩) :: (atK false 4 P 1 ++ ((1, ⟨#[97, 110, 100]⟩) :: atK false 4 P 2)))).length ≤ (atK true 4 Q 0 ++ ((1, ⟨#[98, 101, 116, 119, 101, 101, 110]⟩) :: (atK true 4 Q 1 ++ ((1, ⟨#[97, 110, 100]⟩) :: atK true 4 Q 2)))).length
    simp only [List.length_append, List.length_cons]
    omega
  · have a0 := at_le h 4 0
    show (atK false 4 P 0 ++ ((1, ⟨#[105, 110]⟩) :: inK false P)).length ≤ (atK true 4 Q 0 ++ ((1, ⟨#[105, 110]⟩) :: inK true Q)).length
    simp only [List.length_append, List.length_cons]
    omega
  · have a0 := at_le h 8 0
    show (atK false 8 P 0 ++ (sg 46 :: nameT s)).length ≤ (atK true 8 Q 0 ++ (sg 46 :: nameT s)).length
    simp only [List.length_append, List.length_cons]
    omega
  · have a0 := at_le h 8 0
    have a1 := at_le h 0 1
    show (atK false 8 P 0 ++ (sg 91 :: (atK false 0 P 1 ++ [sg 93]))).length ≤ (atK true 8 Q 0 ++ (sg 91 :: (atK true 0 Q 1 ++ [sg 93]))).length
    simp only [List.length_append, List.length_cons, List.length_nil]
    omega
  · have a0 := at_le h 8 0
    show (atK false 8 P 0 ++ (sg 40 :: (listK false [] 0 P.tail ++ [sg 41]))).length ≤ (atK true 8 Q 0 ++ (sg 40 :: (listK true [] 0 Q.tail ++ [sg 41]))).length
    simp only [List.length_append, List.length_cons, List.length_nil]
    omega
  · have a0 := at_le h 0 0
    have a1 := at_le h 0 1
    have a2 := at_le h 0 2
    show ((1, ⟨#[105, 102]⟩) :: (atK false 0 P 0 ++ ((1, ⟨#[116, 104, 101, 110]⟩) :: (atK false 0 P 1 ++ ((1, ⟨#[101, 108, 115, 101]⟩) :: atK false 0 P 2))))).length ≤ ((1, ⟨#[105, 102]⟩) :: (atK true 0 Q 0 ++ ((1, ⟨#[116, 104, 101, 110]⟩) :: (atK true 0 Q 1 ++ ((1, ⟨#[101, 108, 115, 101]⟩) :: atK true 0 Q 2))))).length
    simp only [List.length_append, List.length_cons]
    omega
  · have a0 := at_le h 0 0
    have a1 := at_le h 0 1
    show ((1, ⟨#[102, 111, 114]⟩) :: (nameT s ++ ((1, ⟨#[105, 110]⟩) :: (atK false 0 P 0 ++ ((1, ⟨#[114, 101, 116, 117, 114, 110]⟩) :: atK false 0 P 1))))).length ≤ ((1, ⟨#[102, 111, 114]⟩) :: (nameT s ++ ((1, ⟨#[105, 110]⟩) :: (atK true 0 Q 0 ++ ((1, ⟨#[114, 101, 116, 117, 114, 110]⟩) :: atK true 0 Q 1))))).length
    simp only [List.length_append, List.length_cons]
    omega
  · have a0 := at_le h 0 0
    have a1 := at_le h 0 1
    show ((1, ⟨#[115, 111, 109, 101]⟩) :: (nameT s ++ ((1, ⟨#[105, 110]⟩) :: (atK false 0 P 0 ++ ((1, ⟨#[115, 97, 116, 105, 115, 102, 105, 101, 115]⟩) :: atK false 0 P 1))))).length ≤ ((1, ⟨#[115, 111, 109, 101]⟩) :: (nameT s ++ ((1, ⟨#[105, 110]⟩) :: (atK true 0 Q 0 ++ ((1, ⟨#[115, 97, 116, 105, 115, 102, 105, 101, 115]⟩) :: atK true 0 Q 1))))).length
    simp only [List.length_append, List.length_cons]
    omega
  · have a0 := at_le h 0 0
    have a1 := at_le h 0 1
    show ((1, ⟨#[101, 118, 101, 114, 121]⟩) :: (nameT s ++ ((1, ⟨#[105, 110]⟩) :: (atK false 0 P 0 ++ ((1, ⟨#[115, 97, 116, 105, 115, 102, 105, 101, 115]⟩) :: atK false 0 P 1))))).length ≤ ((1, ⟨#[101, 118, 101, 114, 121]⟩) :: (nameT s ++ ((1, ⟨#[105, 110]⟩) :: (atK true 0 Q 0 ++ ((1, ⟨#[115, 97, 116, 105, 115, 102, 105, 101, 115]⟩) :: atK true 0 Q 1))))).length
    simp only [List.length_append, List.length_cons]
    omega
  · have a0 := at_le h 0 0
    show ((1, ⟨#[102, 117, 110, 99, 116, 105, 111, 110]⟩) :: (sg 40 :: (joinK ns ++ (sg 41 :: atK false 0 P 0)))).length ≤ ((1, ⟨#[102, 117, 110, 99, 116, 105, 111, 110]⟩) :: (sg 40 :: (joinK ns ++ (sg 41 :: atK true 0 Q 0)))).length
    simp only [List.length_append, List.length_cons]
    omega
  · show (sg 91 :: (listK false [] 0 P ++ [sg 93])).length ≤ (sg 91 :: (listK true [] 0 Q ++ [sg 93])).length
    simp only [List.length_append, List.length_cons, List.length_nil]
    omega
  · show (sg 123 :: (listK false ns 0 P ++ [sg 125])).length ≤ (sg 123 :: (listK true ns 0 Q ++ [sg 125])).length
    simp only [List.length_append, List.length_cons, List.length_nil]
    omega
  · have a0 := at_le h 0 0
    have a1 := at_le h 0 1
    show ((4, s.extract 0 1) :: (atK false 0 P 0 ++ ((4, ⟨#[46, 46]⟩) :: (atK false 0 P 1 ++ [(4, s.extract 1 2)])))).length ≤ ((4, s.extract 0 1) :: (atK true 0 Q 0 ++ ((4, ⟨#[46, 46]⟩) :: (atK true 0 Q 1 ++ [(4, s.extract 1 2)])))).length
    simp only [List.length_append, List.length_cons, List.length_nil]
    omega
  · have a0 := at_le h 4 0
    show ((4, s) :: atK false 4 P 0).length ≤ ((4, s) :: atK true 4 Q 0).length
    simp only [List.length_cons]
    omega
theorem tk_le : ∀ (n : Nat) (e : Ex), e.bulk ≤ n → OkE e → (tkE false e).length ≤ (tkE true e).length := by
  intro n
  induction n with
  | zero => intro e he; exfalso; have := bulk_eq e; omega
  | succ n ih =>
    intro e he hok
    obtain ⟨t, ho⟩ := hok.own
    have hp : ∀ l : List Ex, (∀ x ∈ l, (tkE false x).length ≤ (tkE true x).length) → All2 LeP (tksE false l) (tksE true l) := by
      intro l
      induction l with
      | nil => intro _; unfold tksE; exact .nil
      | cons x r ihr =>
        intro hx
        unfold tksE
        exact .cons ⟨rfl, hx x (by simp)⟩ (ihr fun y hy => hx y (by simp [hy]))
    rw [tkE_eq false, tkE_eq true]
    exact shape_le _ _ _ (hp e.l fun x hx => by
      obtain ⟨i, hi⟩ := List.getElem?_of_mem hx
      have := bulk_part hi
      exact ih x (by omega) (hok.part hi)) (own_kind ho)
end Go.Proofs.YtpenfnabeckboaaGreatDoor
