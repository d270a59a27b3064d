/-
  feelprint: a text's round, square and curly signs, counted (plain; printed by mk_pairs.py).
-/
import Derived.Test.YtpenfnabeckboaaGreatDoorFLI
namespace Go.Proofs.YtpenfnabeckboaaGreatDoor

/-- How many signs of one byte there are. -/
def cn (c : UInt8) (l : List TK) : Nat := l.countP fun t => decide (t = sg c)
theorem cn_nil (c : UInt8) : cn c [] = 0 := rfl
theorem cn_append (c : UInt8) (a b : List TK) : cn c (a ++ b) = cn c a + cn c b := List.countP_append
theorem cn_cons (c : UInt8) (t : TK) (a : List TK) : cn c (t :: a) = (if t = sg c then 1 else 0) + cn c a := by
  unfold cn
  rw [List.countP_cons, Nat.add_comm]
  by_cases h : t = sg c
  · simp [h]
  · simp [h]
theorem sg_iff (a c : UInt8) : sg a = sg c ↔ a = c := ⟨fun h => by
  have := congrArg (fun x : TK => x.2.data.toList) h
  simpa [sg] using this, fun h => by rw [h]⟩
theorem cn_sg (c d : UInt8) (a : List TK) : cn c (sg d :: a) = (if d = c then 1 else 0) + cn c a := by
  rw [cn_cons]
  by_cases h : d = c
  · rw [if_pos h, if_pos ((sg_iff d c).2 h)]
  · rw [if_neg h, if_neg (fun e => h ((sg_iff d c).1 e))]
theorem cn_kind (c : UInt8) (k : Int) (s : ByteArray) (a : List TK) (h : k ≠ 4) : cn c ((k, s) :: a) = cn c a := by
  rw [cn_cons, if_neg (fun e => h (congrArg Prod.fst e)), Nat.zero_add]
theorem cn_name (c : UInt8) (s : ByteArray) : cn c (nameT s) = 0 := by
  unfold nameT cn
  rw [List.countP_eq_zero]
  intro t ht
  obtain ⟨x, _, rfl⟩ := List.mem_map.1 ht
  simp [sg]
theorem cn_join (c : UInt8) (hc : c ≠ 44) : ∀ ns, cn c (joinK ns) = 0
  | [] => rfl
  | [x] => cn_name c x
  | x :: y :: r => by
    unfold joinK
    rw [cn_append, cn_sg, cn_name, cn_join c hc (y :: r), if_neg (Ne.symm hc)]
/-- A sign that is none of these. -/
def sixC : List UInt8 := [40, 91, 41, 93, 123, 125]
def neuB (t : TK) : Bool := sixC.all fun c => !decide (t = sg c)
theorem cn_neu {c : UInt8} (hc : c ∈ sixC) {t : TK} (h : neuB t = true) (a : List TK) : cn c (t :: a) = cn c a := by
  have := List.all_eq_true.1 h c hc
  rw [cn_cons, if_neg (by simpa using this), Nat.zero_add]
theorem bin_neu : ∀ s ∈ binS, neuB (opT s) = true := by decide +kernel
theorem test_neu : ∀ s ∈ testS, neuB (4, s) = true := by decide +kernel
theorem dots_neu : neuB (4, ⟨#[46, 46]⟩) = true := by decide +kernel
theorem cn_plain {c : UInt8} (h1 : c ≠ 40) (h2 : c ≠ 41) (l : List TK) : cn c (plainK l) = cn c l := by
  unfold cn plainK
  rw [List.countP_filter]
  congr 1
  funext t
  by_cases h : t = sg c
  · subst h
    simp [sg_iff, h1, h2]
  · simp [h]
/-! What the law counts. -/
def ownS (k : Int) (s : ByteArray) : Nat := if k = 10 ∨ k = 15 then 1 else if k = 18 ∧ s.size = 2 ∧ s.get! 0 = 40 then 1 else 0
def halfS (k : Int) (s : ByteArray) : Nat := if k = 18 ∧ s.size = 2 ∧ (decide (s.get! 0 = 40) != decide (s.get! 1 = 41)) = true then 1 else 0
mutual
def ownE : Ex → Nat
  | .mk k s _ l => ownS k s + ownsE l
def ownsE : List Ex → Nat
  | [] => 0
  | x :: r => ownE x + (if x.k = 19 then 0 else 1) + ownsE r
end
mutual
def halfE : Ex → Nat
  | .mk k s _ l => halfS k s + halfsE l
def halfsE : List Ex → Nat
  | [] => 0
  | x :: r => halfE x + halfsE r
end
theorem ownE_eq (e : Ex) : ownE e = ownS e.k e.s + ownsE e.l := by obtain ⟨k, s, ns, l⟩ := e; unfold ownE; rfl
theorem halfE_eq (e : Ex) : halfE e = halfS e.k e.s + halfsE e.l := by obtain ⟨k, s, ns, l⟩ := e; unfold halfE; rfl
theorem ownsE_nil : ownsE [] = 0 := by unfold ownsE; rfl
theorem ownsE_cons (x : Ex) (r : List Ex) : ownsE (x :: r) = ownE x + (if x.k = 19 then 0 else 1) + ownsE r := by rw [ownsE]
theorem halfsE_nil : halfsE [] = 0 := by unfold halfsE; rfl
theorem halfsE_cons (x : Ex) (r : List Ex) : halfsE (x :: r) = halfE x + halfsE r := by rw [halfsE]
/-- In balance, but for so many half open ranges of each kind. -/
def BalK (u v : Nat) (l : List TK) : Prop := cn 40 l + v = cn 41 l + u ∧ cn 91 l + u = cn 93 l + v ∧ cn 123 l = cn 125 l
def PB (x : Ex) (p : PtK) : Prop := ∃ u v, u + v = halfE x ∧ BalK u v p.t
theorem part_bal {u v : Nat} {p : PtK} (h : BalK u v p.t) (bare : Bool) (lev : Nat) : BalK u v (partK bare lev p) := by
  unfold partK
  split
  · obtain ⟨h1, h2, h3⟩ := h
    unfold BalK
    simp only [cn_sg, cn_append, cn_nil]
    simp
    omega
  · exact h
theorem listK_pre (bare : Bool) (ns : List ByteArray) (i : Nat) (p : PtK) (r : List PtK) : ∃ pre, (∀ c ∈ sixC, cn c pre = 0) ∧ listK bare ns i (p :: r) = pre ++ (partK bare 0 p ++ listK bare ns (i + 1) r) := by
  refine ⟨(if i = 0 then [] else [sg 44]) ++ (match ns[i]? with | some x => nameT x ++ [sg 58] | none => []), fun c hc => ?_, ?_⟩
  · have hc58 : ¬ (58 : UInt8) = c := fun e => by subst e; exact absurd hc (by decide)
    have hc44 : ¬ (44 : UInt8) = c := fun e => by subst e; exact absurd hc (by decide)
    have h1 : cn c (if i = 0 then [] else [sg 44]) = 0 := by
      split
      · rfl
      · rw [cn_sg, cn_nil, if_neg hc44]
    rw [cn_append, h1, Nat.zero_add]
    cases ns[i]? with
    | none => rfl
    | some x => show cn c (nameT x ++ [sg 58]) = 0; rw [cn_append, cn_name, cn_sg, cn_nil, if_neg hc58]
  · rw [List.append_assoc]
    rfl
theorem list_bal (bare : Bool) (ns : List ByteArray) {l : List Ex} {Q : List PtK} (h : All2 PB l Q) : ∀ i, ∃ u v, u + v = halfsE l ∧ BalK u v (listK bare ns i Q) := by
  induction h with
  | nil => intro i; exact ⟨0, 0, by rw [halfsE_nil], rfl, rfl, rfl⟩
  | @cons x p r Q hp _ ih =>
    intro i
    obtain ⟨u, v, h1, h2⟩ := hp
    obtain ⟨u', v', h3, h4⟩ := ih (i + 1)
    refine ⟨u + u', v + v', by rw [halfsE_cons]; omega, ?_⟩
    obtain ⟨a1, a2, a3⟩ := part_bal h2 bare 0
    obtain ⟨b1, b2, b3⟩ := h4
    obtain ⟨pre, hn, he⟩ := listK_pre bare ns i p Q
    rw [he]
    unfold BalK
    simp only [cn_append]
    rw [hn 40 (by decide), hn 41 (by decide), hn 91 (by decide), hn 93 (by decide), hn 123 (by decide), hn 125 (by decide)]
    omega
theorem all2_one {α β : Type} {R : α → β → Prop} {l : List α} {x : β} (h : All2 R l [x]) : ∃ a, l = [a] ∧ R a x := by
  cases h with | cons h1 h2 => cases h2; exact ⟨_, rfl, h1⟩
theorem all2_two {α β : Type} {R : α → β → Prop} {l : List α} {x y : β} (h : All2 R l [x, y]) : ∃ a b, l = [a, b] ∧ R a x ∧ R b y := by
  cases h with | cons h1 h2 => obtain ⟨b, rfl, h3⟩ := all2_one h2; exact ⟨_, _, rfl, h1, h3⟩
theorem all2_three {α β : Type} {R : α → β → Prop} {l : List α} {x y z : β} (h : All2 R l [x, y, z]) : ∃ a b c, l = [a, b, c] ∧ R a x ∧ R b y ∧ R c z := by
  cases h with | cons h1 h2 => obtain ⟨b, c, rfl, h3, h4⟩ := all2_two h2; exact ⟨_, _, _, rfl, h1, h3, h4⟩
theorem all2_len {α β : Type} {R : α → β → Prop} {l : List α} {m : List β} (h : All2 R l m) : l.length = m.length := by
  induction h with
  | nil => rfl
  | cons _ _ ih => rw [List.length_cons, List.length_cons, ih]
theorem all2_nil {α β : Type} {R : α → β → Prop} {l : List α} {m : List β} (h : All2 R l m) (h0 : m.length = 0) : l = [] ∧ m = [] :=
  ⟨List.length_eq_zero_iff.1 ((all2_len h).trans h0), List.length_eq_zero_iff.1 h0⟩
theorem all2_cons {α β : Type} {R : α → β → Prop} {l : List α} {x : β} {m : List β} (h : All2 R l (x :: m)) : ∃ a r, l = a :: r ∧ R a x ∧ All2 R r m := by
  cases h with | cons h1 h2 => exact ⟨_, _, rfl, h1, h2⟩
/-- The six counts of a range's two signs. -/
theorem span_cn : ∀ s ∈ spanS, (s = ⟨#[91, 93]⟩ ∨ s = ⟨#[91, 41]⟩ ∨ s = ⟨#[40, 93]⟩ ∨ s = ⟨#[40, 41]⟩) := by
  intro s hs
  simpa [spanS] using hs
theorem span_ext : (⟨#[91, 93]⟩ : ByteArray).extract 0 1 = ⟨#[91]⟩ ∧ (⟨#[91, 93]⟩ : ByteArray).extract 1 2 = ⟨#[93]⟩ ∧ (⟨#[91, 41]⟩ : ByteArray).extract 0 1 = ⟨#[91]⟩ ∧ (⟨#[91, 41]⟩ : ByteArray).extract 1 2 = ⟨#[41]⟩ ∧
    (⟨#[40, 93]⟩ : ByteArray).extract 0 1 = ⟨#[40]⟩ ∧ (⟨#[40, 93]⟩ : ByteArray).extract 1 2 = ⟨#[93]⟩ ∧ (⟨#[40, 41]⟩ : ByteArray).extract 0 1 = ⟨#[40]⟩ ∧ (⟨#[40, 41]⟩ : ByteArray).extract 1 2 = ⟨#[41]⟩ := by decide +kernel
theorem span_half : halfS 18 ⟨#[91, 93]⟩ = 0 ∧ halfS 18 ⟨#[91, 41]⟩ = 1 ∧ halfS 18 ⟨#[40, 93]⟩ = 1 ∧ halfS 18 ⟨#[40, 41]⟩ = 0 := by decide +kernel
theorem span_own : ownS 18 ⟨#[91, 93]⟩ = 0 ∧ ownS 18 ⟨#[91, 41]⟩ = 0 ∧ ownS 18 ⟨#[40, 93]⟩ = 1 ∧ ownS 18 ⟨#[40, 41]⟩ = 1 := by decide +kernel
theorem half_no {k : Int} (s : ByteArray) (h : k ≠ 18) : halfS k s = 0 := by unfold halfS; rw [if_neg (fun e => h e.1)]
theorem own_no {k : Int} (s : ByteArray) (h : k ≠ 18) (h1 : k ≠ 10) (h2 : k ≠ 15) : ownS k s = 0 := by
  unfold ownS; rw [if_neg (fun e => e.elim h1 h2), if_neg (fun e => h e.1)]
theorem own_one {k : Int} (s : ByteArray) (h : k = 10 ∨ k = 15) : ownS k s = 1 := by unfold ownS; rw [if_pos h]
theorem shape_bal (bare : Bool) (k : Int) (s : ByteArray) (ns : List ByteArray) (l : List Ex) (Q : List PtK) (hPQ : All2 PB l Q) (hk : 0 ≤ k ∧ k ≤ 19) (h1 : 0 ≤ partsK k → (Q.length : Int) = partsK k) (h2 : partsK k = -2 → Q ≠ []) (hbin : k = 5 → s ∈ binS) (hspan : k = 18 → s ∈ spanS) (htest : k = 19 → s ∈ testS) :
    ∃ u v, u + v = halfS k s + halfsE l ∧ BalK u v (shapeK bare k s ns Q) := by
  have hlen : (0 ≤ partsK k → (Q.length : Int) = partsK k) := h1
  have one : ∀ {j : Int}, partsK j = 1 → (0 ≤ partsK j → (Q.length : Int) = partsK j) → ∃ a, Q = [a] := fun hj h => List.length_eq_one_iff.1 (by have := h (by omega); omega)
  have two : ∀ {j : Int}, partsK j = 2 → (0 ≤ partsK j → (Q.length : Int) = partsK j) → ∃ a b, Q = [a, b] := fun hj h => by
    have hl : Q.length = 2 := by have := h (by omega); omega
    match Q, hl with
    | [a, b], _ => exact ⟨a, b, rfl⟩
  have three : ∀ {j : Int}, partsK j = 3 → (0 ≤ partsK j → (Q.length : Int) = partsK j) → ∃ a b c, Q = [a, b, c] := fun hj h => by
    have hl : Q.length = 3 := by have := h (by omega); omega
    match Q, hl with
    | [a, b, c], _ => exact ⟨a, b, c, rfl⟩
  have none0 : ∀ {j : Int}, partsK j = 0 → (0 ≤ partsK j → (Q.length : Int) = partsK j) → Q.length = 0 := fun hj h => by have := h (by omega); omega
  have hc : k = 0 ∨ k = 1 ∨ k = 2 ∨ k = 3 ∨ k = 4 ∨ k = 5 ∨ k = 6 ∨ k = 7 ∨ k = 8 ∨ k = 9 ∨ k = 10 ∨ k = 11 ∨ k = 12 ∨ k = 13 ∨ k = 14 ∨ k = 15 ∨ k = 16 ∨ k = 17 ∨ k = 18 ∨ k = 19 := by omega
  rcases hc with rfl | rfl | rfl | rfl | rfl | rfl | rfl | rfl | rfl | rfl | rfl | rfl | rfl | rfl | rfl | rfl | rfl | rfl | rfl | rfl
  · obtain ⟨rfl, rfl⟩ := all2_nil hPQ (none0 (j := 0) rfl hlen)
    refine ⟨0, 0, ?_, ?_⟩
    · rw [half_no s (by decide)]; rw [halfsE_nil]
    · show BalK _ _ ([((2, s) : TK)])
      unfold BalK
      simp only [cn_nil, cn_kind _ 2 _ _ (by decide)]
      simp
  · obtain ⟨rfl, rfl⟩ := all2_nil hPQ (none0 (j := 1) rfl hlen)
    refine ⟨0, 0, ?_, ?_⟩
    · rw [half_no s (by decide)]; rw [halfsE_nil]
    · show BalK _ _ ([((3, s) : TK)])
      unfold BalK
      simp only [cn_nil, cn_kind _ 3 _ _ (by decide)]
      simp
  · obtain ⟨rfl, rfl⟩ := all2_nil hPQ (none0 (j := 2) rfl hlen)
    refine ⟨0, 0, ?_, ?_⟩
    · rw [half_no s (by decide)]; rw [halfsE_nil]
    · show BalK _ _ ([((1, s) : TK)])
      unfold BalK
      simp only [cn_nil, cn_kind _ 1 _ _ (by decide)]
      simp
  · obtain ⟨rfl, rfl⟩ := all2_nil hPQ (none0 (j := 3) rfl hlen)
    refine ⟨0, 0, ?_, ?_⟩
    · rw [half_no s (by decide)]; rw [halfsE_nil]
    · show BalK _ _ (nameT s)
      unfold BalK
      simp only [cn_name]
      simp
  · obtain ⟨x, rfl⟩ := one (j := 4) rfl hlen
    obtain ⟨a, rfl, ha⟩ := all2_one hPQ
    obtain ⟨ua, va, hua, hba⟩ := ha
    have qa := part_bal hba bare 7
    refine ⟨ua, va, ?_, ?_⟩
    · rw [half_no s (by decide)]; simp only [halfsE_cons, halfsE_nil]; omega
    · show BalK _ _ (sg 45 :: partK bare 7 x)
      obtain ⟨qa1, qa2, qa3⟩ := qa
      unfold BalK
      simp only [cn_sg]
      simp
      omega
  · obtain ⟨x, y, rfl⟩ := two (j := 5) rfl hlen
    obtain ⟨a, b, rfl, ha, hb⟩ := all2_two hPQ
    obtain ⟨ua, va, hua, hba⟩ := ha
    have qa := part_bal hba bare (if (signLv s).getD 0 = 3 then 4 else (signLv s).getD 0)
    obtain ⟨ub, vb, hub, hbb⟩ := hb
    have qb := part_bal hbb bare ((signLv s).getD 0 + 1)
    refine ⟨ua + ub, va + vb, ?_, ?_⟩
    · rw [half_no s (by decide)]; simp only [halfsE_cons, halfsE_nil]; omega
    · show BalK _ _ (partK bare (if (signLv s).getD 0 = 3 then 4 else (signLv s).getD 0) x ++ (opT s :: partK bare ((signLv s).getD 0 + 1) y))
      obtain ⟨qa1, qa2, qa3⟩ := qa
      obtain ⟨qb1, qb2, qb3⟩ := qb
      unfold BalK
      simp only [cn_neu (c := 40) (by decide) (bin_neu s (hbin rfl)), cn_neu (c := 41) (by decide) (bin_neu s (hbin rfl)), cn_neu (c := 91) (by decide) (bin_neu s (hbin rfl)), cn_neu (c := 93) (by decide) (bin_neu s (hbin rfl)), cn_neu (c := 123) (by decide) (bin_neu s (hbin rfl)), cn_neu (c := 125) (by decide) (bin_neu s (hbin rfl)), cn_append]
      omega
  · obtain ⟨x, y, z, rfl⟩ := three (j := 6) rfl hlen
    obtain ⟨a, b, c, rfl, ha, hb, hc⟩ := all2_three hPQ
    obtain ⟨ua, va, hua, hba⟩ := ha
    have qa := part_bal hba bare 4
    obtain ⟨ub, vb, hub, hbb⟩ := hb
    have qb := part_bal hbb bare 4
    obtain ⟨uc, vc, huc, hbc⟩ := hc
    have qc := part_bal hbc bare 4
    refine ⟨ua + ub + uc, va + vb + vc, ?_, ?_⟩
    · rw [half_no s (by decide)]; simp only [halfsE_cons, halfsE_nil]; omega
    · show BalK _ _ (partK bare 4 x ++ (((1, ⟨#[98, 101, 116, 119, 101, 101, 110]⟩) : TK) :: (partK bare 4 y ++ (((1, ⟨#[97, 110, 100]⟩) : TK) :: partK bare 4 z))))
      obtain ⟨qa1, qa2, qa3⟩ := qa
      obtain ⟨qb1, qb2, qb3⟩ := qb
      obtain ⟨qc1, qc2, qc3⟩ := qc
      unfold BalK
      simp only [cn_append, cn_kind _ 1 _ _ (by decide)]
      omega
  · obtain ⟨x, y, rfl⟩ := two (j := 7) rfl hlen
    obtain ⟨a, b, rfl, ha, hb⟩ := all2_two hPQ
    obtain ⟨ua, va, hua, hba⟩ := ha
    have qa := part_bal hba bare 4
    obtain ⟨ub, vb, hub, hbb⟩ := hb
    have qb : BalK ub vb (if y.k = 19 then y.t else partK bare 4 y) := by
      split
      · exact hbb
      · exact part_bal hbb bare 4
    refine ⟨ua + ub, va + vb, ?_, ?_⟩
    · rw [half_no s (by decide)]; simp only [halfsE_cons, halfsE_nil]; omega
    · show BalK _ _ (partK bare 4 x ++ (((1, ⟨#[105, 110]⟩) : TK) :: (if y.k = 19 then y.t else partK bare 4 y)))
      obtain ⟨qa1, qa2, qa3⟩ := qa
      obtain ⟨qb1, qb2, qb3⟩ := qb
      unfold BalK
      simp only [cn_append, cn_kind _ 1 _ _ (by decide)]
      omega
  · obtain ⟨x, rfl⟩ := one (j := 8) rfl hlen
    obtain ⟨a, rfl, ha⟩ := all2_one hPQ
    obtain ⟨ua, va, hua, hba⟩ := ha
    have qa := part_bal hba bare 8
    refine ⟨ua, va, ?_, ?_⟩
    · rw [half_no s (by decide)]; simp only [halfsE_cons, halfsE_nil]; omega
    · show BalK _ _ (partK bare 8 x ++ (sg 46 :: nameT s))
      obtain ⟨qa1, qa2, qa3⟩ := qa
      unfold BalK
      simp only [cn_append, cn_sg, cn_name]
      simp
      omega
  · obtain ⟨x, y, rfl⟩ := two (j := 9) rfl hlen
    obtain ⟨a, b, rfl, ha, hb⟩ := all2_two hPQ
    obtain ⟨ua, va, hua, hba⟩ := ha
    have qa := part_bal hba bare 8
    obtain ⟨ub, vb, hub, hbb⟩ := hb
    have qb := part_bal hbb bare 0
    refine ⟨ua + ub, va + vb, ?_, ?_⟩
    · rw [half_no s (by decide)]; simp only [halfsE_cons, halfsE_nil]; omega
    · show BalK _ _ (partK bare 8 x ++ (sg 91 :: (partK bare 0 y ++ [sg 93])))
      obtain ⟨qa1, qa2, qa3⟩ := qa
      obtain ⟨qb1, qb2, qb3⟩ := qb
      unfold BalK
      simp only [cn_append, cn_nil, cn_sg]
      simp
      omega
  · cases Q with
    | nil => exact absurd rfl (h2 rfl)
    | cons x r =>
      obtain ⟨a, m, rfl, ha, hr⟩ := all2_cons hPQ
      obtain ⟨ua, va, hua, hba⟩ := ha
      have qa := part_bal hba bare 8
      obtain ⟨um, vm, hum, qm⟩ := list_bal bare [] hr 0
      refine ⟨ua + um, va + vm, ?_, ?_⟩
      · rw [half_no s (by decide)]; simp only [halfsE_cons]; omega
      · show BalK _ _ (partK bare 8 x ++ (sg 40 :: (listK bare [] 0 r ++ [sg 41])))
        obtain ⟨qa1, qa2, qa3⟩ := qa
        obtain ⟨qm1, qm2, qm3⟩ := qm
        unfold BalK
        simp only [cn_append, cn_nil, cn_sg]
        simp
        omega
  · obtain ⟨x, y, z, rfl⟩ := three (j := 11) rfl hlen
    obtain ⟨a, b, c, rfl, ha, hb, hc⟩ := all2_three hPQ
    obtain ⟨ua, va, hua, hba⟩ := ha
    have qa := part_bal hba bare 0
    obtain ⟨ub, vb, hub, hbb⟩ := hb
    have qb := part_bal hbb bare 0
    obtain ⟨uc, vc, huc, hbc⟩ := hc
    have qc := part_bal hbc bare 0
    refine ⟨ua + ub + uc, va + vb + vc, ?_, ?_⟩
    · rw [half_no s (by decide)]; simp only [halfsE_cons, halfsE_nil]; omega
    · show BalK _ _ (((1, ⟨#[105, 102]⟩) : TK) :: (partK bare 0 x ++ (((1, ⟨#[116, 104, 101, 110]⟩) : TK) :: (partK bare 0 y ++ (((1, ⟨#[101, 108, 115, 101]⟩) : TK) :: partK bare 0 z)))))
      obtain ⟨qa1, qa2, qa3⟩ := qa
      obtain ⟨qb1, qb2, qb3⟩ := qb
      obtain ⟨qc1, qc2, qc3⟩ := qc
      unfold BalK
      simp only [cn_append, cn_kind _ 1 _ _ (by decide)]
      omega
  · obtain ⟨x, y, rfl⟩ := two (j := 12) rfl hlen
    obtain ⟨a, b, rfl, ha, hb⟩ := all2_two hPQ
    obtain ⟨ua, va, hua, hba⟩ := ha
    have qa := part_bal hba bare 0
    obtain ⟨ub, vb, hub, hbb⟩ := hb
    have qb := part_bal hbb bare 0
    refine ⟨ua + ub, va + vb, ?_, ?_⟩
    · rw [half_no s (by decide)]; simp only [halfsE_cons, halfsE_nil]; omega
    · show BalK _ _ (((1, ⟨#[102, 111, 114]⟩) : TK) :: (nameT s ++ (((1, ⟨#[105, 110]⟩) : TK) :: (partK bare 0 x ++ (((1, ⟨#[114, 101, 116, 117, 114, 110]⟩) : TK) :: partK bare 0 y)))))
      obtain ⟨qa1, qa2, qa3⟩ := qa
      obtain ⟨qb1, qb2, qb3⟩ := qb
      unfold BalK
      simp only [cn_append, cn_name, cn_kind _ 1 _ _ (by decide)]
      omega
  · obtain ⟨x, y, rfl⟩ := two (j := 13) rfl hlen
    obtain ⟨a, b, rfl, ha, hb⟩ := all2_two hPQ
    obtain ⟨ua, va, hua, hba⟩ := ha
    have qa := part_bal hba bare 0
    obtain ⟨ub, vb, hub, hbb⟩ := hb
    have qb := part_bal hbb bare 0
    refine ⟨ua + ub, va + vb, ?_, ?_⟩
    · rw [half_no s (by decide)]; simp only [halfsE_cons, halfsE_nil]; omega
    · show BalK _ _ (((1, ⟨#[115, 111, 109, 101]⟩) : TK) :: (nameT s ++ (((1, ⟨#[105, 110]⟩) : TK) :: (partK bare 0 x ++ (((1, ⟨#[115, 97, 116, 105, 115, 102, 105, 101, 115]⟩) : TK) :: partK bare 0 y)))))
      obtain ⟨qa1, qa2, qa3⟩ := qa
      obtain ⟨qb1, qb2, qb3⟩ := qb
      unfold BalK
      simp only [cn_append, cn_name, cn_kind _ 1 _ _ (by decide)]
      omega
  · obtain ⟨x, y, rfl⟩ := two (j := 14) rfl hlen
    obtain ⟨a, b, rfl, ha, hb⟩ := all2_two hPQ
    obtain ⟨ua, va, hua, hba⟩ := ha
    have qa := part_bal hba bare 0
    obtain ⟨ub, vb, hub, hbb⟩ := hb
    have qb := part_bal hbb bare 0
    refine ⟨ua + ub, va + vb, ?_, ?_⟩
    · rw [half_no s (by decide)]; simp only [halfsE_cons, halfsE_nil]; omega
    · show BalK _ _ (((1, ⟨#[101, 118, 101, 114, 121]⟩) : TK) :: (nameT s ++ (((1, ⟨#[105, 110]⟩) : TK) :: (partK bare 0 x ++ (((1, ⟨#[115, 97, 116, 105, 115, 102, 105, 101, 115]⟩) : TK) :: partK bare 0 y)))))
      obtain ⟨qa1, qa2, qa3⟩ := qa
      obtain ⟨qb1, qb2, qb3⟩ := qb
      unfold BalK
      simp only [cn_append, cn_name, cn_kind _ 1 _ _ (by decide)]
      omega
  · obtain ⟨x, rfl⟩ := one (j := 15) rfl hlen
    obtain ⟨a, rfl, ha⟩ := all2_one hPQ
    obtain ⟨ua, va, hua, hba⟩ := ha
    have qa := part_bal hba bare 0
    refine ⟨ua, va, ?_, ?_⟩
    · rw [half_no s (by decide)]; simp only [halfsE_cons, halfsE_nil]; omega
    · show BalK _ _ (((1, ⟨#[102, 117, 110, 99, 116, 105, 111, 110]⟩) : TK) :: (sg 40 :: (joinK ns ++ (sg 41 :: partK bare 0 x))))
      obtain ⟨qa1, qa2, qa3⟩ := qa
      unfold BalK
      simp only [cn_append, cn_sg, cn_kind _ 1 _ _ (by decide), cn_join 40 (by decide), cn_join 41 (by decide), cn_join 91 (by decide), cn_join 93 (by decide), cn_join 123 (by decide), cn_join 125 (by decide)]
      simp
      omega
  · obtain ⟨um, vm, hum, qm⟩ := list_bal bare [] hPQ 0
    refine ⟨um, vm, ?_, ?_⟩
    · rw [half_no s (by decide)]; omega
    · show BalK _ _ (sg 91 :: (listK bare [] 0 Q ++ [sg 93]))
      obtain ⟨qm1, qm2, qm3⟩ := qm
      unfold BalK
      simp only [cn_append, cn_nil, cn_sg]
      simp
      omega
  · obtain ⟨um, vm, hum, qm⟩ := list_bal bare ns hPQ 0
    refine ⟨um, vm, ?_, ?_⟩
    · rw [half_no s (by decide)]; omega
    · show BalK _ _ (sg 123 :: (listK bare ns 0 Q ++ [sg 125]))
      obtain ⟨qm1, qm2, qm3⟩ := qm
      unfold BalK
      simp only [cn_append, cn_nil, cn_sg]
      simp
      omega
  · obtain ⟨x, y, rfl⟩ := two (j := 18) rfl hlen
    obtain ⟨a, b, rfl, ha, hb⟩ := all2_two hPQ
    obtain ⟨ua, va, hua, hba⟩ := ha
    have qa := part_bal hba bare 0
    obtain ⟨ub, vb, hub, hbb⟩ := hb
    have qb := part_bal hbb bare 0
    obtain ⟨e1, e2, e3, e4, e5, e6, e7, e8⟩ := span_ext
    obtain ⟨g1, g2, g3, g4⟩ := span_half
    rcases span_cn s (hspan rfl) with rfl | rfl | rfl | rfl
    · refine ⟨ua + ub, va + vb, ?_, ?_⟩
      · rw [g1]; simp only [halfsE_cons, halfsE_nil]; omega
      · show BalK _ _ (((4, (⟨#[91, 93]⟩ : ByteArray).extract 0 1) : TK) :: (partK bare 0 x ++ (((4, ⟨#[46, 46]⟩) : TK) :: (partK bare 0 y ++ [((4, (⟨#[91, 93]⟩ : ByteArray).extract 1 2) : TK)]))))
        obtain ⟨qa1, qa2, qa3⟩ := qa
        obtain ⟨qb1, qb2, qb3⟩ := qb
        rw [e1, e2, show ((4, ⟨#[91]⟩) : TK) = sg 91 from rfl, show ((4, ⟨#[93]⟩) : TK) = sg 93 from rfl]
        unfold BalK
        simp only [cn_neu (c := 40) (by decide) dots_neu, cn_neu (c := 41) (by decide) dots_neu, cn_neu (c := 91) (by decide) dots_neu, cn_neu (c := 93) (by decide) dots_neu, cn_neu (c := 123) (by decide) dots_neu, cn_neu (c := 125) (by decide) dots_neu, cn_append, cn_nil, cn_sg]
        simp
        omega
    · refine ⟨ua + ub, va + vb + 1, ?_, ?_⟩
      · rw [g2]; simp only [halfsE_cons, halfsE_nil]; omega
      · show BalK _ _ (((4, (⟨#[91, 41]⟩ : ByteArray).extract 0 1) : TK) :: (partK bare 0 x ++ (((4, ⟨#[46, 46]⟩) : TK) :: (partK bare 0 y ++ [((4, (⟨#[91, 41]⟩ : ByteArray).extract 1 2) : TK)]))))
        obtain ⟨qa1, qa2, qa3⟩ := qa
        obtain ⟨qb1, qb2, qb3⟩ := qb
        rw [e3, e4, show ((4, ⟨#[91]⟩) : TK) = sg 91 from rfl, show ((4, ⟨#[41]⟩) : TK) = sg 41 from rfl]
        unfold BalK
        simp only [cn_neu (c := 40) (by decide) dots_neu, cn_neu (c := 41) (by decide) dots_neu, cn_neu (c := 91) (by decide) dots_neu, cn_neu (c := 93) (by decide) dots_neu, cn_neu (c := 123) (by decide) dots_neu, cn_neu (c := 125) (by decide) dots_neu, cn_append, cn_nil, cn_sg]
        simp
        omega
    · refine ⟨ua + ub + 1, va + vb, ?_, ?_⟩
      · rw [g3]; simp only [halfsE_cons, halfsE_nil]; omega
      · show BalK _ _ (((4, (⟨#[40, 93]⟩ : ByteArray).extract 0 1) : TK) :: (partK bare 0 x ++ (((4, ⟨#[46, 46]⟩) : TK) :: (partK bare 0 y ++ [((4, (⟨#[40, 93]⟩ : ByteArray).extract 1 2) : TK)]))))
        obtain ⟨qa1, qa2, qa3⟩ := qa
        obtain ⟨qb1, qb2, qb3⟩ := qb
        rw [e5, e6, show ((4, ⟨#[40]⟩) : TK) = sg 40 from rfl, show ((4, ⟨#[93]⟩) : TK) = sg 93 from rfl]
        unfold BalK
        simp only [cn_neu (c := 40) (by decide) dots_neu, cn_neu (c := 41) (by decide) dots_neu, cn_neu (c := 91) (by decide) dots_neu, cn_neu (c := 93) (by decide) dots_neu, cn_neu (c := 123) (by decide) dots_neu, cn_neu (c := 125) (by decide) dots_neu, cn_append, cn_nil, cn_sg]
        simp
        omega
    · refine ⟨ua + ub, va + vb, ?_, ?_⟩
      · rw [g4]; simp only [halfsE_cons, halfsE_nil]; omega
      · show BalK _ _ (((4, (⟨#[40, 41]⟩ : ByteArray).extract 0 1) : TK) :: (partK bare 0 x ++ (((4, ⟨#[46, 46]⟩) : TK) :: (partK bare 0 y ++ [((4, (⟨#[40, 41]⟩ : ByteArray).extract 1 2) : TK)]))))
        obtain ⟨qa1, qa2, qa3⟩ := qa
        obtain ⟨qb1, qb2, qb3⟩ := qb
        rw [e7, e8, show ((4, ⟨#[40]⟩) : TK) = sg 40 from rfl, show ((4, ⟨#[41]⟩) : TK) = sg 41 from rfl]
        unfold BalK
        simp only [cn_neu (c := 40) (by decide) dots_neu, cn_neu (c := 41) (by decide) dots_neu, cn_neu (c := 91) (by decide) dots_neu, cn_neu (c := 93) (by decide) dots_neu, cn_neu (c := 123) (by decide) dots_neu, cn_neu (c := 125) (by decide) dots_neu, cn_append, cn_nil, cn_sg]
        simp
        omega
  · obtain ⟨x, rfl⟩ := one (j := 19) rfl hlen
    obtain ⟨a, rfl, ha⟩ := all2_one hPQ
    obtain ⟨ua, va, hua, hba⟩ := ha
    have qa := part_bal hba bare 4
    refine ⟨ua, va, ?_, ?_⟩
    · rw [half_no s (by decide)]; simp only [halfsE_cons, halfsE_nil]; omega
    · show BalK _ _ (((4, s) : TK) :: partK bare 4 x)
      obtain ⟨qa1, qa2, qa3⟩ := qa
      unfold BalK
      simp only [cn_neu (c := 40) (by decide) (test_neu s (htest rfl)), cn_neu (c := 41) (by decide) (test_neu s (htest rfl)), cn_neu (c := 91) (by decide) (test_neu s (htest rfl)), cn_neu (c := 93) (by decide) (test_neu s (htest rfl)), cn_neu (c := 123) (by decide) (test_neu s (htest rfl)), cn_neu (c := 125) (by decide) (test_neu s (htest rfl))]
      omega
def PE (x : Ex) (p : PtK) : Prop := p.k = x.k ∧ cn 40 p.t = ownE x
theorem part_eq {x : Ex} {p : PtK} (h : PE x p) (h19 : x.k ≠ 19) (lev : Nat) : cn 40 (partK true lev p) = ownE x + (if x.k = 19 then 0 else 1) := by
  have h2 := h.2
  rw [if_neg h19]
  unfold partK
  rw [if_pos (.inl rfl)]
  simp only [cn_sg, cn_append, cn_nil]
  simp
  omega
theorem list_eq (ns : List ByteArray) {l : List Ex} {Q : List PtK} (h : All2 PE l Q) : (∀ x ∈ l, x.k ≠ 19) → ∀ i, cn 40 (listK true ns i Q) = ownsE l := by
  induction h with
  | nil => intro _ i; rw [ownsE_nil]; rfl
  | @cons x p r Q hp _ ih =>
    intro h19 i
    have a1 := part_eq hp (h19 x (by simp)) 0
    have a2 := ih (fun y hy => h19 y (by simp [hy])) (i + 1)
    obtain ⟨pre, hn, he⟩ := listK_pre true ns i p Q
    rw [he, ownsE_cons]
    simp only [cn_append]
    rw [hn 40 (by decide)]
    omega
theorem shape_eq (k : Int) (s : ByteArray) (ns : List ByteArray) (l : List Ex) (Q : List PtK) (hPQ : All2 PE l Q) (hk : 0 ≤ k ∧ k ≤ 19) (h1 : 0 ≤ partsK k → (Q.length : Int) = partsK k) (h2 : partsK k = -2 → Q ≠ []) (hbin : k = 5 → s ∈ binS) (hspan : k = 18 → s ∈ spanS) (htest : k = 19 → s ∈ testS)
    (h19 : ∀ (i : Nat) (x : Ex), l[i]? = some x → x.k = 19 → k = 7 ∧ i = 1) : cn 40 (shapeK true k s ns Q) = ownS k s + ownsE l := by
  have hlen : (0 ≤ partsK k → (Q.length : Int) = partsK k) := h1
  have one : ∀ {j : Int}, partsK j = 1 → (0 ≤ partsK j → (Q.length : Int) = partsK j) → ∃ a, Q = [a] := fun hj h => List.length_eq_one_iff.1 (by have := h (by omega); omega)
  have two : ∀ {j : Int}, partsK j = 2 → (0 ≤ partsK j → (Q.length : Int) = partsK j) → ∃ a b, Q = [a, b] := fun hj h => by
    have hl : Q.length = 2 := by have := h (by omega); omega
    match Q, hl with
    | [a, b], _ => exact ⟨a, b, rfl⟩
  have three : ∀ {j : Int}, partsK j = 3 → (0 ≤ partsK j → (Q.length : Int) = partsK j) → ∃ a b c, Q = [a, b, c] := fun hj h => by
    have hl : Q.length = 3 := by have := h (by omega); omega
    match Q, hl with
    | [a, b, c], _ => exact ⟨a, b, c, rfl⟩
  have none0 : ∀ {j : Int}, partsK j = 0 → (0 ≤ partsK j → (Q.length : Int) = partsK j) → Q.length = 0 := fun hj h => by have := h (by omega); omega
  have hno : k ≠ 7 → ∀ x ∈ l, x.k ≠ 19 := fun h7 x hx hk => by
    obtain ⟨i, hi⟩ := List.getElem?_of_mem hx
    exact h7 (h19 i x hi hk).1
  have hc : k = 0 ∨ k = 1 ∨ k = 2 ∨ k = 3 ∨ k = 4 ∨ k = 5 ∨ k = 6 ∨ k = 7 ∨ k = 8 ∨ k = 9 ∨ k = 10 ∨ k = 11 ∨ k = 12 ∨ k = 13 ∨ k = 14 ∨ k = 15 ∨ k = 16 ∨ k = 17 ∨ k = 18 ∨ k = 19 := by omega
  rcases hc with rfl | rfl | rfl | rfl | rfl | rfl | rfl | rfl | rfl | rfl | rfl | rfl | rfl | rfl | rfl | rfl | rfl | rfl | rfl | rfl
  · obtain ⟨rfl, rfl⟩ := all2_nil hPQ (none0 (j := 0) rfl hlen)
    have hsh : shapeK true 0 s ns [] = [((2, s) : TK)] := rfl
    rw [hsh, own_no s (by decide) (by decide) (by decide)]
    simp only [ownsE_nil]
    simp only [cn_nil, cn_kind _ 2 _ _ (by decide)]
    first | done | omega | simp
  · obtain ⟨rfl, rfl⟩ := all2_nil hPQ (none0 (j := 1) rfl hlen)
    have hsh : shapeK true 1 s ns [] = [((3, s) : TK)] := rfl
    rw [hsh, own_no s (by decide) (by decide) (by decide)]
    simp only [ownsE_nil]
    simp only [cn_nil, cn_kind _ 3 _ _ (by decide)]
    first | done | omega | simp
  · obtain ⟨rfl, rfl⟩ := all2_nil hPQ (none0 (j := 2) rfl hlen)
    have hsh : shapeK true 2 s ns [] = [((1, s) : TK)] := rfl
    rw [hsh, own_no s (by decide) (by decide) (by decide)]
    simp only [ownsE_nil]
    simp only [cn_nil, cn_kind _ 1 _ _ (by decide)]
    first | done | omega | simp
  · obtain ⟨rfl, rfl⟩ := all2_nil hPQ (none0 (j := 3) rfl hlen)
    have hsh : shapeK true 3 s ns [] = nameT s := rfl
    rw [hsh, own_no s (by decide) (by decide) (by decide)]
    simp only [ownsE_nil]
    simp only [cn_name]
    first | done | omega | simp
  · obtain ⟨x, rfl⟩ := one (j := 4) rfl hlen
    obtain ⟨a, rfl, ha⟩ := all2_one hPQ
    have qa := part_eq ha (hno (by decide) a (by simp)) 7
    have hsh : shapeK true 4 s ns [x] = sg 45 :: partK true 7 x := rfl
    rw [hsh, own_no s (by decide) (by decide) (by decide)]
    simp only [ownsE_cons, ownsE_nil]
    simp only [cn_sg]
    (try simp only [show ((45 : UInt8) = 40) = False from by decide, if_false])
    omega
  · obtain ⟨x, y, rfl⟩ := two (j := 5) rfl hlen
    obtain ⟨a, b, rfl, ha, hb⟩ := all2_two hPQ
    have qa := part_eq ha (hno (by decide) a (by simp)) (if (signLv s).getD 0 = 3 then 4 else (signLv s).getD 0)
    have qb := part_eq hb (hno (by decide) b (by simp)) ((signLv s).getD 0 + 1)
    have hsh : shapeK true 5 s ns [x, y] = partK true (if (signLv s).getD 0 = 3 then 4 else (signLv s).getD 0) x ++ (opT s :: partK true ((signLv s).getD 0 + 1) y) := rfl
    rw [hsh, own_no s (by decide) (by decide) (by decide)]
    simp only [ownsE_cons, ownsE_nil]
    simp only [cn_neu (c := 40) (by decide) (bin_neu s (hbin rfl)), cn_append]
    (try simp only [show ((40 : UInt8) = 40) = True from by simp, show ((45 : UInt8) = 40) = False from by decide, show ((46 : UInt8) = 40) = False from by decide, show ((91 : UInt8) = 40) = False from by decide, show ((93 : UInt8) = 40) = False from by decide, show ((41 : UInt8) = 40) = False from by decide, show ((123 : UInt8) = 40) = False from by decide, show ((125 : UInt8) = 40) = False from by decide, if_true, if_false])
    omega
  · obtain ⟨x, y, z, rfl⟩ := three (j := 6) rfl hlen
    obtain ⟨a, b, c, rfl, ha, hb, hc⟩ := all2_three hPQ
    have qa := part_eq ha (hno (by decide) a (by simp)) 4
    have qb := part_eq hb (hno (by decide) b (by simp)) 4
    have qc := part_eq hc (hno (by decide) c (by simp)) 4
    have hsh : shapeK true 6 s ns [x, y, z] = partK true 4 x ++ (((1, ⟨#[98, 101, 116, 119, 101, 101, 110]⟩) : TK) :: (partK true 4 y ++ (((1, ⟨#[97, 110, 100]⟩) : TK) :: partK true 4 z))) := rfl
    rw [hsh, own_no s (by decide) (by decide) (by decide)]
    simp only [ownsE_cons, ownsE_nil]
    simp only [cn_append, cn_kind _ 1 _ _ (by decide)]
    (try simp only [show ((40 : UInt8) = 40) = True from by simp, show ((45 : UInt8) = 40) = False from by decide, show ((46 : UInt8) = 40) = False from by decide, show ((91 : UInt8) = 40) = False from by decide, show ((93 : UInt8) = 40) = False from by decide, show ((41 : UInt8) = 40) = False from by decide, show ((123 : UInt8) = 40) = False from by decide, show ((125 : UInt8) = 40) = False from by decide, if_true, if_false])
    omega
  · obtain ⟨x, y, rfl⟩ := two (j := 7) rfl hlen
    obtain ⟨a, b, rfl, ha, hb⟩ := all2_two hPQ
    have qa := part_eq ha (fun h => absurd (h19 0 a rfl h).2 (by decide)) 4
    have qb : cn 40 (if y.k = 19 then y.t else partK true 4 y) = ownE b + (if b.k = 19 then 0 else 1) := by
      have hb2 := hb.2
      rw [hb.1]
      split
      · omega
      · rename_i hn; have := part_eq hb hn 4; rw [if_neg hn] at this; exact this
    have hsh : shapeK true 7 s ns [x, y] = partK true 4 x ++ (((1, ⟨#[105, 110]⟩) : TK) :: (if y.k = 19 then y.t else partK true 4 y)) := rfl
    rw [hsh, own_no s (by decide) (by decide) (by decide)]
    simp only [ownsE_cons, ownsE_nil]
    simp only [cn_append, cn_kind _ 1 _ _ (by decide)]
    (try simp only [show ((40 : UInt8) = 40) = True from by simp, show ((45 : UInt8) = 40) = False from by decide, show ((46 : UInt8) = 40) = False from by decide, show ((91 : UInt8) = 40) = False from by decide, show ((93 : UInt8) = 40) = False from by decide, show ((41 : UInt8) = 40) = False from by decide, show ((123 : UInt8) = 40) = False from by decide, show ((125 : UInt8) = 40) = False from by decide, if_true, if_false])
    omega
  · obtain ⟨x, rfl⟩ := one (j := 8) rfl hlen
    obtain ⟨a, rfl, ha⟩ := all2_one hPQ
    have qa := part_eq ha (hno (by decide) a (by simp)) 8
    have hsh : shapeK true 8 s ns [x] = partK true 8 x ++ (sg 46 :: nameT s) := rfl
    rw [hsh, own_no s (by decide) (by decide) (by decide)]
    simp only [ownsE_cons, ownsE_nil]
    simp only [cn_append, cn_sg, cn_name]
    (try simp only [show ((46 : UInt8) = 40) = False from by decide, if_false])
    omega
  · obtain ⟨x, y, rfl⟩ := two (j := 9) rfl hlen
    obtain ⟨a, b, rfl, ha, hb⟩ := all2_two hPQ
    have qa := part_eq ha (hno (by decide) a (by simp)) 8
    have qb := part_eq hb (hno (by decide) b (by simp)) 0
    have hsh : shapeK true 9 s ns [x, y] = partK true 8 x ++ (sg 91 :: (partK true 0 y ++ [sg 93])) := rfl
    rw [hsh, own_no s (by decide) (by decide) (by decide)]
    simp only [ownsE_cons, ownsE_nil]
    simp only [cn_append, cn_nil, cn_sg]
    (try simp only [show ((91 : UInt8) = 40) = False from by decide, show ((93 : UInt8) = 40) = False from by decide, if_false])
    omega
  · cases Q with
    | nil => exact absurd rfl (h2 rfl)
    | cons x r =>
      obtain ⟨a, m, rfl, ha, hr⟩ := all2_cons hPQ
      have qa := part_eq ha (hno (by decide) a (by simp)) 8
      have qm := list_eq [] hr (fun x hx => hno (by decide) x (by simp [hx])) 0
      have hsh : shapeK true 10 s ns (x :: r) = partK true 8 x ++ (sg 40 :: (listK true [] 0 r ++ [sg 41])) := rfl
      rw [hsh, own_one s (by decide)]
      simp only [ownsE_cons]
      simp only [cn_append, cn_nil, cn_sg]
      (try simp only [show ((41 : UInt8) = 40) = False from by decide, if_true, if_false])
      omega
  · obtain ⟨x, y, z, rfl⟩ := three (j := 11) rfl hlen
    obtain ⟨a, b, c, rfl, ha, hb, hc⟩ := all2_three hPQ
    have qa := part_eq ha (hno (by decide) a (by simp)) 0
    have qb := part_eq hb (hno (by decide) b (by simp)) 0
    have qc := part_eq hc (hno (by decide) c (by simp)) 0
    have hsh : shapeK true 11 s ns [x, y, z] = ((1, ⟨#[105, 102]⟩) : TK) :: (partK true 0 x ++ (((1, ⟨#[116, 104, 101, 110]⟩) : TK) :: (partK true 0 y ++ (((1, ⟨#[101, 108, 115, 101]⟩) : TK) :: partK true 0 z)))) := rfl
    rw [hsh, own_no s (by decide) (by decide) (by decide)]
    simp only [ownsE_cons, ownsE_nil]
    simp only [cn_append, cn_kind _ 1 _ _ (by decide)]
    (try simp only [show ((40 : UInt8) = 40) = True from by simp, show ((45 : UInt8) = 40) = False from by decide, show ((46 : UInt8) = 40) = False from by decide, show ((91 : UInt8) = 40) = False from by decide, show ((93 : UInt8) = 40) = False from by decide, show ((41 : UInt8) = 40) = False from by decide, show ((123 : UInt8) = 40) = False from by decide, show ((125 : UInt8) = 40) = False from by decide, if_true, if_false])
    omega
  · obtain ⟨x, y, rfl⟩ := two (j := 12) rfl hlen
    obtain ⟨a, b, rfl, ha, hb⟩ := all2_two hPQ
    have qa := part_eq ha (hno (by decide) a (by simp)) 0
    have qb := part_eq hb (hno (by decide) b (by simp)) 0
    have hsh : shapeK true 12 s ns [x, y] = ((1, ⟨#[102, 111, 114]⟩) : TK) :: (nameT s ++ (((1, ⟨#[105, 110]⟩) : TK) :: (partK true 0 x ++ (((1, ⟨#[114, 101, 116, 117, 114, 110]⟩) : TK) :: partK true 0 y)))) := rfl
    rw [hsh, own_no s (by decide) (by decide) (by decide)]
    simp only [ownsE_cons, ownsE_nil]
    simp only [cn_append, cn_name, cn_kind _ 1 _ _ (by decide)]
    (try simp only [show ((40 : UInt8) = 40) = True from by simp, show ((45 : UInt8) = 40) = False from by decide, show ((46 : UInt8) = 40) = False from by decide, show ((91 : UInt8) = 40) = False from by decide, show ((93 : UInt8) = 40) = False from by decide, show ((41 : UInt8) = 40) = False from by decide, show ((123 : UInt8) = 40) = False from by decide, show ((125 : UInt8) = 40) = False from by decide, if_true, if_false])
    omega
  · obtain ⟨x, y, rfl⟩ := two (j := 13) rfl hlen
    obtain ⟨a, b, rfl, ha, hb⟩ := all2_two hPQ
    have qa := part_eq ha (hno (by decide) a (by simp)) 0
    have qb := part_eq hb (hno (by decide) b (by simp)) 0
    have hsh : shapeK true 13 s ns [x, y] = ((1, ⟨#[115, 111, 109, 101]⟩) : TK) :: (nameT s ++ (((1, ⟨#[105, 110]⟩) : TK) :: (partK true 0 x ++ (((1, ⟨#[115, 97, 116, 105, 115, 102, 105, 101, 115]⟩) : TK) :: partK true 0 y)))) := rfl
    rw [hsh, own_no s (by decide) (by decide) (by decide)]
    simp only [ownsE_cons, ownsE_nil]
    simp only [cn_append, cn_name, cn_kind _ 1 _ _ (by decide)]
    (try simp only [show ((40 : UInt8) = 40) = True from by simp, show ((45 : UInt8) = 40) = False from by decide, show ((46 : UInt8) = 40) = False from by decide, show ((91 : UInt8) = 40) = False from by decide, show ((93 : UInt8) = 40) = False from by decide, show ((41 : UInt8) = 40) = False from by decide, show ((123 : UInt8) = 40) = False from by decide, show ((125 : UInt8) = 40) = False from by decide, if_true, if_false])
    omega
  · obtain ⟨x, y, rfl⟩ := two (j := 14) rfl hlen
    obtain ⟨a, b, rfl, ha, hb⟩ := all2_two hPQ
    have qa := part_eq ha (hno (by decide) a (by simp)) 0
    have qb := part_eq hb (hno (by decide) b (by simp)) 0
    have hsh : shapeK true 14 s ns [x, y] = ((1, ⟨#[101, 118, 101, 114, 121]⟩) : TK) :: (nameT s ++ (((1, ⟨#[105, 110]⟩) : TK) :: (partK true 0 x ++ (((1, ⟨#[115, 97, 116, 105, 115, 102, 105, 101, 115]⟩) : TK) :: partK true 0 y)))) := rfl
    rw [hsh, own_no s (by decide) (by decide) (by decide)]
    simp only [ownsE_cons, ownsE_nil]
    simp only [cn_append, cn_name, cn_kind _ 1 _ _ (by decide)]
    (try simp only [show ((40 : UInt8) = 40) = True from by simp, show ((45 : UInt8) = 40) = False from by decide, show ((46 : UInt8) = 40) = False from by decide, show ((91 : UInt8) = 40) = False from by decide, show ((93 : UInt8) = 40) = False from by decide, show ((41 : UInt8) = 40) = False from by decide, show ((123 : UInt8) = 40) = False from by decide, show ((125 : UInt8) = 40) = False from by decide, if_true, if_false])
    omega
  · obtain ⟨x, rfl⟩ := one (j := 15) rfl hlen
    obtain ⟨a, rfl, ha⟩ := all2_one hPQ
    have qa := part_eq ha (hno (by decide) a (by simp)) 0
    have hsh : shapeK true 15 s ns [x] = ((1, ⟨#[102, 117, 110, 99, 116, 105, 111, 110]⟩) : TK) :: (sg 40 :: (joinK ns ++ (sg 41 :: partK true 0 x))) := rfl
    rw [hsh, own_one s (by decide)]
    simp only [ownsE_cons, ownsE_nil]
    simp only [cn_append, cn_sg, cn_kind _ 1 _ _ (by decide), cn_join 40 (by decide)]
    (try simp only [show ((41 : UInt8) = 40) = False from by decide, if_true, if_false])
    omega
  · have qm := list_eq [] hPQ (hno (by decide)) 0
    have hsh : shapeK true 16 s ns Q = sg 91 :: (listK true [] 0 Q ++ [sg 93]) := rfl
    rw [hsh, own_no s (by decide) (by decide) (by decide)]
    simp only [cn_append, cn_nil, cn_sg]
    (try simp only [show ((91 : UInt8) = 40) = False from by decide, show ((93 : UInt8) = 40) = False from by decide, if_false])
    omega
  · have qm := list_eq ns hPQ (hno (by decide)) 0
    have hsh : shapeK true 17 s ns Q = sg 123 :: (listK true ns 0 Q ++ [sg 125]) := rfl
    rw [hsh, own_no s (by decide) (by decide) (by decide)]
    simp only [cn_append, cn_nil, cn_sg]
    (try simp only [show ((123 : UInt8) = 40) = False from by decide, show ((125 : UInt8) = 40) = False from by decide, if_false])
    omega
  · obtain ⟨x, y, rfl⟩ := two (j := 18) rfl hlen
    obtain ⟨a, b, rfl, ha, hb⟩ := all2_two hPQ
    have qa := part_eq ha (hno (by decide) a (by simp)) 0
    have qb := part_eq hb (hno (by decide) b (by simp)) 0
    have hsh : shapeK true 18 s ns [x, y] = ((4, s.extract 0 1) : TK) :: (partK true 0 x ++ (((4, ⟨#[46, 46]⟩) : TK) :: (partK true 0 y ++ [((4, s.extract 1 2) : TK)]))) := rfl
    obtain ⟨e1, e2, e3, e4, e5, e6, e7, e8⟩ := span_ext
    obtain ⟨g1, g2, g3, g4⟩ := span_own
    rcases span_cn s (hspan rfl) with rfl | rfl | rfl | rfl
    · rw [hsh, g1]
      rw [e1, e2, show ((4, ⟨#[91]⟩) : TK) = sg 91 from rfl, show ((4, ⟨#[93]⟩) : TK) = sg 93 from rfl]
      simp only [ownsE_cons, ownsE_nil]
      simp only [cn_neu (c := 40) (by decide) dots_neu, cn_append, cn_nil, cn_sg]
      (try simp only [show ((91 : UInt8) = 40) = False from by decide, show ((93 : UInt8) = 40) = False from by decide, if_false])
      omega
    · rw [hsh, g2]
      rw [e3, e4, show ((4, ⟨#[91]⟩) : TK) = sg 91 from rfl, show ((4, ⟨#[41]⟩) : TK) = sg 41 from rfl]
      simp only [ownsE_cons, ownsE_nil]
      simp only [cn_neu (c := 40) (by decide) dots_neu, cn_append, cn_nil, cn_sg]
      (try simp only [show ((91 : UInt8) = 40) = False from by decide, show ((41 : UInt8) = 40) = False from by decide, if_false])
      omega
    · rw [hsh, g3]
      rw [e5, e6, show ((4, ⟨#[40]⟩) : TK) = sg 40 from rfl, show ((4, ⟨#[93]⟩) : TK) = sg 93 from rfl]
      simp only [ownsE_cons, ownsE_nil]
      simp only [cn_neu (c := 40) (by decide) dots_neu, cn_append, cn_nil, cn_sg]
      (try simp only [show ((93 : UInt8) = 40) = False from by decide, if_true, if_false])
      omega
    · rw [hsh, g4]
      rw [e7, e8, show ((4, ⟨#[40]⟩) : TK) = sg 40 from rfl, show ((4, ⟨#[41]⟩) : TK) = sg 41 from rfl]
      simp only [ownsE_cons, ownsE_nil]
      simp only [cn_neu (c := 40) (by decide) dots_neu, cn_append, cn_nil, cn_sg]
      (try simp only [show ((41 : UInt8) = 40) = False from by decide, if_true, if_false])
      omega
  · obtain ⟨x, rfl⟩ := one (j := 19) rfl hlen
    obtain ⟨a, rfl, ha⟩ := all2_one hPQ
    have qa := part_eq ha (hno (by decide) a (by simp)) 4
    have hsh : shapeK true 19 s ns [x] = ((4, s) : TK) :: partK true 4 x := rfl
    rw [hsh, own_no s (by decide) (by decide) (by decide)]
    simp only [ownsE_cons, ownsE_nil]
    simp only [cn_neu (c := 40) (by decide) (test_neu s (htest rfl))]
    (try simp only [show ((40 : UInt8) = 40) = True from by simp, show ((45 : UInt8) = 40) = False from by decide, show ((46 : UInt8) = 40) = False from by decide, show ((91 : UInt8) = 40) = False from by decide, show ((93 : UInt8) = 40) = False from by decide, show ((41 : UInt8) = 40) = False from by decide, show ((123 : UInt8) = 40) = False from by decide, show ((125 : UInt8) = 40) = False from by decide, if_true, if_false])
    omega
def PQ (x : Ex) (p : PtK) : Prop := p.k = x.k ∧ cn 40 p.t ≤ ownE x
theorem part_lq {x : Ex} {p : PtK} (h : PQ x p) (h19 : x.k ≠ 19) (lev : Nat) : cn 40 (partK false lev p) ≤ ownE x + (if x.k = 19 then 0 else 1) := by
  have h2 := h.2
  rw [if_neg h19]
  unfold partK
  split
  · simp only [cn_sg, cn_append, cn_nil]
    simp
    omega
  · omega
theorem list_lq (ns : List ByteArray) {l : List Ex} {Q : List PtK} (h : All2 PQ l Q) : (∀ x ∈ l, x.k ≠ 19) → ∀ i, cn 40 (listK false ns i Q) ≤ ownsE l := by
  induction h with
  | nil => intro _ i; rw [ownsE_nil]; exact Nat.le_refl _
  | @cons x p r Q hp _ ih =>
    intro h19 i
    have a1 := part_lq hp (h19 x (by simp)) 0
    have a2 := ih (fun y hy => h19 y (by simp [hy])) (i + 1)
    obtain ⟨pre, hn, he⟩ := listK_pre false ns i p Q
    rw [he, ownsE_cons]
    simp only [cn_append]
    rw [hn 40 (by decide)]
    omega
theorem shape_lq (k : Int) (s : ByteArray) (ns : List ByteArray) (l : List Ex) (Q : List PtK) (hPQ : All2 PQ l Q) (hk : 0 ≤ k ∧ k ≤ 19) (h1 : 0 ≤ partsK k → (Q.length : Int) = partsK k) (h2 : partsK k = -2 → Q ≠ []) (hbin : k = 5 → s ∈ binS) (hspan : k = 18 → s ∈ spanS) (htest : k = 19 → s ∈ testS)
    (h19 : ∀ (i : Nat) (x : Ex), l[i]? = some x → x.k = 19 → k = 7 ∧ i = 1) : cn 40 (shapeK false k s ns Q) ≤ ownS k s + ownsE l := by
  have hlen : (0 ≤ partsK k → (Q.length : Int) = partsK k) := h1
  have one : ∀ {j : Int}, partsK j = 1 → (0 ≤ partsK j → (Q.length : Int) = partsK j) → ∃ a, Q = [a] := fun hj h => List.length_eq_one_iff.1 (by have := h (by omega); omega)
  have two : ∀ {j : Int}, partsK j = 2 → (0 ≤ partsK j → (Q.length : Int) = partsK j) → ∃ a b, Q = [a, b] := fun hj h => by
    have hl : Q.length = 2 := by have := h (by omega); omega
    match Q, hl with
    | [a, b], _ => exact ⟨a, b, rfl⟩
  have three : ∀ {j : Int}, partsK j = 3 → (0 ≤ partsK j → (Q.length : Int) = partsK j) → ∃ a b c, Q = [a, b, c] := fun hj h => by
    have hl : Q.length = 3 := by have := h (by omega); omega
    match Q, hl with
    | [a, b, c], _ => exact ⟨a, b, c, rfl⟩
  have none0 : ∀ {j : Int}, partsK j = 0 → (0 ≤ partsK j → (Q.length : Int) = partsK j) → Q.length = 0 := fun hj h => by have := h (by omega); omega
  have hno : k ≠ 7 → ∀ x ∈ l, x.k ≠ 19 := fun h7 x hx hk => by
    obtain ⟨i, hi⟩ := List.getElem?_of_mem hx
    exact h7 (h19 i x hi hk).1
  have hc : k = 0 ∨ k = 1 ∨ k = 2 ∨ k = 3 ∨ k = 4 ∨ k = 5 ∨ k = 6 ∨ k = 7 ∨ k = 8 ∨ k = 9 ∨ k = 10 ∨ k = 11 ∨ k = 12 ∨ k = 13 ∨ k = 14 ∨ k = 15 ∨ k = 16 ∨ k = 17 ∨ k = 18 ∨ k = 19 := by omega
  rcases hc with rfl | rfl | rfl | rfl | rfl | rfl | rfl | rfl | rfl | rfl | rfl | rfl | rfl | rfl | rfl | rfl | rfl | rfl | rfl | rfl
  · obtain ⟨rfl, rfl⟩ := all2_nil hPQ (none0 (j := 0) rfl hlen)
    have hsh : shapeK false 0 s ns [] = [((2, s) : TK)] := rfl
    rw [hsh, own_no s (by decide) (by decide) (by decide)]
    simp only [ownsE_nil]
    simp only [cn_nil, cn_kind _ 2 _ _ (by decide)]
    first | done | omega | simp
  · obtain ⟨rfl, rfl⟩ := all2_nil hPQ (none0 (j := 1) rfl hlen)
    have hsh : shapeK false 1 s ns [] = [((3, s) : TK)] := rfl
    rw [hsh, own_no s (by decide) (by decide) (by decide)]
    simp only [ownsE_nil]
    simp only [cn_nil, cn_kind _ 3 _ _ (by decide)]
    first | done | omega | simp
  · obtain ⟨rfl, rfl⟩ := all2_nil hPQ (none0 (j := 2) rfl hlen)
    have hsh : shapeK false 2 s ns [] = [((1, s) : TK)] := rfl
    rw [hsh, own_no s (by decide) (by decide) (by decide)]
    simp only [ownsE_nil]
    simp only [cn_nil, cn_kind _ 1 _ _ (by decide)]
    first | done | omega | simp
  · obtain ⟨rfl, rfl⟩ := all2_nil hPQ (none0 (j := 3) rfl hlen)
    have hsh : shapeK false 3 s ns [] = nameT s := rfl
    rw [hsh, own_no s (by decide) (by decide) (by decide)]
    simp only [ownsE_nil]
    simp only [cn_name]
    first | done | omega | simp
  · obtain ⟨x, rfl⟩ := one (j := 4) rfl hlen
    obtain ⟨a, rfl, ha⟩ := all2_one hPQ
    have qa := part_lq ha (hno (by decide) a (by simp)) 7
    have hsh : shapeK false 4 s ns [x] = sg 45 :: partK false 7 x := rfl
    rw [hsh, own_no s (by decide) (by decide) (by decide)]
    simp only [ownsE_cons, ownsE_nil]
    simp only [cn_sg]
    (try simp only [show ((45 : UInt8) = 40) = False from by decide, if_false])
    omega
  · obtain ⟨x, y, rfl⟩ := two (j := 5) rfl hlen
    obtain ⟨a, b, rfl, ha, hb⟩ := all2_two hPQ
    have qa := part_lq ha (hno (by decide) a (by simp)) (if (signLv s).getD 0 = 3 then 4 else (signLv s).getD 0)
    have qb := part_lq hb (hno (by decide) b (by simp)) ((signLv s).getD 0 + 1)
    have hsh : shapeK false 5 s ns [x, y] = partK false (if (signLv s).getD 0 = 3 then 4 else (signLv s).getD 0) x ++ (opT s :: partK false ((signLv s).getD 0 + 1) y) := rfl
    rw [hsh, own_no s (by decide) (by decide) (by decide)]
    simp only [ownsE_cons, ownsE_nil]
    simp only [cn_neu (c := 40) (by decide) (bin_neu s (hbin rfl)), cn_append]
    (try simp only [show ((40 : UInt8) = 40) = True from by simp, show ((45 : UInt8) = 40) = False from by decide, show ((46 : UInt8) = 40) = False from by decide, show ((91 : UInt8) = 40) = False from by decide, show ((93 : UInt8) = 40) = False from by decide, show ((41 : UInt8) = 40) = False from by decide, show ((123 : UInt8) = 40) = False from by decide, show ((125 : UInt8) = 40) = False from by decide, if_true, if_false])
    omega
  · obtain ⟨x, y, z, rfl⟩ := three (j := 6) rfl hlen
    obtain ⟨a, b, c, rfl, ha, hb, hc⟩ := all2_three hPQ
    have qa := part_lq ha (hno (by decide) a (by simp)) 4
    have qb := part_lq hb (hno (by decide) b (by simp)) 4
    have qc := part_lq hc (hno (by decide) c (by simp)) 4
    have hsh : shapeK false 6 s ns [x, y, z] = partK false 4 x ++ (((1, ⟨#[98, 101, 116, 119, 101, 101, 110]⟩) : TK) :: (partK false 4 y ++ (((1, ⟨#[97, 110, 100]⟩) : TK) :: partK false 4 z))) := rfl
    rw [hsh, own_no s (by decide) (by decide) (by decide)]
    simp only [ownsE_cons, ownsE_nil]
    simp only [cn_append, cn_kind _ 1 _ _ (by decide)]
    (try simp only [show ((40 : UInt8) = 40) = True from by simp, show ((45 : UInt8) = 40) = False from by decide, show ((46 : UInt8) = 40) = False from by decide, show ((91 : UInt8) = 40) = False from by decide, show ((93 : UInt8) = 40) = False from by decide, show ((41 : UInt8) = 40) = False from by decide, show ((123 : UInt8) = 40) = False from by decide, show ((125 : UInt8) = 40) = False from by decide, if_true, if_false])
    omega
  · obtain ⟨x, y, rfl⟩ := two (j := 7) rfl hlen
    obtain ⟨a, b, rfl, ha, hb⟩ := all2_two hPQ
    have qa := part_lq ha (fun h => absurd (h19 0 a rfl h).2 (by decide)) 4
    have qb : cn 40 (if y.k = 19 then y.t else partK false 4 y) ≤ ownE b + (if b.k = 19 then 0 else 1) := by
      have hb2 := hb.2
      rw [hb.1]
      split
      · omega
      · rename_i hn; have := part_lq hb hn 4; rw [if_neg hn] at this; exact this
    have hsh : shapeK false 7 s ns [x, y] = partK false 4 x ++ (((1, ⟨#[105, 110]⟩) : TK) :: (if y.k = 19 then y.t else partK false 4 y)) := rfl
    rw [hsh, own_no s (by decide) (by decide) (by decide)]
    simp only [ownsE_cons, ownsE_nil]
    simp only [cn_append, cn_kind _ 1 _ _ (by decide)]
    (try simp only [show ((40 : UInt8) = 40) = True from by simp, show ((45 : UInt8) = 40) = False from by decide, show ((46 : UInt8) = 40) = False from by decide, show ((91 : UInt8) = 40) = False from by decide, show ((93 : UInt8) = 40) = False from by decide, show ((41 : UInt8) = 40) = False from by decide, show ((123 : UInt8) = 40) = False from by decide, show ((125 : UInt8) = 40) = False from by decide, if_true, if_false])
    omega
  · obtain ⟨x, rfl⟩ := one (j := 8) rfl hlen
    obtain ⟨a, rfl, ha⟩ := all2_one hPQ
    have qa := part_lq ha (hno (by decide) a (by simp)) 8
    have hsh : shapeK false 8 s ns [x] = partK false 8 x ++ (sg 46 :: nameT s) := rfl
    rw [hsh, own_no s (by decide) (by decide) (by decide)]
    simp only [ownsE_cons, ownsE_nil]
    simp only [cn_append, cn_sg, cn_name]
    (try simp only [show ((46 : UInt8) = 40) = False from by decide, if_false])
    omega
  · obtain ⟨x, y, rfl⟩ := two (j := 9) rfl hlen
    obtain ⟨a, b, rfl, ha, hb⟩ := all2_two hPQ
    have qa := part_lq ha (hno (by decide) a (by simp)) 8
    have qb := part_lq hb (hno (by decide) b (by simp)) 0
    have hsh : shapeK false 9 s ns [x, y] = partK false 8 x ++ (sg 91 :: (partK false 0 y ++ [sg 93])) := rfl
    rw [hsh, own_no s (by decide) (by decide) (by decide)]
    simp only [ownsE_cons, ownsE_nil]
    simp only [cn_append, cn_nil, cn_sg]
    (try simp only [show ((91 : UInt8) = 40) = False from by decide, show ((93 : UInt8) = 40) = False from by decide, if_false])
    omega
  · cases Q with
    | nil => exact absurd rfl (h2 rfl)
    | cons x r =>
      obtain ⟨a, m, rfl, ha, hr⟩ := all2_cons hPQ
      have qa := part_lq ha (hno (by decide) a (by simp)) 8
      have qm := list_lq [] hr (fun x hx => hno (by decide) x (by simp [hx])) 0
      have hsh : shapeK false 10 s ns (x :: r) = partK false 8 x ++ (sg 40 :: (listK false [] 0 r ++ [sg 41])) := rfl
      rw [hsh, own_one s (by decide)]
      simp only [ownsE_cons]
      simp only [cn_append, cn_nil, cn_sg]
      (try simp only [show ((41 : UInt8) = 40) = False from by decide, if_true, if_false])
      omega
  · obtain ⟨x, y, z, rfl⟩ := three (j := 11) rfl hlen
    obtain ⟨a, b, c, rfl, ha, hb, hc⟩ := all2_three hPQ
    have qa := part_lq ha (hno (by decide) a (by simp)) 0
    have qb := part_lq hb (hno (by decide) b (by simp)) 0
    have qc := part_lq hc (hno (by decide) c (by simp)) 0
    have hsh : shapeK false 11 s ns [x, y, z] = ((1, ⟨#[105, 102]⟩) : TK) :: (partK false 0 x ++ (((1, ⟨#[116, 104, 101, 110]⟩) : TK) :: (partK false 0 y ++ (((1, ⟨#[101, 108, 115, 101]⟩) : TK) :: partK false 0 z)))) := rfl
    rw [hsh, own_no s (by decide) (by decide) (by decide)]
    simp only [ownsE_cons, ownsE_nil]
    simp only [cn_append, cn_kind _ 1 _ _ (by decide)]
    (try simp only [show ((40 : UInt8) = 40) = True from by simp, show ((45 : UInt8) = 40) = False from by decide, show ((46 : UInt8) = 40) = False from by decide, show ((91 : UInt8) = 40) = False from by decide, show ((93 : UInt8) = 40) = False from by decide, show ((41 : UInt8) = 40) = False from by decide, show ((123 : UInt8) = 40) = False from by decide, show ((125 : UInt8) = 40) = False from by decide, if_true, if_false])
    omega
  · obtain ⟨x, y, rfl⟩ := two (j := 12) rfl hlen
    obtain ⟨a, b, rfl, ha, hb⟩ := all2_two hPQ
    have qa := part_lq ha (hno (by decide) a (by simp)) 0
    have qb := part_lq hb (hno (by decide) b (by simp)) 0
    have hsh : shapeK false 12 s ns [x, y] = ((1, ⟨#[102, 111, 114]⟩) : TK) :: (nameT s ++ (((1, ⟨#[105, 110]⟩) : TK) :: (partK false 0 x ++ (((1, ⟨#[114, 101, 116, 117, 114, 110]⟩) : TK) :: partK false 0 y)))) := rfl
    rw [hsh, own_no s (by decide) (by decide) (by decide)]
    simp only [ownsE_cons, ownsE_nil]
    simp only [cn_append, cn_name, cn_kind _ 1 _ _ (by decide)]
    (try simp only [show ((40 : UInt8) = 40) = True from by simp, show ((45 : UInt8) = 40) = False from by decide, show ((46 : UInt8) = 40) = False from by decide, show ((91 : UInt8) = 40) = False from by decide, show ((93 : UInt8) = 40) = False from by decide, show ((41 : UInt8) = 40) = False from by decide, show ((123 : UInt8) = 40) = False from by decide, show ((125 : UInt8) = 40) = False from by decide, if_true, if_false])
    omega
  · obtain ⟨x, y, rfl⟩ := two (j := 13) rfl hlen
    obtain ⟨a, b, rfl, ha, hb⟩ := all2_two hPQ
    have qa := part_lq ha (hno (by decide) a (by simp)) 0
    have qb := part_lq hb (hno (by decide) b (by simp)) 0
    have hsh : shapeK false 13 s ns [x, y] = ((1, ⟨#[115, 111, 109, 101]⟩) : TK) :: (nameT s ++ (((1, ⟨#[105, 110]⟩) : TK) :: (partK false 0 x ++ (((1, ⟨#[115, 97, 116, 105, 115, 102, 105, 101, 115]⟩) : TK) :: partK false 0 y)))) := rfl
    rw [hsh, own_no s (by decide) (by decide) (by decide)]
    simp only [ownsE_cons, ownsE_nil]
    simp only [cn_append, cn_name, cn_kind _ 1 _ _ (by decide)]
    (try simp only [show ((40 : UInt8) = 40) = True from by simp, show ((45 : UInt8) = 40) = False from by decide, show ((46 : UInt8) = 40) = False from by decide, show ((91 : UInt8) = 40) = False from by decide, show ((93 : UInt8) = 40) = False from by decide, show ((41 : UInt8) = 40) = False from by decide, show ((123 : UInt8) = 40) = False from by decide, show ((125 : UInt8) = 40) = False from by decide, if_true, if_false])
    omega
  · obtain ⟨x, y, rfl⟩ := two (j := 14) rfl hlen
    obtain ⟨a, b, rfl, ha, hb⟩ := all2_two hPQ
    have qa := part_lq ha (hno (by decide) a (by simp)) 0
    have qb := part_lq hb (hno (by decide) b (by simp)) 0
    have hsh : shapeK false 14 s ns [x, y] = ((1, ⟨#[101, 118, 101, 114, 121]⟩) : TK) :: (nameT s ++ (((1, ⟨#[105, 110]⟩) : TK) :: (partK false 0 x ++ (((1, ⟨#[115, 97, 116, 105, 115, 102, 105, 101, 115]⟩) : TK) :: partK false 0 y)))) := rfl
    rw [hsh, own_no s (by decide) (by decide) (by decide)]
    simp only [ownsE_cons, ownsE_nil]
    simp only [cn_append, cn_name, cn_kind _ 1 _ _ (by decide)]
    (try simp only [show ((40 : UInt8) = 40) = True from by simp, show ((45 : UInt8) = 40) = False from by decide, show ((46 : UInt8) = 40) = False from by decide, show ((91 : UInt8) = 40) = False from by decide, show ((93 : UInt8) = 40) = False from by decide, show ((41 : UInt8) = 40) = False from by decide, show ((123 : UInt8) = 40) = False from by decide, show ((125 : UInt8) = 40) = False from by decide, if_true, if_false])
    omega
  · obtain ⟨x, rfl⟩ := one (j := 15) rfl hlen
    obtain ⟨a, rfl, ha⟩ := all2_one hPQ
    have qa := part_lq ha (hno (by decide) a (by simp)) 0
    have hsh : shapeK false 15 s ns [x] = ((1, ⟨#[102, 117, 110, 99, 116, 105, 111, 110]⟩) : TK) :: (sg 40 :: (joinK ns ++ (sg 41 :: partK false 0 x))) := rfl
    rw [hsh, own_one s (by decide)]
    simp only [ownsE_cons, ownsE_nil]
    simp only [cn_append, cn_sg, cn_kind _ 1 _ _ (by decide), cn_join 40 (by decide)]
    (try simp only [show ((41 : UInt8) = 40) = False from by decide, if_true, if_false])
    omega
  · have qm := list_lq [] hPQ (hno (by decide)) 0
    have hsh : shapeK false 16 s ns Q = sg 91 :: (listK false [] 0 Q ++ [sg 93]) := rfl
    rw [hsh, own_no s (by decide) (by decide) (by decide)]
    simp only [cn_append, cn_nil, cn_sg]
    (try simp only [show ((91 : UInt8) = 40) = False from by decide, show ((93 : UInt8) = 40) = False from by decide, if_false])
    omega
  · have qm := list_lq ns hPQ (hno (by decide)) 0
    have hsh : shapeK false 17 s ns Q = sg 123 :: (listK false ns 0 Q ++ [sg 125]) := rfl
    rw [hsh, own_no s (by decide) (by decide) (by decide)]
    simp only [cn_append, cn_nil, cn_sg]
    (try simp only [show ((123 : UInt8) = 40) = False from by decide, show ((125 : UInt8) = 40) = False from by decide, if_false])
    omega
  · obtain ⟨x, y, rfl⟩ := two (j := 18) rfl hlen
    obtain ⟨a, b, rfl, ha, hb⟩ := all2_two hPQ
    have qa := part_lq ha (hno (by decide) a (by simp)) 0
    have qb := part_lq hb (hno (by decide) b (by simp)) 0
    have hsh : shapeK false 18 s ns [x, y] = ((4, s.extract 0 1) : TK) :: (partK false 0 x ++ (((4, ⟨#[46, 46]⟩) : TK) :: (partK false 0 y ++ [((4, s.extract 1 2) : TK)]))) := rfl
    obtain ⟨e1, e2, e3, e4, e5, e6, e7, e8⟩ := span_ext
    obtain ⟨g1, g2, g3, g4⟩ := span_own
    rcases span_cn s (hspan rfl) with rfl | rfl | rfl | rfl
    · rw [hsh, g1]
      rw [e1, e2, show ((4, ⟨#[91]⟩) : TK) = sg 91 from rfl, show ((4, ⟨#[93]⟩) : TK) = sg 93 from rfl]
      simp only [ownsE_cons, ownsE_nil]
      simp only [cn_neu (c := 40) (by decide) dots_neu, cn_append, cn_nil, cn_sg]
      (try simp only [show ((91 : UInt8) = 40) = False from by decide, show ((93 : UInt8) = 40) = False from by decide, if_false])
      omega
    · rw [hsh, g2]
      rw [e3, e4, show ((4, ⟨#[91]⟩) : TK) = sg 91 from rfl, show ((4, ⟨#[41]⟩) : TK) = sg 41 from rfl]
      simp only [ownsE_cons, ownsE_nil]
      simp only [cn_neu (c := 40) (by decide) dots_neu, cn_append, cn_nil, cn_sg]
      (try simp only [show ((91 : UInt8) = 40) = False from by decide, show ((41 : UInt8) = 40) = False from by decide, if_false])
      omega
    · rw [hsh, g3]
      rw [e5, e6, show ((4, ⟨#[40]⟩) : TK) = sg 40 from rfl, show ((4, ⟨#[93]⟩) : TK) = sg 93 from rfl]
      simp only [ownsE_cons, ownsE_nil]
      simp only [cn_neu (c := 40) (by decide) dots_neu, cn_append, cn_nil, cn_sg]
      (try simp only [show ((93 : UInt8) = 40) = False from by decide, if_true, if_false])
      omega
    · rw [hsh, g4]
      rw [e7, e8, show ((4, ⟨#[40]⟩) : TK) = sg 40 from rfl, show ((4, ⟨#[41]⟩) : TK) = sg 41 from rfl]
      simp only [ownsE_cons, ownsE_nil]
      simp only [cn_neu (c := 40) (by decide) dots_neu, cn_append, cn_nil, cn_sg]
      (try simp only [show ((41 : UInt8) = 40) = False from by decide, if_true, if_false])
      omega
  · obtain ⟨x, rfl⟩ := one (j := 19) rfl hlen
    obtain ⟨a, rfl, ha⟩ := all2_one hPQ
    have qa := part_lq ha (hno (by decide) a (by simp)) 4
    have hsh : shapeK false 19 s ns [x] = ((4, s) : TK) :: partK false 4 x := rfl
    rw [hsh, own_no s (by decide) (by decide) (by decide)]
    simp only [ownsE_cons, ownsE_nil]
    simp only [cn_neu (c := 40) (by decide) (test_neu s (htest rfl))]
    (try simp only [show ((40 : UInt8) = 40) = True from by simp, show ((45 : UInt8) = 40) = False from by decide, show ((46 : UInt8) = 40) = False from by decide, show ((91 : UInt8) = 40) = False from by decide, show ((93 : UInt8) = 40) = False from by decide, show ((41 : UInt8) = 40) = False from by decide, show ((123 : UInt8) = 40) = False from by decide, show ((125 : UInt8) = 40) = False from by decide, if_true, if_false])
    omega
/-! Expressions. -/
theorem ok_hyps {e : Ex} (hok : OkE e) : (0 ≤ e.k ∧ e.k ≤ 19) ∧ (0 ≤ partsK e.k → (e.l.length : Int) = partsK e.k) ∧ (partsK e.k = -2 → e.l ≠ []) ∧ (e.k = 5 → e.s ∈ binS) ∧ (e.k = 18 → e.s ∈ spanS) ∧ (e.k = 19 → e.s ∈ testS) ∧
    (∀ (i : Nat) (x : Ex), e.l[i]? = some x → x.k = 19 → e.k = 7 ∧ i = 1) := by
  obtain ⟨t, ho⟩ := hok.own
  have hf := own_form ho
  obtain ⟨h1, h2⟩ := form_len hf
  have ht : textK e.k e.s = true := by
    unfold formE at hf
    simp only [Bool.and_eq_true] at hf
    exact hf.2.2.1
  refine ⟨own_kind ho, h1, fun hk e' => h2 hk (by rw [e']; rfl), fun hk => ?_, fun hk => ?_, fun hk => ?_, fun i x hx hk => ?_⟩
  · rw [hk] at ht; exact of_decide_eq_true ht
  · rw [hk] at ht; exact of_decide_eq_true ht
  · rw [hk] at ht; exact of_decide_eq_true ht
  · obtain ⟨t2, hc⟩ := hok
    have hp := checkE_part hc hx
    have hp2 := hp
    rw [checkE_eq] at hp2
    split at hp2
    · rename_i hown
      have hf2 := own_form hown
      unfold formE at hf2
      simp only [Bool.and_eq_true] at hf2
      have h5 := hf2.2.2.2
      rw [hk] at h5
      have h6 : (decide (e.k = 7) && i == 1) = true := by
        cases hh : (decide (e.k = 7) && i == 1) with
        | true => rfl
        | false => rw [hh] at h5; exact absurd h5 (by decide)
      simp only [Bool.and_eq_true, decide_eq_true_eq, beq_iff_eq] at h6
      exact h6
    · rename_i hown
      exact absurd hp2 hown
theorem all2_tks {R : Ex → PtK → Prop} (bare : Bool) : ∀ l : List Ex, (∀ x ∈ l, R x ⟨x.k, levelE x, tkE bare x⟩) → All2 R l (tksE bare l)
  | [], _ => by unfold tksE; exact .nil
  | x :: r, h => by
    unfold tksE
    exact .cons (h x (by simp)) (all2_tks bare r fun y hy => h y (by simp [hy]))
theorem tk_bal (bare : Bool) : ∀ (n : Nat) (e : Ex), e.bulk ≤ n → OkE e → ∃ u v, u + v = halfE e ∧ BalK u v (tkE bare e) := by
  intro n
  induction n with
  | zero => intro e he; exfalso; have := bulk_eq e; omega
  | succ n ih =>
    intro e he hok
    obtain ⟨g0, g1, g2, g3, g4, g5, _⟩ := ok_hyps hok
    have hp : All2 PB e.l (tksE bare e.l) := all2_tks bare e.l fun x hx => by
      obtain ⟨i, hi⟩ := List.getElem?_of_mem hx
      have := bulk_part hi
      exact ih x (by omega) (hok.part hi)
    have hl := all2_len hp
    rw [tkE_eq, halfE_eq]
    exact shape_bal bare e.k e.s e.ns e.l _ hp g0 (by rw [← hl]; exact g1) (fun hk e' => g2 hk (List.length_eq_zero_iff.1 (by rw [hl, e']; rfl))) g3 g4 g5
theorem tk_own_eq : ∀ (n : Nat) (e : Ex), e.bulk ≤ n → OkE e → cn 40 (tkE true e) = ownE e := by
  intro n
  induction n with
  | zero => intro e he; exfalso; have := bulk_eq e; omega
  | succ n ih =>
    intro e he hok
    obtain ⟨g0, g1, g2, g3, g4, g5, g6⟩ := ok_hyps hok
    have hp : All2 PE e.l (tksE true e.l) := all2_tks true e.l fun x hx => by
      obtain ⟨i, hi⟩ := List.getElem?_of_mem hx
      have := bulk_part hi
      exact ⟨rfl, ih x (by omega) (hok.part hi)⟩
    have hl := all2_len hp
    rw [tkE_eq, ownE_eq]
    exact shape_eq e.k e.s e.ns e.l _ hp g0 (by rw [← hl]; exact g1) (fun hk e' => g2 hk (List.length_eq_zero_iff.1 (by rw [hl, e']; rfl))) g3 g4 g5 g6
theorem tk_own_lq : ∀ (n : Nat) (e : Ex), e.bulk ≤ n → OkE e → cn 40 (tkE false e) ≤ ownE e := by
  intro n
  induction n with
  | zero => intro e he; exfalso; have := bulk_eq e; omega
  | succ n ih =>
    intro e he hok
    obtain ⟨g0, g1, g2, g3, g4, g5, g6⟩ := ok_hyps hok
    have hp : All2 PQ e.l (tksE false e.l) := all2_tks false e.l fun x hx => by
      obtain ⟨i, hi⟩ := List.getElem?_of_mem hx
      have := bulk_part hi
      exact ⟨rfl, ih x (by omega) (hok.part hi)⟩
    have hl := all2_len hp
    rw [tkE_eq, ownE_eq]
    exact shape_lq e.k e.s e.ns e.l _ hp g0 (by rw [← hl]; exact g1) (fun hk e' => g2 hk (List.length_eq_zero_iff.1 (by rw [hl, e']; rfl))) g3 g4 g5 g6
/-- How many signs of one byte a text's tokens have. -/
def cT (c : UInt8) (L : List (Int × Nat × ByteArray)) : Nat := cn c (L.map unT)
theorem cT_text {L : List (Int × Nat × ByteArray)} {l : List TK} (h : L.map unT = l ++ [(5, ⟨#[]⟩)]) (c : UInt8) : cT c L = cn c l := by
  unfold cT
  rw [h, cn_append, cn_kind c 5 _ _ (by decide), cn_nil, Nat.add_zero]
/-- What the law asks. -/
theorem pairs {e : Ex} (h : CheckE e = 0) : ∃ n m, ∃ La Lb : List (Int × Nat × ByteArray), lexS (textE2 false e) = (La, n, 0) ∧ lexS (textE2 true e) = (Lb, m, 0) ∧
    cT 40 La + cT 91 La = cT 41 La + cT 93 La ∧ cT 123 La = cT 125 La ∧ cT 40 Lb + cT 91 Lb = cT 41 Lb + cT 93 Lb ∧ (halfE e = 0 → cT 40 La = cT 41 La ∧ cT 91 La = cT 93 La) ∧
    cT 40 Lb = ownE e ∧ cT 40 La ≤ ownE e ∧ cT 123 Lb = cT 123 La := by
  obtain ⟨n, La, h1, h2⟩ := lex_text h false
  obtain ⟨m, Lb, h3, h4⟩ := lex_text h true
  have hok := okE_of h
  obtain ⟨u, v, e1, a1, a2, a3⟩ := tk_bal false e.bulk e (Nat.le_refl _) hok
  obtain ⟨u', v', e2, b1, b2, b3⟩ := tk_bal true e.bulk e (Nat.le_refl _) hok
  have c1 := tk_own_eq e.bulk e (Nat.le_refl _) hok
  have c2 := tk_own_lq e.bulk e (Nat.le_refl _) hok
  have c3 : cn 123 (tkE true e) = cn 123 (tkE false e) := by
    rw [← cn_plain (by decide) (by decide) (tkE true e), ← cn_plain (by decide) (by decide) (tkE false e), pr_plain e.bulk e (Nat.le_refl _) hok]
  refine ⟨n, m, La, Lb, h1, h3, ?_⟩
  simp only [cT_text h2, cT_text h4]
  refine ⟨by omega, a3, by omega, fun h0 => ⟨by omega, by omega⟩, c1, c2, c3⟩
end Go.Proofs.YtpenfnabeckboaaGreatDoor
