/-
  xmlout: the bytes of right trees are one to one (plain).
-/
import Derived.Test.YtojeclfcgnamoaaDoorDQ
namespace Go.Proofs.YtojeclfcgnamoaaDoor

mutual
/-- Are two trees the same? with places, if asked. -/
def sameN (pl : Bool) : Nd → Nd → Bool
  | .mk t sp lo al ks tx, .mk t' sp' lo' al' ks' tx' => decide (sp = sp') && (decide (lo = lo') && (decide (tx = tx') && (decide (al = al') && ((!pl || decide (t = t')) && samesN pl ks ks'))))
def samesN (pl : Bool) : List Nd → List Nd → Bool
  | [], [] => true
  | x :: r, y :: s => sameN pl x y && samesN pl r s
  | [], _ :: _ => false
  | _ :: _, [] => false
end
theorem same_iff {t t' : Int} {sp lo tx sp' lo' tx' : ByteArray} {al al' : List Atr} {ks ks' : List Nd} : sameN false (.mk t sp lo al ks tx) (.mk t' sp' lo' al' ks' tx') = true ↔ sp = sp' ∧ lo = lo' ∧ tx = tx' ∧ al = al' ∧ samesN false ks ks' = true := by
  rw [sameN]
  simp only [Bool.and_eq_true, decide_eq_true_eq, Bool.not_false, Bool.true_or, true_and]
theorem same_of {t t' : Int} {sp lo tx sp' lo' tx' : ByteArray} {al al' : List Atr} {ks ks' : List Nd} (h1 : sp = sp') (h2 : lo = lo') (h3 : tx = tx') (h4 : al = al') (h5 : samesN false ks ks' = true) : sameN false (.mk t sp lo al ks tx) (.mk t' sp' lo' al' ks' tx') = true := same_iff.2 ⟨h1, h2, h3, h4, h5⟩
mutual
theorem same_met : ∀ (x y : Nd) (l : List Pr6), sameN false x y = true → metN l x = metN l y
  | .mk t sp lo al ks tx, .mk t' sp' lo' al' ks' tx', l, h => by
    obtain ⟨rfl, rfl, rfl, rfl, h5⟩ := same_iff.1 h
    rw [metN, metN]
    exact sames_met ks ks' _ h5
theorem sames_met : ∀ (a b : List Nd) (l : List Pr6), samesN false a b = true → metsN l a = metsN l b
  | [], [], _, _ => rfl
  | x :: r, y :: s, l, h => by
    rw [samesN, Bool.and_eq_true] at h
    rw [metsN, metsN, same_met x y l h.1]
    exact sames_met r s _ h.2
  | [], _ :: _, _, h => by rw [samesN] at h; cases h
  | _ :: _, [], _, h => by rw [samesN] at h; cases h
end
theorem sames_none {a b : List Nd} (h : samesN false a b = true) : a = [] ↔ b = [] := by
  cases a <;> cases b
  · exact Iff.rfl
  · rw [samesN] at h; cases h
  · rw [samesN] at h; cases h
  · simp
mutual
theorem same_wr : ∀ (x y : Nd) (l : List Pr6) (w : Bool), sameN false x y = true → wrN l w x = wrN l w y
  | .mk t sp lo al ks tx, .mk t' sp' lo' al' ks' tx', l, w, h => by
    obtain ⟨rfl, rfl, rfl, rfl, h5⟩ := same_iff.1 h
    rw [wrN, wrN, sames_wr ks ks' l h5]
    have := sames_none h5
    by_cases hk : ks = []
    · rw [if_pos hk, if_pos (this.1 hk)]
    · rw [if_neg hk, if_neg (fun e => hk (this.2 e))]
theorem sames_wr : ∀ (a b : List Nd) (l : List Pr6), samesN false a b = true → wrsN l a = wrsN l b
  | [], [], _, _ => rfl
  | x :: r, y :: s, l, h => by
    rw [samesN, Bool.and_eq_true] at h
    rw [wrsN, wrsN, same_wr x y l false h.1, sames_wr r s l h.2]
  | [], _ :: _, _, h => by rw [samesN] at h; cases h
  | _ :: _, [], _, h => by rw [samesN] at h; cases h
end

/-! Cutting bytes apart. -/
theorem cut_at (P : UInt8 → Bool) : ∀ (u v x y : List UInt8) (c d : UInt8), (∀ b ∈ u, P b = false) → (∀ b ∈ v, P b = false) → P c = true → P d = true → u ++ c :: x = v ++ d :: y → u = v ∧ c = d ∧ x = y
  | [], [], x, y, c, d, _, _, _, _, h => by injection h with h1 h2; exact ⟨rfl, h1, h2⟩
  | [], b :: v, x, y, c, d, _, hv, hc, _, h => by
    injection h with h1 _
    have := hv b (List.mem_cons_self ..)
    rw [← h1, hc] at this
    cases this
  | b :: u, [], x, y, c, d, hu, _, _, hd, h => by
    injection h with h1 _
    have := hu b (List.mem_cons_self ..)
    rw [h1, hd] at this
    cases this
  | b :: u, b' :: v, x, y, c, d, hu, hv, hc, hd, h => by
    injection h with h1 h2
    obtain ⟨g1, g2⟩ := cut_at P u v x y c d (fun z hz => hu z (List.mem_cons_of_mem _ hz)) (fun z hz => hv z (List.mem_cons_of_mem _ hz)) hc hd h2
    exact ⟨by rw [h1, g1], g2⟩
def stopB (c : UInt8) : Bool := c == 32 || (c == 34 || (c == 47 || (c == 60 || (c == 61 || c == 62))))
def spcE : List UInt8 := [38, 60, 62, 13, 34, 9, 10]
theorem esc_pairs : (spcE.all fun c => spcE.all fun d => (!(escC true c).isPrefixOf (escC true d) || c == d) && (!(escC false c).isPrefixOf (escC false d) || c == d)) = true := by decide +kernel
theorem esc_cases (v : Bool) (c : UInt8) : (c ∈ spcE) ∨ (escC v c = [c] ∧ c ≠ 38) := by
  by_cases h : c ∈ spcE
  · exact .inl h
  · have hn : ∀ k ∈ spcE, c ≠ k := fun k hk e => h (e ▸ hk)
    refine .inr ⟨?_, hn 38 (by decide)⟩
    unfold escC
    rw [if_neg (hn 38 (by decide)), if_neg (hn 60 (by decide)), if_neg (hn 62 (by decide)), if_neg (hn 13 (by decide)), if_neg (fun e => hn 34 (by decide) e.2), if_neg (fun e => hn 9 (by decide) e.2), if_neg (fun e => hn 10 (by decide) e.2)]
theorem esc_heads : (spcE.all fun c => ((escC true c).head? == some 38 || escC true c == [c]) && ((escC false c).head? == some 38 || escC false c == [c]) && (!(escC true c).isEmpty && !(escC false c).isEmpty) && ((escC true c).all (fun b => b != 34 && b != 60) && (escC false c).all (fun b => b != 60))) = true := by decide +kernel
theorem esc_head (v : Bool) {c : UInt8} (h : c ∈ spcE) : ((escC v c).head? = some 38 ∨ escC v c = [c]) ∧ escC v c ≠ [] ∧ (∀ b ∈ escC v c, b ≠ 60) ∧ (v = true → ∀ b ∈ escC v c, b ≠ 34) := by
  have := List.all_eq_true.1 esc_heads c h
  simp only [Bool.and_eq_true, Bool.or_eq_true, beq_iff_eq, Bool.not_eq_true', List.all_eq_true, bne_iff_ne, ne_eq, List.isEmpty_eq_false_iff] at this
  obtain ⟨⟨⟨h1, h2⟩, h3, h4⟩, h5, h6⟩ := this
  cases v
  · exact ⟨h2, h4, h6, fun e => by cases e⟩
  · exact ⟨h1, h3, fun b hb => (h5 b hb).2, fun _ b hb => (h5 b hb).1⟩
theorem esc_ne (v : Bool) (c : UInt8) : escC v c ≠ [] := by
  rcases esc_cases v c with h | ⟨h, _⟩
  · exact (esc_head v h).2.1
  · rw [h]; simp
theorem esc_60 (v : Bool) (c : UInt8) (_ : c ≠ 60 ∨ True) : ∀ b ∈ escC v c, b ≠ 60 := by
  rcases esc_cases v c with h | ⟨h, _⟩
  · exact (esc_head v h).2.2.1
  · rw [h]
    intro b hb e
    simp at hb
    subst hb
    subst e
    simp [escC] at h
theorem esc_34 (c : UInt8) : ∀ b ∈ escC true c, b ≠ 34 := by
  rcases esc_cases true c with h | ⟨h, _⟩
  · exact (esc_head true h).2.2.2 rfl
  · rw [h]
    intro b hb e
    simp at hb
    subst hb
    subst e
    simp [escC] at h
theorem esc_one (v : Bool) {c d : UInt8} {x y : List UInt8} (h : escC v c ++ x = escC v d ++ y) : c = d := by
  have hp : escC v c <+: escC v d ∨ escC v d <+: escC v c := List.prefix_or_prefix_of_prefix (List.prefix_append _ x) (h ▸ List.prefix_append _ y)
  rcases esc_cases v c with hc | ⟨hc, hc2⟩
  · rcases esc_cases v d with hd | ⟨hd, hd2⟩
    · have t1 := List.all_eq_true.1 (List.all_eq_true.1 esc_pairs c hc) d hd
      have t2 := List.all_eq_true.1 (List.all_eq_true.1 esc_pairs d hd) c hc
      simp only [Bool.and_eq_true, Bool.or_eq_true, Bool.not_eq_true', beq_iff_eq] at t1 t2
      rcases hp with hp | hp
      · have hq := List.isPrefixOf_iff_prefix.2 hp
        cases v
        · exact t1.2.resolve_left (by rw [hq]; simp)
        · exact t1.1.resolve_left (by rw [hq]; simp)
      · have hq := List.isPrefixOf_iff_prefix.2 hp
        cases v
        · exact (t2.2.resolve_left (by rw [hq]; simp)).symm
        · exact (t2.1.resolve_left (by rw [hq]; simp)).symm
    · rcases (esc_head v hc).1 with h1 | h1
      · exfalso
        rw [hd] at h
        have h2 := congrArg List.head? h
        rw [List.head?_append, h1] at h2
        simp at h2
        exact hd2 h2.symm
      · rw [h1, hd] at h
        injection h
  · rcases esc_cases v d with hd | ⟨hd, hd2⟩
    · rcases (esc_head v hd).1 with h1 | h1
      · exfalso
        rw [hc] at h
        have h2 := congrArg List.head? h
        rw [List.head?_append (l := escC v d), h1] at h2
        simp at h2
        exact hc2 h2
      · rw [h1, hc] at h
        injection h
    · rw [hc, hd] at h
      injection h
theorem escs_inj (v : Bool) : ∀ s t : List UInt8, s.flatMap (escC v) = t.flatMap (escC v) → s = t
  | [], [], _ => rfl
  | [], d :: t, h => by
    rw [List.flatMap_cons] at h
    exact absurd (List.append_eq_nil_iff.1 h.symm).1 (esc_ne v d)
  | c :: s, [], h => by
    rw [List.flatMap_cons] at h
    exact absurd (List.append_eq_nil_iff.1 h).1 (esc_ne v c)
  | c :: s, d :: t, h => by
    rw [List.flatMap_cons, List.flatMap_cons] at h
    have := esc_one v h
    subst this
    rw [escs_inj v s t (List.append_cancel_left h)]
theorem escL_inj (v : Bool) {s t : ByteArray} (h : escL v s = escL v t) : s = t := bytes_inj (escs_inj v _ _ h)
theorem escL_no60 (v : Bool) (s : ByteArray) : ∀ b ∈ escL v s, (b == 60) = false := fun b hb => by
  obtain ⟨c, _, hc⟩ := List.mem_flatMap.1 hb
  simpa using esc_60 v c (.inr trivial) b hc
theorem escL_no34 (s : ByteArray) : ∀ b ∈ escL true s, (b == 34) = false := fun b hb => by
  obtain ⟨c, _, hc⟩ := List.mem_flatMap.1 hb
  simpa using esc_34 c b hc
theorem escL_some (v : Bool) {s : ByteArray} (h : s ≠ ⟨#[]⟩) : escL v s ≠ [] := fun e => by
  apply h
  apply bytes_inj
  cases hs : s.data.toList with
  | nil => rfl
  | cons c r =>
    unfold escL at e
    rw [hs, List.flatMap_cons] at e
    exact absurd (List.append_eq_nil_iff.1 e).1 (esc_ne v c)

/-! Attributes as pairs. -/
abbrev Pq := List UInt8 × ByteArray
def pqL (A : List Pq) : List UInt8 := A.flatMap fun p => 32 :: (p.1 ++ valL p.2)
def tokL (t : List UInt8) : Prop := ∀ b ∈ t, stopB b = false
theorem val_cut {v w : ByteArray} {x y : List UInt8} (h : valL v ++ x = valL w ++ y) : v = w ∧ x = y := by
  unfold valL at h
  simp only [List.cons_append, List.nil_append, List.append_assoc, List.cons.injEq, true_and] at h
  obtain ⟨h1, _, h2⟩ := cut_at (fun b => b == 34) _ _ _ _ _ _ (escL_no34 v) (escL_no34 w) rfl rfl h
  exact ⟨escL_inj true h1, h2⟩
theorem pq_head (A : List Pq) {c : UInt8} (x : List UInt8) (hc : stopB c = true) : ∃ d y, pqL A ++ c :: x = d :: y ∧ stopB d = true := by
  cases A with
  | nil => exact ⟨c, x, rfl, hc⟩
  | cons p r => exact ⟨32, _, rfl, rfl⟩
theorem pq_inj : ∀ (A B : List Pq) (c d : UInt8) (x y : List UInt8), (∀ p ∈ A, tokL p.1) → (∀ p ∈ B, tokL p.1) → c ≠ 32 → d ≠ 32 → pqL A ++ c :: x = pqL B ++ d :: y → A = B ∧ c = d ∧ x = y
  | [], [], c, d, x, y, _, _, _, _, h => by injection h with h1 h2; exact ⟨rfl, h1, h2⟩
  | [], p :: B, c, d, x, y, _, _, hc, _, h => by injection h with h1 _; exact absurd h1 hc
  | p :: A, [], c, d, x, y, _, _, _, hd, h => by injection h with h1 _; exact absurd h1.symm hd
  | p :: A, q :: B, c, d, x, y, hA, hB, hc, hd, h => by
    unfold pqL at h
    rw [List.flatMap_cons, List.flatMap_cons] at h
    simp only [List.cons_append, List.append_assoc, List.cons.injEq, true_and] at h
    have e : ∀ (z : ByteArray) (r : List UInt8), valL z ++ r = 61 :: (34 :: (escL true z ++ (34 :: r))) := fun z r => by simp [valL]
    have h' := h
    rw [e, e] at h'
    obtain ⟨h1, _, h2⟩ := cut_at stopB _ _ _ _ _ _ (hA p (List.mem_cons_self ..)) (hB q (List.mem_cons_self ..)) rfl rfl h'
    rw [h1] at h
    obtain ⟨h3, h4⟩ := val_cut (List.append_cancel_left h)
    obtain ⟨g1, g2⟩ := pq_inj A B c d x y (fun z hz => hA z (List.mem_cons_of_mem _ hz)) (fun z hz => hB z (List.mem_cons_of_mem _ hz)) hc hd h4
    exact ⟨by rw [g1]; congr 1; exact Prod.ext h1 h3, g2⟩
theorem head_inj {n m : List UInt8} {A B : List Pq} {c d : UInt8} {x y : List UInt8} (hn : tokL n) (hm : tokL m) (hA : ∀ p ∈ A, tokL p.1) (hB : ∀ p ∈ B, tokL p.1) (hc : c = 47 ∨ c = 62) (hd : d = 47 ∨ d = 62)
    (h : n ++ (pqL A ++ c :: x) = m ++ (pqL B ++ d :: y)) : n = m ∧ A = B ∧ c = d ∧ x = y := by
  have sc : stopB c = true := by rcases hc with rfl | rfl <;> rfl
  have sd : stopB d = true := by rcases hd with rfl | rfl <;> rfl
  obtain ⟨c1, x1, e1, s1⟩ := pq_head A x sc
  obtain ⟨d1, y1, e2, s2⟩ := pq_head B y sd
  have h' := h
  rw [e1, e2] at h'
  obtain ⟨h1, _, _⟩ := cut_at stopB _ _ _ _ _ _ hn hm s1 s2 h'
  rw [h1] at h
  exact ⟨h1, pq_inj A B c d x y hA hB (by rcases hc with rfl | rfl <;> decide) (by rcases hd with rfl | rfl <;> decide) (List.append_cancel_left h)⟩
def fltP (l : List Pr6) : List Pr6 := l.filter fun p => decide (p.2 ≠ spX)
def dclP (l : List Pr6) : List Pq := (fltP l).map fun p => ([120, 109, 108, 110, 115, 58] ++ p.1.data.toList, p.2)
def atP (l : List Pr6) (al : List Atr) : List Pq := al.map fun a => (nameL l a.1 a.2.1, a.2.2)
theorem spc_pq : ∀ l : List Pr6, spcL l = pqL (dclP l)
  | [] => rfl
  | p :: r => by
    have ih := spc_pq r
    unfold spcL at ih ⊢
    rw [List.flatMap_cons, ih]
    unfold dclP fltP
    by_cases h : p.2 = spX
    · rw [if_pos h, List.filter_cons_of_neg (by simpa using h)]
      rfl
    · rw [if_neg h, List.filter_cons_of_pos (by simpa using h), List.map_cons]
      unfold pqL
      rw [List.flatMap_cons]
      simp
theorem ats_pq (l : List Pr6) (al : List Atr) : atsL l al = pqL (atP l al) := by
  unfold atsL pqL atP
  rw [List.flatMap_map]
theorem pqL_app (A B : List Pq) : pqL (A ++ B) = pqL A ++ pqL B := by unfold pqL; rw [List.flatMap_append]

/-! Names. -/
theorem plain_tok {s : ByteArray} (h : plainS s = true) : (∀ b ∈ s.data.toList, stopB b = false) ∧ (58 : UInt8) ∉ s.data.toList := by
  refine ⟨fun b hb => ?_, plain_no58 s h⟩
  have h1 : b ≠ 32 := fun e => plain_no s 32 (by decide) (by decide +kernel) (by decide +kernel) h (e ▸ hb)
  have h2 : b ≠ 34 := fun e => plain_no s 34 (by decide) (by decide +kernel) (by decide +kernel) h (e ▸ hb)
  have h3 : b ≠ 47 := fun e => plain_no s 47 (by decide) (by decide +kernel) (by decide +kernel) h (e ▸ hb)
  have h4 : b ≠ 60 := fun e => plain_no s 60 (by decide) (by decide +kernel) (by decide +kernel) h (e ▸ hb)
  have h5 : b ≠ 61 := fun e => plain_no s 61 (by decide) (by decide +kernel) (by decide +kernel) h (e ▸ hb)
  have h6 : b ≠ 62 := fun e => plain_no s 62 (by decide) (by decide +kernel) (by decide +kernel) h (e ▸ hb)
  simp [stopB, h1, h2, h3, h4, h5, h6]
theorem num_bytes (i : Nat) : ∀ b ∈ (numP i).data.toList, stopB b = false ∧ b ≠ 58 := fun b hb => by
  have hb' : b = 110 ∨ b ∈ decB i := by simpa [numP] using hb
  rcases hb' with rfl | hb'
  · exact ⟨by decide, by decide⟩
  · have h := decB_digits i b hb'
    have hn : ∀ k : UInt8, (k.toNat < 48 ∨ 57 < k.toNat) → b ≠ k := fun k hk e => by subst e; omega
    exact ⟨by simp [stopB, hn 32 (by decide), hn 34 (by decide), hn 47 (by decide), hn 60 (by decide), hn 61 (by decide), hn 62 (by decide)], hn 58 (by decide)⟩
theorem pr_bytes {n : Nat} {p : Pr6} (h : PrOK n p) : (∀ b ∈ p.1.data.toList, stopB b = false ∧ b ≠ 58) ∧ p.1.data.toList ≠ [120, 109, 108, 110, 115] := by
  obtain ⟨_, ⟨_, h⟩ | ⟨_, h⟩ | ⟨_, _, i, _, _, h⟩⟩ := h
  · rw [h]; exact ⟨by decide +kernel, by decide +kernel⟩
  · rw [h]; exact ⟨by decide +kernel, by decide +kernel⟩
  · rw [h]
    exact ⟨num_bytes i, fun e => by simp [numP] at e⟩
theorem name_cases {l : List Pr6} (h : PrefOK l) {sp : ByteArray} (hs : inP l sp) (lo : ByteArray) : (sp = ⟨#[]⟩ ∧ nameL l sp lo = lo.data.toList) ∨ ∃ p, (p, sp) ∈ l ∧ sp ≠ ⟨#[]⟩ ∧ nameL l sp lo = p.data.toList ++ 58 :: lo.data.toList := by
  rw [nameL_pfx]
  rcases hs with rfl | hs
  · rw [pfx_none h]; exact .inl ⟨rfl, rfl⟩
  · obtain ⟨p, hp, e⟩ := pfx_some hs
    rw [e]
    exact .inr ⟨p, hp, (h.each _ hp).1, rfl⟩
theorem name_tok {l : List Pr6} (h : PrefOK l) {sp lo : ByteArray} (hs : inP l sp) (hl : plainS lo = true) : tokL (nameL l sp lo) := by
  rcases name_cases h hs lo with ⟨_, e⟩ | ⟨p, hp, _, e⟩
  · rw [e]; exact (plain_tok hl).1
  · rw [e]
    intro b hb
    rcases List.mem_append.1 hb with hb | hb
    · exact ((pr_bytes (h.each _ hp)).1 b hb).1
    · rcases List.mem_cons.1 hb with rfl | hb
      · rfl
      · exact (plain_tok hl).1 b hb
def isD (t : List UInt8) : Bool := [120, 109, 108, 110, 115, 58].isPrefixOf t
theorem isD_iff (t : List UInt8) : isD t = true ↔ ∃ z, t = [120, 109, 108, 110, 115] ++ 58 :: z := by
  unfold isD
  rw [List.isPrefixOf_iff_prefix]
  constructor
  · rintro ⟨z, hz⟩; exact ⟨z, by rw [← hz]; rfl⟩
  · rintro ⟨z, hz⟩; exact ⟨z, by rw [hz]; rfl⟩
theorem name_notD {l : List Pr6} (h : PrefOK l) {sp lo : ByteArray} (hs : inP l sp) (hl : plainS lo = true) : isD (nameL l sp lo) = false := by
  rw [← Bool.not_eq_true, isD_iff]
  rintro ⟨z, hz⟩
  rcases name_cases h hs lo with ⟨_, e⟩ | ⟨p, hp, _, e⟩
  · rw [e] at hz
    exact (plain_tok hl).2 (by rw [hz]; simp)
  · rw [e] at hz
    have hb := pr_bytes (h.each _ hp)
    exact hb.2 (cut_at (fun b => b == 58) _ _ _ _ _ _ (fun b hbb => by simpa using (hb.1 b hbb).2) (by decide) rfl rfl hz).1
theorem fst_uniq {l : List Pr6} (h : (l.map Prod.fst).Nodup) {p a b : ByteArray} (h1 : (p, a) ∈ l) (h2 : (p, b) ∈ l) : a = b := by
  induction l with
  | nil => cases h1
  | cons z r ih =>
    rw [List.map_cons, List.nodup_cons] at h
    rcases List.mem_cons.1 h1 with e1 | g1
    · rcases List.mem_cons.1 h2 with e2 | g2
      · rw [← e1] at e2; injection e2 with _ e; exact e.symm
      · exact absurd (List.mem_map.2 ⟨(p, b), g2, by rw [← e1]⟩) h.1
    · rcases List.mem_cons.1 h2 with e2 | g2
      · exact absurd (List.mem_map.2 ⟨(p, a), g1, by rw [← e2]⟩) h.1
      · exact ih h.2 g1 g2
theorem name_inj {l m : List Pr6} (h : PrefOK l) (k : PrefOK m) (hf : fltP l = fltP m) {sp sp' lo lo' : ByteArray} (hs : inP l sp) (hs' : inP m sp') (hl : plainS lo = true) (hl' : plainS lo' = true)
    (he : nameL l sp lo = nameL m sp' lo') : sp = sp' ∧ lo = lo' := by
  have n1 := (plain_tok hl).2
  have n2 := (plain_tok hl').2
  rcases name_cases h hs lo with ⟨e0, e⟩ | ⟨p, hp, hne, e⟩
  · rcases name_cases k hs' lo' with ⟨g0, g⟩ | ⟨q, hq, hne', g⟩
    · rw [e, g] at he
      exact ⟨e0.trans g0.symm, bytes_inj he⟩
    · rw [e, g] at he
      exact absurd (by rw [he]; simp) n1
  · rcases name_cases k hs' lo' with ⟨g0, g⟩ | ⟨q, hq, hne', g⟩
    · rw [e, g] at he
      exact absurd (by rw [← he]; simp) n2
    · rw [e, g] at he
      obtain ⟨h1, _, h2⟩ := cut_at (fun b => b == 58) _ _ _ _ _ _ (fun b hbb => by simpa using ((pr_bytes (h.each _ hp)).1 b hbb).2) (fun b hbb => by simpa using ((pr_bytes (k.each _ hq)).1 b hbb).2) rfl rfl he
      refine ⟨?_, bytes_inj h2⟩
      obtain rfl := bytes_inj h1
      by_cases hx : sp = spX
      · obtain ⟨_, g1⟩ := h.each _ hp
        have hpx : p = xmlX := by
          rcases g1 with ⟨g1, _⟩ | ⟨_, g1⟩ | ⟨_, g1, _⟩
          · exact absurd (g1.symm.trans hx) uri_ne.1
          · exact g1
          · exact absurd hx g1
        obtain ⟨_, g2⟩ := k.each _ hq
        rcases g2 with ⟨_, g2⟩ | ⟨g2, _⟩ | ⟨_, _, i, _, _, g2⟩
        · exact absurd (g2.symm.trans hpx) uri_ne.2.2.2
        · rw [hx]; exact g2.symm
        · exact absurd (g2.symm.trans hpx) (numP_ne i).2
      · have hm : (p, sp) ∈ fltP l := List.mem_filter.2 ⟨hp, by simpa using hx⟩
        rw [hf] at hm
        exact fst_uniq k.names (List.mem_filter.1 hm).1 hq
theorem at_inj {l m : List Pr6} (h : PrefOK l) (k : PrefOK m) (hf : fltP l = fltP m) : ∀ (a b : List Atr), (∀ x ∈ a, inP l x.1 ∧ plainS x.2.1 = true) → (∀ x ∈ b, inP m x.1 ∧ plainS x.2.1 = true) → atP l a = atP m b → a = b
  | [], [], _, _, _ => rfl
  | [], _ :: _, _, _, e => by cases e
  | _ :: _, [], _, _, e => by cases e
  | x :: a, y :: b, ha, hb, e => by
    unfold atP at e
    rw [List.map_cons, List.map_cons] at e
    injection e with e1 e2
    injection e1 with e3 e4
    obtain ⟨g1, g2⟩ := name_inj h k hf (ha x (List.mem_cons_self ..)).1 (hb y (List.mem_cons_self ..)).1 (ha x (List.mem_cons_self ..)).2 (hb y (List.mem_cons_self ..)).2 e3
    rw [at_inj h k hf a b (fun z hz => ha z (List.mem_cons_of_mem _ hz)) (fun z hz => hb z (List.mem_cons_of_mem _ hz)) e2]
    congr 1
    exact Prod.ext g1 (Prod.ext g2 e4)
theorem at_tok {l : List Pr6} (h : PrefOK l) {a : List Atr} (ha : ∀ x ∈ a, inP l x.1 ∧ plainS x.2.1 = true) : ∀ p ∈ atP l a, tokL p.1 := fun p hp => by
  obtain ⟨x, hx, rfl⟩ := List.mem_map.1 hp
  exact name_tok h (ha x hx).1 (ha x hx).2

/-! Trees. -/
def tailN (l : List Pr6) (nm : List UInt8) (ks : List Nd) : List UInt8 := if ks = [] then [47, 62] else 62 :: (wrsN l ks ++ ([60, 47] ++ (nm ++ [62])))
theorem tail_cons (l : List Pr6) (nm : List UInt8) (ks : List Nd) (r : List UInt8) : ∃ c x, tailN l nm ks ++ r = c :: x ∧ ((ks = [] ∧ c = 47 ∧ x = 62 :: r) ∨ (ks ≠ [] ∧ c = 62 ∧ x = wrsN l ks ++ (60 :: (47 :: (nm ++ (62 :: r)))))) := by
  unfold tailN
  by_cases h : ks = []
  · rw [if_pos h]; exact ⟨47, 62 :: r, rfl, .inl ⟨h, rfl, rfl⟩⟩
  · rw [if_neg h]
    exact ⟨62, _, rfl, .inr ⟨h, rfl, by simp⟩⟩
theorem wr_elem (l : List Pr6) (w : Bool) {t : Int} {sp lo tx : ByteArray} {al : List Atr} {ks : List Nd} (h : lo ≠ ⟨#[]⟩) : wrN l w (.mk t sp lo al ks tx) = 60 :: (nameL l sp lo ++ (pqL ((if w = true then dclP l else []) ++ atP l al) ++ tailN l (nameL l sp lo) ks)) := by
  rw [wrN, if_neg h, pqL_app, ← ats_pq]
  unfold tailN
  cases w
  · simp [pqL]
  · rw [if_pos rfl, if_pos rfl, ← spc_pq, List.append_assoc]
theorem wr_text (l : List Pr6) (w : Bool) {t : Int} {sp lo tx : ByteArray} {al : List Atr} {ks : List Nd} (h : lo = ⟨#[]⟩) : wrN l w (.mk t sp lo al ks tx) = escL false tx := by rw [wrN, if_pos h]
theorem text_head {tx : ByteArray} (h : tx ≠ ⟨#[]⟩) (r : List UInt8) : ∃ c x, escL false tx ++ r = c :: x ∧ c ≠ 60 := by
  cases he : escL false tx with
  | nil => exact absurd he (escL_some false h)
  | cons c x =>
    refine ⟨c, x ++ r, rfl, ?_⟩
    have := escL_no60 false tx c (by rw [he]; exact List.mem_cons_self ..)
    simpa using this
theorem name_head {l : List Pr6} (h : PrefOK l) {sp lo : ByteArray} (hs : inP l sp) (hl : plainS lo = true) : ∃ c x, nameL l sp lo = c :: x ∧ stopB c = false := by
  cases he : nameL l sp lo with
  | nil =>
    exfalso
    rcases name_cases h hs lo with ⟨_, e⟩ | ⟨p, _, _, e⟩
    · rw [e] at he
      rw [show lo = ⟨#[]⟩ from bytes_inj he, plain_empty] at hl
      cases hl
    · rw [e] at he
      simp at he
  | cons c x =>
    refine ⟨c, x, rfl, ?_⟩
    exact name_tok h hs hl c (by rw [he]; exact List.mem_cons_self ..)
/-- What follows a tree: behind a text an element or an end. -/
def folN (x : Nd) (r : List UInt8) : Prop := x.lo = ⟨#[]⟩ → ∃ z, r = 60 :: z
theorem folN_of {l : List Pr6} {x : Nd} {r : List Nd} {may : Bool} (h : RightsN may (x :: r)) (z : List UInt8) : folN x (wrsN l r ++ 60 :: z) := fun hx => by
  cases r with
  | nil => exact ⟨z, rfl⟩
  | cons y s =>
    rw [RightsN, RightsN] at h
    have hy : y.lo ≠ ⟨#[]⟩ := fun e => by
      have := h.2.2.1 e
      simp [hx] at this
    obtain ⟨t, sp, lo, al, ks, tx⟩ := y
    rw [wrsN, wr_elem l false (show lo ≠ ⟨#[]⟩ from hy)]
    exact ⟨_, by rw [List.append_assoc, List.cons_append]⟩
mutual
theorem wr_inj {l m : List Pr6} (h : PrefOK l) (k : PrefOK m) (hf : fltP l = fltP m) : ∀ (x y : Nd) (r s : List UInt8), RightN x → RightN y → covN l x → covN m y → folN x r → folN y s → wrN l false x ++ r = wrN m false y ++ s → sameN false x y = true ∧ r = s
  | .mk t sp lo al ks tx, .mk t' sp' lo' al' ks' tx', r, s, hx, hy, cx, cy, fx, fy, he => by
    rw [RightN] at hx hy
    rw [covN] at cx cy
    rcases hx with ⟨x1, x2, x3, x4, x5⟩ | ⟨x1, x2, x3, x4, x5⟩
    · rcases hy with ⟨y1, y2, y3, y4, y5⟩ | ⟨y1, y2, y3, y4, y5⟩
      · rw [wr_text l false x1, wr_text m false y1] at he
        obtain ⟨z, hz⟩ := fx x1
        obtain ⟨z', hz'⟩ := fy y1
        rw [hz, hz'] at he
        obtain ⟨g1, _, g2⟩ := cut_at (fun b => b == 60) _ _ _ _ _ _ (escL_no60 false tx) (escL_no60 false tx') rfl rfl he
        subst x3 x4 y3 y4
        exact ⟨same_of (x2.trans y2.symm) (x1.trans y1.symm) (escL_inj false g1) rfl (by rw [samesN]), by rw [hz, hz', g2]⟩
      · exfalso
        rw [wr_text l false x1, wr_elem m false y1] at he
        obtain ⟨c, z, hc, hc2⟩ := text_head x5 r
        rw [hc] at he
        injection he with he
        exact hc2 he
    · rcases hy with ⟨y1, y2, y3, y4, y5⟩ | ⟨y1, y2, y3, y4, y5⟩
      · exfalso
        rw [wr_elem l false x1, wr_text m false y1] at he
        obtain ⟨c, z, hc, hc2⟩ := text_head y5 s
        rw [hc] at he
        injection he with he
        exact hc2 he.symm
      · rw [wr_elem l false x1, wr_elem m false y1] at he
        have ha : ∀ z ∈ al, inP l z.1 ∧ plainS z.2.1 = true := fun z hz => ⟨cx.2.1 z hz, x4 z hz⟩
        have hb : ∀ z ∈ al', inP m z.1 ∧ plainS z.2.1 = true := fun z hz => ⟨cy.2.1 z hz, y4 z hz⟩
        obtain ⟨c, z, e1, hc⟩ := tail_cons l (nameL l sp lo) ks r
        obtain ⟨d, z', e2, hd⟩ := tail_cons m (nameL m sp' lo') ks' s
        simp only [List.cons_append, List.append_assoc, List.cons.injEq, true_and, Bool.false_eq_true, if_false, List.nil_append] at he
        rw [e1, e2] at he
        obtain ⟨g1, g2, g3, g4⟩ := head_inj (name_tok h cx.1 x2) (name_tok k cy.1 y2) (at_tok h ha) (at_tok k hb) (by rcases hc with ⟨_, e, _⟩ | ⟨_, e, _⟩ <;> simp [e]) (by rcases hd with ⟨_, e, _⟩ | ⟨_, e, _⟩ <;> simp [e]) he
        obtain ⟨n1, n2⟩ := name_inj h k hf cx.1 cy.1 x2 y2 g1
        have a1 := at_inj h k hf al al' ha hb g2
        rcases hc with ⟨c1, c2, c3⟩ | ⟨c1, c2, c3⟩
        · rcases hd with ⟨d1, d2, d3⟩ | ⟨d1, d2, d3⟩
          · rw [c3, d3] at g4
            injection g4 with _ g4
            rw [c1, d1]
            exact ⟨same_of n1 n2 (x3.trans y3.symm) a1 (by rw [samesN]), g4⟩
          · rw [c2, d2] at g3; exact absurd g3 (by decide)
        · rcases hd with ⟨d1, d2, d3⟩ | ⟨d1, d2, d3⟩
          · rw [c2, d2] at g3; exact absurd g3 (by decide)
          · rw [c3, d3] at g4
            obtain ⟨s1, s2⟩ := wrs_inj h k hf ks ks' true _ _ x5 y5 cx.2.2 cy.2.2 g4
            rw [g1] at s2
            have := List.append_cancel_left s2
            injection this with _ this
            exact ⟨same_of n1 n2 (x3.trans y3.symm) a1 s1, this⟩
theorem wrs_inj {l m : List Pr6} (h : PrefOK l) (k : PrefOK m) (hf : fltP l = fltP m) : ∀ (a b : List Nd) (may : Bool) (r s : List UInt8), RightsN may a → RightsN may b → covsN l a → covsN m b → wrsN l a ++ 60 :: (47 :: r) = wrsN m b ++ 60 :: (47 :: s) → samesN false a b = true ∧ r = s
  | [], [], _, r, s, _, _, _, _, he => by
    rw [wrsN, wrsN] at he
    injection he with _ he
    injection he with _ he
    exact ⟨by rw [samesN], he⟩
  | [], .mk t sp lo al ks tx :: b, may, r, s, _, hb, _, cb, he => by
    exfalso
    rw [RightsN, RightN] at hb
    rw [covsN, covN] at cb
    rw [wrsN, wrsN] at he
    rcases hb.2.1 with ⟨y1, y2, y3, y4, y5⟩ | ⟨y1, y2, y3, y4, y5⟩
    · rw [wr_text m false y1, List.append_assoc] at he
      obtain ⟨c, z, hc, hc2⟩ := text_head y5 (wrsN m b ++ 60 :: (47 :: s))
      rw [hc] at he
      injection he with he
      exact hc2 he.symm
    · rw [wr_elem m false y1] at he
      obtain ⟨c, z, hc, hc2⟩ := name_head k cb.1.1 y2
      rw [hc] at he
      injection he with _ he
      injection he with he
      rw [← he] at hc2
      exact absurd hc2 (by decide)
  | .mk t sp lo al ks tx :: a, [], may, r, s, hb, _, cb, _, he => by
    exfalso
    rw [RightsN, RightN] at hb
    rw [covsN, covN] at cb
    rw [wrsN, wrsN] at he
    rcases hb.2.1 with ⟨y1, y2, y3, y4, y5⟩ | ⟨y1, y2, y3, y4, y5⟩
    · rw [wr_text l false y1, List.append_assoc] at he
      obtain ⟨c, z, hc, hc2⟩ := text_head y5 (wrsN l a ++ 60 :: (47 :: r))
      rw [hc] at he
      injection he with he
      exact hc2 he
    · rw [wr_elem l false y1] at he
      obtain ⟨c, z, hc, hc2⟩ := name_head h cb.1.1 y2
      rw [hc] at he
      injection he with _ he
      injection he with he
      rw [he] at hc2
      exact absurd hc2 (by decide)
  | x :: a, y :: b, may, r, s, hx, hy, cx, cy, he => by
    have f1 := folN_of (l := l) hx (47 :: r)
    have f2 := folN_of (l := m) hy (47 :: s)
    rw [RightsN] at hx hy
    rw [covsN] at cx cy
    rw [wrsN, wrsN, List.append_assoc, List.append_assoc] at he
    obtain ⟨g1, g2⟩ := wr_inj h k hf x y _ _ hx.2.1 hy.2.1 cx.1 cy.1 f1 f2 he
    have hlo : decide (x.lo ≠ ⟨#[]⟩) = decide (y.lo ≠ ⟨#[]⟩) := by
      obtain ⟨t, sp, lo, al, ks, tx⟩ := x
      obtain ⟨t', sp', lo', al', ks', tx'⟩ := y
      rw [show (Nd.mk t sp lo al ks tx).lo = (Nd.mk t' sp' lo' al' ks' tx').lo from (same_iff.1 g1).2.1]
    obtain ⟨k1, k2⟩ := wrs_inj h k hf a b _ r s hx.2.2 (by rw [hlo]; exact hy.2.2) cx.2 cy.2 g2
    exact ⟨by rw [samesN, g1, k1]; rfl, k2⟩
end
theorem split_isD {A B A' B' : List Pq} (hA : ∀ p ∈ A, isD p.1 = true) (hA' : ∀ p ∈ A', isD p.1 = true) (hB : ∀ p ∈ B, isD p.1 = false) (hB' : ∀ p ∈ B', isD p.1 = false) (h : A ++ B = A' ++ B') : A = A' ∧ B = B' := by
  have f1 := congrArg (List.filter fun p => isD p.1) h
  have f2 := congrArg (List.filter fun p => !isD p.1) h
  have e1 : A.filter (fun p => isD p.1) = A := List.filter_eq_self.2 hA
  have e2 : A'.filter (fun p => isD p.1) = A' := List.filter_eq_self.2 hA'
  have e3 : B.filter (fun p => isD p.1) = [] := List.filter_eq_nil_iff.2 fun p hp => by rw [hB p hp]; simp
  have e4 : B'.filter (fun p => isD p.1) = [] := List.filter_eq_nil_iff.2 fun p hp => by rw [hB' p hp]; simp
  have g1 : A.filter (fun p => !isD p.1) = [] := List.filter_eq_nil_iff.2 fun p hp => by rw [hA p hp]; simp
  have g2 : A'.filter (fun p => !isD p.1) = [] := List.filter_eq_nil_iff.2 fun p hp => by rw [hA' p hp]; simp
  have g3 : B.filter (fun p => !isD p.1) = B := List.filter_eq_self.2 fun p hp => by rw [hB p hp]; rfl
  have g4 : B'.filter (fun p => !isD p.1) = B' := List.filter_eq_self.2 fun p hp => by rw [hB' p hp]; rfl
  rw [List.filter_append, List.filter_append, e1, e2, e3, e4, List.append_nil, List.append_nil] at f1
  rw [List.filter_append, List.filter_append, g1, g2, g3, g4, List.nil_append, List.nil_append] at f2
  exact ⟨f1, f2⟩
theorem dcl_D (l : List Pr6) : ∀ p ∈ dclP l, isD p.1 = true := fun p hp => by
  obtain ⟨q, _, rfl⟩ := List.mem_map.1 hp
  exact (isD_iff _).2 ⟨q.1.data.toList, rfl⟩
theorem dcl_tok {l : List Pr6} (h : PrefOK l) : ∀ p ∈ dclP l, tokL p.1 := fun p hp => by
  obtain ⟨q, hq, rfl⟩ := List.mem_map.1 hp
  intro b hb
  rcases List.mem_append.1 hb with hb | hb
  · have h0 : ∀ b ∈ ([120, 109, 108, 110, 115, 58] : List UInt8), stopB b = false := by decide
    exact h0 b hb
  · exact ((pr_bytes (h.each _ (List.mem_filter.1 hq).1)).1 b hb).1
theorem dcl_flt {l m : List Pr6} (h : dclP l = dclP m) : fltP l = fltP m := by
  unfold dclP at h
  refine List.map_inj_right (f := fun p : Pr6 => (([120, 109, 108, 110, 115, 58] ++ p.1.data.toList, p.2) : Pq)) (fun x y e => ?_) |>.1 h
  injection e with e1 e2
  exact Prod.ext (bytes_inj (List.append_cancel_left e1)) e2
theorem whole_inj {l m : List Pr6} (h : PrefOK l) (k : PrefOK m) : ∀ (x y : Nd), RightN x → RightN y → covN l x → covN m y → x.lo ≠ ⟨#[]⟩ → y.lo ≠ ⟨#[]⟩ → wrN l true x = wrN m true y → sameN false x y = true
  | .mk t sp lo al ks tx, .mk t' sp' lo' al' ks' tx', hx, hy, cx, cy, fx, fy, he => by
    rw [RightN] at hx hy
    rw [covN] at cx cy
    obtain ⟨x1, x2, x3, x4, x5⟩ := hx.resolve_left fun e => fx e.1
    obtain ⟨y1, y2, y3, y4, y5⟩ := hy.resolve_left fun e => fy e.1
    rw [wr_elem l true x1, wr_elem m true y1, if_pos rfl, if_pos rfl] at he
    have ha : ∀ z ∈ al, inP l z.1 ∧ plainS z.2.1 = true := fun z hz => ⟨cx.2.1 z hz, x4 z hz⟩
    have hb : ∀ z ∈ al', inP m z.1 ∧ plainS z.2.1 = true := fun z hz => ⟨cy.2.1 z hz, y4 z hz⟩
    obtain ⟨c, z, e1, hc⟩ := tail_cons l (nameL l sp lo) ks []
    obtain ⟨d, z', e2, hd⟩ := tail_cons m (nameL m sp' lo') ks' []
    rw [List.append_nil] at e1 e2
    injection he with _ he
    rw [e1, e2] at he
    obtain ⟨g1, g2, g3, g4⟩ := head_inj (name_tok h cx.1 x2) (name_tok k cy.1 y2) (fun p hp => (List.mem_append.1 hp).elim (dcl_tok h p) (at_tok h ha p)) (fun p hp => (List.mem_append.1 hp).elim (dcl_tok k p) (at_tok k hb p)) (by rcases hc with ⟨_, e, _⟩ | ⟨_, e, _⟩ <;> simp [e]) (by rcases hd with ⟨_, e, _⟩ | ⟨_, e, _⟩ <;> simp [e]) he
    obtain ⟨q1, q2⟩ := split_isD (dcl_D l) (dcl_D m) (fun p hp => by obtain ⟨a, ha2, rfl⟩ := List.mem_map.1 hp; exact name_notD h (ha a ha2).1 (ha a ha2).2) (fun p hp => by obtain ⟨a, ha2, rfl⟩ := List.mem_map.1 hp; exact name_notD k (hb a ha2).1 (hb a ha2).2) g2
    have hf := dcl_flt q1
    obtain ⟨n1, n2⟩ := name_inj h k hf cx.1 cy.1 x2 y2 g1
    have a1 := at_inj h k hf al al' ha hb q2
    rcases hc with ⟨c1, c2, c3⟩ | ⟨c1, c2, c3⟩
    · rcases hd with ⟨d1, d2, d3⟩ | ⟨d1, d2, d3⟩
      · rw [c1, d1]
        exact same_of n1 n2 (x3.trans y3.symm) a1 (by rw [samesN])
      · rw [c2, d2] at g3; exact absurd g3 (by decide)
    · rcases hd with ⟨d1, d2, d3⟩ | ⟨d1, d2, d3⟩
      · rw [c2, d2] at g3; exact absurd g3 (by decide)
      · rw [c3, d3] at g4
        exact same_of n1 n2 (x3.trans y3.symm) a1 (wrs_inj h k hf ks ks' true _ _ x5 y5 cx.2.2 cy.2.2 g4).1
/-- Two right trees have the same bytes just if they are the same but for the order of attributes. -/
theorem write_one {a b : Nd} (ha : CheckN a = 0) (hb : CheckN b = 0) : sameN false (sortN a) (sortN b) = decide (WriteN a = WriteN b) := by
  obtain ⟨a1, _, a3⟩ := check_right ha
  obtain ⟨b1, _, b3⟩ := check_right hb
  apply bool_ext
  rw [decide_eq_true_eq]
  constructor
  · intro h
    unfold WriteN PrefN
    rw [same_met _ _ _ h, same_wr _ _ _ _ h]
  · intro h
    have h1 : wrN (PrefN a) true (sortN a) = wrN (PrefN b) true (sortN b) := by
      have := congrArg (fun x : ByteArray => x.data.toList) h
      simpa [WriteN] using this
    exact whole_inj (prefN_ok a) (prefN_ok b) _ _ (right_sort a a1) (right_sort b b1) (cov_met _ _) (cov_met _ _) (by rw [sortN_lo]; exact a3) (by rw [sortN_lo]; exact b3) h1
end Go.Proofs.YtojeclfcgnamoaaDoor
