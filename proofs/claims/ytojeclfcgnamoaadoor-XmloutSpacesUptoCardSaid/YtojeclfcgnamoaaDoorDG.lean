/-
  xmlout: prefixes (plain): each namespace once, each prefix once.
-/
import Derived.Test.YtojeclfcgnamoaaDoorDB
namespace Go.Proofs.YtojeclfcgnamoaaDoor

theorem decL_stop (f : Nat) : decL f 0 = [] := by cases f <;> simp [decL]
theorem decL_go (f n : Nat) (h : n ≠ 0) : decL (f + 1) n = decL f (n / 10) ++ [UInt8.ofNat (48 + n % 10)] := by rw [decL, if_neg h]
theorem decL_more : ∀ (f g n : Nat), n ≤ f → n ≤ g → decL f n = decL g n
  | f, g, 0, _, _ => by rw [decL_stop, decL_stop]
  | 0, g, n + 1, h, _ => by omega
  | f + 1, 0, n + 1, _, h => by omega
  | f + 1, g + 1, n + 1, h1, h2 => by
    rw [decL_go f _ (by omega), decL_go g _ (by omega), decL_more f g ((n + 1) / 10) (by omega) (by omega)]
theorem decB_step (n : Nat) (h : n ≠ 0) : decB n = decB (n / 10) ++ [UInt8.ofNat (48 + n % 10)] := by
  unfold decB
  rw [decL_go n n h, decL_more n (n / 10 + 1) (n / 10) (by omega) (by omega)]
theorem decB_zero : decB 0 = [] := rfl
theorem digit_inj {a b : Nat} (ha : a < 10) (hb : b < 10) (h : UInt8.ofNat (48 + a) = UInt8.ofNat (48 + b)) : a = b := by
  have h1 := congrArg UInt8.toNat h
  simp at h1
  omega
theorem decB_inj : ∀ n m : Nat, decB n = decB m → n = m := by
  intro n
  induction n using Nat.strongRecOn with
  | _ n ih =>
    intro m h
    by_cases hn : n = 0
    · subst hn
      by_cases hm : m = 0
      · exact hm.symm
      · rw [decB_zero, decB_step m hm] at h
        exact absurd h.symm (by simp)
    · by_cases hm : m = 0
      · subst hm
        rw [decB_zero, decB_step n hn] at h
        exact absurd h (by simp)
      · rw [decB_step n hn, decB_step m hm] at h
        obtain ⟨h1, h2⟩ := List.append_inj' h rfl
        have h3 := ih (n / 10) (by omega) (m / 10) h1
        injection h2 with h2 _
        have h4 := digit_inj (by omega) (by omega) h2
        omega
theorem decB_digits : ∀ n : Nat, ∀ c ∈ decB n, 48 ≤ c.toNat ∧ c.toNat ≤ 57 := by
  intro n
  induction n using Nat.strongRecOn with
  | _ n ih =>
    by_cases hn : n = 0
    · subst hn; intro c hc; simp [decB_zero] at hc
    · rw [decB_step n hn]
      intro c hc
      rcases List.mem_append.1 hc with hc | hc
      · exact ih _ (by omega) c hc
      · simp at hc
        subst hc
        simp
        omega
theorem decB_len : ∀ k n : Nat, n < 10 ^ k → (decB n).length ≤ k
  | 0, n, h => by
    obtain rfl : n = 0 := by omega
    simp [decB_zero]
  | k + 1, n, h => by
    by_cases hn : n = 0
    · subst hn; simp [decB_zero]
    · rw [decB_step n hn, List.length_append, List.length_singleton]
      have := decB_len k (n / 10) (by rw [Nat.pow_succ] at h; omega)
      omega
def numP (i : Nat) : ByteArray := ⟨(110 :: decB i).toArray⟩
theorem numP_inj {i j : Nat} (h : numP i = numP j) : i = j := by
  have h1 := congrArg (fun x : ByteArray => x.data.toList) h
  simp [numP] at h1
  exact decB_inj i j h1
theorem numP_ne (i : Nat) : numP i ≠ dmnX ∧ numP i ≠ xmlX := by
  constructor
  · intro h
    have h1 := congrArg (fun x : ByteArray => x.data.toList) h
    simp [numP, dmnX] at h1
  · intro h
    have h1 := congrArg (fun x : ByteArray => x.data.toList) h
    simp [numP, xmlX] at h1
/-- What a prefix is. -/
def PrOK (n : Nat) (p : Pr6) : Prop := p.2 ≠ ⟨#[]⟩ ∧ ((p.2 = uriX ∧ p.1 = dmnX) ∨ (p.2 = spX ∧ p.1 = xmlX) ∨ (p.2 ≠ uriX ∧ p.2 ≠ spX ∧ ∃ i, 1 ≤ i ∧ i ≤ n ∧ p.1 = numP i))
structure PrefOK (l : List Pr6) : Prop where
  each : ∀ p ∈ l, PrOK (othersP l) p
  spaces : (l.map Prod.snd).Nodup
  names : (l.map Prod.fst).Nodup
theorem hasS_iff (l : List Pr6) (s : ByteArray) : hasS l s = true ↔ s ∈ l.map Prod.snd := by
  unfold hasS
  rw [List.any_eq_true, List.mem_map]
  constructor
  · rintro ⟨p, h1, h2⟩
    exact ⟨p, h1, of_decide_eq_true h2⟩
  · rintro ⟨p, h1, h2⟩
    exact ⟨p, h1, decide_eq_true h2⟩
theorem uri_ne : uriX ≠ spX ∧ uriX ≠ ⟨#[]⟩ ∧ spX ≠ ⟨#[]⟩ ∧ dmnX ≠ xmlX := by decide +kernel
theorem PrefOK.nil : PrefOK [] := ⟨by simp, by simp, by simp⟩
theorem othersP_snoc (l : List Pr6) (p : Pr6) : othersP (l ++ [p]) = othersP l + if p.1 ≠ dmnX ∧ p.1 ≠ xmlX then 1 else 0 := by
  unfold othersP
  rw [List.countP_append, List.countP_singleton]
  by_cases h1 : p.1 = dmnX
  · simp [h1]
  · by_cases h2 : p.1 = xmlX
    · simp [h2]
    · simp [h1, h2]
theorem PrefOK.meet {l : List Pr6} (h : PrefOK l) (s : ByteArray) : PrefOK (meetP l s) := by
  unfold meetP
  split
  · exact h
  · rename_i hs
    have h0 : s ≠ ⟨#[]⟩ := fun e => hs (.inl e)
    have h1 : s ∉ l.map Prod.snd := fun e => hs (.inr ((hasS_iff l s).2 e))
    have hot := othersP_snoc l (freshP l s, s)
    dsimp only at hot
    have hfr : (s = uriX ∧ freshP l s = dmnX) ∨ (s = spX ∧ freshP l s = xmlX) ∨ (s ≠ uriX ∧ s ≠ spX ∧ freshP l s = numP (othersP l + 1)) := by
      unfold freshP
      by_cases e1 : s = uriX
      · exact .inl ⟨e1, by rw [if_pos e1]⟩
      · by_cases e2 : s = spX
        · exact .inr (.inl ⟨e2, by rw [if_neg e1, if_pos e2]⟩)
        · exact .inr (.inr ⟨e1, e2, by rw [if_neg e1, if_neg e2]; rfl⟩)
    have hle : othersP l ≤ othersP (l ++ [(freshP l s, s)]) := by rw [hot]; omega
    refine ⟨fun p hp => ?_, ?_, ?_⟩
    · rcases List.mem_append.1 hp with hp | hp
      · obtain ⟨g0, g⟩ := h.each p hp
        exact ⟨g0, g.imp id (fun g => g.imp id fun ⟨a, b, i, c, d, e⟩ => ⟨a, b, i, c, by omega, e⟩)⟩
      · obtain rfl : p = (freshP l s, s) := by simpa using hp
        refine ⟨h0, ?_⟩
        rcases hfr with hfr | hfr | ⟨e1, e2, e3⟩
        · exact .inl hfr
        · exact .inr (.inl hfr)
        · refine .inr (.inr ⟨e1, e2, othersP l + 1, by omega, ?_, e3⟩)
          rw [hot, if_pos (by rw [e3]; exact numP_ne _)]
          omega
    · rw [List.map_append, List.nodup_append]
      refine ⟨h.spaces, by simp, fun a ha b hb => ?_⟩
      simp at hb
      subst hb
      intro e
      exact h1 (e ▸ ha)
    · rw [List.map_append, List.nodup_append]
      refine ⟨h.names, by simp, fun a ha b hb => ?_⟩
      simp at hb
      subst hb
      intro e
      obtain ⟨p, hp, rfl⟩ := List.mem_map.1 ha
      have hne : p.2 ≠ s := fun e2 => h1 (List.mem_map.2 ⟨p, hp, e2⟩)
      obtain ⟨_, g⟩ := h.each p hp
      rcases hfr with ⟨f1, f2⟩ | ⟨f1, f2⟩ | ⟨f1, f2, f3⟩
      · rw [f2] at e
        rcases g with ⟨g1, _⟩ | ⟨_, g2⟩ | ⟨_, _, i, _, _, g5⟩
        · exact hne (g1.trans f1.symm)
        · exact uri_ne.2.2.2 (e.symm.trans g2)
        · exact (numP_ne i).1 (g5.symm.trans e)
      · rw [f2] at e
        rcases g with ⟨_, g2⟩ | ⟨g1, _⟩ | ⟨_, _, i, _, _, g5⟩
        · exact uri_ne.2.2.2 (g2.symm.trans e)
        · exact hne (g1.trans f1.symm)
        · exact (numP_ne i).2 (g5.symm.trans e)
      · rw [f3] at e
        rcases g with ⟨_, g2⟩ | ⟨_, g2⟩ | ⟨_, _, i, _, g4, g5⟩
        · exact (numP_ne _).1 (e.symm.trans g2)
        · exact (numP_ne _).2 (e.symm.trans g2)
        · have := numP_inj (g5.symm.trans e)
          omega
theorem mem_meet {l : List Pr6} {s : ByteArray} : ∀ p ∈ l, p ∈ meetP l s := fun p hp => by
  unfold meetP
  split
  · exact hp
  · exact List.mem_append_left _ hp
theorem meet_has (l : List Pr6) (s : ByteArray) (h : s ≠ ⟨#[]⟩) : s ∈ (meetP l s).map Prod.snd := by
  unfold meetP
  split
  · rename_i hh
    exact (hasS_iff l s).1 (hh.resolve_left h)
  · simp
theorem PrefOK.meets : ∀ {al : List Atr} {l : List Pr6}, PrefOK l → PrefOK (meetsP l al)
  | [], _, h => h
  | a :: r, _, h => PrefOK.meets (al := r) (h.meet a.1)
theorem mem_meets : ∀ {al : List Atr} {l : List Pr6}, ∀ p ∈ l, p ∈ meetsP l al
  | [], _, _, hp => hp
  | _ :: r, _, p, hp => mem_meets (al := r) p (mem_meet p hp)
mutual
theorem PrefOK.met : ∀ (n : Nd) {l : List Pr6}, PrefOK l → PrefOK (metN l n)
  | .mk t sp lo al ks tx, l, h => by
    rw [metN]
    exact PrefOK.mets ks ((h.meet sp).meets)
theorem PrefOK.mets : ∀ (ks : List Nd) {l : List Pr6}, PrefOK l → PrefOK (metsN l ks)
  | [], _, h => by rw [metsN]; exact h
  | x :: r, l, h => by rw [metsN]; exact PrefOK.mets r (PrefOK.met x h)
end
mutual
theorem mem_met : ∀ (n : Nd) {l : List Pr6}, ∀ p ∈ l, p ∈ metN l n
  | .mk t sp lo al ks tx, l, p, hp => by
    rw [metN]
    exact mem_mets ks p (mem_meets p (mem_meet p hp))
theorem mem_mets : ∀ (ks : List Nd) {l : List Pr6}, ∀ p ∈ l, p ∈ metsN l ks
  | [], _, p, hp => by rw [metsN]; exact hp
  | x :: r, l, p, hp => by rw [metsN]; exact mem_mets r p (mem_met x p hp)
end
theorem prefN_ok (n : Nd) : PrefOK (PrefN n) := PrefOK.met _ PrefOK.nil
/-- All that a tree's names have is among the prefixes. -/
def inP (l : List Pr6) (s : ByteArray) : Prop := s = ⟨#[]⟩ ∨ s ∈ l.map Prod.snd
theorem inP_mono {l m : List Pr6} (h : ∀ p ∈ l, p ∈ m) {s : ByteArray} (hs : inP l s) : inP m s := hs.imp id fun hs => by
  obtain ⟨p, hp, rfl⟩ := List.mem_map.1 hs
  exact List.mem_map.2 ⟨p, h p hp, rfl⟩
theorem inP_meet (l : List Pr6) (s : ByteArray) : inP (meetP l s) s := by
  by_cases h : s = ⟨#[]⟩
  · exact .inl h
  · exact .inr (meet_has l s h)
theorem inP_meets : ∀ (al : List Atr) (l : List Pr6), ∀ a ∈ al, inP (meetsP l al) a.1
  | x :: r, l, a, ha => by
    rcases List.mem_cons.1 ha with rfl | ha
    · exact inP_mono (fun p hp => mem_meets (al := r) p hp) (inP_meet l a.1)
    · exact inP_meets r _ a ha
mutual
def covN (l : List Pr6) : Nd → Prop
  | .mk _ sp _ al ks _ => inP l sp ∧ (∀ a ∈ al, inP l a.1) ∧ covsN l ks
def covsN (l : List Pr6) : List Nd → Prop
  | [] => True
  | x :: r => covN l x ∧ covsN l r
end
mutual
theorem covN_mono {l m : List Pr6} (h : ∀ p ∈ l, p ∈ m) : ∀ n : Nd, covN l n → covN m n
  | .mk t sp lo al ks tx, hc => by
    rw [covN] at hc ⊢
    exact ⟨inP_mono h hc.1, fun a ha => inP_mono h (hc.2.1 a ha), covsN_mono h ks hc.2.2⟩
theorem covsN_mono {l m : List Pr6} (h : ∀ p ∈ l, p ∈ m) : ∀ ks : List Nd, covsN l ks → covsN m ks
  | [], _ => by rw [covsN]; trivial
  | x :: r, hc => by
    rw [covsN] at hc ⊢
    exact ⟨covN_mono h x hc.1, covsN_mono h r hc.2⟩
end
mutual
theorem cov_met : ∀ (n : Nd) (l : List Pr6), covN (metN l n) n
  | .mk t sp lo al ks tx, l => by
    rw [covN, metN]
    refine ⟨inP_mono (fun p hp => mem_mets ks p (mem_meets p hp)) (inP_meet l sp), fun a ha => inP_mono (fun p hp => mem_mets ks p hp) (inP_meets al _ a ha), cov_mets ks _⟩
theorem cov_mets : ∀ (ks : List Nd) (l : List Pr6), covsN (metsN l ks) ks
  | [], l => by rw [covsN]; trivial
  | x :: r, l => by
    rw [covsN, metsN]
    exact ⟨covN_mono (fun p hp => mem_mets r p hp) x (cov_met x l), cov_mets r _⟩
end
/-- A namespace's prefix. -/
def pfxP (l : List Pr6) (s : ByteArray) : Option ByteArray := (l.find? fun p => decide (p.2 = s)).map Prod.fst
theorem nameL_pfx (l : List Pr6) (sp lo : ByteArray) : nameL l sp lo = match pfxP l sp with | some p => p.data.toList ++ (58 :: lo.data.toList) | none => lo.data.toList := by
  unfold nameL pfxP
  cases l.find? fun p => decide (p.2 = sp) <;> rfl
theorem pfx_none {l : List Pr6} (h : PrefOK l) : pfxP l ⟨#[]⟩ = none := by
  unfold pfxP
  rw [List.find?_eq_none.2 fun p hp => by simpa using (h.each p hp).1]
  rfl
theorem pfx_some {l : List Pr6} {s : ByteArray} (h : s ∈ l.map Prod.snd) : ∃ p, (p, s) ∈ l ∧ pfxP l s = some p := by
  obtain ⟨q, hq, rfl⟩ := List.mem_map.1 h
  unfold pfxP
  cases hf : l.find? fun p => decide (p.2 = q.2) with
  | none => exact absurd (List.find?_eq_none.1 hf q hq) (by simp)
  | some p =>
    have h1 := List.mem_of_find?_eq_some hf
    have h2 := List.find?_some hf
    obtain ⟨p1, p2⟩ := p
    have h3 : p2 = q.2 := of_decide_eq_true h2
    exact ⟨p1, h3 ▸ h1, rfl⟩
end Go.Proofs.YtojeclfcgnamoaaDoor
