/-
  xmlout: right trees, what is so of trees that pass Check (plain).
-/
import Derived.Test.YtojeclfcgnamoaaDoorDC
import Derived.Test.YtojeclfcgnamoaaDoorDG
import Derived.Test.YtojeclfcgnamoaaDoorMT
namespace Go.Proofs.YtojeclfcgnamoaaDoor

mutual
/-- The attributes' names are distinct, all through the tree. -/
def DistN : Nd → Prop
  | .mk _ _ _ al ks _ => (al.map nmA).Nodup ∧ DistsN ks
def DistsN : List Nd → Prop
  | [] => True
  | x :: r => DistN x ∧ DistsN r
end
theorem dists_mem : ∀ {l : List Nd} {x : Nd}, DistsN l → x ∈ l → DistN x
  | y :: r, x, h, hx => by
    unfold DistsN at h
    rcases List.mem_cons.1 hx with rfl | hx
    · exact h.1
    · exact dists_mem h.2 hx
mutual
/-- Right trees: text nodes, and elements, whose names are names. -/
def RightN : Nd → Prop
  | .mk _ sp lo al ks tx => (lo = ⟨#[]⟩ ∧ sp = ⟨#[]⟩ ∧ al = [] ∧ ks = [] ∧ tx ≠ ⟨#[]⟩) ∨ (lo ≠ ⟨#[]⟩ ∧ plainS lo = true ∧ tx = ⟨#[]⟩ ∧ (∀ a ∈ al, plainS a.2.1 = true) ∧ RightsN true ks)
def RightsN : Bool → List Nd → Prop
  | _, [] => True
  | may, x :: r => (x.lo = ⟨#[]⟩ → may = true) ∧ RightN x ∧ RightsN (decide (x.lo ≠ ⟨#[]⟩)) r
end
theorem named_plain {sp lo : ByteArray} {b : Bool} (h : namedS sp lo b = 0) : plainS lo = true := by
  unfold namedS at h
  cases hp : plainS lo with
  | true => rfl
  | false => rw [if_pos hp] at h; omega
theorem attrs_ok : ∀ (al : List Atr) (seen : List (ByteArray × ByteArray)), attrsS seen al = 0 → (∀ a ∈ al, plainS a.2.1 = true) ∧ (al.map nmA).Nodup ∧ ∀ a ∈ al, nmA a ∉ seen
  | [], seen, _ => ⟨by simp, by simp, by simp⟩
  | x :: r, seen, h => by
    unfold attrsS at h
    split at h
    · omega
    · rename_i h1
      split at h
      · omega
      · rename_i h2
        split at h
        · omega
        · obtain ⟨g1, g2, g3⟩ := attrs_ok r _ h
          have hx : nmA x ∉ seen := fun hm => h2 ((hasN_iff _ _ _).2 hm)
          refine ⟨fun a ha => ?_, ?_, fun a ha => ?_⟩
          · rcases List.mem_cons.1 ha with rfl | ha
            · exact named_plain (by simpa using h1)
            · exact g1 a ha
          · rw [List.map_cons, List.nodup_cons]
            refine ⟨fun hm => ?_, g2⟩
            obtain ⟨a, ha, he⟩ := List.mem_map.1 hm
            exact g3 a ha (by rw [he]; exact List.mem_append_right _ (List.mem_singleton.2 rfl))
          · rcases List.mem_cons.1 ha with rfl | ha
            · exact hx
            · exact fun hm => g3 a ha (List.mem_append_left _ hm)
mutual
theorem chk_right : ∀ (n : Nd) (deep : Nat) (may : Bool), chkN n deep may = 0 → RightN n ∧ DistN n ∧ (n.lo = ⟨#[]⟩ → may = true)
  | .mk t sp lo al ks tx, deep, may, h => by
    rw [chkN] at h
    split at h
    · omega
    · split at h
      · rename_i hlo
        split at h
        · omega
        · rename_i hm
          unfold textS6 at h
          split at h
          · omega
          · rename_i ht
            have hal : al = [] := by
              cases al with
              | nil => rfl
              | cons a r => exact absurd (.inr (.inl (by simp))) ht
            have hks : ks = [] := by
              cases ks with
              | nil => rfl
              | cons a r => exact absurd (.inr (.inr (.inl (by simp)))) ht
            have htx : tx ≠ ⟨#[]⟩ := fun e => ht (.inl e)
            have hsp : sp = ⟨#[]⟩ := by
              apply Classical.byContradiction
              intro e
              exact ht (.inr (.inr (.inr e)))
            refine ⟨?_, ?_, fun _ => by simpa using hm⟩
            · rw [RightN]
              exact .inl ⟨hlo, hsp, hal, hks, htx⟩
            · rw [DistN, hal, hks]
              exact ⟨by simp, by rw [DistsN]; trivial⟩
      · rename_i hlo
        split at h
        · rename_i h1; exact absurd h h1
        · rename_i h1
          have h1 : elemS sp lo tx al = 0 := by simpa using h1
          unfold elemS at h1
          split at h1
          · omega
          · rename_i htx
            split at h1
            · rename_i h2; exact absurd h1 h2
            · rename_i h2
              have h2 : namedS sp lo false = 0 := by simpa using h2
              obtain ⟨g1, g2, _⟩ := attrs_ok al [] h1
              obtain ⟨k1, k2⟩ := chks_right ks (deep + 1) true h
              refine ⟨?_, ?_, fun e => absurd e hlo⟩
              · rw [RightN]
                exact .inr ⟨hlo, named_plain h2, Classical.byContradiction htx, g1, k1⟩
              · rw [DistN]
                exact ⟨g2, k2⟩
theorem chks_right : ∀ (l : List Nd) (deep : Nat) (may : Bool), chksN l deep may = 0 → RightsN may l ∧ DistsN l
  | [], _, _, _ => by rw [RightsN, DistsN]; exact ⟨trivial, trivial⟩
  | x :: r, deep, may, h => by
    rw [chksN] at h
    split at h
    · rename_i h1; exact absurd h h1
    · rename_i h1
      obtain ⟨g1, g2, g3⟩ := chk_right x deep may (by simpa using h1)
      obtain ⟨k1, k2⟩ := chks_right r deep _ h
      rw [RightsN, DistsN]
      exact ⟨⟨g3, g1, k1⟩, g2, k2⟩
end
theorem check_right {n : Nd} (h : CheckN n = 0) : RightN n ∧ DistN n ∧ n.lo ≠ ⟨#[]⟩ := by
  obtain ⟨h1, h2, h3⟩ := chk_right n 1 false h
  exact ⟨h1, h2, fun e => by have := h3 e; simp at this⟩
theorem sortN_lo (n : Nd) : (sortN n).lo = n.lo := by obtain ⟨t, sp, lo, al, ks, tx⟩ := n; rw [sortN]; rfl
mutual
theorem right_sort : ∀ (n : Nd), RightN n → RightN (sortN n)
  | .mk t sp lo al ks tx, h => by
    rw [RightN] at h
    rw [sortN, RightN]
    rcases h with ⟨h1, h2, h3, h4, h5⟩ | ⟨h1, h2, h3, h4, h5⟩
    · subst h3 h4
      exact .inl ⟨h1, h2, List.Perm.eq_nil (sortA_perm []), by rw [sortsN], h5⟩
    · exact .inr ⟨h1, h2, h3, fun a ha => h4 a ((sortA_perm al).mem_iff.1 ha), rights_sort ks true h5⟩
theorem rights_sort : ∀ (l : List Nd) (may : Bool), RightsN may l → RightsN may (sortsN l)
  | [], _, _ => by rw [sortsN, RightsN]; trivial
  | x :: r, may, h => by
    rw [RightsN] at h
    rw [sortsN, RightsN, sortN_lo]
    exact ⟨h.1, right_sort x h.2.1, rights_sort r _ h.2.2⟩
end
mutual
/-- All texts are such that may be. -/
def FineN : Nd → Prop
  | .mk _ sp _ al ks tx => fineS sp = true ∧ (∀ a ∈ al, fineS a.1 = true ∧ fineS a.2.2 = true) ∧ fineS tx = true ∧ FinesN ks
def FinesN : List Nd → Prop
  | [] => True
  | x :: r => FineN x ∧ FinesN r
end
theorem fine_none : fineS ⟨#[]⟩ = true := by decide +kernel
theorem named_fine {sp lo : ByteArray} {b : Bool} (h : namedS sp lo b = 0) : fineS sp = true := by
  unfold namedS at h
  split at h
  · omega
  · split at h
    · omega
    · split at h
      · omega
      · rename_i h1
        cases hf : fineS sp with
        | true => rfl
        | false => exact absurd (.inr hf) h1
theorem attrs_fine : ∀ (al : List Atr) (seen : List (ByteArray × ByteArray)), attrsS seen al = 0 → ∀ a ∈ al, fineS a.1 = true ∧ fineS a.2.2 = true
  | [], _, _ => by simp
  | x :: r, seen, h => by
    unfold attrsS at h
    split at h
    · omega
    · rename_i h1
      split at h
      · omega
      · split at h
        · omega
        · rename_i h2
          intro a ha
          rcases List.mem_cons.1 ha with rfl | ha
          · exact ⟨named_fine (by simpa using h1), by simpa using h2⟩
          · exact attrs_fine r _ h a ha
mutual
theorem chk_fine : ∀ (n : Nd) (deep : Nat) (may : Bool), chkN n deep may = 0 → FineN n
  | .mk t sp lo al ks tx, deep, may, h => by
    have hr := chk_right (.mk t sp lo al ks tx) deep may h
    rw [RightN] at hr
    rw [chkN] at h
    split at h
    · omega
    · split at h
      · rename_i hlo
        split at h
        · omega
        · rcases hr.1 with ⟨_, h2, h3, h4, _⟩ | ⟨h1, _⟩
          · subst h2 h3 h4
            rw [FineN]
            refine ⟨fine_none, by simp, ?_, by rw [FinesN]; trivial⟩
            unfold textS6 at h
            split at h
            · omega
            · split at h
              · omega
              · rename_i h5; simpa using h5
          · exact absurd hlo h1
      · rename_i hlo
        rcases hr.1 with ⟨h1, _⟩ | ⟨_, _, h3, _⟩
        · exact absurd h1 hlo
        · split at h
          · rename_i h1; exact absurd h h1
          · rename_i h1
            have h1 : elemS sp lo tx al = 0 := by simpa using h1
            unfold elemS at h1
            rw [if_neg (fun e => e h3)] at h1
            split at h1
            · rename_i h2; exact absurd h1 h2
            · rename_i h2
              rw [FineN]
              exact ⟨named_fine (by simpa using h2), attrs_fine al [] h1, by rw [h3]; exact fine_none, chks_fine ks (deep + 1) true h⟩
theorem chks_fine : ∀ (l : List Nd) (deep : Nat) (may : Bool), chksN l deep may = 0 → FinesN l
  | [], _, _, _ => by rw [FinesN]; trivial
  | x :: r, deep, may, h => by
    rw [chksN] at h
    split at h
    · rename_i h1; exact absurd h h1
    · rename_i h1
      rw [FinesN]
      exact ⟨chk_fine x deep may (by simpa using h1), chks_fine r deep _ h⟩
end
mutual
theorem fine_sort : ∀ (n : Nd), FineN n → FineN (sortN n)
  | .mk t sp lo al ks tx, h => by
    rw [FineN] at h
    rw [sortN, FineN]
    exact ⟨h.1, fun a ha => h.2.1 a ((sortA_perm al).mem_iff.1 ha), h.2.2.1, fines_sort ks h.2.2.2⟩
theorem fines_sort : ∀ (l : List Nd), FinesN l → FinesN (sortsN l)
  | [], _ => by rw [sortsN, FinesN]; trivial
  | x :: r, h => by
    rw [FinesN] at h
    rw [sortsN, FinesN]
    exact ⟨fine_sort x h.1, fines_sort r h.2⟩
end
theorem fines_mem : ∀ {l : List Nd} {x : Nd}, FinesN l → x ∈ l → FineN x
  | y :: r, x, h, hx => by
    unfold FinesN at h
    rcases List.mem_cons.1 hx with rfl | hx
    · exact h.1
    · exact fines_mem h.2 hx
theorem rights_mem : ∀ {l : List Nd} {may : Bool} {x : Nd}, RightsN may l → x ∈ l → RightN x
  | y :: r, may, x, h, hx => by
    unfold RightsN at h
    rcases List.mem_cons.1 hx with rfl | hx
    · exact h.2.1
    · exact rights_mem h.2.2 hx
mutual
/-- All namespaces are such. -/
def allN (P : ByteArray → Prop) : Nd → Prop
  | .mk _ sp _ al ks _ => P sp ∧ (∀ a ∈ al, P a.1) ∧ allsN P ks
def allsN (P : ByteArray → Prop) : List Nd → Prop
  | [] => True
  | x :: r => allN P x ∧ allsN P r
end
theorem meet_all {P : ByteArray → Prop} {l : List Pr6} {s : ByteArray} (h : ∀ p ∈ l, P p.2) (hs : P s) : ∀ p ∈ meetP l s, P p.2 := fun p hp => by
  unfold meetP at hp
  split at hp
  · exact h p hp
  · rcases List.mem_append.1 hp with hp | hp
    · exact h p hp
    · obtain rfl := List.mem_singleton.1 hp
      exact hs
theorem meets_all {P : ByteArray → Prop} : ∀ (al : List Atr) (l : List Pr6), (∀ p ∈ l, P p.2) → (∀ a ∈ al, P a.1) → ∀ p ∈ meetsP l al, P p.2
  | [], _, h, _ => h
  | a :: r, l, h, ha => meets_all r (meetP l a.1) (meet_all h (ha a (List.mem_cons_self ..))) fun x hx => ha x (List.mem_cons_of_mem _ hx)
mutual
theorem met_all {P : ByteArray → Prop} : ∀ (n : Nd) (l : List Pr6), (∀ p ∈ l, P p.2) → allN P n → ∀ p ∈ metN l n, P p.2
  | .mk t sp lo al ks tx, l, h, hn => by
    rw [allN] at hn
    rw [metN]
    exact mets_all ks _ (meets_all al _ (meet_all h hn.1) hn.2.1) hn.2.2
theorem mets_all {P : ByteArray → Prop} : ∀ (ks : List Nd) (l : List Pr6), (∀ p ∈ l, P p.2) → allsN P ks → ∀ p ∈ metsN l ks, P p.2
  | [], _, h, _ => by rw [metsN]; exact h
  | x :: r, l, h, hn => by
    rw [allsN] at hn
    rw [metsN]
    exact mets_all r _ (met_all x l h hn.1) hn.2
end
mutual
theorem fine_all : ∀ (n : Nd), FineN n → allN (fun s => fineS s = true) n
  | .mk t sp lo al ks tx, h => by
    rw [FineN] at h
    rw [allN]
    exact ⟨h.1, fun a ha => (h.2.1 a ha).1, fines_all ks h.2.2.2⟩
theorem fines_all : ∀ (l : List Nd), FinesN l → allsN (fun s => fineS s = true) l
  | [], _ => by rw [allsN]; trivial
  | x :: r, h => by
    rw [FinesN] at h
    rw [allsN]
    exact ⟨fine_all x h.1, fines_all r h.2⟩
end
mutual
theorem size_all (B : Nat) : ∀ (n : Nd), n.bulk ≤ B → allN (fun s => s.size ≤ B) n
  | .mk t sp lo al ks tx, h => by
    rw [nd_bulk] at h
    rw [allN]
    have h1 : (Nd.mk t sp lo al ks tx).sp = sp := rfl
    have h2 : (Nd.mk t sp lo al ks tx).al = al := rfl
    have h3 : (Nd.mk t sp lo al ks tx).ks = ks := rfl
    rw [h1, h2, h3] at h
    exact ⟨by omega, fun a ha => by have := atr_mem ha; omega, sizes_all B ks (by omega)⟩
theorem sizes_all (B : Nat) : ∀ (l : List Nd), Nd.bulk.bulks l ≤ B → allsN (fun s => s.size ≤ B) l
  | [], _ => by rw [allsN]; trivial
  | x :: r, h => by
    rw [Nd.bulk.bulks] at h
    rw [allsN]
    exact ⟨size_all B x (by omega), sizes_all B r (by omega)⟩
end
end Go.Proofs.YtojeclfcgnamoaaDoor
