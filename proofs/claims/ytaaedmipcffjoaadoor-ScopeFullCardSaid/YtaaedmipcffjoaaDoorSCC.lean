/-
  The walks of the layer scope: slices.BinarySearch at names in order, Len, Has.
-/
import Derived.Test.YtaaedmipcffjoaaDoorSCA
import Derived.Test.YtaaedmipcffjoaaDoorRI
import Derived.Test.YtaaedmipcffjoaaDoorShelf
import Derived.Deep.LoopGhost
namespace Go.Proofs.YtaaedmipcffjoaaDoor
open Go.RowKit

/-! slices.BinarySearch at names in order. -/
theorem less_head : ∀ (own : List ByteArray) (x : ByteArray), Srt own → ∀ t, t < own.length → (Op.bytesLess (own.getD t x).toList x.toList = true ↔ t < (own.takeWhile fun y => decide (ltB y x)).length)
  | [], _, _, t, h => absurd h (by simp)
  | y :: l, x, hs, t, h => by
    rw [bytesLess_ltB, decide_eq_true_eq, List.takeWhile_cons]
    by_cases hy : ltB y x
    · rw [if_pos (by simpa using hy)]
      cases t with
      | zero => simpa using hy
      | succ t =>
        have := less_head l x (srt_tail hs) t (by simpa using h)
        rw [bytesLess_ltB, decide_eq_true_eq] at this
        simpa using this
    · rw [if_neg (by simpa using hy)]
      refine ⟨fun h1 => absurd ?_ hy, fun h1 => absurd h1 (by simp)⟩
      cases t with
      | zero => simpa using h1
      | succ t =>
        have h2 : (l.getD t x) ∈ l := by
          have ht : t < l.length := by simpa using h
          rw [List.getD_eq_getElem?_getD, List.getElem?_eq_getElem ht]; simp
        exact ltB_trans (srt_head hs _ h2) (by simpa using h1)
theorem takeWhile_le {α : Type} (p : α → Bool) (l : List α) : (l.takeWhile p).length ≤ l.length := (List.takeWhile_sublist p).length_le
theorem search_at (own : List ByteArray) (x : ByteArray) (hs : Srt own) : Lib.bsGo (fun t => Op.bytesLess (own.getD t x).toList x.toList) own.length 0 own.length = (own.takeWhile fun y => decide (ltB y x)).length := by
  refine Lib.bsGo_spec _ _ (fun t ht => ?_) (fun t ht => ?_) _ _ _ (by omega) (Nat.zero_le _) (takeWhile_le _ _)
  · exact (less_head own x hs t (Nat.lt_of_lt_of_le ht (takeWhile_le _ _))).2 ht
  · by_cases h : t < own.length
    · have := less_head own x hs t h
      cases hb : Op.bytesLess (own.getD t x).toList x.toList
      · rfl
      · exact absurd (this.1 hb) (by omega)
    · rw [List.getD_eq_getElem?_getD, List.getElem?_eq_none (by omega), Option.getD_none, bytesLess_ltB]
      exact decide_eq_false (ltB_irrefl _)
theorem search_found : ∀ (own : List ByteArray) (x : ByteArray), Srt own → (((own.takeWhile fun y => decide (ltB y x)).length < own.length ∧ own.getD (own.takeWhile fun y => decide (ltB y x)).length x = x) ↔ x ∈ own)
  | [], x, _ => by simp
  | y :: l, x, hs => by
    rw [List.takeWhile_cons]
    by_cases hy : ltB y x
    · rw [if_pos (by simpa using hy)]
      have := search_found l x (srt_tail hs)
      rw [List.length_cons, List.length_cons, Nat.add_lt_add_iff_right, List.getD_cons_succ, this, List.mem_cons]
      exact ⟨.inr, fun h => h.elim (fun e => absurd hy (e ▸ ltB_irrefl _)) id⟩
    · rw [if_neg (by simpa using hy)]
      simp only [List.length_nil, List.length_cons, List.getD_cons_zero, List.mem_cons]
      constructor
      · exact fun h => .inl h.2.symm
      · rintro (h | h)
        · exact ⟨by omega, h.symm⟩
        · exact absurd (srt_head hs x h) hy
theorem search_c (sl : Value) (own : List ByteArray) (x : ByteArray) (w : World) (hs : Srt own) (hv : RowAt0 w sl (strsV own)) (hl : own.length ≤ 4294967290) :
    Calls Tryd.prog 34 #[sl, .string x] w fun e w' => ∃ i : Int, e = .returned (.tuple #[.int .i64 i, .bool (decide (x ∈ own))]) ∧ ∃ n, w.drewN n = w' := by
  rcases hv with ⟨rfl, h0⟩ | ⟨b, off, cap, rfl, hcap, hlt, hc⟩
  · have : own = [] := by cases own with
      | nil => rfl
      | cons a l => simp [strsV] at h0
    subst this
    exact (Tryd.slices_BinarySearch_string_empty none 0 x w).mono fun e w' ⟨he, hw⟩ => ⟨0, by rw [he]; simp, 0, hw.symm⟩
  · rw [strsV_length]
    have h := Tryd.slices_BinarySearch_string b off own.length cap (fun t => own.getD t x) x w (by omega) (fun j hj => by
      rw [hc j (by rw [strsV_length]; exact hj)]
      simp [strsV, List.getElem?_eq_getElem hj])
    rw [search_at own x hs] at h
    refine h.mono fun e w' ⟨he, n, hw⟩ => ⟨((own.takeWhile fun y => decide (ltB y x)).length : Nat), ?_, n, hw.symm⟩
    rw [he]
    have := search_found own x hs
    congr 3
    simp only [this]

/-- Block b holds a scope's object. -/
def Scp (W : World) (b : Nat) (u sl : Value) (n : Nat) : Prop := W.heap[b]? = some (.cells #[u, sl, .int .i64 n] 62 (0, 0))
section
variable {w : World} {b n : Nat} {u sl : Value}
theorem Scp.lt (h : Scp w b u sl n) : b < w.heap.size := (Array.getElem?_eq_some_iff.1 h).1
theorem Scp.c0 (h : Scp w b u sl n) : w.cell? ⟨b, 0, none⟩ = some u := by unfold Scp at h; simp [World.cell?, h]
theorem Scp.c1 (h : Scp w b u sl n) : w.cell? ⟨b, 1, none⟩ = some sl := by unfold Scp at h; simp [World.cell?, h]
theorem Scp.c2 (h : Scp w b u sl n) : w.cell? ⟨b, 2, none⟩ = some (.int .i64 n) := by unfold Scp at h; simp [World.cell?, h]
theorem Scp.fz (h : Scp w b u sl n) (o : Nat) : w.frozen? ⟨b, o, none⟩ = false := by unfold Scp at h; simp [World.frozen?, h]
theorem Scp.set1 (h : Scp w b u sl n) (z : Value) : Scp (w.setCell ⟨b, 1, none⟩ z) b u z n := by unfold Scp at h ⊢; simp [World.setCell, Array.getElem?_modify, h]
theorem Scp.set2 (h : Scp w b u sl n) (k : Nat) : Scp (w.setCell ⟨b, 2, none⟩ (.int .i64 k)) b u sl k := by unfold Scp at h ⊢; simp [World.setCell, Array.getElem?_modify, h]
theorem Scp.bel {w' : World} (h : Scp w b u sl n) (hb : Bel w w') : Scp w' b u sl n := (hb.block h.lt).trans h
theorem Scp.new (w : World) (u sl : Value) (n : Nat) : Scp (w.alloc (.cells #[u, sl, .int .i64 n] 62)) w.heap.size u sl n := World.alloc_heap_new _ _
end
/-- v is a scope: its own names, and those of the scopes above it. -/
def ScopeAt (W : World) : Value → List (List ByteArray) → Prop
  | v, [] => v = .pointer none
  | v, own :: C => ∃ b u sl, v = .pointer (some ⟨b, 0, none⟩) ∧ Scp W b u sl (own :: C).flatten.length ∧ RowAt0 W sl (strsV own) ∧ Srt own ∧ ScopeAt W u C
theorem ScopeAt.bel {W W' : World} (hb : Bel W W') : ∀ {C : List (List ByteArray)} {v : Value}, ScopeAt W v C → ScopeAt W' v C
  | [], _, h => h
  | _ :: C, _, ⟨b, u, sl, h1, h2, h3, h4, h5⟩ => ⟨b, u, sl, h1, h2.bel hb, h3.bel hb, h4, ScopeAt.bel hb (C := C) h5⟩
/-- v is a scope of the names N, in order. -/
def ScopeIs (W : World) (v : Value) (N : List ByteArray) : Prop := (Srt N ∧ ∀ x ∈ N, x.size ≤ 4294967280) ∧ N.length ≤ 4096 ∧ ∃ C, ScopeAt W v C ∧ N.Perm C.flatten
theorem ScopeIs.bel {W W' : World} {v : Value} {N : List ByteArray} (h : ScopeIs W v N) (hb : Bel W W') : ScopeIs W' v N := by
  obtain ⟨h1, h2, C, h3, h4⟩ := h
  exact ⟨h1, h2, C, h3.bel hb, h4⟩
theorem ScopeIs.none (W : World) : ScopeIs W (.pointer none) [] := ⟨⟨srt_nil, by simp⟩, by simp, [], rfl, List.Perm.refl _⟩

set_option maxHeartbeats 400000 in
theorem len_c (v : Value) (N : List ByteArray) (w : World) (h : ScopeIs w v N) :
    Calls Tryd.prog 23 #[v] w fun e w' => e = .returned (.int .i64 N.length) ∧ w = w' := by
  obtain ⟨_, hle, C, hv, hpm⟩ := h
  rw [hpm.length_eq] at hle ⊢
  cases C with
  | nil =>
    obtain rfl : v = .pointer none := hv
    go_enter Tryd.func23, Tryd.ntmps23
    go_wp2_with fail
    go_ret
    exact ⟨rfl, rfl⟩
  | cons own C =>
    obtain ⟨b, u, sl, rfl, h1, _⟩ := hv
    obtain ⟨n, hn⟩ : ∃ n, (own :: C).flatten.length = n := ⟨_, rfl⟩
    rw [hn] at h1 ⊢
    have q2 := h1.c2
    clear hn
    go_enter Tryd.func23, Tryd.ntmps23
    go_wp2_with fail
    go_ret
    exact ⟨rfl, rfl⟩

set_option maxHeartbeats 1000000 in
theorem has_q (v : Value) (N : List ByteArray) (x : ByteArray) (w : World) (h : ScopeIs w v N) :
    Calls Tryd.prog 19 #[v, .string x] w fun e w' => e = .returned (.bool (decide (x ∈ N))) ∧ ∃ n, w.drewN n = w' := by
  obtain ⟨_, hle, C, hv, hpm⟩ := h
  obtain ⟨R, hR⟩ : ∃ R, decide (x ∈ N) = R := ⟨_, rfl⟩
  rw [hR]
  have hr : decide (x ∈ C.flatten) = R := by rw [← hR]; exact decide_eq_decide.2 hpm.mem_iff.symm
  rw [hpm.length_eq] at hle
  have HV := Lib.hid hv
  have HR := Lib.hid hr
  have HL := Lib.hid hle
  clear hpm hR hv hr hle
  go_enter Tryd.func19, Tryd.ntmps19
  go_wp2_with fail
  go_step3
  go_wp2_with fail
  go_step3
  go_wp2_with fail
  go_loopg [0, 5] (C.length) (fun g s f wr => ∃ D : List (List ByteArray), ScopeAt wr s D ∧ f = .bool false ∧ (∃ m, w.drewN m = wr) ∧ D.flatten.length ≤ 4096 ∧ decide (x ∈ D.flatten) = R ∧ D.length ≤ g)
  case atStart => exact ⟨C, HV.out, rfl, ⟨0, rfl⟩, HL.out, HR.out, Nat.le_refl _⟩
  case round =>
    obtain ⟨D, hs, rfl, ⟨m, hb⟩, hl, hr, hg⟩ := hrel
    have HBM := Lib.hid hb
    clear hb
    cases D with
    | nil =>
      obtain rfl : _ = Value.pointer none := hs
      obtain rfl : R = false := by rw [← hr]; simp
      go_wp2_with fail
      simp only [Exit.noGoto_ret]
      go_ret
      exact ⟨rfl, m, HBM.out⟩
    | cons own D =>
      obtain ⟨b, u, sl, rfl, h1, h2, h3, h4⟩ := hs
      rw [List.flatten_cons, List.length_append] at hl
      have hc := fun w1 (hb1 : Bel wr w1) => search_c sl own x w1 h3 (h2.bel hb1) (by omega)
      have q0 := h1.c0
      have q1 := h1.c1
      have H4 := Lib.hid h4
      have H1 := Lib.hid h1
      have HRR := Lib.hid hr
      have HC := Lib.hid hc
      have HG : Hid (D.length + 1 ≤ _) := Lib.hid hg
      have HLL := Lib.hid hl
      obtain ⟨F, hF⟩ : ∃ F, decide (x ∈ own) = F := ⟨_, rfl⟩
      rw [hF] at HC
      have HF := Lib.hid hF
      clear h1 h2 h3 h4 hr hc hg hl hF
      cases F
      · go_wp2_with (go_at_call 34; refine (HC.out _ (Bel.refl _)).mono ?_; rintro e w1 ⟨i, rfl, n1, hn1⟩; have hb1 : Bel wr w1 := hn1 ▸ Bel.drewN wr n1; have q0' := (Scp.bel H1.out hb1).c0; have HN1 := Lib.hid hn1; clear hn1)
        go_roundg (gk - 1)
        case measure => have := HG.out; omega
        case rel =>
          refine ⟨D, H4.out.bel (by assumption), rfl, ⟨m + n1, by rw [← HN1.out, ← HBM.out]; simp [World.drewN, Nat.add_assoc]⟩, by have := HLL.out; omega, ?_, by have := HG.out; omega⟩
          rw [← HRR.out, List.flatten_cons]
          have := of_decide_eq_false HF.out
          simp [this]
      · go_wp2_with (go_at_call 34; refine (HC.out _ (Bel.refl _)).mono ?_; rintro e w1 ⟨i, rfl, n1, hn1⟩; have HN1 := Lib.hid hn1; clear hn1)
        simp only [Exit.noGoto_ret]
        go_ret
        refine ⟨?_, m + n1, by rw [← HN1.out, ← HBM.out]; simp [World.drewN, Nat.add_assoc]⟩
        have := of_decide_eq_true HF.out
        rw [← HRR.out, List.flatten_cons]
        simp [this]
theorem has_c (v : Value) (N : List ByteArray) (x : ByteArray) (w : World) (h : ScopeIs w v N) :
    Calls Tryd.prog 19 #[v, .string x] w fun e w' => e = .returned (.bool (decide (x ∈ N))) ∧ Bel w w' :=
  (has_q v N x w h).mono fun _ _ ⟨he, _, hn⟩ => ⟨he, hn ▸ Bel.drewN _ _⟩
end Go.Proofs.YtaaedmipcffjoaaDoor
