/-
  The walk of names.Right.
  The walk of tipstaveref02.Right.
  Plain laws of scope: names in order, each once; insertion; what sorting and compacting gives.
  slices.Sorted(slices.Values(l)): a new slice of l's texts, sorted.
  The walks of the layer scope: slices.BinarySearch at names in order, Len, Has.
  The walks of the layer scope: With, New.
  The walks of the layer scope: New, Longest.
-/
import Derived.Test.YtpenfnabeckboaaGreatDoorMK
import Derived.Test.YtpenfnabeckboaaGreatDoorMT
import Derived.Lib.SlicesCompact
import Derived.Lib.Join
import Derived.Test.YtpenfnabeckboaaGreatDoorShelf
import Derived.Sort.OwnSorted
import Derived.Lib.RowBridge
import Derived.Deep.LoopGhost
import Derived.Test.YtpenfnabeckboaaGreatDoorMB
namespace Go.Proofs.YtpenfnabeckboaaGreatDoor
open Go.RowKit
set_option maxHeartbeats 400000 in
theorem right_c (s : ByteArray) (hs : s.size ≤ 4294967280) (w : World) (hE : Env w) :
    Calls Tryz.prog 116 #[.string s] w fun e w' => e = .returned (.bool (wordsS s).isSome) ∧ Bel w w' := by
  have hw := words_c s hs w hE
  obtain ⟨r, hr⟩ : ∃ r, wordsS s = r := ⟨_, rfl⟩
  rw [hr] at hw ⊢
  clear hr
  cases r
  · have HW := Lib.hid hw
    clear hw
    go_enter Tryz.func116, Tryz.ntmps116
    go_wp2_with fail
    refine HW.out.mono ?_
    rintro e w1 ⟨hb, rfl⟩
    go_wp2_with fail
    go_ret
    exact ⟨rfl, hb⟩
  · have HW := Lib.hid hw
    clear hw
    go_enter Tryz.func116, Tryz.ntmps116
    go_wp2_with fail
    refine HW.out.mono ?_
    rintro e w1 ⟨hb, v, rfl, _⟩
    go_wp2_with fail
    go_ret
    exact ⟨rfl, hb⟩
end Go.Proofs.YtpenfnabeckboaaGreatDoor

namespace Go.Proofs.YtpenfnabeckboaaGreatDoor
open Go.RowKit
set_option maxHeartbeats 400000 in
theorem rright_c (s : ByteArray) (hs : s.size ≤ 4294967200) (w : World) :
    Calls Tryz.prog 32 #[.string s] w fun e w' => e = .returned (.bool (wordsS s).isSome) ∧ Bel w w' := by
  have hw := rwords_c s hs w
  rw [words_same] at hw
  obtain ⟨r, hr⟩ : ∃ r, wordsS s = r := ⟨_, rfl⟩
  rw [hr] at hw ⊢
  clear hr
  cases r
  · have HW := Lib.hid hw
    clear hw
    go_enter Tryz.func32, Tryz.ntmps32
    go_wp2_with fail
    refine HW.out.mono ?_
    rintro e w1 ⟨hb, rfl⟩
    go_wp2_with fail
    go_ret
    exact ⟨rfl, hb⟩
  · have HW := Lib.hid hw
    clear hw
    go_enter Tryz.func32, Tryz.ntmps32
    go_wp2_with fail
    refine HW.out.mono ?_
    rintro e w1 ⟨hb, v, rfl, _⟩
    go_wp2_with fail
    go_ret
    exact ⟨rfl, hb⟩
end Go.Proofs.YtpenfnabeckboaaGreatDoor

namespace Go.Proofs.YtpenfnabeckboaaGreatDoor
/-- One text stands ahead of another one. -/
def ltB (a b : ByteArray) : Prop := a.data.toList < b.data.toList
instance (a b : ByteArray) : Decidable (ltB a b) := inferInstanceAs (Decidable (a.data.toList < b.data.toList))
theorem data_ext {a b : ByteArray} (h : a.data.toList = b.data.toList) : a = b := by
  apply ByteArray.ext
  exact Array.ext' h
instance memDec (x : ByteArray) (N : List ByteArray) : Decidable (x ∈ N) := decidable_of_iff (x.data.toList ∈ N.map (·.data.toList)) ⟨fun h => by
  obtain ⟨y, hy, e⟩ := List.mem_map.1 h
  rw [← data_ext e]; exact hy, fun h => List.mem_map.2 ⟨x, h, rfl⟩⟩
theorem ltB_irrefl (a : ByteArray) : ¬ ltB a a := List.lt_irrefl _
/-- In order, each once. -/
def Srt (l : List ByteArray) : Prop := l.Pairwise ltB
theorem Srt.nodup {l : List ByteArray} (h : Srt l) : l.Nodup := List.Pairwise.imp (fun hab e => by subst e; exact ltB_irrefl _ hab) h
theorem leL_trans (a b c : List UInt8) : decide (a ≤ b) = true → decide (b ≤ c) = true → decide (a ≤ c) = true := by
  simp only [decide_eq_true_eq]; exact List.le_trans
theorem leL_total (a b : List UInt8) : (decide (a ≤ b) || decide (b ≤ a)) = true := by
  simp only [Bool.or_eq_true, decide_eq_true_eq]; exact List.le_total a b
theorem lt_of_leL {a b : List UInt8} (h : a ≤ b) (hne : a ≠ b) : a < b := by
  by_cases h2 : a < b
  · exact h2
  · exact absurd (List.le_antisymm h (List.not_lt.1 h2)) hne
def sortL (l : List (List UInt8)) : List (List UInt8) := l.mergeSort fun x y => decide (x ≤ y)
theorem sortL_le (l : List (List UInt8)) : (sortL l).Pairwise (· ≤ ·) := (List.pairwise_mergeSort leL_trans leL_total l).imp fun h => by simpa using h
theorem mem_sortL (x : List UInt8) (l : List (List UInt8)) : x ∈ sortL l ↔ x ∈ l := (List.mergeSort_perm l _).mem_iff
theorem sortL_length (l : List (List UInt8)) : (sortL l).length = l.length := (List.mergeSort_perm l _).length_eq
theorem compactUpTo_inv (d : Array (List UInt8)) (h : d.toList.Pairwise (· ≤ ·)) : ∀ m, m ≤ d.size →
    (Lib.compactUpTo d m).Pairwise (· < ·) ∧ (∀ x, x ∈ Lib.compactUpTo d m ↔ ∃ j, j < m ∧ d[j]! = x) ∧ (∀ x ∈ Lib.compactUpTo d m, 0 < m → x ≤ d[m - 1]!)
  | 0, _ => ⟨List.Pairwise.nil, by simp [Lib.compactUpTo], by simp [Lib.compactUpTo]⟩
  | m + 1, hm => by
    obtain ⟨h1, h2, h3⟩ := compactUpTo_inv d h m (by omega)
    have hmono : ∀ i j, i ≤ j → j < d.size → d[i]! ≤ d[j]! := by
      intro i j hij hj
      rcases Nat.eq_or_lt_of_le hij with rfl | hlt
      · exact List.le_refl _
      · have := List.pairwise_iff_getElem.1 h i j (by simpa using Nat.lt_of_lt_of_le hlt (Nat.le_of_lt hj)) (by simpa using hj) hlt
        rw [getElem!_pos d i (by omega), getElem!_pos d j hj]
        simpa using this
    rw [Lib.compactUpTo_succ]
    have hle : ∀ x ∈ Lib.compactUpTo d m, x ≤ d[m]! := by
      intro x hx
      obtain ⟨j, hj, rfl⟩ := (h2 x).1 hx
      exact hmono j m (by omega) (by omega)
    by_cases hk : Lib.keeps d m = true
    · rw [if_pos hk]
      refine ⟨List.pairwise_append.2 ⟨h1, List.pairwise_singleton _ _, fun x hx y hy => ?_⟩, fun x => ?_, fun x hx _ => ?_⟩
      · obtain rfl := List.mem_singleton.1 hy
        obtain ⟨j, hj, rfl⟩ := (h2 x).1 hx
        have hne : d[m]! ≠ d[m - 1]! := by
          simp only [Lib.keeps, decide_eq_true_eq] at hk
          rcases hk with h | h
          · omega
          · exact h
        have hx1 := h3 _ hx (by omega)
        have hx2 : d[m - 1]! < d[m]! := lt_of_leL (hmono (m - 1) m (by omega) (by omega)) (fun e => hne e.symm)
        exact List.lt_of_le_of_lt hx1 hx2
      · rw [List.mem_append, h2, List.mem_singleton]
        constructor
        · rintro (⟨j, hj, h⟩ | h)
          · exact ⟨j, by omega, h⟩
          · exact ⟨m, by omega, h.symm⟩
        · rintro ⟨j, hj, h⟩
          rcases Nat.lt_or_eq_of_le (Nat.le_of_lt_succ hj) with h4 | h4
          · exact .inl ⟨j, h4, h⟩
          · subst h4; exact .inr h.symm
      · rw [Nat.add_sub_cancel]
        rcases List.mem_append.1 hx with h | h
        · exact hle x h
        · obtain rfl := List.mem_singleton.1 h; exact List.le_refl _
    · rw [if_neg hk, List.append_nil]
      have hk2 : m ≠ 0 ∧ d[m]! = d[m - 1]! := by
        simp only [Lib.keeps, decide_eq_true_eq, not_or] at hk
        exact ⟨hk.1, by simpa using hk.2⟩
      refine ⟨h1, fun x => ?_, fun x hx _ => ?_⟩
      · rw [h2]
        constructor
        · rintro ⟨j, hj, h⟩
          exact ⟨j, by omega, h⟩
        · rintro ⟨j, hj, h⟩
          rcases Nat.lt_or_eq_of_le (Nat.le_of_lt_succ hj) with h4 | h4
          · exact ⟨j, h4, h⟩
          · subst h4; exact ⟨j - 1, by omega, by rw [← hk2.2]; exact h⟩
      · rw [Nat.add_sub_cancel]; exact hle x hx
theorem compact_sorted (l : List (List UInt8)) (h : l.Pairwise (· ≤ ·)) : (Lib.compact l).Pairwise (· < ·) ∧ ∀ x, x ∈ Lib.compact l ↔ x ∈ l := by
  obtain ⟨h1, h2, _⟩ := compactUpTo_inv l.toArray (by simpa using h) l.length (by simp)
  refine ⟨h1, fun x => ?_⟩
  show x ∈ Lib.compactUpTo _ _ ↔ _
  rw [h2]
  constructor
  · rintro ⟨j, hj, rfl⟩
    rw [getElem!_pos _ j (by simpa using hj)]
    simp
  · intro hx
    obtain ⟨j, hj, rfl⟩ := List.getElem_of_mem hx
    exact ⟨j, hj, by rw [getElem!_pos _ j (by simpa using hj)]; simp⟩
/-- Sorted, each once. -/
def uniqS (l : List ByteArray) : List ByteArray := (Lib.compact (sortL (l.map (·.data.toList)))).map fun x => ⟨x.toArray⟩
theorem srt_uniqS (l : List ByteArray) : Srt (uniqS l) := by
  unfold uniqS Srt
  exact List.pairwise_map.2 ((compact_sorted _ (sortL_le _)).1.imp fun h => by unfold ltB; simpa using h)
theorem mem_uniqS (l : List ByteArray) (x : ByteArray) : x ∈ uniqS l ↔ x ∈ l := by
  unfold uniqS
  simp only [List.mem_map]
  constructor
  · rintro ⟨y, hy, rfl⟩
    obtain ⟨z, hz, rfl⟩ := List.mem_map.1 ((mem_sortL _ _).1 (((compact_sorted _ (sortL_le _)).2 y).1 hy))
    rw [show (⟨z.data.toList.toArray⟩ : ByteArray) = z from by cases z; rfl]
    exact hz
  · intro hx
    exact ⟨x.data.toList, ((compact_sorted _ (sortL_le _)).2 _).2 ((mem_sortL _ _).2 (List.mem_map.2 ⟨x, hx, rfl⟩)), by cases x; rfl⟩
def rightS (s : ByteArray) : Bool := (wordsS s).isSome
/-- How many bytes they have, with one more each. -/
def sumS (l : List ByteArray) : Nat := (l.map fun s => s.size + 1).sum
theorem sumS_cons (x : ByteArray) (l : List ByteArray) : sumS (x :: l) = x.size + 1 + sumS l := by simp [sumS]
end Go.Proofs.YtpenfnabeckboaaGreatDoor

namespace Go.Proofs.YtpenfnabeckboaaGreatDoor
open Go.RowKit Go.Shelf
attribute [local go_sem] Oper.semAt_some
theorem info_str : (Tryz.prog.info? 9).map (fun i => (i.zero, i.size, i.bytes)) = some (some (.string ⟨#[]⟩), 1, 16) := by kernel_rfl
set_option maxRecDepth 100000 in
set_option maxHeartbeats 2000000 in
theorem appendSeq_of (n : Nat) (h1 : 1 ≤ n) (lb : Array Value) (Kp : World → World → Prop) (L : List Str) (Sp : List Str → Prop) (w : World) (hL : L.length ≤ 4294967296)
    (hseq : ∀ W0, Below w.heap.size w W0 → SeqStopsK Fence.wide (n - 1) Tryz.prog 145 lb (fun x : Str => #[Value.string x.1]) Kp (fun ys => ys = L) Sp L.length W0)
    (hKt : ∀ {A B C : World}, Kp A B → Kp B C → Kp A C) (hKb : ∀ (W : World) (l : Nat) (o o' : Obj), w.heap.size ≤ l → W.heap[l]? = some o → o.isCells = false → o.isWalk = false → Kp W (W.putObj l o')) (hKl : ∀ W W' : World, w.heap.size ≤ W.heap.size → Below w.heap.size W W' → Kp W W') :
    CallsIn Fence.wide n Tryz.prog 167 #[.slice none 0 0, .func (.func 145) #[] lb] w fun e W' =>
      ∃ v, e = .returned v ∧ W'.ownsRow w.heap.size 9 1 v L.length (L.map fun x => Value.string x.1) ∧ Below w.heap.size w W' := by
  obtain ⟨i0, hi, hz0, hz1, hz2⟩ := info_parts info_str
  refine callsIn_of_wp_marks Tryz.func167 rfl trivial ?_ rfl
  simp only [Tryz.ntmps167, List.size_toArray, List.length_cons, List.length_nil, Nat.reduceAdd, Nat.reduceSub, Array.replicate_succ, Array.replicate_zero, List.push_toArray, List.append_toArray, List.nil_append, List.cons_append]
  gi_wp2
  have cS := Boxed.new w 22 (.slice none 0 0)
  have hB0 : Below w.heap.size w (w.alloc (.cells #[.slice none 0 0] 22)) := (Below.refl _ w).alloc (Nat.le_refl _) _
  have hrow0 : (w.alloc (.cells #[.slice none 0 0] 22)).ownsRow w.heap.size 9 1 (.slice none 0 0) 0 [] := World.ownsRow_nil _ _ _ _
  have hsz : (w.alloc (.cells #[.slice none 0 0] 22)).heap.size = w.heap.size + 1 := by simp
  obtain ⟨W0, hW0⟩ : ∃ W0, w.alloc (.cells #[.slice none 0 0] 22) = W0 := ⟨_, rfl⟩
  rw [hW0] at cS hB0 hrow0 hsz ⊢
  refine wpIn_rangeFunc_ownG rfl h1 (gf := 145) (lb := lb) rfl trivial (enters_of Tryz.func145 (by kernel_rfl) rfl)
    (hseq W0 hB0) hKt (fun W l o o' hl => hKb W l o o' (by omega)) (Below.refl _ _) (fun _ => rfl)
    (fun pre W => ((∃ v, Boxed W w.heap.size 22 v ∧ W.ownsRow w.heap.size 9 1 v pre.length (pre.map fun x => Value.string x.1) ∧ True) ∧ W0.heap.size ≤ W.heap.size) ∧ Below w.heap.size w W)
    (fun _ _ _ => False)
    (OwnFrom.and (OwnFrom.and (Own.from (holdsRow_own w.heap.size w.heap.size 22 9 1 (fun pre : List Str => pre.length) (fun pre => pre.map fun x => Value.string x.1) (fun _ _ => True)) _) (fun s A B row hs hg hr => Nat.le_trans hs hg.size)) (ownFrom_below (Nat.le_refl _) (by omega)))
    (fun _ _ _ _ _ hs _ _ => hs)
    ⟨⟨⟨_, cS, hrow0, trivial⟩, Nat.le_refl _⟩, hB0⟩
    ?act1 ?assign ?body ?done ?stop
  case assign =>
    intro l x W K hK
    gi_wp2
    exact hK
  case body =>
    rintro l pre x W ⟨⟨⟨v, hv, hrow, _⟩, hge⟩, hB⟩ hlt
    have hvc := hv.cell
    have hle : w.heap.size ≤ W.heap.size := by omega
    gi_wp2_with (gi_at_builtin; refine wpListIn_append_own _ rfl _ _ 22 rfl w.heap.size 9 i0 (.string ⟨#[]⟩) 1 16 Tryz.underlying22 hi hz0 hz1 hz2 rfl (by decide) _ _ _ rfl (hrow.alloc _) ⟨W.heap.size, 0, none⟩ 1 1 [.string x.1] rfl rfl (cell_one_new _ _ _) (by simp [Value.oneCell']) (by unfold maxLen; omega) (by omega) (by simp; omega) ?_; intro v' w1 hown' hgrow _; obtain ⟨g', cap', rfl⟩ := ownsRow_succ hown'; obtain ⟨hv1, hv2, hr2, hk2, hb2⟩ := hv.appended (by decide) hrow hle (Nat.le_refl _) hown' hgrow; have hc1 := hv1.cell; have hf1 := hv1.frozen)
    refine ⟨hk2.from _, hKl _ _ hle hb2, ⟨⟨⟨_, hv2, ?_, trivial⟩, Nat.le_trans hge hb2.size⟩, hB.trans hb2⟩⟩
    simpa using hr2
  case done =>
    rintro D ys W hD rfl ⟨⟨⟨v, hv, hrow, _⟩, hge⟩, hB⟩ hK
    have hvc := hv.cell
    gi_wp2
    refine ⟨by simp, .inl ⟨_, _, rfl, run_takeDeferred hK, ?_⟩⟩
    exact ⟨_, results_tmp rfl _ _ _, _, rfl, ownsRow_putObj hrow _ hK rfl, hB.trans (belowK_b (w := w) (Nat.le_refl _) W D _ _ (by omega) hK rfl rfl)⟩
  case stop =>
    rintro D c pre W _ _ h _
    exact h.elim
/-- slices.Values of no text. -/
theorem values_none (F : Fence) (n : Nat) (h7 : F.fn 145) (hro : F.round = none) (Bs cap : Nat) (a : Option Addr) (w : World) (hBs : Bs < w.heap.size)
    (hc : w.cell? ⟨Bs, 0, none⟩ = some (.slice a 0 cap)) :
    SeqStopsK F n Tryz.prog 145 #[.pointer (some ⟨Bs, 0, none⟩)] (fun x : Str => #[Value.string x.1]) (fun _ _ => True) (fun ys => ys = []) (fun _ => False) 0 w := fun l J Jx W hW _ _ hY h0 => by
  have hc' := (hW.cell (p := ⟨Bs, 0, none⟩) hBs).trans hc
  refine callsIn_of_wp Tryz.func145 rfl h7 ?_ hro
  simp only [Tryz.ntmps145, List.size_toArray, List.length_cons, List.length_nil, Nat.reduceAdd, Nat.reduceSub, Array.replicate_succ, Array.replicate_zero, List.push_toArray, List.append_toArray, List.nil_append, List.cons_append]
  gi_wp2
  gi_loopw [7] (fun i wr => i = .int .i64 0 ∧ J [] wr) (fun i _ => (intOf i).toNat)
  case atStart => exact ⟨rfl, h0⟩
  case round =>
    obtain ⟨rfl, hJs⟩ := hrel
    gi_wp2
    go_end0
    exact ⟨⟨_, rfl⟩, .inl ⟨_, rfl, hJs⟩⟩
/-- A text of a list, or none. -/
def strAt (l : List ByteArray) (h : ∀ x ∈ l, x.size ≤ maxLen) (j : Nat) : Str := ⟨l.getD j ⟨#[]⟩, by
  by_cases hj : j < l.length
  · rw [List.getD_eq_getElem?_getD, List.getElem?_eq_getElem hj]; exact h _ (List.getElem_mem hj)
  · rw [List.getD_eq_getElem?_getD, List.getElem?_eq_none (by omega)]; exact Nat.zero_le _⟩
theorem upto_strAt (l : List ByteArray) (h : ∀ x ∈ l, x.size ≤ maxLen) : (upto (strAt l h) l.length).map (fun x => Value.string x.1) = strsV l := by
  unfold upto strsV
  rw [List.map_map]
  apply List.ext_getElem
  · simp
  · intro i h1 h2
    have hi : i < l.length := by simpa using h1
    simp [strAt, List.getElem?_eq_getElem hi]
/-- slices.AppendSeq(nil, slices.Values(l)), in the world behind Values. -/
theorem appendSeq_values (sl : Value) (l : List ByteArray) (w0 : World) (hv : RowE w0 sl (strsV l)) (hl : l.length ≤ 4294967296) (hx : ∀ x ∈ l, x.size ≤ maxLen) (w : World) (hBw : Bel (w0.alloc (.cells #[sl] 22)) w) :
    Calls Tryz.prog 167 #[.slice none 0 0, .func (.func 145) #[] #[.pointer (some ⟨w0.heap.size, 0, none⟩)]] w fun e W' =>
      ∃ v, e = .returned v ∧ W'.ownsRow w.heap.size 9 1 v l.length (strsV l) ∧ Bel w W' := by
  have hB := Boxed.new w0 22 sl
  have hBl : w0.heap.size < w.heap.size := by have := hBw.size; simp at this; omega
  have hBc : w.cell? ⟨w0.heap.size, 0, none⟩ = some sl := hBw.keep hB.cell
  refine (callsIn_wide (n := 5)).1 ?_
  obtain ⟨a, cap, rfl, hcap, h0 | ⟨b, off, rfl, hlt, hc⟩⟩ := hv.bel ((Bel.alloc w0 _).trans hBw)
  · have : l = [] := by cases l with
      | nil => rfl
      | cons a l => simp [strsV] at h0
    subst this
    exact appendSeq_of 5 (by omega) _ (fun _ _ => True) [] (fun _ => False) w (by simp) (fun W0 h0 => values_none Fence.wide 4 trivial rfl _ _ _ W0 (Nat.lt_of_lt_of_le hBl (Below.size h0)) ((Bel.cell h0 hBl).trans hBc))
      (fun _ _ => trivial) (fun _ _ _ _ _ _ _ _ => trivial) (fun _ _ _ _ => trivial)
  · rw [strsV_length] at hBc
    have hlen : (upto (strAt l hx) l.length).length = l.length := upto_length _ _
    have h := appendSeq_of 5 (by omega) #[.pointer (some ⟨w0.heap.size, 0, none⟩)] (KeepB b) (upto (strAt l hx) l.length) (fun pre => pre <+: upto (strAt l hx) l.length) w (by rw [hlen]; exact hl)
      (fun W0 h0 => by
        rw [hlen]
        exact values_stops Fence.wide 4 trivial rfl (by omega) _ b off l.length cap (strAt l hx) (by omega) W0 (Nat.lt_of_lt_of_le hBl (Below.size h0)) (Nat.lt_of_lt_of_le hlt (Below.size h0)) ((Bel.cell h0 hBl).trans hBc)
          (fun j hj => by
            rw [Bel.cell h0 hlt, hc j (by rw [strsV_length]; exact hj)]
            simp [strsV, strAt, List.getElem?_eq_getElem hj]))
      KeepB.trans (KeepB.putObj w.heap.size hlt) (fun W W' hle hbb => hbb.block b (by omega))
    rw [hlen, upto_strAt] at h
    exact h
theorem values_c (sl : Value) (l : List ByteArray) (w : World) (hv : RowE w sl (strsV l)) :
    Calls Tryz.prog 121 #[sl] w fun e w' => e = .returned (.func (.func 145) #[] #[.pointer (some ⟨w.heap.size, 0, none⟩)]) ∧ w.alloc (.cells #[sl] 22) = w' := by
  refine (callsIn_wide (n := 5)).1 ?_
  obtain ⟨a, cap, rfl, _⟩ := hv
  exact (values_in Fence.wide 5 trivial rfl _ _ _ w).mono fun e w' ⟨he, hw⟩ => ⟨he, hw.symm⟩
set_option maxHeartbeats 400000 in
theorem collect_c (sl : Value) (l : List ByteArray) (w0 : World) (hv : RowE w0 sl (strsV l)) (hl : l.length ≤ 4294967296) (hx : ∀ x ∈ l, x.size ≤ maxLen) (w : World) (hBw : Bel (w0.alloc (.cells #[sl] 22)) w) :
    Calls Tryz.prog 143 #[.func (.func 145) #[] #[.pointer (some ⟨w0.heap.size, 0, none⟩)]] w fun e W' =>
      ∃ v, e = .returned v ∧ W'.ownsRow w.heap.size 9 1 v l.length (strsV l) ∧ Bel w W' := by
  have h := fun w1 (h1 : Bel w w1) => appendSeq_values sl l w0 hv hl hx w1 (hBw.trans h1)
  have H := Lib.hid h
  clear h hv hBw
  go_enter Tryz.func143, Tryz.ntmps143
  go_wp2_with (go_at_call 167; refine (H.out _ (Bel.refl _)).mono ?_; rintro e w1 ⟨v, rfl, hown, hb⟩)
  go_ret
  exact ⟨_, rfl, hown, by assumption⟩
theorem strsV_enc (l : List ByteArray) : strsV l = (l.map (·.data.toList)).map encStr := by
  unfold strsV
  rw [List.map_map]
  refine List.map_congr_left fun x _ => ?_
  show Value.string x = Value.string ⟨x.data.toList.toArray⟩
  rw [show (⟨x.data.toList.toArray⟩ : ByteArray) = x from by cases x; rfl]
def bsL (l : List (List UInt8)) : List ByteArray := l.map fun x => ⟨x.toArray⟩
theorem strsV_bsL (l : List (List UInt8)) : strsV (bsL l) = l.map encStr := by
  unfold strsV bsL
  rw [List.map_map]; rfl
/-- slices.Sort of a slice of the call's own. -/
theorem sort_c (W1 : World) (v : Value) (l : List ByteArray) (w : World) (hown : w.ownsRow W1.heap.size 9 1 v l.length (strsV l)) (hl : l.length ≤ 4294967296) (hb : Bel W1 w) :
    Calls Tryz.prog 144 #[v] w fun e w' => e = .returned (.tuple #[]) ∧ w'.ownsRow W1.heap.size 9 1 v l.length (strsV (bsL (sortL (l.map (·.data.toList))))) ∧ Bel W1 w' := by
  rcases hown.2 with ⟨rfl, hz⟩ | ⟨g, cap, cur, rfl, hbase, hgb, r1, r2, r3, r4⟩
  · have hl0 : l = [] := List.eq_nil_of_length_eq_zero hz
    subst hl0
    exact (Tryz.slices_Sort_string_none none 0 w).mono fun e w' ⟨he, hw⟩ => ⟨he, by subst hw; simpa [sortL, bsL, strsV] using hown, by subst hw; exact hb⟩
  · have hlen : (l.map (·.data.toList)).length = l.length := by simp
    have hH : Go.Sort.Holds encStr w g 0 (l.map (·.data.toList)).toArray := holds_of_block hgb (by rw [hlen, ← strsV_enc]; simpa using r4)
    have h := Tryz.slices_Sort_string g 0 cap (l.map (·.data.toList)) w hH (Array.getElem?_eq_some_iff.1 hgb).1 (by rw [hlen]; omega)
    rw [hlen] at h
    refine h.mono fun e w' ⟨he, n, os, hw⟩ => ⟨he, ?_, ?_⟩
    · rw [hw, strsV_bsL]
      have := ownsRow_sorted (os := os) (n := n) (ss := l.map (·.data.toList)) (ts := sortL (l.map (·.data.toList))) (sortL_length _) hbase hgb (by rw [hlen]; exact r1) r2 r3
      rw [hlen] at this
      exact this
    · rw [hw]
      exact Below.grown hb (grownBy_sorted _) hb.size (fun j hj => by cases hj; exact hbase)
set_option maxHeartbeats 1000000 in
/-- slices.Sorted(slices.Values(l)). -/
theorem sorted_c (sl : Value) (l : List ByteArray) (w0 : World) (hv : RowE w0 sl (strsV l)) (hl : l.length ≤ 4294967296) (hx : ∀ x ∈ l, x.size ≤ maxLen) (w : World) (hBw : Bel (w0.alloc (.cells #[sl] 22)) w) :
    Calls Tryz.prog 120 #[.func (.func 145) #[] #[.pointer (some ⟨w0.heap.size, 0, none⟩)]] w fun e W' =>
      ∃ v, e = .returned v ∧ W'.ownsRow w.heap.size 9 1 v l.length (strsV (bsL (sortL (l.map (·.data.toList))))) ∧ Bel w W' := by
  have h := fun w1 (h1 : Bel w w1) => collect_c sl l w0 hv hl hx w1 (hBw.trans h1)
  have H := Lib.hid h
  clear h hv hBw
  go_enter Tryz.func120, Tryz.ntmps120
  go_wp2_with fail
  refine (H.out _ (Bel.refl _)).mono ?_
  rintro e w1 ⟨v, rfl, hown, hb⟩
  have hs := sort_c w v l w1 hown hl hb
  have HS := Lib.hid hs
  clear hs hown
  go_wp2_with fail
  refine HS.out.mono ?_
  rintro e w2 ⟨rfl, hown2, hb2⟩
  go_wp2_with fail
  go_ret
  exact ⟨_, rfl, hown2, hb2⟩
/-- slices.Compact of a slice of the call's own, that is in order. -/
theorem compact_c (W1 : World) (v : Value) (l : List (List UInt8)) (w : World) (hown : w.ownsRow W1.heap.size 9 1 v l.length (strsV (bsL l))) (hl : l.length ≤ 4294967296) (hb : Bel W1 w) :
    Calls Tryz.prog 119 #[v] w fun e w' => ∃ u, e = .returned u ∧ RowAt0 w' u (strsV (bsL (Lib.compact l))) ∧ Bel W1 w' := by
  rcases hown.2 with ⟨rfl, hz⟩ | ⟨g, cap, cur, rfl, hbase, hgb, r1, r2, r3, r4⟩
  · have hl0 : l = [] := List.eq_nil_of_length_eq_zero hz
    subst hl0
    exact (Tryz.slices_Compact_string_empty none 0 w).mono fun e w' ⟨he, hw⟩ => ⟨_, he, .inl ⟨rfl, rfl⟩, by subst hw; exact hb⟩
  · have hH : Go.Sort.Holds encStr w g 0 l.toArray := holds_of_block hgb (by rw [← strsV_bsL]; simpa using r4)
    have hle := Lib.compact_length_le l
    refine (Tryz.slices_Compact_string g 0 cap l w hH (by omega) r1).mono fun e w' ⟨he, q, hw⟩ => ⟨_, he, .inr ⟨g, 0, cap, ?_, ?_, ?_, ?_⟩, ?_⟩
    · rw [strsV_bsL, List.length_map]
    · rw [strsV_bsL, List.length_map]; omega
    · rw [hw]; simpa using (Array.getElem?_eq_some_iff.1 hgb).1
    · intro j hj
      have hj2 : j < (Lib.compact l).length := by rw [strsV_bsL, List.length_map] at hj; exact hj
      rw [hw, Go.Sort.cell?_putRow encStr _ g 0 l.toArray _ (Go.Sort.holds_ahead _ _ _ _ _ _ hH) (by simp; omega) j (by simp; omega)]
      simp only [strsV_bsL, List.getElem_map]
      rw [getElem!_pos _ j (by simp; omega)]
      simp [List.getElem_append_left hj2]
    · rw [hw]
      have hg := grownBy_sorted (w := w) (g := g) (n := q) (os := #[]) (Lib.compact l ++ List.replicate (l.length - (Lib.compact l).length) []).toArray
      have e : Go.Sort.grow (Go.Sort.putRow encStr (Go.Sort.ahead w q) g 0 (Lib.compact l ++ List.replicate (l.length - (Lib.compact l).length) []).toArray) #[] = Go.Sort.putRow encStr (Go.Sort.ahead w q) g 0 (Lib.compact l ++ List.replicate (l.length - (Lib.compact l).length) []).toArray := by simp [Go.Sort.grow]; rfl
      rw [e] at hg
      exact Below.grown hb hg hb.size (fun j hj => by cases hj; exact hbase)
end Go.Proofs.YtpenfnabeckboaaGreatDoor
