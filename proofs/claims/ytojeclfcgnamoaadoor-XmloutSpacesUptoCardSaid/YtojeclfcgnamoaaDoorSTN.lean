/-
  SortStableFunc on a row of attributes of the call's own.
-/
import Derived.Test.YtojeclfcgnamoaaDoorSTL
import Derived.Test.YtojeclfcgnamoaaDoorSTM
import Derived.Lib.OwnBridge
namespace Go.Proofs.YtojeclfcgnamoaaDoor
open Go.RowKit Go.Sort Go.Shelf Go.Lib

theorem flatA_len : ∀ l : List Atr, (l.flatMap encA).length = l.length * 3
  | [] => rfl
  | x :: r => by rw [List.flatMap_cons, List.length_append, flatA_len r, List.length_cons, encA_len]; omega
theorem flatA_get : ∀ (l : List Atr) (i : Nat) (x : Atr) (c : Nat), l[i]? = some x → c < 3 → (l.flatMap encA)[i * 3 + c]? = (encA x)[c]?
  | y :: r, 0, x, c, h, hc => by
    cases h
    rw [List.flatMap_cons, Nat.zero_mul, Nat.zero_add, List.getElem?_append_left (by rw [encA_len]; exact hc)]
  | y :: r, i + 1, x, c, h, hc => by
    rw [List.flatMap_cons, List.getElem?_append_right (by rw [encA_len]; omega), encA_len, show (i + 1) * 3 + c - 3 = i * 3 + c from by omega]
    exact flatA_get r i x c h hc
theorem encA_one (x : Atr) : ∀ v ∈ encA x, v.oneCell' = true := by
  intro v hv
  simp only [encA, List.mem_cons, List.not_mem_nil, or_false] at hv
  rcases hv with rfl | rfl | rfl <;> rfl
theorem rowA_of {w : World} {B : Nat} {e : TypeId} {v : Value} {al : List Atr} (h : w.ownsRow B e 3 v al.length (al.flatMap encA)) (h0 : al ≠ []) :
    ∃ g cap, v = .slice (some ⟨g, 0, none⟩) al.length cap ∧ B ≤ g ∧ al.length ≤ cap ∧ RowK encA 3 w g 0 al.toArray := by
  rcases h.2 with ⟨_, e0⟩ | ⟨g, cap, cur, rfl, hb, hg, hn, _, hs, ht⟩
  · exact absurd (List.length_eq_zero_iff.1 e0) h0
  · have hlt : g < w.heap.size := by
      rcases Nat.lt_or_ge g w.heap.size with h' | h'
      · exact h'
      · rw [Array.getElem?_eq_none h'] at hg; cases hg
    refine ⟨g, cap, rfl, hb, hn, encA_len, encA_one, fun j hj => ?_, hlt⟩
    rw [size_flatK] at hj
    rw [get_flatK _ _ _ _ hj]
    have hj' : j < al.length * 3 := by simpa using hj
    refine ⟨?_, by simp [World.frozen?, hg]⟩
    have hx : j / 3 < al.length := by omega
    have e1 : (cur.toList.take (al.length * 3))[j]? = (al.flatMap encA)[j]? := by rw [ht]
    have e2 := flatA_get al (j / 3) (al[j / 3]) (j % 3) (List.getElem?_eq_getElem hx) (by omega)
    rw [show j / 3 * 3 + j % 3 = j from by omega] at e2
    rw [e2, List.getElem?_take, if_pos (by omega), Array.getElem?_toList] at e1
    simp only [World.cell?, hg, Nat.zero_add]
    simp only [Option.isSome_none, Bool.false_eq_true, if_false]
    rw [e1]
    have e3 : al.toArray[j / 3]! = al[j / 3] := by simp [hx]
    rw [e3]
    have h3 : j % 3 < (encA al[j / 3]).length := by rw [encA_len]; omega
    rw [List.getElem?_eq_getElem h3]
    simp [h3]
theorem swk_below {w0 W : World} {blk off B : Nat} {dk : Array Atr} (h : SWK encA 3 w0 blk off dk W) (hb : B ≤ blk) (hB : B ≤ w0.heap.size) : Below B w0 W := by
  obtain ⟨n, os, rfl⟩ := h
  unfold sortWorldK
  have h1 : Below B w0 (putRowK encA 3 (Sort.ahead w0 n) blk off dk) := ⟨rfl, rfl, rfl, by simp [putRowK, putRow, mapBlock, Sort.ahead], fun k hk => by
    simp [putRowK, putRow, mapBlock, Sort.ahead, Array.getElem?_modify, show blk ≠ k by omega]⟩
  refine h1.trans ?_
  have h2 := below_grow B (putRowK encA 3 (Sort.ahead w0 n) blk off dk) (Nat.le_trans hB h1.size) 0 os
  exact h2
/-- The attributes sorted where they lie. -/
theorem sortAtrs_c {w : World} {B : Nat} {v : Value} {al : List Atr} (h : w.ownsRow B 63 3 v al.length (al.flatMap encA)) (h0 : al ≠ []) (hB : B ≤ w.heap.size) (hn : al.length ≤ 1073741824) (hd : (al.map nmA).Nodup) :
    Calls Tryd.prog 31 #[v, .func (.func 32) #[] #[]] w fun e w' => e = .returned (.tuple #[]) ∧ Below B w w' ∧ AttrsV w' v (sortA al) := by
  obtain ⟨g, cap, rfl, hg, hc, R⟩ := rowA_of h h0
  have hsz : al.toArray.size = al.length := by simp
  have hC := sortStable_s g 0 cap al.toArray w R (by rw [hsz]; exact hn) w (SWK.start R.hH)
  rw [hsz] at hC
  refine hC.mono ?_
  rintro e2 w2 ⟨rfl, hS⟩
  have hspec := stableF_spec swo_ltA al.toArray
  rw [hsz] at hspec
  have he : stableF ltA al.length al.toArray = (sortA al).toArray := sort_array hd hspec.1 hspec.2
  rw [he] at hS
  have hs2 : (sortA al).toArray.size = al.toArray.size := by simp [sortA_length]
  refine ⟨rfl, swk_below hS hg hB, some ⟨g, 0, none⟩, cap, by rw [sortA_length], by rw [sortA_length]; exact hc, .inr ⟨g, 0, rfl, hS.lt R.hblk, fun j x hx => ?_⟩⟩
  have hj : j < (sortA al).length := (List.getElem?_eq_some_iff.1 hx).1
  obtain ⟨c1, c2, c3, _⟩ := swk_cells hS R hs2 j (by simpa using hj)
  have ex : (sortA al).toArray[j]! = x := by
    have := (List.getElem?_eq_some_iff.1 hx).2
    simp [hj, this]
  rw [ex] at c1 c2 c3
  exact ⟨c1, c2, c3⟩
end Go.Proofs.YtojeclfcgnamoaaDoor
