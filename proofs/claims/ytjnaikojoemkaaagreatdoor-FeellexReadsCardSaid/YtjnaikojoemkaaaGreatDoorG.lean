/-
  The walks of the document's answer for utf: Put and low.
-/
import Derived.Test.YtjnaikojoemkaaaGreatDoorC
namespace Go.Proofs.YtjnaikojoemkaaaGreatDoor
open Go.RowKit

/-- The bytes of a character. -/
def putI (c : Int) : List Int :=
  if c < 128 then [c] else if c < 2048 then [192 + c / 64, 128 + c % 64]
  else if c < 65536 then [224 + c / 4096, 128 + c / 64 % 64, 128 + c % 64]
  else [240 + c / 262144, 128 + c / 4096 % 64, 128 + c / 64 % 64, 128 + c % 64]
def u8s (l : List Int) : List Value := l.map fun n => Value.int .u8 n
def RetRow (xs : List Value) (w : World) (e : Ending) (w' : World) : Prop := ∃ v, e = .returned v ∧ RowAt w' v xs ∧ Bel w w'

theorem row_new (w : World) (l : List Value) (t : TypeId) : RowAt (w.alloc (.cells l.toArray t)) (.slice (some ⟨w.heap.size, 0, none⟩) l.length l.length) l :=
  ⟨w.heap.size, 0, l.length, rfl, Nat.le_refl _, by simp, fun j hj => by
    simp only [World.cell?]
    rw [show (w.alloc (.cells l.toArray t)).heap[w.heap.size]? = some (.cells l.toArray t) from (show (w.heap.push _)[w.heap.size]? = _ from Array.getElem?_push_size)]
    simp [hj]⟩

theorem rowAt_cast {W : World} {v v' : Value} {xs xs' : List Value} (h : RowAt W v xs) (h1 : v = v') (h2 : xs = xs') : RowAt W v' xs' := by subst h1; subst h2; exact h

set_option maxHeartbeats 800000 in
theorem rput_c (c : Int) (h0 : 0 ≤ c) (h1 : c ≤ 1114111) (w : World) :
    Calls Tryz.prog 43 #[.int .i64 c] w (RetRow (u8s (putI c)) w) := by
  obtain ⟨R, hR⟩ : ∃ R, putI c = R := ⟨_, rfl⟩
  rw [hR]
  have HR := Lib.hid hR
  clear hR
  go_enter Tryz.func43, Tryz.ntmps43
  go_wp2_with fail
  all_goals go_ret
  all_goals refine ⟨_, rfl, rowAt_cast (row_new w _ _) rfl ?_, Bel.alloc _ _⟩
  all_goals rw [← HR.out]
  all_goals go_light
  · rw [putI, if_pos (by omega)]; rfl
  · rw [putI, if_neg (by omega), if_pos (by omega)]; rfl
  · rw [putI, if_neg (by omega), if_neg (by omega), if_pos (by omega)]; rfl
  · rw [putI, if_neg (by omega), if_neg (by omega), if_neg (by omega)]; rfl

/-- The lower six bits of bytes, together; -1: they are none. -/
def lowL (acc : Int) : List Int → Int
  | [] => acc
  | b :: l => if b < 128 ∨ 191 < b then -1 else lowL (64 * acc + b - 128) l

theorem lowL_step (acc : Int) (l : List Int) (k : Nat) (h : k < l.length) :
    lowL acc (l.drop k) = if l[k] < 128 ∨ 191 < l[k] then -1 else lowL (64 * acc + l[k] - 128) (l.drop (k + 1)) := by
  rw [List.drop_eq_getElem_cons h]; rfl

set_option maxHeartbeats 800000 in
theorem rlow_c (b off cap : Nat) (l : List Int) (w : World) (hl : l.length ≤ 3) (hb : ∀ x ∈ l, 0 ≤ x ∧ x ≤ 255) (hc : ∀ j, (h : j < l.length) → w.cell? ⟨b, off + j, none⟩ = some (.int .u8 l[j])) :
    Calls Tryz.prog 57 #[.slice (some ⟨b, off, none⟩) l.length cap] w fun e w' => e = .returned (.int .i64 (lowL 0 l)) ∧ w = w' := by
  obtain ⟨R, hR⟩ : ∃ R, lowL 0 l = R := ⟨_, rfl⟩
  rw [hR]
  have HR := Lib.hid hR
  have HB := Lib.hid hb
  have HC := Lib.hid hc
  obtain ⟨n, hn⟩ : ∃ n, l.length = n := ⟨_, rfl⟩
  rw [hn] at hl ⊢
  have HN := Lib.hid hn
  clear hR hb hc hn
  go_enter Tryz.func57, Tryz.ntmps57
  go_wp2_with fail
  go_loop [3, 4] (fun a i => ∃ (k : Nat) (acc : Int), k ≤ n ∧ i = .int .i64 k ∧ a = .int .i64 acc ∧ 0 ≤ acc ∧ (k = 0 → acc = 0) ∧ (k = 1 → acc < 64) ∧ (k = 2 → acc < 4096) ∧ (k = 3 → acc < 262144) ∧ lowL acc (l.drop k) = R) (fun _ i => n - (intOf i).toNat)
  case atStart => exact ⟨0, 0, Nat.zero_le _, rfl, rfl, by omega, fun _ => rfl, by omega, by omega, by omega, HR.out⟩
  case round =>
    obtain ⟨k, acc, hk, rfl, rfl, h0, c0, c1, c2, c3, hlo⟩ := hrel
    by_cases hlt : k < n
    · have hkl : k < l.length := by rw [HN.out]; exact hlt
      have hst := lowL_step acc l k hkl
      have hcell := HC.out k hkl
      obtain ⟨hx0, hx1⟩ := HB.out l[k] (List.getElem_mem hkl)
      obtain ⟨x, hx⟩ : ∃ x, l[k] = x := ⟨_, rfl⟩
      rw [hx] at hst hcell hx0 hx1
      rw [hlo] at hst
      have HST := Lib.hid hst
      have hacc : acc < 262144 := by omega
      have C0 := Lib.hid c0
      clear hst hlo hx c0
      go_wp2_with fail
      · go_ret
        refine ⟨ret_int ?_, rfl⟩
        have := HST.out
        rw [if_pos (by omega)] at this
        exact this.symm
      · refine ⟨⟨k + 1, 64 * acc + x - 128, by omega, by go_num, rfl, by omega, by omega, fun _ => by have := C0.out (by omega); omega, by omega, by omega, ?_⟩, by simp [intOf]; omega⟩
        have := HST.out
        rw [if_neg (by omega)] at this
        exact this.symm
      · go_ret
        refine ⟨ret_int ?_, rfl⟩
        have := HST.out
        rw [if_pos (by omega)] at this
        exact this.symm
    · go_wp2_with fail
      go_ret
      refine ⟨ret_int ?_, rfl⟩
      rw [List.drop_of_length_le (by rw [HN.out]; omega)] at hlo
      exact hlo
end Go.Proofs.YtjnaikojoemkaaaGreatDoor
