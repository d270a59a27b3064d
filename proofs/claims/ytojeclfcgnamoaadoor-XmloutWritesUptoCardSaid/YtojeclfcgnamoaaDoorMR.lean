/-
  The walks of the document's answer for utf: Fine, First, Next, Part, Put, low.
  The walks of the document's answer for utf: Put and low.
  The walk of the document's answer for utf: Rune: by how many bytes the first one announces.
  The plain law of Rune: what the document's answer reckons is the character that the text holds there.
  The walk of the document's answer for names: chars.
  The walks of the document's answer for names: Plain, Split.
-/
import Derived.Test.YtojeclfcgnamoaaDoorMC
import Derived.Lib.RuneCountTail
import Derived.Lib.DecodeN
namespace Go.Proofs.YtojeclfcgnamoaaDoor
open Go.RowKit

set_option maxHeartbeats 800000 in
theorem rfine_c (c : Int) (w : World) :
    Calls Tryd.prog 64 #[.int .i64 c] w fun e w' => e = .returned (.bool (fineC c)) ∧ w = w' := by
  go_enter Tryd.func64, Tryd.ntmps64
  go_wp2_with fail
  all_goals go_ret
  all_goals refine ⟨ret_bool (bool_ext ?_), rfl⟩
  all_goals go_light
  all_goals grind [fineC]

set_option maxHeartbeats 800000 in
theorem rfirst_c (c : Int) (w : World) :
    Calls Tryd.prog 51 #[.int .i64 c] w fun e w' => e = .returned (.bool (firstC c)) ∧ w = w' := by
  go_enter Tryd.func51, Tryd.ntmps51
  go_wp2_with (go_at_call 64; refine (rfine_c _ _).mono ?_; rintro e w' ⟨rfl, rfl⟩)
  all_goals go_ret
  all_goals refine ⟨ret_bool (bool_ext ?_), rfl⟩
  all_goals go_light
  all_goals grind [firstC]

set_option maxHeartbeats 400000 in
theorem rnext_c (c : Int) (w : World) :
    Calls Tryd.prog 65 #[.int .i64 c] w fun e w' => e = .returned (.bool (nextC c)) ∧ w = w' := by
  go_enter Tryd.func65, Tryd.ntmps65
  go_wp2_with (go_at_call 51; refine (rfirst_c _ _).mono ?_; rintro e w' ⟨rfl, rfl⟩)
  all_goals go_ret
  all_goals refine ⟨ret_bool (bool_ext ?_), rfl⟩
  all_goals go_light
  all_goals grind [nextC]

set_option maxHeartbeats 400000 in
theorem rpart_c (c : Int) (w : World) :
    Calls Tryd.prog 52 #[.int .i64 c] w fun e w' => e = .returned (.bool (partC c)) ∧ w = w' := by
  go_enter Tryd.func52, Tryd.ntmps52
  go_wp2_with (go_at_call 65; refine (rnext_c _ _).mono ?_; rintro e w' ⟨rfl, rfl⟩)
  all_goals go_ret
  all_goals refine ⟨ret_bool (bool_ext ?_), rfl⟩
  all_goals go_light
  all_goals grind [partC]

end Go.Proofs.YtojeclfcgnamoaaDoor

namespace Go.Proofs.YtojeclfcgnamoaaDoor
open Go.RowKit

/-- The bytes of a character. -/
def putI (c : Int) : List Int :=
  if c < 128 then [c] else if c < 2048 then [192 + c / 64, 128 + c % 64]
  else if c < 65536 then [224 + c / 4096, 128 + c / 64 % 64, 128 + c % 64]
  else [240 + c / 262144, 128 + c / 4096 % 64, 128 + c / 64 % 64, 128 + c % 64]
def u8s (l : List Int) : List Value := l.map fun n => Value.int .u8 n
def RetRow (xs : List Value) (w : World) (e : Ending) (w' : World) : Prop := ∃ v, e = .returned v ∧ RowAt w' v xs ∧ Bel w w'

theorem row_new (w : World) (l : List Value) (t : TypeId) : RowAt (w.alloc (.cells l.toArray t)) (.slice (some ⟨w.heap.size, 0, none⟩) l.length l.length) l :=
  ⟨w.heap.size, 0, l.length, rfl, Nat.le_refl _, by simp, fun j hj => by
    simp only [World.cell?]
    rw [show (w.alloc (.cells l.toArray t)).heap[w.heap.size]? = some (.cells l.toArray t) from (show (w.heap.push _)[w.heap.size]? = _ from Array.getElem?_push_size)]
    simp [hj]⟩

theorem rowAt_cast {W : World} {v v' : Value} {xs xs' : List Value} (h : RowAt W v xs) (h1 : v = v') (h2 : xs = xs') : RowAt W v' xs' := by subst h1; subst h2; exact h

set_option maxHeartbeats 800000 in
theorem rput_c (c : Int) (h0 : 0 ≤ c) (h1 : c ≤ 1114111) (w : World) :
    Calls Tryd.prog 76 #[.int .i64 c] w (RetRow (u8s (putI c)) w) := by
  obtain ⟨R, hR⟩ : ∃ R, putI c = R := ⟨_, rfl⟩
  rw [hR]
  have HR := Lib.hid hR
  clear hR
  go_enter Tryd.func76, Tryd.ntmps76
  go_wp2_with fail
  all_goals go_ret
  all_goals refine ⟨_, rfl, rowAt_cast (row_new w _ _) rfl ?_, Bel.alloc _ _⟩
  all_goals rw [← HR.out]
  all_goals go_light
  · rw [putI, if_pos (by omega)]; rfl
  · rw [putI, if_neg (by omega), if_pos (by omega)]; rfl
  · rw [putI, if_neg (by omega), if_neg (by omega), if_pos (by omega)]; rfl
  · rw [putI, if_neg (by omega), if_neg (by omega), if_neg (by omega)]; rfl

/-- The lower six bits of bytes, together; -1: they are none. -/
def lowL (acc : Int) : List Int → Int
  | [] => acc
  | b :: l => if b < 128 ∨ 191 < b then -1 else lowL (64 * acc + b - 128) l

theorem lowL_step (acc : Int) (l : List Int) (k : Nat) (h : k < l.length) :
    lowL acc (l.drop k) = if l[k] < 128 ∨ 191 < l[k] then -1 else lowL (64 * acc + l[k] - 128) (l.drop (k + 1)) := by
  rw [List.drop_eq_getElem_cons h]; rfl

set_option maxHeartbeats 800000 in
theorem rlow_c (b off cap : Nat) (l : List Int) (w : World) (hl : l.length ≤ 3) (hb : ∀ x ∈ l, 0 ≤ x ∧ x ≤ 255) (hc : ∀ j, (h : j < l.length) → w.cell? ⟨b, off + j, none⟩ = some (.int .u8 l[j])) :
    Calls Tryd.prog 75 #[.slice (some ⟨b, off, none⟩) l.length cap] w fun e w' => e = .returned (.int .i64 (lowL 0 l)) ∧ w = w' := by
  obtain ⟨R, hR⟩ : ∃ R, lowL 0 l = R := ⟨_, rfl⟩
  rw [hR]
  have HR := Lib.hid hR
  have HB := Lib.hid hb
  have HC := Lib.hid hc
  obtain ⟨n, hn⟩ : ∃ n, l.length = n := ⟨_, rfl⟩
  rw [hn] at hl ⊢
  have HN := Lib.hid hn
  clear hR hb hc hn
  go_enter Tryd.func75, Tryd.ntmps75
  go_wp2_with fail
  go_loop [3, 4] (fun a i => ∃ (k : Nat) (acc : Int), k ≤ n ∧ i = .int .i64 k ∧ a = .int .i64 acc ∧ 0 ≤ acc ∧ (k = 0 → acc = 0) ∧ (k = 1 → acc < 64) ∧ (k = 2 → acc < 4096) ∧ (k = 3 → acc < 262144) ∧ lowL acc (l.drop k) = R) (fun _ i => n - (intOf i).toNat)
  case atStart => exact ⟨0, 0, Nat.zero_le _, rfl, rfl, by omega, fun _ => rfl, by omega, by omega, by omega, HR.out⟩
  case round =>
    obtain ⟨k, acc, hk, rfl, rfl, h0, c0, c1, c2, c3, hlo⟩ := hrel
    by_cases hlt : k < n
    · have hkl : k < l.length := by rw [HN.out]; exact hlt
      have hst := lowL_step acc l k hkl
      have hcell := HC.out k hkl
      obtain ⟨hx0, hx1⟩ := HB.out l[k] (List.getElem_mem hkl)
      obtain ⟨x, hx⟩ : ∃ x, l[k] = x := ⟨_, rfl⟩
      rw [hx] at hst hcell hx0 hx1
      rw [hlo] at hst
      have HST := Lib.hid hst
      have hacc : acc < 262144 := by omega
      have C0 := Lib.hid c0
      clear hst hlo hx c0
      go_wp2_with fail
      · go_ret
        refine ⟨ret_int ?_, rfl⟩
        have := HST.out
        rw [if_pos (by omega)] at this
        exact this.symm
      · refine ⟨⟨k + 1, 64 * acc + x - 128, by omega, by go_num, rfl, by omega, by omega, fun _ => by have := C0.out (by omega); omega, by omega, by omega, ?_⟩, by simp [intOf]; omega⟩
        have := HST.out
        rw [if_neg (by omega)] at this
        exact this.symm
      · go_ret
        refine ⟨ret_int ?_, rfl⟩
        have := HST.out
        rw [if_pos (by omega)] at this
        exact this.symm
    · go_wp2_with fail
      go_ret
      refine ⟨ret_int ?_, rfl⟩
      rw [List.drop_of_length_le (by rw [HN.out]; omega)] at hlo
      exact hlo
end Go.Proofs.YtojeclfcgnamoaaDoor

namespace Go.Proofs.YtojeclfcgnamoaaDoor
open Go.RowKit

def plen (c : Int) : Nat := (putI c).length
def RetII (a b : Int) (w : World) (e : Ending) (w' : World) : Prop := e = .returned (.tuple #[.int .i64 a, .int .i64 b]) ∧ Bel w w'
def RetLen (n : Nat) (w : World) (e : Ending) (w' : World) : Prop := ∃ a cap, e = .returned (.slice (some a) n cap) ∧ Bel w w'
theorem rput_len (c : Int) (h0 : 0 ≤ c) (h1 : c ≤ 1114111) (w : World) : Calls Tryd.prog 76 #[.int .i64 c] w (RetLen (plen c) w) :=
  (rput_c c h0 h1 w).mono fun e w' ⟨v, he, ⟨b, off, cap, hv, _⟩, hb⟩ => ⟨⟨b, off, none⟩, cap, by rw [he, hv]; simp [u8s, plen], hb⟩
theorem fine_bounds {c : Int} (h : fineC c = true) : 0 ≤ c ∧ c ≤ 1114111 := by
  unfold fineC at h; simp only [decide_eq_true_eq] at h; omega

/-- What Rune answers where k bytes are announced, the first one tells t, the others L. -/
def rrS (k : Nat) (t L : Int) : Int × Int := if L < 0 ∨ fineC (t + L) = false ∨ plen (t + L) ≠ k then (0, 0) else (t + L, k)

theorem rlow_zero (a : Addr) (c : Nat) (w : World) : Calls Tryd.prog 75 #[.slice (some a) 0 c] w fun e w' => e = .returned (.int .i64 0) ∧ w = w' := by
  go_enter Tryd.func75, Tryd.ntmps75
  go_wp2_with fail
  refine wp_loop_rounds 1 ?_
  rw [rounds_succ]
  go_wp2_with fail
  go_ret
  exact ⟨rfl, rfl⟩

set_option maxHeartbeats 1000000 in
theorem rrune1_c (b off cap n : Nat) (z L : Int) (w : World) (hz0 : 0 ≤ z) (hz1 : z < 128) (hn : 1 ≤ n) (hn2 : n ≤ 4294967280) (_hcap : n ≤ cap) (hL : L < 1) (hL0 : -1 ≤ L)
    (hc0 : w.cell? ⟨b, off, none⟩ = some (.int .u8 z)) (hc1 : 1 < cap)
    (hlow : ∀ (a : Addr) c, Calls Tryd.prog 75 #[.slice (some a) 0 c] w fun e w' => e = .returned (.int .i64 L) ∧ w = w') :
    Calls Tryd.prog 63 #[.slice (some ⟨b, off, none⟩) n cap] w (RetII (rrS 1 z L).1 (rrS 1 z L).2 w) := by
  obtain ⟨⟨R1, R2⟩, hR⟩ : ∃ R, rrS 1 z L = R := ⟨_, rfl⟩
  rw [hR]
  have HR := Lib.hid hR
  have HL := Lib.hid hlow
  have hz : ((n : Int) == 0) = false := by simp; omega
  have hn' : (1 : Int) ≤ n := by omega
  clear hR hlow
  by_cases hLn : L < 0
  · go_enter Tryd.func63, Tryd.ntmps63
    go_wp2_with (go_at_call 75; refine (HL.out _ _).mono ?_; rintro e w' ⟨rfl, rfl⟩)
    go_ret2
    refine ⟨tup2 (int_eq ?_) (int_eq ?_), Bel.refl _⟩
    all_goals have hr := HR.out
    all_goals go_light
    all_goals (rw [rrS, if_pos (Or.inl hLn)] at hr; grind)
  · have hLp : 0 ≤ L := by omega
    clear hLn
    go_enter Tryd.func63, Tryd.ntmps63
    go_wp2_with (go_at_call 75; refine (HL.out _ _).mono ?_; rintro e w' ⟨rfl, rfl⟩)
    refine wp_loop_rounds 1 ?_
    rw [rounds_succ]
    go_wp2_with (first
      | (go_at_call 64; refine (rfine_c _ _).mono ?_; rintro e w' ⟨rfl, rfl⟩)
      | (go_at_call 76; refine (rput_len _ (by omega) (fine_bounds (by assumption)).2 _).mono ?_; rintro e w' ⟨a, cp, rfl, hb⟩))
    all_goals go_ret2
    all_goals have hr := HR.out
    all_goals refine ⟨tup2 (int_eq ?_) (int_eq ?_), by first | assumption | exact Bel.refl _⟩
    all_goals go_light
    all_goals (unfold rrS at hr; grind)

set_option maxHeartbeats 1000000 in
theorem rrune1b_c (b off n : Nat) (z L : Int) (w : World) (hz0 : 0 ≤ z) (hz1 : z < 128) (hn : 1 ≤ n) (hn2 : n ≤ 4294967280) (hcap : n ≤ 1) (hL : L < 1) (hL0 : -1 ≤ L)
    (hc0 : w.cell? ⟨b, off, none⟩ = some (.int .u8 z))
    (hlow : ∀ (a : Addr) c, Calls Tryd.prog 75 #[.slice (some a) 0 c] w fun e w' => e = .returned (.int .i64 L) ∧ w = w') :
    Calls Tryd.prog 63 #[.slice (some ⟨b, off, none⟩) n 1] w (RetII (rrS 1 z L).1 (rrS 1 z L).2 w) := by
  obtain ⟨⟨R1, R2⟩, hR⟩ : ∃ R, rrS 1 z L = R := ⟨_, rfl⟩
  rw [hR]
  have HR := Lib.hid hR
  have HL := Lib.hid hlow
  have hz : ((n : Int) == 0) = false := by simp; omega
  have hn' : (1 : Int) ≤ n := by omega
  clear hR hlow
  by_cases hLn : L < 0
  · go_enter Tryd.func63, Tryd.ntmps63
    go_wp2_with (go_at_call 75; refine (HL.out _ _).mono ?_; rintro e w' ⟨rfl, rfl⟩)
    go_ret2
    refine ⟨tup2 (int_eq ?_) (int_eq ?_), Bel.refl _⟩
    all_goals have hr := HR.out
    all_goals go_light
    all_goals (rw [rrS, if_pos (Or.inl hLn)] at hr; grind)
  · have hLp : 0 ≤ L := by omega
    clear hLn
    go_enter Tryd.func63, Tryd.ntmps63
    go_wp2_with (go_at_call 75; refine (HL.out _ _).mono ?_; rintro e w' ⟨rfl, rfl⟩)
    refine wp_loop_rounds 1 ?_
    rw [rounds_succ]
    go_wp2_with (first
      | (go_at_call 64; refine (rfine_c _ _).mono ?_; rintro e w' ⟨rfl, rfl⟩)
      | (go_at_call 76; refine (rput_len _ (by omega) (fine_bounds (by assumption)).2 _).mono ?_; rintro e w' ⟨a, cp, rfl, hb⟩))
    all_goals go_ret2
    all_goals have hr := HR.out
    all_goals refine ⟨tup2 (int_eq ?_) (int_eq ?_), by first | assumption | exact Bel.refl _⟩
    all_goals go_light
    all_goals (unfold rrS at hr; grind)

set_option maxHeartbeats 1000000 in
theorem rrune2_c (b off cap n : Nat) (z L : Int) (w : World) (hz0 : 192 ≤ z) (hz1 : z < 224) (hn : 2 ≤ n) (hn2 : n ≤ 4294967280) (hcap : n ≤ cap) (hL : L < 64) (hL0 : -1 ≤ L)
    (hc0 : w.cell? ⟨b, off, none⟩ = some (.int .u8 z))
    (hlow : ∀ c, Calls Tryd.prog 75 #[.slice (some ⟨b, off + 1, none⟩) 1 c] w fun e w' => e = .returned (.int .i64 L) ∧ w = w') :
    Calls Tryd.prog 63 #[.slice (some ⟨b, off, none⟩) n cap] w (RetII (rrS 2 (64 * (z - 192)) L).1 (rrS 2 (64 * (z - 192)) L).2 w) := by
  obtain ⟨⟨R1, R2⟩, hR⟩ : ∃ R, rrS 2 (64 * (z - 192)) L = R := ⟨_, rfl⟩
  rw [hR]
  have HR := Lib.hid hR
  have HL := Lib.hid hlow
  have hz : ((n : Int) == 0) = false := by simp; omega
  have hn' : (2 : Int) ≤ n := by omega
  clear hR hlow
  by_cases hLn : L < 0
  · go_enter Tryd.func63, Tryd.ntmps63
    go_wp2_with (go_at_call 75; refine (HL.out _).mono ?_; rintro e w' ⟨rfl, rfl⟩)
    go_ret2
    refine ⟨tup2 (int_eq ?_) (int_eq ?_), Bel.refl _⟩
    all_goals have hr := HR.out
    all_goals go_light
    all_goals (rw [rrS, if_pos (Or.inl hLn)] at hr; grind)
  · have hLp : 0 ≤ L := by omega
    clear hLn
    go_enter Tryd.func63, Tryd.ntmps63
    go_wp2_with (go_at_call 75; refine (HL.out _).mono ?_; rintro e w' ⟨rfl, rfl⟩)
    refine wp_loop_rounds 2 ?_
    rw [rounds_succ]
    go_wp2_with fail
    rw [rounds_succ]
    go_wp2_with (first
      | (go_at_call 64; refine (rfine_c _ _).mono ?_; rintro e w' ⟨rfl, rfl⟩)
      | (go_at_call 76; refine (rput_len _ (by omega) (fine_bounds (by assumption)).2 _).mono ?_; rintro e w' ⟨a, cp, rfl, hb⟩))
    all_goals go_ret2
    all_goals have hr := HR.out
    all_goals refine ⟨tup2 (int_eq ?_) (int_eq ?_), by first | assumption | exact Bel.refl _⟩
    all_goals go_light
    all_goals (unfold rrS at hr; grind)

set_option maxHeartbeats 1000000 in
theorem rrune3_c (b off cap n : Nat) (z L : Int) (w : World) (hz0 : 224 ≤ z) (hz1 : z < 240) (hn : 3 ≤ n) (hn2 : n ≤ 4294967280) (hcap : n ≤ cap) (hL : L < 4096) (hL0 : -1 ≤ L)
    (hc0 : w.cell? ⟨b, off, none⟩ = some (.int .u8 z))
    (hlow : ∀ c, Calls Tryd.prog 75 #[.slice (some ⟨b, off + 1, none⟩) 2 c] w fun e w' => e = .returned (.int .i64 L) ∧ w = w') :
    Calls Tryd.prog 63 #[.slice (some ⟨b, off, none⟩) n cap] w (RetII (rrS 3 (64 * (64 * (z - 224))) L).1 (rrS 3 (64 * (64 * (z - 224))) L).2 w) := by
  obtain ⟨⟨R1, R2⟩, hR⟩ : ∃ R, rrS 3 (64 * (64 * (z - 224))) L = R := ⟨_, rfl⟩
  rw [hR]
  have HR := Lib.hid hR
  have HL := Lib.hid hlow
  have hz : ((n : Int) == 0) = false := by simp; omega
  have hn' : (3 : Int) ≤ n := by omega
  clear hR hlow
  by_cases hLn : L < 0
  · go_enter Tryd.func63, Tryd.ntmps63
    go_wp2_with (go_at_call 75; refine (HL.out _).mono ?_; rintro e w' ⟨rfl, rfl⟩)
    go_ret2
    refine ⟨tup2 (int_eq ?_) (int_eq ?_), Bel.refl _⟩
    all_goals have hr := HR.out
    all_goals go_light
    all_goals (rw [rrS, if_pos (Or.inl hLn)] at hr; grind)
  · have hLp : 0 ≤ L := by omega
    clear hLn
    go_enter Tryd.func63, Tryd.ntmps63
    go_wp2_with (go_at_call 75; refine (HL.out _).mono ?_; rintro e w' ⟨rfl, rfl⟩)
    refine wp_loop_rounds 3 ?_
    rw [rounds_succ]
    go_wp2_with fail
    rw [rounds_succ]
    go_wp2_with fail
    rw [rounds_succ]
    go_wp2_with (first
      | (go_at_call 64; refine (rfine_c _ _).mono ?_; rintro e w' ⟨rfl, rfl⟩)
      | (go_at_call 76; refine (rput_len _ (by omega) (fine_bounds (by assumption)).2 _).mono ?_; rintro e w' ⟨a, cp, rfl, hb⟩))
    all_goals go_ret2
    all_goals have hr := HR.out
    all_goals refine ⟨tup2 (int_eq ?_) (int_eq ?_), by first | assumption | exact Bel.refl _⟩
    all_goals go_light
    all_goals (unfold rrS at hr; grind)

set_option maxHeartbeats 1000000 in
theorem rrune4_c (b off cap n : Nat) (z L : Int) (w : World) (hz0 : 240 ≤ z) (hz1 : z < 248) (hn : 4 ≤ n) (hn2 : n ≤ 4294967280) (hcap : n ≤ cap) (hL : L < 262144) (hL0 : -1 ≤ L)
    (hc0 : w.cell? ⟨b, off, none⟩ = some (.int .u8 z))
    (hlow : ∀ c, Calls Tryd.prog 75 #[.slice (some ⟨b, off + 1, none⟩) 3 c] w fun e w' => e = .returned (.int .i64 L) ∧ w = w') :
    Calls Tryd.prog 63 #[.slice (some ⟨b, off, none⟩) n cap] w (RetII (rrS 4 (64 * (64 * (64 * (z - 240)))) L).1 (rrS 4 (64 * (64 * (64 * (z - 240)))) L).2 w) := by
  obtain ⟨⟨R1, R2⟩, hR⟩ : ∃ R, rrS 4 (64 * (64 * (64 * (z - 240)))) L = R := ⟨_, rfl⟩
  rw [hR]
  have HR := Lib.hid hR
  have HL := Lib.hid hlow
  have hz : ((n : Int) == 0) = false := by simp; omega
  have hn' : (4 : Int) ≤ n := by omega
  clear hR hlow
  by_cases hLn : L < 0
  · go_enter Tryd.func63, Tryd.ntmps63
    go_wp2_with (go_at_call 75; refine (HL.out _).mono ?_; rintro e w' ⟨rfl, rfl⟩)
    go_ret2
    refine ⟨tup2 (int_eq ?_) (int_eq ?_), Bel.refl _⟩
    all_goals have hr := HR.out
    all_goals go_light
    all_goals (rw [rrS, if_pos (Or.inl hLn)] at hr; grind)
  · have hLp : 0 ≤ L := by omega
    clear hLn
    go_enter Tryd.func63, Tryd.ntmps63
    go_wp2_with (go_at_call 75; refine (HL.out _).mono ?_; rintro e w' ⟨rfl, rfl⟩)
    refine wp_loop_rounds 4 ?_
    rw [rounds_succ]
    go_wp2_with fail
    rw [rounds_succ]
    go_wp2_with fail
    rw [rounds_succ]
    go_wp2_with fail
    rw [rounds_succ]
    go_wp2_with (first
      | (go_at_call 64; refine (rfine_c _ _).mono ?_; rintro e w' ⟨rfl, rfl⟩)
      | (go_at_call 76; refine (rput_len _ (by omega) (fine_bounds (by assumption)).2 _).mono ?_; rintro e w' ⟨a, cp, rfl, hb⟩))
    all_goals go_ret2
    all_goals have hr := HR.out
    all_goals refine ⟨tup2 (int_eq ?_) (int_eq ?_), by first | assumption | exact Bel.refl _⟩
    all_goals go_light
    all_goals (unfold rrS at hr; grind)

end Go.Proofs.YtojeclfcgnamoaaDoor

namespace Go.Proofs.YtojeclfcgnamoaaDoor
open Go.RowKit Go.Lib

def runeN (p : Nat × Nat) : Int × Int := if p.1 = 65533 ∧ p.2 < 2 ∨ fineC p.1 = false then (0, 0) else (p.1, p.2)

theorem plen_eq (c : Int) : plen c = if c < 128 then 1 else if c < 2048 then 2 else if c < 65536 then 3 else 4 := by
  unfold plen putI
  repeat' split
  all_goals rfl
theorem low1 (a : Int) : lowL 0 [a] = if a < 128 ∨ 191 < a then -1 else a - 128 := by
  simp only [lowL]; split <;> simp
theorem low2 (a b : Int) : lowL 0 [a, b] = if a < 128 ∨ 191 < a ∨ b < 128 ∨ 191 < b then -1 else 64 * (a - 128) + b - 128 := by
  simp only [lowL]; repeat' split
  all_goals omega
theorem low3 (a b c : Int) : lowL 0 [a, b, c] = if a < 128 ∨ 191 < a ∨ b < 128 ∨ 191 < b ∨ c < 128 ∨ 191 < c then -1 else 64 * (64 * (a - 128) + b - 128) + c - 128 := by
  simp only [lowL]; repeat' split
  all_goals omega

theorem rr1 (n b0 b1 b2 b3 : Nat) (h : b0 < 128) : runeN (decodeN n b0 b1 b2 b3) = rrS 1 b0 0 := by
  have : decodeN n b0 b1 b2 b3 = (b0, 1) := by unfold decodeN; rw [if_pos h]
  rw [this]; unfold runeN rrS; rw [plen_eq]
  simp only [Int.add_zero]
  grind
theorem rr2 (n b0 b1 b2 b3 : Nat) (h : 192 ≤ b0 ∧ b0 < 224) (hn : 2 ≤ n) (_h1 : b1 < 256) : runeN (decodeN n b0 b1 b2 b3) = rrS 2 (64 * ((b0 : Int) - 192)) (lowL 0 [(b1 : Int)]) := by
  rw [low1]
  unfold runeN rrS decodeN fineC
  rw [plen_eq]
  grind
theorem rrS_neg (k : Nat) (t L : Int) (h : L < 0) : rrS k t L = (0, 0) := by unfold rrS; rw [if_pos (Or.inl h)]
theorem big_eq (c k : Nat) (lo : Nat) (hk : k = 3 ∧ lo = 2048 ∧ c < 65536 ∨ k = 4 ∧ lo = 65536) (t L : Int) (hL : 0 ≤ L) (ht : t + L = c) :
    runeN (if c ≥ lo ∧ (c < 55296 ∨ (57344 ≤ c ∧ c ≤ 1114111)) then (c, k) else (65533, 1)) = rrS k t L := by
  unfold runeN rrS; rw [plen_eq, ht]
  by_cases hf : c ≥ lo ∧ (c < 55296 ∨ (57344 ≤ c ∧ c ≤ 1114111))
  · rw [if_pos hf]
    unfold fineC
    grind
  · rw [if_neg hf]
    unfold fineC
    grind
theorem rr3 (n b0 b1 b2 b3 : Nat) (h : 224 ≤ b0 ∧ b0 < 240) (hn : 3 ≤ n) (h1 : b1 < 256) (h2 : b2 < 256) : runeN (decodeN n b0 b1 b2 b3) = rrS 3 (64 * (64 * ((b0 : Int) - 224))) (lowL 0 [(b1 : Int), (b2 : Int)]) := by
  rw [low2]
  by_cases hc : 128 ≤ b1 ∧ b1 < 192 ∧ 128 ≤ b2 ∧ b2 < 192
  · have hd : decodeN n b0 b1 b2 b3 = if (b0 - 224) * 4096 + (b1 - 128) * 64 + (b2 - 128) ≥ 2048 ∧ ((b0 - 224) * 4096 + (b1 - 128) * 64 + (b2 - 128) < 55296 ∨ (57344 ≤ (b0 - 224) * 4096 + (b1 - 128) * 64 + (b2 - 128) ∧ (b0 - 224) * 4096 + (b1 - 128) * 64 + (b2 - 128) ≤ 1114111)) then ((b0 - 224) * 4096 + (b1 - 128) * 64 + (b2 - 128), 3) else (65533, 1) := by
      unfold decodeN
      rw [if_neg (by omega), if_neg (by omega), if_pos (by omega), show b0 % 16 = b0 - 224 by omega, show b1 % 64 = b1 - 128 by omega, show b2 % 64 = b2 - 128 by omega]
    rw [if_neg (by omega), hd]
    exact big_eq _ 3 2048 (by omega) _ _ (by omega) (by omega)
  · have hd : decodeN n b0 b1 b2 b3 = (65533, 1) := by
      unfold decodeN
      rw [if_neg (by omega), if_neg (by omega), if_neg (by omega), if_neg (by omega)]
    rw [if_pos (by omega), rrS_neg _ _ _ (by omega), hd]; rfl
theorem rr4 (n b0 b1 b2 b3 : Nat) (h : 240 ≤ b0 ∧ b0 < 248) (hn : 4 ≤ n) (h1 : b1 < 256) (h2 : b2 < 256) (h3 : b3 < 256) : runeN (decodeN n b0 b1 b2 b3) = rrS 4 (64 * (64 * (64 * ((b0 : Int) - 240)))) (lowL 0 [(b1 : Int), (b2 : Int), (b3 : Int)]) := by
  rw [low3]
  by_cases hc : 128 ≤ b1 ∧ b1 < 192 ∧ 128 ≤ b2 ∧ b2 < 192 ∧ 128 ≤ b3 ∧ b3 < 192
  · have hd : decodeN n b0 b1 b2 b3 = if (b0 - 240) * 262144 + (b1 - 128) * 4096 + (b2 - 128) * 64 + (b3 - 128) ≥ 65536 ∧ ((b0 - 240) * 262144 + (b1 - 128) * 4096 + (b2 - 128) * 64 + (b3 - 128) < 55296 ∨ (57344 ≤ (b0 - 240) * 262144 + (b1 - 128) * 4096 + (b2 - 128) * 64 + (b3 - 128) ∧ (b0 - 240) * 262144 + (b1 - 128) * 4096 + (b2 - 128) * 64 + (b3 - 128) ≤ 1114111)) then ((b0 - 240) * 262144 + (b1 - 128) * 4096 + (b2 - 128) * 64 + (b3 - 128), 4) else (65533, 1) := by
      unfold decodeN
      rw [if_neg (by omega), if_neg (by omega), if_neg (by omega), if_pos (by omega), show b0 % 8 = b0 - 240 by omega, show b1 % 64 = b1 - 128 by omega, show b2 % 64 = b2 - 128 by omega, show b3 % 64 = b3 - 128 by omega]
    rw [if_neg (by omega), hd]
    exact big_eq _ 4 65536 (by omega) _ _ (by omega) (by omega)
  · have hd : decodeN n b0 b1 b2 b3 = (65533, 1) := by
      unfold decodeN
      rw [if_neg (by omega), if_neg (by omega), if_neg (by omega), if_neg (by omega)]
    rw [if_pos (by omega), rrS_neg _ _ _ (by omega), hd]; rfl
theorem rr0 (n b0 b1 b2 b3 : Nat) (h : 128 ≤ b0 ∧ b0 < 192 ∨ 248 ≤ b0 ∧ b0 < 256 ∨ 192 ≤ b0 ∧ b0 < 224 ∧ n < 2 ∨ 224 ≤ b0 ∧ b0 < 240 ∧ n < 3 ∨ 240 ≤ b0 ∧ b0 < 248 ∧ n < 4) : runeN (decodeN n b0 b1 b2 b3) = (0, 0) := by
  have : decodeN n b0 b1 b2 b3 = (65533, 1) := by unfold decodeN; grind
  rw [this]; rfl

/-- What the document's Rune answers of bytes: the character and how many bytes it has, or 0 and 0. -/
def refRune (s : ByteArray) : Int × Int := if s.size = 0 then (0, 0) else runeN (Utf8.decode s 0)

set_option maxHeartbeats 1000000 in
theorem rrune_none (b off n cap : Nat) (w : World) (z : Int) (hz : 0 ≤ z ∧ z < 256) (hc0 : 0 < n → w.cell? ⟨b, off, none⟩ = some (.int .u8 z)) (hn2 : n ≤ 4294967280) (hcap : n ≤ cap)
    (h : n = 0 ∨ 128 ≤ z ∧ z < 192 ∨ 248 ≤ z ∨ 192 ≤ z ∧ z < 224 ∧ n < 2 ∨ 224 ≤ z ∧ z < 240 ∧ n < 3 ∨ 240 ≤ z ∧ z < 248 ∧ n < 4) :
    Calls Tryd.prog 63 #[.slice (some ⟨b, off, none⟩) n cap] w (RetII 0 0 w) := by
  by_cases h0 : n = 0
  · subst h0
    go_enter Tryd.func63, Tryd.ntmps63
    go_wp2_with fail
    go_ret2
    exact ⟨rfl, Bel.refl _⟩
  · have hc := hc0 (by omega)
    have hp : ((n : Int) == 0) = false := by simp; omega
    obtain ⟨hz0, hz1⟩ := hz
    have hn0 : (0 : Int) < n := by omega
    have H := Lib.hid h
    clear h h0 hc0
    rcases H.out with h | h | h | h | h | h
    · omega
    · obtain ⟨h1, h2⟩ := h
      go_enter Tryd.func63, Tryd.ntmps63
      go_wp2_with fail
      go_ret2
      exact ⟨rfl, Bel.refl _⟩
    · go_enter Tryd.func63, Tryd.ntmps63
      go_wp2_with fail
      go_ret2
      exact ⟨rfl, Bel.refl _⟩
    · obtain ⟨h1, h2, h3⟩ := h
      have h4 : (n : Int) < 2 := by omega
      go_enter Tryd.func63, Tryd.ntmps63
      go_wp2_with fail
      go_ret2
      exact ⟨rfl, Bel.refl _⟩
    · obtain ⟨h1, h2, h3⟩ := h
      have h4 : (n : Int) < 3 := by omega
      go_enter Tryd.func63, Tryd.ntmps63
      go_wp2_with fail
      go_ret2
      exact ⟨rfl, Bel.refl _⟩
    · obtain ⟨h1, h2, h3⟩ := h
      have h4 : (n : Int) < 4 := by omega
      go_enter Tryd.func63, Tryd.ntmps63
      go_wp2_with fail
      go_ret2
      exact ⟨rfl, Bel.refl _⟩

theorem rrune_c (s : ByteArray) (v : Value) (w : World) (hv : BytesAt w v s) (hs : s.size ≤ 4294967280) :
    Calls Tryd.prog 63 #[v] w (RetII (refRune s).1 (refRune s).2 w) := by
  obtain ⟨b, off, cap, rfl, hlt, hc, hcap⟩ := hv
  have hlt8 : ∀ j, (s.get! j).toNat < 256 := fun j => (s.get! j).toNat_lt
  have hat : ∀ k, k ≤ s.size → 1 ≤ k → ∀ j, (h : j < k - 1) → w.cell? ⟨b, off + 1 + j, none⟩ = some (.int .u8 (s.get! (j + 1)).toNat) := fun k hk h1 j h => by
    rw [Nat.add_assoc, Nat.add_comm 1 j]; exact hc (j + 1) (by omega)
  by_cases h0 : s.size = 0
  · rw [show refRune s = (0, 0) from by unfold refRune; rw [if_pos h0]]
    exact rrune_none b off _ cap w 0 ⟨by omega, by omega⟩ (fun h => by omega) hs hcap (Or.inl h0)
  have hc0 := hc 0 (by omega)
  rw [Nat.add_zero] at hc0
  have hr : refRune s = runeN (decodeN s.size (s.get! 0).toNat (s.get! 1).toNat (s.get! 2).toNat (s.get! 3).toNat) := by
    unfold refRune; rw [if_neg h0, decode_at]; rfl
  have b0 := hlt8 0; have b1 := hlt8 1; have b2 := hlt8 2; have b3 := hlt8 3
  have hat1 : 2 ≤ s.size → w.cell? ⟨b, off + 1, none⟩ = some (.int .u8 (s.get! 1).toNat) := fun h => hc 1 (by omega)
  by_cases h1 : (s.get! 0).toNat < 128
  · rw [hr, rr1 _ _ _ _ _ h1]
    have hl0 : ∀ (a : Addr) c, Calls Tryd.prog 75 #[.slice (some a) 0 c] w fun e w' => e = .returned (.int .i64 0) ∧ w = w' := fun a c => rlow_zero a c w
    by_cases hcc : 1 < cap
    · exact rrune1_c b off cap s.size _ 0 w (by omega) (by omega) (by omega) hs hcap (by omega) (by omega) hc0 hcc hl0
    · obtain rfl : cap = 1 := by omega
      exact rrune1b_c b off s.size _ 0 w (by omega) (by omega) (by omega) hs hcap (by omega) (by omega) hc0 hl0
  by_cases h2 : 192 ≤ (s.get! 0).toNat ∧ (s.get! 0).toNat < 224 ∧ 2 ≤ s.size
  · rw [hr, rr2 _ _ _ _ _ ⟨h2.1, h2.2.1⟩ h2.2.2 b1]
    have := low1 ((s.get! 1).toNat : Int)
    refine rrune2_c b off cap s.size _ _ w (by omega) (by omega) h2.2.2 hs hcap (by rw [this]; split <;> omega) (by rw [this]; split <;> omega) hc0 (fun c => ?_)
    exact rlow_c b (off + 1) c [((s.get! 1).toNat : Int)] w (by simp) (by intro x hx; simp at hx; subst hx; omega) (fun j hj => by
      have := hat 2 h2.2.2 (by omega) j (by simpa using hj)
      obtain rfl : j = 0 := by simpa using hj
      exact this)
  by_cases h3 : 224 ≤ (s.get! 0).toNat ∧ (s.get! 0).toNat < 240 ∧ 3 ≤ s.size
  · rw [hr, rr3 _ _ _ _ _ ⟨h3.1, h3.2.1⟩ h3.2.2 b1 b2]
    have := low2 ((s.get! 1).toNat : Int) ((s.get! 2).toNat : Int)
    refine rrune3_c b off cap s.size _ _ w (by omega) (by omega) h3.2.2 hs hcap (by rw [this]; split <;> omega) (by rw [this]; split <;> omega) hc0 (fun c => ?_)
    exact rlow_c b (off + 1) c [((s.get! 1).toNat : Int), ((s.get! 2).toNat : Int)] w (by simp) (by intro x hx; simp at hx; rcases hx with rfl | rfl <;> omega) (fun j hj => by
      have := hat 3 h3.2.2 (by omega) j (by simpa using hj)
      match j, hj, this with
      | 0, _, this => exact this
      | 1, _, this => exact this)
  by_cases h4 : 240 ≤ (s.get! 0).toNat ∧ (s.get! 0).toNat < 248 ∧ 4 ≤ s.size
  · rw [hr, rr4 _ _ _ _ _ ⟨h4.1, h4.2.1⟩ h4.2.2 b1 b2 b3]
    have := low3 ((s.get! 1).toNat : Int) ((s.get! 2).toNat : Int) ((s.get! 3).toNat : Int)
    refine rrune4_c b off cap s.size _ _ w (by omega) (by omega) h4.2.2 hs hcap (by rw [this]; split <;> omega) (by rw [this]; split <;> omega) hc0 (fun c => ?_)
    exact rlow_c b (off + 1) c [((s.get! 1).toNat : Int), ((s.get! 2).toNat : Int), ((s.get! 3).toNat : Int)] w (by simp) (by intro x hx; simp at hx; rcases hx with rfl | rfl | rfl <;> omega) (fun j hj => by
      have := hat 4 h4.2.2 (by omega) j (by simpa using hj)
      match j, hj, this with
      | 0, _, this => exact this
      | 1, _, this => exact this
      | 2, _, this => exact this)
  rw [hr, rr0 _ _ _ _ _ (by omega)]
  exact rrune_none b off _ cap w _ ⟨by omega, by omega⟩ (fun _ => hc0) hs hcap (by omega)
end Go.Proofs.YtojeclfcgnamoaaDoor

namespace Go.Proofs.YtojeclfcgnamoaaDoor
open Go.RowKit

def i64s (l : List Int) : List Value := l.map fun n => Value.int .i64 n

/-- A text's characters from a place on; none: it isn't right. -/
def charsF (s : ByteArray) : Nat → Nat → Option (List Int)
  | 0, _ => some []
  | b + 1, pos => if pos < s.size then
      if (runeN (Utf8.decode s pos)).2 = 0 then none else (charsF s b (pos + (runeN (Utf8.decode s pos)).2.toNat)).map ((runeN (Utf8.decode s pos)).1 :: ·)
    else some []
def charsS (s : ByteArray) : Option (List Int) := charsF s s.size 0

theorem runeN_snd (s : ByteArray) (pos : Nat) (h : pos < s.size) : (runeN (Utf8.decode s pos)).2 = 0 ∨ 1 ≤ (runeN (Utf8.decode s pos)).2 := by
  unfold runeN; split
  · exact .inl rfl
  · exact .inr (by have := decode_pos s pos h; show 1 ≤ ((Utf8.decode s pos).2 : Int); omega)
theorem decode_fits (s : ByteArray) (pos : Nat) (h : pos < s.size) : pos + (Utf8.decode s pos).2 ≤ s.size := by
  simp only [Utf8.decode]
  repeat' split
  all_goals simp_all
  all_goals omega
theorem runeN_fits (s : ByteArray) (pos : Nat) (h : pos < s.size) : pos + (runeN (Utf8.decode s pos)).2.toNat ≤ s.size := by
  have := decode_fits s pos h
  unfold runeN; split
  · show pos + (0 : Int).toNat ≤ _; simp; omega
  · show pos + (((Utf8.decode s pos).2 : Int)).toNat ≤ _; simp; omega

theorem charsF_end (s : ByteArray) (b pos : Nat) (h : ¬ pos < s.size) : charsF s b pos = some [] := by
  cases b with
  | zero => rfl
  | succ b => simp [charsF, h]
theorem charsF_bad (s : ByteArray) (b pos : Nat) (h : pos < s.size) (hb : s.size ≤ pos + b) (h0 : (runeN (Utf8.decode s pos)).2 = 0) : charsF s b pos = none := by
  cases b with
  | zero => omega
  | succ b => simp [charsF, h, h0]
theorem charsF_step (s : ByteArray) (b pos : Nat) (h : pos < s.size) (hb : s.size ≤ pos + b) (h0 : (runeN (Utf8.decode s pos)).2 ≠ 0) :
    ∃ b', b = b' + 1 ∧ charsF s b pos = (charsF s b' (pos + (runeN (Utf8.decode s pos)).2.toNat)).map ((runeN (Utf8.decode s pos)).1 :: ·) := by
  cases b with
  | zero => omega
  | succ b => exact ⟨b, rfl, by simp [charsF, h, h0]⟩

/-- What chars answers: r none: false; else r's numbers. -/
def RetC (r : Option (List Int)) (w : World) (e : Ending) (w' : World) : Prop :=
  Bel w w' ∧ match r with
  | none => e = .returned (.tuple #[.slice none 0 0, .bool false])
  | some l => ∃ v, e = .returned (.tuple #[v, .bool true]) ∧ RowAt0 w' v (i64s l)

theorem refRune_tail (s : ByteArray) (pos : Nat) (h : pos < s.size) : refRune (s.extract pos s.size) = runeN (Utf8.decode s pos) := by
  unfold refRune
  have hz : ¬ (s.extract pos s.size).size = 0 := by simp; omega
  rw [if_neg hz, Lib.tail_decode]; rfl

theorem info_int : (Tryd.prog.info? 3).map (fun i => (i.zero, i.size, i.bytes)) = some (some (.int .i64 0), 1, 8) := by kernel_rfl

def lenOf : Value → Nat | .slice _ n _ => n | _ => 0
theorem extract_tail (s : ByteArray) (p k : Nat) (h : p + k ≤ s.size) : (s.extract p s.size).extract k (s.extract p s.size).size = s.extract (p + k) s.size := by
  apply ByteArray.ext
  apply Array.ext'
  simp [List.extract_eq_take_drop]
  congr 1
  omega

set_option maxRecDepth 100000 in
set_option maxHeartbeats 1000000 in
theorem chars_c (s : ByteArray) (hs : s.size ≤ 4294967280) (w : World) :
    Calls Tryd.prog 50 #[.string s] w (RetC (charsS s) w) := by
  obtain ⟨R, hR⟩ : ∃ R, charsS s = R := ⟨_, rfl⟩
  rw [hR]
  have HR := Lib.hid hR
  clear hR
  go_enter Tryd.func50, Tryd.ntmps50
  go_wp2_with (refine wpL_bytes rfl 9 31 5 _ rfl s rfl Tryd.underlying9 Tryd.underlying31 Tryd.underlying5 ?_; intro v5 W1 hv hb1)
  go_loopw [4, 5] (fun out bv wr => ∃ (pos b : Nat) (xs : List Int), pos ≤ s.size ∧ BytesAt W1 bv (s.extract pos s.size) ∧ wr.ownsRow W1.heap.size 3 1 out xs.length (i64s xs) ∧ Bel W1 wr ∧ s.size ≤ pos + b ∧ xs.length ≤ pos ∧ (charsF s b pos).map (xs ++ ·) = R) (fun _ bv _ => lenOf bv)
  case atStart =>
    refine ⟨0, s.size, [], Nat.zero_le _, ?_, World.ownsRow_nil _ _ _ _, Bel.refl _, by omega, Nat.le_refl _, ?_⟩
    · rw [show s.extract 0 s.size = s from by apply ByteArray.ext; simp]; exact hv
    · rw [show charsF s s.size 0 = R from HR.out]; cases R <;> simp
  case round =>
    obtain ⟨pos, b, xs, hpos, hv5, hown, hbel, hb, hxl, hch⟩ := hrel
    have hv6 := hv5
    obtain ⟨bb, off, cap, rfl, hlt, hc, hcap⟩ := hv5
    obtain ⟨t, ht⟩ : ∃ t, s.extract pos s.size = t := ⟨_, rfl⟩
    have hm : t.size = s.size - pos := by rw [← ht]; simp
    rw [ht] at hv6 hcap ⊢
    obtain ⟨m, hmm⟩ : ∃ m, t.size = m := ⟨_, rfl⟩
    rw [hmm] at hm hv6 hcap ⊢
    have HV := Lib.hid hv6
    have HT := Lib.hid ht
    have HM := Lib.hid hm
    have HMM := Lib.hid hmm
    have HCH := Lib.hid hch
    have hml : m ≤ 4294967280 := by omega
    have hxl2 : xs.length ≤ 4294967280 := by omega
    clear ht hm hc hch hv6 hmm
    by_cases hp : 0 < m
    · have hps : pos < s.size := by have := HM.out; omega
      have hrr := refRune_tail s pos hps
      rw [HT.out] at hrr
      have hr1 := runeN_snd s pos hps
      have hr2 := runeN_fits s pos hps
      have hbad := fun h0 => charsF_bad s b pos hps hb h0
      have hst := fun h0 => charsF_step s b pos hps hb h0
      obtain ⟨⟨c, n⟩, hcn⟩ : ∃ x, runeN (Utf8.decode s pos) = x := ⟨_, rfl⟩
      rw [hcn] at hrr hr1 hr2 hbad hst
      have hrc := fun w1 (h : BytesAt w1 (.slice (some ⟨bb, off, none⟩) m cap) t) => rrune_c t _ w1 h (by rw [HMM.out]; omega)
      rw [hrr] at hrc
      have HRC := Lib.hid hrc
      have HBAD := Lib.hid hbad
      have HST := Lib.hid hst
      have hmp : (0 : Int) < m := by omega
      clear hcn hrr hrc hbad hst
      by_cases hn : n = 0
      · subst hn
        go_wp2_with (go_at_call 63; refine (HRC.out _ (BytesAt.bel HV.out hbel)).mono ?_; rintro e w' ⟨rfl, hb2⟩)
        go_ret2
        have := HCH.out
        rw [HBAD.out (by trivial)] at this
        subst this
        exact ⟨(hb1.trans hbel).trans hb2, rfl⟩
      · have hn1 : 1 ≤ n := by omega
        have hnz : (n == 0) = false := by simpa using hn
        have HN := Lib.hid hn
        obtain ⟨k, hk⟩ : ∃ k : Nat, n = k := ⟨n.toNat, by omega⟩
        subst hk
        have hkm : (k : Int) ≤ m := by have := HM.out; simp at hr2; omega
        clear hn hr1 hr2
        go_wp2_with (first
          | (go_at_call 63; refine (HRC.out _ (BytesAt.bel HV.out hbel)).mono ?_; rintro e w' ⟨rfl, hb2⟩)
          | (at_builtin; refine wpL_append1 rfl _ _ 90 rfl W1 3 (.int .i64 0) 1 8 Tryd.underlying90 info_int rfl (by decide) (by decide) u4 xs.length (i64s xs) rfl ((own_bel hown hb2).alloc _) ⟨w'.heap.size, 0, none⟩ 1 [.int .i64 c] rfl rfl (cell_one_new _ _ _) (by simp [Value.oneCell']) (by omega) ((hbel.trans hb2).to_alloc _) ?_; intro g cp w2 hown2 hb3 hb4)
          | (refine wpL_bytes_from rfl 31 _ _ rfl _ rfl k rfl t W1 HV.out (by have := HMM.out; omega) Tryd.underlying31 (by go_simp) ?_; intro v' hv'))
        have hx : t.extract k t.size = s.extract (pos + k) s.size := by
          rw [← HT.out]; exact extract_tail s pos k (by have := HM.out; omega)
        have hps2 : pos + k ≤ s.size := by have := HM.out; omega
        obtain ⟨b', hb', hst'⟩ := HST.out HN.out
        refine ⟨⟨pos + k, b', xs ++ [c], hps2, by rw [← hx]; exact hv', by simpa [i64s] using hown2, hb3, by omega, by simp; omega, ?_⟩, ?_⟩
        · have := HCH.out
          rw [hst'] at this
          rw [← this]
          simp [Function.comp_def]
        · obtain ⟨_, _, _, rfl, _⟩ := hv'
          simp only [lenOf]
          have := HM.out; have := HMM.out
          simp
          omega
    · obtain rfl : m = 0 := by omega
      go_wp2_with fail
      go_ret2
      have hps : ¬ pos < s.size := by have := HM.out; omega
      have := HCH.out
      rw [charsF_end _ _ _ hps] at this
      subst this
      exact ⟨hb1.trans hbel, _, rfl, by simpa using own_row hown⟩
end Go.Proofs.YtojeclfcgnamoaaDoor

namespace Go.Proofs.YtojeclfcgnamoaaDoor
open Go.RowKit

theorem row_ne {W : World} {v : Value} {xs : List Value} (h : RowAt0 W v xs) (hx : xs ≠ []) : RowAt W v xs := by
  rcases h with ⟨_, h⟩ | h
  · exact absurd h hx
  · exact h

/-- The first one by p, the others by q. -/
def listS (p q : Int → Bool) : List Int → Bool
  | [] => false
  | c :: l => p c && l.all q
def charsB (p q : Int → Bool) (s : ByteArray) : Bool :=
  match charsS s with
  | none => false
  | some l => listS p q l
def rplainS (s : ByteArray) : Bool := charsB firstC partC s

theorem charsF_length (s : ByteArray) : ∀ b pos l, charsF s b pos = some l → l.length ≤ b
  | 0, pos, l, h => by simp [charsF] at h; simp [h]
  | b + 1, pos, l, h => by
    unfold charsF at h
    split at h
    · split at h
      · cases h
      · obtain ⟨l', h1, rfl⟩ := Option.map_eq_some_iff.1 h
        have := charsF_length s b _ l' h1
        simp; omega
    · simp at h; simp [h]
theorem charsS_length (s : ByteArray) (l : List Int) (h : charsS s = some l) : l.length ≤ s.size := charsF_length s _ _ l h

theorem retB_eq {a b : Bool} {w w' : World} (h : a = b) (hb : Bel w w') : Ending.returned (.bool a) = .returned (.bool b) ∧ Bel w w' := ⟨by rw [h], hb⟩

set_option maxHeartbeats 1000000 in
theorem rplain_c (s : ByteArray) (hs : s.size ≤ 4294967280) (w : World) :
    Calls Tryd.prog 27 #[.string s] w fun e w' => e = .returned (.bool (rplainS s)) ∧ Bel w w' := by
  have hc := chars_c s hs w
  unfold rplainS charsB
  rcases hr : charsS s with _ | ⟨_ | ⟨c, l⟩⟩
  · rw [hr] at hc
    have HC := Lib.hid hc
    clear hc hr
    show Calls _ _ _ _ fun e w' => e = .returned (.bool false) ∧ Bel w w'
    go_enter Tryd.func27, Tryd.ntmps27
    go_wp2_with (go_at_call 50; refine HC.out.mono ?_; rintro e w1 ⟨hb, rfl⟩)
    go_ret
    exact ⟨rfl, by assumption⟩
  · rw [hr] at hc
    have HC := Lib.hid hc
    clear hc hr
    show Calls _ _ _ _ fun e w' => e = .returned (.bool false) ∧ Bel w w'
    go_enter Tryd.func27, Tryd.ntmps27
    go_wp2_with (go_at_call 50; refine HC.out.mono ?_; rintro e w1 ⟨hb, v, rfl, ⟨rfl, _⟩ | ⟨b, off, cap, rfl, _⟩⟩)
    all_goals go_ret
    all_goals exact ⟨rfl, by assumption⟩
  · have hlen := charsS_length s _ hr
    rw [hr] at hc
    have HC := Lib.hid hc
    obtain ⟨L, hL⟩ : ∃ L, c :: l = L := ⟨_, rfl⟩
    obtain ⟨R, hR⟩ : ∃ R, listS firstC partC (c :: l) = R := ⟨_, rfl⟩
    show Calls _ _ _ _ fun e w' => e = .returned (.bool (listS firstC partC (c :: l))) ∧ Bel w w'
    rw [hR]
    have HR := Lib.hid hR
    obtain ⟨n, hn⟩ : ∃ n, (i64s (c :: l)).length = n := ⟨_, rfl⟩
    have hn1 : n = l.length + 1 := by rw [← hn]; simp [i64s]
    have hn2 : n ≤ 4294967280 := by simp at hlen; omega
    have hn3 : (0 : Int) < n := by omega
    have hn4 : ((n : Int) == 0) = false := by simp; omega
    have HN := Lib.hid hn1
    have HNN := Lib.hid hn
    clear hc hr hL hR hlen hn1 hn L
    have hf := fun w1 => rfirst_c c w1
    obtain ⟨F, hF⟩ : ∃ F, firstC c = F := ⟨_, rfl⟩
    rw [hF] at hf
    have HF := Lib.hid hf
    have HFF := Lib.hid hF
    clear hf hF
    cases F
    · go_enter Tryd.func27, Tryd.ntmps27
      go_wp2_with (first
        | (go_at_call 50; refine HC.out.mono ?_; rintro e w1 ⟨hb, v, rfl, hv⟩; have hv2 := row_ne hv (by simp [i64s]); clear hv; obtain ⟨b, off, cap, rfl, hcap, hlt, hcl⟩ := hv2; rw [HNN.out] at hcap ⊢; have HCL := Lib.hid hcl; have hc0 : w1.cell? ⟨b, off, none⟩ = some (.int .i64 c) := hcl 0 (by simp [i64s]); clear hcl)
        | (go_at_call 51; refine (HF.out _).mono ?_; rintro e w' ⟨rfl, rfl⟩))
      go_ret
      refine retB_eq ?_ (by assumption)
      rw [← HR.out]
      show false = (firstC c && _)
      rw [HFF.out]; rfl
    · have hRl : l.all partC = R := by rw [← HR.out]; show _ = (firstC c && _); rw [HFF.out]; rfl
      have HRL := Lib.hid hRl
      clear hRl
      go_enter Tryd.func27, Tryd.ntmps27
      go_wp2_with (first
        | (go_at_call 50; refine HC.out.mono ?_; rintro e w1 ⟨hb, v, rfl, hv⟩; have hv2 := row_ne hv (by simp [i64s]); clear hv; obtain ⟨b, off, cap, rfl, hcap, hlt, hcl⟩ := hv2; rw [HNN.out] at hcap ⊢; have HCL := Lib.hid hcl; have hc0 : w1.cell? ⟨b, off, none⟩ = some (.int .i64 c) := hcl 0 (by simp [i64s]); clear hcl)
        | (go_at_call 51; refine (HF.out _).mono ?_; rintro e w' ⟨rfl, rfl⟩))
      go_loop [5] (fun i => ∃ j : Nat, 1 ≤ j ∧ j ≤ n ∧ i = .int .i64 j ∧ (l.drop (j - 1)).all partC = R) (fun i => n - (intOf i).toNat)
      case atStart => exact ⟨1, Nat.le_refl _, by omega, rfl, HRL.out⟩
      case round =>
        obtain ⟨j, hj1, hj, rfl, hall⟩ := hrel
        by_cases hlt : j < n
        · have hjl : j - 1 < l.length := by have := HN.out; omega
          have hcell := HCL.out j (by simp [i64s]; omega)
          have hd := List.drop_eq_getElem_cons hjl
          rw [hd] at hall
          obtain ⟨x, hx⟩ : ∃ x, l[j - 1] = x := ⟨_, rfl⟩
          have hcell2 : w1.cell? ⟨b, off + j, none⟩ = some (.int .i64 x) := by
            rw [hcell, ← hx]
            obtain ⟨k, rfl⟩ : ∃ k, j = k + 1 := ⟨j - 1, by omega⟩
            simp [i64s]
          rw [hx, show j - 1 + 1 = j from by omega] at hall
          have HALL := Lib.hid hall
          clear hcell hd hall hx
          go_wp2_with (go_at_call 52; refine (rpart_c _ _).mono ?_; rintro e w' ⟨rfl, rfl⟩)
          · have hno : (!partC x) = true := by assumption
            go_ret
            refine retB_eq ?_ (by assumption)
            rw [← HALL.out]
            simp at hno
            simp [hno]
          · have hno : (!partC x) = false := by assumption
            refine ⟨⟨j + 1, by omega, by omega, by go_num, ?_⟩, by simp [intOf]; omega⟩
            rw [← HALL.out, show j + 1 - 1 = j from by omega]
            simp at hno
            simp [hno]
        · obtain rfl : j = n := by omega
          go_wp2_with fail
          go_ret
          refine retB_eq ?_ (by assumption)
          rw [← hall, List.drop_of_length_le (by have := HN.out; omega)]
          rfl

theorem byte_is (s : ByteArray) (k : Nat) (h : k < s.size) (m : Int) (n : Nat) (hm : m = n) (hn : n < 256) : (((s[k]'h).toNat : Int) == m) = true ↔ s.get! k = UInt8.ofNat n := by
  rw [get_bang s k h, beq_iff_eq, hm]
  constructor
  · intro h1
    have h2 : (s.data[k]).toNat = n := by have : (s[k]'h).toNat = n := by omega
                                          exact this
    rw [← h2]; simp
  · intro h1
    have h2 : (s[k]'h) = UInt8.ofNat n := h1
    rw [h2]
    have : (UInt8.ofNat n).toNat = n := by simp [UInt8.toNat_ofNat']; omega
    rw [this]

/-- A name's prefix and what stands behind it; whether it is one. -/
def rsplitF (s : ByteArray) : Nat → Nat → ByteArray × ByteArray × Bool
  | 0, _ => if rplainS s = true then (⟨#[]⟩, s, true) else (⟨#[]⟩, ⟨#[]⟩, false)
  | b + 1, i => if i < s.size then
      if s.get! i = 58 then
        if rplainS (s.extract 0 i) = true ∧ rplainS (s.extract (i + 1) s.size) = true then (s.extract 0 i, s.extract (i + 1) s.size, true) else (⟨#[]⟩, ⟨#[]⟩, false)
      else rsplitF s b (i + 1)
    else if rplainS s = true then (⟨#[]⟩, s, true) else (⟨#[]⟩, ⟨#[]⟩, false)
def rsplitS (s : ByteArray) : ByteArray × ByteArray × Bool := rsplitF s s.size 0
def RetSSB (a b : ByteArray) (t : Bool) (w : World) (e : Ending) (w' : World) : Prop := e = .returned (.tuple #[.string a, .string b, .bool t]) ∧ Bel w w'

end Go.Proofs.YtojeclfcgnamoaaDoor
