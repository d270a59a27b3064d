/-
  The walks of utf.Rune and names.made, names.Plain: what they answer; no memory that was there has turned.
-/
import Derived.Test.YtjnaikojoemkaaaDoorB
import Derived.Test.YtjnaikojoemkaaaDoorShelf
import Derived.Lib.RuneCountTail
import Derived.Shelf.Abstract
namespace Go.Proofs.YtjnaikojoemkaaaDoor
open Go.RowKit

/-- What the walks ask of the world: the tables of unicode/utf8 as they are laid; bytealg's one variable holds some number. -/
def Env (w : World) : Prop :=
  Lib.Utf8Tabs 1 2 w ∧ (∃ m, w.cell? ⟨5, 0, none⟩ = some (.int .i64 m))
theorem Env.bel {w w' : World} (h : Env w) (hb : Bel w w') : Env w' := by
  obtain ⟨hc, _⟩ := bcell hb
  obtain ⟨⟨h1, h2⟩, m, h3⟩ := h
  refine ⟨⟨fun c hc' => ?_, fun i hi => ⟨?_, ?_⟩⟩, m, ?_⟩
  · rw [hc _ _ (cell_lt (h1 c hc'))]; exact h1 c hc'
  · rw [hc _ _ (cell_lt (h2 i hi).1)]; exact (h2 i hi).1
  · rw [hc _ _ (cell_lt (h2 i hi).2)]; exact (h2 i hi).2
  · rw [hc _ _ (cell_lt h3)]; exact h3

/-- A function value that answers a bool of a number. -/
structure Asks (h : Nat) (r : Int → Bool) : Prop where
  enters : ∀ args w, (callFunc h args).run Tryd.prog w = .ok (.enter h args) w
  calls : ∀ c w, Calls Tryd.prog h #[.int .i64 c] w fun e w' => e = .returned (.bool (r c)) ∧ w = w'
theorem asks_first : Asks 30 firstC := ⟨enters_of Tryd.func30 (by kernel_rfl) rfl, first_c⟩
theorem asks_next : Asks 31 nextC := ⟨enters_of Tryd.func31 (by kernel_rfl) rfl, next_c⟩
theorem decode_tail (s : ByteArray) (n : Nat) (h : n < s.size) : Lib.decodeGo (s.extract n s.size) = Utf8.decode s n := by
  have hz : ¬ (s.extract n s.size).size = 0 := by simp; omega
  unfold Lib.decodeGo
  rw [if_neg hz, Lib.tail_decode]
  rfl

set_option maxHeartbeats 400000 in
theorem rune_c (s : ByteArray) (v : Value) (i : Nat) (w : World) (hE : Env w) (hv : BytesAt w v s) (hi : i < s.size) (_hs : s.size ≤ 4294967280) :
    Calls Tryd.prog 41 #[v, .int .i64 i] w fun e w' => e = .returned (.tuple #[.int .i64 (runeAt s i).1, .int .i64 (runeAt s i).2.1, .int .i64 (runeAt s i).2.2]) ∧ Bel w w' := by
  obtain ⟨b, off, cap, rfl, hlt, hcell, hcap⟩ := hv
  have hd := decode_tail s i hi
  have hle := decode_le s i
  have hsz : (s.extract i s.size).size = s.size - i := by simp
  have hX : ∀ w1, w1 = w → Calls Tryd.prog 50 #[.slice (some ⟨b, off + i, none⟩) (s.size - i) (cap - i)] w1 fun e w' => e = .returned (.tuple #[.int .i32 (Utf8.decode s i).1, .int .i64 (Utf8.decode s i).2]) ∧ Bel w w' := by
    rintro w1 rfl
    have := Tryd.utf8_DecodeRune (s.extract i s.size) b (off + i) (cap - i) w1 hE.1 (fun j hj => by
      rw [hsz] at hj
      rw [Nat.add_assoc, hcell _ (by omega)]
      rw [get_extract s i j (by omega)])
    rw [hsz, hd] at this
    exact this
  obtain ⟨r, hr⟩ : ∃ r, runeAt s i = r := ⟨_, rfl⟩
  obtain ⟨c, n, hcn⟩ : ∃ c n, Utf8.decode s i = (c, n) := ⟨_, _, rfl⟩
  unfold runeAt at hr
  simp only [hcn] at hX hle hr
  rw [show runeAt s i = r from by unfold runeAt; simp only [hcn]; exact hr]
  have HX := Lib.hid hX
  have HR := Lib.hid hr
  clear hX hd hsz hcn hcell hr
  have hcc : i < cap := by omega
  go_enter Tryd.func41, Tryd.ntmps41
  go_wp2_with (first
    | (go_at_call 50; refine (HX.out _ rfl).mono ?_; rintro e w' ⟨rfl, hb⟩)
    | (go_at_call 24; refine (fine_c _ _).mono ?_; rintro e w' ⟨rfl, rfl⟩))
  all_goals go_ret3
  all_goals have hr := HR.out
  all_goals go_light
  all_goals refine ⟨tup3 (int_eq ?_) (int_eq ?_) (int_eq ?_), by assumption⟩
  all_goals (rw [← hr]; grind)
end Go.Proofs.YtjnaikojoemkaaaDoor
