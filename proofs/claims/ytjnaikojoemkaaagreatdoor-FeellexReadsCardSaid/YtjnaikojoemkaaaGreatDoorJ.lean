/-
  The walk of the document's answer for names: chars.
-/
import Derived.Test.YtjnaikojoemkaaaGreatDoorI
import Derived.Test.YtjnaikojoemkaaaGreatDoorC
namespace Go.Proofs.YtjnaikojoemkaaaGreatDoor
open Go.RowKit

def i64s (l : List Int) : List Value := l.map fun n => Value.int .i64 n

/-- A text's characters from a place on; none: it isn't right. -/
def charsF (s : ByteArray) : Nat → Nat → Option (List Int)
  | 0, _ => some []
  | b + 1, pos => if pos < s.size then
      if (runeN (Utf8.decode s pos)).2 = 0 then none else (charsF s b (pos + (runeN (Utf8.decode s pos)).2.toNat)).map ((runeN (Utf8.decode s pos)).1 :: ·)
    else some []
def charsS (s : ByteArray) : Option (List Int) := charsF s s.size 0

theorem runeN_snd (s : ByteArray) (pos : Nat) (h : pos < s.size) : (runeN (Utf8.decode s pos)).2 = 0 ∨ 1 ≤ (runeN (Utf8.decode s pos)).2 := by
  unfold runeN; split
  · exact .inl rfl
  · exact .inr (by have := decode_pos s pos h; show 1 ≤ ((Utf8.decode s pos).2 : Int); omega)
theorem decode_fits (s : ByteArray) (pos : Nat) (h : pos < s.size) : pos + (Utf8.decode s pos).2 ≤ s.size := by
  simp only [Utf8.decode]
  repeat' split
  all_goals simp_all
  all_goals omega
theorem runeN_fits (s : ByteArray) (pos : Nat) (h : pos < s.size) : pos + (runeN (Utf8.decode s pos)).2.toNat ≤ s.size := by
  have := decode_fits s pos h
  unfold runeN; split
  · show pos + (0 : Int).toNat ≤ _; simp; omega
  · show pos + (((Utf8.decode s pos).2 : Int)).toNat ≤ _; simp; omega

theorem charsF_end (s : ByteArray) (b pos : Nat) (h : ¬ pos < s.size) : charsF s b pos = some [] := by
  cases b with
  | zero => rfl
  | succ b => simp [charsF, h]
theorem charsF_bad (s : ByteArray) (b pos : Nat) (h : pos < s.size) (hb : s.size ≤ pos + b) (h0 : (runeN (Utf8.decode s pos)).2 = 0) : charsF s b pos = none := by
  cases b with
  | zero => omega
  | succ b => simp [charsF, h, h0]
theorem charsF_step (s : ByteArray) (b pos : Nat) (h : pos < s.size) (hb : s.size ≤ pos + b) (h0 : (runeN (Utf8.decode s pos)).2 ≠ 0) :
    ∃ b', b = b' + 1 ∧ charsF s b pos = (charsF s b' (pos + (runeN (Utf8.decode s pos)).2.toNat)).map ((runeN (Utf8.decode s pos)).1 :: ·) := by
  cases b with
  | zero => omega
  | succ b => exact ⟨b, rfl, by simp [charsF, h, h0]⟩

/-- What chars answers: r none: false; else r's numbers. -/
def RetC (r : Option (List Int)) (w : World) (e : Ending) (w' : World) : Prop :=
  Bel w w' ∧ match r with
  | none => e = .returned (.tuple #[.slice none 0 0, .bool false])
  | some l => ∃ v, e = .returned (.tuple #[v, .bool true]) ∧ RowAt0 w' v (i64s l)

theorem refRune_tail (s : ByteArray) (pos : Nat) (h : pos < s.size) : refRune (s.extract pos s.size) = runeN (Utf8.decode s pos) := by
  unfold refRune
  have hz : ¬ (s.extract pos s.size).size = 0 := by simp; omega
  rw [if_neg hz, Lib.tail_decode]; rfl

theorem info_int : (Tryz.prog.info? 3).map (fun i => (i.zero, i.size, i.bytes)) = some (some (.int .i64 0), 1, 8) := by kernel_rfl

def lenOf : Value → Nat | .slice _ n _ => n | _ => 0
theorem extract_tail (s : ByteArray) (p k : Nat) (h : p + k ≤ s.size) : (s.extract p s.size).extract k (s.extract p s.size).size = s.extract (p + k) s.size := by
  apply ByteArray.ext
  apply Array.ext'
  simp [List.extract_eq_take_drop]
  congr 1
  omega

set_option maxRecDepth 100000 in
set_option maxHeartbeats 1000000 in
theorem chars_c (s : ByteArray) (hs : s.size ≤ 4294967280) (w : World) :
    Calls Tryz.prog 51 #[.string s] w (RetC (charsS s) w) := by
  obtain ⟨R, hR⟩ : ∃ R, charsS s = R := ⟨_, rfl⟩
  rw [hR]
  have HR := Lib.hid hR
  clear hR
  go_enter Tryz.func51, Tryz.ntmps51
  go_wp2_with (refine wpL_bytes rfl 9 43 5 _ rfl s rfl Tryz.underlying9 Tryz.underlying43 Tryz.underlying5 ?_; intro v5 W1 hv hb1)
  go_loopw [4, 5] (fun out bv wr => ∃ (pos b : Nat) (xs : List Int), pos ≤ s.size ∧ BytesAt W1 bv (s.extract pos s.size) ∧ wr.ownsRow W1.heap.size 3 1 out xs.length (i64s xs) ∧ Bel W1 wr ∧ s.size ≤ pos + b ∧ xs.length ≤ pos ∧ (charsF s b pos).map (xs ++ ·) = R) (fun _ bv _ => lenOf bv)
  case atStart =>
    refine ⟨0, s.size, [], Nat.zero_le _, ?_, World.ownsRow_nil _ _ _ _, Bel.refl _, by omega, Nat.le_refl _, ?_⟩
    · rw [show s.extract 0 s.size = s from by apply ByteArray.ext; simp]; exact hv
    · rw [show charsF s s.size 0 = R from HR.out]; cases R <;> simp
  case round =>
    obtain ⟨pos, b, xs, hpos, hv5, hown, hbel, hb, hxl, hch⟩ := hrel
    have hv6 := hv5
    obtain ⟨bb, off, cap, rfl, hlt, hc, hcap⟩ := hv5
    obtain ⟨t, ht⟩ : ∃ t, s.extract pos s.size = t := ⟨_, rfl⟩
    have hm : t.size = s.size - pos := by rw [← ht]; simp
    rw [ht] at hv6 hcap ⊢
    obtain ⟨m, hmm⟩ : ∃ m, t.size = m := ⟨_, rfl⟩
    rw [hmm] at hm hv6 hcap ⊢
    have HV := Lib.hid hv6
    have HT := Lib.hid ht
    have HM := Lib.hid hm
    have HMM := Lib.hid hmm
    have HCH := Lib.hid hch
    have hml : m ≤ 4294967280 := by omega
    have hxl2 : xs.length ≤ 4294967280 := by omega
    clear ht hm hc hch hv6 hmm
    by_cases hp : 0 < m
    · have hps : pos < s.size := by have := HM.out; omega
      have hrr := refRune_tail s pos hps
      rw [HT.out] at hrr
      have hr1 := runeN_snd s pos hps
      have hr2 := runeN_fits s pos hps
      have hbad := fun h0 => charsF_bad s b pos hps hb h0
      have hst := fun h0 => charsF_step s b pos hps hb h0
      obtain ⟨⟨c, n⟩, hcn⟩ : ∃ x, runeN (Utf8.decode s pos) = x := ⟨_, rfl⟩
      rw [hcn] at hrr hr1 hr2 hbad hst
      have hrc := fun w1 (h : BytesAt w1 (.slice (some ⟨bb, off, none⟩) m cap) t) => rrune_c t _ w1 h (by rw [HMM.out]; omega)
      rw [hrr] at hrc
      have HRC := Lib.hid hrc
      have HBAD := Lib.hid hbad
      have HST := Lib.hid hst
      have hmp : (0 : Int) < m := by omega
      clear hcn hrr hrc hbad hst
      by_cases hn : n = 0
      · subst hn
        go_wp2_with (go_at_call 37; refine (HRC.out _ (BytesAt.bel HV.out hbel)).mono ?_; rintro e w' ⟨rfl, hb2⟩)
        go_ret2
        have := HCH.out
        rw [HBAD.out (by trivial)] at this
        subst this
        exact ⟨(hb1.trans hbel).trans hb2, rfl⟩
      · have hn1 : 1 ≤ n := by omega
        have hnz : (n == 0) = false := by simpa using hn
        have HN := Lib.hid hn
        obtain ⟨k, hk⟩ : ∃ k : Nat, n = k := ⟨n.toNat, by omega⟩
        subst hk
        have hkm : (k : Int) ≤ m := by have := HM.out; simp at hr2; omega
        clear hn hr1 hr2
        go_wp2_with (first
          | (go_at_call 37; refine (HRC.out _ (BytesAt.bel HV.out hbel)).mono ?_; rintro e w' ⟨rfl, hb2⟩)
          | (at_builtin; refine wpL_append1 rfl _ _ 78 rfl W1 3 (.int .i64 0) 1 8 Tryz.underlying78 info_int rfl (by decide) (by decide) u4 xs.length (i64s xs) rfl ((own_bel hown hb2).alloc _) ⟨w'.heap.size, 0, none⟩ 1 [.int .i64 c] rfl rfl (cell_one_new _ _ _) (by simp [Value.oneCell']) (by omega) ((hbel.trans hb2).to_alloc _) ?_; intro g cp w2 hown2 hb3 hb4)
          | (refine wpL_bytes_from rfl 43 _ _ rfl _ rfl k rfl t W1 HV.out (by have := HMM.out; omega) Tryz.underlying43 (by go_simp) ?_; intro v' hv'))
        have hx : t.extract k t.size = s.extract (pos + k) s.size := by
          rw [← HT.out]; exact extract_tail s pos k (by have := HM.out; omega)
        have hps2 : pos + k ≤ s.size := by have := HM.out; omega
        obtain ⟨b', hb', hst'⟩ := HST.out HN.out
        refine ⟨⟨pos + k, b', xs ++ [c], hps2, by rw [← hx]; exact hv', by simpa [i64s] using hown2, hb3, by omega, by simp; omega, ?_⟩, ?_⟩
        · have := HCH.out
          rw [hst'] at this
          rw [← this]
          simp [Function.comp_def]
        · obtain ⟨_, _, _, rfl, _⟩ := hv'
          simp only [lenOf]
          have := HM.out; have := HMM.out
          simp
          omega
    · obtain rfl : m = 0 := by omega
      go_wp2_with fail
      go_ret2
      have hps : ¬ pos < s.size := by have := HM.out; omega
      have := HCH.out
      rw [charsF_end _ _ _ hps] at this
      subst this
      exact ⟨hb1.trans hbel, _, rfl, by simpa using own_row hown⟩
end Go.Proofs.YtjnaikojoemkaaaGreatDoor
