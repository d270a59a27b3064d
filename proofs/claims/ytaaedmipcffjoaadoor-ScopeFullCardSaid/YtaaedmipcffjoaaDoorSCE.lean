/-
  The walks of the layer scope: New, Longest.
-/
import Derived.Test.YtaaedmipcffjoaaDoorSCD
namespace Go.Proofs.YtaaedmipcffjoaaDoor
open Go.RowKit

set_option maxHeartbeats 400000 in
theorem new_c (sl : Value) (l : List ByteArray) (w : World) (hE : Env w) (hv : RowAt0 w sl (strsV l)) (hl : l.length ≤ 4294960000) (hx : ∀ x ∈ l, x.size ≤ 4294967280) :
    Calls Tryd.prog 16 #[sl] w (RetWith (withS [] l) w) := by
  have h := with_c (.pointer none) [] sl l w hE (ScopeIs.none w) hv hl hx
  obtain ⟨⟨r1, r2⟩, hR⟩ : ∃ R, withS [] l = R := ⟨_, rfl⟩
  rw [hR] at h ⊢
  have H := Lib.hid h
  clear h hR hv hx
  cases r1
  · go_enter Tryd.func16, Tryd.ntmps16
    go_wp2_with fail
    refine H.out.mono ?_
    rintro e w1 ⟨hb, rfl⟩
    go_wp2_with fail
    go_ret2
    exact ⟨hb, rfl⟩
  · go_enter Tryd.func16, Tryd.ntmps16
    go_wp2_with fail
    refine H.out.mono ?_
    rintro e w1 ⟨hb, p, rfl, hs⟩
    have HS := Lib.hid hs
    clear hs
    go_wp2_with fail
    go_ret2
    exact ⟨hb, p, rfl, HS.out⟩

def RetLong (r : ByteArray × Nat) (w : World) (e : Ending) (w' : World) : Prop := e = .returned (.tuple #[.string r.1, .int .i64 r.2]) ∧ Bel w w'

theorem join_c (b off cap : Nat) (l : List ByteArray) (n : Nat) (hn : n ≤ l.length) (w : World) (hb : b < w.heap.size) (hcap : n ≤ cap) (hc : ∀ j, j < l.length → w.cell? ⟨b, off + j, none⟩ = (strsV l)[j]?) (hl : l.length ≤ 4294960000) (hs : sumS l ≤ 4294960000) :
    Calls Tryd.prog 33 #[.slice (some ⟨b, off, none⟩) n cap, .string ⟨#[32]⟩] w fun e w' => e = .returned (.string (joinS (l.take n))) ∧ Bel w w' := by
  have hlen : (l.take n).length = n := by rw [List.length_take]; omega
  have hsz := joinS_size (l.take n)
  have h2 := sumS_take l n
  have h := Tryd.strings_Join b off cap (l.take n) ⟨#[32]⟩ w (fun j x hx => by
    obtain ⟨h1, h2⟩ := List.getElem?_eq_some_iff.1 hx
    rw [hlen] at h1
    rw [hc j (by omega), ← h2]
    simp [strsV, List.getElem?_eq_getElem (show j < l.length by omega)]) hb (by omega) (by omega) (by
      show ((joinS (l.take n)).data.size ≤ _)
      have : (joinS (l.take n)).data.size = (joinS (l.take n)).size := rfl
      omega)
  rw [hlen] at h
  exact h

set_option maxRecDepth 100000 in
set_option maxHeartbeats 1000000 in
theorem longest_c (v : Value) (N : List ByteArray) (sl : Value) (words : List ByteArray) (w : World) (h : ScopeIs w v N) (hv : RowAt0 w sl (strsV words)) (hl : words.length ≤ 4294960000) (hsum : sumS words ≤ 4294960000) :
    Calls Tryd.prog 17 #[v, sl] w (RetLong (longS N words words.length) w) := by
  obtain ⟨ao, cap, rfl, hcs⟩ := row0_form hv words.length (strsV_length words)
  obtain ⟨R, hR⟩ : ∃ R, longS N words words.length = R := ⟨_, rfl⟩
  have hjo := fun b off cap n (hn : n ≤ words.length) w1 hb hcap hc => join_c b off cap words n hn w1 hb hcap hc hl hsum
  rw [hR]
  obtain ⟨n, hn⟩ : ∃ n, words.length = n := ⟨_, rfl⟩
  rw [hn] at hcs hl hR hjo ⊢
  have HR := Lib.hid hR
  have HS := Lib.hid h
  have HJ := Lib.hid hjo
  have HCS := Lib.hid hcs
  have HN := Lib.hid hn
  clear hR h hjo hcs hn hv hsum
  go_enter Tryd.func17, Tryd.ntmps17
  go_wp2_with fail
  go_loopw [6] (fun i wr => ∃ k : Nat, k ≤ n ∧ i = .int .i64 k ∧ Bel w wr ∧ longS N words k = R) (fun i _ => (intOf i).toNat)
  case atStart => exact ⟨n, Nat.le_refl _, rfl, Bel.refl _, HR.out⟩
  case round =>
    obtain ⟨k, hk, rfl, hbel, hlo⟩ := hrel
    cases k with
    | zero =>
      obtain rfl : (⟨#[]⟩, 0) = R := hlo
      go_wp2_with fail
      go_ret2
      exact ⟨rfl, hbel⟩
    | succ j =>
      obtain ⟨b, off, rfl, hlt, hcap, hce⟩ := HCS.out (by omega)
      have hj := HJ.out b off cap (j + 1) hk wr (Nat.lt_of_lt_of_le hlt hbel.size) (by omega) (fun i hi => by rw [hbel.cell hlt]; exact hce i hi)
      rw [longS_succ] at hlo
      obtain ⟨x, hx⟩ : ∃ x, joinS (words.take (j + 1)) = x := ⟨_, rfl⟩
      rw [hx] at hj hlo
      have hhas := fun w1 (hb1 : Bel wr w1) => has_c v N x w1 ((HS.out.bel hbel).bel hb1)
      obtain ⟨F, hF⟩ : ∃ F, decide (x ∈ N) = F := ⟨_, rfl⟩
      simp only [hF] at hhas
      have HH := Lib.hid hhas
      have HJJ := Lib.hid hj
      have HLO := Lib.hid hlo
      have HF := Lib.hid hF
      have hjc : ((j + 1 : Nat) : Int) ≤ cap := by omega
      have hjp : (0 : Int) < ((j + 1 : Nat) : Int) := by omega
      clear hhas hj hlo hF hx hce
      cases F
      · go_wp2_with (first
          | (go_at_call 33; refine HJJ.out.mono ?_; rintro e w1 ⟨rfl, hb1⟩)
          | (go_at_call 19; refine (HH.out _ (by assumption)).mono ?_; rintro e w2 ⟨rfl, hb2⟩))
        refine ⟨⟨j, by omega, by go_num, (hbel.trans (by assumption)).trans (by assumption), ?_⟩, by simp [intOf]⟩
        have := HLO.out
        rw [if_neg (of_decide_eq_false HF.out)] at this
        exact this
      · go_wp2_with (first
          | (go_at_call 33; refine HJJ.out.mono ?_; rintro e w1 ⟨rfl, hb1⟩)
          | (go_at_call 19; refine (HH.out _ (by assumption)).mono ?_; rintro e w2 ⟨rfl, hb2⟩))
        go_ret2
        have := HLO.out
        rw [if_pos (of_decide_eq_true HF.out)] at this
        subst this
        exact ⟨rfl, (hbel.trans (by assumption)).trans (by assumption)⟩
end Go.Proofs.YtaaedmipcffjoaaDoor
