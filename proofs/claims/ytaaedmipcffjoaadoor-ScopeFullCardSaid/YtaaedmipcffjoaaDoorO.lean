/-
  The walks of slices.IndexFunc and ContainsFunc at strings, names.Words, names.Right.
-/
import Derived.Test.YtaaedmipcffjoaaDoorN
import Derived.Test.YtaaedmipcffjoaaDoorG
import Derived.Test.YtaaedmipcffjoaaDoorShelf
namespace Go.Proofs.YtaaedmipcffjoaaDoor
open Go.RowKit

def strsV (ss : List ByteArray) : List Value := ss.map Value.string
theorem strsV_length (ss : List ByteArray) : (strsV ss).length = ss.length := by simp [strsV]

/-- The place of the first one; -1: there is none. -/
def idxF (p : ByteArray → Bool) : Nat → List ByteArray → Int
  | _, [] => -1
  | k, x :: l => if p x = true then k else idxF p (k + 1) l
theorem idxF_any (p : ByteArray → Bool) : ∀ (l : List ByteArray) (k : Nat), decide (0 ≤ idxF p k l) = l.any p
  | [], _ => rfl
  | x :: l, k => by
    unfold idxF
    by_cases h : p x = true
    · rw [if_pos h]; simp [h]
    · rw [if_neg h, idxF_any p l (k + 1)]; simp [h]

/-- A function value that answers a bool of a text, whatever it lays. -/
structure AsksS (h : Nat) (r : ByteArray → Bool) (ok : ByteArray → Prop) : Prop where
  enters : ∀ args w, (callFunc h args).run Tryd.prog w = .ok (.enter h args) w
  calls : ∀ s w, ok s → Env w → Calls Tryd.prog h #[.string s] w fun e w' => e = .returned (.bool (r s)) ∧ Bel w w'

set_option maxHeartbeats 1000000 in
theorem indexFunc_c (v : Value) (ss : List ByteArray) (h : Nat) (r : ByteArray → Bool) (ok : ByteArray → Prop) (ha : AsksS h r ok) (w : World) (hE : Env w) (hok : ∀ s ∈ ss, ok s) (hv : RowAt w v (strsV ss)) (hl : ss.length ≤ 4294967290) :
    Calls Tryd.prog 100 #[v, .func (.func h) #[] #[]] w fun e w' => e = .returned (.int .i64 (idxF r 0 ss)) ∧ Bel w w' := by
  obtain ⟨b, off, cap, rfl, hcap, hlt, hc⟩ := hv
  obtain ⟨R, hR⟩ : ∃ R, idxF r 0 ss = R := ⟨_, rfl⟩
  obtain ⟨n, hn⟩ : ∃ n, (strsV ss).length = n := ⟨_, rfl⟩
  have hn2 : n ≤ 4294967290 := by rw [← hn, strsV_length]; exact hl
  rw [hn] at hcap ⊢
  rw [hR]
  have HR := Lib.hid hR
  have HN := Lib.hid hn
  have HC := Lib.hid hc
  have HOK := Lib.hid hok
  have HLT := Lib.hid hlt
  have hen := ha.enters
  clear hR hn hc hok hl
  go_enter Tryd.func100, Tryd.ntmps100
  go_wp2_with fail
  go_loopw [8] (fun i wr => ∃ k : Nat, k ≤ n ∧ i = .int .i64 k ∧ Bel w wr ∧ idxF r k (ss.drop k) = R) (fun i _ => n - (intOf i).toNat)
  case atStart => exact ⟨0, Nat.zero_le _, rfl, Bel.refl _, HR.out⟩
  case round =>
    obtain ⟨k, hk, rfl, hbel, hix⟩ := hrel
    by_cases hkn : k < n
    · have hks : k < ss.length := by have := HN.out; rw [strsV_length] at this; omega
      have hcell := HC.out k (by rw [HN.out]; exact hkn)
      have hd := List.drop_eq_getElem_cons hks
      rw [hd] at hix
      have hmem : ss[k] ∈ ss := List.getElem_mem hks
      have hoks := HOK.out _ hmem
      obtain ⟨x, hx⟩ : ∃ x, ss[k] = x := ⟨_, rfl⟩
      have hcell2 : wr.cell? ⟨b, off + k, none⟩ = some (.string x) := by
        rw [hbel.cell HLT.out, hcell, ← hx]; simp [strsV]
      rw [hx] at hix hoks
      have HIX := Lib.hid hix
      have hE2 := hE.bel hbel
      have hcall := ha.calls x wr hoks hE2
      obtain ⟨F, hF⟩ : ∃ F, r x = F := ⟨_, rfl⟩
      rw [hF] at hcall
      have HCALL := Lib.hid hcall
      have HF := Lib.hid hF
      clear hcell hd hix hmem hx hcall hF
      cases F
      · go_wp2_with ((with_reducible refine HCALL.out.mono ?_); rintro e w1 ⟨rfl, hb1⟩)
        refine ⟨⟨k + 1, by omega, by go_num, hbel.trans (by assumption), ?_⟩, by simp [intOf]; omega⟩
        have := HIX.out
        rw [idxF, if_neg (by rw [HF.out]; simp)] at this
        exact this
      · go_wp2_with ((with_reducible refine HCALL.out.mono ?_); rintro e w1 ⟨rfl, hb1⟩)
        go_ret
        have := HIX.out
        rw [idxF, if_pos HF.out] at this
        exact ⟨ret_int this, hbel.trans (by assumption)⟩
    · obtain rfl : k = n := by omega
      go_wp2_with fail
      go_ret
      rw [List.drop_of_length_le (by have := HN.out; rw [strsV_length] at this; omega)] at hix
      exact ⟨ret_int hix, hbel⟩

set_option maxHeartbeats 400000 in
theorem containsFunc_c (v : Value) (ss : List ByteArray) (h : Nat) (r : ByteArray → Bool) (ok : ByteArray → Prop) (ha : AsksS h r ok) (w : World) (hE : Env w) (hok : ∀ s ∈ ss, ok s) (hv : RowAt w v (strsV ss)) (hl : ss.length ≤ 4294967290) :
    Calls Tryd.prog 80 #[v, .func (.func h) #[] #[]] w fun e w' => e = .returned (.bool (ss.any r)) ∧ Bel w w' := by
  have hi := indexFunc_c v ss h r ok ha w hE hok hv hl
  have hany := idxF_any r ss 0
  obtain ⟨R, hR⟩ : ∃ R, idxF r 0 ss = R := ⟨_, rfl⟩
  rw [hR] at hi hany
  rw [← hany]
  have HI := Lib.hid hi
  clear hi hany hR
  go_enter Tryd.func80, Tryd.ntmps80
  go_wp2_with (go_at_call 100; refine HI.out.mono ?_; rintro e w1 ⟨rfl, hb⟩)
  go_ret
  exact ⟨rfl, by assumption⟩

/-- A name's words: its parts between blanks, each a word; none: it is no name. -/
def partsS (s : ByteArray) : List ByteArray := Lib.splitB ⟨#[32]⟩ 0 (Lib.countB s ⟨#[32]⟩) s
def wordsS (s : ByteArray) : Option (List ByteArray) := if (partsS s).all wordS then some (partsS s) else none
theorem parts_length (s : ByteArray) : (partsS s).length = Lib.countB s ⟨#[32]⟩ + 1 := Lib.splitB_all _ (by decide) _ _ _ rfl
theorem splitB_size (sep : ByteArray) : ∀ (k : Nat) (s x : ByteArray), x ∈ Lib.splitB sep 0 k s → x.size ≤ s.size
  | 0, s, x, h => by rw [Lib.splitB_zero] at h; simp at h; subst h; exact Nat.le_refl _
  | k + 1, s, x, h => by
    rcases Lib.indexB_cases s sep with hix | ⟨i, hix, _⟩
    · rw [Lib.splitB_miss _ _ _ _ hix] at h; simp at h; subst h; exact Nat.le_refl _
    · rw [Lib.splitB_hit _ _ _ _ i hix] at h
      rcases List.mem_cons.1 h with rfl | h
      · simp; omega
      · have := splitB_size sep k _ x h
        simp at this; omega
theorem parts_size (s x : ByteArray) (h : x ∈ partsS s) : x.size ≤ s.size := splitB_size _ _ s x h
theorem count_le (s : ByteArray) : Lib.countB s ⟨#[32]⟩ ≤ s.size := Lib.countB_le _ (by decide) _ _ (Nat.le_refl _)

/-- What Words answers. -/
def RetW (r : Option (List ByteArray)) (w : World) (e : Ending) (w' : World) : Prop :=
  Bel w w' ∧ match r with
  | none => e = .returned (.tuple #[.slice none 0 0, .bool false])
  | some l => ∃ v, e = .returned (.tuple #[v, .bool true]) ∧ RowAt w' v (strsV l)

theorem asks_notword : AsksS 81 (fun s => !wordS s) (fun s => s.size ≤ 4294967280) := ⟨enters_of Tryd.func81 (by kernel_rfl) rfl, fun s w h hE => notword_c s h w hE⟩

set_option maxHeartbeats 1000000 in
theorem words_c (s : ByteArray) (hs : s.size ≤ 4294967280) (w : World) (hE : Env w) :
    Calls Tryd.prog 55 #[.string s] w (RetW (wordsS s) w) := by
  have hlen := parts_length s
  have hcl := count_le s
  obtain ⟨m, hm⟩ := hE.2
  have hsp := Tryd.strings_Split s ⟨#[32]⟩ m w (by omega) hm (by decide)
  rw [show Lib.splitB ⟨#[32]⟩ 0 (Lib.countB s ⟨#[32]⟩) s = partsS s from rfl, ← hlen] at hsp
  have hrow := row_new w (strsV (partsS s)) 9
  rw [strsV_length] at hrow
  have hsz : ∀ x ∈ partsS s, x.size ≤ 4294967280 := fun x hx => Nat.le_trans (parts_size s x hx) hs
  unfold wordsS
  obtain ⟨ps, hps⟩ : ∃ ps, partsS s = ps := ⟨_, rfl⟩
  rw [hps] at hsp hrow hsz hlen ⊢
  obtain ⟨W1, hW1⟩ : ∃ W1, w.alloc (.cells (strsV ps).toArray 9) = W1 := ⟨_, rfl⟩
  have hb1 : Bel w W1 := by rw [← hW1]; exact Bel.alloc _ _
  rw [hW1] at hrow
  have hcf := containsFunc_c _ ps _ _ _ asks_notword W1 (hE.bel hb1) hsz hrow (by omega)
  have hsp2 : Calls Tryd.prog 79 #[.string s, .string ⟨#[32]⟩] w fun e w' => e = .returned (.slice (some ⟨w.heap.size, 0, none⟩) ps.length ps.length) ∧ W1 = w' :=
    hsp.mono fun e w' ⟨he, hw⟩ => ⟨he, by rw [hw, ← hW1]; rfl⟩
  have hany : ps.any (fun x => !wordS x) = !ps.all wordS := by rw [List.all_eq_not_any_not]; simp
  rw [hany] at hcf
  have HSP := Lib.hid hsp2
  have HCF := Lib.hid hcf
  have HROW := Lib.hid hrow
  clear hsp hsp2 hcf hrow hany hm hW1 hlen hcl hps hsz
  obtain ⟨A, hA⟩ : ∃ A, ps.all wordS = A := ⟨_, rfl⟩
  rw [hA] at HCF ⊢
  clear hA
  cases A
  · show Calls _ _ _ _ (RetW none w)
    go_enter Tryd.func55, Tryd.ntmps55
    go_wp2_with (first
      | (go_at_call 79; refine HSP.out.mono ?_; rintro e w1 ⟨rfl, rfl⟩)
      | (go_at_call 80; refine HCF.out.mono ?_; rintro e w2 ⟨rfl, hb2⟩))
    go_ret2
    exact ⟨hb1.trans (by assumption), rfl⟩
  · show Calls _ _ _ _ (RetW (some ps) w)
    go_enter Tryd.func55, Tryd.ntmps55
    go_wp2_with (first
      | (go_at_call 79; refine HSP.out.mono ?_; rintro e w1 ⟨rfl, rfl⟩)
      | (go_at_call 80; refine HCF.out.mono ?_; rintro e w2 ⟨rfl, hb2⟩))
    go_ret2
    exact ⟨hb1.trans (by assumption), _, rfl, HROW.out.bel (by assumption)⟩
end Go.Proofs.YtaaedmipcffjoaaDoor
