/-
  feellex: the walk of text.
-/
import Derived.Test.YtjnaikojoemkaaaDoorFH
import Derived.Test.YtjnaikojoemkaaaDoorFI
namespace Go.Proofs.YtjnaikojoemkaaaDoor
open Go.RowKit

/-- A text in quotes, from a place on: what it tells, how many bytes it has (or where it is wrong), what is wrong. -/
def textF (s : ByteArray) : Nat → Nat → List UInt8 → ByteArray × Nat × Nat
  | 0, _, _ => (⟨#[]⟩, s.size, 10)
  | b + 1, pos, acc => if pos < s.size then
      if s.get! pos = 34 then (⟨acc.toArray⟩, pos + 1, 0)
      else if s.get! pos = 92 then
        if (escS (s.extract pos s.size)).2 = 0 then (⟨#[]⟩, pos, 11) else textF s b (pos + (escS (s.extract pos s.size)).2) (acc ++ (escS (s.extract pos s.size)).1.data.toList)
      else textF s b (pos + 1) (acc ++ [s.get! pos])
    else (⟨#[]⟩, s.size, 10)
def textS (s : ByteArray) : ByteArray × Nat × Nat := textF s s.size 1 []
theorem textF_end (s : ByteArray) (b pos : Nat) (acc : List UInt8) (h : ¬ pos < s.size) : textF s b pos acc = (⟨#[]⟩, s.size, 10) := by
  cases b with
  | zero => rfl
  | succ b => rw [textF, if_neg h]
theorem textF_step (s : ByteArray) (b pos : Nat) (acc : List UInt8) (h : pos < s.size) (hb : s.size ≤ pos + b) : ∃ b', b = b' + 1 ∧ textF s b pos acc =
    if s.get! pos = 34 then (⟨acc.toArray⟩, pos + 1, 0)
      else if s.get! pos = 92 then
        if (escS (s.extract pos s.size)).2 = 0 then (⟨#[]⟩, pos, 11) else textF s b' (pos + (escS (s.extract pos s.size)).2) (acc ++ (escS (s.extract pos s.size)).1.data.toList)
      else textF s b' (pos + 1) (acc ++ [s.get! pos]) := by
  cases b with
  | zero => omega
  | succ b => exact ⟨b, rfl, by rw [textF, if_pos h]⟩
theorem escS_size (t : ByteArray) : (escS t).2 ≤ t.size ∧ (escS t).1.size ≤ 4 := by
  unfold escS
  split
  · exact ⟨Nat.zero_le _, Nat.zero_le _⟩
  · split
    · exact ⟨by show 2 ≤ t.size; omega, by show 1 ≤ 4; omega⟩
    · split
      · rename_i h
        split
        · refine ⟨h.2.1, ?_⟩
          show (List.toArray _).size ≤ 4
          have := (putI_length (hexN (t.extract 2 6).data.toList)).2
          simpa using this
        · exact ⟨Nat.zero_le _, Nat.zero_le _⟩
      · exact ⟨Nat.zero_le _, Nat.zero_le _⟩

abbrev IsB (B b : Nat) (l : List UInt8) (w : World) : Prop := Lib.IsBuilder 45 5 B b (Lib.byteCells l) w
theorem isB_new (w : World) : IsB w.heap.size w.heap.size [] (w.alloc (.cells #[.pointer none, .slice none 0 0] 45)) :=
  .inl ⟨Nat.le_refl _, .slice none 0 0, World.alloc_heap_new _ _, World.ownsRow_nil _ _ _ _, by simp [Value.ownBlock]⟩
theorem isB_bel {B b : Nat} {l : List UInt8} {w w' : World} (h : IsB B b l w) (hb : Bel w w') : IsB B b l w' := by
  rcases h with ⟨h1, v, h2, h3, h4⟩ | ⟨h1, v, h2, h3, h4⟩
  · exact .inl ⟨h1, v, (hb.block (Array.getElem?_eq_some_iff.1 h2).1).trans h2, own_bel h3 hb, h4⟩
  · exact .inr ⟨h1, v, (hb.block (Array.getElem?_eq_some_iff.1 h2).1).trans h2, own_bel h3 hb, h4⟩
theorem wbyte_c (B b : Nat) (l : List UInt8) (c : UInt8) (w : World) (h : IsB B b l w) (hlen : l.length ≤ 137438953472) (hB : B ≤ w.heap.size) :
    Calls Tryd.prog 15 #[.pointer (some ⟨b, 0, none⟩), .int .u8 c.toNat] w fun e w' => e = .returned .nilIface ∧ IsB B b (l ++ [c]) w' ∧ Below B w w' := by
  refine (Any.Builder_WriteByte laysB167 extraB167 B b (Lib.byteCells l) c.toNat w h (by rw [Lib.byteCells_length]; omega) hB).mono ?_
  rintro e w' ⟨rfl, h1, h2⟩
  have e : Lib.byteCells (l ++ [c]) = Lib.byteCells l ++ [Value.int .u8 c.toNat] := by simp [Lib.byteCells]
  refine ⟨rfl, ?_, h2⟩
  unfold IsB
  rw [e]
  exact .inr h1
theorem wstr_c (B b : Nat) (l : List UInt8) (x : ByteArray) (w : World) (h : IsB B b l w) (hlen : l.length ≤ 137438953472) (hx : x.size ≤ 137438953472) (hB : B ≤ w.heap.size) :
    Calls Tryd.prog 16 #[.pointer (some ⟨b, 0, none⟩), .string x] w fun e w' => e = .returned (.tuple #[.int .i64 x.size, .nilIface]) ∧ IsB B b (l ++ x.data.toList) w' ∧ Below B w w' := by
  refine (Any.Builder_WriteString laysB166 extraB166 B b (Lib.byteCells l) x w h (by rw [Lib.byteCells_length]; omega) hB).mono ?_
  rintro e w' ⟨rfl, h1, h2⟩
  refine ⟨rfl, .inr ?_, h2⟩
  have e : Lib.byteCells (l ++ x.data.toList) = Lib.byteCells l ++ Lib.strCells x := by simp [Lib.byteCells, Lib.strCells]
  rw [e]
  exact h1

set_option maxRecDepth 100000 in
set_option maxHeartbeats 4000000 in
theorem text_c (s : ByteArray) (hs : s.size ≤ 4294967280) (h1 : 1 ≤ s.size) (w : World) :
    Calls Tryd.prog 26 #[.string s] w fun e w' => e = .returned (.tuple #[.string (textS s).1, .int .i64 (textS s).2.1, .int .i64 (textS s).2.2]) ∧ Bel w w' := by
  obtain ⟨⟨R1, R2, R3⟩, hR⟩ : ∃ R, textS s = R := ⟨_, rfl⟩
  rw [hR]
  have HR := Lib.hid hR
  clear hR
  go_enter Tryd.func26, Tryd.ntmps26
  go_wp2_with fail
  go_loopw [6] (fun i wr => ∃ (pos b : Nat) (acc : List UInt8), pos ≤ s.size ∧ i = .int .i64 pos ∧ IsB w.heap.size w.heap.size acc wr ∧ Bel w wr ∧ acc.length ≤ 4 * pos ∧ s.size ≤ pos + b ∧ textF s b pos acc = (R1, R2, R3)) (fun i _ => s.size - (intOf i).toNat)
  case atStart => exact ⟨1, s.size, [], h1, rfl, isB_new w, Bel.alloc _ _, by simp, by omega, HR.out⟩
  case round =>
    obtain ⟨pos, b, acc, hpl, rfl, hib, hbel, hal, hb, hsc⟩ := hrel
    by_cases hp : pos < s.size
    · have hpi : (pos : Int) < s.size := by omega
      obtain ⟨b', rfl, hst⟩ := textF_step s b pos acc hp hb
      rw [hsc] at hst
      obtain ⟨c, hc⟩ : ∃ c, s.get! pos = c := ⟨_, rfl⟩
      have hx2 : s[pos]'hp = c := by rw [← hc]; exact (get_at s pos hp).symm
      rw [hc] at hst
      have hHS := hbel.size
      by_cases h34 : c = 34
      · have e34 : ((c.toNat : Int) == 34) = true := by rw [h34]; rfl
        rw [if_pos h34] at hst
        have hstr := Tryd.Builder_String_any w.heap.size w.heap.size acc wr hib hHS
        have HS := Lib.hid hstr
        have HST := Lib.hid hst
        clear hstr hst hc hsc h34 hib
        go_wp2_with fail
        refine HS.out.mono ?_
        rintro e w1 ⟨rfl, h3⟩
        go_wp2_with fail
        go_ret3
        have := HST.out
        injection this with e1 e2
        injection e2 with e2 e3
        subst e1 e2 e3
        exact ⟨rfl, Below.trans hbel h3⟩
      · have e34 : ((c.toNat : Int) == 34) = false := by
          simp only [beq_eq_false_iff_ne, ne_eq]
          intro h
          exact h34 (UInt8.toNat_inj.1 (by rw [show (34 : UInt8).toNat = 34 from rfl]; omega))
        rw [if_neg h34] at hst
        by_cases h92 : c = 92
        · have e92 : ((c.toNat : Int) == 92) = true := by rw [h92]; rfl
          rw [if_pos h92] at hst
          have hxs : (s.extract pos s.size).size = s.size - pos := by simp
          have hes := fun w1 => escape_c (s.extract pos s.size) (by omega) w1
          have hsz := escS_size (s.extract pos s.size)
          obtain ⟨x, hx⟩ : ∃ x, s.extract pos s.size = x := ⟨_, rfl⟩
          rw [hx] at hst hes hsz hxs
          obtain ⟨⟨E1, E2⟩, hE⟩ : ∃ E, escS x = E := ⟨_, rfl⟩
          rw [hE] at hst hes hsz
          have HES := Lib.hid hes
          have HST := Lib.hid hst
          obtain ⟨hsz1, hsz2⟩ := hsz
          have HIB := Lib.hid hib
          clear hes hst hE hc hsc h34 h92 hib
          by_cases h0 : E2 = 0
          · subst h0
            go_wp2_with fail
            refine (HES.out _).mono ?_
            rintro e w1 ⟨rfl, h3⟩
            go_wp2_with fail
            go_ret3
            have := HST.out
            rw [if_pos (by trivial)] at this
            injection this with e1 e2
            injection e2 with e2 e3
            subst e1 e2 e3
            exact ⟨rfl, hbel.trans h3⟩
          · have h0i : ((E2 : Int) == 0) = false := by simp [h0]
            go_wp2_with fail
            refine (HES.out _).mono ?_
            rintro e w1 ⟨rfl, h3⟩
            have hws := fun w2 (hb : Bel w1 w2) => wstr_c w.heap.size w.heap.size acc E1 w2 (isB_bel HIB.out (h3.trans hb)) (by omega) (by omega) (Nat.le_trans hHS (h3.trans hb).size)
            have HWS := Lib.hid hws
            clear hws
            go_wp2_with fail
            refine (HWS.out _ (Bel.refl _)).mono ?_
            rintro e w2 ⟨rfl, h4, h5⟩
            go_wp2_with fail
            have hst2 := HST.out
            rw [if_neg h0] at hst2
            refine ⟨⟨pos + E2, b', acc ++ E1.data.toList, by omega, by go_num, h4, Below.trans (hbel.trans h3) h5, ?_, by omega, hst2.symm⟩, by simp [intOf]; omega⟩
            rw [List.length_append]
            have : E1.data.toList.length = E1.size := rfl
            omega
        · have e92 : ((c.toNat : Int) == 92) = false := by
            simp only [beq_eq_false_iff_ne, ne_eq]
            intro h
            exact h92 (UInt8.toNat_inj.1 (by rw [show (92 : UInt8).toNat = 92 from rfl]; omega))
          rw [if_neg h92] at hst
          have hwb := wbyte_c w.heap.size w.heap.size acc c wr hib (by omega) hHS
          have HWB := Lib.hid hwb
          have HST := Lib.hid hst
          clear hwb hst hc hsc h34 h92 hib
          go_wp2_with fail
          refine HWB.out.mono ?_
          rintro e w2 ⟨rfl, h4, h5⟩
          go_wp2_with fail
          exact ⟨⟨pos + 1, b', acc ++ [c], by omega, by go_num, h4, Below.trans hbel h5, by simp; omega, by omega, HST.out.symm⟩, by simp [intOf]; omega⟩
    · have hend := textF_end s b pos acc hp
      rw [hsc] at hend
      injection hend with e1 e2
      injection e2 with e2 e3
      subst e1 e2 e3
      clear hsc
      go_wp2_with fail
      go_ret3
      exact ⟨rfl, hbel⟩
end Go.Proofs.YtjnaikojoemkaaaDoor
