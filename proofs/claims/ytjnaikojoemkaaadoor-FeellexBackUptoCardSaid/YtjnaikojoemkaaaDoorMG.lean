/-
  The contracts of strings.Builder, laid by hand (the kit's lay-shelf stops at a name in this dump).
  feellex: the walk of text.
  feellex: the walk of one.
  The walks of utf.Space and utf.Check.
  feellex: the plain law of Lex.
  feellex: the walk of Lex.
  strings.Builder while an iterator is at work: what is written, and that all other blocks stay.
-/
import Derived.Test.YtjnaikojoemkaaaDoorShelf
import Derived.Shelf.Strings.Builder1
import Derived.Shelf.Strings.BuilderK
import Derived.Test.YtjnaikojoemkaaaDoorMB
import Derived.Test.YtjnaikojoemkaaaDoorMF
import Derived.Test.YtjnaikojoemkaaaDoorMK
import Derived.Shelf.Strings.BuilderRune
namespace Go.Proofs.YtjnaikojoemkaaaDoor
open Go.RowKit

def laysB166_ren : Go.Shelf.Ren := ⟨fun | 166 => 16 | 240 => 27 | 276 => 39 | n => n, fun | 0 => 0 | 3 => 3 | 4 => 4 | 9 => 9 | 20 => 20 | 37 => 39 | 70 => 43 | 72 => 45 | 75 => 47 | 164 => 69 | 5 => 5 | 80 => 52 | n => n, fun | n => n⟩
theorem laysB166 : Go.Proofs.Lays.n166 Tryd.prog laysB166_ren := {
  mixed := by kernel_rfl
  f166 := Tryd.func16.trans (congrArg some (by kernel_rfl))
  f240 := Tryd.func27.trans (congrArg some (by kernel_rfl))
  f276 := Tryd.func39.trans (congrArg some (by kernel_rfl))
  t0 := Tryd.underlying0
  a0 := Tryd.isAgg0
  z0 := Tryd.sizeOf0
  v0 := Tryd.zeroValue0
  t3 := Tryd.underlying3
  a3 := Tryd.isAgg3
  z3 := Tryd.sizeOf3
  v3 := Tryd.zeroValue3
  t4 := Tryd.underlying4
  a4 := Tryd.isAgg4
  z4 := Tryd.sizeOf4
  v4 := Tryd.zeroValue4
  t9 := Tryd.underlying9
  a9 := Tryd.isAgg9
  z9 := Tryd.sizeOf9
  v9 := Tryd.zeroValue9
  t20 := Tryd.underlying20
  a20 := Tryd.isAgg20
  z20 := Tryd.sizeOf20
  v20 := Tryd.zeroValue20
  t37 := Tryd.underlying39
  a37 := Tryd.isAgg39
  z37 := Tryd.sizeOf39
  v37 := Tryd.zeroValue39
  t70 := Tryd.underlying43
  a70 := Tryd.isAgg43
  z70 := Tryd.sizeOf43
  v70 := Tryd.zeroValue43
  t72 := Tryd.underlying45
  a72 := Tryd.isAgg45
  z72 := Tryd.sizeOf45
  v72 := Tryd.zeroValue45
  t75 := Tryd.underlying47
  a75 := Tryd.isAgg47
  z75 := Tryd.sizeOf47
  v75 := Tryd.zeroValue47
  t164 := Tryd.underlying69
  a164 := Tryd.isAgg69
  z164 := Tryd.sizeOf69
  v164 := Tryd.zeroValue69 }
theorem extraB166 : Builder.Extra Tryd.prog laysB166_ren := {
  sizeBuilder := by kernel_rfl
  liesBuilder := by kernel_rfl
  t5 := Tryd.underlying5
  a5 := Tryd.isAgg5
  z5 := Tryd.sizeOf5
  v5 := Tryd.zeroValue5
  infoByte := by kernel_rfl
  cellsByte := by kernel_rfl
  sizeByte := by kernel_rfl
  neB5 := by decide }

def laysB167_ren : Go.Shelf.Ren := ⟨fun | 167 => 15 | 240 => 27 | 276 => 39 | n => n, fun | 0 => 0 | 4 => 4 | 5 => 5 | 9 => 9 | 20 => 20 | 37 => 39 | 70 => 43 | 72 => 45 | 75 => 47 | 164 => 69 | 80 => 52 | n => n, fun | n => n⟩
theorem laysB167 : Go.Proofs.Lays.n167 Tryd.prog laysB167_ren := {
  mixed := by kernel_rfl
  f167 := Tryd.func15.trans (congrArg some (by kernel_rfl))
  f240 := Tryd.func27.trans (congrArg some (by kernel_rfl))
  f276 := Tryd.func39.trans (congrArg some (by kernel_rfl))
  t0 := Tryd.underlying0
  a0 := Tryd.isAgg0
  z0 := Tryd.sizeOf0
  v0 := Tryd.zeroValue0
  t4 := Tryd.underlying4
  a4 := Tryd.isAgg4
  z4 := Tryd.sizeOf4
  v4 := Tryd.zeroValue4
  t5 := Tryd.underlying5
  a5 := Tryd.isAgg5
  z5 := Tryd.sizeOf5
  v5 := Tryd.zeroValue5
  t9 := Tryd.underlying9
  a9 := Tryd.isAgg9
  z9 := Tryd.sizeOf9
  v9 := Tryd.zeroValue9
  t20 := Tryd.underlying20
  a20 := Tryd.isAgg20
  z20 := Tryd.sizeOf20
  v20 := Tryd.zeroValue20
  t37 := Tryd.underlying39
  a37 := Tryd.isAgg39
  z37 := Tryd.sizeOf39
  v37 := Tryd.zeroValue39
  t70 := Tryd.underlying43
  a70 := Tryd.isAgg43
  z70 := Tryd.sizeOf43
  v70 := Tryd.zeroValue43
  t72 := Tryd.underlying45
  a72 := Tryd.isAgg45
  z72 := Tryd.sizeOf45
  v72 := Tryd.zeroValue45
  t75 := Tryd.underlying47
  a75 := Tryd.isAgg47
  z75 := Tryd.sizeOf47
  v75 := Tryd.zeroValue47
  t164 := Tryd.underlying69
  a164 := Tryd.isAgg69
  z164 := Tryd.sizeOf69
  v164 := Tryd.zeroValue69 }
theorem extraB167 : Builder.Extra Tryd.prog laysB167_ren := {
  sizeBuilder := by kernel_rfl
  liesBuilder := by kernel_rfl
  t5 := Tryd.underlying5
  a5 := Tryd.isAgg5
  z5 := Tryd.sizeOf5
  v5 := Tryd.zeroValue5
  infoByte := by kernel_rfl
  cellsByte := by kernel_rfl
  sizeByte := by kernel_rfl
  neB5 := by decide }

def laysB168_ren : Go.Shelf.Ren := ⟨fun | 168 => 17 | 240 => 27 | 242 => 28 | 276 => 39 | 278 => 40 | n => n, fun | 0 => 0 | 3 => 3 | 4 => 4 | 5 => 5 | 9 => 9 | 20 => 20 | 21 => 21 | 37 => 39 | 46 => 79 | 51 => 71 | 70 => 43 | 72 => 45 | 75 => 47 | 164 => 69 | 80 => 52 | n => n, fun | n => n⟩
theorem laysB168 : Go.Proofs.Lays.n168 Tryd.prog laysB168_ren := {
  mixed := by kernel_rfl
  f168 := Tryd.func17.trans (congrArg some (by kernel_rfl))
  f240 := Tryd.func27.trans (congrArg some (by kernel_rfl))
  f242 := Tryd.func28.trans (congrArg some (by kernel_rfl))
  f276 := Tryd.func39.trans (congrArg some (by kernel_rfl))
  f278 := Tryd.func40.trans (congrArg some (by kernel_rfl))
  t0 := Tryd.underlying0
  a0 := Tryd.isAgg0
  z0 := Tryd.sizeOf0
  v0 := Tryd.zeroValue0
  t3 := Tryd.underlying3
  a3 := Tryd.isAgg3
  z3 := Tryd.sizeOf3
  v3 := Tryd.zeroValue3
  t4 := Tryd.underlying4
  a4 := Tryd.isAgg4
  z4 := Tryd.sizeOf4
  v4 := Tryd.zeroValue4
  t5 := Tryd.underlying5
  a5 := Tryd.isAgg5
  z5 := Tryd.sizeOf5
  v5 := Tryd.zeroValue5
  t9 := Tryd.underlying9
  a9 := Tryd.isAgg9
  z9 := Tryd.sizeOf9
  v9 := Tryd.zeroValue9
  t20 := Tryd.underlying20
  a20 := Tryd.isAgg20
  z20 := Tryd.sizeOf20
  v20 := Tryd.zeroValue20
  t21 := Tryd.underlying21
  a21 := Tryd.isAgg21
  z21 := Tryd.sizeOf21
  v21 := Tryd.zeroValue21
  t37 := Tryd.underlying39
  a37 := Tryd.isAgg39
  z37 := Tryd.sizeOf39
  v37 := Tryd.zeroValue39
  t46 := Tryd.underlying79
  a46 := Tryd.isAgg79
  z46 := Tryd.sizeOf79
  v46 := Tryd.zeroValue79
  t51 := Tryd.underlying71
  a51 := Tryd.isAgg71
  z51 := Tryd.sizeOf71
  v51 := Tryd.zeroValue71
  t70 := Tryd.underlying43
  a70 := Tryd.isAgg43
  z70 := Tryd.sizeOf43
  v70 := Tryd.zeroValue43
  t72 := Tryd.underlying45
  a72 := Tryd.isAgg45
  z72 := Tryd.sizeOf45
  v72 := Tryd.zeroValue45
  t75 := Tryd.underlying47
  a75 := Tryd.isAgg47
  z75 := Tryd.sizeOf47
  v75 := Tryd.zeroValue47
  t164 := Tryd.underlying69
  a164 := Tryd.isAgg69
  z164 := Tryd.sizeOf69
  v164 := Tryd.zeroValue69 }
theorem extraB168 : Builder.Extra Tryd.prog laysB168_ren := {
  sizeBuilder := by kernel_rfl
  liesBuilder := by kernel_rfl
  t5 := Tryd.underlying5
  a5 := Tryd.isAgg5
  z5 := Tryd.sizeOf5
  v5 := Tryd.zeroValue5
  infoByte := by kernel_rfl
  cellsByte := by kernel_rfl
  sizeByte := by kernel_rfl
  neB5 := by decide }

end Go.Proofs.YtjnaikojoemkaaaDoor

namespace Go.Proofs.YtjnaikojoemkaaaDoor
open Go.RowKit

/-- A text in quotes, from a place on: what it tells, how many bytes it has (or where it is wrong), what is wrong. -/
def textF (s : ByteArray) : Nat → Nat → List UInt8 → ByteArray × Nat × Nat
  | 0, _, _ => (⟨#[]⟩, s.size, 10)
  | b + 1, pos, acc => if pos < s.size then
      if s.get! pos = 34 then (⟨acc.toArray⟩, pos + 1, 0)
      else if s.get! pos = 92 then
        if (escS (s.extract pos s.size)).2 = 0 then (⟨#[]⟩, pos, 11) else textF s b (pos + (escS (s.extract pos s.size)).2) (acc ++ (escS (s.extract pos s.size)).1.data.toList)
      else textF s b (pos + 1) (acc ++ [s.get! pos])
    else (⟨#[]⟩, s.size, 10)
def textS (s : ByteArray) : ByteArray × Nat × Nat := textF s s.size 1 []
theorem textF_end (s : ByteArray) (b pos : Nat) (acc : List UInt8) (h : ¬ pos < s.size) : textF s b pos acc = (⟨#[]⟩, s.size, 10) := by
  cases b with
  | zero => rfl
  | succ b => rw [textF, if_neg h]
theorem textF_step (s : ByteArray) (b pos : Nat) (acc : List UInt8) (h : pos < s.size) (hb : s.size ≤ pos + b) : ∃ b', b = b' + 1 ∧ textF s b pos acc =
    if s.get! pos = 34 then (⟨acc.toArray⟩, pos + 1, 0)
      else if s.get! pos = 92 then
        if (escS (s.extract pos s.size)).2 = 0 then (⟨#[]⟩, pos, 11) else textF s b' (pos + (escS (s.extract pos s.size)).2) (acc ++ (escS (s.extract pos s.size)).1.data.toList)
      else textF s b' (pos + 1) (acc ++ [s.get! pos]) := by
  cases b with
  | zero => omega
  | succ b => exact ⟨b, rfl, by rw [textF, if_pos h]⟩
theorem escS_size (t : ByteArray) : (escS t).2 ≤ t.size ∧ (escS t).1.size ≤ 4 := by
  unfold escS
  split
  · exact ⟨Nat.zero_le _, Nat.zero_le _⟩
  · split
    · exact ⟨by show 2 ≤ t.size; omega, by show 1 ≤ 4; omega⟩
    · split
      · rename_i h
        split
        · refine ⟨h.2.1, ?_⟩
          show (List.toArray _).size ≤ 4
          have := (putI_length (hexN (t.extract 2 6).data.toList)).2
          simpa using this
        · exact ⟨Nat.zero_le _, Nat.zero_le _⟩
      · exact ⟨Nat.zero_le _, Nat.zero_le _⟩

abbrev IsB (B b : Nat) (l : List UInt8) (w : World) : Prop := Lib.IsBuilder 45 5 B b (Lib.byteCells l) w
theorem isB_new (w : World) : IsB w.heap.size w.heap.size [] (w.alloc (.cells #[.pointer none, .slice none 0 0] 45)) :=
  .inl ⟨Nat.le_refl _, .slice none 0 0, World.alloc_heap_new _ _, World.ownsRow_nil _ _ _ _, by simp [Value.ownBlock]⟩
theorem isB_bel {B b : Nat} {l : List UInt8} {w w' : World} (h : IsB B b l w) (hb : Bel w w') : IsB B b l w' := by
  rcases h with ⟨h1, v, h2, h3, h4⟩ | ⟨h1, v, h2, h3, h4⟩
  · exact .inl ⟨h1, v, (hb.block (Array.getElem?_eq_some_iff.1 h2).1).trans h2, own_bel h3 hb, h4⟩
  · exact .inr ⟨h1, v, (hb.block (Array.getElem?_eq_some_iff.1 h2).1).trans h2, own_bel h3 hb, h4⟩
theorem wbyte_c (B b : Nat) (l : List UInt8) (c : UInt8) (w : World) (h : IsB B b l w) (hlen : l.length ≤ 137438953472) (hB : B ≤ w.heap.size) :
    Calls Tryd.prog 15 #[.pointer (some ⟨b, 0, none⟩), .int .u8 c.toNat] w fun e w' => e = .returned .nilIface ∧ IsB B b (l ++ [c]) w' ∧ Below B w w' := by
  refine (Any.Builder_WriteByte laysB167 extraB167 B b (Lib.byteCells l) c.toNat w h (by rw [Lib.byteCells_length]; omega) hB).mono ?_
  rintro e w' ⟨rfl, h1, h2⟩
  have e : Lib.byteCells (l ++ [c]) = Lib.byteCells l ++ [Value.int .u8 c.toNat] := by simp [Lib.byteCells]
  refine ⟨rfl, ?_, h2⟩
  unfold IsB
  rw [e]
  exact .inr h1
theorem wstr_c (B b : Nat) (l : List UInt8) (x : ByteArray) (w : World) (h : IsB B b l w) (hlen : l.length ≤ 137438953472) (hx : x.size ≤ 137438953472) (hB : B ≤ w.heap.size) :
    Calls Tryd.prog 16 #[.pointer (some ⟨b, 0, none⟩), .string x] w fun e w' => e = .returned (.tuple #[.int .i64 x.size, .nilIface]) ∧ IsB B b (l ++ x.data.toList) w' ∧ Below B w w' := by
  refine (Any.Builder_WriteString laysB166 extraB166 B b (Lib.byteCells l) x w h (by rw [Lib.byteCells_length]; omega) hB).mono ?_
  rintro e w' ⟨rfl, h1, h2⟩
  refine ⟨rfl, .inr ?_, h2⟩
  have e : Lib.byteCells (l ++ x.data.toList) = Lib.byteCells l ++ Lib.strCells x := by simp [Lib.byteCells, Lib.strCells]
  rw [e]
  exact h1

set_option maxRecDepth 100000 in
set_option maxHeartbeats 4000000 in
theorem text_c (s : ByteArray) (hs : s.size ≤ 4294967280) (h1 : 1 ≤ s.size) (w : World) :
    Calls Tryd.prog 26 #[.string s] w fun e w' => e = .returned (.tuple #[.string (textS s).1, .int .i64 (textS s).2.1, .int .i64 (textS s).2.2]) ∧ Bel w w' := by
  obtain ⟨⟨R1, R2, R3⟩, hR⟩ : ∃ R, textS s = R := ⟨_, rfl⟩
  rw [hR]
  have HR := Lib.hid hR
  clear hR
  go_enter Tryd.func26, Tryd.ntmps26
  go_wp2_with fail
  go_loopw [6] (fun i wr => ∃ (pos b : Nat) (acc : List UInt8), pos ≤ s.size ∧ i = .int .i64 pos ∧ IsB w.heap.size w.heap.size acc wr ∧ Bel w wr ∧ acc.length ≤ 4 * pos ∧ s.size ≤ pos + b ∧ textF s b pos acc = (R1, R2, R3)) (fun i _ => s.size - (intOf i).toNat)
  case atStart => exact ⟨1, s.size, [], h1, rfl, isB_new w, Bel.alloc _ _, by simp, by omega, HR.out⟩
  case round =>
    obtain ⟨pos, b, acc, hpl, rfl, hib, hbel, hal, hb, hsc⟩ := hrel
    by_cases hp : pos < s.size
    · have hpi : (pos : Int) < s.size := by omega
      obtain ⟨b', rfl, hst⟩ := textF_step s b pos acc hp hb
      rw [hsc] at hst
      obtain ⟨c, hc⟩ : ∃ c, s.get! pos = c := ⟨_, rfl⟩
      have hx2 : s[pos]'hp = c := by rw [← hc]; exact (get_at s pos hp).symm
      rw [hc] at hst
      have hHS := hbel.size
      by_cases h34 : c = 34
      · have e34 : ((c.toNat : Int) == 34) = true := by rw [h34]; rfl
        rw [if_pos h34] at hst
        have hstr := Tryd.Builder_String_any w.heap.size w.heap.size acc wr hib hHS
        have HS := Lib.hid hstr
        have HST := Lib.hid hst
        clear hstr hst hc hsc h34 hib
        go_wp2_with fail
        refine HS.out.mono ?_
        rintro e w1 ⟨rfl, h3⟩
        go_wp2_with fail
        go_ret3
        have := HST.out
        injection this with e1 e2
        injection e2 with e2 e3
        subst e1 e2 e3
        exact ⟨rfl, Below.trans hbel h3⟩
      · have e34 : ((c.toNat : Int) == 34) = false := by
          simp only [beq_eq_false_iff_ne, ne_eq]
          intro h
          exact h34 (UInt8.toNat_inj.1 (by rw [show (34 : UInt8).toNat = 34 from rfl]; omega))
        rw [if_neg h34] at hst
        by_cases h92 : c = 92
        · have e92 : ((c.toNat : Int) == 92) = true := by rw [h92]; rfl
          rw [if_pos h92] at hst
          have hxs : (s.extract pos s.size).size = s.size - pos := by simp
          have hes := fun w1 => escape_c (s.extract pos s.size) (by omega) w1
          have hsz := escS_size (s.extract pos s.size)
          obtain ⟨x, hx⟩ : ∃ x, s.extract pos s.size = x := ⟨_, rfl⟩
          rw [hx] at hst hes hsz hxs
          obtain ⟨⟨E1, E2⟩, hE⟩ : ∃ E, escS x = E := ⟨_, rfl⟩
          rw [hE] at hst hes hsz
          have HES := Lib.hid hes
          have HST := Lib.hid hst
          obtain ⟨hsz1, hsz2⟩ := hsz
          have HIB := Lib.hid hib
          clear hes hst hE hc hsc h34 h92 hib
          by_cases h0 : E2 = 0
          · subst h0
            go_wp2_with fail
            refine (HES.out _).mono ?_
            rintro e w1 ⟨rfl, h3⟩
            go_wp2_with fail
            go_ret3
            have := HST.out
            rw [if_pos (by trivial)] at this
            injection this with e1 e2
            injection e2 with e2 e3
            subst e1 e2 e3
            exact ⟨rfl, hbel.trans h3⟩
          · have h0i : ((E2 : Int) == 0) = false := by simp [h0]
            go_wp2_with fail
            refine (HES.out _).mono ?_
            rintro e w1 ⟨rfl, h3⟩
            have hws := fun w2 (hb : Bel w1 w2) => wstr_c w.heap.size w.heap.size acc E1 w2 (isB_bel HIB.out (h3.trans hb)) (by omega) (by omega) (Nat.le_trans hHS (h3.trans hb).size)
            have HWS := Lib.hid hws
            clear hws
            go_wp2_with fail
            refine (HWS.out _ (Bel.refl _)).mono ?_
            rintro e w2 ⟨rfl, h4, h5⟩
            go_wp2_with fail
            have hst2 := HST.out
            rw [if_neg h0] at hst2
            refine ⟨⟨pos + E2, b', acc ++ E1.data.toList, by omega, by go_num, h4, Below.trans (hbel.trans h3) h5, ?_, by omega, hst2.symm⟩, by simp [intOf]; omega⟩
            rw [List.length_append]
            have : E1.data.toList.length = E1.size := rfl
            omega
        · have e92 : ((c.toNat : Int) == 92) = false := by
            simp only [beq_eq_false_iff_ne, ne_eq]
            intro h
            exact h92 (UInt8.toNat_inj.1 (by rw [show (92 : UInt8).toNat = 92 from rfl]; omega))
          rw [if_neg h92] at hst
          have hwb := wbyte_c w.heap.size w.heap.size acc c wr hib (by omega) hHS
          have HWB := Lib.hid hwb
          have HST := Lib.hid hst
          clear hwb hst hc hsc h34 h92 hib
          go_wp2_with fail
          refine HWB.out.mono ?_
          rintro e w2 ⟨rfl, h4, h5⟩
          go_wp2_with fail
          exact ⟨⟨pos + 1, b', acc ++ [c], by omega, by go_num, h4, Below.trans hbel h5, by simp; omega, by omega, HST.out.symm⟩, by simp [intOf]; omega⟩
    · have hend := textF_end s b pos acc hp
      rw [hsc] at hend
      injection hend with e1 e2
      injection e2 with e2 e3
      subst e1 e2 e3
      clear hsc
      go_wp2_with fail
      go_ret3
      exact ⟨rfl, hbel⟩
end Go.Proofs.YtjnaikojoemkaaaDoor

namespace Go.Proofs.YtjnaikojoemkaaaDoor
open Go.RowKit

/-- The token that a text begins with, how many bytes it has, what is wrong. -/
def oneS (s : ByteArray) : (Int × ByteArray) × Nat × Nat :=
  if wordN s ≠ 0 then ((if isKw (s.extract 0 (wordN s)) = true then 1 else 0, s.extract 0 (wordN s)), wordN s, 0)
  else if numN s ≠ 0 then ((2, s.extract 0 (numN s)), numN s, 0)
  else if s.get! 0 = 34 then ((3, (textS s).1), (textS s).2.1, (textS s).2.2)
  else if (signS s).size = 0 then ((0, ⟨#[]⟩), 0, 11)
  else ((4, signS s), (signS s).size, 0)
def lexV (k a : Int) (s : ByteArray) : Value := .agg #[.int .i64 k, .int .i64 a, .string s]
theorem wordF_le (s : ByteArray) : ∀ b pos, pos ≤ s.size → wordF s b pos ≤ s.size
  | 0, pos, h => h
  | b + 1, pos, h => by
    unfold wordF
    split
    · rename_i hp
      split
      · exact wordF_le s b _ (decode_fits s pos hp)
      · exact h
    · exact h
theorem numN_le (s : ByteArray) : numN s ≤ s.size := by
  unfold numN
  split
  · rename_i h
    have h1 := hasPrefix_one _ _ h.1
    have h2 := digN_le (s.extract (digN s + 1) s.size)
    simp at h1 h2
    omega
  · exact digN_le s
theorem results_cell3 {P : Program} {fn : Func} {p u v : Tmp} {ty : TypeId} (h : fn.results = #[.cell p ty, .tmp u, .tmp v]) (tmps : Array Value) (w : World) (g : Nat) (x : Value)
    (hp : tmps.getD p undef = .pointer (some ⟨g, 0, none⟩)) (hl : (loadVar ty ⟨g, 0, none⟩).run P w = .ok x w) : (results fn tmps).run P w = .ok (.tuple #[x, tmps.getD u undef, tmps.getD v undef]) w := by
  have hp' : tmps[p]?.getD undef = .pointer (some ⟨g, 0, none⟩) := by simpa using hp
  simp [results, h, hp', asAddr, hl, Result.andThen]
theorem load_lex (w : World) (g : Nat) (k a : Int) (s : ByteArray) (h0 : w.cell? ⟨g, 0, none⟩ = some (.int .i64 k)) (h1 : w.cell? ⟨g, 1, none⟩ = some (.int .i64 a)) (h2 : w.cell? ⟨g, 2, none⟩ = some (.string s)) :
    (loadVar 28 ⟨g, 0, none⟩).run Tryd.prog w = .ok (lexV k a s) w := by
  refine run_loadVar_mid w g 0 28 [.int .i64 k, .int .i64 a, .string s] _ (fun j v hv => ?_) Tryd.underlying28 rfl (by kernel_rfl)
  match j, hv with
  | 0, hv => cases hv; exact h0
  | 1, hv => cases hv; exact h1
  | 2, hv => cases hv; exact h2

theorem signs_bel {w w' : World} (h : SignsAt w) (hb : Bel w w') : SignsAt w' := fun j v hv => by
  have h1 := h j v hv
  rw [(bcell hb).1 _ _ (cell_lt h1)]
  exact h1
/-- The result's block: it can be written; what is written is what it reads as. -/
theorem lex_fin (w W : World) (k : Int) (x : ByteArray) (hb : Bel (w.alloc (.cells #[.int .i64 0, .int .i64 0, .string ⟨#[]⟩] 28)) W) :
    W.there w.heap.size 0 3 ∧ (loadVar 28 ⟨w.heap.size, 0, none⟩).run Tryd.prog (W.setCells w.heap.size 0 [.int .i64 k, .int .i64 0, .string x]) = .ok (lexV k 0 x) (W.setCells w.heap.size 0 [.int .i64 k, .int .i64 0, .string x]) ∧ Bel w (W.setCells w.heap.size 0 [.int .i64 k, .int .i64 0, .string x]) := by
  have ht : W.there w.heap.size 0 3 := by
    have h0 : W.heap[w.heap.size]? = some (.cells #[.int .i64 0, .int .i64 0, .string ⟨#[]⟩] 28 (0, 0)) := (hb.block (by simp)).trans (World.alloc_heap_new _ _)
    intro j hj
    constructor
    · simp only [World.cell?, h0, Nat.zero_add]
      match j, hj with
      | 0, _ => rfl
      | 1, _ => rfl
      | 2, _ => rfl
    · simp [World.frozen?, h0]
  refine ⟨ht, ?_, ?_⟩
  · exact run_loadVar_mid _ w.heap.size 0 28 [.int .i64 k, .int .i64 0, .string x] _ (World.rangeAt_setCells_same W _ _ _ ht) Tryd.underlying28 rfl (by kernel_rfl)
  · exact Bel.to_setCell (Bel.to_setCell (Bel.to_setCell ((Bel.alloc w _).trans hb) (p := ⟨w.heap.size, 0, none⟩) (Nat.le_refl _) _) (p := ⟨w.heap.size, 1, none⟩) (Nat.le_refl _) _) (p := ⟨w.heap.size, 2, none⟩) (Nat.le_refl _) _

theorem lex_facts (w W : World) (hb : Bel (w.alloc (.cells #[.int .i64 0, .int .i64 0, .string ⟨#[]⟩] 28)) W) :
    W.cell? ⟨w.heap.size, 0, none⟩ = some (.int .i64 0) ∧ W.cell? ⟨w.heap.size, 1, none⟩ = some (.int .i64 0) ∧ W.cell? ⟨w.heap.size, 2, none⟩ = some (.string ⟨#[]⟩) ∧ (∀ o, W.frozen? ⟨w.heap.size, o, none⟩ = false) := by
  have h0 : W.heap[w.heap.size]? = some (.cells #[.int .i64 0, .int .i64 0, .string ⟨#[]⟩] 28 (0, 0)) := (hb.block (by simp)).trans (World.alloc_heap_new _ _)
  exact ⟨by simp [World.cell?, h0], by simp [World.cell?, h0], by simp [World.cell?, h0], fun o => by simp [World.frozen?, h0]⟩

set_option maxRecDepth 100000 in
set_option maxHeartbeats 4000000 in
theorem one_c (s : ByteArray) (hs : s.size ≤ 4294967280) (h1 : 1 ≤ s.size) (w : World) (hw : SignsAt w) :
    Calls Tryd.prog 14 #[.string s] w fun e w' => e = .returned (.tuple #[lexV (oneS s).1.1 0 (oneS s).1.2, .int .i64 (oneS s).2.1, .int .i64 (oneS s).2.2]) ∧ Bel w w' := by
  obtain ⟨⟨⟨R0, R1⟩, R2, R3⟩, hR⟩ : ∃ R, oneS s = R := ⟨_, rfl⟩
  rw [hR]
  unfold oneS at hR
  have hwd := fun w1 => word_f s hs w1
  have hle : wordN s ≤ s.size := wordF_le s _ 0 (Nat.zero_le _)
  obtain ⟨n, hn⟩ : ∃ n, wordN s = n := ⟨_, rfl⟩
  rw [hn] at hwd hle hR
  have hxs : (s.extract 0 n).size = n := by simp; omega
  have hxe := isEmpty_size _ _ hxs
  have hkw := fun w1 => keyword_c (s.extract 0 n) (by omega) w1
  obtain ⟨x, hx⟩ : ∃ x, s.extract 0 n = x := ⟨_, rfl⟩
  rw [hx] at hwd hxs hxe hkw hR
  have HWD := Lib.hid hwd
  have HKW := Lib.hid hkw
  clear hwd hkw hn hx
  by_cases h0 : n = 0
  · subst h0
    rw [if_neg (by simp)] at hR
    rw [decide_eq_true rfl] at hxe
    have hnu := fun w1 => number_c s hs w1
    have hml := numN_le s
    obtain ⟨m, hm⟩ : ∃ m, numN s = m := ⟨_, rfl⟩
    rw [hm] at hnu hml hR
    have hys : (s.extract 0 m).size = m := by simp; omega
    have hye := isEmpty_size _ _ hys
    obtain ⟨y, hy⟩ : ∃ y, s.extract 0 m = y := ⟨_, rfl⟩
    rw [hy] at hnu hys hye hR
    have HNU := Lib.hid hnu
    clear hnu hm hy
    by_cases hm0 : m = 0
    · subst hm0
      rw [if_neg (by simp)] at hR
      rw [decide_eq_true rfl] at hye
      obtain ⟨c, hc⟩ : ∃ c, s.get! 0 = c := ⟨_, rfl⟩
      have hx2 : s[0]'h1 = c := by rw [← hc]; exact (get_at s 0 h1).symm
      rw [hc] at hR
      clear hc
      by_cases h34 : c = 34
      · have e34 : ((c.toNat : Int) == 34) = true := by rw [h34]; rfl
        rw [if_pos h34] at hR
        have htx := fun w1 => text_c s hs h1 w1
        obtain ⟨⟨T1, T2, T3⟩, hT⟩ : ∃ T, textS s = T := ⟨_, rfl⟩
        rw [hT] at htx hR
        have HTX := Lib.hid htx
        have HR := Lib.hid hR
        clear htx hR hT h34
        go_enter Tryd.func14, Tryd.ntmps14
        go_wp2_with fail
        refine (HWD.out _).mono ?_
        rintro e w1 ⟨rfl, hb1⟩
        go_wp2_with fail
        refine (HNU.out _).mono ?_
        rintro e w2 ⟨rfl, hb2⟩
        go_wp2_with fail
        refine (HTX.out _).mono ?_
        rintro e w3 ⟨rfl, hb3⟩
        have FIN := Lib.hid (lex_fin w w3 3 T1 ((hb1.trans hb2).trans hb3))
        obtain ⟨f0, f1, f2, f3⟩ := lex_facts w w3 ((hb1.trans hb2).trans hb3)
        go_wp2_with fail
        have := HR.out
        injection this with e1 e2
        injection e1 with e1 e3
        injection e2 with e2 e4
        subst e1 e2 e3 e4
        refine bodyPost_ret (results_cell3 rfl _ _ w.heap.size _ rfl FIN.out.2.1) rfl ?_
        exact ⟨rfl, FIN.out.2.2⟩
      · have e34 : ((c.toNat : Int) == 34) = false := by
          simp only [beq_eq_false_iff_ne, ne_eq]
          intro h
          exact h34 (UInt8.toNat_inj.1 (by rw [show (34 : UInt8).toNat = 34 from rfl]; omega))
        rw [if_neg h34] at hR
        have hsg := fun w1 (hb : Bel w w1) => sign_c s w1 (signs_bel hw hb)
        obtain ⟨z, hz⟩ : ∃ z, signS s = z := ⟨_, rfl⟩
        rw [hz] at hsg hR
        have HSG := Lib.hid hsg
        clear hsg hz h34
        have hze := isEmpty_size z _ rfl
        by_cases hz0 : z.size = 0
        · rw [decide_eq_true hz0] at hze
          rw [if_pos hz0] at hR
          have HR := Lib.hid hR
          clear hR hz0
          go_enter Tryd.func14, Tryd.ntmps14
          go_wp2_with fail
          refine (HWD.out _).mono ?_
          rintro e w1 ⟨rfl, hb1⟩
          go_wp2_with fail
          refine (HNU.out _).mono ?_
          rintro e w2 ⟨rfl, hb2⟩
          go_wp2_with fail
          refine (HSG.out _ (((Bel.alloc _ _).trans hb1).trans hb2)).mono ?_
          rintro e w3 ⟨rfl, rfl⟩
          have FIN := Lib.hid (lex_fin w w2 0 ⟨#[]⟩ (hb1.trans hb2))
          obtain ⟨f0, f1, f2, f3⟩ := lex_facts w w2 (hb1.trans hb2)
          go_wp2_with fail
          have := HR.out
          injection this with e1 e2
          injection e1 with e1 e3
          injection e2 with e2 e4
          subst e1 e2 e3 e4
          refine bodyPost_ret (results_cell3 rfl _ _ w.heap.size _ rfl FIN.out.2.1) rfl ?_
          exact ⟨rfl, FIN.out.2.2⟩
        · rw [decide_eq_false hz0] at hze
          rw [if_neg hz0] at hR
          have HR := Lib.hid hR
          clear hR hz0
          go_enter Tryd.func14, Tryd.ntmps14
          go_wp2_with fail
          refine (HWD.out _).mono ?_
          rintro e w1 ⟨rfl, hb1⟩
          go_wp2_with fail
          refine (HNU.out _).mono ?_
          rintro e w2 ⟨rfl, hb2⟩
          go_wp2_with fail
          refine (HSG.out _ (((Bel.alloc _ _).trans hb1).trans hb2)).mono ?_
          rintro e w3 ⟨rfl, rfl⟩
          have FIN := Lib.hid (lex_fin w w2 4 z (hb1.trans hb2))
          obtain ⟨f0, f1, f2, f3⟩ := lex_facts w w2 (hb1.trans hb2)
          go_wp2_with fail
          have := HR.out
          injection this with e1 e2
          injection e1 with e1 e3
          injection e2 with e2 e4
          subst e1 e2 e3 e4
          refine bodyPost_ret (results_cell3 rfl _ _ w.heap.size _ rfl FIN.out.2.1) rfl ?_
          exact ⟨rfl, FIN.out.2.2⟩
    · rw [if_pos hm0] at hR
      rw [decide_eq_false hm0] at hye
      have HR := Lib.hid hR
      clear hR
      go_enter Tryd.func14, Tryd.ntmps14
      go_wp2_with fail
      refine (HWD.out _).mono ?_
      rintro e w1 ⟨rfl, hb1⟩
      go_wp2_with fail
      refine (HNU.out _).mono ?_
      rintro e w2 ⟨rfl, hb2⟩
      have FIN := Lib.hid (lex_fin w w2 2 y (hb1.trans hb2))
      obtain ⟨f0, f1, f2, f3⟩ := lex_facts w w2 (hb1.trans hb2)
      go_wp2_with fail
      have := HR.out
      injection this with e1 e2
      injection e1 with e1 e3
      injection e2 with e2 e4
      subst e1 e2 e3 e4
      refine bodyPost_ret (results_cell3 rfl _ _ w.heap.size _ rfl FIN.out.2.1) rfl ?_
      exact ⟨rfl, FIN.out.2.2⟩
  · rw [decide_eq_false h0] at hxe
    rw [if_pos h0] at hR
    obtain ⟨K, hK⟩ : ∃ K, isKw x = K := ⟨_, rfl⟩
    rw [hK] at HKW hR
    have HR := Lib.hid hR
    clear hR hK
    cases K
    · go_enter Tryd.func14, Tryd.ntmps14
      go_wp2_with fail
      refine (HWD.out _).mono ?_
      rintro e w1 ⟨rfl, hb1⟩
      go_wp2_with fail
      refine (HKW.out _).mono ?_
      rintro e w2 ⟨rfl, hb2⟩
      have FIN := Lib.hid (lex_fin w w2 0 x (hb1.trans hb2))
      obtain ⟨f0, f1, f2, f3⟩ := lex_facts w w2 (hb1.trans hb2)
      go_wp2_with fail
      have := HR.out
      injection this with e1 e2
      injection e1 with e1 e3
      injection e2 with e2 e4
      subst e1 e2 e3 e4
      refine bodyPost_ret (results_cell3 rfl _ _ w.heap.size _ rfl FIN.out.2.1) rfl ?_
      exact ⟨rfl, FIN.out.2.2⟩
    · go_enter Tryd.func14, Tryd.ntmps14
      go_wp2_with fail
      refine (HWD.out _).mono ?_
      rintro e w1 ⟨rfl, hb1⟩
      go_wp2_with fail
      refine (HKW.out _).mono ?_
      rintro e w2 ⟨rfl, hb2⟩
      have FIN := Lib.hid (lex_fin w w2 1 x (hb1.trans hb2))
      obtain ⟨f0, f1, f2, f3⟩ := lex_facts w w2 (hb1.trans hb2)
      go_wp2_with fail
      have := HR.out
      injection this with e1 e2
      injection e1 with e1 e3
      injection e2 with e2 e4
      subst e1 e2 e3 e4
      refine bodyPost_ret (results_cell3 rfl _ _ w.heap.size _ rfl FIN.out.2.1) rfl ?_
      exact ⟨rfl, FIN.out.2.2⟩
end Go.Proofs.YtjnaikojoemkaaaDoor

namespace Go.Proofs.YtjnaikojoemkaaaDoor
open Go.RowKit

def spaceC (c : Int) : Bool := decide (c = 32 ∨ c = 9 ∨ c = 10 ∨ c = 13)
set_option maxHeartbeats 400000 in
theorem space_c (c : Int) (w : World) :
    Calls Tryd.prog 13 #[.int .i64 c] w fun e w' => e = .returned (.bool (spaceC c)) ∧ w = w' := by
  go_enter Tryd.func13, Tryd.ntmps13
  go_wp2
  all_goals go_ret
  all_goals exact ⟨ret_bool (by simp [spaceC]; grind), rfl⟩

/-- Where a text is wrong; its size: nowhere. -/
def chkF (s : ByteArray) : Nat → Nat → Nat
  | 0, _ => s.size
  | b + 1, pos => if pos < s.size then if (runeAt s pos).2.2 = 0 then chkF s b (pos + (Utf8.decode s pos).2) else pos else s.size
def chkS (s : ByteArray) : Nat := chkF s s.size 0
theorem chkF_end (s : ByteArray) (b pos : Nat) (h : ¬ pos < s.size) : chkF s b pos = s.size := by
  cases b with
  | zero => rfl
  | succ b => rw [chkF, if_neg h]
theorem chkF_bad (s : ByteArray) (b pos : Nat) (h : pos < s.size) (hb : s.size ≤ pos + b) (h1 : (runeAt s pos).2.2 ≠ 0) : chkF s b pos = pos := by
  cases b with
  | zero => omega
  | succ b => rw [chkF, if_pos h, if_neg h1]
theorem chkF_step (s : ByteArray) (b pos : Nat) (h : pos < s.size) (hb : s.size ≤ pos + b) (h1 : (runeAt s pos).2.2 = 0) : ∃ b', b = b' + 1 ∧ chkF s b pos = chkF s b' (pos + (Utf8.decode s pos).2) := by
  cases b with
  | zero => omega
  | succ b => exact ⟨b, rfl, by rw [chkF, if_pos h, if_pos h1]⟩
theorem bytes_string (W : World) (v : Value) (s : ByteArray) (hv : BytesAt W v s) : (convert 39 9 v).run Tryd.prog W = .ok (.string s) W := by
  obtain ⟨b, off, cap, rfl, hlt, hc, hcap⟩ := hv
  refine run_convert_bytes_back (P := Tryd.prog) W 39 9 5 ⟨b, off, none⟩ cap s.data.toList Tryd.underlying39 Tryd.underlying5 Tryd.underlying9 fun j hj => ?_
  rw [show (⟨b, off, none⟩ : Addr).add j = ⟨b, off + j, none⟩ from by unfold Addr.add; split <;> simp_all, hc j hj, get_bang s j hj]
  simp

set_option maxRecDepth 100000 in
set_option maxHeartbeats 2000000 in
theorem check_c (s : ByteArray) (_hs : s.size ≤ 4294967280) (v : Value) (w : World) (hE : Env w) (hv : BytesAt w v s) :
    Calls Tryd.prog 12 #[v] w fun e w' => e = .returned (.tuple #[.int .i64 (chkS s), .int .i64 (if chkS s < s.size then 4 else 0)]) ∧ Bel w w' := by
  obtain ⟨R, hR⟩ : ∃ R, chkS s = R := ⟨_, rfl⟩
  rw [hR]
  have HR := Lib.hid hR
  obtain ⟨E, hEE⟩ : ∃ E : Int, (if R < s.size then (4 : Int) else 0) = E := ⟨_, rfl⟩
  rw [hEE]
  have HEE := Lib.hid hEE
  clear hEE
  have hcv := bytes_string w v s hv
  obtain ⟨vb, vo, vc, rfl, _, _, _⟩ := hv
  clear hR
  go_enter Tryd.func12, Tryd.ntmps12
  go_wp2_with fail
  go_loopw [5] (fun _ wr => ∃ (pos b : Nat), wr.heap[w.heap.size]? = some (.stringIter s pos) ∧ Below w.heap.size w wr ∧ s.size ≤ pos + b ∧ chkF s b pos = R) (fun _ w' => s.size - w'.iterPos w.heap.size)
  case atStart => exact ⟨0, s.size, World.iter_heap _ _ _, (Below.refl _ _).alloc (Nat.le_refl _) _, by omega, HR.out⟩
  case round =>
    obtain ⟨pos, b, hit, hB, hb, hsc⟩ := hrel
    have hpos := iterPos_of hit
    clear hcv
    by_cases hp : pos < s.size
    · have hpi : (pos : Int) ≤ s.size := by omega
      have hnx := fun ty => Lib.run_next_any_at (P := Tryd.prog) wr w.heap.size s pos ty hit hp
      have hwd := decode_pos s pos hp
      have hI : (wr.iterAt w.heap.size s (pos + (Utf8.decode s pos).2)).heap[w.heap.size]? = some (.stringIter s (pos + (Utf8.decode s pos).2)) := Lib.iterAt_heap _ _ _ _ _ hit
      have hB2 : Bel w (wr.iterAt w.heap.size s (pos + (Utf8.decode s pos).2)) := Lib.below_iterAt hB (Nat.le_refl _) _ _
      have hle := decode_le s pos
      have hbad := chkF_bad s b pos hp hb
      have hstep := chkF_step s b pos hp hb
      have hdt := decode_tail s pos hp
      have hdr := fun w1 (h : Bel w w1) => Tryd.utf8_DecodeRuneInString (s.extract pos s.size) w1 (hE.bel h).1
      rw [hdt] at hdr
      unfold runeAt at hbad hstep
      obtain ⟨c, n, hcn⟩ : ∃ c n, Utf8.decode s pos = (c, n) := ⟨_, _, rfl⟩
      rw [hcn] at hnx hle hwd hI hB2 hbad hstep hdr
      obtain ⟨W, hW⟩ : ∃ W, wr.iterAt w.heap.size s (pos + n) = W := ⟨_, rfl⟩
      simp only [hW] at hnx hle hwd hI hB2 hbad hstep hdr
      have hlt2 : w.heap.size < W.heap.size := (Array.getElem?_eq_some_iff.1 hI).1
      obtain ⟨x, hx⟩ : ∃ x, s.extract pos s.size = x := ⟨_, rfl⟩
      rw [hx] at hdr
      obtain ⟨F, hF⟩ : ∃ F, fineC (c : Int) = F := ⟨_, rfl⟩
      rw [hF] at hbad hstep
      have h1 := fun w1 => fine_c (c : Int) w1
      rw [hF] at h1
      have H1 := Lib.hid h1
      have HDR := Lib.hid hdr
      have HBAD := Lib.hid hbad
      have HSTEP := Lib.hid hstep
      have HSC := Lib.hid hsc
      have HI := Lib.hid hI
      have HP := Lib.hid hpos
      have HE := Lib.hid hE
      clear h1 hdr hbad hstep hcn hI hsc hpos hit hW hF hE hdt
      by_cases he : c = 65533
      · have hei : ((c : Int) == 65533) = true := by simp [he]
        have HHE := Lib.hid he
        clear he
        by_cases hn2 : n < 2
        · have hn2i : (n : Int) < 2 := by omega
          go_wp2_with fail
          refine (HDR.out _ hB2).mono ?_
          rintro e w1 ⟨rfl, hb1⟩
          go_wp2_with fail
          go_ret2
          have := HBAD.out (by rw [if_pos (.inl ⟨HHE.out, hn2⟩)]; simp)
          rw [HSC.out] at this
          have h4 : E = 4 := by rw [← HEE.out, if_pos (by omega)]
          exact ⟨by rw [h4, this]; rfl, hB2.trans hb1⟩
        · have hn2i : (2 : Int) ≤ n := by omega
          cases F
          · go_wp2_with fail
            refine (HDR.out _ hB2).mono ?_
            rintro e w1 ⟨rfl, hb1⟩
            go_wp2_with fail
            refine (H1.out _).mono ?_
            rintro e w2 ⟨rfl, rfl⟩
            go_wp2_with fail
            go_ret2
            have := HBAD.out (by rw [if_pos (.inr (by trivial))]; simp)
            rw [HSC.out] at this
            have h4 : E = 4 := by rw [← HEE.out, if_pos (by omega)]
            exact ⟨by rw [h4, this]; rfl, hB2.trans hb1⟩
          · go_wp2_with fail
            refine (HDR.out _ hB2).mono ?_
            rintro e w1 ⟨rfl, hb1⟩
            go_wp2_with fail
            refine (H1.out _).mono ?_
            rintro e w2 ⟨rfl, rfl⟩
            go_wp2_with fail
            obtain ⟨b', h4, h5⟩ := HSTEP.out (by rw [if_neg (fun h => h.elim (fun h => hn2 h.2) (fun h => by cases h))])
            have hit' : w1.heap[w.heap.size]? = some (.stringIter s (pos + n)) := (Bel.block hb1 hlt2).trans HI.out
            refine ⟨⟨pos + n, b', hit', hB2.trans hb1, by omega, by rw [← h5]; exact HSC.out⟩, ?_⟩
            rw [iterPos_of hit', HP.out]
            omega
      · have hei : ((c : Int) == 65533) = false := by simp; omega
        cases F
        · go_wp2_with fail
          refine (H1.out _).mono ?_
          rintro e w2 ⟨rfl, rfl⟩
          go_wp2_with fail
          go_ret2
          have := HBAD.out (by rw [if_pos (.inr (by trivial))]; simp)
          rw [HSC.out] at this
          have h4 : E = 4 := by rw [← HEE.out, if_pos (by omega)]
          exact ⟨by rw [h4, this]; rfl, hB2⟩
        · go_wp2_with fail
          refine (H1.out _).mono ?_
          rintro e w2 ⟨rfl, rfl⟩
          go_wp2_with fail
          obtain ⟨b', h4, h5⟩ := HSTEP.out (by rw [if_neg (fun h => h.elim (fun h => he h.1) (fun h => by cases h))])
          refine ⟨⟨pos + n, b', HI.out, hB2, by omega, by rw [← h5]; exact HSC.out⟩, ?_⟩
          rw [iterPos_of HI.out, HP.out]
          omega
    · have hnx := fun ty => Lib.run_next_end_at (P := Tryd.prog) wr w.heap.size s pos ty hit hp
      have hend := chkF_end s b pos hp
      rw [hsc] at hend
      have hps := Lib.hid hend
      clear hend hsc
      go_wp2_with fail
      go_ret2
      have h4 : E = 0 := by rw [← HEE.out, if_neg (by have := hps.out; omega)]
      exact ⟨by rw [h4, hps.out]; rfl, hB⟩
end Go.Proofs.YtjnaikojoemkaaaDoor

namespace Go.Proofs.YtjnaikojoemkaaaDoor

/-- The tokens from a place on: each its kind, its place, its text; the place; what is wrong. -/
def lexF (s : ByteArray) : Nat → Nat → List (Int × Nat × ByteArray) → List (Int × Nat × ByteArray) × Nat × Nat
  | 0, _, acc => (acc ++ [(5, s.size, ⟨#[]⟩)], s.size, 0)
  | b + 1, pos, acc => if pos < s.size then
      if spaceC (s.get! pos).toNat = true then lexF s b (pos + 1) acc
      else if (oneS (s.extract pos s.size)).2.2 ≠ 0 then ([], pos + (oneS (s.extract pos s.size)).2.1, (oneS (s.extract pos s.size)).2.2)
      else lexF s b (pos + (oneS (s.extract pos s.size)).2.1) (acc ++ [((oneS (s.extract pos s.size)).1.1, pos, (oneS (s.extract pos s.size)).1.2)])
    else (acc ++ [(5, s.size, ⟨#[]⟩)], s.size, 0)
/-- The tokens of a text, or where it is wrong, and why. -/
def lexS (s : ByteArray) : List (Int × Nat × ByteArray) × Nat × Nat := if chkS s < s.size then ([], chkS s, 4) else lexF s s.size 0 []

theorem textF_le (s : ByteArray) : ∀ b pos acc, pos ≤ s.size → (textF s b pos acc).2.1 ≤ s.size ∧ ((textF s b pos acc).2.2 = 0 → 1 ≤ (textF s b pos acc).2.1)
  | 0, pos, acc, h => ⟨Nat.le_refl _, fun h => by cases h⟩
  | b + 1, pos, acc, h => by
    unfold textF
    split
    · rename_i hp
      split
      · exact ⟨hp, fun _ => by show 1 ≤ pos + 1; omega⟩
      · split
        · split
          · exact ⟨h, fun h => by cases h⟩
          · have := (escS_size (s.extract pos s.size)).1
            simp at this
            exact textF_le s b _ _ (by omega)
        · exact textF_le s b _ _ hp
    · exact ⟨Nat.le_refl _, fun h => by cases h⟩
theorem signIn_le (s : ByteArray) : ∀ l, (signIn s l).length ≤ s.size
  | [] => Nat.zero_le _
  | x :: l => by
    unfold signIn
    split
    · rename_i h
      have := (List.isPrefixOf_iff_prefix.1 h).length_le
      rw [Lib.size_eq]
      exact this
    · exact signIn_le s l
theorem oneS_le (s : ByteArray) (h1 : 1 ≤ s.size) : (oneS s).2.1 ≤ s.size ∧ ((oneS s).2.2 = 0 → 1 ≤ (oneS s).2.1) := by
  unfold oneS
  split
  · rename_i h
    exact ⟨wordF_le s _ 0 (Nat.zero_le _), fun _ => Nat.pos_of_ne_zero h⟩
  · split
    · rename_i h
      exact ⟨numN_le s, fun _ => Nat.pos_of_ne_zero h⟩
    · split
      · exact textF_le s _ 1 [] h1
      · split
        · exact ⟨Nat.zero_le _, fun h => by cases h⟩
        · rename_i h
          exact ⟨signIn_le s signsL, fun _ => Nat.pos_of_ne_zero h⟩
theorem lexF_len (s : ByteArray) : ∀ b pos acc, (lexF s b pos acc).1.length ≤ acc.length + b + 1
  | 0, pos, acc => by simp [lexF]
  | b + 1, pos, acc => by
    unfold lexF
    split
    · split
      · have := lexF_len s b (pos + 1) acc
        omega
      · split
        · simp
        · have := lexF_len s b (pos + (oneS (s.extract pos s.size)).2.1) (acc ++ [((oneS (s.extract pos s.size)).1.1, pos, (oneS (s.extract pos s.size)).1.2)])
          simp at this ⊢
          omega
    · simp
theorem lexS_len (s : ByteArray) : (lexS s).1.length ≤ s.size + 1 := by
  unfold lexS
  split
  · simp
  · have := lexF_len s s.size 0 []
    simpa using this
end Go.Proofs.YtjnaikojoemkaaaDoor

namespace Go.Proofs.YtjnaikojoemkaaaDoor
open Go.RowKit

def lexCells (l : List (Int × Nat × ByteArray)) : List Value := l.flatMap fun x => [.int .i64 x.1, .int .i64 x.2.1, .string x.2.2]
theorem lexCells_length (l : List (Int × Nat × ByteArray)) : (lexCells l).length = 3 * l.length := by
  induction l with
  | nil => rfl
  | cons x l ih => simp only [lexCells, List.flatMap_cons, List.length_append, List.length_cons, List.length_nil] at ih ⊢; omega
theorem lexCells_snoc (l : List (Int × Nat × ByteArray)) (x : Int × Nat × ByteArray) : lexCells (l ++ [x]) = lexCells l ++ [.int .i64 x.1, .int .i64 x.2.1, .string x.2.2] := by simp [lexCells]
theorem lexF_end (s : ByteArray) (b pos : Nat) (acc : List (Int × Nat × ByteArray)) (h : ¬ pos < s.size) : lexF s b pos acc = (acc ++ [(5, s.size, ⟨#[]⟩)], s.size, 0) := by
  cases b with
  | zero => rfl
  | succ b => rw [lexF, if_neg h]
theorem lexF_step (s : ByteArray) (b pos : Nat) (acc : List (Int × Nat × ByteArray)) (h : pos < s.size) (hb : s.size ≤ pos + b) : ∃ b', b = b' + 1 ∧ lexF s b pos acc =
    if spaceC (s.get! pos).toNat = true then lexF s b' (pos + 1) acc
      else if (oneS (s.extract pos s.size)).2.2 ≠ 0 then ([], pos + (oneS (s.extract pos s.size)).2.1, (oneS (s.extract pos s.size)).2.2)
      else lexF s b' (pos + (oneS (s.extract pos s.size)).2.1) (acc ++ [((oneS (s.extract pos s.size)).1.1, pos, (oneS (s.extract pos s.size)).1.2)]) := by
  cases b with
  | zero => omega
  | succ b => exact ⟨b, rfl, by rw [lexF, if_pos h]⟩
/-- What Lex answers: an owned row of tokens, the place, the error. -/
def RetLex (R : List (Int × Nat × ByteArray) × Nat × Nat) (w : World) (e : Ending) (w' : World) : Prop :=
  Bel w w' ∧ ∃ v, e = .returned (.tuple #[v, .int .i64 R.2.1, .int .i64 R.2.2]) ∧ w'.ownsRow w.heap.size 28 3 v R.1.length (lexCells R.1)
theorem cells3_new0 (w : World) (a b c : Value) (t : TypeId) : ∀ j u, [a, b, c][j]? = some u → (w.alloc (.cells #[a, b, c] t)).cell? ((⟨w.heap.size, 0, none⟩ : Addr).add j) = some u := by
  intro j u h
  have h0 : (w.alloc (.cells #[a, b, c] t)).heap[w.heap.size]? = some (.cells #[a, b, c] t (0, 0)) := World.alloc_heap_new _ _
  rw [show ((⟨w.heap.size, 0, none⟩ : Addr).add j) = ⟨w.heap.size, 0 + j, none⟩ from by unfold Addr.add; split <;> simp_all]
  simp only [World.cell?, h0, Nat.zero_add]
  match j, h with
  | 0, h => simpa using h
  | 1, h => simpa using h
  | 2, h => simpa using h
theorem cells3_new (w : World) (A : Obj) (a b c : Value) (t : TypeId) : ∀ j u, [a, b, c][j]? = some u → ((w.alloc A).alloc (.cells #[a, b, c] t)).cell? ((⟨w.heap.size + 1, 0, none⟩ : Addr).add j) = some u := by
  intro j u h
  have := cells3_new0 (w.alloc A) a b c t j u h
  rwa [show (w.alloc A).heap.size = w.heap.size + 1 from by simp] at this
theorem info_lex : (Tryd.prog.info? 28).map (fun i => (i.zero, i.size, i.bytes)) = some (some (.agg #[.int .i64 0, .int .i64 0, .string ⟨#[]⟩]), 3, 32) := by kernel_rfl

set_option maxRecDepth 100000 in
set_option maxHeartbeats 4000000 in
theorem lex_c (s : ByteArray) (hs : s.size ≤ 4294967280) (w : World) (hE : Env w) (hw : SignsAt w) :
    Calls Tryd.prog 8 #[.string s] w (RetLex (lexS s) w) := by
  have hck := fun v w1 (hb : Bel w w1) (hv : BytesAt w1 v s) => check_c s hs v w1 (hE.bel hb) hv
  have HCK := Lib.hid hck
  clear hck
  obtain ⟨k, hk⟩ : ∃ k, chkS s = k := ⟨_, rfl⟩
  rw [hk] at HCK
  by_cases hlt : k < s.size
  · rw [if_pos hlt] at HCK
    have hR : lexS s = ([], k, 4) := by unfold lexS; rw [hk, if_pos hlt]
    rw [hR]
    clear hR hk hlt
    go_enter Tryd.func8, Tryd.ntmps8
    go_wp2_with (refine wpL_bytes rfl 9 39 5 _ rfl s rfl Tryd.underlying9 Tryd.underlying39 Tryd.underlying5 ?_; intro v W1 hv hb1)
    refine (HCK.out _ _ hb1 hv).mono ?_
    rintro e w2 ⟨rfl, hb2⟩
    go_wp2_with fail
    go_ret3
    exact ⟨hb1.trans hb2, _, rfl, World.ownsRow_nil _ _ _ _⟩
  · rw [if_neg hlt] at HCK
    have hR : lexS s = lexF s s.size 0 [] := by unfold lexS; rw [hk, if_neg hlt]
    obtain ⟨⟨RL, R2, R3⟩, hRR⟩ : ∃ R, lexS s = R := ⟨_, rfl⟩
    rw [hRR] at hR ⊢
    have HR := Lib.hid hR
    have HE := Lib.hid hE
    have HW := Lib.hid hw
    clear hR hRR hk hlt hE hw
    go_enter Tryd.func8, Tryd.ntmps8
    go_wp2_with (refine wpL_bytes rfl 9 39 5 _ rfl s rfl Tryd.underlying9 Tryd.underlying39 Tryd.underlying5 ?_; intro v W1 hv hb1)
    refine (HCK.out _ _ hb1 hv).mono ?_
    rintro e w2 ⟨rfl, hb2⟩
    have hb0 := hb1.trans hb2
    clear hv
    go_wp2_with fail
    go_loopw [7, 8] (fun l i wr => ∃ (pos b : Nat) (acc : List (Int × Nat × ByteArray)), i = .int .i64 pos ∧ pos ≤ s.size ∧ acc.length ≤ pos ∧ Bel w wr ∧ wr.ownsRow w.heap.size 28 3 l acc.length (lexCells acc) ∧ s.size ≤ pos + b ∧ (RL, R2, R3) = lexF s b pos acc) (fun _ i _ => s.size - (intOf i).toNat)
    case atStart => exact ⟨0, s.size, [], rfl, Nat.zero_le _, Nat.zero_le _, hb0, World.ownsRow_nil _ _ _ _, by omega, HR.out⟩
    case round =>
      obtain ⟨pos, b, acc, rfl, hpl, hal, hbel, hown, hb, hsc⟩ := hrel
      clear hb1 hb2 hb0
      by_cases hp : pos < s.size
      · have hpi : (pos : Int) < s.size := by omega
        obtain ⟨b', rfl, hst⟩ := lexF_step s b pos acc hp hb
        obtain ⟨c, hc⟩ : ∃ c, s.get! pos = c := ⟨_, rfl⟩
        have hx2 : s[pos]'hp = c := by rw [← hc]; exact (get_at s pos hp).symm
        rw [← hsc, hc] at hst
        have hsp := fun w1 => space_c (c.toNat : Int) w1
        obtain ⟨S, hS⟩ : ∃ S, spaceC (c.toNat : Int) = S := ⟨_, rfl⟩
        rw [hS] at hsp hst
        have HSP := Lib.hid hsp
        have hcl := c.toNat_lt
        clear hsp hS hc hsc
        cases S
        · rw [if_neg (by decide)] at hst
          have hxs : (s.extract pos s.size).size = s.size - pos := by simp
          have hon := fun w1 (hb : Bel w w1) => one_c (s.extract pos s.size) (by omega) (by omega) w1 (signs_bel HW.out hb)
          have hle := oneS_le (s.extract pos s.size) (by omega)
          obtain ⟨x, hx⟩ : ∃ x, s.extract pos s.size = x := ⟨_, rfl⟩
          rw [hx] at hst hon hle hxs
          obtain ⟨⟨⟨T1, T2⟩, T3, T4⟩, hT⟩ : ∃ T, oneS x = T := ⟨_, rfl⟩
          rw [hT] at hst hon hle
          simp only [lexV] at hst hon hle
          obtain ⟨hle1, hle2⟩ := hle
          have HON := Lib.hid hon
          have HOWN := Lib.hid hown
          clear hon hown hT
          by_cases h0 : T4 = 0
          · subst h0
            rw [if_neg (by simp)] at hst
            have HST := Lib.hid hst
            have hle3 := hle2 rfl
            clear hst hle2
            go_wp2_with fail
            refine (HSP.out _).mono ?_
            rintro e w3 ⟨rfl, rfl⟩
            go_wp2_with fail
            refine (HON.out _ hbel).mono ?_
            rintro e w3 ⟨rfl, hb3⟩
            have HOWN2 := Lib.hid (own_bel HOWN.out hb3)
            go_wp2_with (at_builtin; refine wpL_append1 rfl _ _ 23 rfl w 28 (.agg #[.int .i64 0, .int .i64 0, .string ⟨#[]⟩]) 3 32 Tryd.underlying23 info_lex rfl (by decide) (by decide) _ acc.length (lexCells acc) rfl ((HOWN2.out.alloc _).alloc _) ⟨w3.heap.size + 1, 0, none⟩ 1 [.int .i64 T1, .int .i64 pos, .string T2] rfl rfl (cells3_new _ _ _ _ _ _) (by simp [Value.oneCell']) (by omega) (((hbel.trans hb3).to_alloc _).to_alloc _) ?_; intro g2 cp w4 hown4 hb4 hb5; have HOWN4 := Lib.hid hown4; clear hown4)
            exact ⟨⟨pos + T3, b', acc ++ [(T1, pos, T2)], by go_num, by omega, by simp; omega, hb4, by rw [lexCells_snoc, List.length_append]; exact HOWN4.out, by omega, HST.out⟩, by simp [intOf]; omega⟩
          · have h4 : ((T4 : Int) != 0) = true := by simp [h0]
            have h5 : ((T4 : Int) == 0) = false := by simp [h0]
            rw [if_pos h0] at hst
            have HST := Lib.hid hst
            clear hst hle2
            go_wp2_with fail
            refine (HSP.out _).mono ?_
            rintro e w3 ⟨rfl, rfl⟩
            go_wp2_with fail
            refine (HON.out _ hbel).mono ?_
            rintro e w3 ⟨rfl, hb3⟩
            go_wp2_with fail
            go_ret3
            have := HST.out
            injection this with e1 e2
            injection e2 with e2 e3
            subst e1 e2 e3
            exact ⟨((hbel.trans hb3).to_alloc _), _, rfl, World.ownsRow_nil _ _ _ _⟩
        · rw [if_pos rfl] at hst
          have HST := Lib.hid hst
          have HOWN := Lib.hid hown
          clear hst hown
          go_wp2_with fail
          refine (HSP.out _).mono ?_
          rintro e w3 ⟨rfl, rfl⟩
          go_wp2_with fail
          exact ⟨⟨pos + 1, b', acc, by go_num, hp, by omega, hbel, HOWN.out, by omega, HST.out⟩, by simp [intOf]; omega⟩
      · have hend := lexF_end s b pos acc hp
        rw [hend] at hsc
        injection hsc with e1 e2
        injection e2 with e2 e3
        have HOWN := Lib.hid hown
        have E1 := Lib.hid e1
        have E2 := Lib.hid e2
        have E3 := Lib.hid e3
        clear hown hend e1 e2 e3
        go_wp2_with (at_builtin; refine wpL_append1 rfl _ _ 23 rfl w 28 (.agg #[.int .i64 0, .int .i64 0, .string ⟨#[]⟩]) 3 32 Tryd.underlying23 info_lex rfl (by decide) (by decide) _ acc.length (lexCells acc) rfl (HOWN.out.alloc _) ⟨wr.heap.size, 0, none⟩ 1 [.int .i64 5, .int .i64 s.size, .string ⟨#[]⟩] rfl rfl (cells3_new0 _ _ _ _ _) (by simp [Value.oneCell']) (by omega) (hbel.to_alloc _) ?_; intro g2 cp w4 hown4 hb4 hb5; have HOWN4 := Lib.hid hown4; clear hown4)
        go_ret3
        refine ⟨hb4, .slice (some ⟨g2, 0, none⟩) (acc.length + 1) cp, ?_, ?_⟩
        · exact tup3 rfl (int_eq (by rw [E2.out])) (int_eq (by rw [E3.out]; rfl))
        · rw [E1.out, lexCells_snoc, List.length_append]
          exact HOWN4.out
end Go.Proofs.YtjnaikojoemkaaaDoor

namespace Go.Proofs.YtjnaikojoemkaaaDoor
open Go.RowKit

abbrev IsK (B b : Nat) (l : List UInt8) (w : World) : Prop := Lib.IsBuilderF 45 5 B b (Lib.byteCells l) w
theorem isK_new (w : World) : IsK w.heap.size w.heap.size [] (w.alloc (.cells #[.pointer none, .slice none 0 0] 45)) :=
  .inl ⟨Nat.le_refl _, .slice none 0 0, World.alloc_heap_new _ _, World.ownsRowF_nil _ _ _ _, by simp [Value.ownBlock]⟩
/-- What keeps all rows of cells keeps a builder. -/
theorem isK_keep {B b : Nat} {l : List UInt8} {w w' : World} (h : IsK B b l w) (hk : ∀ (k : Nat) (cs : Array Value) (t : TypeId) (fz : Nat × Nat), w.heap[k]? = some (Obj.cells cs t fz) → w'.heap[k]? = some (Obj.cells cs t fz)) : IsK B b l w' := by
  have row : ∀ v, w.ownsRowF B 5 1 v (Lib.byteCells l).length (Lib.byteCells l) → w'.ownsRowF B 5 1 v (Lib.byteCells l).length (Lib.byteCells l) := fun v ⟨h1, h2⟩ =>
    ⟨h1, h2.imp id fun ⟨g, cap, cur, fz, h3, h4, h5, h6⟩ => ⟨g, cap, cur, fz, h3, h4, hk _ _ _ _ h5, h6⟩⟩
  rcases h with ⟨h1, v, h2, h3, h4⟩ | ⟨h1, v, h2, h3, h4⟩
  · exact .inl ⟨h1, v, hk _ _ _ _ h2, row v h3, h4⟩
  · exact .inr ⟨h1, v, hk _ _ _ _ h2, row v h3, h4⟩
theorem isK_bel {B b : Nat} {l : List UInt8} {w w' : World} (h : IsK B b l w) (hb : Bel w w') : IsK B b l w' :=
  isK_keep h fun _ _ _ _ hk => (hb.block (Array.getElem?_eq_some_iff.1 hk).1).trans hk
/-- The builder's block is the call's own; nothing else but rows of bytes has changed. -/
abbrev OKept (b : Nat) (w w' : World) : Prop := Lib.OthersKept 5 (some b) w w'
theorem kbyte_c (B b : Nat) (l : List UInt8) (c : UInt8) (w : World) (h : IsK B b l w) (hlen : l.length ≤ 137438953472) (hB : B ≤ w.heap.size) :
    Calls Tryd.prog 15 #[.pointer (some ⟨b, 0, none⟩), .int .u8 c.toNat] w fun e w' => e = .returned .nilIface ∧ IsK B b (l ++ [c]) w' ∧ Below B w w' ∧ OKept b w w' := by
  refine (Any.Builder_WriteByte_k laysB167 extraB167 B b (Lib.byteCells l) c.toNat w h (by rw [Lib.byteCells_length]; omega) hB).mono ?_
  rintro e w' ⟨rfl, h1, h2, h3⟩
  have e : Lib.byteCells (l ++ [c]) = Lib.byteCells l ++ [Value.int .u8 c.toNat] := by simp [Lib.byteCells]
  refine ⟨rfl, ?_, h2, h3⟩
  unfold IsK
  rw [e]
  exact .inr h1
theorem kstr_c (B b : Nat) (l : List UInt8) (x : ByteArray) (w : World) (h : IsK B b l w) (hlen : l.length ≤ 137438953472) (hx : x.size ≤ 137438953472) (hB : B ≤ w.heap.size) :
    Calls Tryd.prog 16 #[.pointer (some ⟨b, 0, none⟩), .string x] w fun e w' => e = .returned (.tuple #[.int .i64 x.size, .nilIface]) ∧ IsK B b (l ++ x.data.toList) w' ∧ Below B w w' ∧ OKept b w w' := by
  refine (Any.Builder_WriteString_k laysB166 extraB166 B b (Lib.byteCells l) x w h (by rw [Lib.byteCells_length]; omega) hB).mono ?_
  rintro e w' ⟨rfl, h1, h2, h3⟩
  refine ⟨rfl, .inr ?_, h2, h3⟩
  have e : Lib.byteCells (l ++ x.data.toList) = Lib.byteCells l ++ Lib.strCells x := by simp [Lib.byteCells, Lib.strCells]
  rw [e]
  exact h1
theorem krune_c (B b : Nat) (l y : List UInt8) (c : Int) (w : World) (h0 : 0 ≤ c) (h1 : c ≤ 1114111) (hy : Lib.runeCells c = Lib.byteCells y) (h : IsK B b l w) (hlen : l.length ≤ 137438953472) (hB : B ≤ w.heap.size) :
    Calls Tryd.prog 17 #[.pointer (some ⟨b, 0, none⟩), .int .i32 c] w fun e w' => e = .returned (.tuple #[.int .i64 y.length, .nilIface]) ∧ IsK B b (l ++ y) w' ∧ Below B w w' ∧ OKept b w w' := by
  refine (Any.Builder_WriteRune_k laysB168 extraB168 B b (Lib.byteCells l) c (by omega) (by omega) w h (by rw [Lib.byteCells_length]; omega) hB).mono ?_
  rintro e w' ⟨rfl, h1, h2, h3⟩
  rw [hy] at h1 ⊢
  refine ⟨by rw [Lib.byteCells_length], .inr ?_, h2, h3⟩
  have e : Lib.byteCells (l ++ y) = Lib.byteCells l ++ Lib.byteCells y := by simp [Lib.byteCells]
  rw [e]
  exact h1
theorem kget_c (B b : Nat) (l : List UInt8) (w : World) (h : IsK B b l w) (hB : B ≤ w.heap.size) :
    Calls Tryd.prog 18 #[.pointer (some ⟨b, 0, none⟩)] w fun e w' => e = .returned (.string ⟨l.toArray⟩) ∧ Below B w w' := by
  refine (Tryd.Builder_String_any_k B b l w h hB).mono ?_
  rintro e w' ⟨rfl, _, h2, _⟩
  exact ⟨rfl, h2⟩
end Go.Proofs.YtjnaikojoemkaaaDoor
