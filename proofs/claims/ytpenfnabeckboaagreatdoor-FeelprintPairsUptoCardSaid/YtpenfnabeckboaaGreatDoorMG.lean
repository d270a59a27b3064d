/-
  The contracts of strings.Builder, laid by hand (the kit's lay-shelf stops at a name in this dump).
  feellex: the walk of text.
  feellex: the walk of one.
  The walks of utf.Space and utf.Check.
  feellex: the plain law of Lex.
  feellex: the walk of Lex.
  strings.Builder while an iterator is at work: what is written, and that all other blocks stay.
-/
import Derived.Test.YtpenfnabeckboaaGreatDoorUCA
import Derived.Test.YtpenfnabeckboaaGreatDoorShelf
import Derived.Shelf.Strings.Builder1
import Derived.Shelf.Strings.BuilderK
import Derived.Test.YtpenfnabeckboaaGreatDoorMB
import Derived.Test.YtpenfnabeckboaaGreatDoorMF
import Derived.Test.YtpenfnabeckboaaGreatDoorMK
import Derived.Shelf.Strings.BuilderRune
namespace Go.Proofs.YtpenfnabeckboaaGreatDoor
open Go.RowKit
def laysB166_ren : Go.Shelf.Ren := ⟨fun | 166 => 79 | 240 => 107 | 276 => 139 | n => n, fun | 0 => 0 | 3 => 3 | 4 => 4 | 9 => 9 | 20 => 20 | 37 => 54 | 70 => 66 | 72 => 68 | 75 => 97 | 164 => 160 | 5 => 5 | 80 => 72 | n => n, fun | n => n⟩
theorem laysB166 : Go.Proofs.Lays.n166 Tryz.prog laysB166_ren := {
  mixed := by kernel_rfl
  f166 := Tryz.func79.trans (congrArg some (by kernel_rfl))
  f240 := Tryz.func107.trans (congrArg some (by kernel_rfl))
  f276 := Tryz.func139.trans (congrArg some (by kernel_rfl))
  t0 := Tryz.underlying0
  a0 := Tryz.isAgg0
  z0 := Tryz.sizeOf0
  v0 := Tryz.zeroValue0
  t3 := Tryz.underlying3
  a3 := Tryz.isAgg3
  z3 := Tryz.sizeOf3
  v3 := Tryz.zeroValue3
  t4 := Tryz.underlying4
  a4 := Tryz.isAgg4
  z4 := Tryz.sizeOf4
  v4 := Tryz.zeroValue4
  t9 := Tryz.underlying9
  a9 := Tryz.isAgg9
  z9 := Tryz.sizeOf9
  v9 := Tryz.zeroValue9
  t20 := Tryz.underlying20
  a20 := Tryz.isAgg20
  z20 := Tryz.sizeOf20
  v20 := Tryz.zeroValue20
  t37 := Tryz.underlying54
  a37 := Tryz.isAgg54
  z37 := Tryz.sizeOf54
  v37 := Tryz.zeroValue54
  t70 := Tryz.underlying66
  a70 := Tryz.isAgg66
  z70 := Tryz.sizeOf66
  v70 := Tryz.zeroValue66
  t72 := Tryz.underlying68
  a72 := Tryz.isAgg68
  z72 := Tryz.sizeOf68
  v72 := Tryz.zeroValue68
  t75 := Tryz.underlying97
  a75 := Tryz.isAgg97
  z75 := Tryz.sizeOf97
  v75 := Tryz.zeroValue97
  t164 := Tryz.underlying160
  a164 := Tryz.isAgg160
  z164 := Tryz.sizeOf160
  v164 := Tryz.zeroValue160 }
theorem extraB166 : Builder.Extra Tryz.prog laysB166_ren := {
  sizeBuilder := by kernel_rfl
  liesBuilder := by kernel_rfl
  t5 := Tryz.underlying5
  a5 := Tryz.isAgg5
  z5 := Tryz.sizeOf5
  v5 := Tryz.zeroValue5
  infoByte := by kernel_rfl
  cellsByte := by kernel_rfl
  sizeByte := by kernel_rfl
  neB5 := by decide }
def laysB167_ren : Go.Shelf.Ren := ⟨fun | 167 => 80 | 240 => 107 | 276 => 139 | n => n, fun | 0 => 0 | 4 => 4 | 5 => 5 | 9 => 9 | 20 => 20 | 37 => 54 | 70 => 66 | 72 => 68 | 75 => 97 | 164 => 160 | 80 => 72 | n => n, fun | n => n⟩
theorem laysB167 : Go.Proofs.Lays.n167 Tryz.prog laysB167_ren := {
  mixed := by kernel_rfl
  f167 := Tryz.func80.trans (congrArg some (by kernel_rfl))
  f240 := Tryz.func107.trans (congrArg some (by kernel_rfl))
  f276 := Tryz.func139.trans (congrArg some (by kernel_rfl))
  t0 := Tryz.underlying0
  a0 := Tryz.isAgg0
  z0 := Tryz.sizeOf0
  v0 := Tryz.zeroValue0
  t4 := Tryz.underlying4
  a4 := Tryz.isAgg4
  z4 := Tryz.sizeOf4
  v4 := Tryz.zeroValue4
  t5 := Tryz.underlying5
  a5 := Tryz.isAgg5
  z5 := Tryz.sizeOf5
  v5 := Tryz.zeroValue5
  t9 := Tryz.underlying9
  a9 := Tryz.isAgg9
  z9 := Tryz.sizeOf9
  v9 := Tryz.zeroValue9
  t20 := Tryz.underlying20
  a20 := Tryz.isAgg20
  z20 := Tryz.sizeOf20
  v20 := Tryz.zeroValue20
  t37 := Tryz.underlying54
  a37 := Tryz.isAgg54
  z37 := Tryz.sizeOf54
  v37 := Tryz.zeroValue54
  t70 := Tryz.underlying66
  a70 := Tryz.isAgg66
  z70 := Tryz.sizeOf66
  v70 := Tryz.zeroValue66
  t72 := Tryz.underlying68
  a72 := Tryz.isAgg68
  z72 := Tryz.sizeOf68
  v72 := Tryz.zeroValue68
  t75 := Tryz.underlying97
  a75 := Tryz.isAgg97
  z75 := Tryz.sizeOf97
  v75 := Tryz.zeroValue97
  t164 := Tryz.underlying160
  a164 := Tryz.isAgg160
  z164 := Tryz.sizeOf160
  v164 := Tryz.zeroValue160 }
theorem extraB167 : Builder.Extra Tryz.prog laysB167_ren := {
  sizeBuilder := by kernel_rfl
  liesBuilder := by kernel_rfl
  t5 := Tryz.underlying5
  a5 := Tryz.isAgg5
  z5 := Tryz.sizeOf5
  v5 := Tryz.zeroValue5
  infoByte := by kernel_rfl
  cellsByte := by kernel_rfl
  sizeByte := by kernel_rfl
  neB5 := by decide }
def laysB168_ren : Go.Shelf.Ren := ⟨fun | 168 => 126 | 240 => 107 | 242 => 138 | 276 => 139 | 278 => 163 | n => n, fun | 0 => 0 | 3 => 3 | 4 => 4 | 5 => 5 | 9 => 9 | 20 => 20 | 21 => 21 | 37 => 54 | 46 => 120 | 51 => 179 | 70 => 66 | 72 => 68 | 75 => 97 | 164 => 160 | 80 => 72 | n => n, fun | n => n⟩
theorem laysB168 : Go.Proofs.Lays.n168 Tryz.prog laysB168_ren := {
  mixed := by kernel_rfl
  f168 := Tryz.func126.trans (congrArg some (by kernel_rfl))
  f240 := Tryz.func107.trans (congrArg some (by kernel_rfl))
  f242 := Tryz.func138.trans (congrArg some (by kernel_rfl))
  f276 := Tryz.func139.trans (congrArg some (by kernel_rfl))
  f278 := Tryz.func163.trans (congrArg some (by kernel_rfl))
  t0 := Tryz.underlying0
  a0 := Tryz.isAgg0
  z0 := Tryz.sizeOf0
  v0 := Tryz.zeroValue0
  t3 := Tryz.underlying3
  a3 := Tryz.isAgg3
  z3 := Tryz.sizeOf3
  v3 := Tryz.zeroValue3
  t4 := Tryz.underlying4
  a4 := Tryz.isAgg4
  z4 := Tryz.sizeOf4
  v4 := Tryz.zeroValue4
  t5 := Tryz.underlying5
  a5 := Tryz.isAgg5
  z5 := Tryz.sizeOf5
  v5 := Tryz.zeroValue5
  t9 := Tryz.underlying9
  a9 := Tryz.isAgg9
  z9 := Tryz.sizeOf9
  v9 := Tryz.zeroValue9
  t20 := Tryz.underlying20
  a20 := Tryz.isAgg20
  z20 := Tryz.sizeOf20
  v20 := Tryz.zeroValue20
  t21 := Tryz.underlying21
  a21 := Tryz.isAgg21
  z21 := Tryz.sizeOf21
  v21 := Tryz.zeroValue21
  t37 := Tryz.underlying54
  a37 := Tryz.isAgg54
  z37 := Tryz.sizeOf54
  v37 := Tryz.zeroValue54
  t46 := Tryz.underlying120
  a46 := Tryz.isAgg120
  z46 := Tryz.sizeOf120
  v46 := Tryz.zeroValue120
  t51 := Tryz.underlying179
  a51 := Tryz.isAgg179
  z51 := Tryz.sizeOf179
  v51 := Tryz.zeroValue179
  t70 := Tryz.underlying66
  a70 := Tryz.isAgg66
  z70 := Tryz.sizeOf66
  v70 := Tryz.zeroValue66
  t72 := Tryz.underlying68
  a72 := Tryz.isAgg68
  z72 := Tryz.sizeOf68
  v72 := Tryz.zeroValue68
  t75 := Tryz.underlying97
  a75 := Tryz.isAgg97
  z75 := Tryz.sizeOf97
  v75 := Tryz.zeroValue97
  t164 := Tryz.underlying160
  a164 := Tryz.isAgg160
  z164 := Tryz.sizeOf160
  v164 := Tryz.zeroValue160 }
theorem extraB168 : Builder.Extra Tryz.prog laysB168_ren := {
  sizeBuilder := by kernel_rfl
  liesBuilder := by kernel_rfl
  t5 := Tryz.underlying5
  a5 := Tryz.isAgg5
  z5 := Tryz.sizeOf5
  v5 := Tryz.zeroValue5
  infoByte := by kernel_rfl
  cellsByte := by kernel_rfl
  sizeByte := by kernel_rfl
  neB5 := by decide }
end Go.Proofs.YtpenfnabeckboaaGreatDoor

namespace Go.Proofs.YtpenfnabeckboaaGreatDoor
open Go.RowKit
/-- A text in quotes, from a place on: what it tells, how many bytes it has (or where it is wrong), what is wrong. -/
def textF (s : ByteArray) : Nat → Nat → List UInt8 → ByteArray × Nat × Nat
  | 0, _, _ => (⟨#[]⟩, s.size, 10)
  | b + 1, pos, acc => if pos < s.size then
      if s.get! pos = 34 then (⟨acc.toArray⟩, pos + 1, 0)
      else if s.get! pos = 92 then
        if (escS (s.extract pos s.size)).2 = 0 then (⟨#[]⟩, pos, 11) else textF s b (pos + (escS (s.extract pos s.size)).2) (acc ++ (escS (s.extract pos s.size)).1.data.toList)
      else textF s b (pos + 1) (acc ++ [s.get! pos])
    else (⟨#[]⟩, s.size, 10)
def textS (s : ByteArray) : ByteArray × Nat × Nat := textF s s.size 1 []
theorem textF_end (s : ByteArray) (b pos : Nat) (acc : List UInt8) (h : ¬ pos < s.size) : textF s b pos acc = (⟨#[]⟩, s.size, 10) := by
  cases b with
  | zero => rfl
  | succ b => rw [textF, if_neg h]
theorem textF_step (s : ByteArray) (b pos : Nat) (acc : List UInt8) (h : pos < s.size) (hb : s.size ≤ pos + b) : ∃ b', b = b' + 1 ∧ textF s b pos acc =
    if s.get! pos = 34 then (⟨acc.toArray⟩, pos + 1, 0)
      else if s.get! pos = 92 then
        if (escS (s.extract pos s.size)).2 = 0 then (⟨#[]⟩, pos, 11) else textF s b' (pos + (escS (s.extract pos s.size)).2) (acc ++ (escS (s.extract pos s.size)).1.data.toList)
      else textF s b' (pos + 1) (acc ++ [s.get! pos]) := by
  cases b with
  | zero => omega
  | succ b => exact ⟨b, rfl, by rw [textF, if_pos h]⟩
theorem escS_size (t : ByteArray) : (escS t).2 ≤ t.size ∧ (escS t).1.size ≤ 4 := by
  unfold escS
  split
  · exact ⟨Nat.zero_le _, Nat.zero_le _⟩
  · split
    · exact ⟨by show 2 ≤ t.size; omega, by show 1 ≤ 4; omega⟩
    · split
      · rename_i h
        split
        · refine ⟨h.2.1, ?_⟩
          show (List.toArray _).size ≤ 4
          have := (putI_length (hexN (t.extract 2 6).data.toList)).2
          simpa using this
        · exact ⟨Nat.zero_le _, Nat.zero_le _⟩
      · exact ⟨Nat.zero_le _, Nat.zero_le _⟩
abbrev IsB (B b : Nat) (l : List UInt8) (w : World) : Prop := Lib.IsBuilder 68 5 B b (Lib.byteCells l) w
theorem isB_new (w : World) : IsB w.heap.size w.heap.size [] (w.alloc (.cells #[.pointer none, .slice none 0 0] 68)) :=
  .inl ⟨Nat.le_refl _, .slice none 0 0, World.alloc_heap_new _ _, World.ownsRow_nil _ _ _ _, by simp [Value.ownBlock]⟩
theorem isB_bel {B b : Nat} {l : List UInt8} {w w' : World} (h : IsB B b l w) (hb : Bel w w') : IsB B b l w' := by
  rcases h with ⟨h1, v, h2, h3, h4⟩ | ⟨h1, v, h2, h3, h4⟩
  · exact .inl ⟨h1, v, (hb.block (Array.getElem?_eq_some_iff.1 h2).1).trans h2, own_bel h3 hb, h4⟩
  · exact .inr ⟨h1, v, (hb.block (Array.getElem?_eq_some_iff.1 h2).1).trans h2, own_bel h3 hb, h4⟩
theorem wbyte_c (B b : Nat) (l : List UInt8) (c : UInt8) (w : World) (h : IsB B b l w) (hlen : l.length ≤ 137438953472) (hB : B ≤ w.heap.size) :
    Calls Tryz.prog 80 #[.pointer (some ⟨b, 0, none⟩), .int .u8 c.toNat] w fun e w' => e = .returned .nilIface ∧ IsB B b (l ++ [c]) w' ∧ Below B w w' := by
  refine (Any.Builder_WriteByte laysB167 extraB167 B b (Lib.byteCells l) c.toNat w h (by rw [Lib.byteCells_length]; omega) hB).mono ?_
  rintro e w' ⟨rfl, h1, h2⟩
  have e : Lib.byteCells (l ++ [c]) = Lib.byteCells l ++ [Value.int .u8 c.toNat] := by simp [Lib.byteCells]
  refine ⟨rfl, ?_, h2⟩
  unfold IsB
  rw [e]
  exact .inr h1
theorem wstr_c (B b : Nat) (l : List UInt8) (x : ByteArray) (w : World) (h : IsB B b l w) (hlen : l.length ≤ 137438953472) (hx : x.size ≤ 137438953472) (hB : B ≤ w.heap.size) :
    Calls Tryz.prog 79 #[.pointer (some ⟨b, 0, none⟩), .string x] w fun e w' => e = .returned (.tuple #[.int .i64 x.size, .nilIface]) ∧ IsB B b (l ++ x.data.toList) w' ∧ Below B w w' := by
  refine (Any.Builder_WriteString laysB166 extraB166 B b (Lib.byteCells l) x w h (by rw [Lib.byteCells_length]; omega) hB).mono ?_
  rintro e w' ⟨rfl, h1, h2⟩
  refine ⟨rfl, .inr ?_, h2⟩
  have e : Lib.byteCells (l ++ x.data.toList) = Lib.byteCells l ++ Lib.strCells x := by simp [Lib.byteCells, Lib.strCells]
  rw [e]
  exact h1
set_option maxRecDepth 100000 in
set_option maxHeartbeats 4000000 in
theorem text_c (s : ByteArray) (hs : s.size ≤ 4294967280) (h1 : 1 ≤ s.size) (w : World) :
    Calls Tryz.prog 44 #[.string s] w fun e w' => e = .returned (.tuple #[.string (textS s).1, .int .i64 (textS s).2.1, .int .i64 (textS s).2.2]) ∧ Bel w w' := by
  obtain ⟨⟨R1, R2, R3⟩, hR⟩ : ∃ R, textS s = R := ⟨_, rfl⟩
  rw [hR]
  have HR := Lib.hid hR
  clear hR
  go_enter Tryz.func44, Tryz.ntmps44
  go_wp2_with fail
  go_loopw [6] (fun i wr => ∃ (pos b : Nat) (acc : List UInt8), pos ≤ s.size ∧ i = .int .i64 pos ∧ IsB w.heap.size w.heap.size acc wr ∧ Bel w wr ∧ acc.length ≤ 4 * pos ∧ s.size ≤ pos + b ∧ textF s b pos acc = (R1, R2, R3)) (fun i _ => s.size - (intOf i).toNat)
  case atStart => exact ⟨1, s.size, [], h1, rfl, isB_new w, Bel.alloc _ _, by simp, by omega, HR.out⟩
  case round =>
    obtain ⟨pos, b, acc, hpl, rfl, hib, hbel, hal, hb, hsc⟩ := hrel
    by_cases hp : pos < s.size
    · have hpi : (pos : Int) < s.size := by omega
      obtain ⟨b', rfl, hst⟩ := textF_step s b pos acc hp hb
      rw [hsc] at hst
      obtain ⟨c, hc⟩ : ∃ c, s.get! pos = c := ⟨_, rfl⟩
      have hx2 : s[pos]'hp = c := by rw [← hc]; exact (get_at s pos hp).symm
      rw [hc] at hst
      have hHS := hbel.size
      by_cases h34 : c = 34
      · have e34 : ((c.toNat : Int) == 34) = true := by rw [h34]; rfl
        rw [if_pos h34] at hst
        have hstr := Tryz.Builder_String_any w.heap.size w.heap.size acc wr hib hHS
        have HS := Lib.hid hstr
        have HST := Lib.hid hst
        clear hstr hst hc hsc h34 hib
        go_wp2_with fail
        refine HS.out.mono ?_
        rintro e w1 ⟨rfl, h3⟩
        go_wp2_with fail
        go_ret3
        have := HST.out
        injection this with e1 e2
        injection e2 with e2 e3
        subst e1 e2 e3
        exact ⟨rfl, Below.trans hbel h3⟩
      · have e34 : ((c.toNat : Int) == 34) = false := by
          simp only [beq_eq_false_iff_ne, ne_eq]
          intro h
          exact h34 (UInt8.toNat_inj.1 (by rw [show (34 : UInt8).toNat = 34 from rfl]; omega))
        rw [if_neg h34] at hst
        by_cases h92 : c = 92
        · have e92 : ((c.toNat : Int) == 92) = true := by rw [h92]; rfl
          rw [if_pos h92] at hst
          have hxs : (s.extract pos s.size).size = s.size - pos := by simp
          have hes := fun w1 => escape_c (s.extract pos s.size) (by omega) w1
          have hsz := escS_size (s.extract pos s.size)
          obtain ⟨x, hx⟩ : ∃ x, s.extract pos s.size = x := ⟨_, rfl⟩
          rw [hx] at hst hes hsz hxs
          obtain ⟨⟨E1, E2⟩, hE⟩ : ∃ E, escS x = E := ⟨_, rfl⟩
          rw [hE] at hst hes hsz
          have HES := Lib.hid hes
          have HST := Lib.hid hst
          obtain ⟨hsz1, hsz2⟩ := hsz
          have HIB := Lib.hid hib
          clear hes hst hE hc hsc h34 h92 hib
          by_cases h0 : E2 = 0
          · subst h0
            go_wp2_with fail
            refine (HES.out _).mono ?_
            rintro e w1 ⟨rfl, h3⟩
            go_wp2_with fail
            go_ret3
            have := HST.out
            rw [if_pos (by trivial)] at this
            injection this with e1 e2
            injection e2 with e2 e3
            subst e1 e2 e3
            exact ⟨rfl, hbel.trans h3⟩
          · have h0i : ((E2 : Int) == 0) = false := by simp [h0]
            go_wp2_with fail
            refine (HES.out _).mono ?_
            rintro e w1 ⟨rfl, h3⟩
            have hws := fun w2 (hb : Bel w1 w2) => wstr_c w.heap.size w.heap.size acc E1 w2 (isB_bel HIB.out (h3.trans hb)) (by omega) (by omega) (Nat.le_trans hHS (h3.trans hb).size)
            have HWS := Lib.hid hws
            clear hws
            go_wp2_with fail
            refine (HWS.out _ (Bel.refl _)).mono ?_
            rintro e w2 ⟨rfl, h4, h5⟩
            go_wp2_with fail
            have hst2 := HST.out
            rw [if_neg h0] at hst2
            refine ⟨⟨pos + E2, b', acc ++ E1.data.toList, by omega, by go_num, h4, Below.trans (hbel.trans h3) h5, ?_, by omega, hst2.symm⟩, by simp [intOf]; omega⟩
            rw [List.length_append]
            have : E1.data.toList.length = E1.size := rfl
            omega
        · have e92 : ((c.toNat : Int) == 92) = false := by
            simp only [beq_eq_false_iff_ne, ne_eq]
            intro h
            exact h92 (UInt8.toNat_inj.1 (by rw [show (92 : UInt8).toNat = 92 from rfl]; omega))
          rw [if_neg h92] at hst
          have hwb := wbyte_c w.heap.size w.heap.size acc c wr hib (by omega) hHS
          have HWB := Lib.hid hwb
          have HST := Lib.hid hst
          clear hwb hst hc hsc h34 h92 hib
          go_wp2_with fail
          refine HWB.out.mono ?_
          rintro e w2 ⟨rfl, h4, h5⟩
          go_wp2_with fail
          exact ⟨⟨pos + 1, b', acc ++ [c], by omega, by go_num, h4, Below.trans hbel h5, by simp; omega, by omega, HST.out.symm⟩, by simp [intOf]; omega⟩
    · have hend := textF_end s b pos acc hp
      rw [hsc] at hend
      injection hend with e1 e2
      injection e2 with e2 e3
      subst e1 e2 e3
      clear hsc
      go_wp2_with fail
      go_ret3
      exact ⟨rfl, hbel⟩
end Go.Proofs.YtpenfnabeckboaaGreatDoor

namespace Go.Proofs.YtpenfnabeckboaaGreatDoor
open Go.RowKit
/-- The token that a text begins with, how many bytes it has, what is wrong. -/
def oneS (s : ByteArray) : (Int × ByteArray) × Nat × Nat :=
  if wordN s ≠ 0 then ((if isKw (s.extract 0 (wordN s)) = true then 1 else 0, s.extract 0 (wordN s)), wordN s, 0)
  else if numN s ≠ 0 then ((2, s.extract 0 (numN s)), numN s, 0)
  else if s.get! 0 = 34 then ((3, (textS s).1), (textS s).2.1, (textS s).2.2)
  else if (signS s).size = 0 then ((0, ⟨#[]⟩), 0, 11)
  else ((4, signS s), (signS s).size, 0)
def lexV (k a : Int) (s : ByteArray) : Value := .agg #[.int .i64 k, .int .i64 a, .string s]
theorem wordF_le (s : ByteArray) : ∀ b pos, pos ≤ s.size → wordF s b pos ≤ s.size
  | 0, pos, h => h
  | b + 1, pos, h => by
    unfold wordF
    split
    · rename_i hp
      split
      · exact wordF_le s b _ (decode_fits s pos hp)
      · exact h
    · exact h
theorem numN_le (s : ByteArray) : numN s ≤ s.size := by
  unfold numN
  split
  · rename_i h
    have h1 := hasPrefix_one _ _ h.1
    have h2 := digN_le (s.extract (digN s + 1) s.size)
    simp at h1 h2
    omega
  · exact digN_le s
theorem results_cell3 {P : Program} {fn : Func} {p u v : Tmp} {ty : TypeId} (h : fn.results = #[.cell p ty, .tmp u, .tmp v]) (tmps : Array Value) (w : World) (g : Nat) (x : Value)
    (hp : tmps.getD p undef = .pointer (some ⟨g, 0, none⟩)) (hl : (loadVar ty ⟨g, 0, none⟩).run P w = .ok x w) : (results fn tmps).run P w = .ok (.tuple #[x, tmps.getD u undef, tmps.getD v undef]) w := by
  have hp' : tmps[p]?.getD undef = .pointer (some ⟨g, 0, none⟩) := by simpa using hp
  simp [results, h, hp', asAddr, hl, Result.andThen]
theorem signs_bel {w w' : World} (h : SignsAt w) (hb : Bel w w') : SignsAt w' := fun j v hv => by
  have h1 := h j v hv
  rw [(bcell hb).1 _ _ (cell_lt h1)]
  exact h1
/-- The result's block: it can be written; what is written is what it reads as. -/
theorem lex_fin (w W : World) (k : Int) (x : ByteArray) (hb : Bel (w.alloc (.cells #[.int .i64 0, .int .i64 0, .string ⟨#[]⟩] 43)) W) :
    W.there w.heap.size 0 3 ∧ (loadVar 43 ⟨w.heap.size, 0, none⟩).run Tryz.prog (W.setCells w.heap.size 0 [.int .i64 k, .int .i64 0, .string x]) = .ok (lexV k 0 x) (W.setCells w.heap.size 0 [.int .i64 k, .int .i64 0, .string x]) ∧ Bel w (W.setCells w.heap.size 0 [.int .i64 k, .int .i64 0, .string x]) := by
  have ht : W.there w.heap.size 0 3 := by
    have h0 : W.heap[w.heap.size]? = some (.cells #[.int .i64 0, .int .i64 0, .string ⟨#[]⟩] 43 (0, 0)) := (hb.block (by simp)).trans (World.alloc_heap_new _ _)
    intro j hj
    constructor
    · simp only [World.cell?, h0, Nat.zero_add]
      match j, hj with
      | 0, _ => rfl
      | 1, _ => rfl
      | 2, _ => rfl
    · simp [World.frozen?, h0]
  refine ⟨ht, ?_, ?_⟩
  · exact run_loadVar_mid _ w.heap.size 0 43 [.int .i64 k, .int .i64 0, .string x] _ (World.rangeAt_setCells_same W _ _ _ ht) Tryz.underlying43 rfl (by kernel_rfl)
  · exact Bel.to_setCell (Bel.to_setCell (Bel.to_setCell ((Bel.alloc w _).trans hb) (p := ⟨w.heap.size, 0, none⟩) (Nat.le_refl _) _) (p := ⟨w.heap.size, 1, none⟩) (Nat.le_refl _) _) (p := ⟨w.heap.size, 2, none⟩) (Nat.le_refl _) _
theorem lex_facts (w W : World) (hb : Bel (w.alloc (.cells #[.int .i64 0, .int .i64 0, .string ⟨#[]⟩] 43)) W) :
    W.cell? ⟨w.heap.size, 0, none⟩ = some (.int .i64 0) ∧ W.cell? ⟨w.heap.size, 1, none⟩ = some (.int .i64 0) ∧ W.cell? ⟨w.heap.size, 2, none⟩ = some (.string ⟨#[]⟩) ∧ (∀ o, W.frozen? ⟨w.heap.size, o, none⟩ = false) := by
  have h0 : W.heap[w.heap.size]? = some (.cells #[.int .i64 0, .int .i64 0, .string ⟨#[]⟩] 43 (0, 0)) := (hb.block (by simp)).trans (World.alloc_heap_new _ _)
  exact ⟨by simp [World.cell?, h0], by simp [World.cell?, h0], by simp [World.cell?, h0], fun o => by simp [World.frozen?, h0]⟩
set_option maxRecDepth 100000 in
set_option maxHeartbeats 4000000 in
theorem lone_c (s : ByteArray) (hs : s.size ≤ 4294967280) (h1 : 1 ≤ s.size) (w : World) (hw : SignsAt w) :
    Calls Tryz.prog 29 #[.string s] w fun e w' => e = .returned (.tuple #[lexV (oneS s).1.1 0 (oneS s).1.2, .int .i64 (oneS s).2.1, .int .i64 (oneS s).2.2]) ∧ Bel w w' := by
  obtain ⟨⟨⟨R0, R1⟩, R2, R3⟩, hR⟩ : ∃ R, oneS s = R := ⟨_, rfl⟩
  rw [hR]
  unfold oneS at hR
  have hwd := fun w1 => word_f s hs w1
  have hle : wordN s ≤ s.size := wordF_le s _ 0 (Nat.zero_le _)
  obtain ⟨n, hn⟩ : ∃ n, wordN s = n := ⟨_, rfl⟩
  rw [hn] at hwd hle hR
  have hxs : (s.extract 0 n).size = n := by simp; omega
  have hxe := isEmpty_size _ _ hxs
  have hkw := fun w1 => keyword_c (s.extract 0 n) (by omega) w1
  obtain ⟨x, hx⟩ : ∃ x, s.extract 0 n = x := ⟨_, rfl⟩
  rw [hx] at hwd hxs hxe hkw hR
  have HWD := Lib.hid hwd
  have HKW := Lib.hid hkw
  clear hwd hkw hn hx
  by_cases h0 : n = 0
  · subst h0
    rw [if_neg (by simp)] at hR
    rw [decide_eq_true rfl] at hxe
    have hnu := fun w1 => number_c s hs w1
    have hml := numN_le s
    obtain ⟨m, hm⟩ : ∃ m, numN s = m := ⟨_, rfl⟩
    rw [hm] at hnu hml hR
    have hys : (s.extract 0 m).size = m := by simp; omega
    have hye := isEmpty_size _ _ hys
    obtain ⟨y, hy⟩ : ∃ y, s.extract 0 m = y := ⟨_, rfl⟩
    rw [hy] at hnu hys hye hR
    have HNU := Lib.hid hnu
    clear hnu hm hy
    by_cases hm0 : m = 0
    · subst hm0
      rw [if_neg (by simp)] at hR
      rw [decide_eq_true rfl] at hye
      obtain ⟨c, hc⟩ : ∃ c, s.get! 0 = c := ⟨_, rfl⟩
      have hx2 : s[0]'h1 = c := by rw [← hc]; exact (get_at s 0 h1).symm
      rw [hc] at hR
      clear hc
      by_cases h34 : c = 34
      · have e34 : ((c.toNat : Int) == 34) = true := by rw [h34]; rfl
        rw [if_pos h34] at hR
        have htx := fun w1 => text_c s hs h1 w1
        obtain ⟨⟨T1, T2, T3⟩, hT⟩ : ∃ T, textS s = T := ⟨_, rfl⟩
        rw [hT] at htx hR
        have HTX := Lib.hid htx
        have HR := Lib.hid hR
        clear htx hR hT h34
        go_enter Tryz.func29, Tryz.ntmps29
        go_wp2_with fail
        refine (HWD.out _).mono ?_
        rintro e w1 ⟨rfl, hb1⟩
        go_wp2_with fail
        refine (HNU.out _).mono ?_
        rintro e w2 ⟨rfl, hb2⟩
        go_wp2_with fail
        refine (HTX.out _).mono ?_
        rintro e w3 ⟨rfl, hb3⟩
        have FIN := Lib.hid (lex_fin w w3 3 T1 ((hb1.trans hb2).trans hb3))
        obtain ⟨f0, f1, f2, f3⟩ := lex_facts w w3 ((hb1.trans hb2).trans hb3)
        go_wp2_with fail
        have := HR.out
        injection this with e1 e2
        injection e1 with e1 e3
        injection e2 with e2 e4
        subst e1 e2 e3 e4
        refine bodyPost_ret (results_cell3 rfl _ _ w.heap.size _ rfl FIN.out.2.1) rfl ?_
        exact ⟨rfl, FIN.out.2.2⟩
      · have e34 : ((c.toNat : Int) == 34) = false := by
          simp only [beq_eq_false_iff_ne, ne_eq]
          intro h
          exact h34 (UInt8.toNat_inj.1 (by rw [show (34 : UInt8).toNat = 34 from rfl]; omega))
        rw [if_neg h34] at hR
        have hsg := fun w1 (hb : Bel w w1) => sign_c s w1 (signs_bel hw hb)
        obtain ⟨z, hz⟩ : ∃ z, signS s = z := ⟨_, rfl⟩
        rw [hz] at hsg hR
        have HSG := Lib.hid hsg
        clear hsg hz h34
        have hze := isEmpty_size z _ rfl
        by_cases hz0 : z.size = 0
        · rw [decide_eq_true hz0] at hze
          rw [if_pos hz0] at hR
          have HR := Lib.hid hR
          clear hR hz0
          go_enter Tryz.func29, Tryz.ntmps29
          go_wp2_with fail
          refine (HWD.out _).mono ?_
          rintro e w1 ⟨rfl, hb1⟩
          go_wp2_with fail
          refine (HNU.out _).mono ?_
          rintro e w2 ⟨rfl, hb2⟩
          go_wp2_with fail
          refine (HSG.out _ (((Bel.alloc _ _).trans hb1).trans hb2)).mono ?_
          rintro e w3 ⟨rfl, rfl⟩
          have FIN := Lib.hid (lex_fin w w2 0 ⟨#[]⟩ (hb1.trans hb2))
          obtain ⟨f0, f1, f2, f3⟩ := lex_facts w w2 (hb1.trans hb2)
          go_wp2_with fail
          have := HR.out
          injection this with e1 e2
          injection e1 with e1 e3
          injection e2 with e2 e4
          subst e1 e2 e3 e4
          refine bodyPost_ret (results_cell3 rfl _ _ w.heap.size _ rfl FIN.out.2.1) rfl ?_
          exact ⟨rfl, FIN.out.2.2⟩
        · rw [decide_eq_false hz0] at hze
          rw [if_neg hz0] at hR
          have HR := Lib.hid hR
          clear hR hz0
          go_enter Tryz.func29, Tryz.ntmps29
          go_wp2_with fail
          refine (HWD.out _).mono ?_
          rintro e w1 ⟨rfl, hb1⟩
          go_wp2_with fail
          refine (HNU.out _).mono ?_
          rintro e w2 ⟨rfl, hb2⟩
          go_wp2_with fail
          refine (HSG.out _ (((Bel.alloc _ _).trans hb1).trans hb2)).mono ?_
          rintro e w3 ⟨rfl, rfl⟩
          have FIN := Lib.hid (lex_fin w w2 4 z (hb1.trans hb2))
          obtain ⟨f0, f1, f2, f3⟩ := lex_facts w w2 (hb1.trans hb2)
          go_wp2_with fail
          have := HR.out
          injection this with e1 e2
          injection e1 with e1 e3
          injection e2 with e2 e4
          subst e1 e2 e3 e4
          refine bodyPost_ret (results_cell3 rfl _ _ w.heap.size _ rfl FIN.out.2.1) rfl ?_
          exact ⟨rfl, FIN.out.2.2⟩
    · rw [if_pos hm0] at hR
      rw [decide_eq_false hm0] at hye
      have HR := Lib.hid hR
      clear hR
      go_enter Tryz.func29, Tryz.ntmps29
      go_wp2_with fail
      refine (HWD.out _).mono ?_
      rintro e w1 ⟨rfl, hb1⟩
      go_wp2_with fail
      refine (HNU.out _).mono ?_
      rintro e w2 ⟨rfl, hb2⟩
      have FIN := Lib.hid (lex_fin w w2 2 y (hb1.trans hb2))
      obtain ⟨f0, f1, f2, f3⟩ := lex_facts w w2 (hb1.trans hb2)
      go_wp2_with fail
      have := HR.out
      injection this with e1 e2
      injection e1 with e1 e3
      injection e2 with e2 e4
      subst e1 e2 e3 e4
      refine bodyPost_ret (results_cell3 rfl _ _ w.heap.size _ rfl FIN.out.2.1) rfl ?_
      exact ⟨rfl, FIN.out.2.2⟩
  · rw [decide_eq_false h0] at hxe
    rw [if_pos h0] at hR
    obtain ⟨K, hK⟩ : ∃ K, isKw x = K := ⟨_, rfl⟩
    rw [hK] at HKW hR
    have HR := Lib.hid hR
    clear hR hK
    cases K
    · go_enter Tryz.func29, Tryz.ntmps29
      go_wp2_with fail
      refine (HWD.out _).mono ?_
      rintro e w1 ⟨rfl, hb1⟩
      go_wp2_with fail
      refine (HKW.out _).mono ?_
      rintro e w2 ⟨rfl, hb2⟩
      have FIN := Lib.hid (lex_fin w w2 0 x (hb1.trans hb2))
      obtain ⟨f0, f1, f2, f3⟩ := lex_facts w w2 (hb1.trans hb2)
      go_wp2_with fail
      have := HR.out
      injection this with e1 e2
      injection e1 with e1 e3
      injection e2 with e2 e4
      subst e1 e2 e3 e4
      refine bodyPost_ret (results_cell3 rfl _ _ w.heap.size _ rfl FIN.out.2.1) rfl ?_
      exact ⟨rfl, FIN.out.2.2⟩
    · go_enter Tryz.func29, Tryz.ntmps29
      go_wp2_with fail
      refine (HWD.out _).mono ?_
      rintro e w1 ⟨rfl, hb1⟩
      go_wp2_with fail
      refine (HKW.out _).mono ?_
      rintro e w2 ⟨rfl, hb2⟩
      have FIN := Lib.hid (lex_fin w w2 1 x (hb1.trans hb2))
      obtain ⟨f0, f1, f2, f3⟩ := lex_facts w w2 (hb1.trans hb2)
      go_wp2_with fail
      have := HR.out
      injection this with e1 e2
      injection e1 with e1 e3
      injection e2 with e2 e4
      subst e1 e2 e3 e4
      refine bodyPost_ret (results_cell3 rfl _ _ w.heap.size _ rfl FIN.out.2.1) rfl ?_
      exact ⟨rfl, FIN.out.2.2⟩
end Go.Proofs.YtpenfnabeckboaaGreatDoor

namespace Go.Proofs.YtpenfnabeckboaaGreatDoor
theorem textF_le (s : ByteArray) : ∀ b pos acc, pos ≤ s.size → (textF s b pos acc).2.1 ≤ s.size ∧ ((textF s b pos acc).2.2 = 0 → 1 ≤ (textF s b pos acc).2.1)
  | 0, pos, acc, h => ⟨Nat.le_refl _, fun h => by cases h⟩
  | b + 1, pos, acc, h => by
    unfold textF
    split
    · rename_i hp
      split
      · exact ⟨hp, fun _ => by show 1 ≤ pos + 1; omega⟩
      · split
        · split
          · exact ⟨h, fun h => by cases h⟩
          · have := (escS_size (s.extract pos s.size)).1
            simp at this
            exact textF_le s b _ _ (by omega)
        · exact textF_le s b _ _ hp
    · exact ⟨Nat.le_refl _, fun h => by cases h⟩
theorem signIn_le (s : ByteArray) : ∀ l, (signIn s l).length ≤ s.size
  | [] => Nat.zero_le _
  | x :: l => by
    unfold signIn
    split
    · rename_i h
      have := (List.isPrefixOf_iff_prefix.1 h).length_le
      rw [Lib.size_eq]
      exact this
    · exact signIn_le s l
theorem oneS_le (s : ByteArray) (h1 : 1 ≤ s.size) : (oneS s).2.1 ≤ s.size ∧ ((oneS s).2.2 = 0 → 1 ≤ (oneS s).2.1) := by
  unfold oneS
  split
  · rename_i h
    exact ⟨wordF_le s _ 0 (Nat.zero_le _), fun _ => Nat.pos_of_ne_zero h⟩
  · split
    · rename_i h
      exact ⟨numN_le s, fun _ => Nat.pos_of_ne_zero h⟩
    · split
      · exact textF_le s _ 1 [] h1
      · split
        · exact ⟨Nat.zero_le _, fun h => by cases h⟩
        · rename_i h
          exact ⟨signIn_le s signsL, fun _ => Nat.pos_of_ne_zero h⟩
end Go.Proofs.YtpenfnabeckboaaGreatDoor

namespace Go.Proofs.YtpenfnabeckboaaGreatDoor
open Go.RowKit
abbrev IsK (B b : Nat) (l : List UInt8) (w : World) : Prop := Lib.IsBuilderF 68 5 B b (Lib.byteCells l) w
theorem isK_new (w : World) : IsK w.heap.size w.heap.size [] (w.alloc (.cells #[.pointer none, .slice none 0 0] 68)) :=
  .inl ⟨Nat.le_refl _, .slice none 0 0, World.alloc_heap_new _ _, World.ownsRowF_nil _ _ _ _, by simp [Value.ownBlock]⟩
/-- What keeps all rows of cells keeps a builder. -/
theorem isK_keep {B b : Nat} {l : List UInt8} {w w' : World} (h : IsK B b l w) (hk : ∀ (k : Nat) (cs : Array Value) (t : TypeId) (fz : Nat × Nat), w.heap[k]? = some (Obj.cells cs t fz) → w'.heap[k]? = some (Obj.cells cs t fz)) : IsK B b l w' := by
  have row : ∀ v, w.ownsRowF B 5 1 v (Lib.byteCells l).length (Lib.byteCells l) → w'.ownsRowF B 5 1 v (Lib.byteCells l).length (Lib.byteCells l) := fun v ⟨h1, h2⟩ =>
    ⟨h1, h2.imp id fun ⟨g, cap, cur, fz, h3, h4, h5, h6⟩ => ⟨g, cap, cur, fz, h3, h4, hk _ _ _ _ h5, h6⟩⟩
  rcases h with ⟨h1, v, h2, h3, h4⟩ | ⟨h1, v, h2, h3, h4⟩
  · exact .inl ⟨h1, v, hk _ _ _ _ h2, row v h3, h4⟩
  · exact .inr ⟨h1, v, hk _ _ _ _ h2, row v h3, h4⟩
theorem isK_bel {B b : Nat} {l : List UInt8} {w w' : World} (h : IsK B b l w) (hb : Bel w w') : IsK B b l w' :=
  isK_keep h fun _ _ _ _ hk => (hb.block (Array.getElem?_eq_some_iff.1 hk).1).trans hk
/-- The builder's block is the call's own; nothing else but rows of bytes has changed. -/
abbrev OKept (b : Nat) (w w' : World) : Prop := Lib.OthersKept 5 (some b) w w'
theorem kbyte_c (B b : Nat) (l : List UInt8) (c : UInt8) (w : World) (h : IsK B b l w) (hlen : l.length ≤ 137438953472) (hB : B ≤ w.heap.size) :
    Calls Tryz.prog 80 #[.pointer (some ⟨b, 0, none⟩), .int .u8 c.toNat] w fun e w' => e = .returned .nilIface ∧ IsK B b (l ++ [c]) w' ∧ Below B w w' ∧ OKept b w w' := by
  refine (Any.Builder_WriteByte_k laysB167 extraB167 B b (Lib.byteCells l) c.toNat w h (by rw [Lib.byteCells_length]; omega) hB).mono ?_
  rintro e w' ⟨rfl, h1, h2, h3⟩
  have e : Lib.byteCells (l ++ [c]) = Lib.byteCells l ++ [Value.int .u8 c.toNat] := by simp [Lib.byteCells]
  refine ⟨rfl, ?_, h2, h3⟩
  unfold IsK
  rw [e]
  exact .inr h1
theorem kstr_c (B b : Nat) (l : List UInt8) (x : ByteArray) (w : World) (h : IsK B b l w) (hlen : l.length ≤ 137438953472) (hx : x.size ≤ 137438953472) (hB : B ≤ w.heap.size) :
    Calls Tryz.prog 79 #[.pointer (some ⟨b, 0, none⟩), .string x] w fun e w' => e = .returned (.tuple #[.int .i64 x.size, .nilIface]) ∧ IsK B b (l ++ x.data.toList) w' ∧ Below B w w' ∧ OKept b w w' := by
  refine (Any.Builder_WriteString_k laysB166 extraB166 B b (Lib.byteCells l) x w h (by rw [Lib.byteCells_length]; omega) hB).mono ?_
  rintro e w' ⟨rfl, h1, h2, h3⟩
  refine ⟨rfl, .inr ?_, h2, h3⟩
  have e : Lib.byteCells (l ++ x.data.toList) = Lib.byteCells l ++ Lib.strCells x := by simp [Lib.byteCells, Lib.strCells]
  rw [e]
  exact h1
theorem krune_c (B b : Nat) (l y : List UInt8) (c : Int) (w : World) (h0 : 0 ≤ c) (h1 : c ≤ 1114111) (hy : Lib.runeCells c = Lib.byteCells y) (h : IsK B b l w) (hlen : l.length ≤ 137438953472) (hB : B ≤ w.heap.size) :
    Calls Tryz.prog 126 #[.pointer (some ⟨b, 0, none⟩), .int .i32 c] w fun e w' => e = .returned (.tuple #[.int .i64 y.length, .nilIface]) ∧ IsK B b (l ++ y) w' ∧ Below B w w' ∧ OKept b w w' := by
  refine (Any.Builder_WriteRune_k laysB168 extraB168 B b (Lib.byteCells l) c (by omega) (by omega) w h (by rw [Lib.byteCells_length]; omega) hB).mono ?_
  rintro e w' ⟨rfl, h1, h2, h3⟩
  rw [hy] at h1 ⊢
  refine ⟨by rw [Lib.byteCells_length], .inr ?_, h2, h3⟩
  have e : Lib.byteCells (l ++ y) = Lib.byteCells l ++ Lib.byteCells y := by simp [Lib.byteCells]
  rw [e]
  exact h1
theorem kget_c (B b : Nat) (l : List UInt8) (w : World) (h : IsK B b l w) (hB : B ≤ w.heap.size) :
    Calls Tryz.prog 38 #[.pointer (some ⟨b, 0, none⟩)] w fun e w' => e = .returned (.string ⟨l.toArray⟩) ∧ Below B w w' := by
  refine (Tryz.Builder_String_any_k B b l w h hB).mono ?_
  rintro e w' ⟨rfl, _, h2, _⟩
  exact ⟨rfl, h2⟩
end Go.Proofs.YtpenfnabeckboaaGreatDoor
