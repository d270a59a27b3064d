/-
  What 06 wants of the other texts: runes as bytes; strings.Builder; blocks.
  entity: what Escape writes, character by character (plain).
-/
import Derived.Test.YtojeclfcgnamoaaDoorMB
import Derived.Test.YtojeclfcgnamoaaDoorMC
import Derived.Test.YtojeclfcgnamoaaDoorMR
import Derived.Test.YtojeclfcgnamoaaDoorMT
import Derived.Test.YtojeclfcgnamoaaDoorUCA
import Derived.Test.YtojeclfcgnamoaaDoorShelf
import Derived.Shelf.Strings.Builder1
import Derived.Shelf.Strings.BuilderK
import Derived.Shelf.Strings.BuilderRune
import Derived.Deep.RegionHeld3
import Derived.Test.YtojeclfcgnamoaaDoorDP
namespace Go.Proofs.YtojeclfcgnamoaaDoor
open Go.RowKit
theorem runeCells_put (c : Int) (h : fineC c = true) : Lib.runeCells c = u8s (putI c) := by
  have hf : c = 9 ∨ c = 10 ∨ c = 13 ∨ 32 ≤ c ∧ c ≤ 55295 ∨ 57344 ≤ c ∧ c ≤ 65533 ∨ 65536 ≤ c ∧ c ≤ 1114111 := of_decide_eq_true h
  unfold Lib.runeCells u8s
  congr 1
  unfold putI
  by_cases h1 : c < 128
  · rw [if_pos h1, Lib.encodeRuneZ_one (by omega) (by omega)]
  · by_cases h2 : c < 2048
    · rw [if_neg h1, if_pos h2, Lib.encodeRuneZ_two (by omega) (by omega)]
    · by_cases h3 : c < 65536
      · rw [if_neg h1, if_neg h2, if_pos h3, Lib.encodeRuneZ_three (by omega)]
      · rw [if_neg h1, if_neg h2, if_neg h3, Lib.encodeRuneZ_four (by omega) (by omega)]
def laysB166_ren : Go.Shelf.Ren := ⟨fun | 166 => 40 | 240 => 58 | 276 => 72 | n => n, fun | 0 => 0 | 3 => 3 | 4 => 4 | 9 => 9 | 20 => 20 | 37 => 31 | 70 => 53 | 72 => 55 | 75 => 80 | 164 => 109 | 5 => 5 | 80 => 59 | n => n, fun | n => n⟩
theorem laysB166 : Go.Proofs.Lays.n166 Tryd.prog laysB166_ren := {
  mixed := by kernel_rfl
  f166 := Tryd.func40.trans (congrArg some (by kernel_rfl))
  f240 := Tryd.func58.trans (congrArg some (by kernel_rfl))
  f276 := Tryd.func72.trans (congrArg some (by kernel_rfl))
  t0 := Tryd.underlying0
  a0 := Tryd.isAgg0
  z0 := Tryd.sizeOf0
  v0 := Tryd.zeroValue0
  t3 := Tryd.underlying3
  a3 := Tryd.isAgg3
  z3 := Tryd.sizeOf3
  v3 := Tryd.zeroValue3
  t4 := Tryd.underlying4
  a4 := Tryd.isAgg4
  z4 := Tryd.sizeOf4
  v4 := Tryd.zeroValue4
  t9 := Tryd.underlying9
  a9 := Tryd.isAgg9
  z9 := Tryd.sizeOf9
  v9 := Tryd.zeroValue9
  t20 := Tryd.underlying20
  a20 := Tryd.isAgg20
  z20 := Tryd.sizeOf20
  v20 := Tryd.zeroValue20
  t37 := Tryd.underlying31
  a37 := Tryd.isAgg31
  z37 := Tryd.sizeOf31
  v37 := Tryd.zeroValue31
  t70 := Tryd.underlying53
  a70 := Tryd.isAgg53
  z70 := Tryd.sizeOf53
  v70 := Tryd.zeroValue53
  t72 := Tryd.underlying55
  a72 := Tryd.isAgg55
  z72 := Tryd.sizeOf55
  v72 := Tryd.zeroValue55
  t75 := Tryd.underlying80
  a75 := Tryd.isAgg80
  z75 := Tryd.sizeOf80
  v75 := Tryd.zeroValue80
  t164 := Tryd.underlying109
  a164 := Tryd.isAgg109
  z164 := Tryd.sizeOf109
  v164 := Tryd.zeroValue109 }
theorem extraB166 : Builder.Extra Tryd.prog laysB166_ren := {
  sizeBuilder := by kernel_rfl
  liesBuilder := by kernel_rfl
  t5 := Tryd.underlying5
  a5 := Tryd.isAgg5
  z5 := Tryd.sizeOf5
  v5 := Tryd.zeroValue5
  infoByte := by kernel_rfl
  cellsByte := by kernel_rfl
  sizeByte := by kernel_rfl
  neB5 := by decide }
def laysB167_ren : Go.Shelf.Ren := ⟨fun | 167 => 41 | 240 => 58 | 276 => 72 | n => n, fun | 0 => 0 | 4 => 4 | 5 => 5 | 9 => 9 | 20 => 20 | 37 => 31 | 70 => 53 | 72 => 55 | 75 => 80 | 164 => 109 | 80 => 59 | n => n, fun | n => n⟩
theorem laysB167 : Go.Proofs.Lays.n167 Tryd.prog laysB167_ren := {
  mixed := by kernel_rfl
  f167 := Tryd.func41.trans (congrArg some (by kernel_rfl))
  f240 := Tryd.func58.trans (congrArg some (by kernel_rfl))
  f276 := Tryd.func72.trans (congrArg some (by kernel_rfl))
  t0 := Tryd.underlying0
  a0 := Tryd.isAgg0
  z0 := Tryd.sizeOf0
  v0 := Tryd.zeroValue0
  t4 := Tryd.underlying4
  a4 := Tryd.isAgg4
  z4 := Tryd.sizeOf4
  v4 := Tryd.zeroValue4
  t5 := Tryd.underlying5
  a5 := Tryd.isAgg5
  z5 := Tryd.sizeOf5
  v5 := Tryd.zeroValue5
  t9 := Tryd.underlying9
  a9 := Tryd.isAgg9
  z9 := Tryd.sizeOf9
  v9 := Tryd.zeroValue9
  t20 := Tryd.underlying20
  a20 := Tryd.isAgg20
  z20 := Tryd.sizeOf20
  v20 := Tryd.zeroValue20
  t37 := Tryd.underlying31
  a37 := Tryd.isAgg31
  z37 := Tryd.sizeOf31
  v37 := Tryd.zeroValue31
  t70 := Tryd.underlying53
  a70 := Tryd.isAgg53
  z70 := Tryd.sizeOf53
  v70 := Tryd.zeroValue53
  t72 := Tryd.underlying55
  a72 := Tryd.isAgg55
  z72 := Tryd.sizeOf55
  v72 := Tryd.zeroValue55
  t75 := Tryd.underlying80
  a75 := Tryd.isAgg80
  z75 := Tryd.sizeOf80
  v75 := Tryd.zeroValue80
  t164 := Tryd.underlying109
  a164 := Tryd.isAgg109
  z164 := Tryd.sizeOf109
  v164 := Tryd.zeroValue109 }
theorem extraB167 : Builder.Extra Tryd.prog laysB167_ren := {
  sizeBuilder := by kernel_rfl
  liesBuilder := by kernel_rfl
  t5 := Tryd.underlying5
  a5 := Tryd.isAgg5
  z5 := Tryd.sizeOf5
  v5 := Tryd.zeroValue5
  infoByte := by kernel_rfl
  cellsByte := by kernel_rfl
  sizeByte := by kernel_rfl
  neB5 := by decide }
def laysB168_ren : Go.Shelf.Ren := ⟨fun | 168 => 71 | 240 => 58 | 242 => 84 | 276 => 72 | 278 => 96 | n => n, fun | 0 => 0 | 3 => 3 | 4 => 4 | 5 => 5 | 9 => 9 | 20 => 20 | 21 => 21 | 37 => 31 | 46 => 112 | 51 => 126 | 70 => 53 | 72 => 55 | 75 => 80 | 164 => 109 | 80 => 59 | n => n, fun | n => n⟩
theorem laysB168 : Go.Proofs.Lays.n168 Tryd.prog laysB168_ren := {
  mixed := by kernel_rfl
  f168 := Tryd.func71.trans (congrArg some (by kernel_rfl))
  f240 := Tryd.func58.trans (congrArg some (by kernel_rfl))
  f242 := Tryd.func84.trans (congrArg some (by kernel_rfl))
  f276 := Tryd.func72.trans (congrArg some (by kernel_rfl))
  f278 := Tryd.func96.trans (congrArg some (by kernel_rfl))
  t0 := Tryd.underlying0
  a0 := Tryd.isAgg0
  z0 := Tryd.sizeOf0
  v0 := Tryd.zeroValue0
  t3 := Tryd.underlying3
  a3 := Tryd.isAgg3
  z3 := Tryd.sizeOf3
  v3 := Tryd.zeroValue3
  t4 := Tryd.underlying4
  a4 := Tryd.isAgg4
  z4 := Tryd.sizeOf4
  v4 := Tryd.zeroValue4
  t5 := Tryd.underlying5
  a5 := Tryd.isAgg5
  z5 := Tryd.sizeOf5
  v5 := Tryd.zeroValue5
  t9 := Tryd.underlying9
  a9 := Tryd.isAgg9
  z9 := Tryd.sizeOf9
  v9 := Tryd.zeroValue9
  t20 := Tryd.underlying20
  a20 := Tryd.isAgg20
  z20 := Tryd.sizeOf20
  v20 := Tryd.zeroValue20
  t21 := Tryd.underlying21
  a21 := Tryd.isAgg21
  z21 := Tryd.sizeOf21
  v21 := Tryd.zeroValue21
  t37 := Tryd.underlying31
  a37 := Tryd.isAgg31
  z37 := Tryd.sizeOf31
  v37 := Tryd.zeroValue31
  t46 := Tryd.underlying112
  a46 := Tryd.isAgg112
  z46 := Tryd.sizeOf112
  v46 := Tryd.zeroValue112
  t51 := Tryd.underlying126
  a51 := Tryd.isAgg126
  z51 := Tryd.sizeOf126
  v51 := Tryd.zeroValue126
  t70 := Tryd.underlying53
  a70 := Tryd.isAgg53
  z70 := Tryd.sizeOf53
  v70 := Tryd.zeroValue53
  t72 := Tryd.underlying55
  a72 := Tryd.isAgg55
  z72 := Tryd.sizeOf55
  v72 := Tryd.zeroValue55
  t75 := Tryd.underlying80
  a75 := Tryd.isAgg80
  z75 := Tryd.sizeOf80
  v75 := Tryd.zeroValue80
  t164 := Tryd.underlying109
  a164 := Tryd.isAgg109
  z164 := Tryd.sizeOf109
  v164 := Tryd.zeroValue109 }
theorem extraB168 : Builder.Extra Tryd.prog laysB168_ren := {
  sizeBuilder := by kernel_rfl
  liesBuilder := by kernel_rfl
  t5 := Tryd.underlying5
  a5 := Tryd.isAgg5
  z5 := Tryd.sizeOf5
  v5 := Tryd.zeroValue5
  infoByte := by kernel_rfl
  cellsByte := by kernel_rfl
  sizeByte := by kernel_rfl
  neB5 := by decide }
abbrev IsK (B b : Nat) (l : List UInt8) (w : World) : Prop := Lib.IsBuilderF 55 5 B b (Lib.byteCells l) w
theorem isK_new (w : World) : IsK w.heap.size w.heap.size [] (w.alloc (.cells #[.pointer none, .slice none 0 0] 55)) :=
  .inl ⟨Nat.le_refl _, .slice none 0 0, World.alloc_heap_new _ _, World.ownsRowF_nil _ _ _ _, by simp [Value.ownBlock]⟩
/-- What keeps all rows of cells keeps a builder. -/
theorem isK_keep {B b : Nat} {l : List UInt8} {w w' : World} (h : IsK B b l w) (hk : ∀ (k : Nat) (cs : Array Value) (t : TypeId) (fz : Nat × Nat), w.heap[k]? = some (Obj.cells cs t fz) → w'.heap[k]? = some (Obj.cells cs t fz)) : IsK B b l w' := by
  have row : ∀ v, w.ownsRowF B 5 1 v (Lib.byteCells l).length (Lib.byteCells l) → w'.ownsRowF B 5 1 v (Lib.byteCells l).length (Lib.byteCells l) := fun v ⟨h1, h2⟩ =>
    ⟨h1, h2.imp id fun ⟨g, cap, cur, fz, h3, h4, h5, h6⟩ => ⟨g, cap, cur, fz, h3, h4, hk _ _ _ _ h5, h6⟩⟩
  rcases h with ⟨h1, v, h2, h3, h4⟩ | ⟨h1, v, h2, h3, h4⟩
  · exact .inl ⟨h1, v, hk _ _ _ _ h2, row v h3, h4⟩
  · exact .inr ⟨h1, v, hk _ _ _ _ h2, row v h3, h4⟩
theorem isK_bel {B b : Nat} {l : List UInt8} {w w' : World} (h : IsK B b l w) (hb : Bel w w') : IsK B b l w' :=
  isK_keep h fun _ _ _ _ hk => (hb.block (Array.getElem?_eq_some_iff.1 hk).1).trans hk
/-- The builder's block is the call's own; nothing else but rows of bytes has changed. -/
abbrev OKept (b : Nat) (w w' : World) : Prop := Lib.OthersKept 5 (some b) w w'
theorem kbyte_c (B b : Nat) (l : List UInt8) (c : UInt8) (w : World) (h : IsK B b l w) (hlen : l.length ≤ 137438953472) (hB : B ≤ w.heap.size) :
    Calls Tryd.prog 41 #[.pointer (some ⟨b, 0, none⟩), .int .u8 c.toNat] w fun e w' => e = .returned .nilIface ∧ IsK B b (l ++ [c]) w' ∧ Below B w w' ∧ OKept b w w' := by
  refine (Any.Builder_WriteByte_k laysB167 extraB167 B b (Lib.byteCells l) c.toNat w h (by rw [Lib.byteCells_length]; omega) hB).mono ?_
  rintro e w' ⟨rfl, h1, h2, h3⟩
  have e : Lib.byteCells (l ++ [c]) = Lib.byteCells l ++ [Value.int .u8 c.toNat] := by simp [Lib.byteCells]
  refine ⟨rfl, ?_, h2, h3⟩
  unfold IsK
  rw [e]
  exact .inr h1
theorem kstr_c (B b : Nat) (l : List UInt8) (x : ByteArray) (w : World) (h : IsK B b l w) (hlen : l.length ≤ 137438953472) (hx : x.size ≤ 137438953472) (hB : B ≤ w.heap.size) :
    Calls Tryd.prog 40 #[.pointer (some ⟨b, 0, none⟩), .string x] w fun e w' => e = .returned (.tuple #[.int .i64 x.size, .nilIface]) ∧ IsK B b (l ++ x.data.toList) w' ∧ Below B w w' ∧ OKept b w w' := by
  refine (Any.Builder_WriteString_k laysB166 extraB166 B b (Lib.byteCells l) x w h (by rw [Lib.byteCells_length]; omega) hB).mono ?_
  rintro e w' ⟨rfl, h1, h2, h3⟩
  refine ⟨rfl, .inr ?_, h2, h3⟩
  have e : Lib.byteCells (l ++ x.data.toList) = Lib.byteCells l ++ Lib.strCells x := by simp [Lib.byteCells, Lib.strCells]
  rw [e]
  exact h1
theorem krune_c (B b : Nat) (l y : List UInt8) (c : Int) (w : World) (h0 : 0 ≤ c) (h1 : c ≤ 1114111) (hy : Lib.runeCells c = Lib.byteCells y) (h : IsK B b l w) (hlen : l.length ≤ 137438953472) (hB : B ≤ w.heap.size) :
    Calls Tryd.prog 71 #[.pointer (some ⟨b, 0, none⟩), .int .i32 c] w fun e w' => e = .returned (.tuple #[.int .i64 y.length, .nilIface]) ∧ IsK B b (l ++ y) w' ∧ Below B w w' ∧ OKept b w w' := by
  refine (Any.Builder_WriteRune_k laysB168 extraB168 B b (Lib.byteCells l) c (by omega) (by omega) w h (by rw [Lib.byteCells_length]; omega) hB).mono ?_
  rintro e w' ⟨rfl, h1, h2, h3⟩
  rw [hy] at h1 ⊢
  refine ⟨by rw [Lib.byteCells_length], .inr ?_, h2, h3⟩
  have e : Lib.byteCells (l ++ y) = Lib.byteCells l ++ Lib.byteCells y := by simp [Lib.byteCells]
  rw [e]
  exact h1
theorem kget_c (B b : Nat) (l : List UInt8) (w : World) (h : IsK B b l w) (hB : B ≤ w.heap.size) :
    Calls Tryd.prog 21 #[.pointer (some ⟨b, 0, none⟩)] w fun e w' => e = .returned (.string ⟨l.toArray⟩) ∧ Below B w w' := by
  refine (Tryd.Builder_String_any_k B b l w h hB).mono ?_
  rintro e w' ⟨rfl, _, h2, _⟩
  exact ⟨rfl, h2⟩
end Go.Proofs.YtojeclfcgnamoaaDoor

namespace Go.Proofs.YtojeclfcgnamoaaDoor
/-- From a place on a text is right. -/
def OKat (s : ByteArray) (i : Nat) : Prop := charsAt s i ≠ none
theorem ok_rune (s : ByteArray) (i : Nat) (h : OKat s i) (hi : i < s.size) : (runeN (Utf8.decode s i)).2 ≠ 0 := by
  intro h0
  apply h
  rw [charsAt_step s i hi, if_pos h0]
theorem ok_step (s : ByteArray) (i : Nat) (h : OKat s i) (hi : i < s.size) : OKat s (i + (Utf8.decode s i).2) := by
  have h0 := ok_rune s i h hi
  intro hn
  apply h
  rw [charsAt_step s i hi, if_neg h0]
  have hw := congrArg Prod.snd (runeN_width s i hi h0)
  simp only at hw
  rw [hw, Int.toNat_natCast, hn]
  rfl
theorem chk_chars (s : ByteArray) : ∀ b pos, s.size ≤ pos + b → pos ≤ s.size → (chkF s b pos < s.size ↔ charsF s b pos = none)
  | 0, pos, h, hp => by simp [chkF, charsF]
  | b + 1, pos, h, hp => by
    rw [charsF_succ]
    unfold chkF
    by_cases hlt : pos < s.size
    · rw [if_pos hlt, if_pos hlt]
      have hpos := decode_pos s pos hlt
      have hfit := decode_fits s pos hlt
      rcases runeN_cases s pos hlt with ⟨h1, h2, h3⟩ | ⟨h1, h2, h3⟩ | ⟨h1, h2, h3, h4⟩
      · rw [if_pos h3, if_neg (by unfold runeAt; rw [if_pos (.inl ⟨h1, h2⟩)]; simp)]
        simp [hlt]
      · rw [if_pos h3, if_neg (by unfold runeAt; rw [if_pos (.inr h2)]; simp)]
        simp [hlt]
      · rw [if_neg h3, if_pos (by unfold runeAt; rw [if_neg (fun h => h.elim h1 (fun h => by rw [h2] at h; cases h))])]
        have hs := congrArg Prod.snd h4
        simp only at hs
        rw [hs, Int.toNat_natCast, chk_chars s b _ (by omega) hfit]
        simp
    · rw [if_neg hlt, if_neg hlt]
      simp
theorem chk_ok (s : ByteArray) (h : ¬ chkS s < s.size) : OKat s 0 := fun h0 => h ((chk_chars s s.size 0 (by omega) (Nat.zero_le _)).2 h0)
end Go.Proofs.YtojeclfcgnamoaaDoor

namespace Go.Proofs.YtojeclfcgnamoaaDoor
open Go.RowKit Go.Lib
/-- A right character's bytes are its own. -/
theorem decodeN_put (n b0 b1 b2 b3 : Nat) (h0 : b0 < 256) (h1 : b1 < 256) (h2 : b2 < 256) (_h3 : b3 < 256) (ok : okD (decodeN n b0 b1 b2 b3)) :
    putI (decodeN n b0 b1 b2 b3).1 = (([b0, b1, b2, b3].take (decodeN n b0 b1 b2 b3).2).map fun (x : Nat) => (x : Int)) := by
  unfold okD at ok
  unfold decodeN at ok ⊢
  unfold putI
  split
  · rename_i h
    rw [if_pos (by omega)]
    rfl
  · rename_i h
    rw [if_neg h] at ok
    split
    · rename_i h'
      rw [if_pos h'] at ok
      split
      · rename_i h''
        dsimp only
        rw [if_neg (by omega), if_pos (by omega)]
        simp
        omega
      · rename_i h''
        rw [if_neg h''] at ok
        exact absurd ⟨rfl, by decide⟩ ok
    · rename_i h'
      rw [if_neg h'] at ok
      split
      · rename_i hh
        rw [if_pos hh] at ok
        split
        · rename_i h''
          dsimp only
          rw [if_neg (by omega), if_neg (by omega), if_pos (by omega)]
          simp
          omega
        · rename_i h''
          rw [if_neg h''] at ok
          exact absurd ⟨rfl, by decide⟩ ok
      · rename_i hh
        rw [if_neg hh] at ok
        split
        · rename_i hhh
          rw [if_pos hhh] at ok
          split
          · rename_i h''
            dsimp only
            rw [if_neg (by omega), if_neg (by omega), if_neg (by omega)]
            simp
            omega
          · rename_i h''
            rw [if_neg h''] at ok
            exact absurd ⟨rfl, by decide⟩ ok
        · rename_i hhh
          rw [if_neg hhh] at ok
          exact absurd ⟨rfl, by decide⟩ ok
theorem decodeN_le (n b0 b1 b2 b3 : Nat) : (decodeN n b0 b1 b2 b3).2 ≤ 4 := by
  unfold decodeN
  repeat' split
  all_goals simp
/-- The bytes of the character at a place. -/
def pieceL (s : ByteArray) (pos : Nat) : List UInt8 := (s.data.toList.drop pos).take (Utf8.decode s pos).2
theorem piece_put (s : ByteArray) (pos : Nat) (hp : pos < s.size) (ok : okD (Utf8.decode s pos)) : putI (Utf8.decode s pos).1 = (pieceL s pos).map fun (x : UInt8) => (x.toNat : Int) := by
  have hfit := decode_fits s pos hp
  have hpos := decode_pos s pos hp
  have hl : s.data.toList.length = s.size := rfl
  unfold pieceL
  rw [decode_at] at ok hfit hpos ⊢
  have h1 := decodeN_put _ _ _ _ _ (s.get! pos).toNat_lt (s.get! (pos + 1)).toNat_lt (s.get! (pos + 2)).toNat_lt (s.get! (pos + 3)).toNat_lt ok
  have h4 := decodeN_le (s.size - pos) (s.get! pos).toNat (s.get! (pos + 1)).toNat (s.get! (pos + 2)).toNat (s.get! (pos + 3)).toNat
  rw [h1]
  generalize (decodeN (s.size - pos) (s.get! pos).toNat (s.get! (pos + 1)).toNat (s.get! (pos + 2)).toNat (s.get! (pos + 3)).toNat).2 = n at hfit hpos h4 ⊢
  match n, hfit, hpos, h4 with
  | 1, hf, _, _ => rw [byte_drop s pos (by omega)]; rfl
  | 2, hf, _, _ => rw [byte_drop s pos (by omega), byte_drop s (pos + 1) (by omega)]; rfl
  | 3, hf, _, _ => rw [byte_drop s pos (by omega), byte_drop s (pos + 1) (by omega), byte_drop s (pos + 1 + 1) (by omega)]; rfl
  | 4, hf, _, _ => rw [byte_drop s pos (by omega), byte_drop s (pos + 1) (by omega), byte_drop s (pos + 1 + 1) (by omega), byte_drop s (pos + 1 + 1 + 1) (by omega)]; rfl
theorem piece_cells (s : ByteArray) (pos : Nat) (hp : pos < s.size) (ok : okD (Utf8.decode s pos)) (hf : fineC (Utf8.decode s pos).1 = true) : Lib.runeCells (Utf8.decode s pos).1 = Lib.byteCells (pieceL s pos) := by
  rw [runeCells_put _ hf, piece_put s pos hp ok]
  unfold u8s Lib.byteCells
  rw [List.map_map]
  rfl
theorem chk_step (s : ByteArray) (pos : Nat) (h : OKat s pos) (hp : pos < s.size) : okD (Utf8.decode s pos) ∧ fineC (Utf8.decode s pos).1 = true := by
  have h0 := ok_rune s pos h hp
  rcases runeN_cases s pos hp with ⟨_, _, h5⟩ | ⟨_, _, h5⟩ | ⟨h3, h4, _⟩
  · exact absurd h5 h0
  · exact absurd h5 h0
  · exact ⟨h3, h4⟩
end Go.Proofs.YtojeclfcgnamoaaDoor

namespace Go.Proofs.YtojeclfcgnamoaaDoor
open Go.RowKit
/-- A block that is made, one step. -/
theorem alloc_step (w : World) (t : TypeId) (cs : List Value) : ∃ W, w.alloc (.cells cs.toArray t) = W ∧ Blk W w.heap.size t cs ∧ Bel w W ∧ W.heap.size = w.heap.size + 1 :=
  ⟨_, rfl, Blk.new w t cs, Bel.alloc _ _, World.size_alloc _ _⟩
end Go.Proofs.YtojeclfcgnamoaaDoor

namespace Go.Proofs.YtojeclfcgnamoaaDoor

theorem escC_high (v : Bool) (c : UInt8) (h : 128 ≤ c.toNat) : escC v c = [c] := by
  have hn : ∀ k : UInt8, k.toNat < 128 → c ≠ k := fun k hk e => by subst e; omega
  unfold escC
  rw [if_neg (hn 38 (by decide)), if_neg (hn 60 (by decide)), if_neg (hn 62 (by decide)), if_neg (hn 13 (by decide)), if_neg (fun e => hn 34 (by decide) e.2), if_neg (fun e => hn 9 (by decide) e.2), if_neg (fun e => hn 10 (by decide) e.2)]
theorem esc_flat_high (v : Bool) : ∀ l : List UInt8, (∀ c ∈ l, 128 ≤ c.toNat) → l.flatMap (escC v) = l
  | [], _ => rfl
  | c :: l, h => by rw [List.flatMap_cons, escC_high v c (h c (by simp)), esc_flat_high v l fun x hx => h x (by simp [hx])]; rfl
/-- What stands for a character. -/
def escO (v : Bool) (c : Nat) : Option (List UInt8) :=
  if c = 38 then some [38, 97, 109, 112, 59] else if c = 60 then some [38, 108, 116, 59] else if c = 62 then some [38, 103, 116, 59] else if c = 13 then some [38, 35, 49, 51, 59]
  else if v = true ∧ c = 34 then some [38, 113, 117, 111, 116, 59] else if v = true ∧ c = 9 then some [38, 35, 57, 59] else if v = true ∧ c = 10 then some [38, 35, 49, 48, 59] else none
theorem escO_one : ((List.range 256).all fun i => (escC true i.toUInt8 == (escO true i).getD [i.toUInt8]) && (escC false i.toUInt8 == (escO false i).getD [i.toUInt8])) = true := by decide +kernel
theorem escO_none (v : Bool) {c : Nat} (h : 128 ≤ c) : escO v c = none := by
  unfold escO
  rw [if_neg (by omega), if_neg (by omega), if_neg (by omega), if_neg (by omega), if_neg (by omega), if_neg (by omega), if_neg (by omega)]
theorem escO_le (v : Bool) (c : Nat) (l : List UInt8) (h : escO v c = some l) : l.length ≤ 6 := by
  unfold escO at h
  split at h
  · cases h; decide
  · split at h
    · cases h; decide
    · split at h
      · cases h; decide
      · split at h
        · cases h; decide
        · split at h
          · cases h; decide
          · split at h
            · cases h; decide
            · split at h
              · cases h; decide
              · cases h
theorem piece_e (v : Bool) (s : ByteArray) (pos : Nat) (hp : pos < s.size) (ok : okD (Utf8.decode s pos)) : (pieceL s pos).flatMap (escC v) = (escO v (Utf8.decode s pos).1).getD (pieceL s pos) := by
  rcases decode_bytes s pos hp ok with ⟨h1, h2, h3⟩ | ⟨h1, h2⟩
  · have e : pieceL s pos = [s.get! pos] := by unfold pieceL; rw [h1, byte_drop s pos hp]; rfl
    rw [e, h2]
    have h4 := List.all_eq_true.1 escO_one (s.get! pos).toNat (List.mem_range.2 (s.get! pos).toNat_lt)
    rw [show (s.get! pos).toNat.toUInt8 = s.get! pos from by simp] at h4
    simp only [Bool.and_eq_true, beq_iff_eq] at h4
    rw [List.flatMap_cons, List.flatMap_nil, List.append_nil]
    cases v
    · exact h4.2
    · exact h4.1
  · have hb : ∀ c ∈ pieceL s pos, 128 ≤ c.toNat := by
      intro c hc
      obtain ⟨j, hj⟩ := List.mem_iff_getElem?.1 hc
      unfold pieceL at hj
      rw [List.getElem?_take] at hj
      split at hj
      · rename_i hlt
        rw [List.getElem?_drop] at hj
        have h5 := h1 (pos + j) (by omega) (by have := decode_fits s pos hp; omega)
        have h6 : s.data.toList[pos + j]? = some (s.get! (pos + j)) := by
          have := decode_fits s pos hp
          rw [get_bang s (pos + j) (by have : s.data.size = s.size := rfl; omega)]
          simp
        rw [h6] at hj
        cases hj
        exact h5
      · cases hj
    rw [esc_flat_high v _ hb, escO_none v h2]
    rfl
def escT (v : Bool) (s : ByteArray) (pos : Nat) : List UInt8 := (s.data.toList.take pos).flatMap (escC v)
theorem escT_step (v : Bool) (s : ByteArray) (pos : Nat) (hp : pos < s.size) (ok : okD (Utf8.decode s pos)) : escT v s (pos + (Utf8.decode s pos).2) = escT v s pos ++ (escO v (Utf8.decode s pos).1).getD (pieceL s pos) := by
  rw [← piece_e v s pos hp ok]
  unfold escT pieceL
  rw [List.take_add, List.flatMap_append]
theorem escC_le (v : Bool) (c : UInt8) : (escC v c).length ≤ 6 := by
  unfold escC
  repeat' split
  all_goals simp
theorem escL_le (v : Bool) : ∀ l : List UInt8, (l.flatMap (escC v)).length ≤ 6 * l.length
  | [] => Nat.zero_le _
  | c :: l => by
    have := escC_le v c
    have := escL_le v l
    rw [List.flatMap_cons, List.length_append, List.length_cons]
    omega
theorem escT_end (v : Bool) (s : ByteArray) (pos : Nat) (h : s.size ≤ pos) : escT v s pos = escL v s := by
  unfold escT escL
  rw [List.take_of_length_le (by have : s.data.toList.length = s.size := rfl; omega)]
end Go.Proofs.YtojeclfcgnamoaaDoor
