/-
  slices.Values at strings: the iterator, for every loop body that keeps the slice's block.
  The keywords: names.All, names.keywords, names.Keyword.
  The walks of names.Keyword, Word, Words, Right.
  The walks of slices.IndexFunc and ContainsFunc at strings, names.Words, names.Right.
  The walk of the law's own 'same': are two lists the same texts?
  The walks of the document's answer for names: All, Keyword, Word.
  The walk of the document's answer for names: Words.
-/
import Derived.RangeFuncWrites
import Derived.RangeFuncNested
import Derived.RangeFuncBound
import Derived.RangeFuncCalls
import Derived.RangeFuncLeaves
import Derived.Shelf.Abstract
import Derived.Shelf.RegionOpen
import Derived.WalkKit
import Derived.OwnWalkIn
import Derived.TacticsInMore
import Derived.LoopNIn
import Derived.LoopIn
import Derived.Maps.OwnIn
import Derived.Test.YtojeclfcgnamoaaDoorMB
import Derived.Test.YtojeclfcgnamoaaDoorProg
import Derived.Maps.OwnSet
import Derived.Test.YtojeclfcgnamoaaDoorMC
import Derived.Maps.OwnOps
import Derived.Test.YtojeclfcgnamoaaDoorMR
import Derived.Test.YtojeclfcgnamoaaDoorShelf
import Derived.Deep.QuietTactic
import Derived.BigQuiet
import Derived.RegionTactic
import Derived.IntWalk
import Derived.ChangeAlike
import Derived.Laws.OwnMore
namespace Go.Proofs.YtojeclfcgnamoaaDoor
open Go.RowKit Go.Shelf
attribute [local go_sem] Oper.semAt_some

/-- A text that is no longer than any may be. -/
abbrev Str := { s : ByteArray // s.size ≤ maxLen }
/-- Block b is as it was. -/
def KeepB (b : Nat) (W W' : World) : Prop := W'.heap[b]? = W.heap[b]?
theorem KeepB.refl (b : Nat) (W : World) : KeepB b W W := rfl
theorem KeepB.trans {b : Nat} {A B C : World} (h : KeepB b A B) (k : KeepB b B C) : KeepB b A C := Eq.trans k h
theorem KeepB.cell {b o : Nat} {A B : World} (h : KeepB b A B) : B.cell? ⟨b, o, none⟩ = A.cell? ⟨b, o, none⟩ := World.cell?_of_block (w := A) (a := ⟨b, o, none⟩) h
theorem KeepB.putObj {b : Nat} (n : Nat) (hb : b < n) (W : World) (l : Nat) (o o' : Obj) (hl : n ≤ l) (_ : W.heap[l]? = some o) (_ : o.isCells = false) (_ : o.isWalk = false) : KeepB b W (W.putObj l o') :=
  World.putObj_heap_other (by omega)
def upto (f : Nat → Str) (k : Nat) : List Str := (List.range k).map f
theorem upto_length (f : Nat → Str) (k : Nat) : (upto f k).length = k := by simp [upto]
theorem upto_succ (f : Nat → Str) (k : Nat) : upto f (k + 1) = upto f k ++ [f k] := by simp [upto, List.range_succ]

theorem upto_prefix (f : Nat → Str) {k len : Nat} (h : k ≤ len) : upto f k <+: upto f len := by
  unfold upto
  obtain ⟨d, rfl⟩ : ∃ d, len = k + d := ⟨len - k, by omega⟩
  rw [List.range_add, List.map_append]
  exact List.prefix_append _ _

end Go.Proofs.YtojeclfcgnamoaaDoor

namespace Go.Proofs.YtojeclfcgnamoaaDoor
open Go.RowKit Go.Shelf Go.Maps
attribute [local go_sem] Oper.semAt_some

/-- The keywords' bytes, in order. -/
def kwL : List (List UInt8) := [[97, 110, 100], [98, 101, 116, 119, 101, 101, 110], [101, 108, 115, 101], [101, 118, 101, 114, 121], [102, 97, 108, 115, 101], [102, 111, 114], [102, 117, 110, 99, 116, 105, 111, 110], [105, 102], [105, 110], [110, 111, 116], [110, 117, 108, 108], [111, 114], [114, 101, 116, 117, 114, 110], [115, 97, 116, 105, 115, 102, 105, 101, 115], [115, 111, 109, 101], [116, 104, 101, 110], [116, 114, 117, 101]]
def kwB (l : List UInt8) : ByteArray := ⟨l.toArray⟩
def kwV : List Value := kwL.map fun l => Value.string (kwB l)
def kwF (j : Nat) : Str := ⟨kwB (kwL.getD j []), by
  have : ∀ j, (kwL.getD j []).length ≤ 9 := fun j => by
    by_cases h : j < 17
    · exact (by decide : ∀ j : Fin 17, (kwL.getD j.1 []).length ≤ 9) ⟨j, h⟩
    · have h2 : kwL[j]? = none := List.getElem?_eq_none (by have : kwL.length = 17 := rfl; omega)
      simp [List.getD, h2]
  have h2 := this j
  show (kwL.getD j []).toArray.size ≤ maxLen
  rw [List.size_toArray]
  unfold maxLen; omega⟩
/-- Is it a keyword? -/
def isKw (s : ByteArray) : Bool := kwL.any fun l => l == s.data.toList

theorem cell_alloc_old (w : World) (o : Obj) (b k : Nat) (h : b < w.heap.size) : (w.alloc o).cell? ⟨b, k, none⟩ = w.cell? ⟨b, k, none⟩ := World.cell?_of_block (w := w) (a := ⟨b, k, none⟩) (Below.heap_alloc _ _ _ h)
theorem cell_new_row (w : World) (l : List Value) (t : TypeId) (j : Nat) (h : 0 + j < l.length) : (w.alloc (.cells l.toArray t)).cell? ⟨w.heap.size, 0 + j, none⟩ = some (l[0 + j]) := by
  simp only [World.cell?, World.alloc_heap_new]
  simp
theorem kwV_at (j : Nat) (hj : j < 17) : some (kwV[0 + j]'(by simp [kwV, kwL]; exact hj)) = some (Value.string (kwF j).1) := by
  have h : j < kwL.length := hj
  simp only [kwV, List.getElem_map, kwF, List.getD, Nat.zero_add, List.getElem?_eq_getElem h, Option.getD_some]
def trueElem {H : Type} : Value → Option (DataW H × List MemPlace)
  | .bool true => some (.lit (.bool true), [])
  | _ => none
def kwD {H : Type} (xs : List Str) : DataW H := setOf (.lit (.bool true)) (xs.map fun x => Lit.string x.1.data.toList)
theorem kwD_snoc {H : Type} (pre : List Str) (x : Str) : kwD (H := H) (pre ++ [x]) = (kwD pre).put (.string x.1.data.toList) (.lit (.bool true)) := by simp [kwD, setOf_snoc]

end Go.Proofs.YtojeclfcgnamoaaDoor

namespace Go.Proofs.YtojeclfcgnamoaaDoor
open Go.RowKit Go.Maps

theorem look_true {P : Program} {w : World} {t k e : TypeId} {b n : Nat} {D : DataW Unit} (h : w.ownsMap P k (trueElem (H := Unit)) b n D) (K : Keyed P k) (ht : P.underlying t = some (.map k e)) (hz : (zeroValue e).run P w = .ok (.bool false) w)
    {key : Value} {kl : Lit} (hkey : keyOf P k key = some kl) : (Instr.lookup t (.map (some b)) key false).run P w = .ok (.bool (Maps.has D kl)) w := by
  obtain ⟨es, clock, hb, F, _, rfl⟩ := h
  rcases Maps.fit_look false K ht hz hb F hkey with ⟨hrun, _, hat⟩ | ⟨e0, y, _, _, hrun, hRv, hat, _⟩
  · rw [Maps.has_false_of_atKey hat]; exact hrun
  · rw [Maps.has_true_of_atKey hat]
    have hv : e0.val = .bool true := by
      unfold trueElem at hRv
      split at hRv
      · assumption
      · cases hRv
    rw [hv] at hrun
    exact hrun

theorem kwD_has (s : ByteArray) : Maps.has (kwD (H := Unit) (upto kwF 17)) (.string s.data.toList) = isKw s := by
  unfold kwD
  rw [has_setOf _ _ _ (by intro x hx; obtain ⟨y, _, rfl⟩ := List.mem_map.1 hx; trivial)]
  unfold isKw
  rw [List.any_map]
  have : upto kwF 17 = (List.range 17).map kwF := rfl
  rw [this, List.any_map]
  show (List.range 17).any (fun j => (kwF j).1.data.toList == s.data.toList) = _
  have h2 : (List.range 17).any (fun j => (kwF j).1.data.toList == s.data.toList) = ((List.range 17).map fun j => (kwF j).1.data.toList).any (fun l => l == s.data.toList) := by rw [List.any_map]; rfl
  rw [h2]
  rfl

theorem zero_bool (w : World) : (zeroValue 4).run Tryd.prog w = .ok (.bool false) w := by kernel_rfl

/-- Is it a word that is no keyword? -/
def wordS (s : ByteArray) : Bool := madeS firstC nextC s && !isKw s

end Go.Proofs.YtojeclfcgnamoaaDoor

namespace Go.Proofs.YtojeclfcgnamoaaDoor
open Go.RowKit

def strsV (ss : List ByteArray) : List Value := ss.map Value.string
theorem strsV_length (ss : List ByteArray) : (strsV ss).length = ss.length := by simp [strsV]

/-- The place of the first one; -1: there is none. -/
def idxF (p : ByteArray → Bool) : Nat → List ByteArray → Int
  | _, [] => -1
  | k, x :: l => if p x = true then k else idxF p (k + 1) l
theorem idxF_any (p : ByteArray → Bool) : ∀ (l : List ByteArray) (k : Nat), decide (0 ≤ idxF p k l) = l.any p
  | [], _ => rfl
  | x :: l, k => by
    unfold idxF
    by_cases h : p x = true
    · rw [if_pos h]; simp [h]
    · rw [if_neg h, idxF_any p l (k + 1)]; simp [h]

/-- A function value that answers a bool of a text, whatever it lays. -/
structure AsksS (h : Nat) (r : ByteArray → Bool) (ok : ByteArray → Prop) : Prop where
  enters : ∀ args w, (callFunc h args).run Tryd.prog w = .ok (.enter h args) w
  calls : ∀ s w, ok s → Env w → Calls Tryd.prog h #[.string s] w fun e w' => e = .returned (.bool (r s)) ∧ Bel w w'


/-- A name's words: its parts between blanks, each a word; none: it is no name. -/
def partsS (s : ByteArray) : List ByteArray := Lib.splitB ⟨#[32]⟩ 0 (Lib.countB s ⟨#[32]⟩) s
def wordsS (s : ByteArray) : Option (List ByteArray) := if (partsS s).all wordS then some (partsS s) else none
theorem parts_length (s : ByteArray) : (partsS s).length = Lib.countB s ⟨#[32]⟩ + 1 := Lib.splitB_all _ (by decide) _ _ _ rfl
theorem splitB_size (sep : ByteArray) : ∀ (k : Nat) (s x : ByteArray), x ∈ Lib.splitB sep 0 k s → x.size ≤ s.size
  | 0, s, x, h => by rw [Lib.splitB_zero] at h; simp at h; subst h; exact Nat.le_refl _
  | k + 1, s, x, h => by
    rcases Lib.indexB_cases s sep with hix | ⟨i, hix, _⟩
    · rw [Lib.splitB_miss _ _ _ _ hix] at h; simp at h; subst h; exact Nat.le_refl _
    · rw [Lib.splitB_hit _ _ _ _ i hix] at h
      rcases List.mem_cons.1 h with rfl | h
      · simp; omega
      · have := splitB_size sep k _ x h
        simp at this; omega
theorem parts_size (s x : ByteArray) (h : x ∈ partsS s) : x.size ≤ s.size := splitB_size _ _ s x h
theorem count_le (s : ByteArray) : Lib.countB s ⟨#[32]⟩ ≤ s.size := Lib.countB_le _ (by decide) _ _ (Nat.le_refl _)

/-- What Words answers. -/
def RetW (r : Option (List ByteArray)) (w : World) (e : Ending) (w' : World) : Prop :=
  Bel w w' ∧ match r with
  | none => e = .returned (.tuple #[.slice none 0 0, .bool false])
  | some l => ∃ v, e = .returned (.tuple #[v, .bool true]) ∧ RowAt w' v (strsV l)

end Go.Proofs.YtojeclfcgnamoaaDoor

namespace Go.Proofs.YtojeclfcgnamoaaDoor
open Go.RowKit

theorem row0_form {W : World} {v : Value} {xs : List Value} (h : RowAt0 W v xs) (n : Nat) (hn : xs.length = n) : ∃ ao cap, v = .slice ao n cap ∧ (0 < n → ∃ b off, ao = some ⟨b, off, none⟩ ∧ b < W.heap.size ∧ n ≤ cap ∧ ∀ j, j < n → W.cell? ⟨b, off + j, none⟩ = xs[j]?) := by
  rcases h with ⟨rfl, rfl⟩ | ⟨b, off, cap, rfl, hcap, hlt, hc⟩
  · exact ⟨none, 0, by rw [← hn]; rfl, fun h => by simp at hn; omega⟩
  · exact ⟨_, cap, by rw [hn], fun _ => ⟨b, off, rfl, hlt, by omega, fun j hj => by rw [hc j (by omega), List.getElem?_eq_getElem]⟩⟩

theorem toList_eq {x y : ByteArray} (h : (x.toList == y.toList) = true) : x = y := by
  rw [beq_iff_eq, Lib.toList_data, Lib.toList_data] at h
  exact ByteArray.ext (Array.ext' h)
theorem toList_ne {x y : ByteArray} (h : (x.toList == y.toList) = false) : x ≠ y := by
  rintro rfl; simp at h
def RetBel (v : Value) (w : World) (e : Ending) (w' : World) : Prop := e = .returned v ∧ Bel w w'

end Go.Proofs.YtojeclfcgnamoaaDoor

namespace Go.Proofs.YtojeclfcgnamoaaDoor
open Go.RowKit

def KS : List ByteArray := kwL.map kwB
theorem isKw_any (s : ByteArray) : isKw s = KS.any fun x => x.toList == s.toList := by
  unfold isKw KS
  rw [List.any_map]
  congr 1
  funext l
  show (l == s.data.toList) = ((kwB l).toList == s.toList)
  rw [Lib.toList_data, Lib.toList_data]
  rfl

/-- Is it a word that is no keyword? By the document. -/
def rwordS (s : ByteArray) : Bool := charsB firstC nextC s && !isKw s

end Go.Proofs.YtojeclfcgnamoaaDoor

namespace Go.Proofs.YtojeclfcgnamoaaDoor
open Go.RowKit

/-- The parts between blanks. -/
def cutL : List UInt8 → ByteArray → List ByteArray
  | [], x => [x]
  | c :: l, x => if c = 32 then x :: cutL l ⟨#[]⟩ else cutL l (x ++ ⟨#[c]⟩)
def rpartsS (s : ByteArray) : List ByteArray := cutL s.data.toList ⟨#[]⟩
def rwordsS (s : ByteArray) : Option (List ByteArray) := if (rpartsS s).all rwordS then some (rpartsS s) else none
def RetWT (R : List ByteArray) (T : Bool) (w : World) (e : Ending) (w' : World) : Prop := RetW (if T = true then some R else none) w e w'

theorem info_string : (Tryd.prog.info? 9).map (fun i => (i.zero, i.size, i.bytes)) = some (some (.string ⟨#[]⟩), 1, 16) := by kernel_rfl
theorem strsV_set (L : List ByteArray) (x y : ByteArray) : (strsV (L ++ [x])).set L.length (.string y) = strsV (L ++ [y]) := by
  unfold strsV
  rw [← List.map_set]
  simp
theorem byte_drop (s : ByteArray) (k : Nat) (h : k < s.size) : s.data.toList.drop k = s.get! k :: s.data.toList.drop (k + 1) := by
  have hl : k < s.data.toList.length := h
  rw [List.drop_eq_getElem_cons hl, get_bang s k h]
  simp
theorem byte_extract (s : ByteArray) (k : Nat) (h : k < s.size) : s.extract k (k + 1) = ⟨#[s.get! k]⟩ := by
  apply ByteArray.ext
  apply Array.ext'
  have hl : k < s.data.toList.length := h
  simp only [ByteArray.data_extract, Array.toList_extract, List.extract_eq_take_drop]
  rw [byte_drop s k h]
  simp

theorem cutL_size : ∀ (l : List UInt8) (x y : ByteArray), y ∈ cutL l x → y.size ≤ x.size + l.length
  | [], x, y, h => by simp [cutL] at h; subst h; simp
  | c :: l, x, y, h => by
    unfold cutL at h
    split at h
    · rcases List.mem_cons.1 h with rfl | h
      · simp
      · have := cutL_size l _ y h
        have h0 : (⟨#[]⟩ : ByteArray).size = 0 := rfl
        rw [List.length_cons]; omega
    · have := cutL_size l _ y h
      rw [ByteArray.size_append] at this
      have h0 : (⟨#[c]⟩ : ByteArray).size = 1 := rfl
      rw [List.length_cons]; omega
theorem rparts_size (s x : ByteArray) (h : x ∈ rpartsS s) : x.size ≤ s.size := by
  have := cutL_size _ _ x h
  have h0 : (⟨#[]⟩ : ByteArray).size = 0 := rfl
  have h1 : s.size = s.data.toList.length := rfl
  omega

end Go.Proofs.YtojeclfcgnamoaaDoor
