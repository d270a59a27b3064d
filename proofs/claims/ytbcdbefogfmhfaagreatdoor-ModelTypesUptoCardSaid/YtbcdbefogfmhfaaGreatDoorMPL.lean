/-
  Models as trees, how they lie in memory.
  Models (plain): what is wrong with one; what is in scope; when two are the same.
  Models (plain): one more input; one decision less.
  Models (plain): with one more input that nobody needs a right one is right.
  Models (plain): with one decision less a right one is right just if no other one needs it.
  Models (plain): types that are based each on the next one.
  Models (plain): when two are the same.
  model: the rows of numbers hold places only (plain).
-/
import Derived.Test.YtbcdbefogfmhfaaGreatDoorLGA
import Derived.Test.YtbcdbefogfmhfaaGreatDoorOXA
import Derived.Test.YtbcdbefogfmhfaaGreatDoorLGP
namespace Go.Proofs.YtbcdbefogfmhfaaGreatDoor
open Go.RowKit

/-- A type's definition. -/
structure It where
  nm : ByteArray
  base : ByteArray
  te : Te
/-- An input. -/
structure Inp where
  id : ByteArray
  nm : ByteArray
  ty : ByteArray
/-- Knowledge. -/
structure Kn where
  id : ByteArray
  nm : ByteArray
  ps : List ByteArray
  kw : List ByteArray
  lg : Lg
/-- A decision. -/
structure De where
  id : ByteArray
  nm : ByteArray
  ty : ByteArray
  nd : List ByteArray
  kw : List ByteArray
  lg : Lg
/-- A model. -/
structure Md where
  id : ByteArray
  nm : ByteArray
  sp : ByteArray
  its : List It
  ins : List Inp
  kns : List Kn
  des : List De
def itL (t : It) (v : Value) : List Value := [.string t.nm, .string t.base, .bool t.te.any, .bool t.te.no, v]
def inpL (x : Inp) : List Value := [.string x.id, .string x.nm, .string x.ty]
def knL (x : Kn) (vp vk : Value) (q : LgQ) : List Value := [.string x.id, .string x.nm, vp, vk] ++ lgC x.lg q
def deL (x : De) (vn vk : Value) (q : LgQ) : List Value := [.string x.id, .string x.nm, .string x.ty, vn, vk] ++ lgC x.lg q
def ItC (W : World) (b o : Nat) (t : It) : Prop := ∃ v, CellsAt W b o (itL t v) ∧ ExsV W v t.te.l
def InpC (W : World) (b o : Nat) (x : Inp) : Prop := CellsAt W b o (inpL x)
def KnC (W : World) (b o : Nat) (x : Kn) : Prop := ∃ vp vk q, CellsAt W b o (knL x vp vk q) ∧ StrV W vp x.ps ∧ StrV W vk x.kw ∧ LgAt W x.lg q
def DeC (W : World) (b o : Nat) (x : De) : Prop := ∃ vn vk q, CellsAt W b o (deL x vn vk q) ∧ StrV W vn x.nd ∧ StrV W vk x.kw ∧ LgAt W x.lg q
theorem ItC.bel {W W' : World} {b o : Nat} {t : It} (h : ItC W b o t) (hb : Bel W W') : ItC W' b o t := by
  obtain ⟨v, h1, h2⟩ := h
  exact ⟨v, h1.bel hb, h2.bel hb⟩
theorem InpC.bel {W W' : World} {b o : Nat} {t : Inp} (h : InpC W b o t) (hb : Bel W W') : InpC W' b o t := CellsAt.bel h hb
theorem KnC.bel {W W' : World} {b o : Nat} {t : Kn} (h : KnC W b o t) (hb : Bel W W') : KnC W' b o t := by
  obtain ⟨vp, vk, q, h1, h2, h3, h4⟩ := h
  exact ⟨vp, vk, q, h1.bel hb, h2.bel hb, h3.bel hb, LgAt.bel hb _ h4⟩
theorem DeC.bel {W W' : World} {b o : Nat} {t : De} (h : DeC W b o t) (hb : Bel W W') : DeC W' b o t := by
  obtain ⟨vp, vk, q, h1, h2, h3, h4⟩ := h
  exact ⟨vp, vk, q, h1.bel hb, h2.bel hb, h3.bel hb, LgAt.bel hb _ h4⟩
abbrev ItsAt (W : World) (a : Option Addr) (l : List It) : Prop := ThingsAt 5 (ItC W) a l
abbrev InpsAt (W : World) (a : Option Addr) (l : List Inp) : Prop := ThingsAt 3 (InpC W) a l
abbrev KnsAt (W : World) (a : Option Addr) (l : List Kn) : Prop := ThingsAt 15 (KnC W) a l
abbrev DesAt (W : World) (a : Option Addr) (l : List De) : Prop := ThingsAt 16 (DeC W) a l
theorem ItsAt.bel {W W' : World} {a : Option Addr} {l : List It} (h : ItsAt W a l) (hb : Bel W W') : ItsAt W' a l := ThingsAt.mono h fun _ _ _ h => ItC.bel h hb
theorem InpsAt.bel {W W' : World} {a : Option Addr} {l : List Inp} (h : InpsAt W a l) (hb : Bel W W') : InpsAt W' a l := ThingsAt.mono h fun _ _ _ h => InpC.bel h hb
theorem KnsAt.bel {W W' : World} {a : Option Addr} {l : List Kn} (h : KnsAt W a l) (hb : Bel W W') : KnsAt W' a l := ThingsAt.mono h fun _ _ _ h => KnC.bel h hb
theorem DesAt.bel {W W' : World} {a : Option Addr} {l : List De} (h : DesAt W a l) (hb : Bel W W') : DesAt W' a l := ThingsAt.mono h fun _ _ _ h => DeC.bel h hb
/-- The slices of a model. -/
structure MdQ where
  ia : Option Addr
  im : Nat
  ic : Nat
  na : Option Addr
  nm : Nat
  nc : Nat
  ka : Option Addr
  km : Nat
  kc : Nat
  da : Option Addr
  dm : Nat
  dc : Nat
def mdL (m : Md) (q : MdQ) : List Value := [.string m.id, .string m.nm, .string m.sp, .slice q.ia q.im q.ic, .slice q.na q.nm q.nc, .slice q.ka q.km q.kc, .slice q.da q.dm q.dc]
def mdV (m : Md) (q : MdQ) : Value := .agg (mdL m q).toArray
structure MdAt (W : World) (m : Md) (q : MdQ) : Prop where
  li : m.its.length = q.im
  ln : m.ins.length = q.nm
  lk : m.kns.length = q.km
  ld : m.des.length = q.dm
  ci : q.im ≤ q.ic
  cn : q.nm ≤ q.nc
  ck : q.km ≤ q.kc
  cd : q.dm ≤ q.dc
  its : ItsAt W q.ia m.its
  ins : InpsAt W q.na m.ins
  kns : KnsAt W q.ka m.kns
  des : DesAt W q.da m.des
theorem MdAt.bel {W W' : World} {m : Md} {q : MdQ} (h : MdAt W m q) (hb : Bel W W') : MdAt W' m q where
  li := h.li
  ln := h.ln
  lk := h.lk
  ld := h.ld
  ci := h.ci
  cn := h.cn
  ck := h.ck
  cd := h.cd
  its := h.its.bel hb
  ins := h.ins.bel hb
  kns := h.kns.bel hb
  des := h.des.bel hb
/-- How much there is in one. -/
def It.bulk (t : It) : Nat := t.nm.size + t.base.size + t.te.bulk + 1
def Inp.bulk (x : Inp) : Nat := x.id.size + x.nm.size + x.ty.size + 1
def Kn.bulk (x : Kn) : Nat := x.id.size + x.nm.size + sumS x.ps + sumS x.kw + x.lg.bulk + 1
def De.bulk (x : De) : Nat := x.id.size + x.nm.size + x.ty.size + sumS x.nd + sumS x.kw + x.lg.bulk + 1
def Md.bulk (m : Md) : Nat := m.id.size + m.nm.size + m.sp.size + (m.its.map It.bulk).sum + (m.ins.map Inp.bulk).sum + (m.kns.map Kn.bulk).sum + (m.des.map De.bulk).sum + 1
theorem sum_mem {α : Type} (f : α → Nat) {x : α} : ∀ {l : List α}, x ∈ l → f x ≤ (l.map f).sum
  | y :: r, h => by
    rw [List.map_cons, List.sum_cons]
    rcases List.mem_cons.1 h with rfl | h
    · omega
    · have := sum_mem f h; omega
theorem sum_len {α : Type} (f : α → Nat) (hf : ∀ x, 1 ≤ f x) : ∀ l : List α, l.length ≤ (l.map f).sum
  | [] => Nat.zero_le _
  | x :: r => by
    have := sum_len f hf r
    have := hf x
    rw [List.map_cons, List.sum_cons, List.length_cons]
    omega
theorem Md.bulk_its {m : Md} {x : It} (h : x ∈ m.its) : x.bulk < m.bulk := by have := sum_mem It.bulk h; unfold Md.bulk; omega
theorem Md.bulk_ins {m : Md} {x : Inp} (h : x ∈ m.ins) : x.bulk < m.bulk := by have := sum_mem Inp.bulk h; unfold Md.bulk; omega
theorem Md.bulk_kns {m : Md} {x : Kn} (h : x ∈ m.kns) : x.bulk < m.bulk := by have := sum_mem Kn.bulk h; unfold Md.bulk; omega
theorem Md.bulk_des {m : Md} {x : De} (h : x ∈ m.des) : x.bulk < m.bulk := by have := sum_mem De.bulk h; unfold Md.bulk; omega
theorem Md.bulk_len (m : Md) : m.its.length < m.bulk ∧ m.ins.length < m.bulk ∧ m.kns.length < m.bulk ∧ m.des.length < m.bulk := by
  have h1 := sum_len It.bulk (fun x => by unfold It.bulk; omega) m.its
  have h2 := sum_len Inp.bulk (fun x => by unfold Inp.bulk; omega) m.ins
  have h3 := sum_len Kn.bulk (fun x => by unfold Kn.bulk; omega) m.kns
  have h4 := sum_len De.bulk (fun x => by unfold De.bulk; omega) m.des
  unfold Md.bulk
  omega
end Go.Proofs.YtbcdbefogfmhfaaGreatDoor

namespace Go.Proofs.YtbcdbefogfmhfaaGreatDoor
open Go.RowKit

def basicS : List ByteArray := [⟨#[97, 110, 121]⟩, ⟨#[98, 111, 111, 108, 101, 97, 110]⟩, ⟨#[99, 111, 110, 116, 101, 120, 116]⟩, ⟨#[100, 97, 116, 101]⟩, ⟨#[110, 117, 109, 98, 101, 114]⟩, ⟨#[115, 116, 114, 105, 110, 103]⟩]
/-- Names, each of which is to be one, and none ahead. -/
def freshE : List ByteArray → List ByteArray → Nat
  | _, [] => 0
  | seen, x :: r => if rightS x = false then 6 else if x ∈ seen then 8 else freshE (seen ++ [x]) r
/-- Ids and names likewise. -/
def pairsE : List ByteArray → List ByteArray → List (ByteArray × ByteArray) → Nat
  | _, _, [] => 0
  | ids, nms, x :: r => if plainS x.1 = false then 6 else if x.1 ∈ ids then 8 else if rightS x.2 = false then 6 else if x.2 ∈ nms then 8 else pairsE (ids ++ [x.1]) (nms ++ [x.2]) r
def Md.typ (m : Md) : List ByteArray := m.its.map It.nm
def inpP (l : List Inp) : List (ByteArray × ByteArray) := l.map fun x => (x.id, x.nm)
def knP (l : List Kn) : List (ByteArray × ByteArray) := l.map fun x => (x.id, x.nm)
def deP (l : List De) : List (ByteArray × ByteArray) := l.map fun x => (x.id, x.nm)
def Md.pairs (m : Md) : List (ByteArray × ByteArray) := inpP m.ins ++ (knP m.kns ++ deP m.des)
def namedM (m : Md) : Nat := if plainS m.id = false then 6 else if rightS m.nm = false then 6 else if chkS m.sp < m.sp.size then 4 else if freshE [] m.typ ≠ 0 then freshE [] m.typ else pairsE [m.id] [] m.pairs
/-- What has an id: its kind, its number. -/
abbrev Thg := ByteArray × Nat × Nat
def numb (k : Nat) : Nat → List ByteArray → List Thg
  | _, [] => []
  | i, x :: r => (x, k, i) :: numb k (i + 1) r
def Md.things (m : Md) : List Thg := (m.id, 0, 0) :: (numb 1 0 (m.ins.map Inp.id) ++ (numb 2 0 (m.kns.map Kn.id) ++ numb 3 0 (m.des.map De.id)))
def atT (T : List Thg) (s : ByteArray) : Option (Nat × Nat) := (T.find? fun y => decide (y.1 = s)).map Prod.snd
def typedM (m : Md) (t : ByteArray) : Bool := decide (t ∈ m.typ) || decide (t ∈ basicS)
def refsE (T : List Thg) (ok : List Nat) : List ByteArray → List ByteArray → Nat
  | _, [] => 0
  | seen, x :: r => match atT T x with
    | none => 15
    | some y => if y = (0, 0) ∨ y.1 ∉ ok then 15 else if x ∈ seen then 8 else refsE T ok (seen ++ [x]) r
def refKn (T : List Thg) (x : Kn) : Nat := if freshE [] x.ps ≠ 0 then freshE [] x.ps else refsE T [2] [] x.kw
def refDe (m : Md) (T : List Thg) (x : De) : Nat := if x.ty ≠ ⟨#[]⟩ ∧ typedM m x.ty = false then 15 else if refsE T [1, 3] [] x.nd ≠ 0 then refsE T [1, 3] [] x.nd else refsE T [2] [] x.kw
def referredM (m : Md) : Nat := nz [nz (m.its.map fun t => if typedM m t.base = false then 15 else 0), nz (m.ins.map fun x => if x.ty ≠ ⟨#[]⟩ ∧ typedM m x.ty = false then 15 else 0), nz (m.kns.map (refKn m.things)), nz (m.des.map (refDe m m.things))]
def numE (T : List Thg) (k : Nat) (x : ByteArray) : Option Nat := match atT T x with
  | some y => if y.1 = k then some y.2 else none
  | none => none
/-- The numbers of a kind's things, of ids. -/
def numsM (T : List Thg) (k : Nat) (l : List ByteArray) : List Nat := l.filterMap (numE T k)
def idxB (l : List ByteArray) (s : ByteArray) : Nat := l.findIdx fun y => decide (y = s)
def basesM (m : Md) : List (List Nat) := m.its.map fun t => if t.base ∈ m.typ then [idxB m.typ t.base] else []
def knowsM (m : Md) : List (List Nat) := m.kns.map fun x => numsM m.things 2 x.kw
def needsM (m : Md) : List (List Nat) := m.des.map fun x => numsM m.things 3 x.nd
open Classical in
noncomputable def circE (N : List (List Nat)) : Nat := if Acyc N then 0 else 16
noncomputable def circM (m : Md) : Nat := nz [circE (basesM m), circE (knowsM m), circE (needsM m)]
/-- The name of an id. -/
def nameM (m : Md) (s : ByteArray) : ByteArray := match atT m.things s with
  | some (1, i) => ((m.ins.map Inp.nm)[i]?).getD m.nm
  | some (2, i) => ((m.kns.map Kn.nm)[i]?).getD m.nm
  | some (3, i) => ((m.des.map De.nm)[i]?).getD m.nm
  | _ => m.nm
def decE (l : Lg) (names : List ByteArray) : Nat := if CheckL l ≠ 0 then CheckL l else match withS [] names with
  | (some N, _) => scopedL l N
  | (none, e) => e
def noneT (t : Te) : Bool := !t.any && (!t.no && t.l.isEmpty)
def allowE (t : Te) : Nat := if noneT t = true then 0 else if CheckT t ≠ 0 then CheckT t else nz (t.l.map fun x => scopedE x [])
def scKn (m : Md) (x : Kn) : List ByteArray := x.ps ++ x.kw.map (nameM m)
def scDe (m : Md) (x : De) : List ByteArray := (x.nd ++ x.kw).map (nameM m)
def logM (m : Md) : Nat := nz [nz (m.its.map fun t => allowE t.te), nz (m.kns.map fun x => decE x.lg (scKn m x)), nz (m.des.map fun x => decE x.lg (scDe m x))]
noncomputable def CheckM (m : Md) : Nat := nz [namedM m, referredM m, circM m, logM m]
theorem nz2 (a b : Nat) : nz [a, b] = if a = 0 then b else a := by
  simp only [nz]
  by_cases h : b = 0
  · simp [h]
  · simp [h]
theorem nz_cons (a : Nat) (l : List Nat) : nz (a :: l) = if a = 0 then nz l else a := rfl
theorem nz_one (a : Nat) : nz [a] = a := by
  rw [nz_cons]
  by_cases h : a = 0
  · rw [if_pos h, h]; rfl
  · rw [if_neg h]
end Go.Proofs.YtbcdbefogfmhfaaGreatDoor

namespace Go.Proofs.YtbcdbefogfmhfaaGreatDoor
open Go.RowKit

theorem fresh_zero : ∀ (l seen : List ByteArray), freshE seen l = 0 ↔ (∀ x ∈ l, rightS x = true) ∧ l.Nodup ∧ ∀ x ∈ l, x ∉ seen
  | [], seen => by simp [freshE]
  | x :: r, seen => by
    unfold freshE
    by_cases h1 : rightS x = false
    · rw [if_pos h1]
      exact ⟨fun e => by omega, fun e => by have := e.1 x (List.mem_cons_self ..); rw [h1] at this; cases this⟩
    · rw [if_neg h1]
      by_cases h2 : x ∈ seen
      · rw [if_pos h2]
        exact ⟨fun e => by omega, fun e => absurd h2 (e.2.2 x (List.mem_cons_self ..))⟩
      · rw [if_neg h2, fresh_zero r (seen ++ [x])]
        have h1' : rightS x = true := by simpa using h1
        constructor
        · rintro ⟨a, b, c⟩
          refine ⟨fun y hy => ?_, List.nodup_cons.2 ⟨fun hx => c x hx (by simp), b⟩, fun y hy => ?_⟩
          · rcases List.mem_cons.1 hy with rfl | hy
            · exact h1'
            · exact a y hy
          · rcases List.mem_cons.1 hy with rfl | hy
            · exact h2
            · exact fun hs => c y hy (by simp [hs])
        · rintro ⟨a, b, c⟩
          rw [List.nodup_cons] at b
          refine ⟨fun y hy => a y (List.mem_cons_of_mem _ hy), b.2, fun y hy hs => ?_⟩
          rcases List.mem_append.1 hs with hs | hs
          · exact c y (List.mem_cons_of_mem _ hy) hs
          · rw [List.mem_singleton.1 hs] at hy
            exact b.1 hy
theorem pairs_zero : ∀ (l : List (ByteArray × ByteArray)) (ids nms : List ByteArray), pairsE ids nms l = 0 ↔ (∀ x ∈ l, plainS x.1 = true ∧ rightS x.2 = true) ∧ (l.map Prod.fst).Nodup ∧ (∀ x ∈ l, x.1 ∉ ids) ∧ (l.map Prod.snd).Nodup ∧ ∀ x ∈ l, x.2 ∉ nms
  | [], ids, nms => by simp [pairsE]
  | x :: r, ids, nms => by
    unfold pairsE
    by_cases h1 : plainS x.1 = false
    · rw [if_pos h1]
      exact ⟨fun e => by omega, fun e => by have := (e.1 x (List.mem_cons_self ..)).1; rw [h1] at this; cases this⟩
    · rw [if_neg h1]
      by_cases h2 : x.1 ∈ ids
      · rw [if_pos h2]
        exact ⟨fun e => by omega, fun e => absurd h2 (e.2.2.1 x (List.mem_cons_self ..))⟩
      · rw [if_neg h2]
        by_cases h3 : rightS x.2 = false
        · rw [if_pos h3]
          exact ⟨fun e => by omega, fun e => by have := (e.1 x (List.mem_cons_self ..)).2; rw [h3] at this; cases this⟩
        · rw [if_neg h3]
          by_cases h4 : x.2 ∈ nms
          · rw [if_pos h4]
            exact ⟨fun e => by omega, fun e => absurd h4 (e.2.2.2.2 x (List.mem_cons_self ..))⟩
          · rw [if_neg h4, pairs_zero r]
            have h1' : plainS x.1 = true := by simpa using h1
            have h3' : rightS x.2 = true := by simpa using h3
            constructor
            · rintro ⟨a, b, c, d, e⟩
              refine ⟨fun y hy => ?_, ?_, fun y hy => ?_, ?_, fun y hy => ?_⟩
              · rcases List.mem_cons.1 hy with rfl | hy
                · exact ⟨h1', h3'⟩
                · exact a y hy
              · rw [List.map_cons, List.nodup_cons]
                refine ⟨fun hx => ?_, b⟩
                obtain ⟨y, hy, he⟩ := List.mem_map.1 hx
                exact c y hy (by simp [he])
              · rcases List.mem_cons.1 hy with rfl | hy
                · exact h2
                · exact fun hs => c y hy (by simp [hs])
              · rw [List.map_cons, List.nodup_cons]
                refine ⟨fun hx => ?_, d⟩
                obtain ⟨y, hy, he⟩ := List.mem_map.1 hx
                exact e y hy (by simp [he])
              · rcases List.mem_cons.1 hy with rfl | hy
                · exact h4
                · exact fun hs => e y hy (by simp [hs])
            · rintro ⟨a, b, c, d, e⟩
              rw [List.map_cons, List.nodup_cons] at b d
              refine ⟨fun y hy => a y (List.mem_cons_of_mem _ hy), b.2, fun y hy hs => ?_, d.2, fun y hy hs => ?_⟩
              · rcases List.mem_append.1 hs with hs | hs
                · exact c y (List.mem_cons_of_mem _ hy) hs
                · exact b.1 (List.mem_map.2 ⟨y, hy, List.mem_singleton.1 hs⟩)
              · rcases List.mem_append.1 hs with hs | hs
                · exact e y (List.mem_cons_of_mem _ hy) hs
                · exact d.1 (List.mem_map.2 ⟨y, hy, List.mem_singleton.1 hs⟩)
theorem pairsE_cons (ids nms : List ByteArray) (x : ByteArray × ByteArray) (r : List (ByteArray × ByteArray)) : pairsE ids nms (x :: r) = if plainS x.1 = false then 6 else if x.1 ∈ ids then 8 else if rightS x.2 = false then 6 else if x.2 ∈ nms then 8 else pairsE (ids ++ [x.1]) (nms ++ [x.2]) r := rfl
theorem pairs_app : ∀ (A B : List (ByteArray × ByteArray)) (ids nms : List ByteArray), pairsE ids nms A = 0 → pairsE ids nms (A ++ B) = pairsE (ids ++ A.map Prod.fst) (nms ++ A.map Prod.snd) B
  | [], B, ids, nms, _ => by simp
  | x :: r, B, ids, nms, h => by
    rw [List.cons_append, pairsE_cons]
    rw [pairsE_cons] at h
    by_cases h1 : plainS x.1 = false
    · rw [if_pos h1] at h; omega
    · rw [if_neg h1] at h ⊢
      by_cases h2 : x.1 ∈ ids
      · rw [if_pos h2] at h; omega
      · rw [if_neg h2] at h ⊢
        by_cases h3 : rightS x.2 = false
        · rw [if_pos h3] at h; omega
        · rw [if_neg h3] at h ⊢
          by_cases h4 : x.2 ∈ nms
          · rw [if_pos h4] at h; omega
          · rw [if_neg h4] at h ⊢
            rw [pairs_app r B _ _ h]
            simp [List.append_assoc]
/-! What has an id. -/
theorem numb_app (k : Nat) : ∀ (A B : List ByteArray) (i : Nat), numb k i (A ++ B) = numb k i A ++ numb k (i + A.length) B
  | [], B, i => by simp [numb]
  | x :: r, B, i => by
    show (x, k, i) :: numb k (i + 1) (r ++ B) = (x, k, i) :: (numb k (i + 1) r ++ numb k (i + (r.length + 1)) B)
    rw [numb_app k r B (i + 1), show i + 1 + r.length = i + (r.length + 1) from by omega]
theorem numb_fst (k : Nat) : ∀ (l : List ByteArray) (i : Nat), (numb k i l).map Prod.fst = l
  | [], _ => rfl
  | x :: r, i => by
    unfold numb
    rw [List.map_cons, numb_fst k r (i + 1)]
theorem numb_mem {k : Nat} {y : Thg} : ∀ {l : List ByteArray} {i : Nat}, y ∈ numb k i l → y.2.1 = k ∧ i ≤ y.2.2 ∧ l[y.2.2 - i]? = some y.1
  | x :: r, i, h => by
    unfold numb at h
    rcases List.mem_cons.1 h with rfl | h
    · exact ⟨rfl, Nat.le_refl _, by simp⟩
    · obtain ⟨h1, h2, h3⟩ := numb_mem h
      refine ⟨h1, by omega, ?_⟩
      rw [show y.2.2 - i = (y.2.2 - (i + 1)) + 1 from by omega]
      exact h3
theorem at_app (A B : List Thg) (s : ByteArray) : atT (A ++ B) s = (atT A s).or (atT B s) := by
  unfold atT
  rw [List.find?_append]
  cases A.find? (fun y => decide (y.1 = s)) <;> rfl
theorem at_none {T : List Thg} {s : ByteArray} : atT T s = none ↔ s ∉ T.map Prod.fst := by
  unfold atT
  rw [Option.map_eq_none_iff, List.find?_eq_none]
  constructor
  · intro h hm
    obtain ⟨y, hy, he⟩ := List.mem_map.1 hm
    exact h y hy (decide_eq_true he)
  · intro h y hy he
    exact h (List.mem_map.2 ⟨y, hy, of_decide_eq_true he⟩)
theorem at_some {T : List Thg} {s : ByteArray} {y : Nat × Nat} (h : atT T s = some y) : (s, y) ∈ T := by
  unfold atT at h
  rw [Option.map_eq_some_iff] at h
  obtain ⟨z, h1, rfl⟩ := h
  have h2 := List.find?_some h1
  rw [← of_decide_eq_true h2]
  exact List.mem_of_find?_eq_some h1
theorem at_of {T : List Thg} (hn : (T.map Prod.fst).Nodup) {s : ByteArray} {y : Nat × Nat} (h : (s, y) ∈ T) : atT T s = some y := by
  cases hx : atT T s with
  | none => exact absurd (List.mem_map.2 ⟨_, h, rfl⟩) (at_none.1 hx)
  | some z =>
    have h2 := at_some hx
    obtain ⟨i, hi⟩ := List.getElem?_of_mem h
    obtain ⟨j, hj⟩ := List.getElem?_of_mem h2
    have hi2 : (T.map Prod.fst)[i]? = some s := by rw [List.getElem?_map, hi]; rfl
    have hj2 : (T.map Prod.fst)[j]? = some s := by rw [List.getElem?_map, hj]; rfl
    have hil : i < (T.map Prod.fst).length := (List.getElem?_eq_some_iff.1 hi2).1
    have : i = j := (List.getElem?_inj hil hn).1 (hi2.trans hj2.symm)
    subst this
    rw [hi] at hj
    injection hj with hj
    injection hj with _ hj
    rw [hj]
theorem refs_congr {T T' : List Thg} {ok : List Nat} : ∀ {l seen : List ByteArray}, (∀ s ∈ l, atT T s ≠ none → ∃ y y', atT T s = some y ∧ atT T' s = some y' ∧ y'.1 = y.1 ∧ (y' = (0, 0) ↔ y = (0, 0))) → refsE T ok seen l = 0 → refsE T' ok seen l = 0
  | [], seen, _, _ => by unfold refsE; rfl
  | x :: r, seen, h, hz => by
    unfold refsE at hz ⊢
    cases hx : atT T x with
    | none => rw [hx] at hz; simp at hz
    | some y =>
      rw [hx] at hz
      obtain ⟨z, z', h1, h2, h3, h4⟩ := h x (List.mem_cons_self ..) (by rw [hx]; simp)
      rw [hx] at h1
      injection h1 with h1
      subst h1
      rw [h2]
      simp only at hz ⊢
      by_cases h5 : y = (0, 0) ∨ y.1 ∉ ok
      · rw [if_pos h5] at hz; omega
      · rw [if_neg h5] at hz
        rw [if_neg (by rw [h3, h4]; exact h5)]
        by_cases h6 : x ∈ seen
        · rw [if_pos h6] at hz; omega
        · rw [if_neg h6] at hz ⊢
          exact refs_congr (fun s hs => h s (List.mem_cons_of_mem _ hs)) hz
theorem refs_found {T : List Thg} {ok : List Nat} : ∀ {l seen : List ByteArray}, refsE T ok seen l = 0 → (∀ s ∈ l, ∃ y, atT T s = some y ∧ y ≠ (0, 0) ∧ y.1 ∈ ok) ∧ l.Nodup ∧ ∀ s ∈ l, s ∉ seen
  | [], seen, _ => ⟨fun _ h => (by cases h), List.nodup_nil, fun _ h => (by cases h)⟩
  | x :: r, seen, hz => by
    unfold refsE at hz
    cases hx : atT T x with
    | none => rw [hx] at hz; simp at hz
    | some y =>
      rw [hx] at hz
      simp only at hz
      by_cases h5 : y = (0, 0) ∨ y.1 ∉ ok
      · rw [if_pos h5] at hz; omega
      · rw [if_neg h5] at hz
        by_cases h6 : x ∈ seen
        · rw [if_pos h6] at hz; omega
        · rw [if_neg h6] at hz
          obtain ⟨a, b, c⟩ := refs_found hz
          refine ⟨fun s hs => ?_, List.nodup_cons.2 ⟨fun hm => c x hm (by simp), b⟩, fun s hs => ?_⟩
          · rcases List.mem_cons.1 hs with rfl | hs
            · exact ⟨y, hx, fun e => h5 (.inl e), by simpa using fun e => h5 (.inr e)⟩
            · exact a s hs
          · rcases List.mem_cons.1 hs with rfl | hs
            · exact h6
            · exact fun hm => c s hs (by simp [hm])
/-- An id that isn't there is no reference. -/
theorem refs_lost {T : List Thg} {ok : List Nat} : ∀ {l seen : List ByteArray}, (∃ s ∈ l, atT T s = none) → l.Nodup → (∀ s ∈ l, s ∉ seen) → refsE T ok seen l = 15
  | [], seen, h, _, _ => by obtain ⟨s, hs, _⟩ := h; cases hs
  | x :: r, seen, h, hn, hs => by
    unfold refsE
    cases hx : atT T x with
    | none => rfl
    | some y =>
      simp only
      by_cases h5 : y = (0, 0) ∨ y.1 ∉ ok
      · rw [if_pos h5]
      · rw [if_neg h5, if_neg (hs x (List.mem_cons_self ..))]
        rw [List.nodup_cons] at hn
        refine refs_lost ?_ hn.2 fun s hm => ?_
        · obtain ⟨s, hm, he⟩ := h
          rcases List.mem_cons.1 hm with rfl | hm
          · rw [hx] at he; cases he
          · exact ⟨s, hm, he⟩
        · intro hc
          rcases List.mem_append.1 hc with hc | hc
          · exact hs s (List.mem_cons_of_mem _ hm) hc
          · rw [List.mem_singleton.1 hc] at hm; exact hn.1 hm
end Go.Proofs.YtbcdbefogfmhfaaGreatDoor

namespace Go.Proofs.YtbcdbefogfmhfaaGreatDoor
open Go.RowKit

theorem fresh_things (m : Md) : m.things.map Prod.fst = m.id :: m.pairs.map Prod.fst := by
  unfold Md.things Md.pairs inpP knP deP
  simp only [List.map_cons, List.map_append, numb_fst, List.map_map]
  rfl
theorem at_kind {m : Md} {s : ByteArray} {k i : Nat} (h : atT m.things s = some (k, i)) : (k = 0 ∧ i = 0 ∧ s = m.id) ∨ (k = 1 ∧ (m.ins.map Inp.id)[i]? = some s) ∨ (k = 2 ∧ (m.kns.map Kn.id)[i]? = some s) ∨ (k = 3 ∧ (m.des.map De.id)[i]? = some s) := by
  have h1 := at_some h
  unfold Md.things at h1
  rcases List.mem_cons.1 h1 with h1 | h1
  · injection h1 with h2 h3
    injection h3 with h4 h5
    exact .inl ⟨h4, h5, h2⟩
  · rcases List.mem_append.1 h1 with h1 | h1
    · obtain ⟨h2, _, h4⟩ := numb_mem h1
      exact .inr (.inl ⟨h2, h4⟩)
    · rcases List.mem_append.1 h1 with h1 | h1
      · obtain ⟨h2, _, h4⟩ := numb_mem h1
        exact .inr (.inr (.inl ⟨h2, h4⟩))
      · obtain ⟨h2, _, h4⟩ := numb_mem h1
        exact .inr (.inr (.inr ⟨h2, h4⟩))
theorem named_zero {m : Md} : namedM m = 0 ↔ plainS m.id = true ∧ rightS m.nm = true ∧ ¬ chkS m.sp < m.sp.size ∧ freshE [] m.typ = 0 ∧ pairsE [m.id] [] m.pairs = 0 := by
  unfold namedM
  by_cases h1 : plainS m.id = false
  · rw [if_pos h1]; exact ⟨fun e => by omega, fun e => by rw [h1] at e; cases e.1⟩
  · rw [if_neg h1]
    by_cases h2 : rightS m.nm = false
    · rw [if_pos h2]; exact ⟨fun e => by omega, fun e => by rw [h2] at e; cases e.2.1⟩
    · rw [if_neg h2]
      by_cases h3 : chkS m.sp < m.sp.size
      · rw [if_pos h3]; exact ⟨fun e => by omega, fun e => absurd h3 e.2.2.1⟩
      · rw [if_neg h3]
        by_cases h4 : freshE [] m.typ = 0
        · rw [if_neg (fun e => e h4)]
          exact ⟨fun e => ⟨by simpa using h1, by simpa using h2, h3, h4, e⟩, fun e => e.2.2.2.2⟩
        · rw [if_pos h4]
          exact ⟨fun e => absurd e h4, fun e => absurd e.2.2.2.1 h4⟩
theorem check_zero {m : Md} : CheckM m = 0 ↔ namedM m = 0 ∧ referredM m = 0 ∧ circM m = 0 ∧ logM m = 0 := by
  unfold CheckM
  rw [nz_zero]
  simp
theorem referred_zero {m : Md} : referredM m = 0 ↔ (∀ t ∈ m.its, typedM m t.base = true) ∧ (∀ x ∈ m.ins, x.ty ≠ ⟨#[]⟩ → typedM m x.ty = true) ∧ (∀ x ∈ m.kns, refKn m.things x = 0) ∧ ∀ x ∈ m.des, refDe m m.things x = 0 := by
  unfold referredM
  simp only [nz_zero, List.mem_cons, List.not_mem_nil, or_false, forall_eq_or_imp, forall_eq, List.mem_map, forall_exists_index, and_imp, forall_apply_eq_imp_iff₂]
  constructor
  · rintro ⟨a, b, c, d⟩
    refine ⟨fun t ht => ?_, fun x hx hne => ?_, c, d⟩
    · have := a t ht
      by_cases h : typedM m t.base = false
      · rw [if_pos h] at this; omega
      · simpa using h
    · have := b x hx
      by_cases h : typedM m x.ty = false
      · rw [if_pos ⟨hne, h⟩] at this; omega
      · simpa using h
  · rintro ⟨a, b, c, d⟩
    refine ⟨fun t ht => ?_, fun x hx => ?_, c, d⟩
    · rw [if_neg (by rw [a t ht]; simp)]
    · by_cases hne : x.ty = ⟨#[]⟩
      · rw [if_neg (fun e => e.1 hne)]
      · rw [if_neg (fun e => by rw [b x hx hne] at e; cases e.2)]
theorem circ_zero {m : Md} : circM m = 0 ↔ Acyc (basesM m) ∧ Acyc (knowsM m) ∧ Acyc (needsM m) := by
  have h : ∀ N, circE N = 0 ↔ Acyc N := fun N => by
    unfold circE
    by_cases hn : Acyc N
    · rw [if_pos hn]; simp [hn]
    · rw [if_neg hn]; simp [hn]
  unfold circM
  simp only [nz_zero, List.mem_cons, List.not_mem_nil, or_false, forall_eq_or_imp, forall_eq, h]
theorem log_zero {m : Md} : logM m = 0 ↔ (∀ t ∈ m.its, allowE t.te = 0) ∧ (∀ x ∈ m.kns, decE x.lg (scKn m x) = 0) ∧ ∀ x ∈ m.des, decE x.lg (scDe m x) = 0 := by
  unfold logM
  simp only [nz_zero, List.mem_cons, List.not_mem_nil, or_false, forall_eq_or_imp, forall_eq, List.mem_map, forall_exists_index, and_imp, forall_apply_eq_imp_iff₂]
theorem refKn_zero {T : List Thg} {x : Kn} : refKn T x = 0 ↔ freshE [] x.ps = 0 ∧ refsE T [2] [] x.kw = 0 := by
  unfold refKn
  by_cases h : freshE [] x.ps = 0
  · rw [if_neg (fun e => e h)]; simp [h]
  · rw [if_pos h]; simp [h]
theorem refDe_zero {m : Md} {T : List Thg} {x : De} : refDe m T x = 0 ↔ (x.ty ≠ ⟨#[]⟩ → typedM m x.ty = true) ∧ refsE T [1, 3] [] x.nd = 0 ∧ refsE T [2] [] x.kw = 0 := by
  unfold refDe
  by_cases h : x.ty ≠ ⟨#[]⟩ ∧ typedM m x.ty = false
  · rw [if_pos h]; exact ⟨fun e => by omega, fun e => by have := e.1 h.1; rw [h.2] at this; cases this⟩
  · rw [if_neg h]
    have h2 : x.ty ≠ ⟨#[]⟩ → typedM m x.ty = true := fun e => by
      cases ht : typedM m x.ty with
      | true => rfl
      | false => exact absurd ⟨e, ht⟩ h
    by_cases h3 : refsE T [1, 3] [] x.nd = 0
    · rw [if_neg (fun e => e h3)]; exact ⟨fun e => ⟨h2, h3, e⟩, fun e => e.2.2⟩
    · rw [if_pos h3]; exact ⟨fun e => absurd e h3, fun e => absurd e.2.1 h3⟩
theorem filterMap_congrM {α β : Type} {f g : α → Option β} : ∀ {l : List α}, (∀ x ∈ l, f x = g x) → l.filterMap f = l.filterMap g
  | [], _ => rfl
  | x :: r, h => by
    rw [List.filterMap_cons, List.filterMap_cons, h x (List.mem_cons_self ..), filterMap_congrM fun y hy => h y (List.mem_cons_of_mem _ hy)]
/-- With one more input. -/
def Md.more (m : Md) (x : Inp) : Md := { m with ins := m.ins ++ [x] }
theorem more_at (m : Md) (x : Inp) {s : ByteArray} (h : s ≠ x.id) : atT (m.more x).things s = atT m.things s := by
  have hz : ∀ i, atT (numb 1 i [x.id]) s = none := fun i => at_none.2 (by simp [numb]; exact h)
  show atT ([(m.id, 0, 0)] ++ (numb 1 0 ((m.ins ++ [x]).map Inp.id) ++ _)) s = atT ([(m.id, 0, 0)] ++ (numb 1 0 (m.ins.map Inp.id) ++ _)) s
  rw [List.map_append, List.map_cons, List.map_nil, numb_app, at_app, at_app, at_app, hz, at_app [_], at_app (numb 1 0 (m.ins.map Inp.id))]
  rw [Option.or_none]
  rfl
theorem more_pairs (m : Md) (x : Inp) : (m.more x).pairs = inpP m.ins ++ ((x.id, x.nm) :: (knP m.kns ++ deP m.des)) := by
  unfold Md.pairs Md.more inpP
  simp
/-- What is wrong with it is the input's own, if something is. -/
def inpE (m : Md) (x : Inp) : Nat := if plainS x.id = false then 6 else if x.id ∈ m.id :: m.ins.map Inp.id then 8 else if rightS x.nm = false then 6 else if x.nm ∈ m.ins.map Inp.nm then 8 else 0
theorem more_wrong {m : Md} (h : CheckM m = 0) (x : Inp) (hx : inpE m x ≠ 0) : CheckM (m.more x) = inpE m x := by
  obtain ⟨h1, h2, h3, h4, h5⟩ := named_zero.1 (check_zero.1 h).1
  have hA : pairsE [m.id] [] (inpP m.ins) = 0 := by
    rw [pairs_zero] at h5 ⊢
    unfold Md.pairs at h5
    obtain ⟨a, b, c, d, e⟩ := h5
    rw [List.map_append, List.nodup_append] at b d
    exact ⟨fun y hy => a y (List.mem_append_left _ hy), b.1, fun y hy => c y (List.mem_append_left _ hy), d.1, fun y hy => e y (List.mem_append_left _ hy)⟩
  have hn : namedM (m.more x) = inpE m x := by
    unfold namedM
    rw [more_pairs]
    show (if plainS m.id = false then 6 else if rightS m.nm = false then 6 else if chkS m.sp < m.sp.size then 4 else if freshE [] m.typ ≠ 0 then freshE [] m.typ else _) = _
    rw [if_neg (by rw [h1]; simp), if_neg (by rw [h2]; simp), if_neg h3, if_neg (fun e => e h4)]
    show pairsE [m.id] [] _ = _
    rw [pairs_app _ _ _ _ hA]
    unfold pairsE
    have e1 : (inpP m.ins).map Prod.fst = m.ins.map Inp.id := by unfold inpP; rw [List.map_map]; rfl
    have e2 : (inpP m.ins).map Prod.snd = m.ins.map Inp.nm := by unfold inpP; rw [List.map_map]; rfl
    rw [e1, e2]
    show (if plainS x.id = false then 6 else if x.id ∈ m.id :: m.ins.map Inp.id then 8 else if rightS x.nm = false then 6 else if x.nm ∈ [] ++ m.ins.map Inp.nm then 8 else _) = _
    rw [List.nil_append]
    unfold inpE at hx ⊢
    by_cases g1 : plainS x.id = false
    · rw [if_pos g1, if_pos g1]
    · rw [if_neg g1] at hx ⊢
      rw [if_neg g1]
      by_cases g2 : x.id ∈ m.id :: m.ins.map Inp.id
      · rw [if_pos g2, if_pos g2]
      · rw [if_neg g2] at hx ⊢
        rw [if_neg g2]
        by_cases g3 : rightS x.nm = false
        · rw [if_pos g3, if_pos g3]
        · rw [if_neg g3] at hx ⊢
          rw [if_neg g3]
          by_cases g4 : x.nm ∈ m.ins.map Inp.nm
          · rw [if_pos g4, if_pos g4]
          · rw [if_neg g4] at hx
            exact absurd rfl hx
  unfold CheckM
  rw [nz_cons, hn, if_neg hx]
theorem refs_some {T : List Thg} {ok : List Nat} {l : List ByteArray} (h : refsE T ok [] l = 0) {s : ByteArray} (hs : s ∈ l) : atT T s ≠ none := by
  obtain ⟨y, h1, _⟩ := (refs_found h).1 s hs
  rw [h1]; simp
theorem more_right {m : Md} (h : CheckM m = 0) (x : Inp) (hp : plainS x.id = true) (hr : rightS x.nm = true) (ht : x.ty = ⟨#[]⟩) (hid : x.id ≠ m.id) (hot : ∀ p ∈ m.pairs, p.1 ≠ x.id ∧ p.2 ≠ x.nm) : CheckM (m.more x) = 0 := by
  obtain ⟨hn, hf, hc, hl⟩ := check_zero.1 h
  obtain ⟨h1, h2, h3, h4, h5⟩ := named_zero.1 hn
  obtain ⟨r1, r2, r3, r4⟩ := referred_zero.1 hf
  have hne : ∀ s, atT m.things s ≠ none → s ≠ x.id := fun s hs e => by
    subst e
    have := fun hh => hs (at_none.2 hh)
    rw [fresh_things] at this
    refine this fun hm => ?_
    rcases List.mem_cons.1 hm with e | hm
    · exact hid e
    · obtain ⟨p, hp, e⟩ := List.mem_map.1 hm
      exact (hot p hp).1 e
  have hat : ∀ s, atT m.things s ≠ none → atT (m.more x).things s = atT m.things s := fun s hs => more_at m x (hne s hs)
  have hrefs : ∀ ok l, refsE m.things ok [] l = 0 → refsE (m.more x).things ok [] l = 0 := fun ok l hz => refs_congr (fun s hs hss => by
    cases hy : atT m.things s with
    | none => exact absurd hy hss
    | some y => exact ⟨y, y, rfl, by rw [hat s hss, hy], rfl, Iff.rfl⟩) hz
  have hnum : ∀ k l, (∀ s ∈ l, atT m.things s ≠ none) → numsM (m.more x).things k l = numsM m.things k l := fun k l hl => by
    unfold numsM
    exact filterMap_congrM fun s hs => by unfold numE; rw [hat s (hl s hs)]
  have hname : ∀ s, atT m.things s ≠ none → nameM (m.more x) s = nameM m s := fun s hs => by
    unfold nameM
    rw [hat s hs]
    cases hy : atT m.things s with
    | none => rfl
    | some y =>
      obtain ⟨k, i⟩ := y
      rcases at_kind hy with ⟨rfl, _, _⟩ | ⟨rfl, hi⟩ | ⟨rfl, hi⟩ | ⟨rfl, hi⟩
      · rfl
      · have hil : i < m.ins.length := by have := (List.getElem?_eq_some_iff.1 hi).1; rwa [List.length_map] at this
        show (((m.ins ++ [x]).map Inp.nm)[i]?).getD m.nm = _
        rw [List.map_append, List.getElem?_append_left (by rw [List.length_map]; exact hil)]
        rfl
      · rfl
      · rfl
  refine check_zero.2 ⟨?_, ?_, ?_, ?_⟩
  · refine named_zero.2 ⟨h1, h2, h3, h4, ?_⟩
    rw [more_pairs]
    show pairsE [m.id] [] _ = 0
    rw [pairs_zero] at h5 ⊢
    unfold Md.pairs at h5 hot
    have hperm : (inpP m.ins ++ (x.id, x.nm) :: (knP m.kns ++ deP m.des)).Perm ((x.id, x.nm) :: (inpP m.ins ++ (knP m.kns ++ deP m.des))) := List.perm_middle
    obtain ⟨a, b, c, d, e⟩ := h5
    have hmem : ∀ y, y ∈ inpP m.ins ++ (x.id, x.nm) :: (knP m.kns ++ deP m.des) → y = (x.id, x.nm) ∨ y ∈ inpP m.ins ++ (knP m.kns ++ deP m.des) := fun y hy => List.mem_cons.1 (hperm.mem_iff.1 hy)
    refine ⟨fun y hy => ?_, ?_, fun y hy => ?_, ?_, fun y hy => by simp⟩
    · rcases hmem y hy with rfl | hy
      · exact ⟨hp, hr⟩
      · exact a y hy
    · rw [(hperm.map Prod.fst).nodup_iff, List.map_cons, List.nodup_cons]
      exact ⟨fun hm => by obtain ⟨p, hp, e⟩ := List.mem_map.1 hm; exact (hot p hp).1 e, b⟩
    · rcases hmem y hy with rfl | hy
      · simpa using hid
      · exact c y hy
    · rw [(hperm.map Prod.snd).nodup_iff, List.map_cons, List.nodup_cons]
      exact ⟨fun hm => by obtain ⟨p, hp, e⟩ := List.mem_map.1 hm; exact (hot p hp).2 e, d⟩
  · refine referred_zero.2 ⟨r1, fun y hy hy2 => ?_, fun y hy => ?_, fun y hy => ?_⟩
    · rcases List.mem_append.1 hy with hy | hy
      · exact r2 y hy hy2
      · rw [List.mem_singleton.1 hy] at hy2; exact absurd ht hy2
    · obtain ⟨a, b⟩ := refKn_zero.1 (r3 y hy)
      exact refKn_zero.2 ⟨a, hrefs _ _ b⟩
    · obtain ⟨a, b, c⟩ := refDe_zero.1 (r4 y hy)
      exact refDe_zero.2 ⟨a, hrefs _ _ b, hrefs _ _ c⟩
  · obtain ⟨c1, c2, c3⟩ := circ_zero.1 hc
    refine circ_zero.2 ⟨c1, ?_, ?_⟩
    · have : knowsM (m.more x) = knowsM m := List.map_congr_left fun y hy => hnum 2 _ fun s hs => refs_some (refKn_zero.1 (r3 y hy)).2 hs
      rw [this]; exact c2
    · have : needsM (m.more x) = needsM m := List.map_congr_left fun y hy => hnum 3 _ fun s hs => refs_some (refDe_zero.1 (r4 y hy)).2.1 hs
      rw [this]; exact c3
  · obtain ⟨l1, l2, l3⟩ := log_zero.1 hl
    refine log_zero.2 ⟨l1, fun y hy => ?_, fun y hy => ?_⟩
    · have : scKn (m.more x) y = scKn m y := by
        unfold scKn
        rw [List.map_congr_left fun s hs => hname s (refs_some (refKn_zero.1 (r3 y hy)).2 hs)]
      rw [this]; exact l2 y hy
    · have : scDe (m.more x) y = scDe m y := by
        unfold scDe
        refine List.map_congr_left fun s hs => hname s ?_
        rcases List.mem_append.1 hs with hs | hs
        · exact refs_some (refDe_zero.1 (r4 y hy)).2.1 hs
        · exact refs_some (refDe_zero.1 (r4 y hy)).2.2 hs
      rw [this]; exact l3 y hy
end Go.Proofs.YtbcdbefogfmhfaaGreatDoor

namespace Go.Proofs.YtbcdbefogfmhfaaGreatDoor
open Go.RowKit

theorem mem_numb (k : Nat) : ∀ (l : List ByteArray) (i j : Nat) (s : ByteArray), l[j]? = some s → (s, k, i + j) ∈ numb k i l
  | [], _, _, _, h => by cases h
  | x :: r, i, 0, s, h => by
    cases h
    exact List.mem_cons_self ..
  | x :: r, i, j + 1, s, h => by
    have := mem_numb k r (i + 1) j s h
    rw [show i + 1 + j = i + (j + 1) from by omega] at this
    exact List.mem_cons_of_mem _ this
def Md.less (m : Md) (i : Nat) : Md := { m with des := m.des.eraseIdx i }
theorem erase_get {α : Type} (l : List α) (i j : Nat) : (l.eraseIdx i)[j]? = if j < i then l[j]? else l[j + 1]? := List.getElem?_eraseIdx
theorem erase_map {α β : Type} (f : α → β) (l : List α) (i : Nat) : (l.eraseIdx i).map f = (l.map f).eraseIdx i := by
  apply List.ext_getElem?
  intro j
  rw [List.getElem?_map, erase_get, erase_get]
  split <;> rw [List.getElem?_map]
/-- A decision's number behind that. -/
def shf (i j : Nat) : Nat := if j < i then j else j - 1
def ush (i j : Nat) : Nat := if j < i then j else j + 1
theorem ush_shf {i j : Nat} (h : j ≠ i) : ush i (shf i j) = j := by
  unfold ush shf
  by_cases h1 : j < i
  · rw [if_pos h1, if_pos h1]
  · rw [if_neg h1, if_neg (by omega)]; omega
theorem erase_shf {α : Type} (l : List α) {i j : Nat} (h : j ≠ i) : (l.eraseIdx i)[shf i j]? = l[j]? := by
  rw [erase_get]
  have := ush_shf h
  unfold ush at this
  by_cases h1 : shf i j < i
  · rw [if_pos h1] at this ⊢; rw [this]
  · rw [if_neg h1] at this ⊢; rw [this]
theorem less_pairs (m : Md) (i : Nat) : (m.less i).pairs.Sublist m.pairs := by
  unfold Md.pairs deP
  refine List.Sublist.append_left (List.Sublist.append_left ?_ _) _
  exact ((List.eraseIdx_sublist _ _).map _)
theorem things_nodup {m : Md} (h : namedM m = 0) : (m.things.map Prod.fst).Nodup := by
  obtain ⟨_, _, _, _, h5⟩ := named_zero.1 h
  obtain ⟨a, b, c, _, _⟩ := (pairs_zero _ _ _).1 h5
  rw [fresh_things, List.nodup_cons]
  exact ⟨fun hm => by obtain ⟨p, hp, e⟩ := List.mem_map.1 hm; exact c p hp (by simp [e]), b⟩
theorem less_named {m : Md} (h : namedM m = 0) (i : Nat) : namedM (m.less i) = 0 := by
  obtain ⟨h1, h2, h3, h4, h5⟩ := named_zero.1 h
  refine named_zero.2 ⟨h1, h2, h3, h4, ?_⟩
  have hs := less_pairs m i
  show pairsE [m.id] [] _ = 0
  rw [pairs_zero] at h5 ⊢
  obtain ⟨a, b, c, d, e⟩ := h5
  exact ⟨fun y hy => a y (hs.subset hy), (hs.map _).nodup b, fun y hy => c y (hs.subset hy), (hs.map _).nodup d, fun y hy => e y (hs.subset hy)⟩
theorem des_id {m : Md} (h : namedM m = 0) {i : Nat} {x : De} (hx : m.des[i]? = some x) : atT m.things x.id = some (3, i) := by
  refine at_of (things_nodup h) ?_
  unfold Md.things
  refine List.mem_cons_of_mem _ (List.mem_append_right _ (List.mem_append_right _ ?_))
  have := mem_numb 3 (m.des.map De.id) 0 i x.id (by rw [List.getElem?_map, hx]; rfl)
  rwa [Nat.zero_add] at this
theorem less_at {m : Md} (h : namedM m = 0) {i : Nat} {x : De} (hx : m.des[i]? = some x) {s : ByteArray} {k j : Nat} (hs : atT m.things s = some (k, j)) (hne : s ≠ x.id) :
    atT (m.less i).things s = some (k, if k = 3 then shf i j else j) ∧ (k = 3 → j ≠ i) := by
  have hji : k = 3 → j ≠ i := fun hk e => by
    subst hk e
    rcases at_kind hs with ⟨h1, _⟩ | ⟨h1, _⟩ | ⟨h1, _⟩ | ⟨_, h1⟩
    · omega
    · omega
    · omega
    · rw [List.getElem?_map, hx] at h1
      injection h1 with h1
      exact hne h1.symm
  refine ⟨at_of (things_nodup (less_named h i)) ?_, hji⟩
  have hm := at_some hs
  unfold Md.things at hm ⊢
  rcases List.mem_cons.1 hm with hm | hm
  · injection hm with e1 e2
    injection e2 with e2 e3
    subst e1 e2 e3
    rw [if_neg (by omega)]
    exact List.mem_cons_self ..
  · refine List.mem_cons_of_mem _ ?_
    rcases List.mem_append.1 hm with hm | hm
    · have hk := (numb_mem hm).1
      simp only at hk
      rw [if_neg (by omega)]
      exact List.mem_append_left _ hm
    · rcases List.mem_append.1 hm with hm | hm
      · have hk := (numb_mem hm).1
        simp only at hk
        rw [if_neg (by omega)]
        exact List.mem_append_right _ (List.mem_append_left _ hm)
      · obtain ⟨hk, _, hg⟩ := numb_mem hm
        simp only at hk hg
        subst hk
        rw [if_pos rfl]
        refine List.mem_append_right _ (List.mem_append_right _ ?_)
        have hl : ((m.less i).des.map De.id)[shf i j]? = some s := by
          show ((m.des.eraseIdx i).map De.id)[_]? = _
          rw [erase_map, erase_shf _ (hji rfl)]
          simpa using hg
        have := mem_numb 3 _ 0 _ s hl
        rwa [Nat.zero_add] at this
theorem less_gone {m : Md} (h : namedM m = 0) {i : Nat} {x : De} (hx : m.des[i]? = some x) : atT (m.less i).things x.id = none := by
  rw [at_none, fresh_things]
  have hn := things_nodup h
  intro hm
  have hid := des_id h hx
  rcases List.mem_cons.1 hm with e | hm
  · have h0 : atT m.things m.id = some (0, 0) := at_of hn (by unfold Md.things; exact List.mem_cons_self ..)
    have e2 : x.id = m.id := e
    rw [e2, h0] at hid
    injection hid with hid
    injection hid with hid
    omega
  · exact absurd hm (by
      unfold Md.pairs Md.less
      intro hm
      rw [List.map_append, List.map_append] at hm
      have hk : ∀ k j, atT m.things x.id = some (k, j) → k = 3 := fun k j e => by rw [hid] at e; injection e with e; injection e with e; exact e.symm
      have hmem : ∀ y ∈ m.things, y.1 = x.id → y.2 = (3, i) := fun y hy e => by
        have := at_of hn (s := y.1) (y := y.2) hy
        rw [e, hid] at this
        injection this with this
        exact this.symm
      rcases List.mem_append.1 hm with hm | hm
      · obtain ⟨p, hp, e⟩ := List.mem_map.1 hm
        obtain ⟨z, hz, rfl⟩ := List.mem_map.1 hp
        obtain ⟨j, hj⟩ := List.getElem?_of_mem hz
        have h1 := mem_numb 1 (m.ins.map Inp.id) 0 j z.id (by rw [List.getElem?_map, hj]; rfl)
        have := hmem _ (by unfold Md.things; exact List.mem_cons_of_mem _ (List.mem_append_left _ h1)) e
        injection this with this
        omega
      · rcases List.mem_append.1 hm with hm | hm
        · obtain ⟨p, hp, e⟩ := List.mem_map.1 hm
          obtain ⟨z, hz, rfl⟩ := List.mem_map.1 hp
          obtain ⟨j, hj⟩ := List.getElem?_of_mem hz
          have h1 := mem_numb 2 (m.kns.map Kn.id) 0 j z.id (by rw [List.getElem?_map, hj]; rfl)
          have := hmem _ (by unfold Md.things; exact List.mem_cons_of_mem _ (List.mem_append_right _ (List.mem_append_left _ h1))) e
          injection this with this
          omega
        · obtain ⟨p, hp, e⟩ := List.mem_map.1 hm
          obtain ⟨z, hz, rfl⟩ := List.mem_map.1 hp
          obtain ⟨j, hj⟩ := List.getElem?_of_mem hz
          rw [erase_get] at hj
          have h2 : ∃ j', j' ≠ i ∧ m.des[j']? = some z := by
            by_cases hji : j < i
            · rw [if_pos hji] at hj; exact ⟨j, by omega, hj⟩
            · rw [if_neg hji] at hj; exact ⟨j + 1, by omega, hj⟩
          obtain ⟨j', hne, hj'⟩ := h2
          have := des_id h hj'
          have e2 : z.id = x.id := e
          rw [e2, hid] at this
          injection this with this
          injection this with _ this
          exact hne this.symm)
/-- What a right model's decision needs is there. -/
theorem found_of {m : Md} {ok : List Nat} {l : List ByteArray} (h : refsE m.things ok [] l = 0) {s : ByteArray} (hs : s ∈ l) : ∃ k j, atT m.things s = some (k, j) ∧ k ∈ ok ∧ k ≠ 0 := by
  obtain ⟨y, h1, h2, h3⟩ := (refs_found h).1 s hs
  obtain ⟨k, j⟩ := y
  refine ⟨k, j, h1, h3, fun e => h2 ?_⟩
  subst e
  rcases at_kind h1 with ⟨_, h4, _⟩ | ⟨h4, _⟩ | ⟨h4, _⟩ | ⟨h4, _⟩
  · rw [h4]
  · omega
  · omega
  · omega
theorem less_refs {m : Md} (h : namedM m = 0) {i : Nat} {x : De} (hx : m.des[i]? = some x) {ok : List Nat} {l : List ByteArray} (hl : x.id ∉ l) (hz : refsE m.things ok [] l = 0) : refsE (m.less i).things ok [] l = 0 :=
  refs_congr (fun s hs _ => by
    obtain ⟨k, j, h1, h2, h3⟩ := found_of hz hs
    have hne : s ≠ x.id := fun e => hl (e ▸ hs)
    obtain ⟨h4, _⟩ := less_at h hx h1 hne
    refine ⟨_, _, h1, h4, rfl, ?_⟩
    constructor
    · intro e; injection e with e _; exact absurd e h3
    · intro e; injection e with e _; exact absurd e h3) hz
theorem kn_free {m : Md} (h : namedM m = 0) {i : Nat} {x : De} (hx : m.des[i]? = some x) {l : List ByteArray} (hz : refsE m.things [2] [] l = 0) : x.id ∉ l := fun hm => by
  obtain ⟨k, j, h1, h2, _⟩ := found_of hz hm
  rw [des_id h hx] at h1
  injection h1 with h1
  injection h1 with h1
  rw [← h1] at h2
  simp at h2
theorem less_name {m : Md} (h : namedM m = 0) {i : Nat} {x : De} (hx : m.des[i]? = some x) {s : ByteArray} {k j : Nat} (hs : atT m.things s = some (k, j)) (hne : s ≠ x.id) : nameM (m.less i) s = nameM m s := by
  obtain ⟨h1, h2⟩ := less_at h hx hs hne
  unfold nameM
  rw [h1, hs]
  rcases at_kind hs with ⟨rfl, rfl, _⟩ | ⟨rfl, _⟩ | ⟨rfl, _⟩ | ⟨rfl, _⟩
  · rfl
  · rfl
  · rfl
  · rw [if_pos rfl]
    show (((m.des.eraseIdx i).map De.nm)[shf i j]?).getD m.nm = ((m.des.map De.nm)[j]?).getD m.nm
    rw [erase_map, erase_shf _ (h2 rfl)]
theorem less_nums {m : Md} (h : namedM m = 0) {i : Nat} {x : De} (hx : m.des[i]? = some x) {ok : List Nat} {l : List ByteArray} (hl : x.id ∉ l) (hz : refsE m.things ok [] l = 0) (c : Nat) : numsM (m.less i).things c l = if c = 3 then (numsM m.things c l).map (shf i) else numsM m.things c l := by
  have hstep : ∀ s ∈ l, numE (m.less i).things c s = Option.map (if c = 3 then shf i else id) (numE m.things c s) := fun s hs => by
    unfold numE
    obtain ⟨k, j, h1, _, _⟩ := found_of hz hs
    obtain ⟨h4, _⟩ := less_at h hx h1 (fun e => hl (e ▸ hs))
    rw [h1, h4]
    simp only
    by_cases hk : k = c
    · subst hk
      rw [if_pos rfl, if_pos rfl]
      by_cases h3 : k = 3
      · rw [if_pos h3, if_pos h3]; rfl
      · rw [if_neg h3, if_neg h3]; rfl
    · rw [if_neg hk, if_neg hk]; rfl
  unfold numsM
  rw [filterMap_congrM hstep]
  by_cases h3 : c = 3
  · rw [if_pos h3, if_pos h3, List.map_filterMap]
  · rw [if_neg h3, if_neg h3]
    exact filterMap_congrM fun s _ => by
      cases numE m.things c s <;> rfl
theorem less_right {m : Md} (h : CheckM m = 0) {i : Nat} {x : De} (hx : m.des[i]? = some x) (hno : ∀ y ∈ m.des.eraseIdx i, x.id ∉ y.nd) : CheckM (m.less i) = 0 := by
  obtain ⟨hn, hf, hc, hl⟩ := check_zero.1 h
  obtain ⟨r1, r2, r3, r4⟩ := referred_zero.1 hf
  have hsub : ∀ y, y ∈ m.des.eraseIdx i → y ∈ m.des := fun y hy => (List.eraseIdx_sublist _ _).subset hy
  refine check_zero.2 ⟨less_named hn i, ?_, ?_, ?_⟩
  · refine referred_zero.2 ⟨r1, r2, fun y hy => ?_, fun y hy => ?_⟩
    · obtain ⟨a, b⟩ := refKn_zero.1 (r3 y hy)
      exact refKn_zero.2 ⟨a, less_refs hn hx (kn_free hn hx b) b⟩
    · obtain ⟨a, b, c⟩ := refDe_zero.1 (r4 y (hsub y hy))
      exact refDe_zero.2 ⟨a, less_refs hn hx (hno y hy) b, less_refs hn hx (kn_free hn hx c) c⟩
  · obtain ⟨c1, c2, c3⟩ := circ_zero.1 hc
    refine circ_zero.2 ⟨c1, ?_, ?_⟩
    · have : knowsM (m.less i) = knowsM m := List.map_congr_left fun y hy => by
        have hz := (refKn_zero.1 (r3 y hy)).2
        rw [less_nums hn hx (kn_free hn hx hz) hz, if_neg (by omega)]
      rw [this]; exact c2
    · obtain ⟨f, hfa⟩ := c3
      refine ⟨fun j => f (ush i j), fun j hj k hk => ?_⟩
      unfold needAt needsM at hk
      show f (ush i k) < f (ush i j)
      rw [List.getElem?_map] at hk
      cases hd : (m.less i).des[j]? with
      | none => rw [hd] at hk; cases hk
      | some y =>
        rw [hd] at hk
        have hym : y ∈ m.des.eraseIdx i := List.mem_of_getElem? hd
        have hz := (refDe_zero.1 (r4 y (hsub y hym))).2.1
        simp only [Option.map_some, Option.getD_some] at hk
        rw [less_nums hn hx (hno y hym) hz, if_pos rfl] at hk
        obtain ⟨k0, hk0, rfl⟩ := List.mem_map.1 hk
        have hde : m.des[ush i j]? = some y := by
          have : (m.des.eraseIdx i)[j]? = some y := hd
          rw [erase_get] at this
          unfold ush
          by_cases hji : j < i
          · rw [if_pos hji] at this ⊢; exact this
          · rw [if_neg hji] at this ⊢; exact this
        have hk0i : k0 ≠ i := fun e => by
          subst e
          unfold numsM at hk0
          obtain ⟨s, hs, he⟩ := List.mem_filterMap.1 hk0
          unfold numE at he
          obtain ⟨k', j', h1, _, _⟩ := found_of hz hs
          rw [h1] at he
          simp only at he
          by_cases h3 : k' = 3
          · rw [if_pos h3] at he
            injection he with he
            subst he h3
            rcases at_kind h1 with ⟨h4, _⟩ | ⟨h4, _⟩ | ⟨h4, _⟩ | ⟨_, h4⟩
            · omega
            · omega
            · omega
            · rw [List.getElem?_map, hx] at h4
              injection h4 with h4
              have h5 : x.id = s := h4
              exact hno y hym (h5 ▸ hs)
          · rw [if_neg h3] at he; cases he
        rw [ush_shf hk0i]
        refine hfa (ush i j) ?_ k0 ?_
        · unfold needsM
          rw [List.length_map]
          exact (List.getElem?_eq_some_iff.1 hde).1
        · unfold needAt needsM
          rw [List.getElem?_map, hde]
          exact hk0
  · obtain ⟨l1, l2, l3⟩ := log_zero.1 hl
    have hnm : ∀ {ok : List Nat} {l : List ByteArray}, x.id ∉ l → refsE m.things ok [] l = 0 → ∀ s ∈ l, nameM (m.less i) s = nameM m s := fun hl hz s hs => by
      obtain ⟨k, j, h1, _, _⟩ := found_of hz hs
      exact less_name hn hx h1 fun e => hl (e ▸ hs)
    refine log_zero.2 ⟨l1, fun y hy => ?_, fun y hy => ?_⟩
    · have hz := (refKn_zero.1 (r3 y hy)).2
      have : scKn (m.less i) y = scKn m y := by
        unfold scKn
        rw [List.map_congr_left (hnm (kn_free hn hx hz) hz)]
      rw [this]; exact l2 y hy
    · obtain ⟨_, b, c⟩ := refDe_zero.1 (r4 y (hsub y hy))
      have : scDe (m.less i) y = scDe m y := by
        unfold scDe
        refine List.map_congr_left fun s hs => ?_
        rcases List.mem_append.1 hs with hs | hs
        · exact hnm (hno y hy) b s hs
        · exact hnm (kn_free hn hx c) c s hs
      rw [this]; exact l3 y (hsub y hy)
theorem nz_all {c : Nat} : ∀ {l : List Nat}, (∀ a ∈ l, a = 0 ∨ a = c) → (∃ a ∈ l, a ≠ 0) → nz l = c
  | [], _, h => by obtain ⟨a, ha, _⟩ := h; cases ha
  | x :: r, h, hx => by
    rw [nz_cons]
    by_cases h0 : x = 0
    · rw [if_pos h0]
      obtain ⟨a, ha, hn⟩ := hx
      rcases List.mem_cons.1 ha with rfl | ha
      · exact absurd h0 hn
      · exact nz_all (fun b hb => h b (List.mem_cons_of_mem _ hb)) ⟨a, ha, hn⟩
    · rw [if_neg h0]
      exact (h x (List.mem_cons_self ..)).resolve_left h0
theorem less_wrong {m : Md} (h : CheckM m = 0) {i : Nat} {x : De} (hx : m.des[i]? = some x) (hne : ∃ y ∈ m.des.eraseIdx i, x.id ∈ y.nd) : CheckM (m.less i) = 15 := by
  obtain ⟨hn, hf, _, _⟩ := check_zero.1 h
  obtain ⟨r1, r2, r3, r4⟩ := referred_zero.1 hf
  have hsub : ∀ y, y ∈ m.des.eraseIdx i → y ∈ m.des := fun y hy => (List.eraseIdx_sublist _ _).subset hy
  have hz1 : nz ((m.less i).its.map fun t => if typedM (m.less i) t.base = false then 15 else 0) = 0 := (nz_zero _).2 fun a ha => by
    obtain ⟨t, ht, rfl⟩ := List.mem_map.1 ha
    have := r1 t ht
    exact if_neg (fun e => by have e2 : typedM m t.base = false := e; rw [this] at e2; cases e2)
  have hz2 : nz ((m.less i).ins.map fun x => if x.ty ≠ ⟨#[]⟩ ∧ typedM (m.less i) x.ty = false then 15 else 0) = 0 := (nz_zero _).2 fun a ha => by
    obtain ⟨t, ht, rfl⟩ := List.mem_map.1 ha
    exact if_neg (fun e => by have e2 : typedM m t.ty = false := e.2; rw [r2 t ht e.1] at e2; cases e2)
  have hz3 : nz ((m.less i).kns.map (refKn (m.less i).things)) = 0 := (nz_zero _).2 fun a ha => by
    obtain ⟨y, hy, rfl⟩ := List.mem_map.1 ha
    obtain ⟨a, b⟩ := refKn_zero.1 (r3 y hy)
    exact refKn_zero.2 ⟨a, less_refs hn hx (kn_free hn hx b) b⟩
  have hde : ∀ y ∈ m.des.eraseIdx i, refDe (m.less i) (m.less i).things y = if x.id ∈ y.nd then 15 else 0 := fun y hy => by
    obtain ⟨a, b, c⟩ := refDe_zero.1 (r4 y (hsub y hy))
    by_cases hm : x.id ∈ y.nd
    · rw [if_pos hm]
      have hl := refs_lost (T := (m.less i).things) (ok := [1, 3]) (seen := []) ⟨x.id, hm, less_gone hn hx⟩ (refs_found b).2.1 (fun s _ => by simp)
      unfold refDe
      rw [if_neg (fun e => by have e2 : typedM m y.ty = false := e.2; rw [a e.1] at e2; cases e2), hl, if_pos (by omega)]
    · rw [if_neg hm]
      exact refDe_zero.2 ⟨a, less_refs hn hx hm b, less_refs hn hx (kn_free hn hx c) c⟩
  have hz4 : nz ((m.less i).des.map (refDe (m.less i) (m.less i).things)) = 15 := nz_all (fun a ha => by
    obtain ⟨y, hy, rfl⟩ := List.mem_map.1 ha
    rw [hde y hy]
    split
    · exact .inr rfl
    · exact .inl rfl) (by
    obtain ⟨y, hy, hm⟩ := hne
    exact ⟨_, List.mem_map.2 ⟨y, hy, rfl⟩, by rw [hde y hy, if_pos hm]; omega⟩)
  have hr : referredM (m.less i) = 15 := by
    unfold referredM
    rw [hz1, hz2, hz3, hz4]
    rfl
  unfold CheckM
  rw [nz_cons, less_named hn i, if_pos rfl, nz_cons, hr, if_neg (by omega)]
end Go.Proofs.YtbcdbefogfmhfaaGreatDoor

namespace Go.Proofs.YtbcdbefogfmhfaaGreatDoor
open Go.RowKit

/-- A type's name. -/
def tyN (i : Nat) : ByteArray := ⟨#[116, UInt8.ofNat (97 + i % 26), UInt8.ofNat (97 + i / 26)]⟩
def noTe : Te := ⟨false, false, []⟩
def typIts (k : Nat) (last : ByteArray) : List It := (List.range k).map fun i => ⟨tyN i, if i + 1 = k then last else tyN (i + 1), noTe⟩
/-- "m" -/
def mS : ByteArray := ⟨#[109]⟩
def typM (k : Nat) (last : ByteArray) : Md := ⟨mS, mS, ⟨#[]⟩, typIts k last, [], [], []⟩
theorem ty_right : ((List.range 41).all fun i => rightS (tyN i)) = true := by decide +kernel
theorem ty_inj : ((List.range 41).all fun i => (List.range 41).all fun j => decide (i = j) || !decide (tyN i = tyN j)) = true := by decide +kernel
theorem ty_basic : ((List.range 41).all fun i => !decide (tyN i ∈ basicS)) = true := by decide +kernel
theorem tyN_right {i : Nat} (h : i < 41) : rightS (tyN i) = true := List.all_eq_true.1 ty_right i (List.mem_range.2 h)
theorem tyN_inj {i j : Nat} (hi : i < 41) (hj : j < 41) (h : tyN i = tyN j) : i = j := by
  have := List.all_eq_true.1 (List.all_eq_true.1 ty_inj i (List.mem_range.2 hi)) j (List.mem_range.2 hj)
  rw [h] at this
  simpa using this
theorem tyN_basic {i : Nat} (h : i < 41) : tyN i ∉ basicS := by
  have := List.all_eq_true.1 ty_basic i (List.mem_range.2 h)
  simpa using this
theorem typ_names (k : Nat) (last : ByteArray) : (typM k last).typ = (List.range k).map tyN := by
  unfold Md.typ typM typIts
  rw [List.map_map]
  rfl
theorem typ_mem {k : Nat} {last : ByteArray} {s : ByteArray} : s ∈ (typM k last).typ ↔ ∃ i, i < k ∧ tyN i = s := by
  rw [typ_names, List.mem_map]
  exact ⟨fun ⟨i, h, e⟩ => ⟨i, List.mem_range.1 h, e⟩, fun ⟨i, h, e⟩ => ⟨i, List.mem_range.2 h, e⟩⟩
theorem typ_idx {k : Nat} (hk : k ≤ 40) (last : ByteArray) {i : Nat} (hi : i < k) : idxB (typM k last).typ (tyN i) = i := by
  unfold idxB
  rw [typ_names]
  have hlt : ((List.range k).map tyN).findIdx (fun y => decide (y = tyN i)) < ((List.range k).map tyN).length := List.findIdx_lt_length_of_exists ⟨tyN i, List.mem_map.2 ⟨i, List.mem_range.2 hi, rfl⟩, by simp⟩
  have h2 := List.findIdx_getElem (w := hlt)
  rw [List.getElem_map, List.getElem_range] at h2
  rw [List.length_map, List.length_range] at hlt
  exact tyN_inj (by omega) (by omega) (of_decide_eq_true h2)
theorem typ_named {k : Nat} (hk : k ≤ 40) (last : ByteArray) : namedM (typM k last) = 0 := by
  refine named_zero.2 ⟨show plainS mS = true by decide +kernel, show rightS mS = true by decide +kernel, show ¬ chkS ⟨#[]⟩ < (⟨#[]⟩ : ByteArray).size by decide +kernel, ?_, rfl⟩
  rw [typ_names, fresh_zero]
  refine ⟨fun x hx => ?_, ?_, fun x _ => by simp⟩
  · obtain ⟨i, hi, rfl⟩ := List.mem_map.1 hx
    exact tyN_right (by have := List.mem_range.1 hi; omega)
  · rw [List.Nodup, List.pairwise_map]
    refine List.Pairwise.imp_of_mem (fun {a b} ha hb hab => ?_) (List.nodup_range (n := k))
    intro e
    have h1 := List.mem_range.1 ha
    have h2 := List.mem_range.1 hb
    exact hab (tyN_inj (by omega) (by omega) e)
theorem typ_bases {k : Nat} (hk : k ≤ 40) (last : ByteArray) (i : Nat) : needAt (basesM (typM k last)) i = if i + 1 < k then [i + 1] else if i + 1 = k ∧ last ∈ (typM k last).typ then [idxB (typM k last).typ last] else [] := by
  unfold needAt basesM
  have h0 : (typM k last).its = typIts k last := rfl
  rw [h0]
  unfold typIts
  rw [List.map_map, List.getElem?_map]
  by_cases hi : i < k
  · rw [List.getElem?_range hi]
    simp only [Option.map_some, Option.getD_some, Function.comp_apply]
    by_cases h1 : i + 1 < k
    · rw [if_pos h1, if_neg (show ¬ i + 1 = k by omega), if_pos (typ_mem.2 ⟨i + 1, h1, rfl⟩), typ_idx hk last h1]
    · have h2 : i + 1 = k := by omega
      rw [if_neg h1, if_pos h2]
      by_cases h3 : last ∈ (typM k last).typ
      · rw [if_pos h3, if_pos ⟨h2, h3⟩]
      · rw [if_neg h3, if_neg (fun e => h3 e.2)]
  · rw [List.getElem?_eq_none (by rw [List.length_range]; omega)]
    simp only [Option.map_none, Option.getD_none]
    rw [if_neg (by omega), if_neg (by omega)]
theorem typ_log (k : Nat) (last : ByteArray) : logM (typM k last) = 0 := by
  refine log_zero.2 ⟨fun t ht => ?_, fun x hx => (by cases hx), fun x hx => (by cases hx)⟩
  have h0 : (typM k last).its = typIts k last := rfl
  rw [h0] at ht
  obtain ⟨i, _, rfl⟩ := List.mem_map.1 ht
  rfl
theorem typ_ref {k : Nat} (hk1 : 1 ≤ k) (last : ByteArray) : referredM (typM k last) = if typedM (typM k last) last = false then 15 else 0 := by
  have h0 : (typM k last).its = typIts k last := rfl
  have hbase : ∀ t ∈ (typM k last).its, t.base = last ∨ typedM (typM k last) t.base = true := fun t ht => by
    rw [h0] at ht
    obtain ⟨i, hi, rfl⟩ := List.mem_map.1 ht
    by_cases h : i + 1 = k
    · left; show (if i + 1 = k then last else tyN (i + 1)) = last; rw [if_pos h]
    · right
      show typedM _ (if i + 1 = k then last else tyN (i + 1)) = true
      rw [if_neg h]
      unfold typedM
      rw [decide_eq_true (typ_mem.2 ⟨i + 1, by have := List.mem_range.1 hi; omega, rfl⟩)]
      rfl
  by_cases hl : typedM (typM k last) last = false
  · rw [if_pos hl]
    have : nz ((typM k last).its.map fun t => if typedM (typM k last) t.base = false then 15 else 0) = 15 := nz_all (fun a ha => by
      obtain ⟨t, _, rfl⟩ := List.mem_map.1 ha
      split
      · exact .inr rfl
      · exact .inl rfl) (by
      refine ⟨_, List.mem_map.2 ⟨⟨tyN (k - 1), last, noTe⟩, ?_, rfl⟩, ?_⟩
      · rw [h0]
        refine List.mem_map.2 ⟨k - 1, List.mem_range.2 (by omega), ?_⟩
        rw [if_pos (by omega)]
      · rw [if_pos hl]; omega)
    unfold referredM
    rw [nz_cons, this]
    rfl
  · rw [if_neg hl]
    refine referred_zero.2 ⟨fun t ht => ?_, fun x hx => (by cases hx), fun x hx => (by cases hx), fun x hx => (by cases hx)⟩
    rcases hbase t ht with h | h
    · rw [h]; simpa using hl
    · exact h
theorem acyc_nil : Acyc [] := ⟨fun _ => 0, fun i hi => by simp at hi⟩
theorem typ_chain {k : Nat} (hk1 : 1 ≤ k) (hk : k ≤ 40) {last : ByteArray} (hb : last ∈ basicS) : CheckM (typM k last) = 0 := by
  have hnt : last ∉ (typM k last).typ := fun h => by
    obtain ⟨i, hi, rfl⟩ := typ_mem.1 h
    exact tyN_basic (by omega) hb
  refine check_zero.2 ⟨typ_named hk last, ?_, ?_, typ_log k last⟩
  · rw [typ_ref hk1, if_neg]
    unfold typedM
    rw [decide_eq_true hb]
    simp
  · refine circ_zero.2 ⟨⟨fun i => k - i, fun i hi j hj => ?_⟩, acyc_nil, acyc_nil⟩
    rw [typ_bases hk] at hj
    by_cases h : i + 1 < k
    · rw [if_pos h] at hj
      rw [List.mem_singleton.1 hj]
      show k - (i + 1) < k - i
      omega
    · rw [if_neg h, if_neg (fun e => hnt e.2)] at hj
      cases hj
theorem typ_circle {k : Nat} (hk1 : 1 ≤ k) (hk : k ≤ 40) : CheckM (typM k (tyN 0)) = 16 := by
  have hin : tyN 0 ∈ (typM k (tyN 0)).typ := typ_mem.2 ⟨0, by omega, rfl⟩
  have hn : ¬ Acyc (basesM (typM k (tyN 0))) := by
    rintro ⟨f, hf⟩
    have hlen : (basesM (typM k (tyN 0))).length = k := by
      unfold basesM typM typIts
      rw [List.length_map, List.length_map, List.length_range]
    have hdec : ∀ i, i < k → f i + i ≤ f 0 := by
      intro i
      induction i with
      | zero => intro _; omega
      | succ i ih =>
        intro hi
        have h1 := ih (by omega)
        have h2 := hf i (by rw [hlen]; omega) (i + 1) (by rw [typ_bases hk, if_pos hi]; exact List.mem_singleton.2 rfl)
        omega
    have h1 := hdec (k - 1) (by omega)
    have h2 := hf (k - 1) (by rw [hlen]; omega) 0 (by
      rw [typ_bases hk, if_neg (by omega), if_pos ⟨by omega, hin⟩, typ_idx hk _ (show 0 < k by omega)]
      exact List.mem_singleton.2 rfl)
    omega
  have hr : referredM (typM k (tyN 0)) = 0 := by
    rw [typ_ref hk1, if_neg]
    unfold typedM
    rw [decide_eq_true hin]
    simp
  unfold CheckM
  rw [nz_cons, typ_named hk, if_pos rfl, nz_cons, hr, if_pos rfl]
  have hc : circM (typM k (tyN 0)) = 16 := by
    unfold circM
    rw [nz_cons]
    unfold circE
    rw [if_neg hn]
    rfl
  rw [nz_cons, hc]
  rfl
/-- "nowhere" -/
def nowS : ByteArray := ⟨#[110, 111, 119, 104, 101, 114, 101]⟩
theorem typ_lost {k : Nat} (hk1 : 1 ≤ k) (hk : k ≤ 40) : CheckM (typM k nowS) = 15 := by
  have hnt : nowS ∉ (typM k nowS).typ := fun h => by
    obtain ⟨i, hi, e⟩ := typ_mem.1 h
    have := congrArg ByteArray.size e
    have h2 : (tyN i).size = 3 := rfl
    rw [h2] at this
    exact absurd this (by decide)
  have hr : referredM (typM k nowS) = 15 := by
    rw [typ_ref hk1, if_pos]
    unfold typedM
    rw [decide_eq_false hnt]
    decide +kernel
  unfold CheckM
  rw [nz_cons, typ_named hk, if_pos rfl, nz_cons, hr]
  rfl
end Go.Proofs.YtbcdbefogfmhfaaGreatDoor

namespace Go.Proofs.YtbcdbefogfmhfaaGreatDoor
open Go.RowKit

/-- Rows of as many things, each the same. -/
def rowsB {α : Type} (f : α → α → Bool) : List α → List α → Bool
  | [], [] => true
  | x :: r, y :: s => f x y && rowsB f r s
  | _, _ => false
theorem rowsB_len {α : Type} (f : α → α → Bool) : ∀ a b : List α, a.length ≠ b.length → rowsB f a b = false
  | [], [], h => absurd rfl h
  | [], _ :: _, _ => rfl
  | _ :: _, [], _ => rfl
  | x :: r, y :: s, h => by
    unfold rowsB
    rw [rowsB_len f r s (fun e => h (by simp [e]))]
    simp
theorem rowsB_drop {α : Type} (f : α → α → Bool) (a b : List α) (i : Nat) (x y : α) (h1 : a[i]? = some x) (h2 : b[i]? = some y) : rowsB f (a.drop i) (b.drop i) = (f x y && rowsB f (a.drop (i + 1)) (b.drop (i + 1))) := by
  obtain ⟨g1, rfl⟩ := List.getElem?_eq_some_iff.1 h1
  obtain ⟨g2, rfl⟩ := List.getElem?_eq_some_iff.1 h2
  rw [List.drop_eq_getElem_cons g1, List.drop_eq_getElem_cons g2]
  rfl
theorem rowsB_end {α : Type} (f : α → α → Bool) (a b : List α) (i : Nat) (h1 : a.length ≤ i) (h2 : b.length ≤ i) : rowsB f (a.drop i) (b.drop i) = true := by
  rw [List.drop_eq_nil_of_le h1, List.drop_eq_nil_of_le h2]
  rfl
theorem rowsB_comm {α : Type} {f : α → α → Bool} (hf : ∀ x y, f x y = f y x) : ∀ a b : List α, rowsB f a b = rowsB f b a
  | [], [] => rfl
  | [], _ :: _ => rfl
  | _ :: _, [] => rfl
  | x :: r, y :: s => by
    unfold rowsB
    rw [hf x y, rowsB_comm hf r s]
theorem rowsB_refl {α : Type} {f : α → α → Bool} (hf : ∀ x, f x x = true) : ∀ a : List α, rowsB f a a = true
  | [] => rfl
  | x :: r => by
    unfold rowsB
    rw [hf x, rowsB_refl hf r]
    rfl
def sameIt (x y : It) : Bool := decide (x.nm = y.nm) && (decide (x.base = y.base) && sameT x.te y.te)
def sameInp (x y : Inp) : Bool := decide (x.id = y.id) && (decide (x.nm = y.nm) && decide (x.ty = y.ty))
def sameKn (x y : Kn) : Bool := decide (x.id = y.id) && (decide (x.nm = y.nm) && (decide (x.ps = y.ps) && (decide (x.kw = y.kw) && sameL x.lg y.lg)))
def sameDe (x y : De) : Bool := decide (x.id = y.id) && (decide (x.nm = y.nm) && (decide (x.ty = y.ty) && (decide (x.nd = y.nd) && (decide (x.kw = y.kw) && sameL x.lg y.lg))))
def sameM (a b : Md) : Bool := decide (a.id = b.id) && (decide (a.nm = b.nm) && (decide (a.sp = b.sp) && (rowsB sameInp a.ins b.ins && (rowsB sameIt a.its b.its && (rowsB sameKn a.kns b.kns && rowsB sameDe a.des b.des)))))
end Go.Proofs.YtbcdbefogfmhfaaGreatDoor

namespace Go.Proofs.YtbcdbefogfmhfaaGreatDoor
open Go.RowKit

theorem nums_at {m : Md} {k i : Nat} {l : List ByteArray} (hi : i ∈ numsM m.things k l) : ∃ x, atT m.things x = some (k, i) := by
  unfold numsM at hi
  rw [List.mem_filterMap] at hi
  obtain ⟨x, _, hx⟩ := hi
  unfold numE at hx
  cases hat : atT m.things x with
  | none => rw [hat] at hx; cases hx
  | some y =>
    rw [hat] at hx
    obtain ⟨y1, y2⟩ := y
    dsimp only at hx
    by_cases h2 : y1 = k
    · rw [if_pos h2] at hx
      cases hx
      subst h2
      exact ⟨x, hat⟩
    · rw [if_neg h2] at hx; cases hx
theorem nums_lt2 {m : Md} {i : Nat} {l : List ByteArray} (hi : i ∈ numsM m.things 2 l) : i < m.kns.length := by
  obtain ⟨x, hx⟩ := nums_at hi
  rcases at_kind hx with ⟨h, _⟩ | ⟨h, _⟩ | ⟨_, h⟩ | ⟨h, _⟩
  · cases h
  · cases h
  · have := (List.getElem?_eq_some_iff.1 h).1
    rwa [List.length_map] at this
  · cases h
theorem nums_lt3 {m : Md} {i : Nat} {l : List ByteArray} (hi : i ∈ numsM m.things 3 l) : i < m.des.length := by
  obtain ⟨x, hx⟩ := nums_at hi
  rcases at_kind hx with ⟨h, _⟩ | ⟨h, _⟩ | ⟨h, _⟩ | ⟨_, h⟩
  · cases h
  · cases h
  · cases h
  · have := (List.getElem?_eq_some_iff.1 h).1
    rwa [List.length_map] at this
theorem idxB_lt {L : List ByteArray} {s : ByteArray} (h : s ∈ L) : idxB L s < L.length := List.findIdx_lt_length_of_exists ⟨s, h, by simp⟩
/-- What Stuck asks of its rows. -/
def PlacesN (N : List (List Nat)) : Prop := ∀ l ∈ N, l.length ≤ 1048576 ∧ ∀ k ∈ l, k < N.length
theorem bases_places (m : Md) : PlacesN (basesM m) := by
  intro l hl
  unfold basesM at hl ⊢
  obtain ⟨t, ht, rfl⟩ := List.mem_map.1 hl
  by_cases h : t.base ∈ m.typ
  · rw [if_pos h]
    refine ⟨by simp, fun k hk => ?_⟩
    rw [List.mem_singleton] at hk
    rw [hk, List.length_map]
    have := idxB_lt h
    unfold Md.typ at this ⊢
    rwa [List.length_map] at this
  · rw [if_neg h]
    exact ⟨by simp, fun k hk => by cases hk⟩
theorem nums_len {m : Md} (k : Nat) {l : List ByteArray} (h : sumS l ≤ 1048576) : (numsM m.things k l).length ≤ 1048576 := by
  have h1 : (numsM m.things k l).length ≤ l.length := by unfold numsM; exact List.length_filterMap_le _ _
  have := len_sumS l
  omega
theorem knows_places (m : Md) (hbk : m.bulk ≤ 1048576) : PlacesN (knowsM m) := by
  intro l hl
  unfold knowsM at hl ⊢
  obtain ⟨x, hx, rfl⟩ := List.mem_map.1 hl
  refine ⟨nums_len 2 (by have := Md.bulk_kns hx; unfold Kn.bulk at this; omega), fun k hk => ?_⟩
  rw [List.length_map]
  exact nums_lt2 hk
theorem needs_places (m : Md) (hbk : m.bulk ≤ 1048576) : PlacesN (needsM m) := by
  intro l hl
  unfold needsM at hl ⊢
  obtain ⟨x, hx, rfl⟩ := List.mem_map.1 hl
  refine ⟨nums_len 3 (by have := Md.bulk_des hx; unfold De.bulk at this; omega), fun k hk => ?_⟩
  rw [List.length_map]
  exact nums_lt3 hk
end Go.Proofs.YtbcdbefogfmhfaaGreatDoor
