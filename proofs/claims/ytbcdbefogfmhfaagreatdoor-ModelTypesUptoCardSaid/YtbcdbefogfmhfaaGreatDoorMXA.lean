/-
  model: maps of any elements; what a checker holds; the walks of id, fresh, named's closure.
  model: what a checker holds; the walks of id, named's closure.
  model: what named holds; its steps.
-/
import Derived.Test.YtbcdbefogfmhfaaGreatDoorMPL
import Derived.Test.YtbcdbefogfmhfaaGreatDoorEXC
import Derived.Maps.Keyed
import Derived.Maps.Own
import Derived.Maps.OwnOps
import Derived.Maps.OwnSet
import Derived.DeepKeys4
import Derived.Test.YtbcdbefogfmhfaaGreatDoorEXE
namespace Go.Proofs.YtbcdbefogfmhfaaGreatDoor
open Go.RowKit Go.Maps

def keyT (s : ByteArray) : Lit := .string s.data.toList
theorem keyT_ne {a b : ByteArray} (h : a ≠ b) : keyT a ≠ keyT b := fun e => h (by unfold keyT at e; injection e with e; exact ByteArray.ext (Array.ext' e))
theorem keyT_of {s : ByteArray} (h : s.size ≤ maxLen) : keyOf Tryz.prog 9 (.string s) = some (keyT s) := Go.WideMaps.keyOf_string_mk Tryz.underlying9 h
theorem lawT : Keyed Tryz.prog 9 := string_keyed Tryz.underlying9
/-- Any value, read as itself. -/
def holdR (v : Value) : Option (DataW Value × List MemPlace) := some (.held v, [])
structure MapD (D : DataW Value) (z : Value) (c : ByteArray → Option Value) : Prop where
  map : IsMap D
  atk : ∀ s, D.atKey (keyT s) (.held z) = .held ((c s).getD z)
  has : ∀ s, Maps.has D (keyT s) = (c s).isSome
/-- A map with texts as keys. -/
def MapV (W : World) (mb n : Nat) (z : Value) (c : ByteArray → Option Value) : Prop := ∃ D : DataW Value, W.ownsMap Tryz.prog 9 holdR mb n D ∧ MapD D z c
theorem MapV.kept {W W' : World} {mb n : Nat} {z : Value} {c : ByteArray → Option Value} (h : MapV W mb n z c) (hb : W'.heap[mb]? = W.heap[mb]?) : MapV W' mb n z c := by
  obtain ⟨D, ⟨es, ck, h1, h2⟩, h3⟩ := h
  exact ⟨D, ⟨es, ck, hb.trans h1, h2⟩, h3⟩
theorem MapV.lt {W : World} {mb n : Nat} {z : Value} {c : ByteArray → Option Value} (h : MapV W mb n z c) : mb < W.heap.size := by
  obtain ⟨D, h1, _⟩ := h
  exact h1.lt
theorem MapV.bel {W W' : World} {mb n : Nat} {z : Value} {c : ByteArray → Option Value} (h : MapV W mb n z c) (hb : Bel W W') : MapV W' mb n z c := h.kept (hb.block h.lt)
theorem MapV.mono {W : World} {mb n n' : Nat} {z : Value} {c : ByteArray → Option Value} (h : MapV W mb n z c) (hn : n ≤ n') : MapV W mb n' z c := by
  obtain ⟨D, h1, h2⟩ := h
  exact ⟨D, h1.mono hn, h2⟩
theorem MapV.but {W W' : World} {mb n p q : Nat} {z : Value} {c : ByteArray → Option Value} (h : MapV W mb n z c) (hb : But p q W W') (h1 : mb ≠ p) (h2 : mb ≠ q) : MapV W' mb n z c := h.kept (hb.block _ h.lt h1 h2)
theorem MapV.congr {W : World} {mb n : Nat} {z : Value} {c c' : ByteArray → Option Value} (h : MapV W mb n z c) (he : ∀ s, c s = c' s) : MapV W mb n z c' := (funext he : c = c') ▸ h
theorem mv_new (W : World) (z : Value) : MapV (W.alloc (.map #[] 0)) W.heap.size 0 z fun _ => none := ⟨_, World.ownsMap_made W _ _ _, isMap_empty, fun _ => rfl, fun _ => rfl⟩
theorem mv_look {W : World} {mb n : Nat} {z : Value} {c : ByteArray → Option Value} (h : MapV W mb n z c) {t e : TypeId} (ht : Tryz.prog.underlying t = some (.map 9 e)) (hz : (zeroValue e).run Tryz.prog W = .ok z W) {s : ByteArray} (hs : s.size ≤ maxLen) :
    (Instr.lookup t (.map (some mb)) (.string s) false).run Tryz.prog W = .ok ((c s).getD z) W := by
  obtain ⟨D, h1, h2⟩ := h
  obtain ⟨v, ps, hrun, hv⟩ := h1.lookup lawT ht hz (show holdR z = some (.held z, []) from rfl) (keyT_of hs)
  rw [h2.atk s] at hv
  simp only [holdR, Option.some.injEq, Prod.mk.injEq, DataW.held.injEq] at hv
  rw [hrun, hv.1]
theorem mv_ask {W : World} {mb n : Nat} {z : Value} {c : ByteArray → Option Value} (h : MapV W mb n z c) {t e : TypeId} (ht : Tryz.prog.underlying t = some (.map 9 e)) (hz : (zeroValue e).run Tryz.prog W = .ok z W) {s : ByteArray} (hs : s.size ≤ maxLen) :
    (Instr.lookup t (.map (some mb)) (.string s) true).run Tryz.prog W = .ok (.tuple #[(c s).getD z, .bool (c s).isSome]) W := by
  obtain ⟨D, h1, h2⟩ := h
  obtain ⟨v, ps, hrun, hv⟩ := h1.look_ok lawT ht hz (show holdR z = some (.held z, []) from rfl) (keyT_of hs)
  rw [h2.atk s] at hv
  simp only [holdR, Option.some.injEq, Prod.mk.injEq, DataW.held.injEq] at hv
  rw [hrun, hv.1, h2.has s]
def updV (c : ByteArray → Option Value) (s : ByteArray) (v : Value) (x : ByteArray) : Option Value := if x = s then some v else c x
theorem mv_put {W : World} {mb n : Nat} {z : Value} {c : ByteArray → Option Value} (h : MapV W mb n z c) {t e : TypeId} (ht : Tryz.prog.underlying t = some (.map 9 e)) (hn : n < 1073741824) {s : ByteArray} (hs : s.size ≤ maxLen) (v : Value) :
    ∃ W', (Instr.mapUpdate t (.map (some mb)) (.string s) v).run Tryz.prog W = .ok () W' ∧ MapV W' mb (n + 1) z (updV c s v) ∧ W.grownBy W' (some mb) := by
  obtain ⟨D, h1, h2⟩ := h
  obtain ⟨W', hrun, hown, hg⟩ := h1.update lawT ht (by unfold maxLen; omega) (keyT_of hs) (show holdR v = some (.held v, []) from rfl)
  refine ⟨W', hrun, ⟨_, hown, h2.map.put _ _, fun x => ?_, fun x => ?_⟩, hg⟩
  · unfold updV
    by_cases hx : x = s
    · subst hx
      rw [atKey_put_same h2.map (show WideAt.IsKeyLit (keyT x) by trivial), if_pos rfl]
      rfl
    · rw [atKey_put_other (keyT_ne hx), h2.atk x, if_neg hx]
  · unfold updV
    by_cases hx : x = s
    · subst hx
      rw [has_put_same h2.map (show WideAt.IsKeyLit (keyT x) by trivial), if_pos rfl]
      rfl
    · rw [has_put_other (keyT_ne hx), h2.has x, if_neg hx]
theorem But.left {p q : Nat} {w w' : World} (h : But p p w w') : But p q w w' := ⟨h.os, h.tape, h.output, h.size, fun k hk h1 _ => h.block k hk h1 h1⟩
theorem But.right {p q : Nat} {w w' : World} (h : But q q w w') : But p q w w' := ⟨h.os, h.tape, h.output, h.size, fun k hk _ h2 => h.block k hk h2 h2⟩
theorem Blk.butM {W W' : World} {p q b t : Nat} {cs : List Value} (h : Blk W b t cs) (hb : But p q W W') (h1 : b ≠ p) (h2 : b ≠ q) : Blk W' b t cs := (hb.block b h.lt h1 h2).trans h
/-- A map is no block of cells. -/
theorem MapV.ne {W : World} {mb n b t : Nat} {z : Value} {c : ByteArray → Option Value} {cs : List Value} (h : MapV W mb n z c) (hb : Blk W b t cs) : b ≠ mb := fun e => by
  subst e
  obtain ⟨D, ⟨es, ck, h1, _⟩, _⟩ := h
  unfold Blk at hb
  rw [h1] at hb
  cases hb
def thgV (y : Nat × Nat) : Value := .agg #[.int .i64 y.1, .int .i64 y.2]
def int0 : Value := .int .i64 0
def thg0 : Value := .agg #[.int .i64 0, .int .i64 0]
theorem zero_int (W : World) : (zeroValue 3).run Tryz.prog W = .ok int0 W := by unfold int0; kernel_rfl
theorem zero_thg (W : World) : (zeroValue 90).run Tryz.prog W = .ok thg0 W := by unfold thg0; kernel_rfl
/-- fresh's answer. -/
def freE (c : ByteArray → Option Value) (s : ByteArray) : Nat := if rightS s = false then 6 else if (c s).isSome = true then 8 else 0
def idE (c : ByteArray → Option Value) (s : ByteArray) : Nat := if plainS s = false then 6 else if (c s).isSome = true then 8 else 0
def RetNote (E mb n : Nat) (z : Value) (c : ByteArray → Option Value) (w : World) (e : Ending) (w' : World) : Prop := e = .returned (.int .i64 E) ∧ But mb mb w w' ∧ (E = 0 → MapV w' mb n z c)
set_option maxRecDepth 100000 in
set_option maxHeartbeats 4000000 in
theorem fresh_c (mb n i : Nat) (c : ByteArray → Option Value) (s : ByteArray) (w : World) (hE : Env w) (hm : MapV w mb n int0 c) (hn : n < 1073741824) (hs : s.size ≤ 1073741824) :
    Calls Tryz.prog 94 #[.map (some mb), .string s, .int .i64 i] w (RetNote (freE c s) mb (n + 1) int0 (updV c s (.int .i64 i)) w) := by
  have HR := Lib.hid (right_c s (by omega) w hE)
  have HM := Lib.hid hm
  unfold freE rightS
  clear hE hm
  cases hr : (wordsS s).isSome with
  | false =>
    rw [hr] at HR
    rw [if_pos rfl]
    clear hr
    go_enter Tryz.func94, Tryz.ntmps94
    go_wp2_with fail
    refine HR.out.mono ?_
    rintro e w1 ⟨rfl, hb⟩
    go_wp2_with fail
    go_ret
    exact ⟨rfl, hb.but _ _, fun h => by cases h⟩
  | true =>
    rw [hr] at HR
    rw [if_neg (by decide)]
    clear hr
    cases hc : (c s).isSome with
    | true =>
      obtain ⟨x, hx⟩ := Option.isSome_iff_exists.1 hc
      rw [if_pos rfl]
      have HX := Lib.hid hx
      clear hc hx
      go_enter Tryz.func94, Tryz.ntmps94
      go_wp2_with fail
      refine HR.out.mono ?_
      rintro e w1 ⟨rfl, hb⟩
      have hlk := mv_ask (HM.out.bel hb) Tryz.underlying60 (zero_int w1) (s := s) (by unfold maxLen; omega)
      rw [HX.out] at hlk
      have HB := Lib.hid hb
      clear hb HM HX
      simp only [Option.getD, Option.isSome] at hlk
      go_wp2_with fail
      go_ret
      exact ⟨rfl, HB.out.but _ _, fun h => by cases h⟩
    | false =>
      have hx : c s = none := by simpa using hc
      rw [if_neg (by decide)]
      have HX := Lib.hid hx
      clear hc hx
      go_enter Tryz.func94, Tryz.ntmps94
      go_wp2_with fail
      refine HR.out.mono ?_
      rintro e w1 ⟨rfl, hb⟩
      have hm1 := HM.out.bel hb
      have hlk := mv_ask hm1 Tryz.underlying60 (zero_int w1) (s := s) (by unfold maxLen; omega)
      rw [HX.out] at hlk
      obtain ⟨w2, hup, hm2, hg⟩ := mv_put hm1 Tryz.underlying60 hn (s := s) (by unfold maxLen; omega) (.int .i64 i)
      have HY : Hid (But mb mb w w2 ∧ MapV w2 mb (n + 1) int0 (updV c s (.int .i64 i))) := Lib.hid ⟨(hb.but _ _).trans (But.of_p hg), hm2⟩
      clear hm1 hb HM hm2 hg HX
      simp only [Option.getD, Option.isSome] at hlk
      unfold int0 at hlk
      go_wp2_with fail
      go_ret
      exact ⟨rfl, HY.out.1, fun _ => HY.out.2⟩
end Go.Proofs.YtbcdbefogfmhfaaGreatDoor

namespace Go.Proofs.YtbcdbefogfmhfaaGreatDoor
open Go.RowKit Go.Maps

/-- A checker's cells. -/
def ckL (m : Md) (q : MdQ) (bb tb : Nat) : List Value := mdL m q ++ [.map (some bb), .map (some tb)]
/-- The map of things. -/
def ByM (W : World) (bb n : Nat) (f : ByteArray → Option (Nat × Nat)) : Prop := MapV W bb n thg0 fun s => (f s).map thgV
theorem ByM.bel {W W' : World} {bb n : Nat} {f : ByteArray → Option (Nat × Nat)} (h : ByM W bb n f) (hb : Bel W W') : ByM W' bb n f := MapV.bel h hb
theorem ByM.congr {W : World} {bb n : Nat} {f g : ByteArray → Option (Nat × Nat)} (h : ByM W bb n f) (he : ∀ s, f s = g s) : ByM W bb n g := (funext he : f = g) ▸ h
def updF (f : ByteArray → Option (Nat × Nat)) (s : ByteArray) (y : Nat × Nat) (x : ByteArray) : Option (Nat × Nat) := if x = s then some y else f x
theorem by_put {W : World} {bb n : Nat} {f : ByteArray → Option (Nat × Nat)} (h : ByM W bb n f) (hn : n < 1073741824) {s : ByteArray} (hs : s.size ≤ maxLen) (y : Nat × Nat) :
    ∃ W', (Instr.mapUpdate 91 (.map (some bb)) (.string s) (thgV y)).run Tryz.prog W = .ok () W' ∧ ByM W' bb (n + 1) (updF f s y) ∧ W.grownBy W' (some bb) := by
  obtain ⟨W', h1, h2, h3⟩ := mv_put h Tryz.underlying91 hn hs (thgV y)
  refine ⟨W', h1, MapV.congr h2 fun x => ?_, h3⟩
  unfold updV updF
  by_cases hx : x = s
  · rw [if_pos hx, if_pos hx]; rfl
  · rw [if_neg hx, if_neg hx]
theorem by_ask {W : World} {bb n : Nat} {f : ByteArray → Option (Nat × Nat)} (h : ByM W bb n f) {s : ByteArray} (hs : s.size ≤ maxLen) :
    (Instr.lookup 91 (.map (some bb)) (.string s) true).run Tryz.prog W = .ok (.tuple #[thgV ((f s).getD (0, 0)), .bool (f s).isSome]) W := by
  rw [mv_ask h Tryz.underlying91 (zero_thg W) hs]
  cases f s <;> rfl
theorem by_look {W : World} {bb n : Nat} {f : ByteArray → Option (Nat × Nat)} (h : ByM W bb n f) {s : ByteArray} (hs : s.size ≤ maxLen) :
    (Instr.lookup 91 (.map (some bb)) (.string s) false).run Tryz.prog W = .ok (thgV ((f s).getD (0, 0))) W := by
  rw [mv_look h Tryz.underlying91 (zero_thg W) hs]
  cases f s <;> rfl
def idF (f : ByteArray → Option (Nat × Nat)) (s : ByteArray) : Nat := if plainS s = false then 6 else if (f s).isSome = true then 8 else 0
def RetId (E bb n : Nat) (f : ByteArray → Option (Nat × Nat)) (w : World) (e : Ending) (w' : World) : Prop := e = .returned (.int .i64 E) ∧ But bb bb w w' ∧ (E = 0 → ByM w' bb n f)
set_option maxRecDepth 100000 in
set_option maxHeartbeats 4000000 in
theorem id_c (cb bb tb n k i : Nat) (m : Md) (q : MdQ) (f : ByteArray → Option (Nat × Nat)) (s : ByteArray) (w : World) (hE : Env w) (hc : Blk w cb 93 (ckL m q bb tb)) (hm : ByM w bb n f) (hn : n < 1073741824) (hs : s.size ≤ 1073741824) :
    Calls Tryz.prog 92 #[.pointer (some ⟨cb, 0, none⟩), .string s, thgV (k, i)] w (RetId (idF f s) bb (n + 1) (updF f s (k, i)) w) := by
  have b0 := Bel.alloc w (.cells #[.int .i64 k, .int .i64 i] 90)
  have hx0 := Blk.new w 90 [.int .i64 k, .int .i64 i]
  have HR := Lib.hid (plain_c s (by omega) (w.alloc (.cells #[.int .i64 k, .int .i64 i] 90)) (hE.bel b0))
  have HM := Lib.hid hm
  have HC := Lib.hid hc
  have HX0 := Lib.hid hx0
  have B0 := Lib.hid b0
  unfold idF
  clear hE hm hc hx0 b0
  unfold thgV
  cases hr : plainS s with
  | false =>
    rw [hr] at HR
    rw [if_pos rfl]
    clear hr
    go_enter Tryz.func92, Tryz.ntmps92
    go_wp2_with fail
    refine HR.out.mono ?_
    rintro e w1 ⟨rfl, hb⟩
    go_wp2_with fail
    go_ret
    exact ⟨rfl, (B0.out.trans hb).but _ _, fun h => by cases h⟩
  | true =>
    rw [hr] at HR
    rw [if_neg (by decide)]
    clear hr
    cases hcs : f s with
    | some y =>
      obtain ⟨y1, y2⟩ := y
      simp only [Option.isSome, if_true]
      have HX := Lib.hid hcs
      clear hcs
      go_enter Tryz.func92, Tryz.ntmps92
      go_wp2_with fail
      refine HR.out.mono ?_
      rintro e w1 ⟨rfl, hb⟩
      have hlk := by_ask ((HM.out.bel B0.out).bel hb) (s := s) (by unfold maxLen; omega)
      have f1 : w1.cell? ⟨cb, 7, none⟩ = some (.map (some bb)) := ((HC.out.bel B0.out).bel hb).at 7
      rw [HX.out] at hlk
      have HB := Lib.hid (B0.out.trans hb)
      clear hb HM HX HC HX0 B0
      simp only [Option.getD, Option.isSome, thgV] at hlk
      go_wp2_with fail
      go_ret
      exact ⟨rfl, (HB.out.to_alloc _).but _ _, fun h => by cases h⟩
    | none =>
      simp only [Option.isSome, Bool.false_eq_true, if_false]
      have HX := Lib.hid hcs
      clear hcs
      go_enter Tryz.func92, Tryz.ntmps92
      go_wp2_with fail
      refine HR.out.mono ?_
      rintro e w1 ⟨rfl, hb⟩
      have hlk := by_ask ((HM.out.bel B0.out).bel hb) (s := s) (by unfold maxLen; omega)
      have f1 : w1.cell? ⟨cb, 7, none⟩ = some (.map (some bb)) := ((HC.out.bel B0.out).bel hb).at 7
      rw [HX.out] at hlk
      have HB0 := Lib.hid hb
      have HB := Lib.hid (B0.out.trans hb)
      clear hb HX
      simp only [Option.getD, Option.isSome, thgV] at hlk
      go_wp2_with fail
      obtain ⟨V, hV⟩ : ∃ V, w1.alloc (.cells #[.int .i64 0, .int .i64 0] 90) = V := ⟨_, rfl⟩
      have hbV : Bel w V := by rw [← hV]; exact HB.out.to_alloc _
      have hcV : Blk V cb 93 (ckL m q bb tb) := HC.out.bel hbV
      have hxV : Blk V w.heap.size 90 [.int .i64 k, .int .i64 i] := by rw [← hV]; exact (HX0.out.bel HB0.out).bel (Bel.alloc _ _)
      have f7 : V.cell? ⟨cb, 7, none⟩ = some (.map (some bb)) := hcV.at 7
      have x0 : V.cell? ⟨w.heap.size, 0, none⟩ = some (.int .i64 k) := hxV.at 0
      have x1 : V.cell? ⟨w.heap.size, 1, none⟩ = some (.int .i64 i) := hxV.at 1
      have HMV := Lib.hid fun W (hW : Bel V W) => by_put (HM.out.bel (hbV.trans hW)) hn (s := s) (by unfold maxLen; omega) (k, i)
      have HBV := Lib.hid hbV
      rw [hV]
      clear hlk f1 hbV hcV hxV hV HB HB0 HM HC HX0 B0
      obtain ⟨w2, hup, hm2, hg2⟩ := HMV.out V.drew (Bel.drew V)
      have HX : Hid (But bb bb w w2 ∧ ByM w2 bb (n + 1) (updF f s (k, i))) := Lib.hid ⟨((HBV.out.trans (Bel.drew V)).but _ _).trans (But.of_p hg2), hm2⟩
      unfold thgV at hup
      dsimp only at hup
      clear HMV hm2 hg2 HBV
      go_region_with fail
      all_goals
        go_wp2_with fail
        go_ret
        exact ⟨rfl, HX.out.1, fun _ => HX.out.2⟩
/-- named's closure: an id, a name. -/
def oneE (f : ByteArray → Option (Nat × Nat)) (c : ByteArray → Option Value) (s nm : ByteArray) : Nat := if idF f s ≠ 0 then idF f s else freE c nm
def RetOne (E bb n sb p : Nat) (f : ByteArray → Option (Nat × Nat)) (c : ByteArray → Option Value) (w : World) (e : Ending) (w' : World) : Prop := e = .returned (.int .i64 E) ∧ But bb sb w w' ∧ (E = 0 → ByM w' bb n f ∧ MapV w' sb p int0 c)
set_option maxRecDepth 100000 in
set_option maxHeartbeats 4000000 in
theorem nmd1_c (cb bb tb n k i xb yb sb p : Nat) (m : Md) (q : MdQ) (f : ByteArray → Option (Nat × Nat)) (c : ByteArray → Option Value) (s nm : ByteArray) (w : World) (hE : Env w) (hc : Blk w cb 93 (ckL m q bb tb)) (hx : Blk w xb 71 [.pointer (some ⟨cb, 0, none⟩)]) (hy : Blk w yb 60 [.map (some sb)])
    (hm : ByM w bb n f) (hn : n < 1073741824) (hs : s.size ≤ 1073741824) (hsm : MapV w sb p int0 c) (hp : p < 1073741824) (hnm : nm.size ≤ 1073741824) (hne : bb ≠ sb) (u : World) (hu : Bel u w) (hEu : Env u) (hbb : u.heap.size ≤ bb) :
    Calls Tryz.prog 95 #[.string s, .string nm, thgV (k, i), .pointer (some ⟨xb, 0, none⟩), .pointer (some ⟨yb, 0, none⟩)] w (RetOne (oneE f c s nm) bb (n + 1) sb (p + 1) (updF f s (k, i)) (updV c nm (.int .i64 i)) w) := by
  obtain ⟨V, hV, hxV, hbV, hsV⟩ := alloc_step w 90 [.int .i64 k, .int .i64 i]
  have HI := Lib.hid (id_c cb bb tb n k i m q f s V (hE.bel hbV) (hc.bel hbV) (hm.bel hbV) hn hs)
  have f0 : V.cell? ⟨xb, 0, none⟩ = some (.pointer (some ⟨cb, 0, none⟩)) := (hx.bel hbV).at 0
  have HF := Lib.hid fun W (h : But bb bb V W) => fresh_c sb p i c nm W (hEu.bel ((h.bel (hu.trans hbV) hbb hbb))) (MapV.but (hsm.bel hbV) h (Ne.symm hne) (Ne.symm hne)) hp hnm
  have HV := Lib.hid hV
  have HB := Lib.hid hbV
  have g0 : V.cell? ⟨yb, 0, none⟩ = some (.map (some sb)) := (hy.bel hbV).at 0
  have hby : yb ≠ bb := MapV.ne hm hy
  have x0 : V.cell? ⟨w.heap.size, 0, none⟩ = some (.int .i64 k) := hxV.at 0
  have x1 : V.cell? ⟨w.heap.size, 1, none⟩ = some (.int .i64 i) := hxV.at 1
  have hxb : w.heap.size ≠ bb := by have := hm.lt; omega
  have HG := Lib.hid fun W (h : But bb bb V W) => (show W.cell? ⟨yb, 0, none⟩ = some (.map (some sb)) ∧ W.cell? ⟨w.heap.size, 1, none⟩ = some (.int .i64 i) from ⟨h.keep g0 hby hby, h.keep x1 hxb hxb⟩)
  unfold oneE thgV
  unfold thgV at HI
  dsimp only at HI ⊢
  obtain ⟨E, hE1⟩ : ∃ E, idF f s = E := ⟨_, rfl⟩
  rw [hE1] at HI ⊢
  have HNE := Lib.hid (Ne.symm hne)
  clear hE1 hc hx hy hm hsm hE hu hEu hbb hV hxV hbV hsV g0 hby hxb hne
  by_cases hE0 : E = 0
  · subst hE0
    rw [if_neg (by omega)]
    go_enter Tryz.func95, Tryz.ntmps95
    go_upto_region 1 with fail
    rw [HV.out]
    clear HV
    go_wp2_with fail
    refine HI.out.mono ?_
    rintro e w2 ⟨rfl, hb2, hk2⟩
    obtain ⟨g1, g2⟩ := HG.out w2 hb2
    have HF2 := Lib.hid (HF.out w2 hb2)
    have HB2 := Lib.hid hb2
    have HK2 := Lib.hid (hk2 rfl)
    clear hb2 hk2 f0 x0 x1 HI HG HF
    go_wp2_with fail
    refine HF2.out.mono ?_
    rintro e w3 ⟨rfl, hb3, hk3⟩
    have HX : Hid (But bb sb w w3 ∧ (freE c nm = 0 → ByM w3 bb (n + 1) (updF f s (k, i)) ∧ MapV w3 sb (p + 1) int0 (updV c nm (.int .i64 i)))) := Lib.hid ⟨(HB.out.but _ _).trans (HB2.out.left.trans hb3.right), fun h => ⟨MapV.but HK2.out hb3 (Ne.symm HNE.out) (Ne.symm HNE.out), hk3 h⟩⟩
    clear hb3 hk3 HK2 HB2 HB HF2
    go_wp2_with fail
    go_ret
    exact ⟨rfl, HX.out⟩
  · have hE0b : ((E : Int) == 0) = false := by simpa using hE0
    rw [if_pos hE0]
    have HE0 := Lib.hid hE0
    clear hE0
    go_enter Tryz.func95, Tryz.ntmps95
    go_upto_region 1 with fail
    rw [HV.out]
    clear HV
    go_wp2_with fail
    refine HI.out.mono ?_
    rintro e w2 ⟨rfl, hb2, hk2⟩
    have HX : Hid (But bb sb w w2) := Lib.hid ((HB.out.but _ _).trans hb2.left)
    clear hb2 hk2 f0 x0 x1 HI HG HF
    go_wp2_with fail
    go_ret
    exact ⟨rfl, HX.out, fun h => absurd h HE0.out⟩
end Go.Proofs.YtbcdbefogfmhfaaGreatDoor

namespace Go.Proofs.YtbcdbefogfmhfaaGreatDoor
open Go.RowKit Go.Maps

theorem But.step {p q s : Nat} {a b c : World} (h : But p q a b) (k : But p s b c) (hs : a.heap.size ≤ s) : But p q a c :=
  ⟨k.os.trans h.os, k.tape.trans h.tape, k.output.trans h.output, Nat.le_trans h.size k.size, fun i hi h1 h2 => (k.block i (Nat.lt_of_lt_of_le hi h.size) h1 (by omega)).trans (h.block i hi h1 h2)⟩
def typC (L : List ByteArray) (s : ByteArray) : Option Value := if s ∈ L then some (.int .i64 (idxB L s)) else none
theorem idxB_old {L : List ByteArray} {s x : ByteArray} (h : s ∈ L) : idxB (L ++ [x]) s = idxB L s := by
  unfold idxB
  rw [List.findIdx_append, if_pos]
  exact List.findIdx_lt_length_of_exists ⟨s, h, by simp⟩
theorem idxB_new {L : List ByteArray} {x : ByteArray} (h : x ∉ L) : idxB (L ++ [x]) x = L.length := by
  unfold idxB
  rw [List.findIdx_append, if_neg]
  · simp
  · intro hlt
    have := List.findIdx_getElem (w := hlt)
    have h2 := of_decide_eq_true this
    exact h (h2 ▸ List.getElem_mem hlt)
theorem typC_put {L : List ByteArray} {x : ByteArray} (h : x ∉ L) (s : ByteArray) : updV (typC L) x (.int .i64 L.length) s = typC (L ++ [x]) s := by
  unfold updV typC
  by_cases hs : s = x
  · subst hs
    rw [if_pos rfl, if_pos (by simp), idxB_new h]
  · rw [if_neg hs]
    by_cases hm : s ∈ L
    · rw [if_pos hm, if_pos (List.mem_append_left _ hm), idxB_old hm]
    · rw [if_neg hm, if_neg (by simp [hm, hs])]
theorem typC_some (L : List ByteArray) (s : ByteArray) : (typC L s).isSome = decide (s ∈ L) := by
  unfold typC
  by_cases h : s ∈ L <;> simp [h]
theorem at_put {T : List Thg} {s : ByteArray} (h : s ∉ T.map Prod.fst) (y : Nat × Nat) (x : ByteArray) : updF (atT T) s y x = atT (T ++ [(s, y)]) x := by
  unfold updF
  rw [at_app]
  by_cases hx : x = s
  · subst hx
    rw [if_pos rfl, at_none.2 h]
    simp [atT]
  · rw [if_neg hx]
    cases hat : atT T x with
    | some z => rfl
    | none => simp [atT, Ne.symm hx]
theorem at_isSome (T : List Thg) (s : ByteArray) : (atT T s).isSome = decide (s ∈ T.map Prod.fst) := by
  by_cases h : s ∈ T.map Prod.fst
  · rw [decide_eq_true h]
    cases hat : atT T s with
    | some z => rfl
    | none => exact absurd h (at_none.1 hat)
  · rw [decide_eq_false h, at_none.2 h]; rfl
/-- What stays in memory while named runs. -/
structure NmB (u w : World) (cb bb tb xb : Nat) (m : Md) (q : MdQ) (W : World) : Prop where
  bel : Bel u W
  but : But bb tb w W
  bc : Blk W cb 93 (ckL m q bb tb)
  bx : Blk W xb 71 [.pointer (some ⟨cb, 0, none⟩)]
theorem NmB.go {u w W W' : World} {cb bb tb xb : Nat} {m : Md} {q : MdQ} (h : NmB u w cb bb tb xb m q W) (hb : Bel W W') : NmB u w cb bb tb xb m q W' := ⟨h.bel.trans hb, h.but.trans (hb.but _ _), h.bc.bel hb, h.bx.bel hb⟩
theorem NmB.step {u w W W' : World} {cb bb tb xb s : Nat} {m : Md} {q : MdQ} (h : NmB u w cb bb tb xb m q W) (hb : But bb s W W') (h1 : u.heap.size ≤ bb) (h2 : u.heap.size ≤ s) (h3 : w.heap.size ≤ s ∨ s = tb) (h4 : cb ≠ bb ∧ cb ≠ s ∧ xb ≠ bb ∧ xb ≠ s) : NmB u w cb bb tb xb m q W' :=
  ⟨hb.bel h.bel h1 h2, by
    rcases h3 with h3 | rfl
    · exact h.but.step hb h3
    · exact h.but.trans hb, h.bc.butM hb h4.1 h4.2.1, h.bx.butM hb h4.2.2.1 h4.2.2.2⟩
/-- Before a round of the loop over types. -/
structure TyS (u w : World) (cb bb tb xb : Nat) (m : Md) (q : MdQ) (T : List Thg) (L rest : List ByteArray) (R : Nat) (W : World) : Prop where
  b : NmB u w cb bb tb xb m q W
  by' : ByM W bb T.length (atT T)
  ty : MapV W tb L.length int0 (typC L)
  eq : freshE L rest = R
theorem TyS.go {u w W W' : World} {cb bb tb xb R : Nat} {m : Md} {q : MdQ} {T : List Thg} {L rest : List ByteArray} (h : TyS u w cb bb tb xb m q T L rest R W) (hb : Bel W W') : TyS u w cb bb tb xb m q T L rest R W' := ⟨h.b.go hb, h.by'.bel hb, h.ty.bel hb, h.eq⟩
def RetTy (u w0 : World) (cb bb tb xb : Nat) (m : Md) (q : MdQ) (T : List Thg) (L rest : List ByteArray) (R : Nat) (w : World) (e : Ending) (w' : World) : Prop := ∃ E : Nat, e = .returned (.int .i64 E) ∧ (E ≠ 0 → E = R) ∧ NmB u w0 cb bb tb xb m q w' ∧ (E = 0 → TyS u w0 cb bb tb xb m q T L rest R w') ∧ But tb tb w w'
theorem freshE_cons (L : List ByteArray) (x : ByteArray) (r : List ByteArray) : freshE L (x :: r) = if rightS x = false then 6 else if x ∈ L then 8 else freshE (L ++ [x]) r := rfl
theorem fresh_t {u w W : World} {cb bb tb xb R : Nat} {m : Md} {q : MdQ} {T : List Thg} {L rest : List ByteArray} {x : ByteArray} (h : TyS u w cb bb tb xb m q T L (x :: rest) R W) (hE : Env u) (hx : x.size ≤ 1073741824) (hL : L.length < 1073741824) (h1 : u.heap.size ≤ bb) (h2 : u.heap.size ≤ tb) (h3 : bb ≠ tb) (h4 : cb ≠ bb ∧ cb ≠ tb ∧ xb ≠ bb ∧ xb ≠ tb) :
    Calls Tryz.prog 94 #[.map (some tb), .string x, .int .i64 L.length] W (RetTy u w cb bb tb xb m q T (L ++ [x]) rest R W) := by
  refine (fresh_c tb L.length L.length (typC L) x W (hE.bel h.b.bel) h.ty hL hx).mono ?_
  rintro e w' ⟨rfl, hb, hk⟩
  have heq := h.eq
  rw [freshE_cons] at heq
  have hnb : NmB u w cb bb tb xb m q w' := h.b.step hb.right h1 h2 (.inr rfl) h4
  refine ⟨freE (typC L) x, rfl, fun hne => ?_, hnb, fun h0 => ?_, hb⟩
  · rw [← heq]
    unfold freE at hne ⊢
    rw [typC_some] at hne ⊢
    by_cases hr : rightS x = false
    · rw [if_pos hr, if_pos hr]
    · rw [if_neg hr] at hne
      rw [if_neg hr, if_neg hr]
      by_cases hm : x ∈ L
      · rw [if_pos (decide_eq_true hm), if_pos hm]
      · rw [if_neg (by simpa using hm)] at hne; exact absurd rfl hne
  · have hk2 := hk h0
    unfold freE at h0
    rw [typC_some] at h0
    by_cases hr : rightS x = false
    · rw [if_pos hr] at h0; cases h0
    · rw [if_neg hr] at h0
      by_cases hm : x ∈ L
      · rw [if_pos (decide_eq_true hm)] at h0; cases h0
      · rw [if_neg hr, if_neg hm] at heq
        refine ⟨hnb, MapV.but h.by' hb h3 h3, ?_, heq⟩
        have := MapV.congr hk2 (typC_put hm)
        rwa [List.length_append, List.length_singleton]
/-- Before a round of a loop over ids and names. -/
structure PrS (u w : World) (cb bb tb xb yb sb : Nat) (m : Md) (q : MdQ) (T : List Thg) (nms : List ByteArray) (rest : List (ByteArray × ByteArray)) (R : Nat) (W : World) : Prop where
  b : NmB u w cb bb tb xb m q W
  bs : Blk W yb 60 [.map (some sb)]
  by' : ByM W bb T.length (atT T)
  ty : MapV W tb m.typ.length int0 (typC m.typ)
  sn : ∃ c, MapV W sb nms.length int0 c ∧ ∀ s, (c s).isSome = decide (s ∈ nms)
  eq : pairsE (T.map Prod.fst) nms rest = R
theorem PrS.go {u w W W' : World} {cb bb tb xb yb sb R : Nat} {m : Md} {q : MdQ} {T : List Thg} {nms : List ByteArray} {rest : List (ByteArray × ByteArray)} (h : PrS u w cb bb tb xb yb sb m q T nms rest R W) (hb : Bel W W') : PrS u w cb bb tb xb yb sb m q T nms rest R W' :=
  ⟨h.b.go hb, h.bs.bel hb, h.by'.bel hb, h.ty.bel hb, by obtain ⟨c, h1, h2⟩ := h.sn; exact ⟨c, h1.bel hb, h2⟩, h.eq⟩
def RetPr (u w0 : World) (cb bb tb xb yb sb : Nat) (m : Md) (q : MdQ) (T : List Thg) (nms : List ByteArray) (rest : List (ByteArray × ByteArray)) (R : Nat) (w : World) (e : Ending) (w' : World) : Prop := ∃ E : Nat, e = .returned (.int .i64 E) ∧ (E ≠ 0 → E = R) ∧ NmB u w0 cb bb tb xb m q w' ∧ (E = 0 → PrS u w0 cb bb tb xb yb sb m q T nms rest R w') ∧ But bb sb w w'
theorem one_p {u w W : World} {cb bb tb xb yb sb R k i : Nat} {m : Md} {q : MdQ} {T : List Thg} {nms : List ByteArray} {rest : List (ByteArray × ByteArray)} {x : ByteArray × ByteArray} (h : PrS u w cb bb tb xb yb sb m q T nms (x :: rest) R W) (hE : Env u) (hx1 : x.1.size ≤ 1073741824) (hx2 : x.2.size ≤ 1073741824) (hT : T.length < 1073741824) (hN : nms.length < 1073741824)
    (h1 : u.heap.size ≤ bb) (h2 : u.heap.size ≤ sb) (h3 : bb ≠ sb) (h5 : tb ≠ bb) (h6 : tb ≠ sb) (h7 : w.heap.size ≤ sb) (h4 : cb ≠ bb ∧ cb ≠ sb ∧ xb ≠ bb ∧ xb ≠ sb) :
    Calls Tryz.prog 95 #[.string x.1, .string x.2, thgV (k, i), .pointer (some ⟨xb, 0, none⟩), .pointer (some ⟨yb, 0, none⟩)] W (RetPr u w cb bb tb xb yb sb m q (T ++ [(x.1, k, i)]) (nms ++ [x.2]) rest R W) := by
  obtain ⟨c, hsm, hc⟩ := h.sn
  refine (nmd1_c cb bb tb T.length k i xb yb sb nms.length m q (atT T) c x.1 x.2 W (hE.bel h.b.bel) h.b.bc h.b.bx h.bs h.by' hT hx1 hsm hN hx2 h3 u h.b.bel hE h1).mono ?_
  rintro e w' ⟨rfl, hb, hk⟩
  have heq := h.eq
  rw [pairsE_cons] at heq
  have hnb : NmB u w cb bb tb xb m q w' := h.b.step hb h1 h2 (.inl h7) h4
  have hybb : yb ≠ bb := MapV.ne h.by' h.bs
  have hybs : yb ≠ sb := MapV.ne hsm h.bs
  refine ⟨oneE (atT T) c x.1 x.2, rfl, fun hne => ?_, hnb, fun h0 => ?_, hb⟩
  · rw [← heq]
    unfold oneE idF freE at hne ⊢
    rw [at_isSome, hc] at hne ⊢
    by_cases hp : plainS x.1 = false
    · rw [if_pos hp, if_pos hp, if_pos (show (6 : Nat) ≠ 0 by decide)]
    · rw [if_neg hp] at hne
      rw [if_neg hp, if_neg hp]
      by_cases hi : x.1 ∈ T.map Prod.fst
      · rw [if_pos (decide_eq_true hi), if_pos (show (8 : Nat) ≠ 0 by decide), if_pos hi]
      · rw [if_neg (by simpa using hi)] at hne
        rw [if_neg (by simpa using hi), if_neg hi]
        by_cases hr : rightS x.2 = false
        · rw [if_pos hr, if_pos hr]
        · rw [if_neg hr] at hne
          rw [if_neg hr, if_neg hr]
          by_cases hm : x.2 ∈ nms
          · rw [if_pos (decide_eq_true hm), if_pos hm]
          · rw [if_neg (by simpa using hm)] at hne; exact absurd rfl hne
  · obtain ⟨hk1, hk2⟩ := hk h0
    unfold oneE idF freE at h0
    rw [at_isSome, hc] at h0
    by_cases hp : plainS x.1 = false
    · rw [if_pos hp, if_pos (show (6 : Nat) ≠ 0 by decide)] at h0; cases h0
    · rw [if_neg hp] at h0 heq
      by_cases hi : x.1 ∈ T.map Prod.fst
      · rw [if_pos (decide_eq_true hi), if_pos (show (8 : Nat) ≠ 0 by decide)] at h0; cases h0
      · rw [if_neg (by simpa using hi)] at h0
        rw [if_neg hi] at heq
        by_cases hr : rightS x.2 = false
        · rw [if_pos hr] at h0; cases h0
        · rw [if_neg hr] at h0 heq
          by_cases hm : x.2 ∈ nms
          · rw [if_pos (decide_eq_true hm)] at h0; cases h0
          · rw [if_neg hm] at heq
            refine ⟨hnb, h.bs.butM hb hybb hybs, ?_, MapV.but h.ty hb h5 h6, ⟨_, by rw [List.length_append, List.length_singleton]; exact hk2, fun s => ?_⟩, by rw [List.map_append]; exact heq⟩
            · rw [List.length_append, List.length_singleton]
              exact ByM.congr hk1 (at_put hi (k, i))
            · unfold updV
              by_cases hs : s = x.2
              · subst hs; simp
              · rw [if_neg hs, hc]; simp [hs]
theorem numb_len (k i : Nat) (l : List ByteArray) : (numb k i l).length = l.length := by rw [← List.length_map (f := Prod.fst), numb_fst]
/-- A loop over ids and names, before round j. -/
def PrJ (u w : World) (cb bb tb xb yb sb : Nat) (m : Md) (q : MdQ) (k : Nat) (A B : List (ByteArray × ByteArray)) (T0 : List Thg) (N0 : List ByteArray) (R j : Nat) (W : World) : Prop :=
  PrS u w cb bb tb xb yb sb m q (T0 ++ numb k 0 ((A.map Prod.fst).take j)) (N0 ++ (A.map Prod.snd).take j) (A.drop j ++ B) R W
theorem PrJ.start {u w W : World} {cb bb tb xb yb sb R k : Nat} {m : Md} {q : MdQ} {A B : List (ByteArray × ByteArray)} {T0 : List Thg} {N0 : List ByteArray} (h : PrS u w cb bb tb xb yb sb m q T0 N0 (A ++ B) R W) : PrJ u w cb bb tb xb yb sb m q k A B T0 N0 R 0 W := by
  unfold PrJ
  rw [List.take_zero, List.take_zero, List.drop_zero, List.append_nil, show numb k 0 [] = [] from rfl, List.append_nil]
  exact h
theorem PrJ.fin {u w W : World} {cb bb tb xb yb sb R k j : Nat} {m : Md} {q : MdQ} {A B : List (ByteArray × ByteArray)} {T0 : List Thg} {N0 : List ByteArray} (h : PrJ u w cb bb tb xb yb sb m q k A B T0 N0 R j W) (hj : A.length ≤ j) : PrS u w cb bb tb xb yb sb m q (T0 ++ numb k 0 (A.map Prod.fst)) (N0 ++ A.map Prod.snd) B R W := by
  unfold PrJ at h
  rw [List.take_of_length_le (by rw [List.length_map]; exact hj), List.take_of_length_le (by rw [List.length_map]; exact hj), List.drop_of_length_le hj, List.nil_append] at h
  exact h
theorem PrJ.go {u w W W' : World} {cb bb tb xb yb sb R k j : Nat} {m : Md} {q : MdQ} {A B : List (ByteArray × ByteArray)} {T0 : List Thg} {N0 : List ByteArray} (h : PrJ u w cb bb tb xb yb sb m q k A B T0 N0 R j W) (hb : Bel W W') : PrJ u w cb bb tb xb yb sb m q k A B T0 N0 R j W' := PrS.go h hb
def RetPj (u w0 : World) (cb bb tb xb yb sb : Nat) (m : Md) (q : MdQ) (k : Nat) (A B : List (ByteArray × ByteArray)) (T0 : List Thg) (N0 : List ByteArray) (R j : Nat) (w : World) (e : Ending) (w' : World) : Prop := ∃ E : Nat, e = .returned (.int .i64 E) ∧ (E ≠ 0 → E = R) ∧ NmB u w0 cb bb tb xb m q w' ∧ (E = 0 → PrJ u w0 cb bb tb xb yb sb m q k A B T0 N0 R j w') ∧ But bb sb w w'
theorem one_j {u w W : World} {cb bb tb xb yb sb R k j : Nat} {m : Md} {q : MdQ} {A B : List (ByteArray × ByteArray)} {T0 : List Thg} {N0 : List ByteArray} {x : ByteArray × ByteArray} (kz : Int) (hkz : (k : Int) = kz) (h : PrJ u w cb bb tb xb yb sb m q k A B T0 N0 R j W) (hx : A[j]? = some x) (hE : Env u) (hx1 : x.1.size ≤ 1073741824) (hx2 : x.2.size ≤ 1073741824) (hT : T0.length + A.length < 1073741824) (hN : N0.length + A.length < 1073741824)
    (h1 : u.heap.size ≤ bb) (h2 : u.heap.size ≤ sb) (h3 : bb ≠ sb) (h5 : tb ≠ bb) (h6 : tb ≠ sb) (h7 : w.heap.size ≤ sb) (h4 : cb ≠ bb ∧ cb ≠ sb ∧ xb ≠ bb ∧ xb ≠ sb) :
    Calls Tryz.prog 95 #[.string x.1, .string x.2, .agg #[.int .i64 kz, .int .i64 j], .pointer (some ⟨xb, 0, none⟩), .pointer (some ⟨yb, 0, none⟩)] W (RetPj u w cb bb tb xb yb sb m q k A B T0 N0 R (j + 1) W) := by
  subst hkz
  obtain ⟨hjl, hxe⟩ := List.getElem?_eq_some_iff.1 hx
  have hl1 : ((A.map Prod.fst).take j).length = j := by rw [List.length_take, List.length_map]; omega
  have hl2 : ((A.map Prod.snd).take j).length = j := by rw [List.length_take, List.length_map]; omega
  have hnl : (numb k 0 ((A.map Prod.fst).take j)).length = j := by rw [← List.length_map (f := Prod.fst), numb_fst, hl1]
  have ht1 : (A.map Prod.fst).take (j + 1) = (A.map Prod.fst).take j ++ [x.1] := by rw [List.take_add_one, List.getElem?_map, hx]; rfl
  have ht2 : (A.map Prod.snd).take (j + 1) = (A.map Prod.snd).take j ++ [x.2] := by rw [List.take_add_one, List.getElem?_map, hx]; rfl
  have hd : A.drop j = x :: A.drop (j + 1) := by rw [List.drop_eq_getElem_cons hjl, hxe]
  unfold PrJ at h
  rw [hd, List.cons_append] at h
  refine (one_p (k := k) (i := j) h hE hx1 hx2 (by rw [List.length_append, hnl]; omega) (by rw [List.length_append, hl2]; omega) h1 h2 h3 h5 h6 h7 h4).mono ?_
  rintro e w' ⟨E, rfl, e1, e2, e3, e4⟩
  refine ⟨E, rfl, e1, e2, fun h0 => ?_, e4⟩
  have h9 := e3 h0
  unfold PrJ
  rw [ht1, ht2, numb_app, hl1, Nat.zero_add, ← List.append_assoc, ← List.append_assoc]
  exact h9
theorem things_eq (m : Md) : (([(m.id, 0, 0)] ++ numb 1 0 ((inpP m.ins).map Prod.fst)) ++ numb 2 0 ((knP m.kns).map Prod.fst)) ++ numb 3 0 ((deP m.des).map Prod.fst) = m.things := by
  unfold Md.things inpP knP deP
  simp [List.map_map, Function.comp_def]
end Go.Proofs.YtbcdbefogfmhfaaGreatDoor
