/-
  xmlout: the walks of the closures that meet a namespace, and all of a tree's.
-/
import Derived.Test.YtojeclfcgnamoaaDoorWAA
import Derived.Test.YtojeclfcgnamoaaDoorKT
import Derived.Test.YtojeclfcgnamoaaDoorShelf
import Derived.Lib.ItoaNum
import Derived.Lib.AppendIntMem
import Derived.Maps.StringElems
import Derived.StringKeys
namespace Go.Proofs.YtojeclfcgnamoaaDoor
open Go.RowKit Go.Maps

theorem Blk.keepT {W W' : World} {p : TypeId → Bool} {b t : Nat} {cs : List Value} (h : Blk W b t cs) (k : KeepT p W W') (hp : p t = true) : Blk W' b t cs := (k.2 b _ _ _ h hp).trans h
theorem blk_ne {W : World} {a b t t' : Nat} {cs cs' : List Value} (h : Blk W a t cs) (k : Blk W b t' cs') (hne : t ≠ t') : a ≠ b := by
  rintro rfl
  have := h.symm.trans k
  injection this with this
  injection this with _ ht _
  exact hne ht
theorem map_keep {w w' : World} {k : TypeId} {R : Value → Option (DataW Unit × List MemPlace)} {b n : Nat} {D : DataW Unit} (h : w.ownsMap Tryd.prog k R b n D) (hg : w.grownBy w' (some b)) : KeepT (fun _ => true) w w' := by
  obtain ⟨es, c, hb, _⟩ := h
  refine ⟨hg.size, fun i cs t fr hi _ => hg.block i (Array.getElem?_eq_some_iff.1 hi).1 (fun e => ?_)⟩
  injection e with e
  subst e
  rw [hb] at hi
  cases hi
theorem KeepT.weaken {p q : TypeId → Bool} {W W' : World} (h : KeepT p W W') (hq : ∀ t, q t = true → p t = true) : KeepT q W W' := ⟨h.1, fun k cs t fr hk hp => h.2 k cs t fr hk (hq t hp)⟩
theorem map_blk_ne {w : World} {k : TypeId} {R : Value → Option (DataW Unit × List MemPlace)} {mb n b t : Nat} {cs : List Value} {D : DataW Unit} (h : w.ownsMap Tryd.prog k R mb n D) (hb : Blk w b t cs) : mb ≠ b := by
  obtain ⟨es, c, h1, _⟩ := h
  rintro rfl
  unfold Blk at hb
  rw [h1] at hb
  cases hb
theorem itoa_dec : ∀ n : Nat, 0 < n → Lib.decDigits n = decB n := by
  intro n
  induction n using Nat.strongRecOn with
  | _ n ih =>
    intro hn
    rw [Lib.decDigits, decB_step n (by omega)]
    split
    · rename_i h
      rw [show n / 10 = 0 from by omega, decB_zero, show n % 10 = n from by omega]
      rfl
    · rw [ih (n / 10) (by omega) (by omega)]
def EnvT (w : World) : Prop := Env w ∧ Lib.TabIs Tryd.prog w "internal/strconv.uint64pow10" .u64 Lib.pow10Tab
theorem EnvT.bel {w w' : World} (h : EnvT w) (hb : Bel w w') : EnvT w' := ⟨h.1.bel hb, Lib.tabBelow_of_tabIs h.2 w' hb⟩
set_option maxRecDepth 100000 in
theorem xitoa_c (n : Nat) (h0 : 0 < n) (h1 : n ≤ 1073741824) (w : World) (hE : EnvT w) : Calls Tryd.prog 37 #[.int .i64 n] w (RetBel (.string ⟨(decB n).toArray⟩) w) := by
  refine (Tryd.strconv_Itoa n (by omega) (by omega) w hE.2).mono ?_
  rintro e w' ⟨rfl, k, os, rfl⟩
  refine ⟨?_, Lib.below_grow _ _ (Nat.le_refl _) _ _⟩
  rw [← itoa_dec n h0]
  unfold Lib.itoa
  rw [if_neg (by omega), Int.toNat_natCast]
def keyT (s : ByteArray) : Lit := .string s.data.toList
theorem keyT_ne {a b : ByteArray} (h : a ≠ b) : keyT a ≠ keyT b := fun e => h (bytes_inj (by unfold keyT at e; injection e))
theorem keyT_of {s : ByteArray} (h : s.size ≤ maxLen) : keyOf Tryd.prog 9 (.string s) = some (keyT s) := Go.WideMaps.keyOf_string_mk Tryd.underlying9 h
theorem lawT : Keyed Tryd.prog 9 := string_keyed Tryd.underlying9
def inF (F : List ByteArray) (s : ByteArray) : Bool := F.any fun y => decide (y = s)
theorem inF_iff (F : List ByteArray) (s : ByteArray) : inF F s = true ↔ s ∈ F := by
  unfold inF
  rw [List.any_eq_true]
  constructor
  · rintro ⟨y, h1, h2⟩
    rw [← of_decide_eq_true h2]; exact h1
  · exact fun h => ⟨s, h, decide_eq_true rfl⟩
/-- Which texts are keys. -/
def HasT (D : DataW Unit) (F : List ByteArray) : Prop := IsMap D ∧ ∀ s : ByteArray, Maps.has D (keyT s) = inF F s
theorem HasT.start : HasT (.map []) [] := ⟨isMap_empty, fun _ => by simp [Maps.has, inF]⟩
theorem HasT.put {D : DataW Unit} {F : List ByteArray} (h : HasT D F) (s : ByteArray) (d : DataW Unit) : HasT (D.put (keyT s) d) (F ++ [s]) := by
  refine ⟨h.1.put _ _, fun x => ?_⟩
  by_cases hx : x = s
  · subst hx
    rw [has_put_same h.1 (show WideAt.IsKeyLit (keyT x) by trivial)]
    exact ((inF_iff _ _).2 (List.mem_append_right _ (List.mem_singleton.2 rfl))).symm
  · rw [has_put_other (keyT_ne hx), h.2 x]
    unfold inF
    rw [List.any_append]
    simp [Ne.symm hx]
/-- A pair's cells. -/
def encP (p : Pr6) : List Value := [.int .i64 0, .string p.1, .string p.2]
theorem flatP_len : ∀ l : List Pr6, (l.flatMap encP).length = l.length * 3
  | [] => rfl
  | x :: r => by rw [List.flatMap_cons, List.length_append, flatP_len r, List.length_cons]; simp [encP]; omega
theorem othersP_le (l : List Pr6) : othersP l ≤ l.length := List.countP_le_length
/-- What prefixes holds: the map of those that are seen, how many others, the row of pairs. -/
structure PX (B m o p mb : Nat) (L : List Pr6) (F : List ByteArray) (c n : Nat) (w : World) : Prop where
  bm : Blk w m 52 [.map (some mb)]
  bo : Blk w o 3 [.int .i64 c]
  bp : ∃ a cap, Blk w p 41 [.slice a L.length cap] ∧ w.ownsRow B 47 3 (.slice a L.length cap) L.length (L.flatMap encP)
  mp : ∃ D, w.ownsMap Tryd.prog 9 (plainElem Tryd.prog 9) mb n D ∧ HasT D F
  ge : B ≤ o ∧ B ≤ p ∧ B ≤ mb
abbrev PW (B m o p mb : Nat) (L : List Pr6) (n : Nat) (w : World) : Prop := PX B m o p mb L (⟨#[]⟩ :: L.map Prod.snd) (othersP L) n w
theorem PX.mono {B m o p mb n n' c : Nat} {L : List Pr6} {F : List ByteArray} {w : World} (h : PX B m o p mb L F c n w) (hn : n ≤ n') : PX B m o p mb L F c n' w := by
  obtain ⟨h1, h2, h3, ⟨D, h4, h5⟩, h6⟩ := h
  exact ⟨h1, h2, h3, ⟨D, h4.mono hn, h5⟩, h6⟩
theorem PX.bel {B m o p mb n c : Nat} {L : List Pr6} {F : List ByteArray} {w w' : World} (h : PX B m o p mb L F c n w) (hb : Bel w w') : PX B m o p mb L F c n w' := by
  obtain ⟨h1, h2, ⟨a, cap, h3, h3'⟩, ⟨D, h4, h5⟩, h6⟩ := h
  exact ⟨h1.bel hb, h2.bel hb, ⟨a, cap, h3.bel hb, own_bel h3' hb⟩, ⟨D, own_mapBel h4 hb, h5⟩, h6⟩
theorem px_look {B m o p mb n c : Nat} {L : List Pr6} {F : List ByteArray} {w : World} (h : PX B m o p mb L F c n w) {s : ByteArray} (hs : s.size ≤ maxLen) :
    ∃ x : ByteArray, (Instr.lookup 52 (.map (some mb)) (.string s) true).run Tryd.prog w = .ok (.tuple #[.string x, .bool (inF F s)]) w := by
  obtain ⟨D, h1, h2⟩ := h.mp
  have hz : (zeroValue 9).run Tryd.prog w = .ok (.string ⟨#[]⟩) w := by kernel_rfl
  obtain ⟨v, ps, hrun, hv⟩ := h1.look_ok lawT Tryd.underlying52 hz (plainElem_string Tryd.underlying9 (s := ⟨#[]⟩) (by unfold maxLen; decide)) (keyT_of hs)
  obtain ⟨x, rfl, _⟩ := plainElem_string_inv Tryd.underlying9 hv
  exact ⟨x, by rw [hrun, h2.2 s]⟩
theorem cells_new (w : World) (cs : List Value) (t : TypeId) : ∀ j u, cs[j]? = some u → (w.alloc (.cells cs.toArray t)).cell? ((⟨w.heap.size, 0, none⟩ : Addr).add j) = some u := by
  intro j u hj
  rw [show ((⟨w.heap.size, 0, none⟩ : Addr).add j) = ⟨w.heap.size, j, none⟩ from by simp [Addr.add]; omega, (Blk.new w t cs).at]
  exact hj
theorem info_pair : (Tryd.prog.info? 47).map (fun i => (i.zero, i.size, i.bytes)) = some (some (.agg #[.int .i64 0, .string ⟨#[]⟩, .string ⟨#[]⟩]), 3, 40) := by kernel_rfl
/-- The types whose blocks the closures leave as they are. -/
def keepP (t : TypeId) : Bool := !(t == 3 || (t == 41 || t == 47))
theorem keepP_types : keepP 3 = false ∧ keepP 41 = false ∧ keepP 47 = false ∧ keepP 27 = true ∧ keepP 63 = true ∧ keepP 75 = true ∧ keepP 76 = true := by decide
theorem encP_one (p : Pr6) : ∀ y ∈ encP p, y.oneCell' = true := by
  intro y hy
  simp only [encP, List.mem_cons, List.not_mem_nil, or_false] at hy
  rcases hy with rfl | rfl | rfl <;> rfl
theorem px_set {B m o p mb n c : Nat} {L : List Pr6} {F : List ByteArray} {w : World} (h : PX B m o p mb L F c n w) (c' : Nat) :
    PX B m o p mb L F c' n (w.setCell ⟨o, 0, none⟩ (.int .i64 c')) ∧ Below B w (w.setCell ⟨o, 0, none⟩ (.int .i64 c')) ∧ KeepT keepP w (w.setCell ⟨o, 0, none⟩ (.int .i64 c')) := by
  obtain ⟨h1, h2, ⟨a, cap, h3, h3'⟩, ⟨D, h4, h5⟩, h6⟩ := h
  refine ⟨⟨h1.far (p := ⟨o, 0, none⟩) (blk_ne h1 h2 (by decide)) _, h2.set 0 _, ⟨a, cap, h3.far (p := ⟨o, 0, none⟩) (blk_ne h3 h2 (by decide)) _, own_set h3' (p := ⟨o, 0, none⟩) (own_ne h3' h2 (by decide)) _⟩, ⟨D, h4.setCell (a := ⟨o, 0, none⟩) (map_blk_ne h4 h2) _, h5⟩, h6⟩, (Below.refl B w).setCell (p := ⟨o, 0, none⟩) h6.1 _, KeepT.set h2 keepP_types.1 0 _⟩
theorem px_put {B m o p mb n c : Nat} {L : List Pr6} {F : List ByteArray} {w : World} (h : PX B m o p mb L F c n w) (hn : n < 1073741824) (hB : B ≤ w.heap.size) {s q : ByteArray} (hs : s.size ≤ maxLen) (hq : q.size ≤ maxLen) :
    ∃ w', (Instr.mapUpdate 52 (.map (some mb)) (.string s) (.string q)).run Tryd.prog w = .ok () w' ∧ PX B m o p mb L (F ++ [s]) c (n + 1) w' ∧ Below B w w' ∧ KeepT keepP w w' := by
  obtain ⟨h1, h2, ⟨a, cap, h3, h3'⟩, ⟨D, h4, h5⟩, h6⟩ := h
  obtain ⟨w', hrun, hown, hg⟩ := h4.update lawT Tryd.underlying52 (by unfold maxLen; omega) (keyT_of hs) (plainElem_string Tryd.underlying9 hq)
  have hk := map_keep h4 hg
  exact ⟨w', hrun, ⟨h1.keepT hk rfl, h2.keepT hk rfl, ⟨a, cap, h3.keepT hk rfl, hk.own h3' rfl⟩, ⟨_, hown, h5.put s _⟩, h6⟩, Below.grown (Below.refl B w) hg hB (fun k e => by cases e; exact h6.2.2), hk.weaken fun _ _ => rfl⟩
theorem px_app {B m o p mb n c : Nat} {L : List Pr6} {F : List ByteArray} {w w' : World} (h : PX B m o p mb L F c n w) (hB : B ≤ w.heap.size) {a : Option Addr} {cap : Nat} (hp : Blk w p 41 [.slice a L.length cap]) (ho : w.ownsRow B 47 3 (.slice a L.length cap) L.length (L.flatMap encP))
    {x : Pr6} {g cap' : Nat} (hown : w'.ownsRow B 47 3 (.slice (some ⟨g, 0, none⟩) (L.length + 1) cap') (L.length + 1) (L.flatMap encP ++ encP x)) (hg : w.grownBy w' (Value.slice a L.length cap).ownBlock) :
    PX B m o p mb (L ++ [x]) F c n (w'.setCell ⟨p, 0, none⟩ (.slice (some ⟨g, 0, none⟩) (L.length + 1) cap')) ∧ Below B w (w'.setCell ⟨p, 0, none⟩ (.slice (some ⟨g, 0, none⟩) (L.length + 1) cap')) ∧ KeepT keepP w (w'.setCell ⟨p, 0, none⟩ (.slice (some ⟨g, 0, none⟩) (L.length + 1) cap')) ∧ Blk w' p 41 [.slice a L.length cap] := by
  obtain ⟨h1, h2, _, ⟨D, h4, h5⟩, h6⟩ := h
  have k1 := h1.grown ho hg (by decide)
  have k2 := h2.grown ho hg (by decide)
  have k3 := hp.grown ho hg (by decide)
  have k4 : w'.ownsMap Tryd.prog 9 (plainElem Tryd.prog 9) mb n D := h4.kept hg (fun e => by
    obtain ⟨es, ck, hb, _⟩ := h4
    rcases ho.2 with ⟨e0, _⟩ | ⟨g', cap2, cur, e0, _, hh, _⟩
    · rw [e0] at e; cases e
    · rw [e0] at e
      injection e with e
      subst e
      rw [hb] at hh
      cases hh)
  have hl : (L ++ [x]).length = L.length + 1 := by simp
  have hf : (L ++ [x]).flatMap encP = L.flatMap encP ++ encP x := by rw [List.flatMap_append]; simp
  refine ⟨⟨k1.far (p := ⟨p, 0, none⟩) (blk_ne k1 k3 (by decide)) _, k2.far (p := ⟨p, 0, none⟩) (blk_ne k2 k3 (by decide)) _, ⟨some ⟨g, 0, none⟩, cap', ?_, ?_⟩, ⟨D, k4.setCell (a := ⟨p, 0, none⟩) (map_blk_ne k4 k3) _, h5⟩, h6⟩, ?_, (KeepT.grow ho keepP_types.2.2.1 hg).trans (KeepT.set k3 keepP_types.2.1 0 _), k3⟩
  · rw [hl]; exact k3.set 0 _
  · rw [hl, hf]; exact own_set hown (p := ⟨p, 0, none⟩) (own_ne hown k3 (by decide)) _
  · exact (Below.grown (Below.refl B w) hg hB (fun k e => by
      rcases ho.2 with ⟨e0, _⟩ | ⟨g', cap2, cur, e0, hge, _⟩
      · rw [e0] at e; cases e
      · rw [e0] at e
        simp only [Value.ownBlock, Option.some.injEq] at e
        omega)).setCell (p := ⟨p, 0, none⟩) h6.2.1 _
def RetPW (B m o p mb : Nat) (L : List Pr6) (n : Nat) (w : World) (e : Ending) (w' : World) : Prop := e = .returned (.tuple #[]) ∧ PW B m o p mb L n w' ∧ Below B w w' ∧ KeepT keepP w w'
theorem decB_le : ∀ n : Nat, n ≤ 1073741824 → (decB n).length ≤ 10 := fun n h => decB_len 10 n (by omega)
set_option maxRecDepth 100000 in
set_option maxHeartbeats 8000000 in
/-- What is done behind the choice of a prefix: noted, and appended. -/
theorem meet_c (B m o p mb n : Nat) (L : List Pr6) (s : ByteArray) (w : World) (hE : ∀ v, Below B w v → EnvT v) (hs : s.size ≤ 1073741824) (hn : n < 1073741824) (hl : L.length ≤ n) (hB : B ≤ w.heap.size) (h : PW B m o p mb L n w) :
    Calls Tryd.prog 36 #[.string s, .pointer (some ⟨m, 0, none⟩), .pointer (some ⟨o, 0, none⟩), .pointer (some ⟨p, 0, none⟩)] w (RetPW B m o p mb (meetP L s) (n + 1) w) := by
  have hs2 : s.size ≤ maxLen := by unfold maxLen; omega
  obtain ⟨x, hlk⟩ := px_look h hs2
  have hm0 : w.cell? ⟨m, 0, none⟩ = some (.map (some mb)) := h.bm.at 0
  have ho0 : w.cell? ⟨o, 0, none⟩ = some (.int .i64 (othersP L)) := h.bo.at 0
  have hof : w.frozen? ⟨o, 0, none⟩ = false := h.bo.fz 0
  have hu : (s.toList == [104, 116, 116, 112, 115, 58, 47, 47, 119, 119, 119, 46, 111, 109, 103, 46, 111, 114, 103, 47, 115, 112, 101, 99, 47, 68, 77, 78, 47, 50, 48, 50, 49, 49, 49, 48, 56, 47, 77, 79, 68, 69, 76, 47]) = decide (s = uriX) := by rw [← lequal s uriX, Lib.toList_data uriX]; rfl
  have hsp : (s.toList == [104, 116, 116, 112, 58, 47, 47, 119, 119, 119, 46, 119, 51, 46, 111, 114, 103, 47, 88, 77, 76, 47, 49, 57, 57, 56, 47, 110, 97, 109, 101, 115, 112, 97, 99, 101]) = decide (s = spX) := by rw [← lequal s spX, Lib.toList_data spX]; rfl
  by_cases h0 : inF ((⟨#[]⟩ : ByteArray) :: L.map Prod.snd) s = true
  · have hmt : meetP L s = L := by
      unfold meetP
      rw [if_pos]
      rw [inF_iff, List.mem_cons, ← hasS_iff] at h0
      exact h0
    rw [h0] at hlk
    rw [hmt]
    have HH := Lib.hid (h.mono (Nat.le_succ n))
    clear hmt h h0 hu hsp hE
    go_enter Tryd.func36, Tryd.ntmps36
    go_wp2_with fail
    refine bodyPost_ret (results_none rfl _ _ _) rfl ?_
    exact ⟨rfl, HH.out, Below.refl _ _, KeepT.refl _ _⟩
  · have hmt : meetP L s = L ++ [(freshP L s, s)] := by
      unfold meetP
      rw [if_neg]
      rw [inF_iff, List.mem_cons, ← hasS_iff] at h0
      exact h0
    rw [Bool.not_eq_true] at h0
    rw [h0] at hlk
    rw [hmt]
    have hFs : (⟨#[]⟩ : ByteArray) :: (L ++ [(freshP L s, s)]).map Prod.snd = ((⟨#[]⟩ : ByteArray) :: L.map Prod.snd) ++ [s] := by simp
    have hot := othersP_snoc L (freshP L s, s)
    have HFS := Lib.hid hFs
    have HBL : Hid (∀ v, Below B w v → B ≤ (v.alloc (.cells #[] 0)).heap.size) := Lib.hid fun v hv => by rw [World.size_alloc]; have := hv.size; omega
    have HHP := Lib.hid h
    have hol := othersP_le L
    obtain ⟨U, hU⟩ : ∃ U, decide (s = uriX) = U := ⟨_, rfl⟩
    obtain ⟨X, hX⟩ : ∃ U, decide (s = spX) = U := ⟨_, rfl⟩
    obtain ⟨Q, hQ⟩ : ∃ Q, freshP L s = Q := ⟨_, rfl⟩
    rw [hU] at hu
    rw [hX] at hsp
    have hQ2 : Q = if U = true then dmnX else if X = true then xmlX else ⟨(110 :: decB (othersP L + 1)).toArray⟩ := by rw [← hQ, ← hU, ← hX]; unfold freshP; simp
    rw [hQ] at hot HFS ⊢
    clear hFs h h0 hmt hU hX hQ
    cases U
    · cases X
      · simp only [Bool.false_eq_true, if_false] at hQ2
        have hnum : Q = numP (othersP L + 1) := hQ2
        have HCE : Hid (othersP L + 1 = othersP (L ++ [(Q, s)])) := Lib.hid (by rw [hot, if_pos (by rw [hnum]; exact numP_ne _)])
        obtain ⟨c, hc⟩ : ∃ c, othersP L = c := ⟨_, rfl⟩
        rw [hc] at ho0 hnum hol HCE
        obtain ⟨PS, BS, KS⟩ := px_set HHP.out (c + 1)
        obtain ⟨W1, hW1⟩ : ∃ W, w.setCell ⟨o, 0, none⟩ (.int .i64 (c + 1 : Nat)) = W := ⟨_, rfl⟩
        rw [hW1] at PS BS KS
        have hET : EnvT W1 := hE W1 BS
        have hcb : c ≤ 1073741824 := by omega
        have HW1 := Lib.hid hW1
        obtain ⟨D, hD⟩ : ∃ D : ByteArray, ⟨(decB (c + 1)).toArray⟩ = D := ⟨_, rfl⟩
        have hDs : D.size ≤ 10 := by rw [← hD]; exact decB_le (c + 1) (by omega)
        have HIT := Lib.hid (xitoa_c (c + 1) (by omega) (by omega) W1 hET)
        rw [hD] at HIT
        have HQD : Hid ((⟨#[110]⟩ : ByteArray) ++ D = Q) := Lib.hid (by
          rw [hnum, ← hD]
          apply bytes_inj
          simp [numP])
        have HPS := Lib.hid PS
        have HBS := Lib.hid BS
        have HKS := Lib.hid KS
        have hcat : ¬ (9223372036854775807 < (⟨#[110]⟩ : ByteArray).size + D.size) := by
          have : (⟨#[110]⟩ : ByteArray).size = 1 := rfl
          omega
        have HQS : Hid (((⟨#[110]⟩ : ByteArray) ++ D).size ≤ maxLen) := Lib.hid (by rw [ByteArray.size_append]; unfold maxLen; omega)
        have o1 : W1.cell? ⟨o, 0, none⟩ = some (.int .i64 (c + 1 : Nat)) := PS.bo.at 0
        clear hot hol hE hc hET hW1 hnum hQ2 hD PS BS KS
        go_enter Tryd.func36, Tryd.ntmps36
        go_wp2_with fail
        rw [show w.setCell ⟨o, 0, none⟩ (.int .i64 ((c : Int) + 1)) = W1 from HW1.out]
        refine HIT.out.mono ?_
        rintro e w2 ⟨rfl, hb2⟩
        have PS2 := HPS.out.bel hb2
        have BS2 : Below B w w2 := HBS.out.trans (hb2.mono (Nat.le_trans hB HBS.out.size))
        have KS2 : KeepT keepP w w2 := HKS.out.trans (KeepT.of_bel hb2)
        have hBB2 := Nat.le_trans hB BS2.size
        have hqs := HQS.out
        have hm0 : w2.cell? ⟨m, 0, none⟩ = some (.map (some mb)) := PS2.bm.at 0
        have HCEQ : c + 1 = othersP (L ++ [(Q, s)]) := HCE.out
        rw [← HQD.out] at HFS HCEQ ⊢
        clear HIT HPS HBS HKS hb2 HCE
        obtain ⟨wb, hup, PB, BB, KB⟩ := px_put PS2 hn hBB2 hs2 hqs
        obtain ⟨pa, pcap, hpb, hprow⟩ := PB.bp
        have cp : wb.cell? ⟨p, 0, none⟩ = some (.slice pa L.length pcap) := hpb.at 0
        have hBb : B ≤ (wb.alloc (.cells #[.int .i64 0, .string (⟨#[110]⟩ ++ D), .string s] 47)).heap.size := by rw [World.size_alloc]; have := BB.size; omega
        have HPA := Lib.hid (PB.bel (Bel.alloc wb (.cells #[.int .i64 0, .string (⟨#[110]⟩ ++ D), .string s] 47)))
        have HPR := Lib.hid (own_bel hprow (Bel.alloc wb (.cells #[.int .i64 0, .string (⟨#[110]⟩ ++ D), .string s] 47)))
        have HPB := Lib.hid (hpb.bel (Bel.alloc wb (.cells #[.int .i64 0, .string (⟨#[110]⟩ ++ D), .string s] 47)))
        have HKB := Lib.hid ((KS2.trans KB).trans (KeepT.of_bel (p := keepP) (Bel.alloc wb (.cells #[.int .i64 0, .string (⟨#[110]⟩ ++ D), .string s] 47))))
        have HBB := Lib.hid ((BS2.trans BB).alloc (Nat.le_trans hBB2 BB.size) (.cells #[.int .i64 0, .string (⟨#[110]⟩ ++ D), .string s] 47))
        clear PB BB KB hpb hprow
        go_wp2_with (at_builtin; refine wpL_append1k rfl _ _ 41 rfl B hBb 47 (.agg #[.int .i64 0, .string ⟨#[]⟩, .string ⟨#[]⟩]) 3 40 Tryd.underlying41 info_pair rfl (by decide) (by decide) _ L.length _ rfl HPR.out ⟨wb.heap.size, 0, none⟩ 1 (encP ((⟨#[110]⟩ ++ D), s)) rfl rfl (cells_new _ _ _) (encP_one _) (by omega) ?_; intro g cap2 w7 hown7 hg7; obtain ⟨z1, z2, z3, z4⟩ := px_app HPA.out hBb HPB.out HPR.out hown7 hg7; have c7 : w7.cell? ⟨p, 0, none⟩ = some (.slice pa L.length pcap) := z4.at 0; have f7 : w7.frozen? ⟨p, 0, none⟩ = false := z4.fz 0; have Z1 := Lib.hid z1; have Z2 := Lib.hid z2; have Z3 := Lib.hid z3; clear z1 z2 z3 z4 hown7 hg7)
        refine bodyPost_ret (results_none rfl _ _ _) rfl ?_
        refine ⟨rfl, ?_, HBB.out.trans Z2.out, HKB.out.trans Z3.out⟩
        have hz := Z1.out
        rw [← HFS.out, HCEQ, HQD.out] at hz
        exact hz
      · simp only [Bool.false_eq_true, if_false, if_true] at hQ2
        have HCEQ : othersP L = othersP (L ++ [(Q, s)]) := by rw [hot, if_neg (by rw [hQ2]; exact fun e => e.2 rfl)]; rfl
        subst hQ2
        have hqs : xmlX.size ≤ maxLen := by unfold maxLen; decide
        unfold xmlX at *
        clear hot hol hE
        go_enter Tryd.func36, Tryd.ntmps36
        obtain ⟨wb, hup, PB, BB, KB⟩ := px_put HHP.out hn hB hs2 hqs
        obtain ⟨pa, pcap, hpb, hprow⟩ := PB.bp
        have cp : wb.cell? ⟨p, 0, none⟩ = some (.slice pa L.length pcap) := hpb.at 0
        have hBb : B ≤ (wb.alloc (.cells #[.int .i64 0, .string ⟨#[120, 109, 108]⟩, .string s] 47)).heap.size := by rw [World.size_alloc]; have := BB.size; omega
        have HPA := Lib.hid (PB.bel (Bel.alloc wb (.cells #[.int .i64 0, .string ⟨#[120, 109, 108]⟩, .string s] 47)))
        have HPR := Lib.hid (own_bel hprow (Bel.alloc wb (.cells #[.int .i64 0, .string ⟨#[120, 109, 108]⟩, .string s] 47)))
        have HPB := Lib.hid (hpb.bel (Bel.alloc wb (.cells #[.int .i64 0, .string ⟨#[120, 109, 108]⟩, .string s] 47)))
        have HKB := Lib.hid (KB.trans (KeepT.of_bel (p := keepP) (Bel.alloc wb (.cells #[.int .i64 0, .string ⟨#[120, 109, 108]⟩, .string s] 47))))
        have HBB := Lib.hid (BB.alloc (Nat.le_trans hB BB.size) (.cells #[.int .i64 0, .string ⟨#[120, 109, 108]⟩, .string s] 47))
        clear PB BB KB hpb hprow
        go_wp2_with (at_builtin; refine wpL_append1k rfl _ _ 41 rfl B hBb 47 (.agg #[.int .i64 0, .string ⟨#[]⟩, .string ⟨#[]⟩]) 3 40 Tryd.underlying41 info_pair rfl (by decide) (by decide) _ L.length _ rfl HPR.out ⟨wb.heap.size, 0, none⟩ 1 (encP (⟨#[120, 109, 108]⟩, s)) rfl rfl (cells_new _ _ _) (encP_one _) (by omega) ?_; intro g cap2 w7 hown7 hg7; obtain ⟨z1, z2, z3, z4⟩ := px_app HPA.out hBb HPB.out HPR.out hown7 hg7; have c7 : w7.cell? ⟨p, 0, none⟩ = some (.slice pa L.length pcap) := z4.at 0; have f7 : w7.frozen? ⟨p, 0, none⟩ = false := z4.fz 0; have Z1 := Lib.hid z1; have Z2 := Lib.hid z2; have Z3 := Lib.hid z3; clear z1 z2 z3 z4 hown7 hg7)
        refine bodyPost_ret (results_none rfl _ _ _) rfl ?_
        refine ⟨rfl, ?_, HBB.out.trans Z2.out, HKB.out.trans Z3.out⟩
        have hz := Z1.out
        rw [← HFS.out, HCEQ] at hz
        exact hz
    · simp only [if_true] at hQ2
      have HCEQ : othersP L = othersP (L ++ [(Q, s)]) := by rw [hot, if_neg (by rw [hQ2]; exact fun e => e.1 rfl)]; rfl
      subst hQ2
      have hqs : dmnX.size ≤ maxLen := by unfold maxLen; decide
      unfold dmnX at *
      clear hot hol hE
      go_enter Tryd.func36, Tryd.ntmps36
      obtain ⟨wb, hup, PB, BB, KB⟩ := px_put HHP.out hn hB hs2 hqs
      obtain ⟨pa, pcap, hpb, hprow⟩ := PB.bp
      have cp : wb.cell? ⟨p, 0, none⟩ = some (.slice pa L.length pcap) := hpb.at 0
      have hBb : B ≤ (wb.alloc (.cells #[.int .i64 0, .string ⟨#[100, 109, 110]⟩, .string s] 47)).heap.size := by rw [World.size_alloc]; have := BB.size; omega
      have HPA := Lib.hid (PB.bel (Bel.alloc wb (.cells #[.int .i64 0, .string ⟨#[100, 109, 110]⟩, .string s] 47)))
      have HPR := Lib.hid (own_bel hprow (Bel.alloc wb (.cells #[.int .i64 0, .string ⟨#[100, 109, 110]⟩, .string s] 47)))
      have HPB := Lib.hid (hpb.bel (Bel.alloc wb (.cells #[.int .i64 0, .string ⟨#[100, 109, 110]⟩, .string s] 47)))
      have HKB := Lib.hid (KB.trans (KeepT.of_bel (p := keepP) (Bel.alloc wb (.cells #[.int .i64 0, .string ⟨#[100, 109, 110]⟩, .string s] 47))))
      have HBB := Lib.hid (BB.alloc (Nat.le_trans hB BB.size) (.cells #[.int .i64 0, .string ⟨#[100, 109, 110]⟩, .string s] 47))
      clear PB BB KB hpb hprow
      go_wp2_with (at_builtin; refine wpL_append1k rfl _ _ 41 rfl B hBb 47 (.agg #[.int .i64 0, .string ⟨#[]⟩, .string ⟨#[]⟩]) 3 40 Tryd.underlying41 info_pair rfl (by decide) (by decide) _ L.length _ rfl HPR.out ⟨wb.heap.size, 0, none⟩ 1 (encP (⟨#[100, 109, 110]⟩, s)) rfl rfl (cells_new _ _ _) (encP_one _) (by omega) ?_; intro g cap2 w7 hown7 hg7; obtain ⟨z1, z2, z3, z4⟩ := px_app HPA.out hBb HPB.out HPR.out hown7 hg7; have c7 : w7.cell? ⟨p, 0, none⟩ = some (.slice pa L.length pcap) := z4.at 0; have f7 : w7.frozen? ⟨p, 0, none⟩ = false := z4.fz 0; have Z1 := Lib.hid z1; have Z2 := Lib.hid z2; have Z3 := Lib.hid z3; clear z1 z2 z3 z4 hown7 hg7)
      refine bodyPost_ret (results_none rfl _ _ _) rfl ?_
      refine ⟨rfl, ?_, HBB.out.trans Z2.out, HKB.out.trans Z3.out⟩
      have hz := Z1.out
      rw [← HFS.out, HCEQ] at hz
      exact hz
end Go.Proofs.YtojeclfcgnamoaaDoor
