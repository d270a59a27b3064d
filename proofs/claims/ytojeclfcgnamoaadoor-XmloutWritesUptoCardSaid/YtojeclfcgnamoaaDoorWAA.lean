/-
  xmlout: the walks of fine, named, text; two names held against each other.
  xmlout: the walks of element, check, Check: names as a map's keys.
  xmlout: the walks of check, Check.
-/
import Derived.Test.YtojeclfcgnamoaaDoorDQ
import Derived.Test.YtojeclfcgnamoaaDoorDXE
import Derived.Laws.StructEq
import Derived.LaidEql
import Derived.Deep.RegionHeld3
import Derived.BigQuiet
import Derived.Deep.QuietTactic
import Derived.Deep.DeepCutAuto
import Derived.WideKeyArgs
import Derived.DeepKeys4
import Derived.Maps.Keyed
import Derived.Maps.Own
import Derived.Maps.OwnOps
import Derived.Maps.OwnSet
namespace Go.Proofs.YtojeclfcgnamoaaDoor
open Go.RowKit

theorem lempty (s : ByteArray) : s.toList.isEmpty = decide (s = ⟨#[]⟩) := by
  by_cases h : s = ⟨#[]⟩
  · subst h; rw [decide_eq_true rfl, Lib.toList_data]; rfl
  · rw [decide_eq_false h, Lib.toList_data]
    cases hs : s.data.toList with
    | nil => exact absurd (bytes_inj (by rw [hs])) h
    | cons => rfl
theorem lequal (a b : ByteArray) : (a.toList == b.toList) = decide (a = b) := by
  by_cases h : a = b
  · subst h; rw [decide_eq_true rfl]; simp
  · rw [decide_eq_false h, beq_eq_false_iff_ne]
    intro h2
    rw [Lib.toList_data, Lib.toList_data] at h2
    exact h (ByteArray.ext (Array.ext' h2))
/-- Are two names the same? -/
def nmEq (a b c d : ByteArray) : Bool := decide (a = c ∧ b = d)
theorem nmFields : Tryd.prog.underlying 23 = some (.struct (Tryd.prog.fieldsOf 23)) := by kernel_rfl
theorem nmStood : Tryd.prog.stoodInHeld 23 = false := by kernel_rfl
set_option maxRecDepth 100000 in
theorem nm_eqFields (n : Nat) (a b c d : ByteArray) (w : World) :
    (Op.eqFields (n + 1) #[.string a, .string b] #[.string c, .string d] (Tryd.prog.fieldsOf 23).toList).run Tryd.prog w = .ok (nmEq a b c d) w := by
  have hfs := nmFields
  rw [Tryd.underlying23] at hfs
  have e1 : ∀ (s t : ByteArray) w1, (Op.equalIn (n + 1) 9 (.string s) (.string t)).run Tryd.prog w1 = .ok (s.toList == t.toList) w1 := fun s t w1 => run_equalIn_string (P := Tryd.prog) w1 n 9 s t Tryd.underlying9
  have p0 : ∀ (x y : Value) w1, (part 9 #[x, y] 0).run Tryd.prog w1 = .ok x w1 := fun x y w1 => by kernel_rfl
  have p1 : ∀ (x y : Value) w1, (part 9 #[x, y] 1).run Tryd.prog w1 = .ok y w1 := fun x y w1 => by kernel_rfl
  unfold nmEq
  have hst := lequal a c
  have hab := lequal b d
  have hfs2 := Option.some.inj hfs
  injection hfs2 with hfs3
  rw [← hfs3]
  have hsf : a ≠ c → (a.toList == c.toList) = false := fun h => by rw [hst, decide_eq_false h]
  have haf : b ≠ d → (b.toList == d.toList) = false := fun h => by rw [hab, decide_eq_false h]
  clear hst hab hfs
  by_cases h1 : a = c
  · subst h1
    by_cases h2 : b = d
    · subst h2
      simp [Op.eqFields, Sem.run_bind, p0, p1, e1, Result.andThen_ok]
    · have := haf h2
      simp [h2, this, Op.eqFields, Sem.run_bind, p0, p1, e1, Result.andThen_ok]
  · have := hsf h1
    simp [h1, this, Op.eqFields, Sem.run_bind, p0, p1, e1, Result.andThen_ok]
theorem eql_nm (a b c d : ByteArray) (w : World) :
    (binOp .eql 23 (.agg #[.string a, .string b]) (.agg #[.string c, .string d])).run Tryd.prog w = .ok (.bool (nmEq a b c d)) w := by
  rw [run_eql_struct, show (10000 : Nat) = 9999 + 1 from rfl, run_equalIn_agg w 9999 23 _ _ nmFields nmStood, show (9999 : Nat) = 9998 + 1 from rfl, nm_eqFields]; rfl
theorem neq_nm (a b c d : ByteArray) (w : World) :
    (binOp .neq 23 (.agg #[.string a, .string b]) (.agg #[.string c, .string d])).run Tryd.prog w = .ok (.bool (!nmEq a b c d)) w := by
  rw [run_neq_struct, show (10000 : Nat) = 9999 + 1 from rfl, run_equalIn_agg w 9999 23 _ _ nmFields nmStood, show (9999 : Nat) = 9998 + 1 from rfl, nm_eqFields]; rfl

set_option maxRecDepth 100000 in
set_option maxHeartbeats 4000000 in
theorem xfine_c (s : ByteArray) (hs : s.size ≤ 1073741824) (w : World) (hE : Env w) : Calls Tryd.prog 60 #[.string s] w (RetBel (.bool (fineS s)) w) := by
  have HCK : Hid (∀ v w1, Bel w w1 → BytesAt w1 v s → Calls Tryd.prog 70 #[v] w1 fun e w' => e = .returned (.tuple #[.int .i64 (chkS s), .int .i64 (if chkS s < s.size then 4 else 0)]) ∧ Bel w1 w') := Lib.hid fun v w1 hb hv => check_c s (by omega) v w1 (hE.bel hb) hv
  unfold fineS
  by_cases h : chkS s < s.size
  · rw [if_pos h] at HCK
    rw [decide_eq_true h]
    clear h
    go_enter Tryd.func60, Tryd.ntmps60
    go_wp2_with (refine wpL_bytes rfl 9 31 5 _ rfl s rfl Tryd.underlying9 Tryd.underlying31 Tryd.underlying5 ?_; intro v W1 hv hb1)
    refine (HCK.out _ _ hb1 hv).mono ?_
    rintro e w2 ⟨rfl, hb2⟩
    go_wp2_with fail
    go_ret
    exact ⟨rfl, hb1.trans hb2⟩
  · rw [if_neg h] at HCK
    rw [decide_eq_false h]
    clear h
    go_enter Tryd.func60, Tryd.ntmps60
    go_wp2_with (refine wpL_bytes rfl 9 31 5 _ rfl s rfl Tryd.underlying9 Tryd.underlying31 Tryd.underlying5 ?_; intro v W1 hv hb1)
    refine (HCK.out _ _ hb1 hv).mono ?_
    rintro e w2 ⟨rfl, hb2⟩
    go_wp2_with fail
    go_ret
    exact ⟨rfl, hb1.trans hb2⟩

set_option maxRecDepth 100000 in
set_option maxHeartbeats 4000000 in
theorem xnamed_c (sp lo : ByteArray) (attr : Bool) (hs : sp.size ≤ 1073741824) (hl : lo.size ≤ 1073741824) (w : World) (hE : Env w) : Calls Tryd.prog 61 #[.agg #[.string sp, .string lo], .bool attr] w (RetBel (.int .i64 (namedS sp lo attr)) w) := by
  have HP := Lib.hid fun W (hb : Bel w W) => plain_c lo (by omega) W (hE.bel hb)
  have HF := Lib.hid fun W (hb : Bel w W) => xfine_c sp hs W (hE.bel hb)
  have heq := fun W => eql_nm sp lo ⟨#[]⟩ nmX W
  have hx : nmEq sp lo ⟨#[]⟩ nmX = decide (sp = ⟨#[]⟩ ∧ lo = nmX) := rfl
  rw [hx] at heq
  obtain ⟨R, hR⟩ : ∃ R, namedS sp lo attr = R := ⟨_, rfl⟩
  rw [hR]
  have HR := Lib.hid hR
  have hns : (sp.toList == [104, 116, 116, 112, 58, 47, 47, 119, 119, 119, 46, 119, 51, 46, 111, 114, 103, 47, 50, 48, 48, 48, 47, 120, 109, 108, 110, 115, 47]) = decide (sp = nsX) := by rw [← lequal sp nsX, Lib.toList_data nsX]; rfl
  unfold nmX at heq
  have b0 := Bel.alloc w (.cells #[.string sp, .string lo] 23)
  clear hR hx hE
  cases hp : plainS lo with
  | false =>
    have HX : Hid (R = 6) := Lib.hid (by rw [← HR.out]; unfold namedS; rw [if_pos hp])
    rw [hp] at HP
    clear hp heq hns HF
    go_enter Tryd.func61, Tryd.ntmps61
    go_wp2_with fail
    refine (HP.out _ b0).mono ?_
    rintro e w1 ⟨rfl, hb1⟩
    go_wp2_with fail
    go_ret
    exact ⟨by rw [HX.out]; rfl, b0.trans hb1⟩
  | true =>
    have HR2 : Hid ((if attr = true ∧ sp = ⟨#[]⟩ ∧ lo = nmX then 2 else if sp = nsX ∨ fineS sp = false then 7 else 0) = R) := Lib.hid (by rw [← HR.out]; unfold namedS; rw [hp]; simp)
    rw [hp] at HP
    obtain ⟨E, hE2⟩ : ∃ E, decide (sp = ⟨#[]⟩ ∧ lo = nmX) = E := ⟨_, rfl⟩
    obtain ⟨S, hS⟩ : ∃ S, decide (sp = nsX) = S := ⟨_, rfl⟩
    obtain ⟨F, hF⟩ : ∃ F, fineS sp = F := ⟨_, rfl⟩
    have HR3 : Hid ((if attr = true ∧ E = true then 2 else if S = true ∨ F = false then 7 else 0) = R) := Lib.hid (by rw [← HR2.out, ← hE2, ← hS, hF]; simp)
    unfold nmX at hE2
    rw [hE2] at heq
    rw [hS] at hns
    rw [hF] at HF
    clear hE2 hS hF hp HR HR2
    go_enter Tryd.func61, Tryd.ntmps61
    go_wp2_with fail
    refine (HP.out _ b0).mono ?_
    rintro e w1 ⟨rfl, hb1⟩
    have t0 := (Blk.new w 23 [.string sp, .string lo]).bel hb1
    have hb1 := b0.trans hb1
    have c0 : w1.cell? ⟨w.heap.size, 0, none⟩ = some (.string sp) := t0.at 0
    have c1 : w1.cell? ⟨w.heap.size, 1, none⟩ = some (.string lo) := t0.at 1
    clear t0 b0 HP
    cases attr <;> cases E <;> cases S
    all_goals first
      | (go_wp2_with fail; go_ret; exact ⟨by rw [← HR3.out]; rfl, hb1⟩)
      | (go_wp2_with fail; refine (HF.out _ hb1).mono ?_; rintro e w2 ⟨rfl, hb2⟩; cases F <;> (go_wp2_with fail; go_ret; exact ⟨by rw [← HR3.out]; rfl, hb1.trans hb2⟩))

set_option maxRecDepth 100000 in
set_option maxHeartbeats 8000000 in
theorem xtext_c (t : Int) (sp lo tx : ByteArray) (aa ka : Option Addr) (an ac kn kc : Nat) (hs : tx.size ≤ 1073741824) (_han : an ≤ 1073741824) (_hkn : kn ≤ 1073741824) (w : World) (hE : Env w) :
    Calls Tryd.prog 44 #[.agg #[.int .i64 t, .string sp, .string lo, .slice aa an ac, .slice ka kn kc, .string tx]] w (RetBel (.int .i64 (textS6 sp tx an kn)) w) := by
  have HF := Lib.hid fun W (hb : Bel w W) => xfine_c tx hs W (hE.bel hb)
  have b0 := Bel.alloc w (.cells #[.int .i64 t, .string sp, .string lo, .slice aa an ac, .slice ka kn kc, .string tx] 27)
  obtain ⟨R, hR⟩ : ∃ R, textS6 sp tx an kn = R := ⟨_, rfl⟩
  rw [hR]
  have htx := lempty tx
  have hsp := lempty sp
  obtain ⟨A, hA⟩ : ∃ A, decide (tx = ⟨#[]⟩) = A := ⟨_, rfl⟩
  obtain ⟨B, hB⟩ : ∃ B, decide (sp = ⟨#[]⟩) = B := ⟨_, rfl⟩
  obtain ⟨C, hC⟩ : ∃ C, decide (0 < an) = C := ⟨_, rfl⟩
  obtain ⟨D, hD⟩ : ∃ D, decide (0 < kn) = D := ⟨_, rfl⟩
  obtain ⟨F, hF⟩ : ∃ F, fineS tx = F := ⟨_, rfl⟩
  have HR : Hid ((if A = true ∨ C = true ∨ D = true ∨ B = false then 2 else if F = false then 4 else 0) = R) := Lib.hid (by rw [← hR, ← hA, ← hB, ← hC, ← hD, ← hF]; unfold textS6; simp)
  rw [hA] at htx
  rw [hB] at hsp
  rw [hF] at HF
  clear hA hB hF hR hE
  cases A
  · cases C
    · cases D
      · cases B
        · go_enter Tryd.func44, Tryd.ntmps44
          go_wp2_with fail
          go_ret
          exact ⟨by rw [← HR.out]; rfl, b0⟩
        · go_enter Tryd.func44, Tryd.ntmps44
          go_wp2_with fail
          refine (HF.out _ b0).mono ?_
          rintro e w2 ⟨rfl, hb2⟩
          cases F <;> (go_wp2_with fail; go_ret; exact ⟨by rw [← HR.out]; rfl, b0.trans hb2⟩)
      · go_enter Tryd.func44, Tryd.ntmps44
        go_wp2_with fail
        go_ret
        exact ⟨by rw [← HR.out]; cases B <;> rfl, b0⟩
    · go_enter Tryd.func44, Tryd.ntmps44
      go_wp2_with fail
      go_ret
      exact ⟨by rw [← HR.out]; cases B <;> cases D <;> rfl, b0⟩
  · go_enter Tryd.func44, Tryd.ntmps44
    go_wp2_with fail
    go_ret
    exact ⟨by rw [← HR.out]; rfl, b0⟩
end Go.Proofs.YtojeclfcgnamoaaDoor

namespace Go.Proofs.YtojeclfcgnamoaaDoor
open Go.RowKit Go.Maps

/-- A name as a map's key. -/
def keyN (a b : ByteArray) : Lit := .string (keyBytes [.string a.data.toList, .string b.data.toList])
theorem lawN : Keyed Tryd.prog 23 := Keyed.of_law (deep_law_laid (show laidOutB Tryd.prog = true by kernel_rfl) (m := 2) (by omega) (of_decide_eq_true (by kernel_rfl)) (by kernel_rfl) (by rw [Tryd.underlying23]))
theorem nm_types : ∃ n, Tryd.prog.types.size + 1 = n + 2 := ⟨_, show Tryd.prog.types.size + 1 = 153 - 1 + 2 by kernel_rfl⟩
theorem nm_lits (n : Nat) {a b : ByteArray} (ha : a.size ≤ maxLen) (hb : b.size ≤ maxLen) : Tryd.prog.keyLits (n + 2) 23 [.string a, .string b] = some [.string a.data.toList, .string b.data.toList] := by
  have e1 : ∀ (s : ByteArray), s.size ≤ maxLen → Tryd.prog.keyLits (n + 1) 9 [.string s] = some [.string s.data.toList] := fun s hs => by
    unfold Program.keyLits
    rw [Tryd.underlying9]
    simp [hs]
  have c1 : Tryd.prog.cellsOf 9 = 1 := by kernel_rfl
  have c2 : Tryd.prog.cellsOf 23 = 2 := by kernel_rfl
  unfold Program.keyLits
  rw [Tryd.underlying23]
  simp [c1, c2, e1 a ha, e1 b hb]
theorem keyN_of {a b : ByteArray} (ha : a.size ≤ maxLen) (hb : b.size ≤ maxLen) : keyOf Tryd.prog 23 (.agg #[.string a, .string b]) = some (keyN a b) := by
  obtain ⟨n, hn⟩ := nm_types
  have k1 : Tryd.prog.keyType 23 = true := by kernel_rfl
  have c2 : Tryd.prog.cellsOf 23 = 2 := by kernel_rfl
  have k2 : (Value.agg #[.string a, .string b]).formed Tryd.prog 23 = true := by simp [Value.formed, Tryd.underlying23, c2]
  unfold keyOf
  rw [Tryd.underlying23]
  dsimp only
  rw [k1, k2, hn, show (Value.agg #[.string a, .string b]).cells.toList = [.string a, .string b] from rfl, nm_lits n ha hb]
  rfl
theorem keyN_ne {a b c d : ByteArray} (ha : a.size ≤ maxLen) (hb : b.size ≤ maxLen) (hc : c.size ≤ maxLen) (hd : d.size ≤ maxLen) (h : ¬ (a = c ∧ b = d)) : keyN a b ≠ keyN c d := fun e => h (by
  have h1 := lawN.inj (keyN_of ha hb) (e ▸ keyN_of hc hd)
  injection h1 with h1
  injection h1 with h1
  injection h1 with h2 h3
  injection h2 with h2
  injection h3 with h3
  injection h3 with h3
  exact ⟨h2, h3⟩)
def trE : Value → Option (DataW Unit × List MemPlace)
  | .bool true => some (.lit (.bool true), [])
  | _ => none
/-- Which names are there. -/
def SeenD (D : DataW Unit) (F : List (ByteArray × ByteArray)) : Prop := IsMap D ∧ ∀ a b : ByteArray, a.size ≤ maxLen → b.size ≤ maxLen → Maps.has D (keyN a b) = hasN F a b
def SeenAt (W : World) (mb n : Nat) (F : List (ByteArray × ByteArray)) : Prop := (∀ x ∈ F, x.1.size ≤ maxLen ∧ x.2.size ≤ maxLen) ∧ ∃ D, W.ownsMap Tryd.prog 23 trE mb n D ∧ SeenD D F
theorem SeenAt.bel {W W' : World} {mb n : Nat} {F : List (ByteArray × ByteArray)} (h : SeenAt W mb n F) (hb : Bel W W') : SeenAt W' mb n F := by
  obtain ⟨h0, D, h1, h2⟩ := h
  exact ⟨h0, D, own_mapBel h1 hb, h2⟩
theorem SeenAt.lt {W : World} {mb n : Nat} {F : List (ByteArray × ByteArray)} (h : SeenAt W mb n F) : mb < W.heap.size := by
  obtain ⟨_, D, h1, _⟩ := h
  exact h1.lt
theorem seen_new (W : World) : SeenAt (W.alloc (.map #[] 0)) W.heap.size 0 [] := ⟨by simp, _, World.ownsMap_made W _ _ _, isMap_empty, fun _ _ _ _ => rfl⟩
theorem seen_look {W : World} {mb n : Nat} {F : List (ByteArray × ByteArray)} (h : SeenAt W mb n F) {a b : ByteArray} (ha : a.size ≤ maxLen) (hb : b.size ≤ maxLen) :
    (Instr.lookup 99 (.map (some mb)) (.agg #[.string a, .string b]) false).run Tryd.prog W = .ok (.bool (hasN F a b)) W := by
  obtain ⟨_, D, ⟨es, clock, hbk, G, _, rfl⟩, h2⟩ := h
  have hz : (zeroValue 4).run Tryd.prog W = .ok (.bool false) W := by kernel_rfl
  rw [← h2.2 a b ha hb]
  rcases Maps.fit_look false lawN Tryd.underlying99 hz hbk G (keyN_of ha hb) with ⟨hrun, _, hat⟩ | ⟨e0, y, _, _, hrun, hRv, hat, _⟩
  · rw [Maps.has_false_of_atKey hat]; exact hrun
  · rw [Maps.has_true_of_atKey hat]
    have hv : e0.val = .bool true := by
      unfold trE at hRv
      split at hRv
      · assumption
      · cases hRv
    rw [hv] at hrun
    exact hrun
theorem seen_put {W : World} {mb n : Nat} {F : List (ByteArray × ByteArray)} (h : SeenAt W mb n F) (hn : n < 1073741824) {a b : ByteArray} (ha : a.size ≤ maxLen) (hb : b.size ≤ maxLen) :
    ∃ W', (Instr.mapUpdate 99 (.map (some mb)) (.agg #[.string a, .string b]) (.bool true)).run Tryd.prog W = .ok () W' ∧ SeenAt W' mb (n + 1) (F ++ [(a, b)]) ∧ W.grownBy W' (some mb) := by
  obtain ⟨h0, D, h1, h2⟩ := h
  obtain ⟨W', hrun, hown, hg⟩ := h1.update lawN Tryd.underlying99 (by unfold maxLen; omega) (keyN_of ha hb) (d := .lit (.bool true)) (ps := []) (val := .bool true) rfl
  refine ⟨W', hrun, ⟨fun x hx => ?_, _, hown, h2.1.put _ _, fun c d hc hd => ?_⟩, hg⟩
  · rcases List.mem_append.1 hx with hx | hx
    · exact h0 x hx
    · obtain rfl := List.mem_singleton.1 hx
      exact ⟨ha, hb⟩
  · by_cases hx : c = a ∧ d = b
    · obtain ⟨rfl, rfl⟩ := hx
      rw [has_put_same h2.1 (by trivial)]
      exact ((hasN_iff _ _ _).2 (List.mem_append_right _ (List.mem_singleton.2 rfl))).symm
    · rw [has_put_other (keyN_ne hc hd ha hb hx), h2.2 c d hc hd]
      unfold hasN
      rw [List.any_append]
      have : ([(a, b)].any fun y => decide (y.1 = c) && decide (y.2 = d)) = false := by
        simp only [List.any_cons, List.any_nil, Bool.or_false, Bool.and_eq_false_iff, decide_eq_false_iff_not]
        by_cases h1 : a = c
        · exact .inr fun h3 => hx ⟨h1.symm, h3.symm⟩
        · exact .inl h1
      rw [this, Bool.or_false]

set_option maxRecDepth 100000 in
set_option maxHeartbeats 8000000 in
theorem xelem_c (t : Int) (sp lo tx : ByteArray) (al : List Atr) (aa ka : Option Addr) (an ac kn kc : Nat) (hb : sp.size + lo.size + tx.size + atrSum al ≤ 1073741824) (w : World) (hE : Env w) (han : al.length = an) (hat : AtrsAt w aa al) :
    Calls Tryd.prog 45 #[.agg #[.int .i64 t, .string sp, .string lo, .slice aa an ac, .slice ka kn kc, .string tx]] w (RetBel (.int .i64 (elemS sp lo tx al)) w) := by
  have HE := Lib.hid hE
  have HAT := Lib.hid hat
  have HAN := Lib.hid han
  have hale := atr_len al
  have han2 : an ≤ 1073741824 := by omega
  have HM := Lib.hid fun (x : Atr) (hx : x ∈ al) => atr_mem hx
  have HB := Lib.hid hb
  have HN := Lib.hid fun (attr : Bool) W (hb : Bel w W) => xnamed_c sp lo attr (by omega) (by omega) W (hE.bel hb)
  have htx := lempty tx
  obtain ⟨R, hR⟩ : ∃ R, elemS sp lo tx al = R := ⟨_, rfl⟩
  rw [hR]
  have HR := Lib.hid hR
  obtain ⟨V1, h1, q1, l1, s1⟩ := alloc_step w 27 [.int .i64 t, .string sp, .string lo, .slice aa an ac, .slice ka kn kc, .string tx]
  have c1 := q1.at 1
  have c2 := q1.at 2
  have c3 := q1.at 3
  have c5 := q1.at 5
  have L1 := Lib.hid l1
  have HV1 := Lib.hid h1
  clear h1 q1 l1 s1 hR hE hat han hale
  by_cases h0 : tx = ⟨#[]⟩
  · rw [decide_eq_true h0] at htx
    obtain ⟨k, hk⟩ : ∃ k, namedS sp lo false = k := ⟨_, rfl⟩
    have HR2 : Hid ((if k ≠ 0 then k else attrsS [] al) = R) := Lib.hid (by rw [← HR.out, ← hk]; unfold elemS; rw [if_neg (c := tx ≠ ⟨#[]⟩) fun e => e h0])
    have HN2 := Lib.hid fun W hW => HN.out false W hW
    rw [hk] at HN2
    clear hk HR h0
    go_enter Tryd.func45, Tryd.ntmps45
    go_upto_region 1 with fail
    rw [show w.alloc (.cells #[.int .i64 t, .string sp, .string lo, .slice aa an ac, .slice ka kn kc, .string tx] 27) = V1 from HV1.out]
    clear HV1
    go_wp2_with fail
    refine (HN2.out _ L1.out).mono ?_
    rintro e1 w1 ⟨rfl, hb1⟩
    have HB1 := Lib.hid (L1.out.trans hb1)
    have c3 := hb1.keep c3
    clear hb1 c1 c2 c5
    by_cases hk : k = 0
    · subst hk
      have HR3 : Hid (attrsS [] al = R) := Lib.hid (by rw [← HR2.out]; rfl)
      have hmm := @run_makeMap Tryd.prog
      obtain ⟨V2, hV2⟩ : ∃ V, w1.alloc (.map #[] 0) = V := ⟨_, rfl⟩
      have hb2 : Bel w1 V2 := by rw [← hV2]; exact Bel.alloc _ _
      have hse : SeenAt V2 w1.heap.size 0 [] := by rw [← hV2]; exact seen_new w1
      have HV2 := Lib.hid hV2
      have HSE := Lib.hid hse
      have HB2 := Lib.hid (HB1.out.trans hb2)
      have d3 := hb2.keep c3
      obtain ⟨mb, hmb⟩ : ∃ m, w1.heap.size = m := ⟨_, rfl⟩
      have hwm : w.heap.size ≤ mb := by have := HB1.out.size; omega
      rw [hmb] at HSE
      have HMB := Lib.hid hmb
      clear HR2 hV2 hb2 hse c3 HB1 hmb
      go_upto_region 7 with fail
      rw [show w1.alloc (.map #[] 0) = V2 from HV2.out, HMB.out]
      clear HV2 HMB
      go_wp2_with fail
      go_loopw [21] (fun i wr => ∃ j : Nat, i = .int .i64 j ∧ j ≤ an ∧ Hid (SeenAt wr mb j ((al.take j).map nmA)) ∧ Hid (attrsS ((al.take j).map nmA) (al.drop j) = R) ∧ Hid (Bel w wr)) (fun i _ => an - (intOf i).toNat)
      case atStart => exact ⟨0, rfl, Nat.zero_le _, HSE, Lib.hid (by rw [List.drop_zero]; exact HR3.out), HB2⟩
      case round =>
        obtain ⟨j, rfl, hj, HSJ, HRJ, HBJ⟩ := hrel
        by_cases hlt : j < an
        · have hlti : (j : Int) < an := by omega
          obtain ⟨x, hx⟩ : ∃ x, al[j]? = some x := ⟨_, List.getElem?_eq_getElem (by have := HAN.out; omega)⟩
          obtain ⟨b, off, rfl, g0, g1, g2⟩ := HAT.out j x hx
          have f0 := HBJ.out.keep g0
          have f1 := HBJ.out.keep g1
          have f2 := HBJ.out.keep g2
          have hxm := HM.out x (List.mem_of_getElem? hx)
          have hbb := HB.out
          have htk : (al.take (j + 1)).map nmA = (al.take j).map nmA ++ [(x.1, x.2.1)] := by rw [List.take_add_one, hx, List.map_append]; rfl
          have hdr : attrsS ((al.take j).map nmA) (al.drop j) = if namedS x.1 x.2.1 true ≠ 0 then namedS x.1 x.2.1 true else if hasN ((al.take j).map nmA) x.1 x.2.1 = true then 8 else if fineS x.2.2 = false then 4 else attrsS ((al.take (j + 1)).map nmA) (al.drop (j + 1)) := by
            rw [htk, List.drop_eq_getElem_cons (by have := HAN.out; omega), (List.getElem?_eq_some_iff.1 hx).2, attrsS]
          rw [hdr] at HRJ
          have hsz1 : x.1.size ≤ maxLen := by unfold maxLen; omega
          have hsz2 : x.2.1.size ≤ maxLen := by unfold maxLen; omega
          have HSL : Hid (∀ W, Bel wr W → (Instr.lookup 99 (.map (some mb)) (.agg #[.string x.1, .string x.2.1]) false).run Tryd.prog W = .ok (.bool (hasN ((al.take j).map nmA) x.1 x.2.1)) W) := Lib.hid fun W hW => seen_look (HSJ.out.bel hW) hsz1 hsz2
          have HSP : Hid (∀ W, Bel wr W → ∃ W', (Instr.mapUpdate 99 (.map (some mb)) (.agg #[.string x.1, .string x.2.1]) (.bool true)).run Tryd.prog W = .ok () W' ∧ SeenAt W' mb (j + 1) ((al.take (j + 1)).map nmA) ∧ W.grownBy W' (some mb)) := Lib.hid fun W hW => by rw [htk]; exact seen_put (HSJ.out.bel hW) (by omega) hsz1 hsz2
          have HN3 := Lib.hid fun W (hW : Bel w W) => xnamed_c x.1 x.2.1 true (by omega) (by omega) W (HE.out.bel hW)
          have HF3 := Lib.hid fun W (hW : Bel w W) => xfine_c x.2.2 (by omega) W (HE.out.bel hW)
          obtain ⟨xa, xb, xc⟩ := x
          dsimp only at f0 f1 f2 HSL HSP HN3 HF3 HRJ
          obtain ⟨N, hN⟩ : ∃ N, namedS xa xb true = N := ⟨_, rfl⟩
          obtain ⟨H, hH⟩ : ∃ H, hasN ((al.take j).map nmA) xa xb = H := ⟨_, rfl⟩
          obtain ⟨F, hF⟩ : ∃ F, fineS xc = F := ⟨_, rfl⟩
          rw [hN] at HN3 HRJ
          rw [hH] at HSL HRJ
          rw [hF] at HF3 HRJ
          obtain ⟨V3, h3, q3, l3, s3⟩ := alloc_step wr 63 [.string xa, .string xb, .string xc]
          have e0 : V3.cell? ⟨wr.heap.size, 0, none⟩ = some (.string xa) := q3.at 0
          have e1 : V3.cell? ⟨wr.heap.size, 1, none⟩ = some (.string xb) := q3.at 1
          have HQ3 := Lib.hid q3
          have HV3 := Lib.hid h3
          have L3 := Lib.hid l3
          clear g0 g1 g2 hx hxm hbb htk hdr hsz1 hsz2 hN hH hF h3 q3 l3 s3
          go_upto_region 10 with fail
          rw [show wr.alloc (.cells #[.string xa, .string xb, .string xc] 63) = V3 from HV3.out]
          clear HV3
          go_wp2_with fail
          refine (HN3.out _ (HBJ.out.trans L3.out)).mono ?_
          rintro e4 w4 ⟨rfl, hb4⟩
          have HB4 := Lib.hid hb4
          have HBW4 := Lib.hid ((HBJ.out.trans L3.out).trans hb4)
          by_cases hk : N = 0
          · subst hk
            have p0 : w4.cell? ⟨wr.heap.size, 0, none⟩ = some (.string xa) := hb4.keep e0
            have p1 : w4.cell? ⟨wr.heap.size, 1, none⟩ = some (.string xb) := hb4.keep e1
            have hlk := HSL.out w4 (L3.out.trans hb4)
            clear e0 e1 f0 f1 f2 hb4
            cases H
            · obtain ⟨w5, hup, hs5, hg5⟩ := HSP.out w4 (L3.out.trans HB4.out)
              have hmbw : mb < wr.heap.size := HSJ.out.lt
              have q5 : w5.cell? ⟨wr.heap.size, 2, none⟩ = some (.string xc) := by
                have hq4 := HQ3.out.bel HB4.out
                have : Blk w5 wr.heap.size 63 [.string xa, .string xb, .string xc] := (hg5.block _ hq4.lt (fun e => by injection e with e; omega)).trans hq4
                exact this.at 2
              have HB5 : Hid (Bel w w5) := Lib.hid (Below.grown HBW4.out hg5 HBW4.out.size (fun k e => by cases e; exact hwm))
              have HS5 := Lib.hid hs5
              clear hs5 hg5 hmbw HSL HSP HQ3 HB4 HBW4 L3
              go_wp2_with fail
              refine (HF3.out _ HB5.out).mono ?_
              rintro e6 w6 ⟨rfl, hb6⟩
              cases F
              · have HX : Hid (4 = R) := Lib.hid HRJ.out
                clear HRJ
                go_wp2_with fail
                go_ret
                exact ⟨ret_int (by rw [← HX.out]; rfl), HB5.out.trans hb6⟩
              · have HX : Hid (attrsS ((al.take (j + 1)).map nmA) (al.drop (j + 1)) = R) := Lib.hid HRJ.out
                have HS6 := Lib.hid (HS5.out.bel hb6)
                have HB6 := Lib.hid (HB5.out.trans hb6)
                clear HRJ hb6
                go_wp2_with fail
                exact ⟨⟨j + 1, by go_num, by omega, HS6, HX, HB6⟩, by simp [intOf]; omega⟩
            · have HX : Hid (8 = R) := Lib.hid HRJ.out
              clear HRJ
              go_wp2_with fail
              go_ret
              exact ⟨ret_int (by rw [← HX.out]; rfl), HBW4.out⟩
          · have hk2 : ((N : Int) == 0) = false := by simpa using hk
            have hk3 : ((N : Int) != 0) = true := by simpa using hk
            have HX : Hid (N = R) := Lib.hid (by have := HRJ.out; rwa [if_pos hk] at this)
            clear hk HRJ
            go_wp2_with fail
            go_ret
            exact ⟨ret_int (by rw [HX.out]), HBW4.out⟩
        · have hlti : ¬ ((j : Int) < an) := by omega
          have HX : Hid (0 = R) := Lib.hid (by have := HRJ.out; rwa [List.drop_eq_nil_of_le (by have := HAN.out; omega), attrsS] at this)
          clear HRJ
          go_wp2_with fail
          go_ret
          exact ⟨ret_int (by rw [← HX.out]; rfl), HBJ.out⟩
    · have hk2 : ((k : Int) == 0) = false := by simpa using hk
      have hk3 : ((k : Int) != 0) = true := by simpa using hk
      have HR3 : Hid (k = R) := Lib.hid (by rw [← HR2.out, if_pos hk])
      clear hk
      go_wp2_with fail
      go_ret
      exact ⟨ret_int (by rw [HR3.out]), HB1.out⟩
  · rw [decide_eq_false h0] at htx
    have HX : Hid (2 = R) := Lib.hid (by rw [← HR.out]; unfold elemS; rw [if_pos h0])
    clear h0
    go_enter Tryd.func45, Tryd.ntmps45
    go_upto_region 1 with fail
    rw [show w.alloc (.cells #[.int .i64 t, .string sp, .string lo, .slice aa an ac, .slice ka kn kc, .string tx] 27) = V1 from HV1.out]
    clear HV1
    go_wp2_with fail
    go_ret
    exact ⟨by rw [← HX.out]; rfl, L1.out⟩
end Go.Proofs.YtojeclfcgnamoaaDoor

namespace Go.Proofs.YtojeclfcgnamoaaDoor
open Go.RowKit

theorem kid_tail {e x : Nd} {i : Nat} (h : e.ks[i]? = some x) : e.ks.drop i = x :: e.ks.drop (i + 1) := by
  obtain ⟨hi, rfl⟩ := List.getElem?_eq_some_iff.1 h
  exact List.drop_eq_getElem_cons hi
set_option maxRecDepth 100000 in
set_option maxHeartbeats 8000000 in
theorem xchkF_c (f : Nat) (ih : ∀ (e : Nd), e.bulk ≤ f → ∀ va vk w (deep : Nat) (may : Bool), deep ≤ 201 → Env w → NdAt w e va vk → Calls Tryd.prog 22 #[ndV e va vk, .int .i64 deep, .bool may] w (RetBel (.int .i64 (chkN e deep may)) w))
    (e : Nd) (hf : e.bulk ≤ f + 1) (hbk : f ≤ 1000000) (va vk : Value) (w : World) (deep : Nat) (may : Bool) (hdp : deep ≤ 201) (hE : Env w) (h : NdAt w e va vk) :
    Calls Tryd.prog 22 #[ndV e va vk, .int .i64 deep, .bool may] w (RetBel (.int .i64 (chkN e deep may)) w) := by
  obtain ⟨aa, ka, an, ac, kn, kc, rfl, rfl, han, hkn, hac, hkc, hab, hkb, hatr, hkid⟩ := h.opened
  have hbe := nd_bulk e
  have HX : Hid (∀ x : Nd, x ∈ e.ks → ∀ xa xk W (b : Bool), deep ≤ 200 → Bel w W → NdAt W x xa xk → Calls Tryd.prog 22 #[ndV x xa xk, .int .i64 (deep + 1 : Nat), .bool b] W (RetBel (.int .i64 (chkN x (deep + 1) b)) W)) := Lib.hid fun x hx xa xk W b hd2 hW hN => ih x (by have := nbulks_mem hx; omega) xa xk W (deep + 1) b (by omega) (hE.bel hW) hN
  have HKN := Lib.hid hkn
  have HKI := Lib.hid hkid
  have HTX := Lib.hid fun W (hW : Bel w W) => xtext_c e.t e.sp e.lo e.tx aa ka an ac kn kc (by omega) (by omega) (by omega) W (hE.bel hW)
  have HEL := Lib.hid fun W (hW : Bel w W) => xelem_c e.t e.sp e.lo e.tx e.al aa ka an ac kn kc (by omega) W (hE.bel hW) han (fun j x hx => by obtain ⟨b, off, h0, h1, h2, h3⟩ := hatr j x hx; exact ⟨b, off, h0, hW.keep h1, hW.keep h2, hW.keep h3⟩)
  have hck := chkN_eq e deep may
  rw [han, hkn] at hck
  obtain ⟨R, hR⟩ : ∃ R, chkN e deep may = R := ⟨_, rfl⟩
  rw [hR] at hck ⊢
  have HCK := Lib.hid hck
  have hkn2 : kn ≤ 1000001 := by omega
  have hlo := lempty e.lo
  obtain ⟨KS, hKS⟩ : ∃ k, e.ks = k := ⟨_, rfl⟩
  rw [hKS] at HKN HKI HX
  unfold ndV
  obtain ⟨t, ht⟩ : ∃ t, e.t = t := ⟨_, rfl⟩
  obtain ⟨sp, hsp⟩ : ∃ t, e.sp = t := ⟨_, rfl⟩
  obtain ⟨lo, hlo2⟩ : ∃ t, e.lo = t := ⟨_, rfl⟩
  obtain ⟨tx, htx⟩ : ∃ t, e.tx = t := ⟨_, rfl⟩
  obtain ⟨TS, hTS⟩ : ∃ k, textS6 sp tx an kn = k := ⟨_, rfl⟩
  obtain ⟨ES, hES⟩ : ∃ k, elemS sp lo tx e.al = k := ⟨_, rfl⟩
  rw [ht, hsp, hlo2, htx] at HTX HEL
  rw [hsp, hlo2, htx, hKS, hTS, hES] at HCK
  rw [hTS] at HTX
  rw [hES] at HEL
  rw [hlo2] at hlo
  rw [ht, hsp, hlo2, htx]
  obtain ⟨V1, h1, q1, l1, s1⟩ := alloc_step w 27 [.int .i64 t, .string sp, .string lo, .slice aa an ac, .slice ka kn kc, .string tx]
  have c0 := q1.at 0
  have c1 := q1.at 1
  have c2 := q1.at 2
  have c3 := q1.at 3
  have c4 := q1.at 4
  have c5 := q1.at 5
  have L1 := Lib.hid l1
  have HV1 := Lib.hid h1
  have hbn : w.heap.size < V1.heap.size := by omega
  clear h1 q1 l1 s1 hR hck hE hatr hkid han hkn hac hkc hab hkb ht hsp hlo2 htx hTS hES hKS h ih hf hbe hbk
  by_cases hlo0 : lo = ⟨#[]⟩
  · rw [decide_eq_true hlo0] at hlo
    have HC2 : Hid ((if may = false then 2 else TS) = R) := Lib.hid (by rw [HCK.out, if_neg (c := 200 < deep ∧ lo ≠ ⟨#[]⟩) (fun e => e.2 hlo0), if_pos hlo0])
    clear HCK hlo0 HX HKI HEL
    cases may
    · by_cases hd : 200 < deep
      · go_enter Tryd.func22, Tryd.ntmps22
        go_upto_region 1 with fail
        rw [show w.alloc (.cells #[.int .i64 t, .string sp, .string lo, .slice aa an ac, .slice ka kn kc, .string tx] 27) = V1 from HV1.out]
        clear HV1
        go_wp2_with fail
        go_ret
        exact ⟨ret_int (by rw [← HC2.out]; rfl), L1.out⟩
      · go_enter Tryd.func22, Tryd.ntmps22
        go_upto_region 1 with fail
        rw [show w.alloc (.cells #[.int .i64 t, .string sp, .string lo, .slice aa an ac, .slice ka kn kc, .string tx] 27) = V1 from HV1.out]
        clear HV1
        go_wp2_with fail
        go_ret
        exact ⟨ret_int (by rw [← HC2.out]; rfl), L1.out⟩
    · by_cases hd : 200 < deep
      · go_enter Tryd.func22, Tryd.ntmps22
        go_upto_region 1 with fail
        rw [show w.alloc (.cells #[.int .i64 t, .string sp, .string lo, .slice aa an ac, .slice ka kn kc, .string tx] 27) = V1 from HV1.out]
        clear HV1
        go_wp2_with fail
        refine (HTX.out _ L1.out).mono ?_
        rintro e1 w1 ⟨rfl, hb1⟩
        go_wp2_with fail
        go_ret
        exact ⟨ret_int (by rw [← HC2.out]; rfl), L1.out.trans hb1⟩
      · go_enter Tryd.func22, Tryd.ntmps22
        go_upto_region 1 with fail
        rw [show w.alloc (.cells #[.int .i64 t, .string sp, .string lo, .slice aa an ac, .slice ka kn kc, .string tx] 27) = V1 from HV1.out]
        clear HV1
        go_wp2_with fail
        refine (HTX.out _ L1.out).mono ?_
        rintro e1 w1 ⟨rfl, hb1⟩
        go_wp2_with fail
        go_ret
        exact ⟨ret_int (by rw [← HC2.out]; rfl), L1.out.trans hb1⟩
  · rw [decide_eq_false hlo0] at hlo
    clear HTX
    by_cases hd : 200 < deep
    · have HC2 : Hid (9 = R) := Lib.hid (by rw [HCK.out, if_pos ⟨hd, hlo0⟩])
      clear HCK hlo0 HX HKI HEL
      go_enter Tryd.func22, Tryd.ntmps22
      go_upto_region 1 with fail
      rw [show w.alloc (.cells #[.int .i64 t, .string sp, .string lo, .slice aa an ac, .slice ka kn kc, .string tx] 27) = V1 from HV1.out]
      clear HV1
      go_wp2_with fail
      go_ret
      exact ⟨ret_int (by rw [← HC2.out]; rfl), L1.out⟩
    · have HC2 : Hid ((if ES ≠ 0 then ES else chksN KS (deep + 1) true) = R) := Lib.hid (by rw [HCK.out, if_neg (c := 200 < deep ∧ lo ≠ ⟨#[]⟩) (fun e => hd e.1), if_neg hlo0])
      clear HCK hlo0
      go_enter Tryd.func22, Tryd.ntmps22
      go_upto_region 1 with fail
      rw [show w.alloc (.cells #[.int .i64 t, .string sp, .string lo, .slice aa an ac, .slice ka kn kc, .string tx] 27) = V1 from HV1.out]
      clear HV1
      go_wp2_with fail
      refine (HEL.out _ L1.out).mono ?_
      rintro e1 w1 ⟨rfl, hb1⟩
      have HB1 := Lib.hid (L1.out.trans hb1)
      have d4 := hb1.keep c4
      clear hb1 c0 c1 c2 c3 c4 c5 HEL
      by_cases hk : ES = 0
      · subst hk
        have HC3 : Hid (chksN KS (deep + 1) true = R) := Lib.hid (by rw [← HC2.out]; rfl)
        clear HC2
        go_wp2_with fail
        go_loopw [2, 44] (fun m i wr => ∃ (j : Nat) (b : Bool), m = .bool b ∧ i = .int .i64 j ∧ j ≤ kn ∧ Hid (chksN (KS.drop j) (deep + 1) b = R) ∧ Hid (Bel w wr)) (fun _ i _ => kn - (intOf i).toNat)
        case atStart => exact ⟨0, true, rfl, rfl, Nat.zero_le _, HC3, HB1⟩
        case round =>
          obtain ⟨j, b, rfl, rfl, hj, HRJ, HBJ⟩ := hrel
          by_cases hlt : j < kn
          · have hlti : (j : Int) < kn := by omega
            obtain ⟨x, hx⟩ : ∃ x, KS[j]? = some x := ⟨_, List.getElem?_eq_getElem (by have := HKN.out; omega)⟩
            obtain ⟨bb, off, xaa, xan, xac, xka, xkn, xkc, rfl, g0, g1, g2, g3, g4, g5, hxn⟩ := HKI.out j x hx
            have f0 := HBJ.out.keep g0
            have f1 := HBJ.out.keep g1
            have f2 := HBJ.out.keep g2
            have f3 := HBJ.out.keep g3
            have f4 := HBJ.out.keep g4
            have f5 := HBJ.out.keep g5
            have hdr : chksN (KS.drop j) (deep + 1) b = if chkN x (deep + 1) b ≠ 0 then chkN x (deep + 1) b else chksN (KS.drop (j + 1)) (deep + 1) (!decide (x.lo = ⟨#[]⟩)) := by
              rw [List.drop_eq_getElem_cons (by have := HKN.out; omega), (List.getElem?_eq_some_iff.1 hx).2, chksN_cons]
              simp
            rw [hdr] at HRJ
            have HC := Lib.hid fun W (hW : Bel w W) => HX.out x (List.mem_of_getElem? hx) _ _ W b (by omega) hW (NdAt.bel hW x hxn)
            unfold ndV at HC
            have hxl := lempty x.lo
            obtain ⟨N, hN⟩ : ∃ N, chkN x (deep + 1) b = N := ⟨_, rfl⟩
            obtain ⟨Lx, hLx⟩ : ∃ N, decide (x.lo = ⟨#[]⟩) = N := ⟨_, rfl⟩
            rw [hN] at HC HRJ
            rw [hLx] at hxl HRJ
            obtain ⟨xt, hxt⟩ : ∃ t, x.t = t := ⟨_, rfl⟩
            obtain ⟨xsp, hxsp⟩ : ∃ t, x.sp = t := ⟨_, rfl⟩
            obtain ⟨xlo, hxlo⟩ : ∃ t, x.lo = t := ⟨_, rfl⟩
            obtain ⟨xtx, hxtx⟩ : ∃ t, x.tx = t := ⟨_, rfl⟩
            rw [hxt, hxsp, hxlo, hxtx] at HC
            rw [hxt] at f0
            rw [hxsp] at f1
            rw [hxlo] at f2 hxl
            rw [hxtx] at f5
            obtain ⟨V3, h3, q3, l3, s3⟩ := alloc_step wr 27 [.int .i64 xt, .string xsp, .string xlo, .slice xaa xan xac, .slice xka xkn xkc, .string xtx]
            have e0 := q3.at 0
            have e1 := q3.at 1
            have e2 := q3.at 2
            have e3 := q3.at 3
            have e4 := q3.at 4
            have e5 := q3.at 5
            have HV3 := Lib.hid h3
            have L3 := Lib.hid (HBJ.out.trans l3)
            clear g0 g1 g2 g3 g4 g5 hx hxn hdr hN hLx hxt hxsp hxlo hxtx h3 q3 l3 s3
            go_upto_region 14 with fail
            rw [show wr.alloc (.cells #[.int .i64 xt, .string xsp, .string xlo, .slice xaa xan xac, .slice xka xkn xkc, .string xtx] 27) = V3 from HV3.out]
            clear HV3
            go_wp2_with fail
            refine (HC.out _ L3.out).mono ?_
            rintro e6 w6 ⟨rfl, hb6⟩
            have p2 := hb6.keep e2
            have HB6 := Lib.hid (L3.out.trans hb6)
            clear hb6 e0 e1 e2 e3 e4 e5 f0 f1 f2 f3 f4 f5 HC
            by_cases hk : N = 0
            · subst hk
              have HR4 : Hid (chksN (KS.drop (j + 1)) (deep + 1) (!Lx) = R) := Lib.hid (by rw [← HRJ.out]; rfl)
              clear HRJ
              go_wp2_with fail
              exact ⟨⟨j + 1, !Lx, rfl, by go_num, by omega, HR4, HB6⟩, by simp [intOf]; omega⟩
            · have hk2 : ((N : Int) == 0) = false := by simpa using hk
              have hk3 : ((N : Int) != 0) = true := by simpa using hk
              have HR4 : Hid (N = R) := Lib.hid (by have := HRJ.out; rwa [if_pos hk] at this)
              clear hk HRJ
              go_wp2_with fail
              go_ret
              exact ⟨ret_int (by rw [HR4.out]), HB6.out⟩
          · have hlti : ¬ ((j : Int) < kn) := by omega
            have HR4 : Hid (0 = R) := Lib.hid (by have := HRJ.out; rwa [List.drop_eq_nil_of_le (by have := HKN.out; omega), chksN_nil] at this)
            clear HRJ
            go_wp2_with fail
            go_ret
            exact ⟨ret_int (by rw [← HR4.out]; rfl), HBJ.out⟩
      · have hk2 : ((ES : Int) == 0) = false := by simpa using hk
        have hk3 : ((ES : Int) != 0) = true := by simpa using hk
        have HR4 : Hid (ES = R) := Lib.hid (by rw [← HC2.out, if_pos hk])
        clear hk HC2
        go_wp2_with fail
        go_ret
        exact ⟨ret_int (by rw [HR4.out]), HB1.out⟩
theorem xchk_c : ∀ (f : Nat) (e : Nd), e.bulk ≤ f → f ≤ 1000000 → ∀ va vk w (deep : Nat) (may : Bool), deep ≤ 201 → Env w → NdAt w e va vk → Calls Tryd.prog 22 #[ndV e va vk, .int .i64 deep, .bool may] w (RetBel (.int .i64 (chkN e deep may)) w) := by
  intro f
  induction f with
  | zero => intro e he; have := nd_pos e; omega
  | succ f ih => exact fun e he hf va vk w deep may hd hE h => xchkF_c f (fun e' he' va' vk' w' d' m' hd' hE' h' => ih e' he' (by omega) va' vk' w' d' m' hd' hE' h') e he (by omega) va vk w deep may hd hE h
set_option maxRecDepth 100000 in
set_option maxHeartbeats 4000000 in
theorem xCheck_c (e : Nd) (va vk : Value) (w : World) (he : e.bulk ≤ 1000000) (hE : Env w) (h : NdAt w e va vk) : Calls Tryd.prog 10 #[ndV e va vk] w (RetBel (.int .i64 (CheckN e)) w) := by
  have HC := Lib.hid fun W (hW : Bel w W) => xchk_c e.bulk e (Nat.le_refl _) he va vk W 1 false (by omega) (hE.bel hW) (NdAt.bel hW e h)
  obtain ⟨aa, ka, an, ac, kn, kc, rfl, rfl, _⟩ := h.opened
  unfold CheckN
  obtain ⟨R, hR⟩ : ∃ R, chkN e 1 false = R := ⟨_, rfl⟩
  rw [hR] at HC ⊢
  unfold ndV at HC ⊢
  obtain ⟨V1, h1, q1, l1, s1⟩ := alloc_step w 27 [.int .i64 e.t, .string e.sp, .string e.lo, .slice aa an ac, .slice ka kn kc, .string e.tx]
  have c0 := q1.at 0
  have c1 := q1.at 1
  have c2 := q1.at 2
  have c3 := q1.at 3
  have c4 := q1.at 4
  have c5 := q1.at 5
  have L1 := Lib.hid l1
  have HV1 := Lib.hid h1
  clear h1 q1 l1 s1 hR h hE
  go_enter Tryd.func10, Tryd.ntmps10
  go_upto_region 1 with fail
  rw [show w.alloc (.cells #[.int .i64 e.t, .string e.sp, .string e.lo, .slice aa an ac, .slice ka kn kc, .string e.tx] 27) = V1 from HV1.out]
  clear HV1
  go_wp2_with fail
  refine (HC.out _ L1.out).mono ?_
  rintro e1 w1 ⟨rfl, hb1⟩
  go_wp2_with fail
  go_ret
  exact ⟨rfl, L1.out.trans hb1⟩
end Go.Proofs.YtojeclfcgnamoaaDoor
