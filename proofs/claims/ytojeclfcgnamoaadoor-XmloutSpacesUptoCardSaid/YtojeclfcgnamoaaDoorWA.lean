/-
  xmlout: the walks of fine, named, text; two names held against each other.
-/
import Derived.Test.YtojeclfcgnamoaaDoorDI
import Derived.Test.YtojeclfcgnamoaaDoorDX
import Derived.Laws.StructEq
import Derived.LaidEql
import Derived.Deep.RegionHeld3
import Derived.BigQuiet
import Derived.Deep.QuietTactic
import Derived.Deep.DeepCutAuto
namespace Go.Proofs.YtojeclfcgnamoaaDoor
open Go.RowKit

theorem lempty (s : ByteArray) : s.toList.isEmpty = decide (s = ⟨#[]⟩) := by
  by_cases h : s = ⟨#[]⟩
  · subst h; rw [decide_eq_true rfl, Lib.toList_data]; rfl
  · rw [decide_eq_false h, Lib.toList_data]
    cases hs : s.data.toList with
    | nil => exact absurd (bytes_inj (by rw [hs])) h
    | cons => rfl
theorem lequal (a b : ByteArray) : (a.toList == b.toList) = decide (a = b) := by
  by_cases h : a = b
  · subst h; rw [decide_eq_true rfl]; simp
  · rw [decide_eq_false h, beq_eq_false_iff_ne]
    intro h2
    rw [Lib.toList_data, Lib.toList_data] at h2
    exact h (ByteArray.ext (Array.ext' h2))
/-- Are two names the same? -/
def nmEq (a b c d : ByteArray) : Bool := decide (a = c ∧ b = d)
theorem nmFields : Tryd.prog.underlying 23 = some (.struct (Tryd.prog.fieldsOf 23)) := by kernel_rfl
theorem nmStood : Tryd.prog.stoodInHeld 23 = false := by kernel_rfl
set_option maxRecDepth 100000 in
theorem nm_eqFields (n : Nat) (a b c d : ByteArray) (w : World) :
    (Op.eqFields (n + 1) #[.string a, .string b] #[.string c, .string d] (Tryd.prog.fieldsOf 23).toList).run Tryd.prog w = .ok (nmEq a b c d) w := by
  have hfs := nmFields
  rw [Tryd.underlying23] at hfs
  have e1 : ∀ (s t : ByteArray) w1, (Op.equalIn (n + 1) 9 (.string s) (.string t)).run Tryd.prog w1 = .ok (s.toList == t.toList) w1 := fun s t w1 => run_equalIn_string (P := Tryd.prog) w1 n 9 s t Tryd.underlying9
  have p0 : ∀ (x y : Value) w1, (part 9 #[x, y] 0).run Tryd.prog w1 = .ok x w1 := fun x y w1 => by kernel_rfl
  have p1 : ∀ (x y : Value) w1, (part 9 #[x, y] 1).run Tryd.prog w1 = .ok y w1 := fun x y w1 => by kernel_rfl
  unfold nmEq
  have hst := lequal a c
  have hab := lequal b d
  have hfs2 := Option.some.inj hfs
  injection hfs2 with hfs3
  rw [← hfs3]
  have hsf : a ≠ c → (a.toList == c.toList) = false := fun h => by rw [hst, decide_eq_false h]
  have haf : b ≠ d → (b.toList == d.toList) = false := fun h => by rw [hab, decide_eq_false h]
  clear hst hab hfs
  by_cases h1 : a = c
  · subst h1
    by_cases h2 : b = d
    · subst h2
      simp [Op.eqFields, Sem.run_bind, p0, p1, e1, Result.andThen_ok]
    · have := haf h2
      simp [h2, this, Op.eqFields, Sem.run_bind, p0, p1, e1, Result.andThen_ok]
  · have := hsf h1
    simp [h1, this, Op.eqFields, Sem.run_bind, p0, p1, e1, Result.andThen_ok]
theorem eql_nm (a b c d : ByteArray) (w : World) :
    (binOp .eql 23 (.agg #[.string a, .string b]) (.agg #[.string c, .string d])).run Tryd.prog w = .ok (.bool (nmEq a b c d)) w := by
  rw [run_eql_struct, show (10000 : Nat) = 9999 + 1 from rfl, run_equalIn_agg w 9999 23 _ _ nmFields nmStood, show (9999 : Nat) = 9998 + 1 from rfl, nm_eqFields]; rfl
theorem neq_nm (a b c d : ByteArray) (w : World) :
    (binOp .neq 23 (.agg #[.string a, .string b]) (.agg #[.string c, .string d])).run Tryd.prog w = .ok (.bool (!nmEq a b c d)) w := by
  rw [run_neq_struct, show (10000 : Nat) = 9999 + 1 from rfl, run_equalIn_agg w 9999 23 _ _ nmFields nmStood, show (9999 : Nat) = 9998 + 1 from rfl, nm_eqFields]; rfl

set_option maxRecDepth 100000 in
set_option maxHeartbeats 4000000 in
theorem xfine_c (s : ByteArray) (hs : s.size ≤ 1073741824) (w : World) (hE : Env w) : Calls Tryd.prog 60 #[.string s] w (RetBel (.bool (fineS s)) w) := by
  have HCK : Hid (∀ v w1, Bel w w1 → BytesAt w1 v s → Calls Tryd.prog 70 #[v] w1 fun e w' => e = .returned (.tuple #[.int .i64 (chkS s), .int .i64 (if chkS s < s.size then 4 else 0)]) ∧ Bel w1 w') := Lib.hid fun v w1 hb hv => check_c s (by omega) v w1 (hE.bel hb) hv
  unfold fineS
  by_cases h : chkS s < s.size
  · rw [if_pos h] at HCK
    rw [decide_eq_true h]
    clear h
    go_enter Tryd.func60, Tryd.ntmps60
    go_wp2_with (refine wpL_bytes rfl 9 31 5 _ rfl s rfl Tryd.underlying9 Tryd.underlying31 Tryd.underlying5 ?_; intro v W1 hv hb1)
    refine (HCK.out _ _ hb1 hv).mono ?_
    rintro e w2 ⟨rfl, hb2⟩
    go_wp2_with fail
    go_ret
    exact ⟨rfl, hb1.trans hb2⟩
  · rw [if_neg h] at HCK
    rw [decide_eq_false h]
    clear h
    go_enter Tryd.func60, Tryd.ntmps60
    go_wp2_with (refine wpL_bytes rfl 9 31 5 _ rfl s rfl Tryd.underlying9 Tryd.underlying31 Tryd.underlying5 ?_; intro v W1 hv hb1)
    refine (HCK.out _ _ hb1 hv).mono ?_
    rintro e w2 ⟨rfl, hb2⟩
    go_wp2_with fail
    go_ret
    exact ⟨rfl, hb1.trans hb2⟩

set_option maxRecDepth 100000 in
set_option maxHeartbeats 4000000 in
theorem xnamed_c (sp lo : ByteArray) (attr : Bool) (hs : sp.size ≤ 1073741824) (hl : lo.size ≤ 1073741824) (w : World) (hE : Env w) : Calls Tryd.prog 61 #[.agg #[.string sp, .string lo], .bool attr] w (RetBel (.int .i64 (namedS sp lo attr)) w) := by
  have HP := Lib.hid fun W (hb : Bel w W) => plain_c lo (by omega) W (hE.bel hb)
  have HF := Lib.hid fun W (hb : Bel w W) => xfine_c sp hs W (hE.bel hb)
  have heq := fun W => eql_nm sp lo ⟨#[]⟩ nmX W
  have hx : nmEq sp lo ⟨#[]⟩ nmX = decide (sp = ⟨#[]⟩ ∧ lo = nmX) := rfl
  rw [hx] at heq
  obtain ⟨R, hR⟩ : ∃ R, namedS sp lo attr = R := ⟨_, rfl⟩
  rw [hR]
  have HR := Lib.hid hR
  have hns : (sp.toList == [104, 116, 116, 112, 58, 47, 47, 119, 119, 119, 46, 119, 51, 46, 111, 114, 103, 47, 50, 48, 48, 48, 47, 120, 109, 108, 110, 115, 47]) = decide (sp = nsX) := by rw [← lequal sp nsX, Lib.toList_data nsX]; rfl
  unfold nmX at heq
  have b0 := Bel.alloc w (.cells #[.string sp, .string lo] 23)
  clear hR hx hE
  cases hp : plainS lo with
  | false =>
    have HX : Hid (R = 6) := Lib.hid (by rw [← HR.out]; unfold namedS; rw [if_pos hp])
    rw [hp] at HP
    clear hp heq hns HF
    go_enter Tryd.func61, Tryd.ntmps61
    go_wp2_with fail
    refine (HP.out _ b0).mono ?_
    rintro e w1 ⟨rfl, hb1⟩
    go_wp2_with fail
    go_ret
    exact ⟨by rw [HX.out]; rfl, b0.trans hb1⟩
  | true =>
    have HR2 : Hid ((if attr = true ∧ sp = ⟨#[]⟩ ∧ lo = nmX then 2 else if sp = nsX ∨ fineS sp = false then 7 else 0) = R) := Lib.hid (by rw [← HR.out]; unfold namedS; rw [hp]; simp)
    rw [hp] at HP
    obtain ⟨E, hE2⟩ : ∃ E, decide (sp = ⟨#[]⟩ ∧ lo = nmX) = E := ⟨_, rfl⟩
    obtain ⟨S, hS⟩ : ∃ S, decide (sp = nsX) = S := ⟨_, rfl⟩
    obtain ⟨F, hF⟩ : ∃ F, fineS sp = F := ⟨_, rfl⟩
    have HR3 : Hid ((if attr = true ∧ E = true then 2 else if S = true ∨ F = false then 7 else 0) = R) := Lib.hid (by rw [← HR2.out, ← hE2, ← hS, hF]; simp)
    unfold nmX at hE2
    rw [hE2] at heq
    rw [hS] at hns
    rw [hF] at HF
    clear hE2 hS hF hp HR HR2
    go_enter Tryd.func61, Tryd.ntmps61
    go_wp2_with fail
    refine (HP.out _ b0).mono ?_
    rintro e w1 ⟨rfl, hb1⟩
    have t0 := (Blk.new w 23 [.string sp, .string lo]).bel hb1
    have hb1 := b0.trans hb1
    have c0 : w1.cell? ⟨w.heap.size, 0, none⟩ = some (.string sp) := t0.at 0
    have c1 : w1.cell? ⟨w.heap.size, 1, none⟩ = some (.string lo) := t0.at 1
    clear t0 b0 HP
    cases attr <;> cases E <;> cases S
    all_goals first
      | (go_wp2_with fail; go_ret; exact ⟨by rw [← HR3.out]; rfl, hb1⟩)
      | (go_wp2_with fail; refine (HF.out _ hb1).mono ?_; rintro e w2 ⟨rfl, hb2⟩; cases F <;> (go_wp2_with fail; go_ret; exact ⟨by rw [← HR3.out]; rfl, hb1.trans hb2⟩))

set_option maxRecDepth 100000 in
set_option maxHeartbeats 8000000 in
theorem xtext_c (t : Int) (sp lo tx : ByteArray) (aa ka : Option Addr) (an ac kn kc : Nat) (hs : tx.size ≤ 1073741824) (_han : an ≤ 1073741824) (_hkn : kn ≤ 1073741824) (w : World) (hE : Env w) :
    Calls Tryd.prog 44 #[.agg #[.int .i64 t, .string sp, .string lo, .slice aa an ac, .slice ka kn kc, .string tx]] w (RetBel (.int .i64 (textS6 sp tx an kn)) w) := by
  have HF := Lib.hid fun W (hb : Bel w W) => xfine_c tx hs W (hE.bel hb)
  have b0 := Bel.alloc w (.cells #[.int .i64 t, .string sp, .string lo, .slice aa an ac, .slice ka kn kc, .string tx] 27)
  obtain ⟨R, hR⟩ : ∃ R, textS6 sp tx an kn = R := ⟨_, rfl⟩
  rw [hR]
  have htx := lempty tx
  have hsp := lempty sp
  obtain ⟨A, hA⟩ : ∃ A, decide (tx = ⟨#[]⟩) = A := ⟨_, rfl⟩
  obtain ⟨B, hB⟩ : ∃ B, decide (sp = ⟨#[]⟩) = B := ⟨_, rfl⟩
  obtain ⟨C, hC⟩ : ∃ C, decide (0 < an) = C := ⟨_, rfl⟩
  obtain ⟨D, hD⟩ : ∃ D, decide (0 < kn) = D := ⟨_, rfl⟩
  obtain ⟨F, hF⟩ : ∃ F, fineS tx = F := ⟨_, rfl⟩
  have HR : Hid ((if A = true ∨ C = true ∨ D = true ∨ B = false then 2 else if F = false then 4 else 0) = R) := Lib.hid (by rw [← hR, ← hA, ← hB, ← hC, ← hD, ← hF]; unfold textS6; simp)
  rw [hA] at htx
  rw [hB] at hsp
  rw [hF] at HF
  clear hA hB hF hR hE
  cases A
  · cases C
    · cases D
      · cases B
        · go_enter Tryd.func44, Tryd.ntmps44
          go_wp2_with fail
          go_ret
          exact ⟨by rw [← HR.out]; rfl, b0⟩
        · go_enter Tryd.func44, Tryd.ntmps44
          go_wp2_with fail
          refine (HF.out _ b0).mono ?_
          rintro e w2 ⟨rfl, hb2⟩
          cases F <;> (go_wp2_with fail; go_ret; exact ⟨by rw [← HR.out]; rfl, b0.trans hb2⟩)
      · go_enter Tryd.func44, Tryd.ntmps44
        go_wp2_with fail
        go_ret
        exact ⟨by rw [← HR.out]; cases B <;> rfl, b0⟩
    · go_enter Tryd.func44, Tryd.ntmps44
      go_wp2_with fail
      go_ret
      exact ⟨by rw [← HR.out]; cases B <;> cases D <;> rfl, b0⟩
  · go_enter Tryd.func44, Tryd.ntmps44
    go_wp2_with fail
    go_ret
    exact ⟨by rw [← HR.out]; rfl, b0⟩
end Go.Proofs.YtojeclfcgnamoaaDoor
