/-
  feelprint: the printer; Level, add, part.
-/
import Derived.Test.YtpenfnabeckboaaGreatDoorFPD
import Derived.Test.YtpenfnabeckboaaGreatDoorBEM
import Derived.Test.YtpenfnabeckboaaGreatDoorEXE
namespace Go.Proofs.YtpenfnabeckboaaGreatDoor
open Go.RowKit

theorem heads_p : Heads 70 4 := ⟨by kernel_rfl, by decide⟩
def keepP : TypeId → Bool := keepB 70
/-- A printer that was made in the world u, in block b, and has written these bytes. -/
def PR (u : World) (b mb : Nat) (bare : Bool) (bs : List UInt8) (w : World) : Prop :=
  EB 70 u.heap.size b [.map (some mb), .bool bare] (Lib.byteCells bs) w ∧ Bel u w
/-- What a printer's method answers. -/
def RetP (u : World) (b mb : Nat) (bare : Bool) (bs : List UInt8) (w : World) (e : Ending) (w' : World) : Prop :=
  e = Ending.returned (.tuple #[]) ∧ PR u b mb bare bs w' ∧ KeepT keepP w w'
theorem PR.bel {u w w' : World} {b mb : Nat} {bare : Bool} {bs : List UInt8} (h : PR u b mb bare bs w) (hb : Bel w w') : PR u b mb bare bs w' := ⟨h.1.bel hb, h.2.trans hb⟩
theorem PR.c2 {u w : World} {b mb : Nat} {bare : Bool} {bs : List UInt8} (h : PR u b mb bare bs w) : w.cell? ⟨b, 2, none⟩ = some (.map (some mb)) := h.1.far 0 _ rfl
theorem PR.c3 {u w : World} {b mb : Nat} {bare : Bool} {bs : List UInt8} (h : PR u b mb bare bs w) : w.cell? ⟨b, 3, none⟩ = some (.bool bare) := h.1.far 1 _ rfl
theorem KeepT.blk {p : TypeId → Bool} {W W' : World} (h : KeepT p W W') {b t : Nat} {cs : List Value} (hb : Blk W b t cs) (hp : p t = true) : Blk W' b t cs := (h.2 b _ _ _ hb hp).trans hb
theorem keep_str : keepP 9 = true := by decide
theorem keep_ex : keepP 25 = true := by decide
theorem byteCells_bts (x : ByteArray) : Lib.strCells x = Lib.byteCells (btsOf x) := rfl
theorem byteCells_append (a b : List UInt8) : Lib.byteCells (a ++ b) = Lib.byteCells a ++ Lib.byteCells b := by simp [Lib.byteCells]
theorem prw_c (u : World) (b mb : Nat) (bare : Bool) (bs : List UInt8) (x : ByteArray) (w : World) (h : PR u b mb bare bs w) (hlen : bs.length + x.size ≤ 140737488355328) :
    Calls Tryz.prog 79 #[.pointer (some ⟨b, 0, none⟩), .string x] w fun e w' => e = .returned (.tuple #[.int .i64 x.size, .nilIface]) ∧ PR u b mb bare (bs ++ btsOf x) w' ∧ KeepT keepP w w' := by
  refine (ewstr_c 70 u.heap.size b [.map (some mb), .bool bare] (Lib.byteCells bs) x w heads_p h.1 (by rw [Lib.byteCells_length]; exact hlen) h.2.size).mono ?_
  rintro e w' ⟨rfl, h1, h2, h3⟩
  exact ⟨rfl, ⟨by rw [byteCells_append, ← byteCells_bts]; exact h1, Below.trans h.2 h2⟩, h3⟩
set_option maxRecDepth 100000 in
set_option maxHeartbeats 1000000 in
theorem add_c (u : World) (b mb : Nat) (bare : Bool) (bs : List UInt8) (l : List ByteArray) (xb n : Nat) (w : World) (h : PR u b mb bare bs w) (hx : Blk w xb 9 (strsV l)) (hn : l.length = n) (hn2 : n ≤ 1073741824) (hlen : bs.length + (l.flatMap btsOf).length ≤ 140737488355328) :
    Calls Tryz.prog 94 #[.pointer (some ⟨b, 0, none⟩), .slice (some ⟨xb, 0, none⟩) n n] w (RetP u b mb bare (bs ++ l.flatMap btsOf) w) := by
  have HW := Lib.hid (fun (c : List UInt8) (x : ByteArray) (W : World) (hW : PR u b mb bare c W) (hc : c.length + x.size ≤ 140737488355328) => prw_c u b mb bare c x W hW hc)
  have HP := Lib.hid h
  have HX := Lib.hid hx
  have HN := Lib.hid hn
  have HL := Lib.hid hlen
  clear h hx hn hlen
  go_enter Tryz.func94, Tryz.ntmps94
  go_wp2_with fail
  go_loopw [8] (fun i wr => ∃ j : Nat, j ≤ n ∧ i = .int .i64 j ∧ PR u b mb bare (bs ++ (l.take j).flatMap btsOf) wr ∧ KeepT keepP w wr) (fun i _ => n - (intOf i).toNat)
  case atStart => exact ⟨0, Nat.zero_le _, rfl, by simpa using HP.out, KeepT.refl _ _⟩
  case round =>
    obtain ⟨j, hj, rfl, hpr, hk⟩ := hrel
    by_cases hlt : j < n
    · have hji : (j : Int) < n := by omega
      obtain ⟨x, hx⟩ : ∃ x, l[j]? = some x := ⟨_, List.getElem?_eq_getElem (by have := HN.out; omega)⟩
      have hbx := hk.blk HX.out keep_str
      have hc : wr.cell? ⟨xb, j, none⟩ = some (.string x) := by rw [hbx.at]; simp [strsV, hx]
      have HPR := Lib.hid hpr
      have HK := Lib.hid hk
      have HTK := Lib.hid (show (l.take (j + 1)).flatMap btsOf = (l.take j).flatMap btsOf ++ btsOf x from by rw [List.take_add_one, hx, List.flatMap_append]; simp)
      have HLJ := Lib.hid (show ((l.take j).flatMap btsOf).length + x.size ≤ (l.flatMap btsOf).length from by
        rw [← btsOf_len x, ← List.length_append, ← HTK.out]
        conv => rhs; rw [← List.take_append_drop (j + 1) l, List.flatMap_append, List.length_append]
        omega)
      clear hpr hk hx hbx
      go_wp2_with fail
      refine (HW.out _ x _ HPR.out (by have := HL.out; have := HLJ.out; rw [List.length_append]; omega)).mono ?_
      rintro e2 w2 ⟨rfl, hp2, hk2⟩
      rw [List.append_assoc, ← HTK.out] at hp2
      go_wp2_with fail
      exact ⟨⟨j + 1, by omega, by go_num, hp2, HK.out.trans hk2⟩, by simp [intOf]; omega⟩
    · obtain rfl : j = n := by omega
      go_wp2_with fail
      go_end0
      rw [List.take_of_length_le (by rw [HN.out]; exact Nat.le_refl _)] at hpr
      exact ⟨rfl, hpr, hk⟩
/-- An expression's text is what a printer writes. -/
def SaysP (u : World) (b mb : Nat) (bare : Bool) (x : Ex) : Prop := ∀ (na : Option Addr) (nn nc : Nat) (la : Option Addr) (ln lc : Nat) (bs : List UInt8) (w : World), ExAt u x (.slice na nn nc) (.slice la ln lc) → PR u b mb bare bs w →
  bs.length + (prE qB bare x).length ≤ 140737488355328 → Calls Tryz.prog 37 #[.pointer (some ⟨b, 0, none⟩), .agg #[.int .i64 x.k, .string x.s, .slice na nn nc, .slice la ln lc]] w (RetP u b mb bare (bs ++ prE qB bare x) w)
theorem levelE_le (e : Ex) : levelE e ≤ 8 := by
  have hs : (signLv e.s).getD 8 ≤ 8 := by
    unfold signLv
    cases h : signsP.reverse.find? fun x => decide (x.1 = e.s) with
    | none => simp
    | some y =>
      have hm := List.mem_of_find?_eq_some h
      have : ∀ y ∈ signsP.reverse, y.2 ≤ 8 := by decide
      exact this y hm
  unfold levelE
  split
  · omega
  · split
    · omega
    · split
      · omega
      · split
        · exact hs
        · omega
set_option maxRecDepth 100000 in
set_option maxHeartbeats 4000000 in
theorem level_c (x : Ex) (na : Option Addr) (nn nc : Nat) (la : Option Addr) (ln lc : Nat) (w : World) (hs : x.s.size ≤ 1073741824) (hk : 0 ≤ x.k ∧ x.k ≤ 19) :
    Calls Tryz.prog 127 #[.agg #[.int .i64 x.k, .string x.s, .slice na nn nc, .slice la ln lc]] w (RetBel (.int .i64 (levelE x)) w) := by
  have HS := Lib.hid hs
  unfold levelE
  obtain ⟨k, hkk⟩ : ∃ k, x.k = k := ⟨_, rfl⟩
  obtain ⟨s, hss⟩ : ∃ s, x.s = s := ⟨_, rfl⟩
  rw [hkk] at hk ⊢
  rw [hss] at HS ⊢
  obtain ⟨V1, h1, k1, l1, s1⟩ := alloc_step w 25 [.int .i64 k, .string s, .slice na nn nc, .slice la ln lc]
  have HV1 := Lib.hid h1
  have HB := Lib.hid l1
  have c0 := k1.at 0
  have c1 := k1.at 1
  clear hs hkk hss h1 k1 l1 s1
  have hc : k = 0 ∨ k = 1 ∨ k = 2 ∨ k = 3 ∨ k = 4 ∨ k = 5 ∨ k = 6 ∨ k = 7 ∨ k = 8 ∨ k = 9 ∨ k = 10 ∨ k = 11 ∨ k = 12 ∨ k = 13 ∨ k = 14 ∨ k = 15 ∨ k = 16 ∨ k = 17 ∨ k = 18 ∨ k = 19 := by omega
  clear hk
  by_cases h5 : k = 5
  · subst h5
    rw [if_neg (by decide), if_neg (by decide), if_neg (by decide), if_pos rfl]
    go_enter Tryz.func127, Tryz.ntmps127
    go_upto_region 1 with fail
    rw [show w.alloc (.cells #[.int .i64 5, .string s, .slice na nn nc, .slice la ln lc] 25) = V1 from HV1.out]
    go_wp2_with fail
    cases hv : signLv s with
    | none =>
      have HSL := Lib.hid (fun W => signs_look s (by have := HS.out; unfold maxLen; omega) W)
      rw [hv] at HSL
      have HVV := Lib.hid hv
      go_region_held3 (fun w' => w'.cell? ⟨w.heap.size, 1, none⟩ = some (.string s) ∧ Bel V1 w') (((try dsimp only); (try go_split_ands); (refine ⟨?_, ?_⟩ <;> first | assumption | exact Bel.keep (by assumption) (by assumption) | ((repeat (first | exact Bel.refl _ | assumption | refine Bel.to_drewN ?_ _ | refine Bel.to_drew ?_ | refine Bel.to_setCell ?_ (by first | exact Nat.le_refl _ | (simp; done) | (simp; omega) | omega) _ | refine Bel.to_alloc ?_ _ | refine Bel.trans ?_ (by assumption))); done) | (go_keep; done))))
        (first | (go_at_call 36; refine (HSL.out _).mono ?_; rintro e w1 ⟨rfl, hlk0, hb1⟩; have hlk : (Instr.lookup 64 (.map (some V1.heap.size)) (.string s) true).run Tryz.prog w1 = .ok (.tuple #[.int .i64 0, .bool false]) w1 := hlk0; clear hlk0))
      all_goals (
        go_wp2_with fail
        go_ret
        exact ⟨ret_int (by rw [HVV.out]; rfl), HB.out.trans (by (repeat (first | exact Bel.refl _ | assumption | refine Bel.to_drewN ?_ _ | refine Bel.to_drew ?_ | refine Bel.to_setCell ?_ (by first | exact Nat.le_refl _ | (simp; done) | (simp; omega) | omega) _ | refine Bel.to_alloc ?_ _ | refine Bel.trans ?_ (by assumption))))⟩)
    | some n =>
      have HSL := Lib.hid (fun W => signs_look s (by have := HS.out; unfold maxLen; omega) W)
      rw [hv] at HSL
      have HVV := Lib.hid hv
      go_region_held3 (fun w' => w'.cell? ⟨w.heap.size, 1, none⟩ = some (.string s) ∧ Bel V1 w') (((try dsimp only); (try go_split_ands); (refine ⟨?_, ?_⟩ <;> first | assumption | exact Bel.keep (by assumption) (by assumption) | ((repeat (first | exact Bel.refl _ | assumption | refine Bel.to_drewN ?_ _ | refine Bel.to_drew ?_ | refine Bel.to_setCell ?_ (by first | exact Nat.le_refl _ | (simp; done) | (simp; omega) | omega) _ | refine Bel.to_alloc ?_ _ | refine Bel.trans ?_ (by assumption))); done) | (go_keep; done))))
        (first | (go_at_call 36; refine (HSL.out _).mono ?_; rintro e w1 ⟨rfl, hlk0, hb1⟩; have hlk : (Instr.lookup 64 (.map (some V1.heap.size)) (.string s) true).run Tryz.prog w1 = .ok (.tuple #[.int .i64 n, .bool true]) w1 := hlk0; clear hlk0))
      all_goals (
        go_wp2_with fail
        go_ret
        exact ⟨ret_int (by rw [HVV.out]; rfl), HB.out.trans (by (repeat (first | exact Bel.refl _ | assumption | refine Bel.to_drewN ?_ _ | refine Bel.to_drew ?_ | refine Bel.to_setCell ?_ (by first | exact Nat.le_refl _ | (simp; done) | (simp; omega) | omega) _ | refine Bel.to_alloc ?_ _ | refine Bel.trans ?_ (by assumption))))⟩)
  · rcases hc with rfl | rfl | rfl | rfl | rfl | rfl | rfl | rfl | rfl | rfl | rfl | rfl | rfl | rfl | rfl | rfl | rfl | rfl | rfl | rfl
    case inr.inr.inr.inr.inr.inl => exact absurd rfl h5
    all_goals
      go_enter Tryz.func127, Tryz.ntmps127
      go_upto_region 1 with fail
      rw [show w.alloc (.cells #[_, .string s, .slice na nn nc, .slice la ln lc] 25) = V1 from HV1.out]
      go_wp2_with fail
      go_ret
      exact ⟨rfl, HB.out⟩
end Go.Proofs.YtpenfnabeckboaaGreatDoor
