/-
  feellex: the walks of the document's Quote and Text.
-/
import Derived.Test.YtjnaikojoemkaaaGreatDoorMJ
import Derived.Test.YtjnaikojoemkaaaGreatDoorMI
import Derived.Test.YtjnaikojoemkaaaGreatDoorMT
namespace Go.Proofs.YtjnaikojoemkaaaGreatDoor
open Go.RowKit

theorem q1_out (c : UInt8) : q1 c = outR c.toNat [c] := by
  have h1 := List.all_eq_true.1 outR_one c.toNat (List.mem_range.2 c.toNat_lt)
  rw [show c.toNat.toUInt8 = c from by simp] at h1
  exact beq_iff_eq.1 h1
def flatB (l : List UInt8) : ByteArray := ⟨(l.flatMap q1).toArray⟩
theorem flatB_step (s : ByteArray) (k : Nat) (h : k < s.size) : flatB (s.data.toList.take (k + 1)) = flatB (s.data.toList.take k) ++ ⟨(outR (s.get! k).toNat [s.get! k]).toArray⟩ := by
  have e : s.data.toList.take (k + 1) = s.data.toList.take k ++ [s.get! k] := by
    rw [List.take_add_one, show s.data.toList[k]? = some (s.get! k) from by rw [get_bang s k h]; simp]
    rfl
  unfold flatB
  rw [e, List.flatMap_append, List.flatMap_cons, List.flatMap_nil, List.append_nil, q1_out]
  apply ByteArray.ext
  apply Array.ext'
  simp
theorem flatB_le (l : List UInt8) : (flatB l).size ≤ 2 * l.length := by
  show (l.flatMap q1).toArray.size ≤ _
  simp only [List.size_toArray]
  induction l with
  | nil => simp
  | cons x l ih =>
    have := q1_le x
    rw [List.flatMap_cons, List.length_append, List.length_cons]
    omega

set_option maxRecDepth 100000 in
set_option maxHeartbeats 8000000 in
theorem rquote_c (s : ByteArray) (hs : s.size ≤ 1073741824) (w : World) :
    Calls Tryz.prog 12 #[.string s] w (RetBel (.tuple #[.string (quoteS s).1, .bool (!decide (chkS s < s.size))]) w) := by
  have HCK : Hid (∀ v w1, BytesAt w1 v s → Calls Tryz.prog 16 #[v] w1 fun e w' => e = .returned (.int .i64 (chkS s)) ∧ Bel w1 w') := Lib.hid fun v w1 hv => rcheck_c s (by omega) v w1 hv
  unfold quoteS
  obtain ⟨k, hk⟩ : ∃ k, chkS s = k := ⟨_, rfl⟩
  rw [hk] at HCK ⊢
  by_cases hlt : k < s.size
  · rw [if_pos hlt, decide_eq_true hlt]
    have hlti : decide (k < s.size) = true := decide_eq_true hlt
    clear hk
    go_enter Tryz.func12, Tryz.ntmps12
    go_wp2_with (refine wpL_bytes rfl 9 43 5 _ rfl s rfl Tryz.underlying9 Tryz.underlying43 Tryz.underlying5 ?_; intro v W1 hv hb1)
    refine (HCK.out _ _ hv).mono ?_
    rintro e w2 ⟨rfl, hb2⟩
    go_wp2_with fail
    go_ret2
    exact ⟨rfl, hb1.trans hb2⟩
  · rw [if_neg hlt, decide_eq_false hlt]
    have hlti : decide (k < s.size) = false := decide_eq_false hlt
    clear hk hlt
    go_enter Tryz.func12, Tryz.ntmps12
    go_wp2_with (refine wpL_bytes rfl 9 43 5 _ rfl s rfl Tryz.underlying9 Tryz.underlying43 Tryz.underlying5 ?_; intro v W1 hv hb1)
    refine (HCK.out _ _ hv).mono ?_
    rintro e w2 ⟨rfl, hb2⟩
    have hb0 := hb1.trans hb2
    clear hv
    go_wp2_with fail
    go_loop [4, 5] (fun o i => ∃ j : Nat, j ≤ s.size ∧ i = .int .i64 j ∧ o = .string (flatB (s.data.toList.take j))) (fun _ i => s.size - (intOf i).toNat)
    case atStart => exact ⟨0, Nat.zero_le _, rfl, rfl⟩
    case round =>
      obtain ⟨j, hj, rfl, rfl⟩ := hrel
      by_cases hp : j < s.size
      · have hpi : (j : Int) < s.size := by omega
        have hst := flatB_step s j hp
        have hle := flatB_le (s.data.toList.take j)
        have htl : (s.data.toList.take j).length ≤ j := List.length_take_le _ _
        obtain ⟨c, hc⟩ : ∃ c, s.get! j = c := ⟨_, rfl⟩
        have hx2 : s[j]'hp = c := by rw [← hc]; exact (get_at s j hp).symm
        have hbe := byte_extract s j hp
        rw [hc] at hst hbe
        have hcl := c.toNat_lt
        have hcc := outR_cases c.toNat [c]
        obtain ⟨o, ho⟩ : ∃ o, flatB (s.data.toList.take j) = o := ⟨_, rfl⟩
        rw [ho] at hst hle ⊢
        obtain ⟨O, hO⟩ : ∃ O, outR c.toNat [c] = O := ⟨_, rfl⟩
        rw [hO] at hst hcc
        have HST := Lib.hid hst
        have hos : o.size ≤ 2147483648 := by omega
        clear hst hc ho hO hle htl
        rcases hcc with ⟨e1, _, rfl⟩ | ⟨e1, e2, _, rfl⟩ | ⟨e1, e2, e3, rfl⟩ | ⟨e1, e2, e3, e4, rfl⟩ | ⟨e1, e2, e3, e4, e5, rfl⟩ | ⟨e1, e2, e3, e4, e5, rfl⟩
        · have f10 : (o ++ (⟨#[92, 34]⟩ : ByteArray)).size ≤ maxLen := by rw [ByteArray.size_append]; unfold maxLen; show o.size + 2 ≤ _; omega
          clear hbe
          go_wp2_with fail
          go_round
          case rel => exact ⟨j + 1, hp, by go_num, by rw [HST.out]⟩
          case measure => simp [intOf]; omega
        · have f10 : (o ++ (⟨#[92, 92]⟩ : ByteArray)).size ≤ maxLen := by rw [ByteArray.size_append]; unfold maxLen; show o.size + 2 ≤ _; omega
          clear hbe
          go_wp2_with fail
          go_round
          case rel => exact ⟨j + 1, hp, by go_num, by rw [HST.out]⟩
          case measure => simp [intOf]; omega
        · have f10 : (o ++ (⟨#[92, 110]⟩ : ByteArray)).size ≤ maxLen := by rw [ByteArray.size_append]; unfold maxLen; show o.size + 2 ≤ _; omega
          clear hbe
          go_wp2_with fail
          go_round
          case rel => exact ⟨j + 1, hp, by go_num, by rw [HST.out]⟩
          case measure => simp [intOf]; omega
        · have f10 : (o ++ (⟨#[92, 114]⟩ : ByteArray)).size ≤ maxLen := by rw [ByteArray.size_append]; unfold maxLen; show o.size + 2 ≤ _; omega
          clear hbe
          go_wp2_with fail
          go_round
          case rel => exact ⟨j + 1, hp, by go_num, by rw [HST.out]⟩
          case measure => simp [intOf]; omega
        · have f10 : (o ++ (⟨#[92, 116]⟩ : ByteArray)).size ≤ maxLen := by rw [ByteArray.size_append]; unfold maxLen; show o.size + 2 ≤ _; omega
          clear hbe
          go_wp2_with fail
          go_round
          case rel => exact ⟨j + 1, hp, by go_num, by rw [HST.out]⟩
          case measure => simp [intOf]; omega
        · obtain ⟨y, hy⟩ : ∃ y, s.extract j (j + 1) = y := ⟨_, rfl⟩
          rw [hy] at hbe
          have hys : y.size = 1 := by rw [hbe]; rfl
          have hcat : o ++ y = o ++ ⟨([c] : List UInt8).toArray⟩ := by rw [hbe]
          have f10 : (o ++ y).size ≤ maxLen := by rw [ByteArray.size_append, hys]; unfold maxLen; omega
          have HCAT := Lib.hid hcat
          clear hbe hcat
          go_wp2_with fail
          go_round
          case rel => exact ⟨j + 1, hp, by go_num, by rw [HST.out, ← HCAT.out]⟩
          case measure => simp [intOf]; omega
      · obtain rfl : j = s.size := by omega
        have hfin : s.data.toList.take s.size = s.data.toList := List.take_of_length_le (Nat.le_refl _)
        rw [hfin]
        have hq : (⟨#[34]⟩ : ByteArray) ++ flatB s.data.toList ++ ⟨#[34]⟩ = quoteB s := by
          apply ByteArray.ext
          apply Array.ext'
          simp [flatB, quoteB, quoteL]
        have hle := flatB_le s.data.toList
        have hsl : s.data.toList.length = s.size := rfl
        obtain ⟨o, ho⟩ : ∃ o, flatB s.data.toList = o := ⟨_, rfl⟩
        rw [ho] at hq hle ⊢
        have f1 : ((⟨#[34]⟩ : ByteArray) ++ o).size ≤ maxLen := by rw [ByteArray.size_append]; unfold maxLen; show 1 + o.size ≤ _; omega
        obtain ⟨y, hy⟩ : ∃ y, (⟨#[34]⟩ : ByteArray) ++ o = y := ⟨_, rfl⟩
        have hys : y.size ≤ 2147483650 := by rw [← hy, ByteArray.size_append]; show 1 + o.size ≤ _; omega
        rw [hy] at hq f1
        have hos : o.size ≤ 2147483648 := by omega
        have f2 : (y ++ (⟨#[34]⟩ : ByteArray)).size ≤ maxLen := by rw [ByteArray.size_append]; unfold maxLen; show y.size + 1 ≤ _; omega
        have HQ := Lib.hid hq
        clear hq ho hfin hle hsl
        go_wp2_with fail
        go_ret2
        exact ⟨tup2 (str_eq HQ.out) rfl, hb0⟩

theorem sign_full (s : ByteArray) : signS s = s ↔ (signS s).size = s.size := by
  constructor
  · intro h; rw [h]
  · intro h
    have := sign_pre s
    rw [h, extract_all] at this
    exact this

set_option maxRecDepth 100000 in
set_option maxHeartbeats 8000000 in
theorem rtextt_c (k p : Int) (s : ByteArray) (hs : s.size ≤ 1073741824) (w : World) :
    Calls Tryz.prog 10 #[.agg #[.int .i64 k, .int .i64 p, .string s]] w (RetBel (.tuple #[.string (textOf k s).1, .int .i64 (textOf k s).2]) w) := by
  have hB0 := Bel.alloc w (.cells #[.int .i64 k, .int .i64 p, .string s] 32)
  have hBK := Blk.new w 32 [.int .i64 k, .int .i64 p, .string s]
  unfold textOf
  by_cases k0 : k = 0
  · subst k0
    rw [if_pos rfl]
    have HC : Hid (∀ w1, Calls Tryz.prog 28 #[.string s] w1 fun e w' => e = .returned (.bool (wordS s)) ∧ Bel w1 w') := Lib.hid fun w1 => by have := rword_c s (by omega) w1; rwa [word_same] at this
    have HB0 := Lib.hid hB0
    have HBK := Lib.hid hBK
    clear hB0 hBK
    cases hR : wordS s
    all_goals
      rw [hR] at HC
      clear hR
      go_enter Tryz.func10, Tryz.ntmps10
      go_wp2_with fail
      refine (HC.out _).mono ?_
      rintro e w1 ⟨rfl, hb⟩
      have f2 := (HBK.out.bel hb).at 2
      go_wp2_with fail
      go_ret2
      exact ⟨rfl, HB0.out.trans hb⟩
  rw [if_neg k0]
  have t0 : (k == 0) = false := by simp [k0]
  by_cases k1 : k = 1
  · subst k1
    rw [if_pos rfl]
    have HC : Hid (∀ w1, Calls Tryz.prog 19 #[.string s] w1 fun e w' => e = .returned (.bool (isKw s)) ∧ Bel w1 w') := Lib.hid fun w1 => rkeyword_c s w1
    have HB0 := Lib.hid hB0
    have HBK := Lib.hid hBK
    clear hB0 hBK k0 t0
    cases hR : isKw s
    all_goals
      rw [hR] at HC
      clear hR
      go_enter Tryz.func10, Tryz.ntmps10
      go_wp2_with fail
      refine (HC.out _).mono ?_
      rintro e w1 ⟨rfl, hb⟩
      have f2 := (HBK.out.bel hb).at 2
      go_wp2_with fail
      go_ret2
      exact ⟨rfl, HB0.out.trans hb⟩
  rw [if_neg k1]
  have t1 : (k == 1) = false := by simp [k1]
  by_cases k2 : k = 2
  · subst k2
    rw [if_pos rfl]
    clear k0 t0 k1 t1
    have he := empty_test s
    by_cases hz : s.size = 0
    · have hz2 := size_zero s hz
      rw [if_neg (fun h => h.1 hz)]
      subst hz2
      have HB0 := Lib.hid hB0
      clear he hz hB0 hBK
      go_enter Tryz.func10, Tryz.ntmps10
      go_wp2_with fail
      go_quiet (fail)
      go_wp2_with fail
      go_ret2
      exact ⟨rfl, HB0.out.to_drewN _⟩
    · rw [decide_eq_false hz] at he
      have HC : Hid (∀ w1, Calls Tryz.prog 21 #[.string s, .int .i64 0] w1 fun e w' => e = .returned (.int .i64 (numN s : Nat)) ∧ w1 = w') := Lib.hid fun w1 => by have := rnumber_c s (by omega) 0 (Nat.zero_le _) w1; rwa [extract_all] at this
      obtain ⟨n, hn0⟩ : ∃ n, numN s = n := ⟨_, rfl⟩
      rw [hn0] at HC
      by_cases hn : n = s.size
      · rw [if_pos ⟨hz, by rw [hn0]; exact hn⟩]
        have hfn : ((n : Int) != s.size) = false := by simp [hn]
        have hfn2 : ((n : Int) == s.size) = true := by simp [hn]
        have hc2 := hBK.at 2
        clear hz hB0 hBK hn hc2 hn0
        go_enter Tryz.func10, Tryz.ntmps10
        go_wp2_with fail
        go_region_held3 (fun w' => w'.cell? ⟨w.heap.size, 2, none⟩ = some (.string s) ∧ Bel w w') (((try dsimp only); (try go_split_ands); (refine ⟨?_, ?_⟩ <;> first | assumption | exact Bel.keep (by assumption) (by assumption) | ((repeat (first | exact Bel.refl _ | assumption | refine Bel.to_drewN ?_ _ | refine Bel.to_drew ?_ | refine Bel.to_setCell ?_ (by first | exact Nat.le_refl _ | (simp; done) | (simp; omega) | omega) _ | refine Bel.to_alloc ?_ _ | refine Bel.trans ?_ (by assumption))); done) | (go_keep; done))))
          (first | (go_at_call 21; refine (HC.out _).mono ?_; rintro e w1 ⟨rfl, rfl⟩))
        go_wp2_with fail
        go_ret2
        exact ⟨rfl, by (repeat (first | exact Bel.refl _ | assumption | refine Bel.to_drewN ?_ _ | refine Bel.to_drew ?_ | refine Bel.to_setCell ?_ (by first | exact Nat.le_refl _ | (simp; done) | (simp; omega) | omega) _ | refine Bel.to_alloc ?_ _ | refine Bel.trans ?_ (by assumption)))⟩
      · rw [if_neg (fun h => hn (by rw [← hn0]; exact h.2))]
        have hfn : ((n : Int) != s.size) = true := by simp; omega
        have hfn2 : ((n : Int) == s.size) = false := by simp; omega
        clear hz hB0 hBK hn hn0
        go_enter Tryz.func10, Tryz.ntmps10
        go_wp2_with fail
        go_region_held3 (fun w' => w'.cell? ⟨w.heap.size, 2, none⟩ = some (.string s) ∧ Bel w w') (((try dsimp only); (try go_split_ands); (refine ⟨?_, ?_⟩ <;> first | assumption | exact Bel.keep (by assumption) (by assumption) | ((repeat (first | exact Bel.refl _ | assumption | refine Bel.to_drewN ?_ _ | refine Bel.to_drew ?_ | refine Bel.to_setCell ?_ (by first | exact Nat.le_refl _ | (simp; done) | (simp; omega) | omega) _ | refine Bel.to_alloc ?_ _ | refine Bel.trans ?_ (by assumption))); done) | (go_keep; done))))
          (first | (go_at_call 21; refine (HC.out _).mono ?_; rintro e w1 ⟨rfl, rfl⟩))
        go_wp2_with fail
        go_ret2
        exact ⟨rfl, by (repeat (first | exact Bel.refl _ | assumption | refine Bel.to_drewN ?_ _ | refine Bel.to_drew ?_ | refine Bel.to_setCell ?_ (by first | exact Nat.le_refl _ | (simp; done) | (simp; omega) | omega) _ | refine Bel.to_alloc ?_ _ | refine Bel.trans ?_ (by assumption)))⟩
  rw [if_neg k2]
  have t2 : (k == 2) = false := by simp [k2]
  by_cases k3 : k = 3
  · subst k3
    rw [if_pos rfl]
    have HC : Hid (∀ w1, Calls Tryz.prog 12 #[.string s] w1 (RetBel (.tuple #[.string (quoteS s).1, .bool (!decide (chkS s < s.size))]) w1)) := Lib.hid fun w1 => rquote_c s hs w1
    have HB0 := Lib.hid hB0
    clear hB0 hBK k0 t0 k1 t1 k2 t2
    unfold quoteS at HC ⊢
    by_cases hk : chkS s < s.size
    · rw [if_pos hk, decide_eq_true hk] at HC
      rw [if_pos hk]
      clear hk
      go_enter Tryz.func10, Tryz.ntmps10
      go_wp2_with fail
      refine (HC.out _).mono ?_
      rintro e w1 ⟨rfl, hb⟩
      go_wp2_with fail
      go_ret2
      exact ⟨rfl, HB0.out.trans hb⟩
    · rw [if_neg hk, decide_eq_false hk] at HC
      rw [if_neg hk]
      obtain ⟨q, hq⟩ : ∃ q, quoteB s = q := ⟨_, rfl⟩
      rw [hq] at HC ⊢
      clear hk hq
      go_enter Tryz.func10, Tryz.ntmps10
      go_wp2_with fail
      refine (HC.out _).mono ?_
      rintro e w1 ⟨rfl, hb⟩
      go_wp2_with fail
      go_ret2
      exact ⟨rfl, HB0.out.trans hb⟩
  rw [if_neg k3]
  have t3 : (k == 3) = false := by simp [k3]
  by_cases k4 : k = 4
  · subst k4
    rw [if_pos rfl]
    clear k0 t0 k1 t1 k2 t2 k3 t3
    have he := empty_test s
    by_cases hz : s.size = 0
    · have hz2 := size_zero s hz
      rw [if_neg (fun h => h.1 hz)]
      subst hz2
      have HB0 := Lib.hid hB0
      clear he hz hB0 hBK
      go_enter Tryz.func10, Tryz.ntmps10
      go_wp2_with fail
      go_quiet (fail)
      go_wp2_with fail
      go_ret2
      exact ⟨rfl, HB0.out.to_drewN _⟩
    · rw [decide_eq_false hz] at he
      have HC : Hid (∀ w1, Calls Tryz.prog 23 #[.string s, .int .i64 0] w1 fun e w' => e = .returned (.int .i64 ((signS s).size : Nat)) ∧ w1 = w') := Lib.hid fun w1 => by have := rsign_c s (by omega) 0 (by omega) w1; rwa [extract_all] at this
      obtain ⟨n, hn0⟩ : ∃ n, (signS s).size = n := ⟨_, rfl⟩
      rw [hn0] at HC
      by_cases hn : n = s.size
      · rw [if_pos ⟨hz, by rw [sign_full, hn0]; exact hn⟩]
        have hfn : ((n : Int) != s.size) = false := by simp [hn]
        have hfn2 : ((n : Int) == s.size) = true := by simp [hn]
        have hc2 := hBK.at 2
        clear hz hB0 hBK hn hc2 hn0
        go_enter Tryz.func10, Tryz.ntmps10
        go_wp2_with fail
        go_region_held3 (fun w' => w'.cell? ⟨w.heap.size, 2, none⟩ = some (.string s) ∧ Bel w w') (((try dsimp only); (try go_split_ands); (refine ⟨?_, ?_⟩ <;> first | assumption | exact Bel.keep (by assumption) (by assumption) | ((repeat (first | exact Bel.refl _ | assumption | refine Bel.to_drewN ?_ _ | refine Bel.to_drew ?_ | refine Bel.to_setCell ?_ (by first | exact Nat.le_refl _ | (simp; done) | (simp; omega) | omega) _ | refine Bel.to_alloc ?_ _ | refine Bel.trans ?_ (by assumption))); done) | (go_keep; done))))
          (first | (go_at_call 23; refine (HC.out _).mono ?_; rintro e w1 ⟨rfl, rfl⟩))
        go_wp2_with fail
        go_ret2
        exact ⟨rfl, by (repeat (first | exact Bel.refl _ | assumption | refine Bel.to_drewN ?_ _ | refine Bel.to_drew ?_ | refine Bel.to_setCell ?_ (by first | exact Nat.le_refl _ | (simp; done) | (simp; omega) | omega) _ | refine Bel.to_alloc ?_ _ | refine Bel.trans ?_ (by assumption)))⟩
      · rw [if_neg (fun h => hn (by rw [← hn0]; exact (sign_full s).1 h.2))]
        have hfn : ((n : Int) != s.size) = true := by simp; omega
        have hfn2 : ((n : Int) == s.size) = false := by simp; omega
        clear hz hB0 hBK hn hn0
        go_enter Tryz.func10, Tryz.ntmps10
        go_wp2_with fail
        go_region_held3 (fun w' => w'.cell? ⟨w.heap.size, 2, none⟩ = some (.string s) ∧ Bel w w') (((try dsimp only); (try go_split_ands); (refine ⟨?_, ?_⟩ <;> first | assumption | exact Bel.keep (by assumption) (by assumption) | ((repeat (first | exact Bel.refl _ | assumption | refine Bel.to_drewN ?_ _ | refine Bel.to_drew ?_ | refine Bel.to_setCell ?_ (by first | exact Nat.le_refl _ | (simp; done) | (simp; omega) | omega) _ | refine Bel.to_alloc ?_ _ | refine Bel.trans ?_ (by assumption))); done) | (go_keep; done))))
          (first | (go_at_call 23; refine (HC.out _).mono ?_; rintro e w1 ⟨rfl, rfl⟩))
        go_wp2_with fail
        go_ret2
        exact ⟨rfl, by (repeat (first | exact Bel.refl _ | assumption | refine Bel.to_drewN ?_ _ | refine Bel.to_drew ?_ | refine Bel.to_setCell ?_ (by first | exact Nat.le_refl _ | (simp; done) | (simp; omega) | omega) _ | refine Bel.to_alloc ?_ _ | refine Bel.trans ?_ (by assumption)))⟩
  rw [if_neg k4]
  have t4 : (k == 4) = false := by simp [k4]
  have HB0 := Lib.hid hB0
  clear hB0 hBK k0 k1 k2 k3 k4
  by_cases k5 : k = 5
  · subst k5
    rw [if_pos rfl]
    clear t0 t1 t2 t3 t4
    have he := empty_test s
    by_cases hz : s.size = 0
    · have hz2 := size_zero s hz
      rw [if_pos hz]
      subst hz2
      clear he hz
      go_enter Tryz.func10, Tryz.ntmps10
      go_wp2_with fail
      go_ret2
      exact ⟨rfl, HB0.out⟩
    · rw [if_neg hz]
      rw [decide_eq_false hz] at he
      have he2 : (!s.toList.isEmpty) = true := by rw [he]; rfl
      clear hz
      go_enter Tryz.func10, Tryz.ntmps10
      go_wp2_with fail
      go_ret2
      exact ⟨rfl, HB0.out⟩
  · rw [if_neg k5]
    have t5 : (k == 5) = false := by simp [k5]
    clear k5
    go_enter Tryz.func10, Tryz.ntmps10
    go_wp2_with fail
    go_ret2
    exact ⟨rfl, HB0.out⟩
end Go.Proofs.YtjnaikojoemkaaaGreatDoor
