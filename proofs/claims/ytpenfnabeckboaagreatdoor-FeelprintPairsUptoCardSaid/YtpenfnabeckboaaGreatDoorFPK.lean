/-
  feelprint: the printer's functions and ranges.
-/
import Derived.Test.YtpenfnabeckboaaGreatDoorFPG
import Derived.Lib.Join
namespace Go.Proofs.YtpenfnabeckboaaGreatDoor
open Go.RowKit

theorem joinT_join (ns : List ByteArray) : joinT ns = Lib.join (ns.map btsOf) [44, 32] := by
  cases ns with
  | nil => rfl
  | cons x r =>
    rw [List.map_cons, Lib.join_cons]
    induction r generalizing x with
    | nil => simp [joinT, Lib.joinTail]
    | cons y r ih =>
      unfold joinT
      rw [ih y]
      simp [Lib.joinTail]
theorem fjoin_c (ns : List ByteArray) (na : Option Addr) (nn nc : Nat) (w : World) (hn : ns.length = nn) (hnc : nn ≤ nc) (hnn : nn ≤ 1073741824) (hlen : (joinT ns).length ≤ 140737488355328) (hnm : NamesAt w na ns) :
    Calls Tryz.prog 99 #[.slice na nn nc, .string ⟨#[44, 32]⟩] w (RetBel (.string ⟨(joinT ns).toArray⟩) w) := by
  cases ns with
  | nil =>
    obtain rfl : nn = 0 := by simpa using hn.symm
    have hx : joinT [] = [] := rfl
    rw [hx]
    go_enter Tryz.func99, Tryz.ntmps99
    go_wp2_with fail
    go_ret
    exact ⟨rfl, Bel.refl _⟩
  | cons x r =>
    obtain ⟨b, off, rfl, hc0⟩ := hnm 0 x rfl
    have hb : b < w.heap.size := cell_lt hc0
    have h := Tryz.strings_Join b off nc (x :: r) ⟨#[44, 32]⟩ w (fun j y hy => by
      obtain ⟨b', off', he, hc⟩ := hnm j y hy
      injection he with he
      injection he with h1 h2
      subst h1 h2
      exact hc) hb (by rw [hn]; omega) (by rw [hn]; exact hnc) (by
      rw [joinT_join] at hlen
      exact hlen)
    rw [hn] at h
    rw [joinT_join]
    exact h
set_option maxRecDepth 100000 in
set_option maxHeartbeats 4000000 in
theorem p_function_c (u : World) (b mb : Nat) (bare : Bool) (k : Int) (s : ByteArray) (ns : List ByteArray) (l : List Ex) (na : Option Addr) (nn nc : Nat) (la : Option Addr) (ln lc : Nat) (bs : List UInt8) (w : World) (hs : s.size ≤ 1073741824) (hl : l.length = ln) (hlc : ln ≤ lc) (hln : ln ≤ 1073741824) (hn : ns.length = nn) (hnn : nn ≤ 1073741824) (hl0 : l.length = 1) (hnc : nn ≤ nc)
    (hp : PartsAt u la l) (hnm : NamesAt u na ns) (hx : ∀ x ∈ l, PartOk u b mb bare x) (h : PR u b mb bare bs w) (hlen : bs.length + (wordsT bare (l.map (ptOf bare)) [[102, 117, 110, 99, 116, 105, 111, 110, 40] ++ joinT ns ++ [41, 32]]).length ≤ 140737488355328) :
    Calls Tryz.prog 66 #[.pointer (some ⟨b, 0, none⟩), .agg #[.int .i64 k, .string s, .slice na nn nc, .slice la ln lc]] w (RetP u b mb bare (bs ++ (wordsT bare (l.map (ptOf bare)) [[102, 117, 110, 99, 116, 105, 111, 110, 40] ++ joinT ns ++ [41, 32]])) w) := by
  have HEQ : ([[102, 117, 110, 99, 116, 105, 111, 110, 40] ++ joinT ns ++ [41, 32]] : List (List UInt8)) = ([(⟨#[102, 117, 110, 99, 116, 105, 111, 110, 40]⟩ ++ ⟨(joinT ns).toArray⟩ ++ ⟨#[41, 32]⟩)] : List ByteArray).map btsOf := by simp [btsOf, ByteArray.data_append]
  have hjl : (joinT ns).length ≤ 140737488355328 := by obtain ⟨x0, rfl⟩ := List.length_eq_one_iff.1 hl0; simp only [wordsT, List.map_cons, List.map_nil, List.zip_cons_cons, List.flatMap_cons, List.length_append] at hlen; omega
  rw [HEQ] at hlen ⊢
  clear HEQ
  have HJ := Lib.hid (fun W (hW : Bel u W) => fjoin_c ns na nn nc W hn hnc hnn hjl (hnm.bel hW))
  have HJL := Lib.hid hjl
  have HWO := Lib.hid (fun (wb : Nat) (W : World) (hwb : Blk W wb 9 (strsV [(⟨#[102, 117, 110, 99, 116, 105, 111, 110, 40]⟩ ++ ⟨(joinT ns).toArray⟩ ++ ⟨#[41, 32]⟩)])) (hW : PR u b mb bare bs W) => prwords_c u b mb bare l [(⟨#[102, 117, 110, 99, 116, 105, 111, 110, 40]⟩ ++ ⟨(joinT ns).toArray⟩ ++ ⟨#[41, 32]⟩)] la ln lc wb 1 bs W hl hln rfl (by omega) (by decide) hp hwb hx hW hlen)
  obtain ⟨J, hJ⟩ : ∃ J : ByteArray, ⟨(joinT ns).toArray⟩ = J := ⟨_, rfl⟩
  have hjs : J.size ≤ 140737488355328 := by rw [← hJ]; simpa [ByteArray.size] using hjl
  rw [hJ] at HJ HWO ⊢
  clear hl0 hjl hJ
  obtain ⟨V1, h1, k1, l1, s1⟩ := alloc_step w 25 [.int .i64 k, .string s, .slice na nn nc, .slice la ln lc]
  have HV1 := Lib.hid h1
  have HP0 := Lib.hid (h.bel l1)
  have HT0 := Lib.hid (KeepT.of_bel (p := keepP) l1)
  have HK0 := Lib.hid k1
  have HL := Lib.hid hlen
  clear h1 k1 l1 s1 h hlen hp hx hnm hl hn
  go_enter Tryz.func66, Tryz.ntmps66
  go_upto_region 1 with fail
  rw [show w.alloc (.cells #[.int .i64 k, .string s, .slice na nn nc, .slice la ln lc] 25) = V1 from HV1.out]
  clear HV1
  have y3 := HK0.out.at 3
  have y2 := HK0.out.at 2
  have hA1 : ¬ (9223372036854775807 < (⟨#[102, 117, 110, 99, 116, 105, 111, 110, 40]⟩ : ByteArray).size + J.size) := by have h : (⟨#[102, 117, 110, 99, 116, 105, 111, 110, 40]⟩ : ByteArray).size = 9 := rfl; omega
  have hA2 : ¬ (9223372036854775807 < ((⟨#[102, 117, 110, 99, 116, 105, 111, 110, 40]⟩ : ByteArray) ++ J).size + (⟨#[41, 32]⟩ : ByteArray).size) := by have h : (⟨#[102, 117, 110, 99, 116, 105, 111, 110, 40]⟩ : ByteArray).size = 9 := rfl; have h2 : (⟨#[41, 32]⟩ : ByteArray).size = 2 := rfl; rw [ByteArray.size_append]; omega
  refine wp_region_held_drew (S := fun w' => w'.cell? ⟨w.heap.size, 3, none⟩ = some (.slice la ln lc) ∧ w'.cell? ⟨w.heap.size, 2, none⟩ = some (.slice na nn nc)) (by kernel_rfl) ⟨y3, y2⟩ (fun hHeld => ?_)
  refine wpAnyH_take (i := 0) (oi := _) (v := ?_) rfl (by kernel_rfl) (by kernel_rfl) (by kernel_rfl) (fun _ _ _ h => h) ?_ (by assumption) ?_
  rotate_left 1
  · first
      | (refine Or.inl ⟨by rfl, ?_⟩; intro w9 hSw; (try dsimp only at hSw); go_simp; (try with_reducible rfl); done)
      | (refine Or.inr ⟨by rfl, ?_⟩; rfl)
  simp only [List.getElem_toArray, List.getElem_cons_zero, Act.put, List.setIfInBounds_toArray, List.set_cons_zero, List.set_cons_succ]
  refine wpAnyH_take (i := 1) (oi := _) (v := ?_) rfl (by kernel_rfl) (by kernel_rfl) (by kernel_rfl) (fun _ _ _ h => h) ?_ (by assumption) ?_
  rotate_left 1
  · first
      | (refine Or.inl ⟨by rfl, ?_⟩; intro w9 hSw; (try dsimp only at hSw); go_simp; (try with_reducible rfl); done)
      | (refine Or.inr ⟨by rfl, ?_⟩; rfl)
  simp only [List.getElem_toArray, List.getElem_cons_succ, List.getElem_cons_zero, Act.put, List.setIfInBounds_toArray, List.set_cons_zero, List.set_cons_succ]
  refine wpAnyH_take (i := 2) (oi := _) (v := ?_) rfl (by kernel_rfl) (by kernel_rfl) (by kernel_rfl) (fun _ _ _ h => h) ?_ (by assumption) ?_
  rotate_left 1
  · first
      | (refine Or.inl ⟨by rfl, ?_⟩; intro w9 hSw; (try dsimp only at hSw); go_simp; (try with_reducible rfl); done)
      | (refine Or.inr ⟨by rfl, ?_⟩; rfl)
  simp only [List.getElem_toArray, List.getElem_cons_succ, List.getElem_cons_zero, Act.put, List.setIfInBounds_toArray, List.set_cons_zero, List.set_cons_succ]
  refine wpAnyH_take (i := 3) (oi := _) (v := ?_) rfl (by kernel_rfl) (by kernel_rfl) (by kernel_rfl) (fun _ _ _ h => h) ?_ (by assumption) ?_
  rotate_left 1
  · first
      | (refine Or.inl ⟨by rfl, ?_⟩; intro w9 hSw; (try dsimp only at hSw); go_simp; (try with_reducible rfl); done)
      | (refine Or.inr ⟨by rfl, ?_⟩; rfl)
  simp only [List.getElem_toArray, List.getElem_cons_succ, List.getElem_cons_zero, Act.put, List.setIfInBounds_toArray, List.set_cons_zero, List.set_cons_succ]
  refine wpAnyH_take (i := 4) (oi := _) (v := ?_) rfl (by kernel_rfl) (by kernel_rfl) (by kernel_rfl) (fun _ _ _ h => h) ?_ (by assumption) ?_
  rotate_left 1
  · first
      | (refine Or.inl ⟨by rfl, ?_⟩; intro w9 hSw; (try dsimp only at hSw); go_simp; (try with_reducible rfl); done)
      | (refine Or.inr ⟨by rfl, ?_⟩; rfl)
  simp only [List.getElem_toArray, List.getElem_cons_succ, List.getElem_cons_zero, Act.put, List.setIfInBounds_toArray, List.set_cons_zero, List.set_cons_succ]
  refine wpAnyH_ready (rs := [5]) (by kernel_rfl) (by simp) ?_
  refine AllReadyH.cons (o := _) rfl (fun K hK => ?_) AllReadyH.nil
  go_simp
  go_at_call 99
  refine (HJ.out _ (HP0.out.2.to_drew)).mono ?_
  rintro e5 w5 ⟨rfl, hb5⟩
  dsimp only
  have HP5 := Lib.hid (HP0.out.bel ((Bel.drew _).trans hb5))
  have HT5 := Lib.hid (HT0.out.trans (KeepT.of_bel (p := keepP) ((Bel.drew _).trans hb5)))
  have HK5 := Lib.hid (HK0.out.bel ((Bel.drew _).trans hb5))
  refine hK.out _ _ ⟨hb5.keep hHeld.1, hb5.keep hHeld.2⟩ (fun hHeld => ?_)
  clear hK K
  refine wpAnyH_ready (rs := [6]) (by kernel_rfl) (by simp) ?_
  refine AllReadyH.cons (o := _) rfl (fun K hK => ?_) AllReadyH.nil
  go_simp
  go_simp
  rw [if_neg (by omega)]
  go_simp
  refine hK.out _ _ hHeld (fun hHeld => ?_)
  clear hK K
  refine wpAnyH_ready (rs := [7]) (by kernel_rfl) (by simp) ?_
  refine AllReadyH.cons (o := _) rfl (fun K hK => ?_) AllReadyH.nil
  go_simp
  go_simp
  rw [if_neg (by omega)]
  go_simp
  refine hK.out _ _ hHeld (fun hHeld => ?_)
  clear hK K
  refine wpAnyH_ready (rs := [8]) (by kernel_rfl) (by simp) ?_
  refine AllReadyH.cons (o := _) rfl (fun K hK => ?_) AllReadyH.nil
  go_simp
  go_simp
  obtain ⟨U1, h1, k1, l1, s1⟩ := alloc_step w5 9 [.string (⟨#[102, 117, 110, 99, 116, 105, 111, 110, 40]⟩ ++ J ++ ⟨#[41, 32]⟩)]
  rw [h1]
  refine hK.out _ _ ⟨l1.keep hHeld.1, l1.keep hHeld.2⟩ (fun hHeld => ?_)
  clear hK K
  refine wpAnyH_ready (rs := [9]) (by kernel_rfl) (by simp) ?_
  refine AllReadyH.cons (o := _) rfl (fun K hK => ?_) AllReadyH.nil
  go_simp
  go_at_call 98
  refine (HWO.out _ U1 k1 (HP5.out.bel l1)).mono ?_
  rintro e6 w6 ⟨rfl, hp6, ht6⟩
  dsimp only
  have HK6 := Lib.hid (ht6.blk (HK5.out.bel l1) keep_ex)
  refine hK.out _ _ ⟨HK6.out.at 3, HK6.out.at 2⟩ (fun hHeld => ?_)
  clear hK K
  refine wpAnyH_done (by kernel_rfl) ?_ _
  go_wp2_with fail
  go_end0
  exact ⟨rfl, hp6, HT5.out.trans ((KeepT.of_bel (p := keepP) l1).trans ht6)⟩
set_option maxRecDepth 100000 in
set_option maxHeartbeats 4000000 in
theorem p_span_c (u : World) (b mb : Nat) (bare : Bool) (k : Int) (s : ByteArray) (ns : List ByteArray) (l : List Ex) (na : Option Addr) (nn nc : Nat) (la : Option Addr) (ln lc : Nat) (bs : List UInt8) (w : World) (hs : s.size ≤ 1073741824) (hl : l.length = ln) (hlc : ln ≤ lc) (hln : ln ≤ 1073741824) (hn : ns.length = nn) (hnn : nn ≤ 1073741824) (hl0 : l.length = 2) (hs2 : s.size = 2)
    (hp : PartsAt u la l) (hnm : NamesAt u na ns) (hx : ∀ x ∈ l, PartOk u b mb bare x) (h : PR u b mb bare bs w) (hlen : bs.length + (wordsT bare (l.map (ptOf bare)) [(btsOf s).take 1, [46, 46]] ++ (btsOf s).drop 1).length ≤ 140737488355328) :
    Calls Tryz.prog 69 #[.pointer (some ⟨b, 0, none⟩), .agg #[.int .i64 k, .string s, .slice na nn nc, .slice la ln lc]] w (RetP u b mb bare (bs ++ (wordsT bare (l.map (ptOf bare)) [(btsOf s).take 1, [46, 46]] ++ (btsOf s).drop 1)) w) := by
  have h1b : (btsOf s).take 1 = btsOf (s.extract 0 1) := by simp [btsOf]
  have h2b : (btsOf s).drop 1 = btsOf (s.extract 1 2) := by have h3 : btsOf (s.extract 1 2) = ((btsOf s).drop 1).take 1 := (by simp [btsOf]); rw [h3, List.take_of_length_le (by rw [List.length_drop, btsOf_len]; omega)]
  rw [h1b, h2b] at hlen ⊢
  clear h1b h2b
  have HEQ : ([btsOf (s.extract 0 1), [46, 46]] : List (List UInt8)) = ([s.extract 0 1, ⟨#[46, 46]⟩] : List ByteArray).map btsOf := by simp [btsOf]
  rw [HEQ] at hlen ⊢
  clear HEQ
  have HWO := Lib.hid (fun (wb : Nat) (W : World) (hwb : Blk W wb 9 (strsV [s.extract 0 1, ⟨#[46, 46]⟩])) (hW : PR u b mb bare bs W) => prwords_c u b mb bare l [s.extract 0 1, ⟨#[46, 46]⟩] la ln lc wb 2 bs W hl hln rfl (by omega) (by decide) hp hwb hx hW (by rw [List.length_append] at hlen; omega))
  obtain ⟨TW, hTW⟩ : ∃ T, wordsT bare (l.map (ptOf bare)) (([s.extract 0 1, ⟨#[46, 46]⟩] : List ByteArray).map btsOf) = T := ⟨_, rfl⟩
  rw [hTW] at HWO hlen ⊢
  clear hTW hl0
  obtain ⟨V1, h1, k1, l1, s1⟩ := alloc_step w 25 [.int .i64 k, .string s, .slice na nn nc, .slice la ln lc]
  have HV1 := Lib.hid h1
  have HP0 := Lib.hid (h.bel l1)
  have HT0 := Lib.hid (KeepT.of_bel (p := keepP) l1)
  have HK0 := Lib.hid k1
  have HL := Lib.hid hlen
  clear h1 k1 l1 s1 h hlen hp hx hnm hl hn
  go_enter Tryz.func69, Tryz.ntmps69
  go_upto_region 1 with fail
  rw [show w.alloc (.cells #[.int .i64 k, .string s, .slice na nn nc, .slice la ln lc] 25) = V1 from HV1.out]
  clear HV1
  have y3 := HK0.out.at 3
  have y1 := HK0.out.at 1
  refine wp_region_held_drew (S := fun w' => w'.cell? ⟨w.heap.size, 3, none⟩ = some (.slice la ln lc) ∧ w'.cell? ⟨w.heap.size, 1, none⟩ = some (.string s)) (by kernel_rfl) ⟨y3, y1⟩ (fun hHeld => ?_)
  refine wpAnyH_take (i := 0) (oi := _) (v := ?_) rfl (by kernel_rfl) (by kernel_rfl) (by kernel_rfl) (fun _ _ _ h => h) ?_ (by assumption) ?_
  rotate_left 1
  · first
      | (refine Or.inl ⟨by rfl, ?_⟩; intro w9 hSw; (try dsimp only at hSw); go_simp; (try with_reducible rfl); done)
      | (refine Or.inr ⟨by rfl, ?_⟩; rfl)
  simp only [List.getElem_toArray, List.getElem_cons_zero, Act.put, List.setIfInBounds_toArray, List.set_cons_zero, List.set_cons_succ]
  refine wpAnyH_take (i := 1) (oi := _) (v := ?_) rfl (by kernel_rfl) (by kernel_rfl) (by kernel_rfl) (fun _ _ _ h => h) ?_ (by assumption) ?_
  rotate_left 1
  · first
      | (refine Or.inl ⟨by rfl, ?_⟩; intro w9 hSw; (try dsimp only at hSw); go_simp; (try with_reducible rfl); done)
      | (refine Or.inr ⟨by rfl, ?_⟩; rfl)
  simp only [List.getElem_toArray, List.getElem_cons_succ, List.getElem_cons_zero, Act.put, List.setIfInBounds_toArray, List.set_cons_zero, List.set_cons_succ]
  refine wpAnyH_take (i := 2) (oi := _) (v := ?_) rfl (by kernel_rfl) (by kernel_rfl) (by kernel_rfl) (fun _ _ _ h => h) ?_ (by assumption) ?_
  rotate_left 1
  · first
      | (refine Or.inl ⟨by rfl, ?_⟩; intro w9 hSw; (try dsimp only at hSw); go_simp; (try with_reducible rfl); done)
      | (refine Or.inr ⟨by rfl, ?_⟩; rfl)
  simp only [List.getElem_toArray, List.getElem_cons_succ, List.getElem_cons_zero, Act.put, List.setIfInBounds_toArray, List.set_cons_zero, List.set_cons_succ]
  refine wpAnyH_take (i := 3) (oi := _) (v := ?_) rfl (by kernel_rfl) (by kernel_rfl) (by kernel_rfl) (fun _ _ _ h => h) ?_ (by assumption) ?_
  rotate_left 1
  · first
      | (refine Or.inl ⟨by rfl, ?_⟩; intro w9 hSw; (try dsimp only at hSw); go_simp; (try with_reducible rfl); done)
      | (refine Or.inr ⟨by rfl, ?_⟩; rfl)
  simp only [List.getElem_toArray, List.getElem_cons_succ, List.getElem_cons_zero, Act.put, List.setIfInBounds_toArray, List.set_cons_zero, List.set_cons_succ]
  refine wpAnyH_take (i := 4) (oi := _) (v := ?_) rfl (by kernel_rfl) (by kernel_rfl) (by kernel_rfl) (fun _ _ _ h => h) ?_ (by assumption) ?_
  rotate_left 1
  · first
      | (refine Or.inl ⟨by rfl, ?_⟩; intro w9 hSw; (try dsimp only at hSw); go_simp; (try with_reducible rfl); done)
      | (refine Or.inr ⟨by rfl, ?_⟩; rfl)
  simp only [List.getElem_toArray, List.getElem_cons_succ, List.getElem_cons_zero, Act.put, List.setIfInBounds_toArray, List.set_cons_zero, List.set_cons_succ]
  refine wpAnyH_take (i := 5) (oi := _) (v := ?_) rfl (by kernel_rfl) (by kernel_rfl) (by kernel_rfl) (fun _ _ _ h => h) ?_ (by assumption) ?_
  rotate_left 1
  · first
      | (refine Or.inl ⟨by rfl, ?_⟩; intro w9 hSw; (try dsimp only at hSw); go_simp; (try with_reducible rfl); done)
      | (refine Or.inr ⟨by rfl, ?_⟩; rfl)
  simp only [List.getElem_toArray, List.getElem_cons_succ, List.getElem_cons_zero, Act.put, List.setIfInBounds_toArray, List.set_cons_zero, List.set_cons_succ]
  refine wpAnyH_ready (rs := [6]) (by kernel_rfl) (by simp) ?_
  refine AllReadyH.cons (o := _) rfl (fun K hK => ?_) AllReadyH.nil
  go_simp
  go_simp
  obtain ⟨U1, h1, k1, l1, s1⟩ := alloc_step _ 9 [.string (s.extract 0 1), .string ⟨#[46, 46]⟩]
  rw [h1]
  have HP5 := Lib.hid (HP0.out.bel (l1.trans (Bel.drew _)))
  have HT5 := Lib.hid (HT0.out.trans (KeepT.of_bel (p := keepP) (l1.trans (Bel.drew _))))
  have HK5 := Lib.hid (HK0.out.bel (l1.trans (Bel.drew _)))
  refine hK.out _ _ ⟨l1.keep hHeld.1, l1.keep hHeld.2⟩ (fun hHeld => ?_)
  clear hK K
  refine wpAnyH_ready (rs := [7]) (by kernel_rfl) (by simp) ?_
  refine AllReadyH.cons (o := _) rfl (fun K hK => ?_) AllReadyH.nil
  go_simp
  go_at_call 98
  refine (HWO.out _ _ k1.drew HP5.out).mono ?_
  rintro e6 w6 ⟨rfl, hp, ht⟩
  dsimp only
  have HK6 := Lib.hid (ht.blk HK5.out keep_ex)
  refine hK.out _ _ ⟨HK6.out.at 3, HK6.out.at 1⟩ (fun hHeld => ?_)
  clear hK K
  refine wpAnyH_done (by kernel_rfl) ?_ _
  have HP1 := Lib.hid hp
  have HT1 := Lib.hid (HT5.out.trans ht)
  have HK1 := Lib.hid HK6.out
  clear hp ht HK6 HP5 HT5 HK5 HP0 HT0 HK0 hHeld y3 y1 h1 k1 l1 s1
  have y1 := HK1.out.at 1
  go_wp2_with fail
  obtain ⟨U1, h1, k1, l1, s1⟩ := alloc_step _ 9 [.string (s.extract 1 2)]
  rw [h1]
  have HA := Lib.hid (add_c u b mb bare _ [(s.extract 1 2)] _ 1 U1 (HP1.out.bel l1) k1 rfl (by decide) (by have := HL.out; simp [btsOf] at this ⊢; omega))
  have HT := Lib.hid (HT1.out.trans (KeepT.of_bel (p := keepP) l1))
  have HK := Lib.hid (HK1.out.bel l1)
  clear h1 k1 l1 s1
  refine HA.out.mono ?_
  clear HA
  rintro e1 w1 ⟨rfl, hp, ht⟩
  clear y1
  have HP2 := Lib.hid hp
  have HT2 := Lib.hid (HT.out.trans ht)
  have HK2 := Lib.hid (ht.blk HK.out keep_ex)
  clear hp ht HT HK HP1 HT1 HK1
  go_wp2_with fail
  go_end0
  exact ⟨rfl, by simpa [btsOf] using HP2.out, HT2.out⟩
end Go.Proofs.YtpenfnabeckboaaGreatDoor
