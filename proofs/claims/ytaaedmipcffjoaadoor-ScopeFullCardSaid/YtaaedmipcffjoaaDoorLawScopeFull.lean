/-
  The walk of the law ScopeFull: whatever the number: true.
-/
import Derived.Test.YtaaedmipcffjoaaDoorSCI
import Derived.Test.YtaaedmipcffjoaaDoorSCE
import Derived.Test.YtaaedmipcffjoaaDoorSCN
import Derived.Test.YtaaedmipcffjoaaDoorUA
import Derived.Laws.Bits128
namespace Go.Proofs.YtaaedmipcffjoaaDoor
open Go.RowKit

theorem info_str6 : (Tryd.prog.info? 9).map (fun i => (i.zero, i.size, i.bytes)) = some (some (.string ⟨#[]⟩), 1, 16) := by kernel_rfl
theorem i64_and15 (n : Int) : bits .and .i64 n 15 = n % 16 := by
  have h15 : (BitVec.ofInt 64 15).toNat = 2 ^ 4 - 1 := by decide
  have key : (BitVec.ofInt 64 n &&& BitVec.ofInt 64 15).toNat = (n % ((2 ^ 64 : Nat) : Int)).toNat % 2 ^ 4 := by
    rw [BitVec.toNat_and, BitVec.toNat_ofInt, h15, Nat.and_two_pow_sub_one_eq_mod]
  show IntKind.i64.wrap ((BitVec.ofInt 64 n &&& BitVec.ofInt 64 15).toNat : Nat) = n % 16
  rw [key, IntKind.wrap_i64]
  omega

theorem u8_of (x : Nat) (h : x < 159) : (97 : Int) + x = ((97 + UInt8.ofNat x : UInt8).toNat : Int) := by
  rw [UInt8.toNat_add, UInt8.toNat_ofNat']
  show (97 : Int) + x = (((97 + x % 2 ^ 8) % 2 ^ 8 : Nat) : Int)
  omega
/-- 'string([]byte{x, y, z})'. -/
theorem three_bytes (W : World) (a b c : Int) (x y z : UInt8) (ha : a = x.toNat) (hb : b = y.toNat) (hc : c = z.toNat) :
    (convert 40 9 (.slice (some ⟨W.heap.size, 0, none⟩) 3 3)).run Tryd.prog (W.alloc (.cells #[.int .u8 a, .int .u8 b, .int .u8 c] 5)) = .ok (.string ⟨#[x, y, z]⟩) (W.alloc (.cells #[.int .u8 a, .int .u8 b, .int .u8 c] 5)) := by
  have := run_convert_bytes_back (P := Tryd.prog) (W.alloc (.cells #[.int .u8 a, .int .u8 b, .int .u8 c] 5)) 40 9 5 ⟨W.heap.size, 0, none⟩ 3 [x, y, z] Tryd.underlying40 Tryd.underlying5 Tryd.underlying9 (fun j hj => by
    match j, hj with
    | 0, _ => rw [show (⟨W.heap.size, 0, none⟩ : Addr).add 0 = ⟨W.heap.size, 0, none⟩ from by simp [Addr.add]]; simp [ha]
    | 1, _ => rw [show (⟨W.heap.size, 0, none⟩ : Addr).add 1 = ⟨W.heap.size, 1, none⟩ from by simp [Addr.add]]; simp [hb]
    | 2, _ => rw [show (⟨W.heap.size, 0, none⟩ : Addr).add 2 = ⟨W.heap.size, 2, none⟩ from by simp [Addr.add]]; simp [hc])
  exact this

theorem cell_one_new2 (W : World) (A : Obj) (v : Value) (t : TypeId) : ∀ j u, [v][j]? = some u → ((W.alloc A).alloc (.cells #[v] t)).cell? ((⟨W.heap.size + 1, 0, none⟩ : Addr).add j) = some u := by
  have := cell_one_new (W.alloc A) v t
  rw [World.size_alloc] at this
  exact this

set_option maxRecDepth 100000 in
set_option maxHeartbeats 8000000 in
theorem scopeFull_walk {w : World} (n : Int) (hn : (Lit.int .i64 n).wf = true) (hE : Env w) :
    Calls Tryd.prog 6 #[.int .i64 n] w (RetBel (.bool true) w) := by
  obtain ⟨m, hm⟩ : ∃ m : Int, max 0 n = m := ⟨_, rfl⟩
  have hm0 : 0 ≤ m := by omega
  have hmt : m.tmod 6 = m % 6 := Int.tmod_eq_emod_of_nonneg hm0
  obtain ⟨k, hk⟩ : ∃ k : Nat, 4093 + m % 6 = k := ⟨(4093 + m % 6).toNat, by omega⟩
  have hk1 : 4093 ≤ k := by omega
  have hk2 : k ≤ 4098 := by omega
  have hal := fun w1 (hb : Bel w w1) => salive_c w1 (hE.bel hb)
  have HA := Lib.hid hal
  have HE := Lib.hid hE
  clear hal hE hn
  go_enter Tryd.func6, Tryd.ntmps6
  go_wp2_with fail
  go_loopw [4, 17] (fun s i wr => ∃ (j : Nat) (o : Value), o = s ∧ j ≤ k ∧ i = .int .i64 j ∧ Bel w wr ∧ wr.ownsRow w.heap.size 9 1 o j (strsV (nmL j))) (fun _ i _ => k - (intOf i).toNat)
  case atStart => exact ⟨0, _, rfl, Nat.zero_le _, rfl, Bel.refl _, World.ownsRow_nil _ _ _ _⟩
  case round =>
    obtain ⟨j, o, rfl, hj, rfl, hbel, hown⟩ := hrel
    by_cases hjk : j < k
    · have hji : (j : Int) < k := by omega
      have a1 : bits .and .i64 (j : Int) 15 = ((j % 16 : Nat) : Int) := by rw [i64_and15]; omega
      have a2 : bits .and .i64 ((j : Int) / 16) 15 = ((j / 16 % 16 : Nat) : Int) := by rw [i64_and15]; omega
      have hcv := three_bytes wr (97 + (j : Int) % 16) (97 + (j : Int) / 16 % 16) (97 + (j : Int) / 256) (97 + UInt8.ofNat (j % 16)) (97 + UInt8.ofNat (j / 16 % 16)) (97 + UInt8.ofNat (j / 256)) (by rw [← u8_of _ (by omega)]; omega) (by rw [← u8_of _ (by omega)]; omega) (by rw [← u8_of _ (by omega)]; omega)
      obtain ⟨x, hx⟩ : ∃ x : ByteArray, ⟨#[97 + UInt8.ofNat (j % 16), 97 + UInt8.ofNat (j / 16 % 16), 97 + UInt8.ofNat (j / 256)]⟩ = x := ⟨_, rfl⟩
      rw [hx] at hcv
      have hxs : x.size = 3 := by rw [← hx]; rfl
      have hnm : (⟨#[110]⟩ : ByteArray) ++ x = nmS j := by rw [← hx]; rfl
      have HNM := Lib.hid hnm
      have HOWN := Lib.hid hown
      clear hx hnm hown
      go_wp2_with (at_builtin; refine wpL_append1 rfl _ _ 22 rfl w 9 (.string ⟨#[]⟩) 1 16 Tryd.underlying22 info_str6 rfl (by decide) (by decide) o j (strsV (nmL j)) rfl ((HOWN.out.alloc _).alloc _) ⟨wr.heap.size + 1, 0, none⟩ 1 [.string (⟨#[110]⟩ ++ x)] rfl rfl (cell_one_new2 _ _ _ _) (by simp [Value.oneCell']) (by omega) ((hbel.to_alloc _).to_alloc _) ?_; intro g cp w2 hown2 hb3 _)
      refine ⟨⟨j + 1, _, rfl, by omega, by go_num, hb3, ?_⟩, by simp [intOf]; omega⟩
      rw [nmL_succ, ← HNM.out]
      simpa [strsV] using hown2
    · obtain rfl : j = k := by omega
      have hrow := own_row hown
      obtain ⟨a0, c0, rfl, hc0⟩ := row0_form hrow j (by rw [strsV_length, nmL_length])
      obtain ⟨b, off, rfl, hlt, hcap, hce⟩ := hc0 (by omega)
      have hnew := fun w1 (hb : Bel wr w1) => new_c _ (nmL j) w1 (HE.out.bel (hbel.trans hb)) (hrow.bel hb) (by rw [nmL_length]; omega) (fun x hx => by rw [nmL_size j x hx]; omega)
      have h5 : ∀ w1, Bel wr w1 → RowAt0 w1 (.slice (some ⟨b, off, none⟩) 5 c0) (strsV ((nmL j).take 5)) := by
        intro w1 hb
        have h5l : (strsV ((nmL j).take 5)).length = 5 := by rw [strsV_length, List.length_take, nmL_length]; omega
        refine .inr ⟨b, off, c0, by rw [h5l], by rw [h5l]; omega, Nat.lt_of_lt_of_le hlt hb.size, fun i hi => ?_⟩
        rw [h5l] at hi
        rw [hb.cell hlt, hce i (by omega)]
        simp [strsV]
      have hal2 := fun w1 (hb : Bel wr w1) => HA.out w1 (hbel.trans hb)
      have HAL := Lib.hid hal2
      have HB := Lib.hid hbel
      have H5 := Lib.hid h5
      have hcap5 : 5 ≤ c0 := by omega
      by_cases hov : 4096 < j
      · have hovi : (4096 : Int) < j := by omega
        rw [full_over j hov hk2] at hnew
        have HN := Lib.hid hnew
        clear hnew hrow hown h5 hal2 hce hc0 hbel
        go_wp2_with fail
        refine (HN.out _ (Bel.refl _)).mono ?_
        rintro e w2 ⟨hb2, rfl⟩
        go_wp2_with fail
        refine (HAL.out _ hb2).mono ?_
        rintro e w3 ⟨rfl, hb3⟩
        go_wp2_with fail
        go_ret
        exact ⟨rfl, HB.out.trans (hb2.trans hb3)⟩
      · have hovi : (j : Int) ≤ 4096 := by omega
        obtain ⟨M, e1, hM, e2, e3, e4⟩ := full_new j (by omega)
        rw [e1] at hnew
        have HN := Lib.hid hnew
        have HM := Lib.hid hM
        have E2 := Lib.hid e2
        have E3 := Lib.hid e3
        have E4 := Lib.hid e4
        clear hnew hrow hown h5 hal2 hce hc0 hbel e1 hM e2 e3 e4
        go_wp2_with fail
        refine (HN.out _ (Bel.refl _)).mono ?_
        rintro e w2 ⟨hb2, p, rfl, hp⟩
        obtain ⟨po, rfl⟩ := scope_ptr hp
        have hlen := len_c _ M w2 hp
        rw [HM.out] at hlen
        have hwi1 := fun w3 (hb : Bel w2 w3) => with_c _ M (.slice (some ⟨b, off, none⟩) 5 c0) ((nmL j).take 5) w3 (HE.out.bel ((HB.out.trans hb2).trans hb)) (hp.bel hb) (H5.out w3 (hb2.trans hb)) (by rw [List.length_take]; omega) (fun x hx => by rw [nmL_size j x (List.mem_of_mem_take hx)]; omega)
        rw [E2.out] at hwi1
        have hwi2 := fun w3 (hb : Bel w2 w3) => with_c _ M (.slice (some ⟨w3.heap.size, 0, none⟩) 3 3) [⟨#[120]⟩, ⟨#[121]⟩, ⟨#[122]⟩] (w3.alloc (.cells #[.string ⟨#[120]⟩, .string ⟨#[121]⟩, .string ⟨#[122]⟩] 9)) (HE.out.bel (((HB.out.trans hb2).trans hb).to_alloc _)) (hp.bel (hb.to_alloc _)) (.inr (row_new w3 (strsV [⟨#[120]⟩, ⟨#[121]⟩, ⟨#[122]⟩]) 9)) (by simp) (fun x hx => by
          simp only [List.mem_cons, List.not_mem_nil, or_false] at hx
          rcases hx with rfl | rfl | rfl <;> decide)
        have HLEN := Lib.hid hlen
        have HW1 := Lib.hid hwi1
        have HW2 := Lib.hid hwi2
        clear hlen hwi1 hwi2 hp
        go_wp2_with fail
        refine HLEN.out.mono ?_
        rintro e w3 ⟨rfl, rfl⟩
        go_wp2_with fail
        refine (HW1.out _ (Bel.refl _)).mono ?_
        rintro e w4 ⟨hb4, p4, rfl, hp4⟩
        obtain ⟨po4, rfl⟩ := scope_ptr hp4
        have HP4 := Lib.hid hp4
        clear hp4
        by_cases h3 : j + 3 ≤ 4096
        · have h3i : (j : Int) + 3 ≤ 4096 := by omega
          obtain ⟨U, e5, hU⟩ := E3.out h3
          have hw2 := HW2.out w4 hb4
          rw [e5] at hw2
          have HX := Lib.hid hw2
          have HU := Lib.hid hU
          clear hw2 e5 hU
          go_wp2_with fail
          refine HX.out.mono ?_
          rintro e w5 ⟨hb5, p5, rfl, hp5⟩
          obtain ⟨po5, rfl⟩ := scope_ptr hp5
          have hb5' := (hb4.to_alloc _).trans hb5
          have hl4 := fun w6 (hb : Bel w5 w6) => len_c _ M w6 (HP4.out.bel (((Bel.alloc _ _).trans hb5).trans hb))
          have hl5 := fun w6 (hb : Bel w5 w6) => len_c _ U w6 (hp5.bel hb)
          rw [HM.out] at hl4
          rw [HU.out] at hl5
          have HL4 := Lib.hid hl4
          have HL5 := Lib.hid hl5
          clear hl4 hl5 hp5
          go_wp2_with fail
          refine (HAL.out _ (hb2.trans hb5')).mono ?_
          rintro e w6 ⟨rfl, hb6⟩
          go_wp2_with fail
          refine (HL4.out _ hb6).mono ?_
          rintro e w7 ⟨rfl, rfl⟩
          go_wp2_with fail
          refine (HL5.out _ hb6).mono ?_
          rintro e w8 ⟨rfl, rfl⟩
          go_wp2_with fail
          go_ret
          exact ⟨rfl, HB.out.trans ((hb2.trans hb5').trans hb6)⟩
        · have h3i : (4096 : Int) < (j : Int) + 3 := by omega
          have hw2 := HW2.out w4 hb4
          rw [E4.out h3] at hw2
          have HX := Lib.hid hw2
          clear hw2
          go_wp2_with fail
          refine HX.out.mono ?_
          rintro e w5 ⟨hb5, rfl⟩
          have hb5' := (hb4.to_alloc _).trans hb5
          have hl4 := fun w6 (hb : Bel w5 w6) => len_c _ M w6 (HP4.out.bel (((Bel.alloc _ _).trans hb5).trans hb))
          rw [HM.out] at hl4
          have HL4 := Lib.hid hl4
          clear hl4
          go_wp2_with fail
          refine (HAL.out _ (hb2.trans hb5')).mono ?_
          rintro e w6 ⟨rfl, hb6⟩
          go_wp2_with fail
          refine (HL4.out _ hb6).mono ?_
          rintro e w7 ⟨rfl, rfl⟩
          go_wp2_with fail
          go_ret
          have hdd : (!decide ((j : Int) + 3 ≤ 4096)) = true := by rw [decide_eq_false (by omega)]; rfl
          exact ⟨ret_bool hdd, HB.out.trans ((hb2.trans hb5').trans hb6)⟩
end Go.Proofs.YtaaedmipcffjoaaDoor
