/-
  The walk of the law LogicTables: whatever the sizes and the policy: true.
-/
import Derived.Test.YtchbhcjhoocjaaaGreatDoorLTW
namespace Go.Proofs.YtchbhcjhoocjaaaGreatDoor
open Go.RowKit

def keepE (t : TypeId) : Bool := t == 26
def keepR (t : TypeId) : Bool := t == 26 || t == 9 || t == 36
def keepQ (t : TypeId) : Bool := t == 36
def RowsR (W : World) (n k : Nat) (q : Value × Value) : Prop := W.ownsRow 0 36 3 q.1 n ((List.replicate n anyT).flatMap teC) ∧ W.ownsRow 0 26 4 q.2 k ((List.replicate k nullT).flatMap exC)
theorem RowsR.keep {W W' : World} {n k : Nat} {q : Value × Value} (h : RowsR W n k q) (hk : KeepT keepR W W') : RowsR W' n k q := ⟨hk.own h.1 (by decide), hk.own h.2 (by decide)⟩
theorem outs_snoc (j : Nat) : strsV (outsT (j + 1)) = strsV (outsT j) ++ [.string (outT j)] := by
  unfold outsT
  rw [List.range_succ, List.map_append]
  simp [strsV]
/-- How the table lies. -/
theorem tab_at {W : World} {p : ByteArray} {n k r : Nat} {vI vO vR : Value} {B1 B2 B3 : Nat} {ps : List (Value × Value)} (more : List Ru) (hI : W.ownsRow B1 26 4 vI n ((List.replicate n oneT).flatMap exC)) (hO : W.ownsRow B2 9 1 vO k (strsV (outsT k)))
    (hR : W.ownsRow B3 34 2 vR (r + more.length) (ps.flatMap ruC)) (hps : ps.length = r + more.length) (hrow : ∀ (i : Nat) (q : Value × Value), ps[i]? = some q → (i < r ∧ RowsR W n k q) ∨ (r ≤ i ∧ q = (.slice none 0 0, .slice none 0 0) ∧ more[i - r]? = some ⟨[], []⟩)) :
    LgAt W (tabL p (List.replicate n oneT) (outsT k) (List.replicate r (ruT n k) ++ more)) ⟨.slice none 0 0, .slice none 0 0, vI, vO, vR, .slice none 0 0, .slice none 0 0⟩ := by
  refine lgAt_mk (by decide) (exAt_leaf _ _ _ (by decide)) (exsV_own hI List.length_replicate (oneT_leaf n)) (strV_own hO (by unfold outsT; rw [List.length_map, List.length_range])) (rusV_own hR (by rw [List.length_append, List.length_replicate]) hps fun i q x hq hx => ?_) (strV_nil W) rfl (Nat.le_refl _) (.inl rfl)
  rcases hrow i q hq with ⟨hi, h1, h2⟩ | ⟨hi, rfl, h2⟩
  · rw [List.getElem?_append_left (by simpa using hi), List.getElem?_replicate, if_pos hi] at hx
    injection hx with hx
    subst hx
    exact ⟨tesV_own h1 List.length_replicate (anyT_leaf n), exsV_own h2 List.length_replicate (nullT_leaf k)⟩
  · rw [List.getElem?_append_right (by simpa using hi), List.length_replicate, h2] at hx
    injection hx with hx
    subst hx
    exact ⟨tesV_nil W, exsV_nil W⟩

theorem own_one {W : World} {B e m n : Nat} {v : Value} {xs : List Value} (h : W.ownsRow B e m v n xs) : v.oneCell' = true := by
  obtain ⟨_, ⟨rfl, _⟩ | ⟨g, cap, cur, rfl, _⟩⟩ := h <;> rfl
theorem rules_one {W : World} {n k : Nat} {ps : List (Value × Value)} (h : ∀ q ∈ ps, RowsR W n k q) : ∀ y ∈ ps.flatMap ruC, y.oneCell' = true := fun y hy => by
  obtain ⟨q, hq, hy⟩ := List.mem_flatMap.1 hy
  obtain ⟨h1, h2⟩ := h q hq
  rcases List.mem_cons.1 hy with rfl | hy
  · exact own_one h1
  · rw [List.mem_singleton.1 hy]; exact own_one h2
set_option maxRecDepth 100000 in
set_option maxHeartbeats 16000000 in
theorem logicTables_walk {w : World} (x0 x1 x2 : Nat) (h0 : x0 < 256) (h1 : x1 < 256) (h2 : x2 < 256) (p : ByteArray) (hp : p.size ≤ 1048576) (hE : EnvX w ∧ PolAt w) :
    Calls Tryz.prog 3 #[.agg #[.int .u8 x0, .int .u8 x1, .int .u8 x2], .string p] w (RetBel (.bool true) w) := by
  have HE := Lib.hid hE.1
  have HP := Lib.hid hE.2
  have HPS := Lib.hid hp
  obtain ⟨n, hn⟩ : ∃ n : Nat, n = x0 % 6 := ⟨_, rfl⟩
  obtain ⟨k, hk⟩ : ∃ k : Nat, k = 1 + x1 % 5 := ⟨_, rfl⟩
  obtain ⟨r, hr⟩ : ∃ r : Nat, r = x2 % 40 := ⟨_, rfl⟩
  have hn5 : n ≤ 5 := by omega
  have hk1 : 1 ≤ k := by omega
  have hk5 : k ≤ 5 := by omega
  have hr40 : r ≤ 39 := by omega
  have HN := Lib.hid hn
  have HK := Lib.hid hk
  have HR := Lib.hid hr
  obtain ⟨V1, z1, m1, l1, s1⟩ := alloc_step w 22 [.int .u8 x0, .int .u8 x1, .int .u8 x2]
  have c0 := m1.at 0
  have c1 := m1.at 1
  have c2 := m1.at 2
  have HV1 := Lib.hid z1
  have L1 := Lib.hid l1
  have S1 := Lib.hid s1
  clear hE hp hn hk hr m1 z1 l1 s1
  go_enter Tryz.func3, Tryz.ntmps3
  go_upto_region 1 with fail
  rw [show w.alloc (.cells #[.int .u8 x0, .int .u8 x1, .int .u8 x2] 22) = V1 from HV1.out]
  clear HV1
  go_cut [5, 6, 7] (fun v5 v6 v7 wx => v5 = .int .i64 n ∧ v6 = .int .i64 k ∧ v7 = .int .u8 x2 ∧ Bel w wx ∧ wx.heap.size = w.heap.size + 1)
  case first =>
    go_quiet (fail)
    go_wp2_with fail
    go_meet
    exact ⟨congrArg (Value.int .i64) (by have := HN.out; omega), congrArg (Value.int .i64) (by have := HK.out; omega), rfl, L1.out.to_drewN nq, by simp; exact S1.out⟩
  case rest =>
  obtain ⟨rfl, rfl, rfl, hb0, hs0⟩ := hcut
  generalize wc = W0 at hb0 hs0 ⊢
  obtain ⟨V2, z2, m2, l2, s2⟩ := alloc_step W0 30 [.int .i64 1, .int .i64 0, .string ⟨#[]⟩, .slice none 0 0, .slice none 0 0, .string p, .slice none 0 0, .slice none 0 0, .slice none 0 0, .slice none 0 0, .slice none 0 0]
  rw [hs0] at m2 s2
  have hbV : Bel w V2 := hb0.trans l2
  have HZ2 := Lib.hid z2
  have M2 := Lib.hid m2
  have HBV := Lib.hid hbV
  have HSV := Lib.hid s2
  clear z2 m2 l2 s2 hb0 hbV
  go_upto_region 3 with fail
  rw [show W0.alloc (.cells #[.int .i64 1, .int .i64 0, .string ⟨#[]⟩, .slice none 0 0, .slice none 0 0, .string p, .slice none 0 0, .slice none 0 0, .slice none 0 0, .slice none 0 0, .slice none 0 0] 30) = V2 from HZ2.out]
  clear HZ2
  have own1 : V2.ownsRow V2.heap.size 26 4 (.slice none 0 0) 0 [] := World.ownsRow_nil _ _ _ _
  have OWN1 := Lib.hid own1
  clear hs0 own1 L1 S1 c0 c1 c2
  go_wp2_with fail
  go_loopw [27] (fun i wr => ∃ j : Nat, j ≤ n ∧ i = .int .i64 j ∧ ∃ (a : Option Addr) (c : Nat), Blk wr (w.heap.size + 1) 30 [.int .i64 1, .int .i64 0, .string ⟨#[]⟩, .slice none 0 0, .slice none 0 0, .string p, .slice a j c, .slice none 0 0, .slice none 0 0, .slice none 0 0, .slice none 0 0] ∧ wr.ownsRow V2.heap.size 26 4 (.slice a j c) j ((List.replicate j oneT).flatMap exC) ∧ Bel w wr) (fun i _ => n - (intOf i).toNat)
  case atStart => exact ⟨0, Nat.zero_le _, rfl, none, 0, M2.out, OWN1.out, HBV.out⟩
  case round =>
    obtain ⟨j, hj, rfl, aI, cI, hbk, hown, hbel⟩ := hrel
    have HSZ := Lib.hid (show V2.heap.size ≤ wr.heap.size + 1 by have := hbk.lt; rw [HSV.out]; omega)
    have HJ := Lib.hid hj
    by_cases hlt : j < n
    · have hlti : (j : Int) < n := by omega
      have c6 := hbk.at 6
      have HBK := Lib.hid hbk
      have HBL := Lib.hid hbel
      have HSN := Lib.hid (flat_snoc exC oneT j)
      have HOW := Lib.hid hown
      clear hbk hbel hj hown
      go_wp2_with (at_builtin; refine wpL_append1k rfl _ _ 24 rfl V2.heap.size (by have := HSZ.out; simp; omega) 26 (.agg #[.int .i64 0, .string ⟨#[]⟩, .slice none 0 0, .slice none 0 0]) 4 72 Tryz.underlying24 info_exT rfl (by decide) (by decide) _ j _ rfl (own_bel HOW.out (Bel.alloc _ _)) ⟨wr.heap.size, 0, none⟩ 1 [.int .i64 0, .string ⟨#[49]⟩, .slice none 0 0, .slice none 0 0] rfl rfl (cellsN_new _ _ _) (by simp [Value.oneCell']) (by omega) ?_; intro g cap w3 hown3 hg3; have hbk3 := (HBK.out.bel (Bel.alloc _ _)).grown (own_bel HOW.out (Bel.alloc _ _)) hg3 (by decide); have hb3 := own_grown (own_bel HOW.out (Bel.alloc _ _)) (HBL.out.to_alloc _) hg3 (by have := HSV.out; omega); have e6 := hbk3.at 6; have f6 := hbk3.fz 6; have HOW3 := Lib.hid hown3; have HBK3 := Lib.hid hbk3; have HB3 := Lib.hid hb3; clear hown3 hg3 hbk3 hb3)
      have hne := own_ne HOW3.out HBK3.out (by decide)
      exact ⟨⟨j + 1, by omega, by go_num, _, _, HBK3.out.set 6 _, by rw [HSN.out]; exact own_set HOW3.out hne _, bel_setNew HB3.out (by omega) 6 _⟩, by simp [intOf]; omega⟩
    · have hjn : n = j := by have := HJ.out; omega
      subst hjn
      obtain ⟨Wa, rfl⟩ : ∃ W, W = wr := ⟨_, rfl⟩
      have hsa : w.heap.size + 1 < Wa.heap.size := hbk.lt
      have HSA := Lib.hid hsa
      have HI := Lib.hid hown
      have BKA := Lib.hid hbk
      have HBA := Lib.hid hbel
      clear hlt hj hbk hown hbel HSZ HJ M2 OWN1 HBV hsa
      go_wp2_with fail
      go_loopw [37] (fun i wr => ∃ j : Nat, j ≤ k ∧ i = .int .i64 j ∧ ∃ (a : Option Addr) (c : Nat), Blk wr (w.heap.size + 1) 30 [.int .i64 1, .int .i64 0, .string ⟨#[]⟩, .slice none 0 0, .slice none 0 0, .string p, .slice aI n cI, .slice a j c, .slice none 0 0, .slice none 0 0, .slice none 0 0] ∧ wr.ownsRow Wa.heap.size 9 1 (.slice a j c) j (strsV (outsT j)) ∧ KeepT keepE Wa wr ∧ Bel w wr) (fun i _ => k - (intOf i).toNat)
      case atStart => exact ⟨0, Nat.zero_le _, rfl, none, 0, BKA.out, World.ownsRow_nil _ _ _ _, KeepT.refl _ _, HBA.out⟩
      case round =>
        obtain ⟨j, hj2, rfl, aO, cO, hbk, hown, hkp, hbel⟩ := hrel
        have HJ := Lib.hid hj2
        have HKP := Lib.hid hkp
        have HSW := Lib.hid hkp.1
        clear hkp
        by_cases hlt : j < k
        · have hlti : (j : Int) < k := by omega
          have c7 := hbk.at 7
          have HBK := Lib.hid hbk
          have HBL := Lib.hid hbel
          have HOW := Lib.hid hown
          have hj5 : j ≤ 4 := by omega
          have q1 : IntKind.u8.wrap (j : Int) = (j : Int) := by unfold IntKind.wrap; simp [IntKind.bits, IntKind.signed]; omega
          have q2 : IntKind.u8.wrap (97 + (j : Int)) = 97 + (j : Int) := by unfold IntKind.wrap; simp [IntKind.bits, IntKind.signed]; omega
          have hcv := bytes_string _ _ _ (bytes_one wr (97 + j) (by omega))
          rw [show ((97 + j : Nat) : Int) = 97 + (j : Int) from by omega, show UInt8.ofNat (97 + j) = 97 + UInt8.ofNat j from by simp] at hcv
          have hsz : ¬ (9223372036854775807 < (⟨#[111]⟩ : ByteArray).size + (⟨#[97 + UInt8.ofNat j]⟩ : ByteArray).size) := by show ¬ (9223372036854775807 < 1 + 1); decide
          clear hbk hbel hj2 hown
          have HSN := Lib.hid (outs_snoc j)
          have e1 : wr.heap.size + 1 = (wr.alloc (.cells #[.int .u8 (97 + (j : Int))] 5)).heap.size := by simp
          have hbx := (Bel.alloc wr (.cells #[.int .u8 (97 + (j : Int))] 5)).trans (Bel.alloc _ (.cells #[.string (⟨#[111]⟩ ++ ⟨#[97 + UInt8.ofNat j]⟩)] 9))
          have HBX := Lib.hid hbx
          clear hbx e1
          go_wp2_with (at_builtin; refine wpL_append1k rfl _ _ 23 rfl Wa.heap.size (by have := HSW.out; simp; omega) 9 (.string ⟨#[]⟩) 1 16 Tryz.underlying23 info_str4 rfl (by decide) (by decide) _ j _ rfl (own_bel HOW.out HBX.out) ⟨wr.heap.size + 1, 0, none⟩ 1 [.string (⟨#[111]⟩ ++ ⟨#[97 + UInt8.ofNat j]⟩)] rfl rfl (fun i u hu => by have := cellsN_new (wr.alloc (.cells #[.int .u8 (97 + (j : Int))] 5)) [.string (⟨#[111]⟩ ++ ⟨#[97 + UInt8.ofNat j]⟩)] 9 i u hu; simpa using this) (by simp [Value.oneCell']) (by omega) ?_; intro g cap w3 hown3 hg3; have hbk3 := (HBK.out.bel HBX.out).grown (own_bel HOW.out HBX.out) hg3 (by decide); have hb3 := own_grown (own_bel HOW.out HBX.out) (HBL.out.trans HBX.out) hg3 (by have := HSA.out; omega); have hk3 := (HKP.out.trans (KeepT.of_bel HBX.out)).trans (KeepT.grow (own_bel HOW.out HBX.out) (p := keepE) (by decide) hg3); have e7 := hbk3.at 7; have f7 := hbk3.fz 7; have HOW3 := Lib.hid hown3; have HBK3 := Lib.hid hbk3; have HB3 := Lib.hid hb3; have HK3 := Lib.hid hk3; clear hown3 hg3 hbk3 hb3 hk3)
          have hne := own_ne HOW3.out HBK3.out (by decide)
          exact ⟨⟨j + 1, by omega, by go_num, _, _, HBK3.out.set 7 _, by rw [HSN.out]; exact own_set HOW3.out hne _, HK3.out.trans (KeepT.set HBK3.out (by decide) 7 _), bel_setNew HB3.out (by omega) 7 _⟩, by simp [intOf]; omega⟩
        · have hjk : k = j := by have := HJ.out; omega
          subst hjk
          obtain ⟨Wb, rfl⟩ : ∃ W, W = wr := ⟨_, rfl⟩
          have hsb : w.heap.size + 1 < Wb.heap.size := hbk.lt
          have HSB := Lib.hid hsb
          have HIB := Lib.hid (HKP.out.own HI.out (by decide))
          have HO := Lib.hid hown
          have BKB := Lib.hid hbk
          have HBB := Lib.hid hbel
          have hr2 : (x2 : Int) % 40 = (r : Int) := by have := HR.out; omega
          clear hlt hj2 hbk hown hbel HJ HKP HSW HSA HI BKA HBA hsb
          go_wp2_with fail
          rw [hr2]
          clear hr2
          go_loopw [54] (fun i wr => ∃ j : Nat, j ≤ r ∧ i = .int .u8 j ∧ ∃ (a : Option Addr) (c : Nat) (ps : List (Value × Value)), Blk wr (w.heap.size + 1) 30 [.int .i64 1, .int .i64 0, .string ⟨#[]⟩, .slice none 0 0, .slice none 0 0, .string p, .slice aI n cI, .slice aO k cO, .slice a j c, .slice none 0 0, .slice none 0 0] ∧ wr.ownsRow Wb.heap.size 34 2 (.slice a j c) j (ps.flatMap ruC) ∧ ps.length = j ∧ (∀ q ∈ ps, RowsR wr n k q) ∧ KeepT keepR Wb wr ∧ Bel w wr) (fun i _ => r - (intOf i).toNat)
          case atStart => exact ⟨0, Nat.zero_le _, rfl, none, 0, [], BKB.out, World.ownsRow_nil _ _ _ _, rfl, fun q hq => (by cases hq), KeepT.refl _ _, HBB.out⟩
          case round =>
            obtain ⟨j, hj, rfl, aR, cR, ps, hbk, hown, hps, hrow, hkp, hbel⟩ := hrel
            have HJ := Lib.hid hj
            have HKP := Lib.hid hkp
            have HPS2 := Lib.hid hps
            have HROW := Lib.hid hrow
            have HOWR := Lib.hid hown
            have HBK := Lib.hid hbk
            have HBL := Lib.hid hbel
            obtain ⟨Wc, rfl⟩ : ∃ W, W = wr := ⟨_, rfl⟩
            clear hkp hps hrow hown hbk hbel hj
            by_cases hlt : j < r
            · have hlti : (j : Int) < r := by omega
              go_wp2_with fail
              obtain ⟨Wd, zd, md, ld, sd⟩ := alloc_step Wc 34 [.slice none 0 0, .slice none 0 0]
              rw [zd]
              have MD := Lib.hid md
              have LD := Lib.hid ld
              have SD := Lib.hid sd
              clear zd md ld sd
              go_loopw [58] (fun i wr => ∃ q : Nat, q ≤ n ∧ i = .int .i64 q ∧ ∃ (a : Option Addr) (c : Nat), Blk wr Wc.heap.size 34 [.slice a q c, .slice none 0 0] ∧ wr.ownsRow Wd.heap.size 36 3 (.slice a q c) q ((List.replicate q anyT).flatMap teC) ∧ Bel Wc wr) (fun i _ => n - (intOf i).toNat)
              case atStart => exact ⟨0, Nat.zero_le _, rfl, none, 0, MD.out, World.ownsRow_nil _ _ _ _, LD.out⟩
              case round =>
                obtain ⟨q, hq, rfl, a1, d1, hbk, hown, hbel⟩ := hrel
                have HSZ := Lib.hid (show Wd.heap.size ≤ wr.heap.size by have := hbk.lt; rw [SD.out]; omega)
                have HQ := Lib.hid hq
                by_cases hlq : q < n
                · have hlqi : (q : Int) < n := by omega
                  have c0 := hbk.at 0
                  have HBKQ := Lib.hid hbk
                  have HBLQ := Lib.hid hbel
                  have HSN := Lib.hid (flat_snoc teC anyT q)
                  have HOW := Lib.hid hown
                  clear hbk hbel hq hown
                  go_wp2_with (at_builtin; refine wpL_append1k rfl _ _ 32 rfl Wd.heap.size (by have := HSZ.out; simp; omega) 36 (.agg #[.bool false, .bool false, .slice none 0 0]) 3 32 Tryz.underlying32 info_teT rfl (by decide) (by decide) _ q _ rfl (own_bel HOW.out (Bel.alloc _ _)) ⟨wr.heap.size, 0, none⟩ 1 [.bool true, .bool false, .slice none 0 0] rfl rfl (cellsN_new _ _ _) (by simp [Value.oneCell']) (by omega) ?_; intro g cap w3 hown3 hg3; have hbk3 := (HBKQ.out.bel (Bel.alloc _ _)).grown (own_bel HOW.out (Bel.alloc _ _)) hg3 (by decide); have hb3 := own_grown (own_bel HOW.out (Bel.alloc _ _)) (HBLQ.out.to_alloc _) hg3 (by have := SD.out; omega); have e0 := hbk3.at 0; have f0 := hbk3.fz 0; have HOW3 := Lib.hid hown3; have HBK3 := Lib.hid hbk3; have HB3 := Lib.hid hb3; clear hown3 hg3 hbk3 hb3)
                  have hne := own_ne HOW3.out HBK3.out (by decide)
                  exact ⟨⟨q + 1, by omega, by go_num, _, _, HBK3.out.set 0 _, by rw [HSN.out]; exact own_set HOW3.out hne _, bel_setNew HB3.out (Nat.le_refl _) 0 _⟩, by simp [intOf]; omega⟩
                · have hqn : n = q := by have := HQ.out; omega
                  subst hqn
                  obtain ⟨We, rfl⟩ : ∃ W, W = wr := ⟨_, rfl⟩
                  have hse : Wc.heap.size < We.heap.size := hbk.lt
                  have HSE := Lib.hid hse
                  have HU1 := Lib.hid hown
                  have BKE := Lib.hid hbk
                  have HBE := Lib.hid hbel
                  clear hlq hq hbk hown hbel HSZ HQ MD LD SD hse
                  go_wp2_with fail
                  go_loopw [68] (fun i wr => ∃ q : Nat, q ≤ k ∧ i = .int .i64 q ∧ ∃ (a : Option Addr) (c : Nat), Blk wr Wc.heap.size 34 [.slice a1 n d1, .slice a q c] ∧ wr.ownsRow We.heap.size 26 4 (.slice a q c) q ((List.replicate q nullT).flatMap exC) ∧ KeepT keepQ We wr ∧ Bel Wc wr) (fun i _ => k - (intOf i).toNat)
                  case atStart => exact ⟨0, Nat.zero_le _, rfl, none, 0, BKE.out, World.ownsRow_nil _ _ _ _, KeepT.refl _ _, HBE.out⟩
                  case round =>
                    obtain ⟨q, hq, rfl, a2, d2, hbk, hown, hkq, hbel⟩ := hrel
                    have HKQ := Lib.hid hkq
                    have HQ := Lib.hid hq
                    have HSW := Lib.hid hkq.1
                    clear hkq
                    by_cases hlq : q < k
                    · have hlqi : (q : Int) < k := by omega
                      have c1 := hbk.at 1
                      have HBKQ := Lib.hid hbk
                      have HBLQ := Lib.hid hbel
                      have HSN := Lib.hid (flat_snoc exC nullT q)
                      have HOW := Lib.hid hown
                      clear hbk hbel hq hown
                      go_wp2_with (at_builtin; refine wpL_append1k rfl _ _ 24 rfl We.heap.size (by have := HSW.out; simp; omega) 26 (.agg #[.int .i64 0, .string ⟨#[]⟩, .slice none 0 0, .slice none 0 0]) 4 72 Tryz.underlying24 info_exT rfl (by decide) (by decide) _ q _ rfl (own_bel HOW.out (Bel.alloc _ _)) ⟨wr.heap.size, 0, none⟩ 1 [.int .i64 2, .string ⟨#[110, 117, 108, 108]⟩, .slice none 0 0, .slice none 0 0] rfl rfl (cellsN_new _ _ _) (by simp [Value.oneCell']) (by omega) ?_; intro g cap w3 hown3 hg3; have hbk3 := (HBKQ.out.bel (Bel.alloc _ _)).grown (own_bel HOW.out (Bel.alloc _ _)) hg3 (by decide); have hb3 := own_grown (own_bel HOW.out (Bel.alloc _ _)) (HBLQ.out.to_alloc _) hg3 (by have := HSE.out; omega); have hk3 := (HKQ.out.trans (KeepT.of_bel (Bel.alloc _ _))).trans (KeepT.grow (own_bel HOW.out (Bel.alloc _ _)) (p := keepQ) (by decide) hg3); have e1 := hbk3.at 1; have f1 := hbk3.fz 1; have HOW3 := Lib.hid hown3; have HBK3 := Lib.hid hbk3; have HB3 := Lib.hid hb3; have HK3 := Lib.hid hk3; clear hown3 hg3 hbk3 hb3 hk3)
                      have hne := own_ne HOW3.out HBK3.out (by decide)
                      exact ⟨⟨q + 1, by omega, by go_num, _, _, HBK3.out.set 1 _, by rw [HSN.out]; exact own_set HOW3.out hne _, HK3.out.trans (KeepT.set HBK3.out (by decide) 1 _), bel_setNew HB3.out (Nat.le_refl _) 1 _⟩, by simp [intOf]; omega⟩
                    · have hqk : k = q := by have := HQ.out; omega
                      subst hqk
                      have HU1F := Lib.hid (own_base (HKQ.out.own HU1.out (by decide)))
                      have HU2F := Lib.hid (own_base hown)
                      have HONE := Lib.hid (show ∀ z ∈ ([.slice a1 n d1, .slice a2 k d2] : List Value), z.oneCell' = true from fun z hz => by
                        rcases List.mem_cons.1 hz with rfl | hz
                        · exact own_one HU1F.out
                        · rw [List.mem_singleton.1 hz]; exact own_one HU2F.out)
                      have r0 := hbk.at 0
                      have r1 := hbk.at 1
                      have HBF := Lib.hid hbel
                      have c8 := (HBK.out.bel hbel).at 8
                      have HSF := Lib.hid (Nat.le_trans HKP.out.1 hbel.size)
                      have w8 : IntKind.u8.wrap ((j : Int) + 1) = ((j + 1 : Nat) : Int) := by unfold IntKind.wrap; simp [IntKind.bits, IntKind.signed]; omega
                      clear hlq hq hbk hown hbel HQ HSW HKQ HU1 BKE HBE HSE
                      go_wp2_with (at_builtin; refine wpL_append1k rfl _ _ 27 rfl Wb.heap.size (by have := HSF.out; simp; omega) 34 (.agg #[.slice none 0 0, .slice none 0 0]) 2 48 Tryz.underlying27 info_ruT rfl (by decide) (by decide) _ j _ rfl (own_bel HOWR.out (HBF.out.to_alloc _)) ⟨wr.heap.size, 0, none⟩ 1 [.slice a1 n d1, .slice a2 k d2] rfl rfl (cellsN_new _ _ _) HONE.out (by omega) ?_; intro g cap w3 hown3 hg3; have hbk3 := (HBK.out.bel (HBF.out.to_alloc _)).grown (own_bel HOWR.out (HBF.out.to_alloc _)) hg3 (by decide); have hb3 := own_grown (own_bel HOWR.out (HBF.out.to_alloc _)) (HBL.out.trans (HBF.out.to_alloc _)) hg3 (by have := HSB.out; omega); have hk3 := (KeepT.of_bel (Bel.alloc wr (.cells #[.slice a1 n d1, .slice a2 k d2] 34))).trans (KeepT.grow (own_bel HOWR.out (HBF.out.to_alloc _)) (p := keepR) (by decide) hg3); have e8 := hbk3.at 8; have f8 := hbk3.fz 8; have HOW3 := Lib.hid hown3; have HBK3 := Lib.hid hbk3; have HB3 := Lib.hid hb3; have HK3 := Lib.hid hk3; clear hown3 hg3 hbk3 hb3 hk3)
                      have hne := own_ne HOW3.out HBK3.out (by decide)
                      have hkf : KeepT keepR wr (w3.setCell ⟨w.heap.size + 1, 8, none⟩ (.slice (some ⟨g, 0, none⟩) (j + 1) cap)) := HK3.out.trans (KeepT.set HBK3.out (by decide) 8 _)
                      have hkc : KeepT keepR Wc (w3.setCell ⟨w.heap.size + 1, 8, none⟩ (.slice (some ⟨g, 0, none⟩) (j + 1) cap)) := (KeepT.of_bel HBF.out).trans hkf
                      refine ⟨⟨j + 1, by omega, by go_num, _, _, ps ++ [((.slice a1 n d1 : Value), (.slice a2 k d2 : Value))], HBK3.out.set 8 _, ?_, by rw [List.length_append, HPS2.out]; rfl, fun q hq => ?_, HKP.out.trans hkc, bel_setNew HB3.out (by omega) 8 _⟩, by simp [intOf]; omega⟩
                      · rw [List.flatMap_append]
                        exact own_set HOW3.out hne _
                      · rcases List.mem_append.1 hq with h | h
                        · exact (HROW.out q h).keep hkc
                        · rw [List.mem_singleton.1 h]
                          exact RowsR.keep ⟨HU1F.out, HU2F.out⟩ hkf
            · have hjr : r = j := by have := HJ.out; omega
              subst hjr
              have hI9 := HKP.out.own HIB.out (by decide)
              have hO9 := HKP.out.own HO.out (by decide)
              have HX : Hid (LgAt Wc (tabL p (List.replicate n oneT) (outsT k) (List.replicate r (ruT n k))) ⟨.slice none 0 0, .slice none 0 0, .slice aI n cI, .slice aO k cO, .slice aR r cR, .slice none 0 0, .slice none 0 0⟩) := Lib.hid (by
                have h := tab_at (p := p) (r := r) [] hI9 hO9 HOWR.out HPS2.out (fun i q hq => .inl ⟨by have := (List.getElem?_eq_some_iff.1 hq).1; have := HPS2.out; omega, HROW.out q (List.mem_of_getElem? hq)⟩)
                rwa [List.append_nil] at h)
              have HI9 := Lib.hid hI9
              have HO9 := Lib.hid hO9
              have HWB := Lib.hid (tab_bulk p n k hn5 hk5 (List.replicate r (ruT n k)) (by rw [rbulks_rep]; have := Nat.mul_le_mul_right (ruT n k).bulk (show r ≤ 40 by omega); omega))
              obtain ⟨C, hC⟩ : ∃ C : Nat, (if p ∈ polS then 0 else 17) = C := ⟨_, rfl⟩
              have HCK : Hid (∀ W, Bel Wc W → Calls Tryz.prog 8 #[.agg #[.int .i64 1, .int .i64 0, .string ⟨#[]⟩, .slice none 0 0, .slice none 0 0, .string p, .slice aI n cI, .slice aO k cO, .slice aR r cR, .slice none 0 0, .slice none 0 0]] W (RetBel (.int .i64 C) W)) := Lib.hid fun W hW => by
                have h := check_lx _ _ W (HE.out.bel (HBL.out.trans hW)) (HP.out.bel (HBL.out.trans hW)) (Nat.le_trans HWB.out (by have := HPS.out; omega)) (LgAt.bel hW _ HX.out)
                rw [tab_right p n k r hk1 hk5, hC] at h
                exact h
              have HFR : Hid (∀ W, Bel Wc W → p ∈ polS → Calls Tryz.prog 12 #[.agg #[.int .i64 1, .int .i64 0, .string ⟨#[]⟩, .slice none 0 0, .slice none 0 0, .string p, .slice aI n cI, .slice aO k cO, .slice aR r cR, .slice none 0 0, .slice none 0 0]] W (RetRow0 [] W)) := Lib.hid fun W hW hpp => by
                have h := free_lx _ _ W (CheckL_ok (by rw [tab_right p n k r hk1 hk5, if_pos hpp])) (Nat.le_trans HWB.out (by have := pol_size hpp; omega)) (LgAt.bel hW _ HX.out)
                rw [tab_free, uniq_nil] at h
                exact h
              have HCC := Lib.hid hC
              have HHS := Lib.hid (fun W v (hv : RowAt0 W v (strsV polS)) => rhas_c v polS p W hv (by decide))
              have c0 := Blk.at HBK.out 0
              have c1 := Blk.at HBK.out 1
              have c2 := Blk.at HBK.out 2
              have c3 := Blk.at HBK.out 3
              have c4 := Blk.at HBK.out 4
              have c5 := Blk.at HBK.out 5
              have c6 := Blk.at HBK.out 6
              have c7 := Blk.at HBK.out 7
              have c8 := Blk.at HBK.out 8
              have c9 := Blk.at HBK.out 9
              have c10 := Blk.at HBK.out 10
              clear hlt hI9 hO9 hC
              go_wp2_with fail
              refine (HCK.out _ (Bel.refl _)).mono ?_
              rintro e1 w1 ⟨rfl, hb1⟩
              have HB1 := Lib.hid hb1
              clear hb1 c0 c1 c2 c3 c4 c5 c6 c7 c8 c9 c10
              go_wp2_with fail
              refine (rpolicies_c _).mono ?_
              rintro e2 w2 ⟨pa, pn, pc, rfl, hpn, hpr, hb2⟩
              have HPR := Lib.hid hpr
              have HB2 := Lib.hid (HB1.out.trans hb2)
              clear hpr hb2 hpn
              go_wp2_with fail
              refine (HHS.out _ _ HPR.out).mono ?_
              rintro e3 w3 ⟨rfl, hb3⟩
              have HB3 := Lib.hid (HB2.out.trans hb3)
              clear hb3
              by_cases hpp : p ∈ polS
              · have hd : decide (p ∈ polS) = true := decide_eq_true hpp
                have hC0 : C = 0 := by rw [← HCC.out, if_pos hpp]
                have HPP := Lib.hid hpp
                subst hC0
                have c0 := Blk.at HBK.out 0
                have c1 := Blk.at HBK.out 1
                have c2 := Blk.at HBK.out 2
                have c3 := Blk.at HBK.out 3
                have c4 := Blk.at HBK.out 4
                have c5 := Blk.at HBK.out 5
                have c6 := Blk.at HBK.out 6
                have c7 := Blk.at HBK.out 7
                have c8 := Blk.at HBK.out 8
                have c9 := Blk.at HBK.out 9
                have c10 := Blk.at HBK.out 10
                have d0 := Bel.keep HB3.out c0
                have d1 := Bel.keep HB3.out c1
                have d2 := Bel.keep HB3.out c2
                have d3 := Bel.keep HB3.out c3
                have d4 := Bel.keep HB3.out c4
                have d5 := Bel.keep HB3.out c5
                have d6 := Bel.keep HB3.out c6
                have d7 := Bel.keep HB3.out c7
                have d8 := Bel.keep HB3.out c8
                have d9 := Bel.keep HB3.out c9
                have d10 := Bel.keep HB3.out c10
                rw [hd]
                clear hpp hd c0 c1 c2 c3 c4 c5 c6 c7 c8 c9 c10
                obtain ⟨W4, z4, k4, l4, s4⟩ := alloc_step w3 30 [.int .i64 1, .int .i64 0, .string ⟨#[]⟩, .slice none 0 0, .slice none 0 0, .string p, .slice aI n cI, .slice aO k cO, .slice aR r cR, .slice none 0 0, .slice none 0 0]
                have HZ4 := Lib.hid z4
                have K4 := Lib.hid k4
                have L4 := Lib.hid l4
                have S4 := Lib.hid s4
                clear z4 k4 l4 s4
                go_upto_region 29 with fail
                rw [show w3.alloc (.cells #[.int .i64 1, .int .i64 0, .string ⟨#[]⟩, .slice none 0 0, .slice none 0 0, .string p, .slice aI n cI, .slice aO k cO, .slice aR r cR, .slice none 0 0, .slice none 0 0] 30) = W4 from HZ4.out]
                have b8 : w.heap.size + 1 < W4.heap.size := by have := cell_lt d8; rw [S4.out]; omega
                have f8 := L4.out.keep d8
                have HFR4 := Lib.hid (own_freshN W4 34 2 W4.heap.size (Nat.le_refl _))
                have HBC4 := Lib.hid (HB3.out.trans L4.out)
                have D := Lib.hid (And.intro d0 (And.intro d1 (And.intro d2 (And.intro d3 (And.intro d4 (And.intro d5 (And.intro d6 (And.intro d7 (And.intro d8 (And.intro d9 d10))))))))))
                clear HZ4 d0 d1 d2 d3 d4 d5 d6 d7 d8 d9 d10
                go_wp2_with (first
                  | (at_builtin; refine wpL_appendN rfl _ _ 27 rfl W4.heap.size (by simp) 34 (.agg #[.slice none 0 0, .slice none 0 0]) 2 48 Tryz.underlying27 info_ruT rfl (by decide) (by decide) _ 0 [] rfl HFR4.out _ Wb.heap.size r (ps.flatMap ruC) rfl (own_bel HOWR.out (HBC4.out.to_alloc _)) (rules_one HROW.out) (by omega) ?_; intro v5 w5 hown5 hg5; have kb5 := (K4.out.bel (Bel.alloc _ _)).grown HFR4.out hg5 (by decide); have hb5 := own_grown HFR4.out (Bel.alloc _ _) hg5 (Nat.le_refl _); have H5 := Lib.hid (show w5.ownsRow W4.heap.size 34 2 v5 r (ps.flatMap ruC) by simpa using hown5); have KB5 := Lib.hid kb5; have HB5 := Lib.hid hb5; clear hown5 hg5 kb5 hb5)
                  | (at_builtin; refine wpL_append1k rfl _ _ 27 rfl W4.heap.size (by have := HB5.out.size; simp; omega) 34 (.agg #[.slice none 0 0, .slice none 0 0]) 2 48 Tryz.underlying27 info_ruT rfl (by decide) (by decide) _ r (ps.flatMap ruC) rfl (own_bel H5.out (Bel.alloc _ _)) ⟨w5.heap.size, 0, none⟩ 1 [.slice none 0 0, .slice none 0 0] rfl rfl (cellsN_new _ _ _) (by simp [Value.oneCell']) (by omega) ?_; intro g cap w6 hown6 hg6; have kb6 := (KB5.out.bel (Bel.alloc _ _)).grown (own_bel H5.out (Bel.alloc _ _)) hg6 (by decide); have hb6 := own_grown (own_bel H5.out (Bel.alloc _ _)) (HB5.out.to_alloc _) hg6 (Nat.le_refl _); have i8 := kb6.at 8; have j8 := kb6.fz 8; have H6 := Lib.hid hown6; have KB6 := Lib.hid kb6; have HB6 := Lib.hid hb6; clear hown6 hg6 kb6 hb6))
                obtain ⟨W7, hW7⟩ : ∃ W, w6.setCell ⟨w3.heap.size, 8, none⟩ (.slice (some ⟨g, 0, none⟩) (r + 1) cap) = W := ⟨_, rfl⟩
                have kb7 := KB6.out.set 8 (.slice (some ⟨g, 0, none⟩) (r + 1) cap)
                have hown7 := own_set H6.out (own_ne H6.out KB6.out (by decide)) (p := ⟨w3.heap.size, 8, none⟩) (.slice (some ⟨g, 0, none⟩) (r + 1) cap)
                have hb7 : Bel w3 (w6.setCell ⟨w3.heap.size, 8, none⟩ (.slice (some ⟨g, 0, none⟩) (r + 1) cap)) := bel_setNew (L4.out.trans HB6.out) (Nat.le_refl _) 8 _
                rw [hW7] at kb7 hown7 hb7
                have hbc7 := HB3.out.trans hb7
                have HXW : Hid (LgAt W7 (tabL p (List.replicate n oneT) (outsT k) (List.replicate r (ruT n k) ++ [⟨[], []⟩])) ⟨.slice none 0 0, .slice none 0 0, .slice aI n cI, .slice aO k cO, .slice (some ⟨g, 0, none⟩) (r + 1) cap, .slice none 0 0, .slice none 0 0⟩) := Lib.hid (by
                  have hrow2 : W7.ownsRow W4.heap.size 34 2 (.slice (some ⟨g, 0, none⟩) (r + 1) cap) (r + [(⟨[], []⟩ : Ru)].length) ((ps ++ [((.slice none 0 0 : Value), (.slice none 0 0 : Value))]).flatMap ruC) := by
                    have h := hown7
                    rw [List.flatMap_append, show r + [(⟨[], []⟩ : Ru)].length = r + 1 from rfl]
                    exact h
                  refine tab_at (p := p) (r := r) [⟨[], []⟩] (own_bel HI9.out hbc7) (own_bel HO9.out hbc7) hrow2 (by rw [List.length_append, HPS2.out]; rfl) (fun i q hq => ?_)
                  by_cases hi : i < r
                  · rw [List.getElem?_append_left (by rw [HPS2.out]; exact hi)] at hq
                    exact .inl ⟨hi, (HROW.out q (List.mem_of_getElem? hq)).keep (KeepT.of_bel hbc7)⟩
                  · rw [List.getElem?_append_right (by rw [HPS2.out]; omega), HPS2.out] at hq
                    have h0 : i - r = 0 := by have := (List.getElem?_eq_some_iff.1 hq).1; simp at this; omega
                    rw [h0] at hq
                    exact .inr ⟨by omega, (Option.some.inj hq).symm, by rw [h0]; rfl⟩)
                have HWW := Lib.hid (tab_bulk p n k hn5 hk5 (List.replicate r (ruT n k) ++ [⟨[], []⟩]) (by rw [rbulks_app, rbulks_rep, show rbulks [(⟨[], []⟩ : Ru)] = 2 from by decide]; have := Nat.mul_le_mul_right (ruT n k).bulk (show r ≤ 40 by omega); omega))
                have HCW : Hid (∀ W, Bel W7 W → Calls Tryz.prog 8 #[.agg #[.int .i64 1, .int .i64 0, .string ⟨#[]⟩, .slice none 0 0, .slice none 0 0, .string p, .slice aI n cI, .slice aO k cO, .slice (some ⟨g, 0, none⟩) (r + 1) cap, .slice none 0 0, .slice none 0 0]] W (RetBel (.int .i64 17) W)) := Lib.hid fun W hW => by
                  have h := check_lx _ _ W (HE.out.bel (HBL.out.trans (hbc7.trans hW))) (HP.out.bel (HBL.out.trans (hbc7.trans hW))) (Nat.le_trans HWW.out (by have := HPS.out; omega)) (LgAt.bel hW _ HXW.out)
                  rw [tab_wrong p n k r hk1 hk5] at h
                  exact h
                have KB7 := Lib.hid kb7
                have HB7 := Lib.hid hb7
                have HBC7 := Lib.hid hbc7
                rw [hW7]
                clear kb7 hown7 hb7 hbc7 hW7 i8 j8 f8 b8 H5 H6 KB5 KB6 HB5 HB6 K4 L4 S4
                go_wp2_with fail
                refine (lalive_c _ (HE.out.bel (HBL.out.trans HBC7.out)) (HP.out.bel (HBL.out.trans HBC7.out))).mono ?_
                rintro e8 w8 ⟨rfl, hb8⟩
                have kb8 := KB7.out.bel hb8
                have c0 := Blk.at kb8 0
                have c1 := Blk.at kb8 1
                have c2 := Blk.at kb8 2
                have c3 := Blk.at kb8 3
                have c4 := Blk.at kb8 4
                have c5 := Blk.at kb8 5
                have c6 := Blk.at kb8 6
                have c7 := Blk.at kb8 7
                have c8 := Blk.at kb8 8
                have c9 := Blk.at kb8 9
                have c10 := Blk.at kb8 10
                have HB8 := Lib.hid hb8
                clear kb8 hb8
                go_wp2_with fail
                refine (HCW.out _ HB8.out).mono ?_
                rintro e9 w9 ⟨rfl, hb9⟩
                have HB9 := Lib.hid (HB8.out.trans hb9)
                have hb39 := HB7.out.trans HB9.out
                obtain ⟨d0, d1, d2, d3, d4, d5, d6, d7, d8, d9, d10⟩ := D.out
                have f0 := Bel.keep hb39 d0
                have f1 := Bel.keep hb39 d1
                have f2 := Bel.keep hb39 d2
                have f3 := Bel.keep hb39 d3
                have f4 := Bel.keep hb39 d4
                have f5 := Bel.keep hb39 d5
                have f6 := Bel.keep hb39 d6
                have f7 := Bel.keep hb39 d7
                have f8 := Bel.keep hb39 d8
                have f9 := Bel.keep hb39 d9
                have f10 := Bel.keep hb39 d10
                clear c0 c1 c2 c3 c4 c5 c6 c7 c8 c9 c10 d0 d1 d2 d3 d4 d5 d6 d7 d8 d9 d10 D hb9 hb39
                go_wp2_with fail
                refine (HFR.out _ (HBC7.out.trans HB9.out) HPP.out).mono ?_
                rintro e10 w10 ⟨fa, fn, fc, rfl, hfn, hfr, hb10⟩
                obtain rfl : fn = 0 := hfn.symm
                have HB10 := Lib.hid (HBL.out.trans (HBC7.out.trans (HB9.out.trans hb10)))
                clear f0 f1 f2 f3 f4 f5 f6 f7 f8 f9 f10 hb10 hfr
                go_wp2_with fail
                go_ret
                exact ⟨rfl, HB10.out⟩
              · have hd : decide (p ∈ polS) = false := decide_eq_false hpp
                have hC0 : C = 17 := by rw [← HCC.out, if_neg hpp]
                subst hC0
                rw [hd]
                clear hpp hd HCC HHS
                go_wp2_with fail
                refine (lalive_c _ (HE.out.bel (HBL.out.trans HB3.out)) (HP.out.bel (HBL.out.trans HB3.out))).mono ?_
                rintro e4 w4 ⟨rfl, hb4⟩
                go_wp2_with fail
                go_ret
                exact ⟨rfl, HBL.out.trans (HB3.out.trans hb4)⟩
end Go.Proofs.YtchbhcjhoocjaaaGreatDoor
