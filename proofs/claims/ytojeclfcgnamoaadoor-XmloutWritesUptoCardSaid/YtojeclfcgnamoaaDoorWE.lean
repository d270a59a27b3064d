/-
  xmlout: the walks of the closure that meets all of a tree's namespaces, prefixes, Prefixes.
-/
import Derived.Test.YtojeclfcgnamoaaDoorWD
import Derived.Test.YtojeclfcgnamoaaDoorSTQ
import Derived.Laws.EntriesVeiled
namespace Go.Proofs.YtojeclfcgnamoaaDoor
open Go.RowKit Go.Maps

theorem meetP_len (L : List Pr6) (s : ByteArray) : (meetP L s).length ≤ L.length + 1 := by
  unfold meetP
  split
  · omega
  · simp
theorem drop_tail {α : Type} {l : List α} {i : Nat} {x : α} (h : l[i]? = some x) : l.drop i = x :: l.drop (i + 1) := by
  obtain ⟨hi, rfl⟩ := List.getElem?_eq_some_iff.1 h
  exact List.drop_eq_getElem_cons hi
theorem bulks_cons (x : Nd) (r : List Nd) : Nd.bulk.bulks (x :: r) = x.bulk + Nd.bulk.bulks r := by rw [Nd.bulk.bulks]
theorem metN_eq (L : List Pr6) (x : Nd) : metN L x = metsN (meetsP (meetP L x.sp) x.al) x.ks := by
  obtain ⟨t, sp, lo, al, ks, tx⟩ := x
  rw [metN]
  rfl
mutual
theorem metN_len : ∀ (x : Nd) (L : List Pr6), (metN L x).length ≤ L.length + x.bulk
  | .mk t sp lo al ks tx, L => by
    rw [metN, nd_bulk]
    have h1 := metsN_len ks (meetsP (meetP L sp) al)
    have h2 := meetsP_len al (meetP L sp)
    have h3 := meetP_len L sp
    have h4 := atr_len al
    show _ ≤ L.length + ((_ + _ + _ + atrSum al + Nd.bulk.bulks ks) + 1)
    omega
theorem metsN_len : ∀ (l : List Nd) (L : List Pr6), (metsN L l).length ≤ L.length + Nd.bulk.bulks l
  | [], L => by rw [metsN]; omega
  | x :: r, L => by
    rw [metsN, bulks_cons]
    have h1 := metsN_len r (metN L x)
    have h2 := metN_len x L
    omega
theorem meetsP_len : ∀ (al : List Atr) (L : List Pr6), (meetsP L al).length ≤ L.length + al.length
  | [], L => by simp [meetsP]
  | a :: r, L => by
    have h1 := meetsP_len r (meetP L a.1)
    have h2 := meetP_len L a.1
    show (meetsP (meetP L a.1) r).length ≤ _
    rw [List.length_cons]
    omega
end
/-- The two function values. -/
def fnM (m o p : Nat) : Value := .func (.func 36) #[] #[.pointer (some ⟨m, 0, none⟩), .pointer (some ⟨o, 0, none⟩), .pointer (some ⟨p, 0, none⟩)]
def fnA (mf af : Nat) : Value := .func (.func 38) #[] #[.pointer (some ⟨mf, 0, none⟩), .pointer (some ⟨af, 0, none⟩)]
set_option maxRecDepth 100000 in
set_option maxHeartbeats 8000000 in
theorem allF_c (u : World) (m o p mb mf af : Nat) (f : Nat) (hE : EnvT u)
    (ih : ∀ (x : Nd), x.bulk ≤ f → ∀ va vk n L w, NdAt u x va vk → Bel u w → PW u.heap.size m o p mb L n w → L.length ≤ n → n + x.bulk ≤ 536870912 → Blk w mf 75 [fnM m o p] → Blk w af 76 [fnA mf af] →
      Calls Tryd.prog 38 #[ndV x va vk, .pointer (some ⟨mf, 0, none⟩), .pointer (some ⟨af, 0, none⟩)] w (RetPW u.heap.size m o p mb (metN L x) (n + x.bulk) w))
    (x : Nd) (hf : x.bulk ≤ f + 1) (hbk : f ≤ 1000000) (va vk : Value) (n : Nat) (L : List Pr6) (w : World) (h : NdAt u x va vk) (hb : Bel u w) (hp : PW u.heap.size m o p mb L n w) (hl : L.length ≤ n) (hn : n + x.bulk ≤ 536870912)
    (hmf : Blk w mf 75 [fnM m o p]) (haf : Blk w af 76 [fnA mf af]) :
    Calls Tryd.prog 38 #[ndV x va vk, .pointer (some ⟨mf, 0, none⟩), .pointer (some ⟨af, 0, none⟩)] w (RetPW u.heap.size m o p mb (metN L x) (n + x.bulk) w) := by
  have hen1 := fun args w1 => enters_of Tryd.func36 (by kernel_rfl) rfl args w1
  have hen2 := fun args w1 => enters_of Tryd.func38 (by kernel_rfl) rfl args w1
  obtain ⟨aa, ka, an, ac, kn, kc, rfl, rfl, han, hkn, hac, hkc, hab, hkb, hatr, hkid⟩ := h.opened
  have hbe := nd_bulk x
  have hal := atr_len x.al
  have HMEET : Hid (∀ L' q s W, Bel u W → s.size ≤ 1073741824 → q < 1073741824 → L'.length ≤ q → PW u.heap.size m o p mb L' q W → Calls Tryd.prog 36 #[.string s, .pointer (some ⟨m, 0, none⟩), .pointer (some ⟨o, 0, none⟩), .pointer (some ⟨p, 0, none⟩)] W (RetPW u.heap.size m o p mb (meetP L' s) (q + 1) W)) :=
    Lib.hid fun L' q s W hW hs hq hl' hP => meet_c _ m o p mb q L' s W (fun v hv => hE.bel (Below.trans hW hv)) hs hq hl' hW.size hP
  have HALL : Hid (∀ y : Nd, y ∈ x.ks → ∀ ya yk q L' W, NdAt u y ya yk → Bel u W → PW u.heap.size m o p mb L' q W → L'.length ≤ q → q + y.bulk ≤ 536870912 → Blk W mf 75 [fnM m o p] → Blk W af 76 [fnA mf af] →
      Calls Tryd.prog 38 #[ndV y ya yk, .pointer (some ⟨mf, 0, none⟩), .pointer (some ⟨af, 0, none⟩)] W (RetPW u.heap.size m o p mb (metN L' y) (q + y.bulk) W)) := Lib.hid fun y hy ya yk q L' W h1 h2 h3 h4 h5 h6 h7 => ih y (by have := nbulks_mem hy; omega) ya yk q L' W h1 h2 h3 h4 h5 h6 h7
  have HA := Lib.hid hatr
  have HK := Lib.hid hkid
  have HAN := Lib.hid han
  have HKN := Lib.hid hkn
  have HBE := Lib.hid hbe
  have han2 : an ≤ 1000001 := by omega
  have hkn2 : kn ≤ 1000001 := by omega
  have HSZ : Hid (∀ a ∈ x.al, a.1.size ≤ 1073741824) := Lib.hid fun a ha => by have := atr_mem ha; omega
  have hspz : x.sp.size ≤ 1073741824 := by omega
  obtain ⟨NT, hNT⟩ : ∃ N, n + x.bulk = N := ⟨_, rfl⟩
  have HNT := Lib.hid hNT
  have hn4 : n ≤ 536870912 := by omega
  rw [hNT] at hn ⊢
  rw [metN_eq]
  unfold ndV
  obtain ⟨V1, h1, q1, l1, s1⟩ := alloc_step w 27 [.int .i64 x.t, .string x.sp, .string x.lo, .slice aa an ac, .slice ka kn kc, .string x.tx]
  have c1 := q1.at 1
  have Q1 := Lib.hid q1
  have HV1 := Lib.hid h1
  have HB1 := Lib.hid (hb.trans l1)
  have HP1 := Lib.hid (hp.bel l1)
  have HMF1 := Lib.hid (hmf.bel l1)
  have HAF1 := Lib.hid (haf.bel l1)
  have d0 : V1.cell? ⟨mf, 0, none⟩ = some (fnM m o p) := HMF1.out.at 0
  unfold fnM at d0
  have HBW : Hid (Below u.heap.size w V1) := Lib.hid (l1.mono hb.size)
  have HKW : Hid (KeepT keepP w V1) := Lib.hid (KeepT.of_bel l1)
  have HL := Lib.hid hl
  have hn3 : n < 1073741824 := by omega
  clear h1 q1 l1 s1 h hb hp hl hmf haf hatr hkid han hkn hac hkc hab hkb hbe hal hE ih hf hbk hNT
  go_enter Tryd.func38, Tryd.ntmps38
  go_upto_region 1 with fail
  rw [show w.alloc (.cells #[.int .i64 x.t, .string x.sp, .string x.lo, .slice aa an ac, .slice ka kn kc, .string x.tx] 27) = V1 from HV1.out]
  clear HV1
  go_wp2_with fail
  refine (HMEET.out L n x.sp V1 HB1.out hspz hn3 HL.out HP1.out).mono ?_
  rintro e2 w2 ⟨rfl, hp2, hb2, hk2⟩
  have HP2 := Lib.hid hp2
  have HB2 : Hid (Bel u w2) := Lib.hid (Below.trans HB1.out hb2)
  have HBW2 : Hid (Below u.heap.size w w2) := Lib.hid (HBW.out.trans hb2)
  have HK2 := Lib.hid hk2
  have q2 := Q1.out.keepT hk2 keepP_types.2.2.2.1
  have e3 : w2.cell? ⟨w.heap.size, 3, none⟩ = some (.slice aa an ac) := q2.at 3
  have HL2 : Hid ((meetP L x.sp).length ≤ n + 1) := Lib.hid (by have := meetP_len L x.sp; have := HL.out; omega)
  clear hp2 hb2 hk2 q2 c1 d0
  go_wp2_with fail
  go_loopw [16] (fun i wr => ∃ (j : Nat) (L' : List Pr6), i = .int .i64 j ∧ j ≤ an ∧ Hid (PW u.heap.size m o p mb L' (n + 1 + j) wr) ∧ Hid (L'.length ≤ n + 1 + j) ∧ Hid (meetsP L' (x.al.drop j) = meetsP (meetP L x.sp) x.al) ∧ Hid (Bel u wr) ∧ Hid (Below u.heap.size w wr) ∧ Hid (KeepT keepP V1 wr)) (fun i _ => an - (intOf i).toNat)
  case atStart => exact ⟨0, meetP L x.sp, rfl, Nat.zero_le _, HP2, HL2, Lib.hid (by rw [List.drop_zero]), HB2, HBW2, HK2⟩
  case round =>
    obtain ⟨j, L', rfl, hj, HPJ, HLJ, HMJ, HBJ, HWJ, HKJ⟩ := hrel
    by_cases hlt : j < an
    · have hlti : (j : Int) < an := by omega
      obtain ⟨y, hy⟩ : ∃ y, x.al[j]? = some y := ⟨_, List.getElem?_eq_getElem (by have := HAN.out; omega)⟩
      obtain ⟨b, off, rfl, g0, g1, g2⟩ := HA.out j y hy
      have f0 := HBJ.out.keep g0
      have f1 := HBJ.out.keep g1
      have f2 := HBJ.out.keep g2
      have hms : meetsP (meetP L' y.1) (x.al.drop (j + 1)) = meetsP (meetP L x.sp) x.al := by
        rw [← HMJ.out, drop_tail hy]
        rfl
      have HMS := Lib.hid hms
      have hys := HSZ.out y (List.mem_of_getElem? hy)
      obtain ⟨ya, yb, yc⟩ := y
      dsimp only at f0 f1 f2 HMS hys
      obtain ⟨V3, h3, q3, l3, s3⟩ := alloc_step wr 63 [.string ya, .string yb, .string yc]
      have e0 := q3.at 0
      have HV3 := Lib.hid h3
      have hkv := HKJ.out.trans (KeepT.of_bel l3)
      have d0 : V3.cell? ⟨mf, 0, none⟩ = some (fnM m o p) := (HMF1.out.keepT hkv keepP_types.2.2.2.2.2.1).at 0
      unfold fnM at d0
      have HKV := Lib.hid hkv
      have HB3 := Lib.hid (HBJ.out.trans l3)
      have HW3 : Hid (Below u.heap.size w V3) := Lib.hid (HWJ.out.trans (l3.mono HBJ.out.size))
      have HC := Lib.hid (HMEET.out L' (n + 1 + j) ya V3 HB3.out hys (by omega) HLJ.out (HPJ.out.bel l3))
      have HL3 : Hid ((meetP L' ya).length ≤ n + 1 + (j + 1)) := Lib.hid (by have := meetP_len L' ya; have := HLJ.out; omega)
      clear g0 g1 g2 hy hms hys h3 q3 l3 s3 hkv
      go_upto_region 5 with fail
      rw [show wr.alloc (.cells #[.string ya, .string yb, .string yc] 63) = V3 from HV3.out]
      clear HV3
      go_wp2_with fail
      refine HC.out.mono ?_
      rintro e4 w4 ⟨rfl, hp4, hb4, hk4⟩
      have HP4 := Lib.hid hp4
      have HB4 : Hid (Bel u w4) := Lib.hid (Below.trans HB3.out hb4)
      have HW4 := Lib.hid (HW3.out.trans hb4)
      have HK4 := Lib.hid (HKV.out.trans hk4)
      clear hp4 hb4 hk4 e0 d0 f0 f1 f2 HC
      go_wp2_with fail
      exact ⟨⟨j + 1, meetP L' ya, by go_num, by omega, HP4, HL3, HMS, HB4, HW4, HK4⟩, by simp [intOf]; omega⟩
    · have hlti : ¬ ((j : Int) < an) := by omega
      obtain rfl : j = an := by omega
      have HMJ2 : Hid (L' = meetsP (meetP L x.sp) x.al) := Lib.hid (by have := HMJ.out; rwa [List.drop_eq_nil_of_le (by have := HAN.out; omega)] at this)
      have q5 := Q1.out.keepT HKJ.out keepP_types.2.2.2.1
      have e4 : wr.cell? ⟨w.heap.size, 4, none⟩ = some (.slice ka kn kc) := q5.at 4
      have HQ0 : Hid (n + 1 + j + Nd.bulk.bulks x.ks ≤ NT) := Lib.hid (by
        have h1 := HBE.out
        have h2 := HNT.out
        have h3 := atr_len x.al
        have h4 := HAN.out
        omega)
      obtain ⟨M, hM⟩ : ∃ M, metsN (meetsP (meetP L x.sp) x.al) x.ks = M := ⟨_, rfl⟩
      rw [hM]
      have HM : Hid (metsN L' (x.ks.drop 0) = M) := Lib.hid (by rw [HMJ2.out, List.drop_zero, hM])
      have HMM := Lib.hid hM
      clear HMJ HMJ2 hM q5
      go_wp2_with fail
      go_loopw [29] (fun i wq => ∃ (k q : Nat) (L2 : List Pr6), i = .int .i64 k ∧ k ≤ kn ∧ Hid (PW u.heap.size m o p mb L2 q wq) ∧ Hid (L2.length ≤ q) ∧ Hid (q + Nd.bulk.bulks (x.ks.drop k) ≤ NT) ∧ Hid (metsN L2 (x.ks.drop k) = M) ∧ Hid (Bel u wq) ∧ Hid (Below u.heap.size w wq) ∧ Hid (KeepT keepP V1 wq)) (fun i _ => kn - (intOf i).toNat)
      case atStart => exact ⟨0, n + 1 + j, L', rfl, Nat.zero_le _, HPJ, HLJ, HQ0, HM, HBJ, HWJ, HKJ⟩
      case round =>
        obtain ⟨k, q, L2, rfl, hk, HPK, HLK, HQK, HMK, HBK, HWK, HKK⟩ := hrel
        by_cases hlk : k < kn
        · have hlki : (k : Int) < kn := by omega
          obtain ⟨y, hy⟩ : ∃ y, x.ks[k]? = some y := ⟨_, List.getElem?_eq_getElem (by have := HKN.out; omega)⟩
          obtain ⟨bb, off, yaa, yan, yac, yka, ykn, ykc, rfl, g0, g1, g2, g3, g4, g5, hyn⟩ := HK.out k y hy
          have f0 := HBK.out.keep g0
          have f1 := HBK.out.keep g1
          have f2 := HBK.out.keep g2
          have f3 := HBK.out.keep g3
          have f4 := HBK.out.keep g4
          have f5 := HBK.out.keep g5
          have hdr := kid_tail hy
          have hqk := HQK.out
          have hmk := HMK.out
          rw [hdr, bulks_cons] at hqk
          rw [hdr, metsN] at hmk
          obtain ⟨V3, h3, q3, l3, s3⟩ := alloc_step wr 27 [.int .i64 y.t, .string y.sp, .string y.lo, .slice yaa yan yac, .slice yka ykn ykc, .string y.tx]
          have e0 := q3.at 0
          have e1 := q3.at 1
          have e2 := q3.at 2
          have e3 := q3.at 3
          have e5 := q3.at 4
          have e6 := q3.at 5
          have HV3 := Lib.hid h3
          have hkv := HKK.out.trans (KeepT.of_bel l3)
          have d0 : V3.cell? ⟨af, 0, none⟩ = some (fnA mf af) := (HAF1.out.keepT hkv keepP_types.2.2.2.2.2.2).at 0
          unfold fnA at d0
          have HKV := Lib.hid hkv
          have HB3 := Lib.hid (HBK.out.trans l3)
          have HW3 : Hid (Below u.heap.size w V3) := Lib.hid (HWK.out.trans (l3.mono HBK.out.size))
          have HC := Lib.hid (HALL.out y (List.mem_of_getElem? hy) _ _ q L2 V3 hyn HB3.out (HPK.out.bel l3) HLK.out (by omega) (HMF1.out.keepT hkv keepP_types.2.2.2.2.2.1) (HAF1.out.keepT hkv keepP_types.2.2.2.2.2.2))
          unfold ndV at HC
          have HL3 : Hid ((metN L2 y).length ≤ q + y.bulk) := Lib.hid (by have := metN_len y L2; have := HLK.out; omega)
          have HQ3 : Hid (q + y.bulk + Nd.bulk.bulks (x.ks.drop (k + 1)) ≤ NT) := Lib.hid (by omega)
          have HM3 := Lib.hid hmk
          clear g0 g1 g2 g3 g4 g5 hy hyn hdr hqk hmk h3 q3 l3 s3 hkv
          go_upto_region 10 with fail
          rw [show wr.alloc (.cells #[.int .i64 y.t, .string y.sp, .string y.lo, .slice yaa yan yac, .slice yka ykn ykc, .string y.tx] 27) = V3 from HV3.out]
          clear HV3
          go_wp2_with fail
          refine HC.out.mono ?_
          rintro e4 w4 ⟨rfl, hp4, hb4, hk4⟩
          have HP4 := Lib.hid hp4
          have HB4 : Hid (Bel u w4) := Lib.hid (Below.trans HB3.out hb4)
          have HW4 := Lib.hid (HW3.out.trans hb4)
          have HK4 := Lib.hid (HKV.out.trans hk4)
          clear hp4 hb4 hk4 e0 e1 e2 e3 e5 e6 d0 f0 f1 f2 f3 f4 f5 HC
          go_wp2_with fail
          exact ⟨⟨k + 1, q + y.bulk, metN L2 y, by go_num, by omega, HP4, HL3, HQ3, HM3, HB4, HW4, HK4⟩, by simp [intOf]; omega⟩
        · have hlki : ¬ ((k : Int) < kn) := by omega
          have HX : Hid (L2 = M) := Lib.hid (by have := HMK.out; rwa [List.drop_eq_nil_of_le (by have := HKN.out; omega), metsN] at this)
          have HPF : Hid (PW u.heap.size m o p mb M NT wr) := Lib.hid (by rw [← HX.out]; exact HPK.out.mono (by have := HQK.out; omega))
          clear HMK HX HPK
          go_wp2_with fail
          refine bodyPost_ret (results_none rfl _ _ _) rfl ?_
          exact ⟨rfl, by rw [HMM.out]; exact HPF.out, HWK.out, HKW.out.trans HKK.out⟩
theorem all_c (u : World) (m o p mb mf af : Nat) (hE : EnvT u) : ∀ (f : Nat) (x : Nd), x.bulk ≤ f → f ≤ 1000000 → ∀ va vk n L w, NdAt u x va vk → Bel u w → PW u.heap.size m o p mb L n w → L.length ≤ n → n + x.bulk ≤ 536870912 → Blk w mf 75 [fnM m o p] → Blk w af 76 [fnA mf af] →
      Calls Tryd.prog 38 #[ndV x va vk, .pointer (some ⟨mf, 0, none⟩), .pointer (some ⟨af, 0, none⟩)] w (RetPW u.heap.size m o p mb (metN L x) (n + x.bulk) w) := by
  intro f
  induction f with
  | zero => intro x hx; have := nd_pos x; omega
  | succ f ih => exact fun x hx hf va vk n L w h1 h2 h3 h4 h5 h6 h7 => allF_c u m o p mb mf af f hE (fun y hy ya yk n' L' w' g1 g2 g3 g4 g5 g6 g7 => ih y hy (by omega) ya yk n' L' w' g1 g2 g3 g4 g5 g6 g7) x hx (by omega) va vk n L w h1 h2 h3 h4 h5 h6 h7
theorem atrSum_perm {a b : List Atr} (h : a.Perm b) : atrSum a = atrSum b := (h.map _).sum_nat
mutual
theorem sortN_bulk : ∀ n : Nd, (sortN n).bulk = n.bulk
  | .mk t sp lo al ks tx => by
    rw [sortN, nd_bulk, nd_bulk]
    show sp.size + lo.size + tx.size + atrSum (sortA al) + Nd.bulk.bulks (sortsN ks) + 1 = sp.size + lo.size + tx.size + atrSum al + Nd.bulk.bulks ks + 1
    rw [atrSum_perm (sortA_perm al), sortsN_bulk ks]
theorem sortsN_bulk : ∀ l : List Nd, Nd.bulk.bulks (sortsN l) = Nd.bulk.bulks l
  | [] => by rw [sortsN]
  | x :: r => by rw [sortsN, bulks_cons, bulks_cons, sortN_bulk x, sortsN_bulk r]
end
/-- A row of pairs. -/
def PairsAt (w : World) (v : Value) (L : List Pr6) : Prop := ∃ a c, v = .slice a L.length c ∧ L.length ≤ c ∧ ∀ i p, L[i]? = some p → ∃ b off, a = some ⟨b, off, none⟩ ∧ w.cell? ⟨b, off + i * 3, none⟩ = some (.int .i64 0) ∧ w.cell? ⟨b, off + i * 3 + 1, none⟩ = some (.string p.1) ∧ w.cell? ⟨b, off + i * 3 + 2, none⟩ = some (.string p.2)
theorem PairsAt.bel {w w' : World} {v : Value} {L : List Pr6} (h : PairsAt w v L) (hb : Bel w w') : PairsAt w' v L := by
  obtain ⟨a, c, h1, h2, h3⟩ := h
  exact ⟨a, c, h1, h2, fun i p hp => by obtain ⟨b, off, h4, h5, h6, h7⟩ := h3 i p hp; exact ⟨b, off, h4, hb.keep h5, hb.keep h6, hb.keep h7⟩⟩
theorem flatP_get : ∀ (l : List Pr6) (i : Nat) (x : Pr6) (c : Nat), l[i]? = some x → c < 3 → (l.flatMap encP)[i * 3 + c]? = (encP x)[c]?
  | y :: r, 0, x, c, h, hc => by
    cases h
    rw [List.flatMap_cons, Nat.zero_mul, Nat.zero_add, List.getElem?_append_left (by simpa [encP] using hc)]
  | y :: r, i + 1, x, c, h, hc => by
    have e3 : (encP y).length = 3 := rfl
    rw [List.flatMap_cons, List.getElem?_append_right (by rw [e3]; omega), e3, show (i + 1) * 3 + c - 3 = i * 3 + c from by omega]
    exact flatP_get r i x c h hc
theorem pairs_own {w : World} {B : Nat} {a : Option Addr} {c : Nat} {L : List Pr6} (h : w.ownsRow B 47 3 (.slice a L.length c) L.length (L.flatMap encP)) : PairsAt w (.slice a L.length c) L := by
  obtain ⟨a', c', e1, h1, _⟩ := own_wh h
  injection e1 with e1 _ e2
  refine ⟨a, c, rfl, by rw [e2]; exact h1, fun i p hp => ?_⟩
  have hi := (List.getElem?_eq_some_iff.1 hp).1
  obtain ⟨g, hg, _⟩ := own_some h (by omega)
  obtain ⟨_, hc, _⟩ := own_cells h hg
  have hq : ∀ k u, k < 3 → (encP p)[k]? = some u → w.cell? ⟨g, i * 3 + k, none⟩ = some u := fun k u hk hu => hc _ _ ((flatP_get L i p k hp hk).trans hu)
  refine ⟨g, 0, hg, ?_, ?_, ?_⟩
  · rw [Nat.zero_add]; exact hq 0 _ (by decide) rfl
  · rw [Nat.zero_add]; exact hq 1 _ (by decide) rfl
  · rw [Nat.zero_add]; exact hq 2 _ (by decide) rfl
set_option maxRecDepth 100000 in
set_option maxHeartbeats 8000000 in
theorem prefixes_c (x : Nd) (va vk : Value) (w : World) (hx : x.bulk ≤ 1000000) (hE : EnvT w) (h : NdAt w x va vk) :
    Calls Tryd.prog 19 #[ndV x va vk] w fun r w' => ∃ v, r = .returned v ∧ PairsAt w' v (metN [] x) ∧ Bel w w' := by
  have hen := fun args w1 => enters_of Tryd.func38 (by kernel_rfl) rfl args w1
  have hmm := @run_makeMap Tryd.prog
  have HALL := Lib.hid fun m o p mb mf af n W (hW : Bel w W) hp hl hn h6 h7 => all_c w m o p mb mf af hE x.bulk x (Nat.le_refl _) hx va vk n [] W h hW hp hl hn h6 h7
  obtain ⟨aa, ka, an, ac, kn, kc, rfl, rfl, _⟩ := h.opened
  unfold ndV at HALL ⊢
  obtain ⟨V0, h0, q0, l0, s0⟩ := alloc_step w 27 [.int .i64 x.t, .string x.sp, .string x.lo, .slice aa an ac, .slice ka kn kc, .string x.tx]
  obtain ⟨V1, h1, q1, l1, s1⟩ := alloc_step V0 41 [.slice none 0 0]
  have m2 := World.ownsMap_made V1 Tryd.prog 9 (plainElem (H := Unit) Tryd.prog 9)
  have hz0 : (⟨#[]⟩ : ByteArray).size ≤ maxLen := by unfold maxLen; decide
  obtain ⟨V3, hrun, own3, hg3⟩ := m2.update lawT Tryd.underlying52 (by unfold maxLen; omega) (keyT_of hz0) (plainElem_string Tryd.underlying9 hz0)
  have b3 : Bel V1 V3 := Below.grown (Bel.alloc V1 (.map #[] 0)) hg3 (Bel.size (Bel.alloc V1 (.map #[] 0))) (fun k e => by cases e; exact Nat.le_refl _)
  have hs3 : V1.heap.size + 1 ≤ V3.heap.size := by have := hg3.size; rwa [World.size_alloc] at this
  have has3 : HasT ((DataW.map []).put (keyT ⟨#[]⟩) (.lit (.string (⟨#[]⟩ : ByteArray).data.toList))) [⟨#[]⟩] := HasT.start.put ⟨#[]⟩ _
  have HV0 := Lib.hid h0
  have HV1 := Lib.hid h1
  have Q0 := Lib.hid (q0.bel (l1.trans b3))
  have Q1 := Lib.hid (q1.bel b3)
  have HB3 := Lib.hid ((l0.trans l1).trans b3)
  have HS := Lib.hid (And.intro s0 (And.intro s1 hs3))
  have HO3 := Lib.hid (And.intro own3 has3)
  have HE := Lib.hid hE
  have HH := Lib.hid h
  obtain ⟨b0, hb0⟩ : ∃ b, w.heap.size = b := ⟨_, rfl⟩
  obtain ⟨bp, hbp⟩ : ∃ b, V0.heap.size = b := ⟨_, rfl⟩
  rw [hb0] at Q0
  rw [hbp] at Q1
  have HN := Lib.hid (And.intro hb0 hbp)
  clear h0 h1 q0 q1 l0 l1 s0 s1 hb0 hbp h hE m2 own3 hg3 b3 hs3 has3
  go_enter Tryd.func19, Tryd.ntmps19
  go_upto_region 1 with fail
  rw [show w.alloc (.cells #[.int .i64 x.t, .string x.sp, .string x.lo, .slice aa an ac, .slice ka kn kc, .string x.tx] 27) = V0 from HV0.out, HN.out.1]
  go_upto_region 2 with fail
  rw [show V0.alloc (.cells #[.slice none 0 0] 41) = V1 from HV1.out, HN.out.2]
  obtain ⟨V4, h4, q4, l4, s4⟩ := alloc_step V3 52 [.map (some V1.heap.size)]
  obtain ⟨V5, h5, q5, l5, s5⟩ := alloc_step V4 3 [.int .i64 0]
  obtain ⟨V6, h6, q6, l6, s6⟩ := alloc_step V5 75 [fnM V3.heap.size (V3.heap.size + 1) bp]
  unfold fnM at h6
  rw [s5, s4] at q6
  have HV4 := Lib.hid h4
  have HV5 := Lib.hid h5
  have HV6 := Lib.hid h6
  clear h4 h5 h6
  go_upto_region 3 with fail
  rw [show V3.alloc (.cells #[.map (some V1.heap.size)] 52) = V4 from HV4.out]
  go_upto_region 4 with fail
  rw [show V4.alloc (.cells #[.int .i64 0] 3) = V5 from HV5.out]
  go_upto_region 5 with fail
  rw [show V5.alloc (.cells #[.func (.func 36) #[] #[.pointer (some ⟨V3.heap.size, 0, none⟩), .pointer (some ⟨V3.heap.size + 1, 0, none⟩), .pointer (some ⟨bp, 0, none⟩)]] 75) = V6 from HV6.out]
  obtain ⟨V7, h7, q7, l7, s7⟩ := alloc_step V6 76 [fnA (V3.heap.size + 1 + 1) (V3.heap.size + 1 + 1 + 1)]
  unfold fnA at h7
  rw [s6, s5, s4] at q7
  have HV7 := Lib.hid h7
  have hb37 := ((l4.trans l5).trans l6).trans l7
  have HB7 := Lib.hid (HB3.out.trans hb37)
  have PB : PW w.heap.size V3.heap.size (V3.heap.size + 1) bp V1.heap.size [] 1 V7 := by
    have hs := HS.out
    refine ⟨q4.bel ((l5.trans l6).trans l7), ?_, ⟨none, 0, Q1.out.bel hb37, World.ownsRow_nil _ _ _ _⟩, ⟨_, own_mapBel HO3.out.1 hb37, HO3.out.2⟩, ⟨by omega, by rw [← HN.out.2]; omega, by omega⟩⟩
    have h := q5.bel (l6.trans l7)
    rw [s4] at h
    exact h
  have HC := Lib.hid (HALL.out V3.heap.size (V3.heap.size + 1) bp V1.heap.size (V3.heap.size + 1 + 1) (V3.heap.size + 1 + 1 + 1) 1 V7 HB7.out PB (by simp) (by omega) (q6.bel l7) q7)
  have a0 := (Q0.out.bel hb37).at 0
  have a1 := (Q0.out.bel hb37).at 1
  have a2 := (Q0.out.bel hb37).at 2
  have a3 := (Q0.out.bel hb37).at 3
  have a4 := (Q0.out.bel hb37).at 4
  have a5 := (Q0.out.bel hb37).at 5
  have a7 := q7.at 0
  unfold fnA at a7
  clear h7 PB q4 q5 q6 q7 l4 l5 l6 l7 hb37
  go_upto_region 7 with fail
  rw [show V6.alloc (.cells #[.func (.func 38) #[] #[.pointer (some ⟨V3.heap.size + 1 + 1, 0, none⟩), .pointer (some ⟨V3.heap.size + 1 + 1 + 1, 0, none⟩)]] 76) = V7 from HV7.out]
  clear HV4 HV5 HV6 HV7 HV0 HV1 s4 s5 s6 s7 HALL hmm hrun Q0 Q1 HB3 HO3
  go_wp2_with fail
  refine HC.out.mono ?_
  rintro e8 w8 ⟨rfl, hp8, hb8, hk8⟩
  obtain ⟨a, c, hblk, hrow⟩ := hp8.bp
  obtain ⟨R, hR⟩ : ∃ R, metN [] x = R := ⟨_, rfl⟩
  rw [hR] at hblk hrow
  have HR := Lib.hid hR
  have c8 := hblk.at 0
  have HRW := Lib.hid hrow
  have HB8 : Hid (Bel w w8) := Lib.hid (Below.trans HB7.out hb8)
  clear hp8 hb8 hk8 hblk hrow hR a0 a1 a2 a3 a4 a5 a7 HC HB7
  go_wp2_with fail
  go_ret
  exact ⟨_, rfl, by rw [HR.out]; exact pairs_own HRW.out, HB8.out⟩
def RetPf (x : Nd) (k : Nat) (w : World) (r : Ending) (w' : World) : Prop := (∃ v, r = .returned (.tuple #[v, .int .i64 k]) ∧ ((k ≠ 0 ∧ v = .slice none 0 0) ∨ (k = 0 ∧ PairsAt w' v (PrefN x)))) ∧ Bel w w'
set_option maxRecDepth 100000 in
set_option maxHeartbeats 8000000 in
/-- xmlout.Prefixes. -/
theorem xPrefixes_c (x : Nd) (va vk : Value) (w : World) (hx : x.bulk ≤ 1000000) (hE : EnvT w) (h : NdAt w x va vk) :
    Calls Tryd.prog 14 #[ndV x va vk] w (RetPf x (CheckN x) w) := by
  have HC := Lib.hid fun W (hW : Bel w W) => xCheck_c x va vk W hx (hE.1.bel hW) (NdAt.bel hW x h)
  have HS := Lib.hid fun W (hd : DistN x) (hW : Bel w W) => sorted_c x va vk W hx hd (NdAt.bel hW x h)
  have HP := Lib.hid fun ya yk W (hy : (sortN x).bulk ≤ 1000000) (hW : Bel w W) (hN : NdAt W (sortN x) ya yk) => prefixes_c (sortN x) ya yk W hy (hE.bel hW) hN
  have hsb := sortN_bulk x
  obtain ⟨aa, ka, an, ac, kn, kc, rfl, rfl, _⟩ := h.opened
  unfold ndV at HC HS HP ⊢
  obtain ⟨k, hk⟩ : ∃ k, CheckN x = k := ⟨_, rfl⟩
  have hck : k = 0 → DistN x := fun h0 => (check_right (hk.trans h0)).2.1
  rw [hk] at HC ⊢
  obtain ⟨V1, h1, q1, l1, s1⟩ := alloc_step w 27 [.int .i64 x.t, .string x.sp, .string x.lo, .slice aa an ac, .slice ka kn kc, .string x.tx]
  have c0 := q1.at 0
  have c1 := q1.at 1
  have c2 := q1.at 2
  have c3 := q1.at 3
  have c4 := q1.at 4
  have c5 := q1.at 5
  have L1 := Lib.hid l1
  have HV1 := Lib.hid h1
  have Q1 := Lib.hid q1
  have HCK := Lib.hid hck
  have HSB : Hid ((sortN x).bulk ≤ 1000000) := Lib.hid (by omega)
  clear h1 q1 l1 s1 h hE hk hck hsb
  go_enter Tryd.func14, Tryd.ntmps14
  go_upto_region 1 with fail
  rw [show w.alloc (.cells #[.int .i64 x.t, .string x.sp, .string x.lo, .slice aa an ac, .slice ka kn kc, .string x.tx] 27) = V1 from HV1.out]
  clear HV1
  go_wp2_with fail
  refine (HC.out _ L1.out).mono ?_
  rintro e2 w2 ⟨rfl, hb2⟩
  have HB2 := Lib.hid (L1.out.trans hb2)
  have d0 := hb2.keep c0
  have d1 := hb2.keep c1
  have d2 := hb2.keep c2
  have d3 := hb2.keep c3
  have d4 := hb2.keep c4
  have d5 := hb2.keep c5
  clear hb2 c0 c1 c2 c3 c4 c5
  by_cases hk0 : k = 0
  · subst hk0
    have HDI := Lib.hid (HCK.out rfl)
    clear HCK
    go_wp2_with fail
    refine (HS.out _ HDI.out HB2.out).mono ?_
    rintro e3 w3 ⟨ya, yk, rfl, hn3, hb3⟩
    have HC3 := Lib.hid (HP.out ya yk w3 HSB.out (HB2.out.trans hb3) hn3)
    obtain ⟨yaa, yka, yan, yac, ykn, ykc, rfl, rfl, _⟩ := hn3.opened
    have HB3 := Lib.hid (HB2.out.trans hb3)
    clear hn3 hb3
    go_wp2_with fail
    refine HC3.out.mono ?_
    rintro e4 w4 ⟨v, rfl, hp4, hb4⟩
    obtain ⟨pa, pc, rfl, hp5⟩ := id hp4
    have HP4 := Lib.hid hp4
    have HB4 := Lib.hid (HB3.out.trans hb4)
    clear hp4 hb4 hp5
    go_wp2_with fail
    go_ret2
    exact ⟨⟨_, rfl, .inr ⟨rfl, HP4.out⟩⟩, HB4.out⟩
  · have hk2 : ((k : Int) == 0) = false := by simpa using hk0
    have hk3 : ((k : Int) != 0) = true := by simpa using hk0
    have HK0 := Lib.hid hk0
    clear hk0
    go_wp2_with fail
    go_ret2
    exact ⟨⟨_, rfl, .inl ⟨HK0.out, rfl⟩⟩, HB2.out⟩
end Go.Proofs.YtojeclfcgnamoaaDoor
