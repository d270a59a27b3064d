/-
  xmlout: the walk of the writer's node (printed by wip/mk_wnode.py).
  xmlout: how long the bytes are (plain); the walk of Write.
  The law's alive: the document's example.
-/
import Derived.Test.YtojeclfcgnamoaaDoorWFF
import Derived.Test.YtojeclfcgnamoaaDoorDW
namespace Go.Proofs.YtojeclfcgnamoaaDoor
open Go.RowKit

theorem pfS_size {L : List Pr6} (h : ∀ p ∈ L, fineS p.2 = true ∧ p.2.size ≤ 1073741824 ∧ p.1.size ≤ 1073741824) (s : ByteArray) : (pfS L s).size ≤ 1073741824 := by
  unfold pfS pfxP
  cases hf : L.find? fun p => decide (p.2 = s) with
  | none => show (⟨#[]⟩ : ByteArray).size ≤ _; decide
  | some p => exact (h p (List.mem_of_find?_eq_some hf)).2.2
def wrP (L PP : List Pr6) (sp lo tx : ByteArray) (al : List Atr) (ks : List Nd) : List UInt8 := if lo = ⟨#[]⟩ then escL false tx else 60 :: (nameL L sp lo ++ (spcL PP ++ (atsL L al ++ tailN L (nameL L sp lo) ks)))
theorem wrP_none (L : List Pr6) (x : Nd) : wrP L [] x.sp x.lo x.tx x.al x.ks = wrN L false x := by
  obtain ⟨t, sp, lo, al, ks, tx⟩ := x
  show wrP L [] sp lo tx al ks = _
  unfold wrP tailN
  rw [wrN]
  rfl
theorem wrP_all (L : List Pr6) (x : Nd) : wrP L L x.sp x.lo x.tx x.al x.ks = wrN L true x := by
  obtain ⟨t, sp, lo, al, ks, tx⟩ := x
  show wrP L L sp lo tx al ks = _
  unfold wrP tailN
  rw [wrN]
  rfl
theorem pairs_nil (w : World) : PairsAt w (.slice none 0 0) [] := ⟨none, 0, rfl, Nat.le_refl _, fun i p h => by cases h⟩
theorem pre_len {a b R : List UInt8} (h : a ++ b = R) (hR : R.length ≤ 1073741824) : a.length ≤ 1073741824 := by
  rw [← h, List.length_append] at hR
  omega
theorem cur_step {a p q R : List UInt8} (h : a ++ (p ++ q) = R) : (a ++ p) ++ q = R := by rw [List.append_assoc]; exact h
theorem spcL_cons (p : Pr6) (r : List Pr6) : spcL (p :: r) = (if p.2 = spX then [] else [32, 120, 109, 108, 110, 115, 58] ++ (p.1.data.toList ++ valL p.2)) ++ spcL r := by
  unfold spcL
  rw [List.flatMap_cons]
theorem atsL_cons (L : List Pr6) (a : Atr) (r : List Atr) : atsL L (a :: r) = [32] ++ (nameL L a.1 a.2.1 ++ (valL a.2.2 ++ atsL L r)) := by
  unfold atsL
  rw [List.flatMap_cons]
  simp
set_option maxRecDepth 100000 in
set_option maxHeartbeats 16000000 in
theorem wnodeF_c (s0 u0 : World) (b mb n : Nat) (L : List Pr6) (hL : PrefOK L) (hLf : ∀ p ∈ L, fineS p.2 = true ∧ p.2.size ≤ 1073741824 ∧ p.1.size ≤ 1073741824) (hE : Env s0) (f : Nat)
    (ih : ∀ (x : Nd), x.bulk ≤ f → ∀ va vk l w, NdAt u0 x va vk → RightN x → FineN x → WB b mb l w → WBase s0 u0 b mb n L w → (l ++ wrN L false x).length ≤ 1073741824 → Calls Tryd.prog 20 #[.pointer (some ⟨b, 0, none⟩), ndV x va vk, .slice none 0 0] w fun e w' => e = .returned (.tuple #[]) ∧ RetWB b mb (l ++ wrN L false x) w w')
    (x : Nd) (hf : x.bulk ≤ f + 1) (hbk : f ≤ 1000000) (va vk : Value) (PP : List Pr6) (pa : Option Addr) (pn pc : Nat) (h : NdAt u0 x va vk) (hpp : PairsAt u0 (.slice pa pn pc) PP) (hPP : ∀ p ∈ PP, fineS p.2 = true ∧ p.2.size ≤ 1073741824 ∧ p.1.size ≤ 1073741824) (hpn2 : pn ≤ 1073741824)
    (hr : RightN x) (hfi : FineN x) (l : List UInt8) (w : World) (hw : WB b mb l w) (hg : WBase s0 u0 b mb n L w) (hl : (l ++ wrP L PP x.sp x.lo x.tx x.al x.ks).length ≤ 1073741824) :
    Calls Tryd.prog 20 #[.pointer (some ⟨b, 0, none⟩), ndV x va vk, .slice pa pn pc] w fun e w' => e = .returned (.tuple #[]) ∧ RetWB b mb (l ++ wrP L PP x.sp x.lo x.tx x.al x.ks) w w' := by
  obtain ⟨aa, ka, an, ac, kn, kc, rfl, rfl, han, hkn, hac, hkc, hab, hkb, hatr, hkid⟩ := h.opened
  have hbe := nd_bulk x
  have HKID : Hid (∀ y : Nd, y ∈ x.ks → ∀ ya yk l' W, NdAt u0 y ya yk → WB b mb l' W → WBase s0 u0 b mb n L W → RightN y → FineN y → (l' ++ wrN L false y).length ≤ 1073741824 → Calls Tryd.prog 20 #[.pointer (some ⟨b, 0, none⟩), ndV y ya yk, .slice none 0 0] W fun e w' => e = .returned (.tuple #[]) ∧ RetWB b mb (l' ++ wrN L false y) W w') :=
    Lib.hid fun y hy ya yk l' W h1 h2 h3 h4 h5 h6 => ih y (by have := nbulks_mem hy; omega) ya yk l' W h1 h4 h5 h2 h3 h6
  obtain ⟨t, sp, lo, al, ks, tx⟩ := x
  unfold ndV
  simp only [Nd.t, Nd.sp, Nd.lo, Nd.al, Nd.ks, Nd.tx] at *
  unfold wrP at hl ⊢
  rw [RightN] at hr
  rw [FineN] at hfi
  have hlb := hg.le
  obtain ⟨V1, h1, q1, l1, s1⟩ := alloc_step w 27 [.int .i64 t, .string sp, .string lo, .slice aa an ac, .slice ka kn kc, .string tx]
  have c1 := q1.at 1
  have c2 := q1.at 2
  have c5 := q1.at 5
  have Q1 := Lib.hid q1
  have HV1 := Lib.hid h1
  have HW1 := Lib.hid (hw.bel l1)
  have HB1 : Hid (Below b w V1) := Lib.hid (l1.mono hlb)
  have HG1 := Lib.hid (hg.below HB1.out)
  have HKW : Hid (KeepT (keepB WrE) w V1) := Lib.hid (KeepT.of_bel l1)
  have HK1 : Hid (KeepT (keepB WrE) V1 V1) := Lib.hid (KeepT.refl _ _)
  have htx := lempty lo
  have hszl : lo.size ≤ 1073741824 := by omega
  have hszp : sp.size ≤ 1073741824 := by omega
  have hszt : tx.size ≤ 1073741824 := by omega
  have HE := Lib.hid hE
  clear ih h h1 q1 l1 s1 hw hg hlb hac hkc hab hkb hE
  by_cases hlo : lo = ⟨#[]⟩
  · rw [decide_eq_true hlo] at htx
    rw [if_pos hlo] at hl ⊢
    have hc := fun W (hW : Bel s0 W) => xescText_c tx hszt W (HE.out.bel hW)
    unfold escR at hc
    rw [if_pos hfi.2.2.1] at hc
    obtain ⟨v, hv⟩ : ∃ v : ByteArray, ⟨(escL false tx).toArray⟩ = v := ⟨_, rfl⟩
    have hvl : escL false tx = v.data.toList := by rw [← hv]
    dsimp only at hc
    rw [hv] at hc
    rw [hvl] at hl ⊢
    have hvz : l.length + v.size ≤ 1073741824 := by rw [List.length_append] at hl; exact hl
    have HC := Lib.hid hc
    clear hc hv hvl hl hlo hpp hatr hkid HKID hr hfi hPP hLf hL
    go_enter Tryd.func20, Tryd.ntmps20
    go_upto_region 1 with fail
    rw [show w.alloc (.cells #[.int .i64 t, .string sp, .string lo, .slice aa an ac, .slice ka kn kc, .string tx] 27) = V1 from HV1.out]
    clear HV1
    go_wp2_with fail
    refine (HC.out _ HG1.out.bel).mono ?_
    rintro e2 w2 ⟨rfl, hb2⟩
    have HW2 := Lib.hid (HW1.out.bel hb2)
    have HB2 : Hid (Below b w w2) := Lib.hid (HB1.out.trans (hb2.mono HG1.out.le))
    have HK2 : Hid (KeepT (keepB WrE) w w2) := Lib.hid (HKW.out.trans (KeepT.of_bel hb2))
    clear hb2 HC
    go_wp2_with fail
    refine (wstr_c b mb l _ _ HW2.out (by omega)).mono ?_
    rintro e3 w3 ⟨rfl, hw3, hb3, hk3⟩
    have HW3 := Lib.hid hw3
    have HB3 := Lib.hid (HB2.out.trans hb3)
    have HK3 := Lib.hid (HK2.out.trans hk3)
    clear hw3 hb3 hk3
    go_wp2_with fail
    refine bodyPost_ret (results_none rfl _ _ _) rfl ?_
    exact ⟨rfl, HW3.out, HB3.out, HK3.out⟩
  · rw [decide_eq_false hlo] at htx
    rw [if_neg hlo] at hl ⊢
    obtain ⟨-, hpl, -, hpa, hrk⟩ := hr.resolve_left fun e => hlo e.1
    obtain ⟨RL, hRL⟩ : ∃ R, l ++ 60 :: (nameL L sp lo ++ (spcL PP ++ (atsL L al ++ tailN L (nameL L sp lo) ks))) = R := ⟨_, rfl⟩
    rw [hRL] at hl ⊢
    have hR0 : l ++ ([60] ++ (nameL L sp lo ++ (spcL PP ++ (atsL L al ++ tailN L (nameL L sp lo) ks)))) = RL := hRL
    have HR0 := Lib.hid hR0
    have HLEN := Lib.hid hl
    have HPP := Lib.hid hPP
    obtain ⟨pa', pc', hpe, hpc, hpk⟩ := hpp
    injection hpe with e1 e2 e3
    subst e1 e3
    have HPN := Lib.hid e2
    have HPK := Lib.hid hpk
    have HAN := Lib.hid han
    have HKN := Lib.hid hkn
    have HATR := Lib.hid hatr
    have HKI := Lib.hid hkid
    have HFI := Lib.hid hfi
    have HPA := Lib.hid hpa
    have HRK := Lib.hid hrk
    have HLF := Lib.hid hLf
    have HPL := Lib.hid hL
    have hal := atr_len al
    have han2 : an ≤ 1073741824 := by omega
    have hkn2 : kn ≤ 1073741824 := by have := nbulks_len ks; omega
    have HAS : Hid (∀ a ∈ al, a.1.size ≤ 1073741824 ∧ a.2.1.size ≤ 1073741824 ∧ a.2.2.size ≤ 1073741824) := Lib.hid fun a ha => by have := atr_mem ha; omega
    have hll : l.length ≤ 1073741824 := pre_len hR0 hl
    have HNM : Hid (∀ cur W, WB b mb cur W → WBase s0 u0 b mb n L W → cur.length ≤ 1073741824 → Calls Tryd.prog 42 #[.pointer (some ⟨b, 0, none⟩), .agg #[.string sp, .string lo]] W fun e w' => e = .returned (.tuple #[]) ∧ RetWB b mb (cur ++ nameL L sp lo) W w') :=
      Lib.hid fun cur W h1 h2 h3 => wname_c s0 u0 b mb n L HPL.out cur sp lo W h1 h2 hszp hszl (pfS_size HLF.out sp) h3
    obtain ⟨NM, hNM⟩ : ∃ N, nameL L sp lo = N := ⟨_, rfl⟩
    rw [hNM] at HNM HR0
    clear hRL hR0 hl hpl hPP hpc hpk han hkn hatr hkid hfi hpa hrk hLf hL hr hal hlo hNM e2 hbe hf hbk
    have HC2 := Lib.hid (wbyte_c b mb l 60 V1 HW1.out hll)
    go_enter Tryd.func20, Tryd.ntmps20
    go_upto_region 1 with fail
    rw [show w.alloc (.cells #[.int .i64 t, .string sp, .string lo, .slice aa an ac, .slice ka kn kc, .string tx] 27) = V1 from HV1.out]
    clear HV1
    go_wp2_with fail
    refine HC2.out.mono ?_
    rintro e2 w2 ⟨rfl, hw2, hb2, hk2⟩
    have HW2 := Lib.hid hw2
    have HG2 := Lib.hid (HG1.out.below hb2)
    have HB2 := Lib.hid (HB1.out.trans hb2)
    have HK2 := Lib.hid (HK1.out.trans hk2)
    have HR2 : Hid ((l ++ [60]) ++ (NM ++ (spcL PP ++ (atsL L al ++ tailN L NM ks))) = RL) := Lib.hid (cur_step HR0.out)
    have q2 := Q1.out.keepT HK2.out keepW_types.1
    have c1 := q2.at 1
    have c2 := q2.at 2
    have HC3 := Lib.hid (HNM.out _ _ HW2.out HG2.out (pre_len HR2.out HLEN.out))
    clear hw2 hb2 hk2 HC2 q2
    go_wp2_with fail
    refine HC3.out.mono ?_
    rintro e3 w3 ⟨rfl, hw3, hb3, hk3⟩
    have HW3 := Lib.hid hw3
    have HG3 := Lib.hid (HG2.out.below hb3)
    have HB3 := Lib.hid (HB2.out.trans hb3)
    have HK3 := Lib.hid (HK2.out.trans hk3)
    have HR3 : Hid ((l ++ [60] ++ NM) ++ (spcL PP ++ (atsL L al ++ tailN L NM ks)) = RL) := Lib.hid (cur_step HR2.out)
    clear hw3 hb3 hk3 HC3 c1 c2 c5
    go_wp2_with fail
    go_loopw [39] (fun i wr => ∃ (j : Nat) (cur : List UInt8), i = .int .i64 j ∧ j ≤ pn ∧ Hid (WB b mb cur wr) ∧ Hid (cur ++ (spcL (PP.drop j) ++ (atsL L al ++ tailN L NM ks)) = RL) ∧ Hid (WBase s0 u0 b mb n L wr) ∧ Hid (Below b w wr) ∧ Hid (KeepT (keepB WrE) V1 wr)) (fun i _ => pn - (intOf i).toNat)
    case atStart => exact ⟨0, l ++ [60] ++ NM, rfl, Nat.zero_le _, HW3, by rw [List.drop_zero]; exact HR3, HG3, HB3, HK3⟩
    case round =>
      obtain ⟨j, cur, rfl, hj, HWJ, HRJ, HGJ, HBJ, HKJ⟩ := hrel
      by_cases hlt : j < pn
      · have hlti : (j : Int) < pn := by omega
        obtain ⟨y, hy⟩ : ∃ y, PP[j]? = some y := ⟨_, List.getElem?_eq_getElem (by have := HPN.out; omega)⟩
        obtain ⟨bb, off, rfl, g0, g1, g2⟩ := HPK.out j y hy
        have f0 := HGJ.out.rd.cell _ _ g0
        have f1 := HGJ.out.rd.cell _ _ g1
        have f2 := HGJ.out.rd.cell _ _ g2
        have hrj := HRJ.out
        rw [drop_tail hy, spcL_cons] at hrj
        have hpy := HPP.out y (List.mem_of_getElem? hy)
        obtain ⟨p1, p2⟩ := y
        dsimp only at f0 f1 f2 hrj hpy
        have hsx : (p2.toList == [104, 116, 116, 112, 58, 47, 47, 119, 119, 119, 46, 119, 51, 46, 111, 114, 103, 47, 88, 77, 76, 47, 49, 57, 57, 56, 47, 110, 97, 109, 101, 115, 112, 97, 99, 101]) = decide (p2 = spX) := by rw [← lequal p2 spX, Lib.toList_data spX]; rfl
        obtain ⟨V3, h3, q3, l3, s3⟩ := alloc_step wr 47 [.int .i64 0, .string p1, .string p2]
        obtain ⟨b9, hb9⟩ : ∃ k, wr.heap.size = k := ⟨_, rfl⟩
        rw [hb9] at q3
        have d1 := q3.at 1
        have d2 := q3.at 2
        have HQ3 := Lib.hid q3
        have HV3 := Lib.hid h3
        have HN9 := Lib.hid hb9
        have hb3 : Below b wr V3 := l3.mono HGJ.out.le
        have HW4 := Lib.hid (HWJ.out.bel l3)
        have HG4 := Lib.hid (HGJ.out.below hb3)
        have HB4 := Lib.hid (HBJ.out.trans hb3)
        have HK4 := Lib.hid (HKJ.out.trans (KeepT.of_bel l3))
        by_cases hx : p2 = spX
        · rw [decide_eq_true hx] at hsx
          rw [if_pos hx, List.nil_append] at hrj
          have HR4 := Lib.hid hrj
          clear g0 g1 g2 hy hrj hpy hx h3 q3 l3 s3 hb9 hb3
          go_upto_region 9 with fail
          rw [show wr.alloc (.cells #[.int .i64 0, .string p1, .string p2] 47) = V3 from HV3.out, HN9.out]
          clear HV3
          go_wp2_with fail
          exact ⟨⟨j + 1, cur, by go_num, by omega, HW4, HR4, HG4, HB4, HK4⟩, by simp [intOf]; omega⟩
        · rw [decide_eq_false hx] at hsx
          rw [if_neg hx, List.append_assoc] at hrj
          have hcat : ¬ (9223372036854775807 < 7 + p1.size) := by omega
          have HDT : Hid ((⟨#[32, 120, 109, 108, 110, 115, 58]⟩ ++ p1 : ByteArray).data.toList = [32, 120, 109, 108, 110, 115, 58] ++ p1.data.toList) := Lib.hid (by simp)
          have hcz : (⟨#[32, 120, 109, 108, 110, 115, 58]⟩ ++ p1 : ByteArray).size = 7 + p1.size := by rw [ByteArray.size_append]; rfl
          have hpe : cur ++ (([32, 120, 109, 108, 110, 115, 58] ++ p1.data.toList) ++ (valL p2 ++ (spcL (PP.drop (j + 1)) ++ (atsL L al ++ tailN L NM ks)))) = RL := by rw [← hrj]; simp
          have hcl := pre_len hpe HLEN.out
          have HR5 : Hid ((cur ++ ([32, 120, 109, 108, 110, 115, 58] ++ p1.data.toList)) ++ (valL p2 ++ (spcL (PP.drop (j + 1)) ++ (atsL L al ++ tailN L NM ks))) = RL) := Lib.hid (cur_step hpe)
          have HR6 : Hid ((cur ++ ([32, 120, 109, 108, 110, 115, 58] ++ p1.data.toList) ++ valL p2) ++ (spcL (PP.drop (j + 1)) ++ (atsL L al ++ tailN L NM ks)) = RL) := Lib.hid (cur_step HR5.out)
          have hpre := pre_len HR6.out HLEN.out
          rw [List.length_append] at hpre
          have HCL : Hid (cur.length + (⟨#[32, 120, 109, 108, 110, 115, 58]⟩ ++ p1 : ByteArray).size ≤ 140737488355328) := Lib.hid (by rw [hcz]; omega)
          have HPRE := Lib.hid hpre
          have HPY := Lib.hid hpy
          clear g0 g1 g2 hy hrj hpy hx h3 q3 l3 s3 hb9 hb3 hpe hcl hpre hcz
          go_upto_region 9 with fail
          rw [show wr.alloc (.cells #[.int .i64 0, .string p1, .string p2] 47) = V3 from HV3.out, HN9.out]
          clear HV3
          go_upto_region 10 with fail
          refine wp_region_held_drew (S := fun w' => w'.cell? ⟨b9, 1, none⟩ = some (.string p1)) (by kernel_rfl) d1 (fun hHeld => ?_)
          refine wpAnyH_take (i := 0) (oi := _) (v := ?_) rfl (by kernel_rfl) (by kernel_rfl) (by kernel_rfl) (fun _ _ _ h => h) ?_ (by assumption) ?_
          rotate_left 1
          · first
              | (refine Or.inl ⟨by rfl, ?_⟩; intro w9 hSw; (try dsimp only at hSw); go_simp; (try with_reducible rfl); done)
              | (refine Or.inr ⟨by rfl, ?_⟩; rfl)
          simp only [List.getElem_toArray, List.getElem_cons_zero, Act.put, List.setIfInBounds_toArray, List.set_cons_zero, List.set_cons_succ]
          refine wpAnyH_take (i := 1) (oi := _) (v := ?_) rfl (by kernel_rfl) (by kernel_rfl) (by kernel_rfl) (fun _ _ _ h => h) ?_ (by assumption) ?_
          rotate_left 1
          · first
              | (refine Or.inl ⟨by rfl, ?_⟩; intro w9 hSw; (try dsimp only at hSw); go_simp; (try with_reducible rfl); done)
              | (refine Or.inr ⟨by rfl, ?_⟩; rfl)
          simp only [List.getElem_toArray, List.getElem_cons_succ, List.getElem_cons_zero, Act.put, List.setIfInBounds_toArray, List.set_cons_zero, List.set_cons_succ]
          refine wpAnyH_take (i := 2) (oi := _) (v := ?_) rfl (by kernel_rfl) (by kernel_rfl) (by kernel_rfl) (fun _ _ _ h => h) ?_ (by assumption) ?_
          rotate_left 1
          · first
              | (refine Or.inl ⟨by rfl, ?_⟩; intro w9 hSw; (try dsimp only at hSw); go_simp; (try with_reducible rfl); done)
              | (refine Or.inr ⟨by rfl, ?_⟩; rfl)
          simp only [List.getElem_toArray, List.getElem_cons_succ, List.getElem_cons_zero, Act.put, List.setIfInBounds_toArray, List.set_cons_zero, List.set_cons_succ]
          refine wpAnyH_take (i := 3) (oi := _) (v := ?_) rfl (by kernel_rfl) (by kernel_rfl) (by kernel_rfl) (fun _ _ _ h => h) ?_ (by assumption) ?_
          rotate_left 1
          · first
              | (refine Or.inl ⟨by rfl, ?_⟩; intro w9 hSw; (try dsimp only at hSw); go_simp; (try with_reducible rfl); done)
              | (refine Or.inr ⟨by rfl, ?_⟩; rfl)
          simp only [List.getElem_toArray, List.getElem_cons_succ, List.getElem_cons_zero, Act.put, List.setIfInBounds_toArray, List.set_cons_zero, List.set_cons_succ]
          refine wpAnyH_take (i := 4) (oi := _) (v := ?_) rfl (by kernel_rfl) (by kernel_rfl) (by kernel_rfl) (fun _ _ _ h => h) ?_ (by assumption) ?_
          rotate_left 1
          · first
              | (refine Or.inl ⟨by rfl, ?_⟩; intro w9 hSw; (try dsimp only at hSw); go_simp; (try with_reducible rfl); done)
              | (refine Or.inr ⟨by rfl, ?_⟩; rfl)
          simp only [List.getElem_toArray, List.getElem_cons_succ, List.getElem_cons_zero, Act.put, List.setIfInBounds_toArray, List.set_cons_zero, List.set_cons_succ]
          refine wpAnyH_take (i := 5) (oi := _) (v := ?_) rfl (by kernel_rfl) (by kernel_rfl) (by kernel_rfl) (fun _ _ _ h => h) ?_ (by assumption) ?_
          rotate_left 1
          · first
              | (refine Or.inl ⟨by rfl, ?_⟩; intro w9 hSw; (try dsimp only at hSw); go_simp; (try with_reducible rfl); done)
              | (refine Or.inr ⟨by rfl, ?_⟩; rfl)
          simp only [List.getElem_toArray, List.getElem_cons_succ, List.getElem_cons_zero, Act.put, List.setIfInBounds_toArray, List.set_cons_zero, List.set_cons_succ]
          refine wpAnyH_ready (rs := [6]) (by kernel_rfl) (by simp) ?_
          refine AllReadyH.cons (o := _) rfl (fun K hK => ?_) AllReadyH.nil
          go_simp
          go_at_call 40
          refine (wstr_c b mb cur _ _ (HW4.out.bel (Bel.drew _)) HCL.out).mono ?_
          rintro e5 w5 ⟨rfl, hw5, hb5, hk5⟩
          dsimp only
          have hb5' : Below b V3 w5 := ((Below.refl b V3).drew).trans hb5
          have hk5' : KeepT (keepB WrE) V3 w5 := (KeepT.of_bel (Bel.drew V3)).trans hk5
          have hq5 := HQ3.out.keepT hk5' keepW_types.2.2.1
          refine hK.out _ _ (hq5.at 1) (fun hHeld => ?_)
          clear hK K
          refine wpAnyH_done (by kernel_rfl) ?_ _
          rw [HDT.out] at hw5
          have d6 : w5.cell? ⟨b9, 2, none⟩ = some (.string p2) := hq5.at 2
          have HW5 := Lib.hid hw5
          have HG5 := Lib.hid (HG4.out.below hb5')
          have HB5 := Lib.hid (HB4.out.trans hb5')
          have HK5 := Lib.hid (HK4.out.trans hk5')
          have HC6 := Lib.hid (wvalue_c b mb _ p2 w5 HW5.out (HE.out.bel HG5.out.bel) HPY.out.1 HPY.out.2.1 HPRE.out)
          clear hHeld hw5 hb5 hk5 hb5' hk5' hq5 d1 d2 f0 f1 f2 hsx hcat HQ3
          go_wp2_with fail
          refine HC6.out.mono ?_
          rintro e6 w6 ⟨rfl, hw6, hb6, hk6⟩
          have HW6 := Lib.hid hw6
          have HG6 := Lib.hid (HG5.out.below hb6)
          have HB6 := Lib.hid (HB5.out.trans hb6)
          have HK6 := Lib.hid (HK5.out.trans hk6)
          clear hw6 hb6 hk6 HC6 d6
          go_wp2_with fail
          exact ⟨⟨j + 1, _, by go_num, by omega, HW6, HR6, HG6, HB6, HK6⟩, by simp [intOf]; omega⟩
      · have hlti : ¬ ((j : Int) < pn) := by omega
        obtain rfl : j = pn := by omega
        have HRA : Hid (cur ++ (atsL L (al.drop 0) ++ tailN L NM ks) = RL) := Lib.hid (by have := HRJ.out; rwa [List.drop_eq_nil_of_le (by have := HPN.out; omega), show spcL [] = [] from rfl, List.nil_append, ← List.drop_zero (l := al)] at this)
        have q4 := Q1.out.keepT HKJ.out keepW_types.1
        have c3 := q4.at 3
        clear HRJ q4
        go_wp2_with fail
        go_loopw [61] (fun i wq => ∃ (k : Nat) (cur : List UInt8), i = .int .i64 k ∧ k ≤ an ∧ Hid (WB b mb cur wq) ∧ Hid (cur ++ (atsL L (al.drop k) ++ tailN L NM ks) = RL) ∧ Hid (WBase s0 u0 b mb n L wq) ∧ Hid (Below b w wq) ∧ Hid (KeepT (keepB WrE) V1 wq)) (fun i _ => an - (intOf i).toNat)
        case atStart => exact ⟨0, cur, rfl, Nat.zero_le _, HWJ, HRA, HGJ, HBJ, HKJ⟩
        case round =>
          obtain ⟨k, cur, rfl, hk, HWJ, HRJ, HGJ, HBJ, HKJ⟩ := hrel
          by_cases hlk : k < an
          · have hlki : (k : Int) < an := by omega
            obtain ⟨y, hy⟩ : ∃ y, al[k]? = some y := ⟨_, List.getElem?_eq_getElem (by have := HAN.out; omega)⟩
            obtain ⟨bb, off, rfl, g0, g1, g2⟩ := HATR.out k y hy
            have f0 := HGJ.out.rd.cell _ _ g0
            have f1 := HGJ.out.rd.cell _ _ g1
            have f2 := HGJ.out.rd.cell _ _ g2
            have hrj := HRJ.out
            rw [drop_tail hy, atsL_cons] at hrj
            have hym := List.mem_of_getElem? hy
            have hys := HAS.out y hym
            have hyf := (HFI.out.2.1 y hym).2
            obtain ⟨ya, yb, yc⟩ := y
            dsimp only at f0 f1 f2 hrj hys hyf
            have HR4 : Hid (cur ++ ([32] ++ (nameL L ya yb ++ (valL yc ++ (atsL L (al.drop (k + 1)) ++ tailN L NM ks)))) = RL) := Lib.hid (by rw [← hrj]; simp)
            have HR5 := Lib.hid (cur_step HR4.out)
            have HR6 := Lib.hid (cur_step HR5.out)
            have HR7 := Lib.hid (cur_step HR6.out)
            have hpre := pre_len HR7.out HLEN.out
            rw [List.length_append] at hpre
            have HPRE := Lib.hid hpre
            have HYS := Lib.hid hys
            have HYF := Lib.hid hyf
            obtain ⟨V3, h3, q3, l3, s3⟩ := alloc_step wr 63 [.string ya, .string yb, .string yc]
            obtain ⟨b9, hb9⟩ : ∃ k, wr.heap.size = k := ⟨_, rfl⟩
            rw [hb9] at q3
            have HQ3 := Lib.hid q3
            have HV3 := Lib.hid h3
            have HN9 := Lib.hid hb9
            have hb3 : Below b wr V3 := l3.mono HGJ.out.le
            have HW4 := Lib.hid (HWJ.out.bel l3)
            have HG4 := Lib.hid (HGJ.out.below hb3)
            have HB4 := Lib.hid (HBJ.out.trans hb3)
            have HK4 := Lib.hid (HKJ.out.trans (KeepT.of_bel l3))
            have HC5 := Lib.hid (wbyte_c b mb cur 32 V3 HW4.out (pre_len HR4.out HLEN.out))
            clear g0 g1 g2 hy hrj hym hys hyf h3 q3 l3 s3 hb9 hb3 hpre
            go_upto_region 16 with fail
            rw [show wr.alloc (.cells #[.string ya, .string yb, .string yc] 63) = V3 from HV3.out, HN9.out]
            clear HV3
            go_wp2_with fail
            refine HC5.out.mono ?_
            rintro e5 w5 ⟨rfl, hw5, hb5, hk5⟩
            have HW5 := Lib.hid hw5
            have HG5 := Lib.hid (HG4.out.below hb5)
            have HB5 := Lib.hid (HB4.out.trans hb5)
            have HK5 := Lib.hid (HK4.out.trans hk5)
            have q5 := HQ3.out.keepT hk5 keepW_types.2.1
            have d0 := q5.at 0
            have d1 := q5.at 1
            have HQ5 := Lib.hid q5
            have HC6 := Lib.hid (wname_c s0 u0 b mb n L HPL.out _ ya yb w5 HW5.out HG5.out HYS.out.1 HYS.out.2.1 (pfS_size HLF.out ya) (pre_len HR5.out HLEN.out))
            clear hw5 hb5 hk5 q5 HC5 f0 f1 f2 HQ3
            go_wp2_with fail
            refine HC6.out.mono ?_
            rintro e6 w6 ⟨rfl, hw6, hb6, hk6⟩
            have HW6 := Lib.hid hw6
            have HG6 := Lib.hid (HG5.out.below hb6)
            have HB6 := Lib.hid (HB5.out.trans hb6)
            have HK6 := Lib.hid (HK5.out.trans hk6)
            have q6 := HQ5.out.keepT hk6 keepW_types.2.1
            have d2 := q6.at 2
            have HC7 := Lib.hid (wvalue_c b mb _ yc w6 HW6.out (HE.out.bel HG6.out.bel) HYF.out HYS.out.2.2 HPRE.out)
            clear hw6 hb6 hk6 q6 HC6 d0 d1 HQ5
            go_wp2_with fail
            refine HC7.out.mono ?_
            rintro e7 w7 ⟨rfl, hw7, hb7, hk7⟩
            have HW7 := Lib.hid hw7
            have HG7 := Lib.hid (HG6.out.below hb7)
            have HB7 := Lib.hid (HB6.out.trans hb7)
            have HK7 := Lib.hid (HK6.out.trans hk7)
            clear hw7 hb7 hk7 HC7 d2
            go_wp2_with fail
            exact ⟨⟨k + 1, _, by go_num, by omega, HW7, HR7, HG7, HB7, HK7⟩, by simp [intOf]; omega⟩
          · have hlki : ¬ ((k : Int) < an) := by omega
            obtain rfl : k = an := by omega
            have HRT : Hid (cur ++ tailN L NM ks = RL) := Lib.hid (by have := HRJ.out; rwa [List.drop_eq_nil_of_le (by have := HAN.out; omega), show atsL L [] = [] from rfl, List.nil_append] at this)
            have q5 := Q1.out.keepT HKJ.out keepW_types.1
            have c4 := q5.at 4
            clear HRJ q5
            by_cases hk0 : kn = 0
            · subst hk0
              have hks : ks = [] := List.eq_nil_of_length_eq_zero HKN.out
              have HR8 : Hid (cur ++ [47, 62] = RL) := Lib.hid (by have := HRT.out; unfold tailN at this; rwa [if_pos hks] at this)
              have HC8 := Lib.hid fun W (hW : WB b mb cur W) => wstr_c b mb cur ⟨#[47, 62]⟩ W hW (by have := pre_len HR8.out HLEN.out; have : (⟨#[47, 62]⟩ : ByteArray).size = 2 := rfl; omega)
              clear HRT hks
              go_wp2_with fail
              refine (HC8.out _ HWJ.out).mono ?_
              rintro e8 w8 ⟨rfl, hw8, hb8, hk8⟩
              have HW8 := Lib.hid hw8
              have HG8 := Lib.hid (HGJ.out.below hb8)
              have HB8 := Lib.hid (HBJ.out.trans hb8)
              have HK8 := Lib.hid (HKJ.out.trans hk8)
              have HR9 : Hid (WB b mb RL w8) := Lib.hid (by rw [← HR8.out]; exact hw8)
              clear hw8 hb8 hk8 HC8 c4
              go_wp2_with fail
              refine bodyPost_ret (results_none rfl _ _ _) rfl ?_
              exact ⟨rfl, HR9.out, HB8.out, HKW.out.trans HK8.out⟩
            · have hks : ks ≠ [] := fun e => hk0 (by have := HKN.out; rw [e] at this; exact this.symm)
              have HR8 : Hid (cur ++ ([62] ++ (wrsN L (ks.drop 0) ++ ([60, 47] ++ (NM ++ [62])))) = RL) := Lib.hid (by have := HRT.out; unfold tailN at this; rwa [if_neg hks] at this)
              have HR9 := Lib.hid (cur_step HR8.out)
              have hk1 : ((kn : Int) == 0) = false := by simpa using hk0
              have HC8 := Lib.hid fun W (hW : WB b mb cur W) => wbyte_c b mb cur 62 W hW (pre_len HR8.out HLEN.out)
              clear HRT hks
              go_wp2_with fail
              refine (HC8.out _ HWJ.out).mono ?_
              rintro e8 w8 ⟨rfl, hw8, hb8, hk8⟩
              have HW8 := Lib.hid hw8
              have HG8 := Lib.hid (HGJ.out.below hb8)
              have HB8 := Lib.hid (HBJ.out.trans hb8)
              have HK8 := Lib.hid (HKJ.out.trans hk8)
              have q8 := Q1.out.keepT HK8.out keepW_types.1
              have c4 := q8.at 4
              clear hw8 hb8 hk8 q8 HC8
              go_wp2_with fail
              go_loopw [93] (fun i wz => ∃ (q : Nat) (cur : List UInt8), i = .int .i64 q ∧ q ≤ kn ∧ Hid (WB b mb cur wz) ∧ Hid (cur ++ (wrsN L (ks.drop q) ++ ([60, 47] ++ (NM ++ [62]))) = RL) ∧ Hid (WBase s0 u0 b mb n L wz) ∧ Hid (Below b w wz) ∧ Hid (KeepT (keepB WrE) V1 wz)) (fun i _ => kn - (intOf i).toNat)
              case atStart => exact ⟨0, _, rfl, Nat.zero_le _, HW8, HR9, HG8, HB8, HK8⟩
              case round =>
                obtain ⟨q, cur, rfl, hq, HWJ, HRJ, HGJ, HBJ, HKJ⟩ := hrel
                by_cases hlq : q < kn
                · have hlqi : (q : Int) < kn := by omega
                  obtain ⟨y, hy⟩ : ∃ y, ks[q]? = some y := ⟨_, List.getElem?_eq_getElem (by have := HKN.out; omega)⟩
                  obtain ⟨bb, off, yaa, yan, yac, yka, ykn, ykc, rfl, g0, g1, g2, g3, g4, g5, hyn⟩ := HKI.out q y hy
                  have f0 := HGJ.out.rd.cell _ _ g0
                  have f1 := HGJ.out.rd.cell _ _ g1
                  have f2 := HGJ.out.rd.cell _ _ g2
                  have f3 := HGJ.out.rd.cell _ _ g3
                  have f4 := HGJ.out.rd.cell _ _ g4
                  have f5 := HGJ.out.rd.cell _ _ g5
                  have hym := List.mem_of_getElem? hy
                  have hrj := HRJ.out
                  rw [drop_tail hy, wrsN, List.append_assoc] at hrj
                  have HR9 := Lib.hid (cur_step hrj)
                  obtain ⟨V3, h3, q3, l3, s3⟩ := alloc_step wr 27 [.int .i64 y.t, .string y.sp, .string y.lo, .slice yaa yan yac, .slice yka ykn ykc, .string y.tx]
                  have d0 := q3.at 0
                  have d1 := q3.at 1
                  have d2 := q3.at 2
                  have d3 := q3.at 3
                  have d4 := q3.at 4
                  have d5 := q3.at 5
                  have HV3 := Lib.hid h3
                  have hb3 : Below b wr V3 := l3.mono HGJ.out.le
                  have HW4 := Lib.hid (HWJ.out.bel l3)
                  have HG4 := Lib.hid (HGJ.out.below hb3)
                  have HB4 := Lib.hid (HBJ.out.trans hb3)
                  have HK4 := Lib.hid (HKJ.out.trans (KeepT.of_bel l3))
                  have HC9 := Lib.hid (HKID.out y hym _ _ cur V3 hyn HW4.out HG4.out (rights_mem HRK.out hym) (fines_mem HFI.out.2.2.2 hym) (pre_len HR9.out HLEN.out))
                  unfold ndV at HC9
                  clear g0 g1 g2 g3 g4 g5 hy hyn hym hrj h3 q3 l3 s3 hb3
                  go_upto_region 26 with fail
                  rw [show wr.alloc (.cells #[.int .i64 y.t, .string y.sp, .string y.lo, .slice yaa yan yac, .slice yka ykn ykc, .string y.tx] 27) = V3 from HV3.out]
                  clear HV3
                  go_wp2_with fail
                  refine HC9.out.mono ?_
                  rintro e9 w9 ⟨rfl, hw9, hb9, hk9⟩
                  have HW9 := Lib.hid hw9
                  have HG9 := Lib.hid (HG4.out.below hb9)
                  have HB9 := Lib.hid (HB4.out.trans hb9)
                  have HK9 := Lib.hid (HK4.out.trans hk9)
                  clear hw9 hb9 hk9 HC9 d0 d1 d2 d3 d4 d5 f0 f1 f2 f3 f4 f5
                  go_wp2_with fail
                  exact ⟨⟨q + 1, _, by go_num, by omega, HW9, HR9, HG9, HB9, HK9⟩, by simp [intOf]; omega⟩
                · have hlqi : ¬ ((q : Int) < kn) := by omega
                  have HRA : Hid (cur ++ ([60, 47] ++ (NM ++ [62])) = RL) := Lib.hid (by have := HRJ.out; rwa [List.drop_eq_nil_of_le (by have := HKN.out; omega), wrsN, List.nil_append] at this)
                  have HRB := Lib.hid (cur_step HRA.out)
                  have HRC := Lib.hid (cur_step HRB.out)
                  have HCA := Lib.hid fun W (hW : WB b mb cur W) => wstr_c b mb cur ⟨#[60, 47]⟩ W hW (by have := pre_len HRA.out HLEN.out; have : (⟨#[60, 47]⟩ : ByteArray).size = 2 := rfl; omega)
                  clear HRJ
                  go_wp2_with fail
                  refine (HCA.out _ HWJ.out).mono ?_
                  rintro e10 w10 ⟨rfl, hw10, hb10, hk10⟩
                  have HW10 := Lib.hid hw10
                  have HG10 := Lib.hid (HGJ.out.below hb10)
                  have HB10 := Lib.hid (HBJ.out.trans hb10)
                  have HK10 := Lib.hid (HKJ.out.trans hk10)
                  have qa := Q1.out.keepT HK10.out keepW_types.1
                  have c1 := qa.at 1
                  have c2 := qa.at 2
                  have HCB := Lib.hid (HNM.out _ _ HW10.out HG10.out (pre_len HRB.out HLEN.out))
                  clear hw10 hb10 hk10 qa HCA
                  go_wp2_with fail
                  refine HCB.out.mono ?_
                  rintro e11 w11 ⟨rfl, hw11, hb11, hk11⟩
                  have HW11 := Lib.hid hw11
                  have HG11 := Lib.hid (HG10.out.below hb11)
                  have HB11 := Lib.hid (HB10.out.trans hb11)
                  have HK11 := Lib.hid (HK10.out.trans hk11)
                  have HCC := Lib.hid (wbyte_c b mb _ 62 w11 HW11.out (pre_len HRC.out HLEN.out))
                  clear hw11 hb11 hk11 HCB c1 c2
                  go_wp2_with fail
                  refine HCC.out.mono ?_
                  rintro e12 w12 ⟨rfl, hw12, hb12, hk12⟩
                  have HW12 := Lib.hid hw12
                  have HG12 := Lib.hid (HG11.out.below hb12)
                  have HB12 := Lib.hid (HB11.out.trans hb12)
                  have HK12 := Lib.hid (HK11.out.trans hk12)
                  have HR9 : Hid (WB b mb RL w12) := Lib.hid (by rw [← HRC.out]; exact hw12)
                  clear hw12 hb12 hk12 HCC
                  go_wp2_with fail
                  go_end0
                  exact ⟨rfl, HR9.out, HB12.out, HKW.out.trans HK12.out⟩
end Go.Proofs.YtojeclfcgnamoaaDoor

namespace Go.Proofs.YtojeclfcgnamoaaDoor
open Go.RowKit

/-! How long the bytes are. -/
theorem name_len {L : List Pr6} (hL : ∀ p ∈ L, p.1.size ≤ 11) (sp lo : ByteArray) : (nameL L sp lo).length ≤ lo.size + 12 := by
  unfold nameL
  cases hf : L.find? fun p => decide (p.2 = sp) with
  | none => show lo.size ≤ _; omega
  | some p =>
    have := hL p (List.mem_of_find?_eq_some hf)
    show (p.1.data.toList ++ 58 :: lo.data.toList).length ≤ _
    rw [List.length_append, List.length_cons]
    have h1 : p.1.data.toList.length = p.1.size := rfl
    have h2 : lo.data.toList.length = lo.size := rfl
    omega
theorem esc_len (v : Bool) (s : ByteArray) : (escL v s).length ≤ 6 * s.size := escL_le v s.data.toList
theorem ats_len {L : List Pr6} (hL : ∀ p ∈ L, p.1.size ≤ 11) : ∀ al : List Atr, (atsL L al).length ≤ 40 * atrSum al
  | [] => by simp [atsL]
  | a :: r => by
    have ih := ats_len hL r
    have h1 := name_len hL a.1 a.2.1
    have h2 := esc_len true a.2.2
    rw [atsL_cons, List.length_append, List.length_append, List.length_append, valL_len]
    unfold atrSum at ih ⊢
    rw [List.map_cons, List.sum_cons]
    simp only [List.length_cons, List.length_nil]
    omega
mutual
theorem wr_len {L : List Pr6} (hL : ∀ p ∈ L, p.1.size ≤ 11) : ∀ x : Nd, (wrN L false x).length ≤ 40 * x.bulk
  | .mk t sp lo al ks tx => by
    rw [nd_bulk]
    show _ ≤ 40 * (sp.size + lo.size + tx.size + atrSum al + Nd.bulk.bulks ks + 1)
    by_cases h : lo = ⟨#[]⟩
    · rw [wr_text L false h]
      have := esc_len false tx
      omega
    · rw [wr_elem L false h]
      have h1 := name_len hL sp lo
      have h2 := ats_len hL al
      have h3 := wrs_len hL ks
      rw [ats_pq] at h2
      unfold tailN
      simp only [List.length_cons, List.length_append, Bool.false_eq_true, if_false, List.nil_append]
      split
      · simp; omega
      · simp; omega
theorem wrs_len {L : List Pr6} (hL : ∀ p ∈ L, p.1.size ≤ 11) : ∀ l : List Nd, (wrsN L l).length ≤ 40 * Nd.bulk.bulks l
  | [] => by rw [wrsN]; simp
  | x :: r => by
    have h1 := wr_len hL x
    have h2 := wrs_len hL r
    rw [wrsN, List.length_append, bulks_cons]
    omega
end
theorem spc_len {L : List Pr6} {B : Nat} : ∀ (PP : List Pr6), (∀ p ∈ PP, p.1.size ≤ 11 ∧ p.2.size ≤ B) → (spcL PP).length ≤ PP.length * (21 + 6 * B)
  | [], _ => by simp [spcL]
  | p :: r, h => by
    have ih := spc_len (L := L) r fun q hq => h q (List.mem_cons_of_mem _ hq)
    have h1 := h p (List.mem_cons_self ..)
    have h2 := esc_len true p.2
    have h3 : p.1.data.toList.length = p.1.size := rfl
    rw [spcL_cons, List.length_append, List.length_cons, Nat.add_mul]
    split
    · simp; omega
    · rw [List.length_append, List.length_append, valL_len]
      simp only [List.length_cons, List.length_nil]
      omega
theorem wr_true {L : List Pr6} (x : Nd) : (wrN L true x).length ≤ (wrN L false x).length + (spcL L).length := by
  obtain ⟨t, sp, lo, al, ks, tx⟩ := x
  by_cases h : lo = ⟨#[]⟩
  · rw [wr_text L false h, wr_text L true h]; omega
  · rw [wr_elem L false h, wr_elem L true h, if_pos rfl, pqL_app, ← spc_pq]
    simp
    omega
theorem pref_facts {x : Nd} (h : CheckN x = 0) (hb : x.bulk ≤ 10000) : (∀ p ∈ PrefN x, fineS p.2 = true ∧ p.2.size ≤ 10000 ∧ p.1.size ≤ 11) ∧ (PrefN x).length ≤ 10000 := by
  have h1 := met_all (sortN x) [] (by simp) (fine_all _ (fine_sort _ (chk_fine x 1 false h)))
  have h2 := met_all (sortN x) [] (by simp) (size_all 10000 (sortN x) (by rw [sortN_bulk]; exact hb))
  have h3 := metN_len (sortN x) []
  rw [sortN_bulk] at h3
  have h4 : (PrefN x).length ≤ 10000 := by unfold PrefN; simp at h3; omega
  refine ⟨fun p hp => ⟨h1 p hp, h2 p hp, ?_⟩, h4⟩
  obtain ⟨_, ⟨_, g⟩ | ⟨_, g⟩ | ⟨_, _, i, _, gi, g⟩⟩ := (prefN_ok x).each p hp
  · rw [g]; decide +kernel
  · rw [g]; decide +kernel
  · rw [g]
    have h5 := othersP_le (PrefN x)
    have h6 := decB_len 10 i (by omega)
    show (110 :: decB i).length ≤ 11
    rw [List.length_cons]
    omega
theorem write_len {x : Nd} (h : CheckN x = 0) (hb : x.bulk ≤ 10000) : (wrN (PrefN x) true (sortN x)).length ≤ 1073741824 := by
  obtain ⟨h1, h2⟩ := pref_facts h hb
  have h3 := wr_true (L := PrefN x) (sortN x)
  have h4 := wr_len (L := PrefN x) (fun p hp => (h1 p hp).2.2) (sortN x)
  have h5 := spc_len (L := []) (B := 10000) (PrefN x) fun p hp => ⟨(h1 p hp).2.2, (h1 p hp).2.1⟩
  rw [sortN_bulk] at h4
  have h6 : (PrefN x).length * (21 + 6 * 10000) ≤ 10000 * (21 + 6 * 10000) := Nat.mul_le_mul_right _ h2
  omega
theorem wnodeK_c (s0 u0 : World) (b mb n : Nat) (L : List Pr6) (hL : PrefOK L) (hLf : ∀ p ∈ L, fineS p.2 = true ∧ p.2.size ≤ 1073741824 ∧ p.1.size ≤ 1073741824) (hE : Env s0) : ∀ (f : Nat) (x : Nd), x.bulk ≤ f → f ≤ 1000000 → ∀ va vk l w, NdAt u0 x va vk → RightN x → FineN x → WB b mb l w → WBase s0 u0 b mb n L w → (l ++ wrN L false x).length ≤ 1073741824 →
    Calls Tryd.prog 20 #[.pointer (some ⟨b, 0, none⟩), ndV x va vk, .slice none 0 0] w fun e w' => e = .returned (.tuple #[]) ∧ RetWB b mb (l ++ wrN L false x) w w' := by
  intro f
  induction f with
  | zero => intro x hx; have := nd_pos x; omega
  | succ f ih =>
    intro x hx hf va vk l w h1 h2 h3 h4 h5 h6
    have := wnodeF_c s0 u0 b mb n L hL hLf hE f (fun y hy ya yk l' w' g1 g2 g3 g4 g5 g6 => ih y hy (by omega) ya yk l' w' g1 g2 g3 g4 g5 g6) x hx (by omega) va vk [] none 0 0 h1 (pairs_nil u0) (by simp) (by omega) h2 h3 l w h4 h5 (by rw [wrP_none]; exact h6)
    rw [wrP_none] at this
    exact this
theorem wnode_c (s0 u0 : World) (b mb n : Nat) (L : List Pr6) (hL : PrefOK L) (hLf : ∀ p ∈ L, fineS p.2 = true ∧ p.2.size ≤ 1073741824 ∧ p.1.size ≤ 1073741824) (hE : Env s0) (x : Nd) (hx : x.bulk ≤ 1000000) (va vk : Value) (pa : Option Addr) (pn pc : Nat) (hpp : PairsAt u0 (.slice pa pn pc) L) (hpn : pn ≤ 1073741824) (l : List UInt8) (w : World) (h1 : NdAt u0 x va vk) (h2 : RightN x) (h3 : FineN x) (h4 : WB b mb l w) (h5 : WBase s0 u0 b mb n L w) (h6 : (l ++ wrN L true x).length ≤ 1073741824) :
    Calls Tryd.prog 20 #[.pointer (some ⟨b, 0, none⟩), ndV x va vk, .slice pa pn pc] w fun e w' => e = .returned (.tuple #[]) ∧ RetWB b mb (l ++ wrN L true x) w w' := by
  have := wnodeF_c s0 u0 b mb n L hL hLf hE x.bulk (fun y hy ya yk l' w' g1 g2 g3 g4 g5 g6 => wnodeK_c s0 u0 b mb n L hL hLf hE x.bulk y hy hx ya yk l' w' g1 g2 g3 g4 g5 g6) x (Nat.le_succ _) hx va vk L pa pn pc h1 hpp hLf hpn h2 h3 l w h4 h5 (by rw [wrP_all]; exact h6)
  rw [wrP_all] at this
  exact this
theorem wr_ne (L : List Pr6) {x : Nd} (h : x.lo ≠ ⟨#[]⟩) : wrN L true (sortN x) ≠ [] := by
  obtain ⟨t, sp, lo, al, ks, tx⟩ := x
  rw [sortN, wr_elem L true (show lo ≠ ⟨#[]⟩ from h)]
  simp
def RetWr (x : Nd) (k : Nat) (w : World) (r : Ending) (w' : World) : Prop := (∃ v, r = .returned (.tuple #[v, .int .i64 k]) ∧ ((k ≠ 0 ∧ v = .slice none 0 0) ∨ (k = 0 ∧ BytesAt w' v (WriteN x)))) ∧ Bel w w'
set_option maxRecDepth 100000 in
set_option maxHeartbeats 8000000 in
/-- xmlout.Write. -/
theorem xWrite_c (x : Nd) (va vk : Value) (w : World) (hx : x.bulk ≤ 10000) (hE : EnvT w) (h : NdAt w x va vk) : Calls Tryd.prog 9 #[ndV x va vk] w (RetWr x (CheckN x) w) := by
  have HC := Lib.hid fun W (hW : Bel w W) => xCheck_c x va vk W (by omega) (hE.1.bel hW) (NdAt.bel hW x h)
  obtain ⟨b0, hb0⟩ : ∃ b, w.heap.size = b := ⟨_, rfl⟩
  have HS : Hid (∀ W, DistN x → Bel w W → b0 < W.heap.size → Calls Tryd.prog 18 #[ndV x va vk] W fun r w' => ∃ va' vk', r = .returned (ndV (sortN x) va' vk') ∧ NdAt (hole w' fun k => k == b0) (sortN x) va' vk' ∧ Bel W w') := Lib.hid fun W hd hW hlt => by
    refine sortedS_c x.bulk x (Nat.le_refl _) (by omega) hd va vk W (fun k => k == b0) (fun k hk => by rw [show k = b0 from by simpa using hk]; exact hlt) ?_
    have h0 : Reads w (hole w fun _ => false) := ⟨fun p v hp => (hole_cell_of (S := fun _ => false) rfl).trans hp, by rw [hole_size]; exact Nat.le_refl _⟩
    exact (h.reads h0).reads (reads_grow hW fun k hk hk2 => by
      have : k = b0 := by simpa using hk2
      omega)
  have hfacts := fun (h0 : CheckN x = 0) => And.intro (check_right h0) (And.intro (chk_fine x 1 false h0) (And.intro (pref_facts h0 hx) (write_len h0 hx)))
  have HP := Lib.hid fun ya yk W (hW : Bel w W) (hN : NdAt W (sortN x) ya yk) => prefixes_c (sortN x) ya yk W (by rw [sortN_bulk]; omega) (hE.bel hW) hN
  obtain ⟨aa, ka, an, ac, kn, kc, rfl, rfl, -⟩ := h.opened
  unfold ndV at HC HS HP ⊢
  obtain ⟨k, hk⟩ : ∃ k, CheckN x = k := ⟨_, rfl⟩
  rw [hk] at HC ⊢
  have hfc : k = 0 → _ := fun h0 => hfacts (hk.trans h0)
  obtain ⟨V1, h1, q1, l1, s1⟩ := alloc_step w 27 [.int .i64 x.t, .string x.sp, .string x.lo, .slice aa an ac, .slice ka kn kc, .string x.tx]
  have c0 := q1.at 0
  have c1 := q1.at 1
  have c2 := q1.at 2
  have c3 := q1.at 3
  have c4 := q1.at 4
  have c5 := q1.at 5
  have L1 := Lib.hid l1
  have HV1 := Lib.hid h1
  have Q1 := Lib.hid q1
  have HFC := Lib.hid hfc
  have HE := Lib.hid hE
  have HN0 := Lib.hid hb0
  have hS1 : Hid (V1.heap.size = b0 + 1) := Lib.hid (by rw [s1, hb0])
  rw [hb0] at Q1 c0 c1 c2 c3 c4 c5
  clear h1 q1 l1 s1 h hE hk hfacts hfc hb0
  go_enter Tryd.func9, Tryd.ntmps9
  go_upto_region 1 with fail
  rw [show w.alloc (.cells #[.int .i64 x.t, .string x.sp, .string x.lo, .slice aa an ac, .slice ka kn kc, .string x.tx] 27) = V1 from HV1.out, HN0.out]
  clear HV1
  go_wp2_with fail
  refine (HC.out _ L1.out).mono ?_
  rintro e2 w2 ⟨rfl, hb2⟩
  have HB2 := Lib.hid (L1.out.trans hb2)
  have Q2 := Lib.hid (Q1.out.bel hb2)
  have d0 := hb2.keep c0
  have d1 := hb2.keep c1
  have d2 := hb2.keep c2
  have d3 := hb2.keep c3
  have d4 := hb2.keep c4
  have d5 := hb2.keep c5
  have HLT : Hid (b0 < w2.heap.size) := Lib.hid (by have := hb2.size; have := hS1.out; omega)
  clear hb2 c0 c1 c2 c3 c4 c5 Q1 HC
  by_cases hk0 : k = 0
  · subst hk0
    obtain ⟨⟨hri, hdi, hlo⟩, hfi, ⟨hpf, hpl⟩, hwl⟩ := HFC.out rfl
    have HDI := Lib.hid hdi
    have HRI := Lib.hid (right_sort x hri)
    have HFI := Lib.hid (fine_sort x hfi)
    have HPF := Lib.hid hpf
    have HPL := Lib.hid hpl
    have HWL := Lib.hid hwl
    have HLO := Lib.hid hlo
    clear HFC hri hdi hlo hfi hpf hpl hwl
    go_wp2_with (go_at_call 18; refine (HS.out _ HDI.out HB2.out HLT.out).mono ?_; rintro e3 w3 ⟨ya, yk, rfl, hn3, hb3⟩; obtain ⟨yaa, yka, yan, yac, ykn, ykc, rfl, rfl, -⟩ := hn3.opened; have HN3 := Lib.hid hn3; have HB3 := Lib.hid (HB2.out.trans hb3); have Q3 := Lib.hid (Q2.out.bel hb3); have HLT3 := Lib.hid (Nat.lt_of_lt_of_le HLT.out hb3.size); have e0 := hb3.keep d0; have e1 := hb3.keep d1; have e2 := hb3.keep d2; have e3 := hb3.keep d3; have e4 := hb3.keep d4; have e5 := hb3.keep d5; have f0 := Q3.out.fz 0; have f1 := Q3.out.fz 1; have f2 := Q3.out.fz 2; have f3 := Q3.out.fz 3; have f4 := Q3.out.fz 4; have f5 := Q3.out.fz 5; clear hn3 hb3)
    obtain ⟨W4, hW4⟩ : ∃ W, ((((((w3.setCell ⟨b0, 0, none⟩ (.int .i64 (sortN x).t)).setCell ⟨b0, 1, none⟩ (.string (sortN x).sp)).setCell ⟨b0, 2, none⟩ (.string (sortN x).lo)).setCell ⟨b0, 3, none⟩ (.slice yaa yan yac)).setCell ⟨b0, 4, none⟩ (.slice yka ykn ykc)).setCell ⟨b0, 5, none⟩ (.string (sortN x).tx)) = W := ⟨_, rfl⟩
    rw [hW4]
    have hp4 : put6 w3 b0 0 (.int .i64 (sortN x).t) (.string (sortN x).sp) (.string (sortN x).lo) (.slice yaa yan yac) (.slice yka ykn ykc) (.string (sortN x).tx) = W4 := hW4
    have HB4 : Hid (Bel w W4) := Lib.hid (by rw [← hp4]; exact put6_bel HB3.out (by rw [HN0.out]; exact Nat.le_refl _) 0 _ _ _ _ _ _)
    have HN4 : Hid (NdAt W4 (sortN x) (.slice yaa yan yac) (.slice yka ykn ykc)) := Lib.hid (by
      rw [← hp4]
      exact NdAt.reads (reads_hole _ fun k => k == b0) _ (NdAt.reads (put6_reads (T := fun k => k == b0) (by simp) 0 _ _ _ _ _ _) _ HN3.out))
    have HQ4 : Hid (Blk W4 b0 27 [.int .i64 (sortN x).t, .string (sortN x).sp, .string (sortN x).lo, .slice yaa yan yac, .slice yka ykn ykc, .string (sortN x).tx]) := Lib.hid (by
      rw [← hW4]
      exact (((((Q3.out.set 0 _).set 1 _).set 2 _).set 3 _).set 4 _).set 5 _)
    clear hW4 hp4 HN3 Q3 Q2 HLT HLT3 HB3 HB2 e0 e1 e2 e3 e4 e5 f0 f1 f2 f3 f4 f5 d0 d1 d2 d3 d4 d5 HS
    have hmm := @run_makeMap Tryd.prog
    refine (HP.out _ _ W4 HB4.out HN4.out).mono ?_
    rintro e5 w5 ⟨v5, rfl, hpr, hb5⟩
    obtain ⟨pa, pc, rfl, -⟩ := id hpr
    obtain ⟨ln, hln⟩ : ∃ n, (metN [] (sortN x)).length = n := ⟨_, rfl⟩
    have HPR : Hid (PairsAt w5 (.slice pa ln pc) (PrefN x)) := Lib.hid (by rw [← hln]; exact hpr)
    have HLN : Hid ((PrefN x).length = ln) := Lib.hid hln
    have hln2 : ln ≤ 10000 := by have := HPL.out; have := HLN.out; omega
    rw [hln]
    have HB5 := Lib.hid (HB4.out.trans hb5)
    have HN5 := Lib.hid (NdAt.bel hb5 _ HN4.out)
    have HQ5 := Lib.hid (HQ4.out.bel hb5)
    obtain ⟨V6, h6⟩ : ∃ V, w5.alloc (.map #[] 0) = V := ⟨_, rfl⟩
    have l6 : Bel w5 V6 := by rw [← h6]; exact Bel.alloc _ _
    have s6 : V6.heap.size = w5.heap.size + 1 := by rw [← h6, World.size_alloc]
    have p6 : PMap V6 w5.heap.size 0 [] := by rw [← h6]; exact pm_new w5
    obtain ⟨mb, hmb⟩ : ∃ m, w5.heap.size = m := ⟨_, rfl⟩
    obtain ⟨V7, h7, q7, l7, s7⟩ := alloc_step V6 WrE [.pointer none, .slice none 0 0, .map (some mb)]
    have hwb : WB V6.heap.size mb [] V7 := by rw [← h7]; exact EB.new (E := WrE) (rest := [.map (some mb)]) V6 (Nat.le_refl _)
    obtain ⟨b, hb⟩ : ∃ m, V6.heap.size = m := ⟨_, rfl⟩
    rw [hmb] at s6 p6
    rw [hb] at hwb s6
    have HMB1 : Hid (mb + 1 = b) := Lib.hid s6.symm
    have hmlt : mb < b := by omega
    have HW7 := Lib.hid hwb
    have HB7 := Lib.hid (l6.trans l7)
    have HP7 : Hid (PMap V7 mb 0 []) := Lib.hid (p6.kept (l7.block (by omega)))
    have HV6 := Lib.hid h6
    have HV7 := Lib.hid h7
    have HMB := Lib.hid hmb
    have HBN := Lib.hid hb
    clear h6 h7 l6 l7 s6 s7 q7 p6 hwb hmb hb hb5 hpr hln HP HB4 HN4 HQ4
    go_upto_region 7 with fail
    rw [HMB.out, show w5.alloc (.map #[] 0) = V6 from HV6.out, show V6.alloc (.cells #[.pointer none, .slice none 0 0, .map (some mb)] 57) = V7 from HV7.out, HMB1.out]
    clear HV6 HV7 hmm
    obtain ⟨L, hL⟩ : ∃ L, PrefN x = L := ⟨_, rfl⟩
    have HPO : Hid (PrefOK L) := Lib.hid (by rw [← hL]; exact prefN_ok x)
    rw [hL] at HPR HLN HPF HWL
    have HWN : Hid (WriteN x = ⟨(wrN L true (sortN x)).toArray⟩) := Lib.hid (by rw [← hL]; rfl)
    obtain ⟨pa', pc', hpe, -, hpk⟩ := id HPR.out
    injection hpe with e1 e2 e3
    subst e1 e3
    clear e2
    have HPK := Lib.hid hpk
    clear hpk hL HPL
    go_wp2_with fail
    go_loopw [23] (fun i wr => ∃ (j : Nat), i = .int .i64 j ∧ j ≤ ln ∧ Hid (PMap wr mb j (L.take j)) ∧ Hid (WB b mb [] wr) ∧ Hid (Bel w5 wr)) (fun i _ => ln - (intOf i).toNat)
    case atStart => exact ⟨0, rfl, Nat.zero_le _, by rw [List.take_zero]; exact HP7, HW7, HB7⟩
    case round =>
      obtain ⟨j, rfl, hj, HPJ, HWJ, HBJ⟩ := hrel
      have hble : b ≤ wr.heap.size := Nat.le_of_lt HWJ.out.lt
      by_cases hlt : j < ln
      · have hlti : (j : Int) < ln := by omega
        obtain ⟨y, hy⟩ : ∃ y, L[j]? = some y := ⟨_, List.getElem?_eq_getElem (by have := HLN.out; omega)⟩
        obtain ⟨bb, off, rfl, g0, g1, g2⟩ := HPK.out j y hy
        have f0 := HBJ.out.keep g0
        have f1 := HBJ.out.keep g1
        have f2 := HBJ.out.keep g2
        have htk : L.take (j + 1) = L.take j ++ [y] := by rw [List.take_add_one, hy]; rfl
        have hnew : y.2 ∉ (L.take j).map Prod.snd := by
          have hnd := HPO.out.spaces
          rw [← List.take_append_drop j L, drop_tail hy, List.map_append, List.map_cons, List.nodup_append] at hnd
          exact fun hm => hnd.2.2 _ hm _ (List.mem_cons_self ..) rfl
        have hyf := HPF.out y (List.mem_of_getElem? hy)
        obtain ⟨y1, y2⟩ := y
        dsimp only at f0 f1 f2 hnew hyf
        obtain ⟨V8, h8, q8, l8, s8⟩ := alloc_step wr 47 [.int .i64 0, .string y1, .string y2]
        obtain ⟨b9, hb9⟩ : ∃ k, wr.heap.size = k := ⟨_, rfl⟩
        rw [hb9] at q8
        have p8 : PMap V8.drew mb j (L.take j) := (HPJ.out.kept (l8.block HPJ.out.lt)).kept rfl
        obtain ⟨W9, hup, p9, hg9⟩ := pm_put p8 (by omega) (s := y2) (q := y1) (by unfold maxLen; omega) (by unfold maxLen; omega) hnew
        rw [← htk] at p9
        have w8 := HWJ.out.bel l8
        have cw : V8.cell? ⟨b, 2, none⟩ = some (.map (some mb)) := w8.far 0 _ rfl
        have cb : Blk V8 b9 47 [.int .i64 0, .string y1, .string y2] := q8
        have r1 : V8.cell? ⟨b9, 1, none⟩ = some (.string y1) := cb.at 1
        have r2 : V8.cell? ⟨b9, 2, none⟩ = some (.string y2) := cb.at 2
        have hk9 : KeepT (fun _ => true) V8 W9 := by
          obtain ⟨D, hD, _⟩ := p8
          exact (KeepT.of_bel (Bel.drew V8)).trans (map_keep hD hg9)
        have cw9 : W9.cell? ⟨b, 2, none⟩ = some (.map (some mb)) := by
          obtain ⟨_, p, v, _, hbk, _⟩ := w8
          have hbk9 := (hk9.2 b _ _ _ hbk rfl).trans hbk
          rw [Lib.cell_of_heap hbk9]; rfl
        have r19 : W9.cell? ⟨b9, 1, none⟩ = some (.string y1) := (cb.keepT hk9 rfl).at 1
        have r29 : W9.cell? ⟨b9, 2, none⟩ = some (.string y2) := (cb.keepT hk9 rfl).at 2
        have HW9 : Hid (WB b mb [] W9) := Lib.hid (by
          obtain ⟨hb1, p, v, hp, hbk, hown, hne⟩ := w8
          exact ⟨hb1, p, v, hp, (hk9.2 b _ _ _ hbk rfl).trans hbk, hk9.own hown rfl, hne⟩)
        have HB9 : Hid (Bel w5 W9) := Lib.hid (Below.grown ((HBJ.out.trans l8).trans (Bel.drew _)) hg9 ((HBJ.out.trans l8).trans (Bel.drew _)).size (fun k e => by cases e; rw [HMB.out]; exact Nat.le_refl _))
        have HP9 := Lib.hid p9
        have HV8 := Lib.hid h8
        have HN9 := Lib.hid hb9
        clear g0 g1 g2 hy htk hnew hyf h8 q8 l8 s8 hb9 p8 p9 hg9 w8 cb hk9
        go_upto_region 10 with fail
        rw [show wr.alloc (.cells #[.int .i64 0, .string y1, .string y2] 47) = V8 from HV8.out, HN9.out]
        clear HV8
        refine wp_region_held_drew (S := fun w' => w'.cell? ⟨b, 2, none⟩ = some (.map (some mb)) ∧ w'.cell? ⟨b9, 1, none⟩ = some (.string y1) ∧ w'.cell? ⟨b9, 2, none⟩ = some (.string y2)) (by kernel_rfl) ⟨cw, r1, r2⟩ (fun hHeld => ?_)
        refine wpAnyH_take (i := 0) (oi := _) (v := ?_) rfl (by kernel_rfl) (by kernel_rfl) (by kernel_rfl) (fun _ _ _ h => h) ?_ (by assumption) ?_
        rotate_left 1
        · first
            | (refine Or.inl ⟨by rfl, ?_⟩; intro w9 hSw; (try dsimp only at hSw); go_simp; (try with_reducible rfl); done)
            | (refine Or.inr ⟨by rfl, ?_⟩; rfl)
        simp only [List.getElem_toArray, List.getElem_cons_zero, Act.put, List.setIfInBounds_toArray, List.set_cons_zero, List.set_cons_succ]
        refine wpAnyH_take (i := 1) (oi := _) (v := ?_) rfl (by kernel_rfl) (by kernel_rfl) (by kernel_rfl) (fun _ _ _ h => h) ?_ (by assumption) ?_
        rotate_left 1
        · first
            | (refine Or.inl ⟨by rfl, ?_⟩; intro w9 hSw; (try dsimp only at hSw); go_simp; (try with_reducible rfl); done)
            | (refine Or.inr ⟨by rfl, ?_⟩; rfl)
        simp only [List.getElem_toArray, List.getElem_cons_succ, List.getElem_cons_zero, Act.put, List.setIfInBounds_toArray, List.set_cons_zero, List.set_cons_succ]
        refine wpAnyH_take (i := 2) (oi := _) (v := ?_) rfl (by kernel_rfl) (by kernel_rfl) (by kernel_rfl) (fun _ _ _ h => h) ?_ (by assumption) ?_
        rotate_left 1
        · first
            | (refine Or.inl ⟨by rfl, ?_⟩; intro w9 hSw; (try dsimp only at hSw); go_simp; (try with_reducible rfl); done)
            | (refine Or.inr ⟨by rfl, ?_⟩; rfl)
        simp only [List.getElem_toArray, List.getElem_cons_succ, List.getElem_cons_zero, Act.put, List.setIfInBounds_toArray, List.set_cons_zero, List.set_cons_succ]
        refine wpAnyH_take (i := 3) (oi := _) (v := ?_) rfl (by kernel_rfl) (by kernel_rfl) (by kernel_rfl) (fun _ _ _ h => h) ?_ (by assumption) ?_
        rotate_left 1
        · first
            | (refine Or.inl ⟨by rfl, ?_⟩; intro w9 hSw; (try dsimp only at hSw); go_simp; (try with_reducible rfl); done)
            | (refine Or.inr ⟨by rfl, ?_⟩; rfl)
        simp only [List.getElem_toArray, List.getElem_cons_succ, List.getElem_cons_zero, Act.put, List.setIfInBounds_toArray, List.set_cons_zero, List.set_cons_succ]
        refine wpAnyH_take (i := 4) (oi := _) (v := ?_) rfl (by kernel_rfl) (by kernel_rfl) (by kernel_rfl) (fun _ _ _ h => h) ?_ (by assumption) ?_
        rotate_left 1
        · first
            | (refine Or.inl ⟨by rfl, ?_⟩; intro w9 hSw; (try dsimp only at hSw); go_simp; (try with_reducible rfl); done)
            | (refine Or.inr ⟨by rfl, ?_⟩; rfl)
        simp only [List.getElem_toArray, List.getElem_cons_succ, List.getElem_cons_zero, Act.put, List.setIfInBounds_toArray, List.set_cons_zero, List.set_cons_succ]
        refine wpAnyH_take (i := 5) (oi := _) (v := ?_) rfl (by kernel_rfl) (by kernel_rfl) (by kernel_rfl) (fun _ _ _ h => h) ?_ (by assumption) ?_
        rotate_left 1
        · first
            | (refine Or.inl ⟨by rfl, ?_⟩; intro w9 hSw; (try dsimp only at hSw); go_simp; (try with_reducible rfl); done)
            | (refine Or.inr ⟨by rfl, ?_⟩; rfl)
        simp only [List.getElem_toArray, List.getElem_cons_succ, List.getElem_cons_zero, Act.put, List.setIfInBounds_toArray, List.set_cons_zero, List.set_cons_succ]
        refine wpAnyH_take (i := 6) (oi := _) (v := ?_) rfl (by kernel_rfl) (by kernel_rfl) (by kernel_rfl) (fun _ _ _ h => h) ?_ (by assumption) ?_
        rotate_left 1
        · first
            | (refine Or.inl ⟨by rfl, ?_⟩; intro w9 hSw; (try dsimp only at hSw); go_simp; (try with_reducible rfl); done)
            | (refine Or.inr ⟨by rfl, ?_⟩; rfl)
        simp only [List.getElem_toArray, List.getElem_cons_succ, List.getElem_cons_zero, Act.put, List.setIfInBounds_toArray, List.set_cons_zero, List.set_cons_succ]
        refine wpAnyH_take (i := 7) (oi := _) (v := ?_) rfl (by kernel_rfl) (by kernel_rfl) (by kernel_rfl) (fun _ _ _ h => h) ?_ (by assumption) ?_
        rotate_left 1
        · first
            | (refine Or.inl ⟨by rfl, ?_⟩; intro w9 hSw; (try dsimp only at hSw); go_simp; (try with_reducible rfl); done)
            | (refine Or.inr ⟨by rfl, ?_⟩; rfl)
        simp only [List.getElem_toArray, List.getElem_cons_succ, List.getElem_cons_zero, Act.put, List.setIfInBounds_toArray, List.set_cons_zero, List.set_cons_succ]
        refine wpAnyH_ready (rs := [8]) (by kernel_rfl) (by simp) ?_
        refine AllReadyH.cons (o := _) rfl (fun K hK => ?_) AllReadyH.nil
        go_simp
        refine hK.out _ _ ⟨cw9, r19, r29⟩ (fun hHeld => ?_)
        clear hK K
        refine wpAnyH_done (by kernel_rfl) ?_ _
        clear hHeld cw r1 r2 cw9 r19 r29 hup f0 f1 f2
        go_wp2_with fail
        exact ⟨⟨j + 1, by go_num, by omega, HP9, HW9, HB9⟩, by simp [intOf]; omega⟩
      · have hlti : ¬ ((j : Int) < ln) := by omega
        obtain rfl : j = ln := by omega
        have HPJ2 : Hid (PMap wr mb j L) := Lib.hid (by have := HPJ.out; rwa [List.take_of_length_le (by have := HLN.out; omega)] at this)
        have HGB : Hid (WBase w w5 b mb j L wr) := Lib.hid ⟨HB5.out.trans HBJ.out, ⟨fun p v hp => by
            have := cell_ltA hp
            have h9 := hp
            unfold World.cell? at h9 ⊢
            rw [HBJ.out.block this]
            exact h9, HBJ.out.size⟩, HPJ2.out, by have := HB5.out.size; have := HMB.out; omega, by have := HMB.out; omega, hmlt, hble⟩
        have HCN := Lib.hid (wnode_c w w5 b mb j L HPO.out (fun p hp => by have := HPF.out p hp; exact ⟨this.1, by omega, by omega⟩) HE.out.1 (sortN x) (by rw [sortN_bulk]; omega) _ _ pa j pc HPR.out (by omega) [] wr HN5.out HRI.out HFI.out HWJ.out HGB.out (by rw [List.nil_append]; exact HWL.out))
        rw [List.nil_append] at HCN
        unfold ndV at HCN
        have q9 := HQ5.out.bel HBJ.out
        have d0 := q9.at 0
        have d1 := q9.at 1
        have d2 := q9.at 2
        have d3 := q9.at 3
        have d4 := q9.at 4
        have d5 := q9.at 5
        obtain ⟨BS, hBS⟩ : ∃ B, wrN L true (sortN x) = B := ⟨_, rfl⟩
        have HBS := Lib.hid hBS
        have hne : BS ≠ [] := by rw [← hBS]; exact wr_ne L HLO.out
        have HNE := Lib.hid hne
        clear hBS hne q9 HP7 HPJ
        go_wp2_with fail
        refine HCN.out.mono ?_
        rintro e10 w10 ⟨rfl, hw10, hb10, hk10⟩
        rw [HBS.out] at hw10
        have HST := Lib.hid (estr_c WrE b b [.map (some mb)] BS w10 hw10 HNE.out)
        have HB10 : Hid (Bel w w10) := Lib.hid (Below.trans HGB.out.bel (hb10.mono HGB.out.ge))
        have HLB : Hid (w.heap.size ≤ b) := Lib.hid HGB.out.ge
        clear hw10 hb10 hk10 HCN d0 d1 d2 d3 d4 d5
        obtain ⟨RS, hRS⟩ : ∃ R : ByteArray, ⟨BS.toArray⟩ = R := ⟨_, rfl⟩
        have HRS : Hid (WriteN x = RS) := Lib.hid (by rw [HWN.out, HBS.out, hRS])
        rw [hRS] at HST
        clear hRS
        go_wp2_with (first | (go_at_call 21; refine HST.out.mono ?_; rintro e11 w11 ⟨rfl, hb11⟩; have HB11 : Hid (Bel w w11) := Lib.hid (Below.trans HB10.out (hb11.mono HLB.out)); clear hb11) | (refine wpL_bytes rfl 9 31 5 _ rfl RS rfl Tryd.underlying9 Tryd.underlying31 Tryd.underlying5 ?_; intro vv W12 hv12 hb12))
        go_ret2
        exact ⟨⟨_, rfl, .inr ⟨rfl, by rw [HRS.out]; exact hv12⟩⟩, HB11.out.trans hb12⟩
  · have hk2 : ((k : Int) == 0) = false := by simpa using hk0
    have hk3 : ((k : Int) != 0) = true := by simpa using hk0
    have HK0 := Lib.hid hk0
    clear hk0
    go_wp2_with fail
    go_ret2
    exact ⟨⟨_, rfl, .inl ⟨HK0.out, rfl⟩⟩, HB2.out⟩
end Go.Proofs.YtojeclfcgnamoaaDoor

namespace Go.Proofs.YtojeclfcgnamoaaDoor
open Go.RowKit

def ndT : Nd := .mk 0 ⟨#[]⟩ ⟨#[]⟩ [] [] ⟨#[60]⟩
def ndX : Nd := .mk 0 ⟨#[117]⟩ ⟨#[97]⟩ [] [ndT] ⟨#[]⟩
/-- <n1:a xmlns:n1="u">&lt;</n1:a> -/
def byX : ByteArray := ⟨#[60, 110, 49, 58, 97, 32, 120, 109, 108, 110, 115, 58, 110, 49, 61, 34, 117, 34, 62, 38, 108, 116, 59, 60, 47, 110, 49, 58, 97, 62]⟩
theorem ndX_check : CheckN ndX = 0 := by decide +kernel
theorem ndX_sort : sortN ndX = ndX := by
  have : sortA [] = [] := List.Perm.eq_nil (sortA_perm [])
  unfold ndX ndT
  simp only [sortN, sortsN, this]
theorem ndX_write : WriteN ndX = byX := by
  unfold WriteN PrefN
  rw [ndX_sort]
  decide +kernel
theorem ndX_bulk : ndX.bulk ≤ 10000 := by decide +kernel
theorem ndX_at {W : World} {b : Nat} (h : Blk W b 27 [.int .i64 0, .string ⟨#[]⟩, .string ⟨#[]⟩, .slice none 0 0, .slice none 0 0, .string ⟨#[60]⟩]) : NdAt W ndX (.slice none 0 0) (.slice (some ⟨b, 0, none⟩) 1 1) := by
  have hat : AttrsV W (.slice none 0 0) [] := ⟨none, 0, rfl, Nat.le_refl _, .inl rfl⟩
  refine NdAt.make (by decide) hat ⟨some ⟨b, 0, none⟩, 1, rfl, Nat.le_refl _, .inr ⟨b, 0, rfl, h.lt, ?_⟩⟩
  unfold ndT
  rw [NdsAt, NdsAt]
  exact ⟨⟨_, _, h.at 0, h.at 1, h.at 2, h.at 3, h.at 4, h.at 5, NdAt.make (by decide) hat ⟨none, 0, rfl, Nat.le_refl _, .inl rfl⟩⟩, trivial⟩
set_option maxRecDepth 100000 in
set_option maxHeartbeats 4000000 in
theorem xalive_c (w : World) (hE : EnvT w) : Calls Tryd.prog 6 #[] w (RetBel (.bool true) w) := by
  obtain ⟨V1, h1, q1, l1, s1⟩ := alloc_step w 27 [.int .i64 0, .string ⟨#[]⟩, .string ⟨#[]⟩, .slice none 0 0, .slice none 0 0, .string ⟨#[60]⟩]
  have hc := xWrite_c ndX _ _ V1 ndX_bulk (hE.bel l1) (ndX_at q1)
  rw [ndX_check] at hc
  unfold ndV at hc
  have HC := Lib.hid hc
  have L1 := Lib.hid l1
  have HV1 := Lib.hid h1
  clear hc h1 q1 l1 s1 hE
  go_enter Tryd.func6, Tryd.ntmps6
  go_wp2_with fail
  rw [show w.alloc (.cells #[.int .i64 0, .string ⟨#[]⟩, .string ⟨#[]⟩, .slice none 0 0, .slice none 0 0, .string ⟨#[60]⟩] 27) = V1 from HV1.out]
  refine HC.out.mono ?_
  rintro e2 w2 ⟨⟨v, rfl, hv⟩, hb2⟩
  obtain ⟨-, hby⟩ := hv.resolve_left fun e => e.1 rfl
  rw [ndX_write] at hby
  have hcv := bytes_string w2 v byX hby
  obtain ⟨va, vn, vc, rfl, -⟩ := hby
  have hq : (byX.toList == [60, 110, 49, 58, 97, 32, 120, 109, 108, 110, 115, 58, 110, 49, 61, 34, 117, 34, 62, 38, 108, 116, 59, 60, 47, 110, 49, 58, 97, 62]) = true := by rw [Lib.toList_data]; rfl
  have HB2 := Lib.hid (L1.out.trans hb2)
  clear hv hb2 HC
  go_wp2_with fail
  go_ret
  exact ⟨rfl, HB2.out⟩
end Go.Proofs.YtojeclfcgnamoaaDoor
