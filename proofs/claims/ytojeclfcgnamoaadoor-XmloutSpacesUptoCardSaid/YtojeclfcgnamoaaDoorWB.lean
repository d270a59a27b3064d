/-
  xmlout: the walks of element, check, Check: names as a map's keys.
-/
import Derived.Test.YtojeclfcgnamoaaDoorWA
import Derived.WideKeyArgs
import Derived.DeepKeys4
import Derived.Maps.Keyed
import Derived.Maps.Own
import Derived.Maps.OwnOps
import Derived.Maps.OwnSet
namespace Go.Proofs.YtojeclfcgnamoaaDoor
open Go.RowKit Go.Maps

/-- A name as a map's key. -/
def keyN (a b : ByteArray) : Lit := .string (keyBytes [.string a.data.toList, .string b.data.toList])
theorem lawN : Keyed Tryd.prog 23 := Keyed.of_law (deep_law_laid (show laidOutB Tryd.prog = true by kernel_rfl) (m := 2) (by omega) (of_decide_eq_true (by kernel_rfl)) (by kernel_rfl) (by rw [Tryd.underlying23]))
theorem nm_types : ∃ n, Tryd.prog.types.size + 1 = n + 2 := ⟨_, show Tryd.prog.types.size + 1 = 153 - 1 + 2 by kernel_rfl⟩
theorem nm_lits (n : Nat) {a b : ByteArray} (ha : a.size ≤ maxLen) (hb : b.size ≤ maxLen) : Tryd.prog.keyLits (n + 2) 23 [.string a, .string b] = some [.string a.data.toList, .string b.data.toList] := by
  have e1 : ∀ (s : ByteArray), s.size ≤ maxLen → Tryd.prog.keyLits (n + 1) 9 [.string s] = some [.string s.data.toList] := fun s hs => by
    unfold Program.keyLits
    rw [Tryd.underlying9]
    simp [hs]
  have c1 : Tryd.prog.cellsOf 9 = 1 := by kernel_rfl
  have c2 : Tryd.prog.cellsOf 23 = 2 := by kernel_rfl
  unfold Program.keyLits
  rw [Tryd.underlying23]
  simp [c1, c2, e1 a ha, e1 b hb]
theorem keyN_of {a b : ByteArray} (ha : a.size ≤ maxLen) (hb : b.size ≤ maxLen) : keyOf Tryd.prog 23 (.agg #[.string a, .string b]) = some (keyN a b) := by
  obtain ⟨n, hn⟩ := nm_types
  have k1 : Tryd.prog.keyType 23 = true := by kernel_rfl
  have c2 : Tryd.prog.cellsOf 23 = 2 := by kernel_rfl
  have k2 : (Value.agg #[.string a, .string b]).formed Tryd.prog 23 = true := by simp [Value.formed, Tryd.underlying23, c2]
  unfold keyOf
  rw [Tryd.underlying23]
  dsimp only
  rw [k1, k2, hn, show (Value.agg #[.string a, .string b]).cells.toList = [.string a, .string b] from rfl, nm_lits n ha hb]
  rfl
theorem keyN_ne {a b c d : ByteArray} (ha : a.size ≤ maxLen) (hb : b.size ≤ maxLen) (hc : c.size ≤ maxLen) (hd : d.size ≤ maxLen) (h : ¬ (a = c ∧ b = d)) : keyN a b ≠ keyN c d := fun e => h (by
  have h1 := lawN.inj (keyN_of ha hb) (e ▸ keyN_of hc hd)
  injection h1 with h1
  injection h1 with h1
  injection h1 with h2 h3
  injection h2 with h2
  injection h3 with h3
  injection h3 with h3
  exact ⟨h2, h3⟩)
def trE : Value → Option (DataW Unit × List MemPlace)
  | .bool true => some (.lit (.bool true), [])
  | _ => none
/-- Which names are there. -/
def SeenD (D : DataW Unit) (F : List (ByteArray × ByteArray)) : Prop := IsMap D ∧ ∀ a b : ByteArray, a.size ≤ maxLen → b.size ≤ maxLen → Maps.has D (keyN a b) = hasN F a b
def SeenAt (W : World) (mb n : Nat) (F : List (ByteArray × ByteArray)) : Prop := (∀ x ∈ F, x.1.size ≤ maxLen ∧ x.2.size ≤ maxLen) ∧ ∃ D, W.ownsMap Tryd.prog 23 trE mb n D ∧ SeenD D F
theorem SeenAt.bel {W W' : World} {mb n : Nat} {F : List (ByteArray × ByteArray)} (h : SeenAt W mb n F) (hb : Bel W W') : SeenAt W' mb n F := by
  obtain ⟨h0, D, h1, h2⟩ := h
  exact ⟨h0, D, own_mapBel h1 hb, h2⟩
theorem SeenAt.lt {W : World} {mb n : Nat} {F : List (ByteArray × ByteArray)} (h : SeenAt W mb n F) : mb < W.heap.size := by
  obtain ⟨_, D, h1, _⟩ := h
  exact h1.lt
theorem seen_new (W : World) : SeenAt (W.alloc (.map #[] 0)) W.heap.size 0 [] := ⟨by simp, _, World.ownsMap_made W _ _ _, isMap_empty, fun _ _ _ _ => rfl⟩
theorem seen_look {W : World} {mb n : Nat} {F : List (ByteArray × ByteArray)} (h : SeenAt W mb n F) {a b : ByteArray} (ha : a.size ≤ maxLen) (hb : b.size ≤ maxLen) :
    (Instr.lookup 99 (.map (some mb)) (.agg #[.string a, .string b]) false).run Tryd.prog W = .ok (.bool (hasN F a b)) W := by
  obtain ⟨_, D, ⟨es, clock, hbk, G, _, rfl⟩, h2⟩ := h
  have hz : (zeroValue 4).run Tryd.prog W = .ok (.bool false) W := by kernel_rfl
  rw [← h2.2 a b ha hb]
  rcases Maps.fit_look false lawN Tryd.underlying99 hz hbk G (keyN_of ha hb) with ⟨hrun, _, hat⟩ | ⟨e0, y, _, _, hrun, hRv, hat, _⟩
  · rw [Maps.has_false_of_atKey hat]; exact hrun
  · rw [Maps.has_true_of_atKey hat]
    have hv : e0.val = .bool true := by
      unfold trE at hRv
      split at hRv
      · assumption
      · cases hRv
    rw [hv] at hrun
    exact hrun
theorem seen_put {W : World} {mb n : Nat} {F : List (ByteArray × ByteArray)} (h : SeenAt W mb n F) (hn : n < 1073741824) {a b : ByteArray} (ha : a.size ≤ maxLen) (hb : b.size ≤ maxLen) :
    ∃ W', (Instr.mapUpdate 99 (.map (some mb)) (.agg #[.string a, .string b]) (.bool true)).run Tryd.prog W = .ok () W' ∧ SeenAt W' mb (n + 1) (F ++ [(a, b)]) ∧ W.grownBy W' (some mb) := by
  obtain ⟨h0, D, h1, h2⟩ := h
  obtain ⟨W', hrun, hown, hg⟩ := h1.update lawN Tryd.underlying99 (by unfold maxLen; omega) (keyN_of ha hb) (d := .lit (.bool true)) (ps := []) (val := .bool true) rfl
  refine ⟨W', hrun, ⟨fun x hx => ?_, _, hown, h2.1.put _ _, fun c d hc hd => ?_⟩, hg⟩
  · rcases List.mem_append.1 hx with hx | hx
    · exact h0 x hx
    · obtain rfl := List.mem_singleton.1 hx
      exact ⟨ha, hb⟩
  · by_cases hx : c = a ∧ d = b
    · obtain ⟨rfl, rfl⟩ := hx
      rw [has_put_same h2.1 (by trivial)]
      exact ((hasN_iff _ _ _).2 (List.mem_append_right _ (List.mem_singleton.2 rfl))).symm
    · rw [has_put_other (keyN_ne hc hd ha hb hx), h2.2 c d hc hd]
      unfold hasN
      rw [List.any_append]
      have : ([(a, b)].any fun y => decide (y.1 = c) && decide (y.2 = d)) = false := by
        simp only [List.any_cons, List.any_nil, Bool.or_false, Bool.and_eq_false_iff, decide_eq_false_iff_not]
        by_cases h1 : a = c
        · exact .inr fun h3 => hx ⟨h1.symm, h3.symm⟩
        · exact .inl h1
      rw [this, Bool.or_false]

set_option maxRecDepth 100000 in
set_option maxHeartbeats 8000000 in
theorem xelem_c (t : Int) (sp lo tx : ByteArray) (al : List Atr) (aa ka : Option Addr) (an ac kn kc : Nat) (hb : sp.size + lo.size + tx.size + atrSum al ≤ 1073741824) (w : World) (hE : Env w) (han : al.length = an) (hat : AtrsAt w aa al) :
    Calls Tryd.prog 45 #[.agg #[.int .i64 t, .string sp, .string lo, .slice aa an ac, .slice ka kn kc, .string tx]] w (RetBel (.int .i64 (elemS sp lo tx al)) w) := by
  have HE := Lib.hid hE
  have HAT := Lib.hid hat
  have HAN := Lib.hid han
  have hale := atr_len al
  have han2 : an ≤ 1073741824 := by omega
  have HM := Lib.hid fun (x : Atr) (hx : x ∈ al) => atr_mem hx
  have HB := Lib.hid hb
  have HN := Lib.hid fun (attr : Bool) W (hb : Bel w W) => xnamed_c sp lo attr (by omega) (by omega) W (hE.bel hb)
  have htx := lempty tx
  obtain ⟨R, hR⟩ : ∃ R, elemS sp lo tx al = R := ⟨_, rfl⟩
  rw [hR]
  have HR := Lib.hid hR
  obtain ⟨V1, h1, q1, l1, s1⟩ := alloc_step w 27 [.int .i64 t, .string sp, .string lo, .slice aa an ac, .slice ka kn kc, .string tx]
  have c1 := q1.at 1
  have c2 := q1.at 2
  have c3 := q1.at 3
  have c5 := q1.at 5
  have L1 := Lib.hid l1
  have HV1 := Lib.hid h1
  clear h1 q1 l1 s1 hR hE hat han hale
  by_cases h0 : tx = ⟨#[]⟩
  · rw [decide_eq_true h0] at htx
    obtain ⟨k, hk⟩ : ∃ k, namedS sp lo false = k := ⟨_, rfl⟩
    have HR2 : Hid ((if k ≠ 0 then k else attrsS [] al) = R) := Lib.hid (by rw [← HR.out, ← hk]; unfold elemS; rw [if_neg (c := tx ≠ ⟨#[]⟩) fun e => e h0])
    have HN2 := Lib.hid fun W hW => HN.out false W hW
    rw [hk] at HN2
    clear hk HR h0
    go_enter Tryd.func45, Tryd.ntmps45
    go_upto_region 1 with fail
    rw [show w.alloc (.cells #[.int .i64 t, .string sp, .string lo, .slice aa an ac, .slice ka kn kc, .string tx] 27) = V1 from HV1.out]
    clear HV1
    go_wp2_with fail
    refine (HN2.out _ L1.out).mono ?_
    rintro e1 w1 ⟨rfl, hb1⟩
    have HB1 := Lib.hid (L1.out.trans hb1)
    have c3 := hb1.keep c3
    clear hb1 c1 c2 c5
    by_cases hk : k = 0
    · subst hk
      have HR3 : Hid (attrsS [] al = R) := Lib.hid (by rw [← HR2.out]; rfl)
      have hmm := @run_makeMap Tryd.prog
      obtain ⟨V2, hV2⟩ : ∃ V, w1.alloc (.map #[] 0) = V := ⟨_, rfl⟩
      have hb2 : Bel w1 V2 := by rw [← hV2]; exact Bel.alloc _ _
      have hse : SeenAt V2 w1.heap.size 0 [] := by rw [← hV2]; exact seen_new w1
      have HV2 := Lib.hid hV2
      have HSE := Lib.hid hse
      have HB2 := Lib.hid (HB1.out.trans hb2)
      have d3 := hb2.keep c3
      obtain ⟨mb, hmb⟩ : ∃ m, w1.heap.size = m := ⟨_, rfl⟩
      have hwm : w.heap.size ≤ mb := by have := HB1.out.size; omega
      rw [hmb] at HSE
      have HMB := Lib.hid hmb
      clear HR2 hV2 hb2 hse c3 HB1 hmb
      go_upto_region 7 with fail
      rw [show w1.alloc (.map #[] 0) = V2 from HV2.out, HMB.out]
      clear HV2 HMB
      go_wp2_with fail
      go_loopw [21] (fun i wr => ∃ j : Nat, i = .int .i64 j ∧ j ≤ an ∧ Hid (SeenAt wr mb j ((al.take j).map nmA)) ∧ Hid (attrsS ((al.take j).map nmA) (al.drop j) = R) ∧ Hid (Bel w wr)) (fun i _ => an - (intOf i).toNat)
      case atStart => exact ⟨0, rfl, Nat.zero_le _, HSE, Lib.hid (by rw [List.drop_zero]; exact HR3.out), HB2⟩
      case round =>
        obtain ⟨j, rfl, hj, HSJ, HRJ, HBJ⟩ := hrel
        by_cases hlt : j < an
        · have hlti : (j : Int) < an := by omega
          obtain ⟨x, hx⟩ : ∃ x, al[j]? = some x := ⟨_, List.getElem?_eq_getElem (by have := HAN.out; omega)⟩
          obtain ⟨b, off, rfl, g0, g1, g2⟩ := HAT.out j x hx
          have f0 := HBJ.out.keep g0
          have f1 := HBJ.out.keep g1
          have f2 := HBJ.out.keep g2
          have hxm := HM.out x (List.mem_of_getElem? hx)
          have hbb := HB.out
          have htk : (al.take (j + 1)).map nmA = (al.take j).map nmA ++ [(x.1, x.2.1)] := by rw [List.take_add_one, hx, List.map_append]; rfl
          have hdr : attrsS ((al.take j).map nmA) (al.drop j) = if namedS x.1 x.2.1 true ≠ 0 then namedS x.1 x.2.1 true else if hasN ((al.take j).map nmA) x.1 x.2.1 = true then 8 else if fineS x.2.2 = false then 4 else attrsS ((al.take (j + 1)).map nmA) (al.drop (j + 1)) := by
            rw [htk, List.drop_eq_getElem_cons (by have := HAN.out; omega), (List.getElem?_eq_some_iff.1 hx).2, attrsS]
          rw [hdr] at HRJ
          have hsz1 : x.1.size ≤ maxLen := by unfold maxLen; omega
          have hsz2 : x.2.1.size ≤ maxLen := by unfold maxLen; omega
          have HSL : Hid (∀ W, Bel wr W → (Instr.lookup 99 (.map (some mb)) (.agg #[.string x.1, .string x.2.1]) false).run Tryd.prog W = .ok (.bool (hasN ((al.take j).map nmA) x.1 x.2.1)) W) := Lib.hid fun W hW => seen_look (HSJ.out.bel hW) hsz1 hsz2
          have HSP : Hid (∀ W, Bel wr W → ∃ W', (Instr.mapUpdate 99 (.map (some mb)) (.agg #[.string x.1, .string x.2.1]) (.bool true)).run Tryd.prog W = .ok () W' ∧ SeenAt W' mb (j + 1) ((al.take (j + 1)).map nmA) ∧ W.grownBy W' (some mb)) := Lib.hid fun W hW => by rw [htk]; exact seen_put (HSJ.out.bel hW) (by omega) hsz1 hsz2
          have HN3 := Lib.hid fun W (hW : Bel w W) => xnamed_c x.1 x.2.1 true (by omega) (by omega) W (HE.out.bel hW)
          have HF3 := Lib.hid fun W (hW : Bel w W) => xfine_c x.2.2 (by omega) W (HE.out.bel hW)
          obtain ⟨xa, xb, xc⟩ := x
          dsimp only at f0 f1 f2 HSL HSP HN3 HF3 HRJ
          obtain ⟨N, hN⟩ : ∃ N, namedS xa xb true = N := ⟨_, rfl⟩
          obtain ⟨H, hH⟩ : ∃ H, hasN ((al.take j).map nmA) xa xb = H := ⟨_, rfl⟩
          obtain ⟨F, hF⟩ : ∃ F, fineS xc = F := ⟨_, rfl⟩
          rw [hN] at HN3 HRJ
          rw [hH] at HSL HRJ
          rw [hF] at HF3 HRJ
          obtain ⟨V3, h3, q3, l3, s3⟩ := alloc_step wr 63 [.string xa, .string xb, .string xc]
          have e0 : V3.cell? ⟨wr.heap.size, 0, none⟩ = some (.string xa) := q3.at 0
          have e1 : V3.cell? ⟨wr.heap.size, 1, none⟩ = some (.string xb) := q3.at 1
          have HQ3 := Lib.hid q3
          have HV3 := Lib.hid h3
          have L3 := Lib.hid l3
          clear g0 g1 g2 hx hxm hbb htk hdr hsz1 hsz2 hN hH hF h3 q3 l3 s3
          go_upto_region 10 with fail
          rw [show wr.alloc (.cells #[.string xa, .string xb, .string xc] 63) = V3 from HV3.out]
          clear HV3
          go_wp2_with fail
          refine (HN3.out _ (HBJ.out.trans L3.out)).mono ?_
          rintro e4 w4 ⟨rfl, hb4⟩
          have HB4 := Lib.hid hb4
          have HBW4 := Lib.hid ((HBJ.out.trans L3.out).trans hb4)
          by_cases hk : N = 0
          · subst hk
            have p0 : w4.cell? ⟨wr.heap.size, 0, none⟩ = some (.string xa) := hb4.keep e0
            have p1 : w4.cell? ⟨wr.heap.size, 1, none⟩ = some (.string xb) := hb4.keep e1
            have hlk := HSL.out w4 (L3.out.trans hb4)
            clear e0 e1 f0 f1 f2 hb4
            cases H
            · obtain ⟨w5, hup, hs5, hg5⟩ := HSP.out w4 (L3.out.trans HB4.out)
              have hmbw : mb < wr.heap.size := HSJ.out.lt
              have q5 : w5.cell? ⟨wr.heap.size, 2, none⟩ = some (.string xc) := by
                have hq4 := HQ3.out.bel HB4.out
                have : Blk w5 wr.heap.size 63 [.string xa, .string xb, .string xc] := (hg5.block _ hq4.lt (fun e => by injection e with e; omega)).trans hq4
                exact this.at 2
              have HB5 : Hid (Bel w w5) := Lib.hid (Below.grown HBW4.out hg5 HBW4.out.size (fun k e => by cases e; exact hwm))
              have HS5 := Lib.hid hs5
              clear hs5 hg5 hmbw HSL HSP HQ3 HB4 HBW4 L3
              go_wp2_with fail
              refine (HF3.out _ HB5.out).mono ?_
              rintro e6 w6 ⟨rfl, hb6⟩
              cases F
              · have HX : Hid (4 = R) := Lib.hid HRJ.out
                clear HRJ
                go_wp2_with fail
                go_ret
                exact ⟨ret_int (by rw [← HX.out]; rfl), HB5.out.trans hb6⟩
              · have HX : Hid (attrsS ((al.take (j + 1)).map nmA) (al.drop (j + 1)) = R) := Lib.hid HRJ.out
                have HS6 := Lib.hid (HS5.out.bel hb6)
                have HB6 := Lib.hid (HB5.out.trans hb6)
                clear HRJ hb6
                go_wp2_with fail
                exact ⟨⟨j + 1, by go_num, by omega, HS6, HX, HB6⟩, by simp [intOf]; omega⟩
            · have HX : Hid (8 = R) := Lib.hid HRJ.out
              clear HRJ
              go_wp2_with fail
              go_ret
              exact ⟨ret_int (by rw [← HX.out]; rfl), HBW4.out⟩
          · have hk2 : ((N : Int) == 0) = false := by simpa using hk
            have hk3 : ((N : Int) != 0) = true := by simpa using hk
            have HX : Hid (N = R) := Lib.hid (by have := HRJ.out; rwa [if_pos hk] at this)
            clear hk HRJ
            go_wp2_with fail
            go_ret
            exact ⟨ret_int (by rw [HX.out]), HBW4.out⟩
        · have hlti : ¬ ((j : Int) < an) := by omega
          have HX : Hid (0 = R) := Lib.hid (by have := HRJ.out; rwa [List.drop_eq_nil_of_le (by have := HAN.out; omega), attrsS] at this)
          clear HRJ
          go_wp2_with fail
          go_ret
          exact ⟨ret_int (by rw [← HX.out]; rfl), HBJ.out⟩
    · have hk2 : ((k : Int) == 0) = false := by simpa using hk
      have hk3 : ((k : Int) != 0) = true := by simpa using hk
      have HR3 : Hid (k = R) := Lib.hid (by rw [← HR2.out, if_pos hk])
      clear hk
      go_wp2_with fail
      go_ret
      exact ⟨ret_int (by rw [HR3.out]), HB1.out⟩
  · rw [decide_eq_false h0] at htx
    have HX : Hid (2 = R) := Lib.hid (by rw [← HR.out]; unfold elemS; rw [if_pos h0])
    clear h0
    go_enter Tryd.func45, Tryd.ntmps45
    go_upto_region 1 with fail
    rw [show w.alloc (.cells #[.int .i64 t, .string sp, .string lo, .slice aa an ac, .slice ka kn kc, .string tx] 27) = V1 from HV1.out]
    clear HV1
    go_wp2_with fail
    go_ret
    exact ⟨by rw [← HX.out]; rfl, L1.out⟩
end Go.Proofs.YtojeclfcgnamoaaDoor
