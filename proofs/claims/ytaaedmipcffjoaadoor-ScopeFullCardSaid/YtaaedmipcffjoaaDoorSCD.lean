/-
  The walks of the layer scope: With, New.
-/
import Derived.Test.YtaaedmipcffjoaaDoorSCB
import Derived.Test.YtaaedmipcffjoaaDoorSCC
import Derived.Test.YtaaedmipcffjoaaDoorUA
namespace Go.Proofs.YtaaedmipcffjoaaDoor
open Go.RowKit

def RetWith (r : Option (List ByteArray) × Nat) (w : World) (e : Ending) (w' : World) : Prop :=
  Bel w w' ∧ match r.1 with
  | none => e = .returned (.tuple #[.pointer none, .int .i64 r.2])
  | some M => ∃ p, e = .returned (.tuple #[p, .int .i64 0]) ∧ ScopeIs w' p M
theorem info_str2 : (Tryd.prog.info? 9).map (fun i => (i.zero, i.size, i.bytes)) = some (some (.string ⟨#[]⟩), 1, 16) := by kernel_rfl
theorem take_snoc' {α : Type} (l : List α) (k : Nat) (h : k < l.length) : l.take (k + 1) = l.take k ++ [l[k]] := (List.take_succ_eq_append_getElem h)
theorem filter_snoc (l : List ByteArray) (p : ByteArray → Bool) (k : Nat) (h : k < l.length) : (l.take (k + 1)).filter p = (l.take k).filter p ++ (if p l[k] = true then [l[k]] else []) := by
  rw [take_snoc' l k h, List.filter_append]
  congr 1
  by_cases hp : p l[k] = true <;> simp [hp]
theorem Scp.no_str {w : World} {b n o : Nat} {po : Option Addr} {sl : Value} {x : ByteArray} (h : Scp w b (.pointer po) sl n) (hs : ∀ y, sl ≠ .string y) : w.cell? ⟨b, o, none⟩ ≠ some (.string x) := by
  unfold Scp at h
  simp only [World.cell?, h]
  intro h1
  have h2 : (#[Value.pointer po, sl, .int .i64 n] : Array Value)[o]? = some (.string x) := h1
  match o, h2 with
  | 0, h2 => simp at h2
  | 1, h2 => simp at h2; exact hs _ h2
  | 2, h2 => simp at h2
  | o + 3, h2 => simp at h2
theorem scope_ptr {w : World} {v : Value} {N : List ByteArray} (h : ScopeIs w v N) : ∃ po, v = .pointer po := by
  obtain ⟨_, _, C, hv, _⟩ := h
  cases C with
  | nil => exact ⟨_, hv⟩
  | cons own C => obtain ⟨b, u, sl, rfl, _⟩ := hv; exact ⟨_, rfl⟩
theorem scope_made {w : World} {b : Nat} {v sl : Value} {N l : List ByteArray} (h : ScopeIs w v N) (h1 : Scp w b v sl (N.length + (ownS N l).length)) (h2 : RowAt0 w sl (strsV (ownS N l))) (hle : (addS N l).length ≤ 4096) (hx : ∀ x ∈ l, x.size ≤ 4294967280) : ScopeIs w (.pointer (some ⟨b, 0, none⟩)) (addS N l) := by
  obtain ⟨⟨hs, hsz⟩, _, C, hv, hpm⟩ := h
  refine ⟨⟨srt_addS l hs, fun x h => ((mem_addS x l N).1 h).elim (hsz x) (hx x)⟩, hle, ownS N l :: C, ⟨b, v, sl, rfl, ?_, h2, srt_ownS N l, hv⟩, ?_⟩
  · rw [List.flatten_cons, List.length_append, ← hpm.length_eq, Nat.add_comm]; exact h1
  · rw [List.flatten_cons]
    exact (addS_perm N l hs).trans (List.Perm.append_left _ hpm)

set_option maxRecDepth 100000 in
set_option maxHeartbeats 4000000 in
theorem with_c (v : Value) (N : List ByteArray) (sl : Value) (l : List ByteArray) (w : World) (hE : Env w) (h : ScopeIs w v N) (hv : RowAt0 w sl (strsV l)) (hl : l.length ≤ 4294960000) (hx : ∀ x ∈ l, x.size ≤ 4294967280) :
    Calls Tryd.prog 21 #[v, sl] w (RetWith (withS N l) w) := by
  obtain ⟨po, rfl⟩ := scope_ptr h
  have hlen := len_c _ N w h
  have hN := h.2.1
  have hr := fun x (hx1 : x ∈ l) w1 (hb : Bel w w1) => right_c x (hx x hx1) w1 (hE.bel hb)
  have hvs := fun w1 (hb : Bel w w1) => values_c sl l w1 (hv.bel hb)
  have hso := fun w1 (hb : Bel w w1) => sorted_c sl l w1 (hv.bel hb) (by omega) (fun x hx1 => by have := hx x hx1; unfold maxLen; omega) _ (Bel.refl _)
  obtain ⟨ao, cap, rfl, hcs⟩ := row0_form hv l.length (strsV_length l)
  obtain ⟨R, hR⟩ : ∃ R, withS N l = R := ⟨_, rfl⟩
  rw [hR]
  obtain ⟨n, hn⟩ : ∃ n, l.length = n := ⟨_, rfl⟩
  rw [hn] at hcs hvs hso hl ⊢
  obtain ⟨m, hm⟩ : ∃ m, N.length = m := ⟨_, rfl⟩
  rw [hm] at hlen hN
  have HLEN := Lib.hid hlen
  have HR := Lib.hid hr
  have HVS := Lib.hid hvs
  have HSO := Lib.hid hso
  have HCS := Lib.hid hcs
  have HW := Lib.hid hR
  have HN := Lib.hid hn
  have HM := Lib.hid hm
  have HS := Lib.hid h
  have HXS := Lib.hid hx
  clear hlen hr hvs hso hcs hR hn hm h hv hx
  go_enter Tryd.func21, Tryd.ntmps21
  go_wp2_with (go_at_call 23; refine HLEN.out.mono ?_; rintro e w' ⟨rfl, rfl⟩)
  have t0 := Scp.new w (.pointer po) (.slice none 0 0) m
  have hb0 : Bel w (w.alloc (.cells #[.pointer po, .slice none 0 0, .int .i64 m] 62)) := Bel.alloc _ _
  obtain ⟨W0, hW0⟩ : ∃ W0, w.alloc (.cells #[.pointer po, .slice none 0 0, .int .i64 m] 62) = W0 := ⟨_, rfl⟩
  rw [hW0] at t0 hb0 ⊢
  have hsz : w.heap.size < W0.heap.size := t0.lt
  have T0 := Lib.hid t0
  have B0 := Lib.hid hb0
  clear t0 hb0 hW0
  go_loopw [18] (fun i wr => ∃ k : Nat, k ≤ n ∧ i = .int .i64 k ∧ Bel W0 wr ∧ (l.take k).all rightS = true) (fun i _ => n - (intOf i).toNat)
  case atStart => exact ⟨0, Nat.zero_le _, rfl, Bel.refl _, by simp⟩
  case round =>
    obtain ⟨k, hk, rfl, hbel, hall⟩ := hrel
    by_cases hkn : k < n
    · have hkl : k < l.length := by rw [HN.out]; exact hkn
      obtain ⟨b, off, rfl, hlt, hcap, hce⟩ := HCS.out (by omega)
      have hmem : l[k] ∈ l := List.getElem_mem hkl
      obtain ⟨x, hx⟩ : ∃ x, l[k] = x := ⟨_, rfl⟩
      have hcell : wr.cell? ⟨b, off + k, none⟩ = some (.string x) := by
        rw [hbel.cell (Nat.lt_trans hlt hsz), (B0.out).cell hlt, hce k hkn, ← hx]; simp [strsV, hkl]
      rw [hx] at hmem
      have hri := HR.out x hmem wr (B0.out.trans hbel)
      have hts := take_snoc' l k hkl
      rw [hx] at hts
      obtain ⟨F, hF⟩ : ∃ F, (wordsS x).isSome = F := ⟨_, rfl⟩
      rw [hF] at hri
      have HRI := Lib.hid hri
      have HF := Lib.hid hF
      have HTS := Lib.hid hts
      have HALL := Lib.hid hall
      have HMEM := Lib.hid hmem
      clear hri hF hts hall hce hx hmem
      cases F
      · go_wp2_with (go_at_call 35; refine HRI.out.mono ?_; rintro e w1 ⟨rfl, hb1⟩)
        go_ret2
        refine ⟨(B0.out.trans hbel).trans (by assumption), ?_⟩
        rw [← HW.out]
        unfold withS
        rw [if_pos]
        · rfl
        · refine Bool.eq_false_iff.2 fun h => ?_
          have := List.all_eq_true.1 h x HMEM.out
          unfold rightS at this
          rw [HF.out] at this; cases this
      · go_wp2_with (go_at_call 35; refine HRI.out.mono ?_; rintro e w1 ⟨rfl, hb1⟩)
        refine ⟨⟨k + 1, by omega, by go_num, hbel.trans (by assumption), ?_⟩, by simp [intOf]; omega⟩
        rw [HTS.out, List.all_append, HALL.out]
        simp [rightS, HF.out]
    · obtain rfl : k = n := by omega
      have hall2 : l.all rightS = true := by rw [List.take_of_length_le (by have := HN.out; omega)] at hall; exact hall
      have hww : R = if 4096 < (addS N l).length then (none, 19) else (some (addS N l), 0) := by
        rw [← HW.out]; unfold withS; rw [if_neg (by rw [hall2]; simp)]
      have HWW := Lib.hid hww
      have hbw := B0.out.trans hbel
      clear hall hall2 hww HW HR
      go_wp2_with fail
      refine (HVS.out _ hbw).mono ?_
      rintro e w1 ⟨rfl, rfl⟩
      go_wp2_with fail
      refine (HSO.out _ hbw).mono ?_
      rintro e w2 ⟨u, rfl, hown, hb2⟩
      have hsl : (sortL (l.map (·.data.toList))).length = k := by rw [sortL_length, List.length_map, HN.out]
      have hcm := compact_c (wr.alloc (.cells #[.slice ao k cap] 22)) u (sortL (l.map (·.data.toList))) w2 (by rw [hsl]; exact hown) (by omega) hb2
      have HCM := Lib.hid hcm
      have HSL := Lib.hid hsl
      clear hcm hown hsl
      go_wp2_with fail
      refine HCM.out.mono ?_
      rintro e w3 ⟨su, rfl, hrow, hb3⟩
      have hrow2 : RowAt0 w3 su (strsV (uniqS l)) := hrow
      obtain ⟨so, c2, rfl, hc2⟩ := row0_form hrow2 (uniqS l).length (strsV_length _)
      have hul : (uniqS l).length ≤ k := by
        have := Lib.compact_length_le (sortL (l.map (·.data.toList)))
        rw [HSL.out] at this
        unfold uniqS
        rw [List.length_map]; exact this
      have hs3 := T0.out.bel (hbel.trans ((Bel.alloc _ _).trans hb3))
      have hbw3 : Bel w w3 := hbw.trans ((Bel.alloc _ _).trans hb3)
      obtain ⟨U, hU⟩ : ∃ U, uniqS l = U := ⟨_, rfl⟩
      rw [hU] at hc2 hul ⊢
      obtain ⟨p, hp⟩ : ∃ p, U.length = p := ⟨_, rfl⟩
      rw [hp] at hc2 hul ⊢
      have HU := Lib.hid hU
      have HP := Lib.hid hp
      have HC2 := Lib.hid hc2
      have S3 := Lib.hid hs3
      have BW3 := Lib.hid hbw3
      have hw3 : w.heap.size < w3.heap.size := hs3.lt
      clear hU hp hc2 hs3 hbw3 hrow hrow2 hb3 hb2 hbw hbel HCM HSO HVS HCS HLEN T0 B0
      go_wp2_with fail
      go_loopw [31] (fun i wr => ∃ (j : Nat) (o : Value), j ≤ p ∧ i = .int .i64 j ∧ Bel w wr ∧ w3.heap.size ≤ wr.heap.size ∧ (∀ q, q < w3.heap.size → q ≠ w.heap.size → wr.heap[q]? = w3.heap[q]?) ∧ Scp wr w.heap.size (.pointer po) o (m + ((U.take j).filter fun x => !decide (x ∈ N)).length) ∧ wr.ownsRow w3.heap.size 9 1 o ((U.take j).filter fun x => !decide (x ∈ N)).length (strsV ((U.take j).filter fun x => !decide (x ∈ N)))) (fun i _ => p - (intOf i).toNat)
      case atStart => exact ⟨0, _, Nat.zero_le _, rfl, BW3.out, Nat.le_refl _, fun _ _ _ => rfl, S3.out, World.ownsRow_nil _ _ _ _⟩
      case round =>
        obtain ⟨j, o, hj, rfl, hbel, hge, hold, hs, hown⟩ := hrel
        by_cases hjp : j < p
        · have hjl : j < U.length := by rw [HP.out]; exact hjp
          obtain ⟨b2, off2, rfl, hlt2, hcap2, hce2⟩ := HC2.out (by omega)
          obtain ⟨x, hx⟩ : ∃ x, U[j] = x := ⟨_, rfl⟩
          have hc3 : w3.cell? ⟨b2, off2 + j, none⟩ = some (.string x) := by rw [hce2 j hjp, ← hx]; simp [strsV, hjl]
          have hne : b2 ≠ w.heap.size := by
            rintro rfl
            exact (S3.out).no_str (fun y => by simp) hc3
          have hcell : wr.cell? ⟨b2, off2 + j, none⟩ = some (.string x) := by
            rw [World.cell?_of_block (w := w3) (a := ⟨b2, off2 + j, none⟩) (hold b2 hlt2 hne)]; exact hc3
          have hfs := filter_snoc U (fun x => !decide (x ∈ N)) j hjl
          rw [hx] at hfs
          obtain ⟨L, hL⟩ : ∃ L, (U.take j).filter (fun x => !decide (x ∈ N)) = L := ⟨_, rfl⟩
          rw [hL] at hfs hs hown
          have hLl : L.length ≤ j := by
            rw [← hL]
            exact Nat.le_trans (List.length_filter_le _ _) (List.length_take_le _ _)
          have hha := has_c (.pointer po) N x wr (HS.out.bel hbel)
          obtain ⟨F, hF⟩ : ∃ F, decide (x ∈ N) = F := ⟨_, rfl⟩
          rw [hF] at hha hfs
          have HHA := Lib.hid hha
          have HFS := Lib.hid hfs
          have HOLD := Lib.hid hold
          have HSC := Lib.hid hs
          have HOWN := Lib.hid hown
          have HBEL := Lib.hid hbel
          have hs2 := hs.c2
          have hL3 : ((m + L.length : Nat) : Int) ≤ 4294967296 := by omega
          have hw2 : w.heap.size < wr.heap.size := by omega
          clear hha hF hfs hold hs hown hL hx hc3 hce2 hbel hs2
          cases F
          · go_wp2_with (first
              | (go_at_call 19; refine HHA.out.mono ?_; rintro e w1 ⟨rfl, hb1⟩; have s1 := HSC.out.bel hb1; have q1 := s1.c1; have S1 := Lib.hid s1; clear s1)
              | (at_builtin; refine wpL_append1k rfl _ _ 22 rfl w3.heap.size (by have := hb1.size; simp; omega) 9 (.string ⟨#[]⟩) 1 16 Tryd.underlying22 info_str2 rfl (by decide) (by decide) o L.length (strsV L) rfl ((own_bel HOWN.out hb1).alloc _) ⟨w1.heap.size, 0, none⟩ 1 [.string x] rfl rfl (cell_one_new _ _ _) (by simp [Value.oneCell']) (by omega) ?_; intro g cp w2 hown2 hgr; have s2 : Scp w2 w.heap.size (.pointer po) o (m + L.length) := (hgr.block _ (by have := S1.out.lt; simp; omega) (own_ge HOWN.out hw3)).trans ((S1.out.bel (Bel.alloc _ _))); have p1 := s2.c1; have p2 := s2.c2; have pf := s2.fz; have pl := s2.lt; have S2 := Lib.hid s2; have GR := Lib.hid hgr; have OWN2 := Lib.hid hown2; clear s2 hgr hown2))
            have hb2 : Bel w w2 := own_grown ((own_bel HOWN.out hb1).alloc _) ((HBEL.out.trans hb1).to_alloc _) GR.out (by omega)
            have hsz2 : wr.heap.size ≤ w2.heap.size := by have := GR.out.size; have := hb1.size; simp at *; omega
            have hfs := HFS.out
            simp at hfs
            have hn2 := own_ge OWN2.out hw3
            refine ⟨⟨j + 1, .slice (some ⟨g, 0, none⟩) (L.length + 1) cp, by omega, by go_num, by (repeat (first | exact Bel.refl _ | assumption | refine Bel.to_drewN ?_ _ | refine Bel.to_drew ?_ | refine Bel.to_setCell ?_ (by first | exact Nat.le_refl _ | (simp; done) | (simp; omega) | omega) _ | refine Bel.to_alloc ?_ _ | refine Bel.trans ?_ (by assumption))), by simp; omega, fun q hq hn => ?_, ?_, ?_⟩, by simp [intOf]; omega⟩
            · rw [Below.heap_setCell _ _ _ q (by simpa using hn), Below.heap_setCell _ _ _ q (by simpa using hn), GR.out.block q (by have := hb1.size; simp; omega) (own_ge HOWN.out hq)]
              rw [(hb1.trans (Bel.alloc _ _)).block (by omega)]
              exact HOLD.out q hq hn
            · rw [hfs, List.length_append]
              have := (S2.out.set1 (.slice (some ⟨g, 0, none⟩) (L.length + 1) cp)).set2 (m + L.length + 1)
              exact this
            · rw [hfs]
              have := own_set (own_set OWN2.out (p := ⟨w.heap.size, 1, none⟩) hn2 (.slice (some ⟨g, 0, none⟩) (L.length + 1) cp)) (p := ⟨w.heap.size, 2, none⟩) hn2 (.int .i64 ((m + L.length : Nat) + 1))
              simpa [strsV] using this
          · go_wp2_with (go_at_call 19; refine HHA.out.mono ?_; rintro e w1 ⟨rfl, hb1⟩)
            have hfs := HFS.out
            simp at hfs
            refine ⟨⟨j + 1, o, by omega, by go_num, HBEL.out.trans hb1, Nat.le_trans hge hb1.size, fun q hq hn => ?_, ?_, ?_⟩, by simp [intOf]; omega⟩
            · rw [hb1.block (by omega)]; exact HOLD.out q hq hn
            · simp only [hfs]; exact HSC.out.bel hb1
            · simp only [hfs]; exact own_bel HOWN.out hb1
        · obtain rfl : j = p := by omega
          rw [List.take_of_length_le (by have := HP.out; omega)] at hs hown
          have hfo : U.filter (fun x => !decide (x ∈ N)) = ownS N l := by rw [← HU.out]; rfl
          rw [hfo] at hs hown
          have hal := addS_length N l HS.out.1.1
          rw [HM.out] at hal
          have hbel2 := hbel
          have hs2 := hs.c2
          obtain ⟨c, hc⟩ : ∃ c, (ownS N l).length = c := ⟨_, rfl⟩
          rw [hc] at hs hs2 hal
          have hsm := fun hh => scope_made (HS.out.bel hbel) (b := w.heap.size) (sl := o) (l := l) (by rw [hc, HM.out]; exact hs) (own_row hown) hh HXS.out
          have HSM := Lib.hid hsm
          have HAL := Lib.hid hal
          have HOWN := Lib.hid hown
          have HB := Lib.hid hbel
          have hww := HWW.out
          clear hsm hal hown hbel hold hs hfo hbel2
          by_cases h4 : 4096 < m + c
          · have h5 : (4096 : Int) < ((m + c : Nat) : Int) := by omega
            rw [if_pos (by have := HAL.out; omega)] at hww
            have HWW2 := Lib.hid hww
            clear hww
            go_wp2_with fail
            go_ret2
            exact ⟨HB.out, by rw [HWW2.out]; rfl⟩
          · have h5 : ((m + c : Nat) : Int) ≤ 4096 := by omega
            rw [if_neg (by have := HAL.out; omega)] at hww
            have HWW2 := Lib.hid hww
            clear hww
            go_wp2_with fail
            go_ret2
            exact ⟨HB.out, by rw [HWW2.out]; exact ⟨_, rfl, HSM.out (by have := HAL.out; omega)⟩⟩
end Go.Proofs.YtaaedmipcffjoaaDoor
