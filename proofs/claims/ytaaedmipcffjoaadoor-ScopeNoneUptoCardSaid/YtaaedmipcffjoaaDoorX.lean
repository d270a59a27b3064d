/-
  The walk of the document's answer for names: Words.
-/
import Derived.Test.YtaaedmipcffjoaaDoorW
import Derived.RegionTactic
import Derived.IntWalk
import Derived.ChangeAlike
import Derived.Laws.OwnMore
namespace Go.Proofs.YtaaedmipcffjoaaDoor
open Go.RowKit

/-- The parts between blanks. -/
def cutL : List UInt8 → ByteArray → List ByteArray
  | [], x => [x]
  | c :: l, x => if c = 32 then x :: cutL l ⟨#[]⟩ else cutL l (x ++ ⟨#[c]⟩)
def rpartsS (s : ByteArray) : List ByteArray := cutL s.data.toList ⟨#[]⟩
def rwordsS (s : ByteArray) : Option (List ByteArray) := if (rpartsS s).all rwordS then some (rpartsS s) else none
def RetWT (R : List ByteArray) (T : Bool) (w : World) (e : Ending) (w' : World) : Prop := RetW (if T = true then some R else none) w e w'

theorem info_string : (Tryd.prog.info? 9).map (fun i => (i.zero, i.size, i.bytes)) = some (some (.string ⟨#[]⟩), 1, 16) := by kernel_rfl
theorem strsV_set (L : List ByteArray) (x y : ByteArray) : (strsV (L ++ [x])).set L.length (.string y) = strsV (L ++ [y]) := by
  unfold strsV
  rw [← List.map_set]
  simp
theorem byte_drop (s : ByteArray) (k : Nat) (h : k < s.size) : s.data.toList.drop k = s.get! k :: s.data.toList.drop (k + 1) := by
  have hl : k < s.data.toList.length := h
  rw [List.drop_eq_getElem_cons hl, get_bang s k h]
  simp
theorem byte_extract (s : ByteArray) (k : Nat) (h : k < s.size) : s.extract k (k + 1) = ⟨#[s.get! k]⟩ := by
  apply ByteArray.ext
  apply Array.ext'
  have hl : k < s.data.toList.length := h
  simp only [ByteArray.data_extract, Array.toList_extract, List.extract_eq_take_drop]
  rw [byte_drop s k h]
  simp

theorem cutL_size : ∀ (l : List UInt8) (x y : ByteArray), y ∈ cutL l x → y.size ≤ x.size + l.length
  | [], x, y, h => by simp [cutL] at h; subst h; simp
  | c :: l, x, y, h => by
    unfold cutL at h
    split at h
    · rcases List.mem_cons.1 h with rfl | h
      · simp
      · have := cutL_size l _ y h
        have h0 : (⟨#[]⟩ : ByteArray).size = 0 := rfl
        rw [List.length_cons]; omega
    · have := cutL_size l _ y h
      rw [ByteArray.size_append] at this
      have h0 : (⟨#[c]⟩ : ByteArray).size = 1 := rfl
      rw [List.length_cons]; omega
theorem rparts_size (s x : ByteArray) (h : x ∈ rpartsS s) : x.size ≤ s.size := by
  have := cutL_size _ _ x h
  have h0 : (⟨#[]⟩ : ByteArray).size = 0 := rfl
  have h1 : s.size = s.data.toList.length := rfl
  omega

set_option maxHeartbeats 1000000 in
theorem rwords_c (s : ByteArray) (hs : s.size ≤ 4294967200) (w : World) :
    Calls Tryd.prog 22 #[.string s] w (RetW (rwordsS s) w) := by
  unfold rwordsS
  obtain ⟨R, hR⟩ : ∃ R, rpartsS s = R := ⟨_, rfl⟩
  rw [hR]
  obtain ⟨T, hT⟩ : ∃ T, R.all rwordS = T := ⟨_, rfl⟩
  rw [hT]
  show Calls _ _ _ _ (RetWT R T w)
  have HR := Lib.hid hR
  have HT := Lib.hid hT
  clear hR hT
  go_enter Tryd.func22, Tryd.ntmps22
  go_wp2_with fail
  go_loopw [4, 5] (fun out i wr => ∃ (k m g cap : Nat) (L : List ByteArray) (x : ByteArray), k ≤ s.size ∧ i = .int .i64 k ∧ out = .slice (some ⟨g, 0, none⟩) m cap ∧ m = L.length + 1 ∧ wr.ownsRow w.heap.size 9 1 out m (strsV (L ++ [x])) ∧ Bel w wr ∧ L.length ≤ k ∧ x.size ≤ k ∧ L ++ cutL (s.data.toList.drop k) x = R) (fun _ i _ => s.size - (intOf i).toNat)
  case atStart => exact ⟨0, 1, _, _, [], ⟨#[]⟩, Nat.zero_le _, rfl, rfl, rfl, World.ownsRow_lit w #[.string ⟨#[]⟩] 1 (Nat.le_refl _) (by decide) rfl, Bel.alloc _ _, by simp, by decide, HR.out⟩
  case round =>
    obtain ⟨k, m, g, cap, L, x, hk, rfl, rfl, hm, hown, hbel, hL, hx, hcut⟩ := hrel
    by_cases hp : k < s.size
    · have hbd := byte_drop s k hp
      have hbe := byte_extract s k hp
      rw [hbd] at hcut
      have hby := byte_is s k hp 32 32 rfl (by omega)
      have hcell := hown.cellAt (m - 1) (by omega)
      have hxs : (strsV (L ++ [x]))[m - 1]? = some (.string x) := by rw [hm]; simp [strsV]
      rw [hxs] at hcell
      have hfr := hown.frozenAt (m - 1)
      have hst := fun u => hown.stored (m - 1) u
      rw [show m - 1 = L.length from by omega] at hst hcell hfr
      obtain ⟨j, hj⟩ : ∃ j, L.length = j := ⟨_, rfl⟩
      have hst2 : ∀ y, (wr.setCell ⟨g, j, none⟩ (.string y)).ownsRow w.heap.size 9 1 (.slice (some ⟨g, 0, none⟩) m cap) m (strsV (L ++ [y])) := by
        intro y; have := (hst (.string y)).1; rw [strsV_set, hj] at this; exact this
      rw [hj] at hcell hfr
      have hge : w.heap.size ≤ g := (hown.lt g rfl).1
      obtain ⟨c, hc⟩ : ∃ c, s.get! k = c := ⟨_, rfl⟩
      rw [hc] at hcut hby hbe
      have hxk : x.size + 1 ≤ 4294967200 := by omega
      have hesz : (s.extract k (k + 1)).size = 1 := by simp; omega
      have HC := Lib.hid hcut
      have HB := Lib.hid hby
      have HE := Lib.hid hbe
      have HST := Lib.hid hst2
      have HM := Lib.hid hm
      have HM2 : Hid (m = j + 1) := Lib.hid (by omega)
      have hm3 : m ≤ 4294967200 := by omega
      clear hbd hcut hby hbe hst hst2 hm hc hxs
      go_wp2_with (at_builtin; refine wpL_append1 rfl _ _ 22 rfl w 9 (.string ⟨#[]⟩) 1 16 Tryd.underlying22 info_string rfl (by decide) (by decide) _ m (strsV (L ++ [x])) rfl (hown.alloc _) ⟨wr.heap.size, 0, none⟩ 1 [.string ⟨#[]⟩] rfl rfl (cell_one_new _ _ _) (by simp [Value.oneCell']) (by omega) (hbel.to_alloc _) ?_; intro g2 cp w2 hown2 hb3 hb4)
      · have h1 : ((s[k].toNat : Int) == 32) = true := by assumption
        refine ⟨⟨k + 1, m + 1, g2, cp, L ++ [x], ⟨#[]⟩, by omega, by go_num, rfl, by simp; exact HM.out, by simpa [strsV] using hown2, hb3, by simp; omega, by show 0 ≤ _; omega, ?_⟩, by simp [intOf]; omega⟩
        rw [← HC.out]
        have hc32 : c = 32 := HB.out.1 h1
        rw [cutL, if_pos hc32]
        simp
      · have h1 : ((s[k].toNat : Int) == 32) = false := by assumption
        have hm2 := HM2.out
        have f1 : IntKind.i64.wrap ((m : Int) - 1) = (m : Int) - 1 := IntWalk.i64_in _ (by omega)
        have f2 : (0 : Int) ≤ (m : Int) - 1 := by omega
        have f3 : ((m : Int) - 1).toNat = j := by omega
        have f4 : (m : Int) - 1 < m := by omega
        have f5 : IntKind.i64.wrap ((k : Int) + 1) = (k : Int) + 1 := IntWalk.i64_in _ (by omega)
        have f6 : (0 : Int) ≤ (k : Int) + 1 := by omega
        have f7 : ((k : Int) + 1).toNat = k + 1 := by omega
        have f8 : (k : Int) + 1 ≤ s.size := by omega
        have f9 : (k : Int) ≤ (k : Int) + 1 := by omega
        have f10 : (x ++ s.extract k (k + 1)).size ≤ maxLen := by rw [ByteArray.size_append, hesz]; unfold maxLen; omega
        clear hm2
        go_region
        go_wp2_with fail
        refine ⟨⟨k + 1, m, g, cap, L, x ++ s.extract k (k + 1), by omega, by go_num, rfl, HM.out, HST.out _, ?_, by omega, by rw [ByteArray.size_append, hesz]; omega, ?_⟩, by simp [intOf]; omega⟩
        · exact (Bel.to_setCell hbel (p := ⟨g, j, none⟩) hge _).to_drew
        · rw [← HC.out, cutL, if_neg (fun h => by rw [HB.out.2 h] at h1; cases h1), HE.out]
    · obtain rfl : k = s.size := by omega
      obtain ⟨W1, rfl⟩ : ∃ W1, W1 = wr := ⟨_, rfl⟩
      have hdrop : s.data.toList.drop s.size = [] := List.drop_of_length_le (Nat.le_refl _)
      rw [hdrop] at hcut
      have hrow0 := own_row hown
      have hrow1 : RowAt W1 (.slice (some ⟨g, 0, none⟩) m cap) (strsV R) := by
        have : L ++ [x] = R := hcut
        rw [← this]
        exact row_ne hrow0 (by simp [strsV])
      have hmR : R.length = m := by
        have : L ++ [x] = R := hcut
        rw [← this, hm]; simp
      have hbnd : m ≤ 4294967240 := by omega
      have hsz : ∀ y ∈ R, y.size ≤ 4294967280 := by
        intro y hy
        have := HR.out
        subst this
        exact Nat.le_trans (rparts_size s y hy) (by omega)
      have HSZ := Lib.hid hsz
      have HMR := Lib.hid hmR
      have HROW := Lib.hid hrow1
      obtain ⟨b, off, cap', hve, _, hlt, hcl⟩ := hrow1
      have hve2 : b = g ∧ off = 0 := by
        injection hve with h1 h2 h3
        injection h1 with h1
        injection h1 with h1 h2
        exact ⟨h1.symm, h2.symm⟩
      obtain ⟨rfl, rfl⟩ := hve2
      have HCL := Lib.hid hcl
      clear hdrop hcut hrow0 hmR hsz hve hcl hm hown hL hx hp hk
      go_wp2_with fail
      go_loopw [6] (fun i wr => ∃ j : Nat, j ≤ m ∧ i = .int .i64 j ∧ Bel W1 wr ∧ (R.drop j).all rwordS = T) (fun i _ => m - (intOf i).toNat)
      case atStart => exact ⟨0, Nat.zero_le _, rfl, Bel.refl _, HT.out⟩
      case round =>
        obtain ⟨j, hj, rfl, hb2, hall⟩ := hrel
        by_cases hjm : j < m
        · have hjl : j < R.length := by rw [HMR.out]; exact hjm
          have hcell := HCL.out j (by rw [strsV_length]; exact hjl)
          have hmem := HSZ.out _ (List.getElem_mem hjl)
          rw [List.drop_eq_getElem_cons hjl] at hall
          obtain ⟨y, hy⟩ : ∃ y, R[j] = y := ⟨_, rfl⟩
          have hcell2 : wr.cell? ⟨b, j, none⟩ = some (.string y) := by
            rw [hb2.cell hlt, show j = 0 + j from by omega, hcell, ← hy]; simp [strsV]
          rw [hy] at hall hmem
          have HALL := Lib.hid hall
          have hw := fun w3 => rword_c y hmem w3
          obtain ⟨F, hF⟩ : ∃ F, rwordS y = F := ⟨_, rfl⟩
          rw [hF] at hw
          have HW := Lib.hid hw
          have HF := Lib.hid hF
          clear hcell hall hy hw hF
          cases F
          · go_wp2_with (go_at_call 39; refine (HW.out _).mono ?_; rintro e w3 ⟨rfl, hb3⟩)
            go_ret2
            have : T = false := by rw [← HALL.out, List.all_cons, HF.out]; rfl
            subst this
            exact ⟨(hbel.trans hb2).trans (by assumption), rfl⟩
          · go_wp2_with (go_at_call 39; refine (HW.out _).mono ?_; rintro e w3 ⟨rfl, hb3⟩)
            refine ⟨⟨j + 1, by omega, by go_num, hb2.trans (by assumption), ?_⟩, by simp [intOf]; omega⟩
            rw [← HALL.out, List.all_cons, HF.out]; rfl
        · obtain rfl : j = m := by omega
          go_wp2_with fail
          go_ret2
          have : T = true := by rw [← hall, List.drop_of_length_le (by rw [HMR.out]; exact Nat.le_refl _)]; rfl
          subst this
          exact ⟨hbel.trans hb2, _, rfl, HROW.out.bel hb2⟩
end Go.Proofs.YtaaedmipcffjoaaDoor
