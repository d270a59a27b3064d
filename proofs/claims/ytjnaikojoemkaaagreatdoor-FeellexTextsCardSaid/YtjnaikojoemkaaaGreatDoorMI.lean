/-
  feellex: the walk of the document's Lex.
  feellex: rows of tokens; the walk of the document's Same.
  feellex: the walk of the law's alive.
-/
import Derived.Test.YtjnaikojoemkaaaGreatDoorMH
import Derived.Test.YtjnaikojoemkaaaGreatDoorMB
import Derived.BigQuiet
import Derived.Deep.QuietTactic
namespace Go.Proofs.YtjnaikojoemkaaaGreatDoor
open Go.RowKit

theorem tail_head (s : ByteArray) (i n : Nat) (_h : i + n ≤ s.size) : (s.extract i s.size).extract 0 n = s.extract i (i + n) := by
  apply ByteArray.ext; apply Array.ext'
  have h1 := extract_piece (s.extract i s.size) 0 n
  rw [Nat.zero_add] at h1
  rw [h1, extract_piece, tail_list, List.drop_zero]
theorem get_zero (s : ByteArray) (i : Nat) (h : i < s.size) : (s.extract i s.size).get! 0 = s.get! i := by rw [get_tail s i 0 (by omega), Nat.add_zero]

theorem cells3_at (w : World) (n : Nat) (hn : w.heap.size = n) (a b c : Value) (t : TypeId) : ∀ j u, [a, b, c][j]? = some u → (w.alloc (.cells #[a, b, c] t)).cell? ((⟨n, 0, none⟩ : Addr).add j) = some u := by
  subst hn
  exact cells3_new0 w a b c t
theorem sign_pre (x : ByteArray) : signS x = x.extract 0 (signS x).size := by
  have : ∀ l : List (List UInt8), (signIn x l).isPrefixOf x.data.toList = true := by
    intro l
    induction l with
    | nil => rfl
    | cons y l ih =>
      unfold signIn
      split
      · rename_i h; exact h
      · exact ih
  have h1 := List.isPrefixOf_iff_prefix.1 (this signsL)
  apply ByteArray.ext; apply Array.ext'
  have h2 := extract_piece x 0 (signS x).size
  rw [Nat.zero_add] at h2
  rw [h2, List.drop_zero]
  exact List.prefix_iff_eq_take.1 h1

set_option maxRecDepth 100000 in
set_option maxHeartbeats 8000000 in
theorem rlex_c (s : ByteArray) (hs : s.size ≤ 4294967280) (w : World) :
    Calls Tryz.prog 7 #[.string s] w (RetLex (lexS s) w) := by
  have HCK : Hid (∀ v w1, BytesAt w1 v s → Calls Tryz.prog 16 #[v] w1 fun e w' => e = .returned (.int .i64 (chkS s)) ∧ Bel w1 w') := Lib.hid fun v w1 hv => rcheck_c s hs v w1 hv
  have hok := chk_ok s
  obtain ⟨k, hk⟩ : ∃ k, chkS s = k := ⟨_, rfl⟩
  rw [hk] at HCK hok
  by_cases hlt : k < s.size
  · have hlti : (k : Int) < s.size := by omega
    have hR : lexS s = ([], k, 4) := by unfold lexS; rw [hk, if_pos hlt]
    rw [hR]
    clear hR hk hlt hok
    go_enter Tryz.func7, Tryz.ntmps7
    go_wp2_with (refine wpL_bytes rfl 9 43 5 _ rfl s rfl Tryz.underlying9 Tryz.underlying43 Tryz.underlying5 ?_; intro v W1 hv hb1)
    refine (HCK.out _ _ hv).mono ?_
    rintro e w2 ⟨rfl, hb2⟩
    go_wp2_with fail
    go_ret3
    exact ⟨hb1.trans hb2, _, rfl, World.ownsRow_nil _ _ _ _⟩
  · have hlti : decide (k < s.size) = false := decide_eq_false hlt
    have hR : lexS s = lexF s s.size 0 [] := by unfold lexS; rw [hk, if_neg hlt]
    obtain ⟨⟨RL, R2, R3⟩, hRR⟩ : ∃ R, lexS s = R := ⟨_, rfl⟩
    rw [hRR] at hR ⊢
    have HR := Lib.hid hR
    have HOK := Lib.hid (hok hlt)
    clear hR hRR hk hlt hok
    go_enter Tryz.func7, Tryz.ntmps7
    go_wp2_with (refine wpL_bytes rfl 9 43 5 _ rfl s rfl Tryz.underlying9 Tryz.underlying43 Tryz.underlying5 ?_; intro v W1 hv hb1)
    refine (HCK.out _ _ hv).mono ?_
    rintro e w2 ⟨rfl, hb2⟩
    have hb0 := hb1.trans hb2
    clear hv
    go_wp2_with fail
    go_loopw [6, 7] (fun l i wr => ∃ (pos b : Nat) (acc : List (Int × Nat × ByteArray)), i = .int .i64 pos ∧ pos ≤ s.size ∧ acc.length ≤ pos ∧ Bel w wr ∧ wr.ownsRow w.heap.size 32 3 l acc.length (lexCells acc) ∧ s.size ≤ pos + b ∧ OKat s pos ∧ (RL, R2, R3) = lexF s b pos acc) (fun _ i _ => s.size - (intOf i).toNat)
    case atStart => exact ⟨0, s.size, [], rfl, Nat.zero_le _, Nat.zero_le _, hb0, World.ownsRow_nil _ _ _ _, by omega, HOK.out, HR.out⟩
    case round =>
      obtain ⟨pos, b, acc, rfl, hpl, hal, hbel, hown, hb, hokp, hsc⟩ := hrel
      clear hb1 hb2 hb0 hlti
      by_cases hp : pos < s.size
      · have hpi : (pos : Int) < s.size := by omega
        obtain ⟨b', rfl, hst⟩ := lexF_step s b pos acc hp hb
        have hspo := space_ok s pos hokp hp
        have hlexo := lex_ok s pos hokp hp
        have hrw := rword_at s pos hokp hpl
        have hnn := num_not0 s pos hp
        have hnl := num_last s pos hpl
        have hsl := sign_last s pos hp
        have hg0 := get_zero s pos hp
        obtain ⟨c, hc⟩ : ∃ c, s.get! pos = c := ⟨_, rfl⟩
        have hx2 : s[pos]'hp = c := by rw [← hc]; exact (get_at s pos hp).symm
        rw [← hsc, hc] at hst
        rw [hc] at hspo hnn hg0
        have HSP : Hid (∀ w1, Calls Tryz.prog 17 #[.int .i64 c.toNat] w1 fun e w' => e = .returned (.bool (spaceC c.toNat)) ∧ w1 = w') := Lib.hid fun w1 => rspace_c (c.toNat : Int) w1
        obtain ⟨S, hS⟩ : ∃ S, spaceC (c.toNat : Int) = S := ⟨_, rfl⟩
        rw [hS] at HSP hst hspo
        have hcl := c.toNat_lt
        clear hS hc hsc
        cases S
        · rw [if_neg (by decide)] at hst
          clear hspo
          have hxs : (s.extract pos s.size).size = s.size - pos := by simp
          have hle := oneS_le (s.extract pos s.size) (by omega)
          have hwle := wordF_le (s.extract pos s.size) (s.extract pos s.size).size 0 (Nat.zero_le _)
          have hex := fun n h => tail_head s pos n h
          have HWD : Hid (∀ w1, Calls Tryz.prog 18 #[.string s, .int .i64 pos] w1 fun e w' => e = .returned (.int .i64 (wordN (s.extract pos s.size) : Nat)) ∧ Bel w1 w') := Lib.hid fun w1 => by
            have := rwd_c s hs pos hpl w1
            rwa [hrw, show ((pos + wordN (s.extract pos s.size) : Nat) : Int) - pos = (wordN (s.extract pos s.size) : Nat) from by omega] at this
          have HNU : Hid (∀ w1, Calls Tryz.prog 21 #[.string s, .int .i64 pos] w1 fun e w' => e = .returned (.int .i64 (numN (s.extract pos s.size) : Nat)) ∧ w1 = w') := Lib.hid fun w1 => rnumber_c s hs pos hpl w1
          have HTX : Hid (∀ w1, Calls Tryz.prog 22 #[.string s, .int .i64 pos] w1 (RetBel (rtextR pos (textS (s.extract pos s.size))) w1)) := Lib.hid fun w1 => rtext_c s hs pos hp w1
          have HSG : Hid (∀ w1, Calls Tryz.prog 23 #[.string s, .int .i64 pos] w1 fun e w' => e = .returned (.int .i64 (signS (s.extract pos s.size)).size) ∧ w1 = w') := Lib.hid fun w1 => rsign_c s hs pos hp w1
          have HDG : Hid (∀ (k : Nat) w1, Calls Tryz.prog 20 #[.string s, .int .i64 k] w1 fun e w' => e = .returned (.bool (digAt s k)) ∧ w1 = w') := Lib.hid fun k w1 => rdigit_c s hs k w1
          change wordN (s.extract pos s.size) ≤ (s.extract pos s.size).size at hwle
          obtain ⟨x, hx⟩ : ∃ x, s.extract pos s.size = x := ⟨_, rfl⟩
          rw [hx] at hst hle hxs hwle hlexo hnn hnl hsl hg0 HWD HNU HTX HSG
          simp only [hx] at hex
          have HOWN := Lib.hid hown
          have HEX := Lib.hid hex
          have hone : oneS x = oneS x := rfl
          conv at hone => rhs; unfold oneS
          clear hown hrw hex hx hokp
          by_cases hw0 : wordN x ≠ 0
          · rw [if_pos hw0] at hone
            rw [hone] at hst hlexo
            obtain ⟨n, hn⟩ : ∃ n, wordN x = n := ⟨_, rfl⟩
            rw [hn] at hst hlexo hwle hw0 HWD
            have hxe := HEX.out n (by omega)
            rw [hxe] at hst
            have hlexo2 := hlexo rfl
            simp only at hst hlexo2
            rw [if_neg (by simp)] at hst
            have HKW := Lib.hid fun w1 => rkeyword_c (s.extract pos (pos + n)) w1
            obtain ⟨y, hy⟩ : ∃ y, s.extract pos (pos + n) = y := ⟨_, rfl⟩
            rw [hy] at hst HKW
            obtain ⟨K, hK⟩ : ∃ K, isKw y = K := ⟨_, rfl⟩
            rw [hK] at hst HKW
            have HST := Lib.hid hst
            have HLO := Lib.hid hlexo2
            have hn1 : 1 ≤ n := by omega
            have hpn : pos + n ≤ s.size := by omega
            clear hle hnn hnl hsl hg0 HNU HTX HSG HDG hone hn hxe hlexo hlexo2 HEX hK hst hw0
            cases K
            · go_wp2_with fail
              refine (HSP.out _).mono ?_
              rintro e w3 ⟨rfl, rfl⟩
              go_wp2_with fail
              refine (HWD.out _).mono ?_
              rintro e w4 ⟨rfl, hb4⟩
              have HB4 := Lib.hid ((Bel.alloc wr (.cells #[.int .i64 0, .int .i64 pos, .string ⟨#[]⟩] 32)).trans hb4)
              have B4 := Lib.hid ((Blk.new wr 32 [.int .i64 0, .int .i64 pos, .string ⟨#[]⟩]).bel hb4)
              have f40 := B4.out.at 0
              have f41 := B4.out.at 1
              have f42 := B4.out.at 2
              have f43 := B4.out.fz
              go_wp2_with fail
              refine (HKW.out _).mono ?_
              rintro e w5 ⟨rfl, hb5⟩
              clear f40 f41 f42 f43
              have B5 := Lib.hid ((B4.out.set 2 (.string y)).bel hb5)
              have f50 := B5.out.at 0
              have f51 := B5.out.at 1
              have f52 := B5.out.at 2
              have f53 := B5.out.fz
              have HBW := Lib.hid ((bel_setNew HB4.out (Nat.le_refl _) 2 (.string y)).trans hb5)
              go_wp2_with (at_builtin; refine wpL_append1 rfl _ _ 23 rfl w 32 (.agg #[.int .i64 0, .int .i64 0, .string ⟨#[]⟩]) 3 32 Tryz.underlying23 info_lex rfl (by decide) (by decide) _ acc.length (lexCells acc) rfl ((own_bel HOWN.out HBW.out).alloc _) ⟨w5.heap.size, 0, none⟩ 1 [.int .i64 0, .int .i64 pos, .string y] rfl rfl (cells3_at _ _ (by simp) _ _ _ _) (by simp [Value.oneCell']) (by omega) ((hbel.trans HBW.out).to_alloc _) ?_; intro g2 cp w9 hown9 hb9 hb10; have HOWN9 := Lib.hid hown9; clear hown9)
              exact ⟨⟨pos + n, b', acc ++ [(0, pos, y)], by go_num, by omega, by simp; omega, hb9, by rw [lexCells_snoc, List.length_append]; exact HOWN9.out, by omega, HLO.out, HST.out⟩, by simp [intOf]; omega⟩
            · go_wp2_with fail
              refine (HSP.out _).mono ?_
              rintro e w3 ⟨rfl, rfl⟩
              go_wp2_with fail
              refine (HWD.out _).mono ?_
              rintro e w4 ⟨rfl, hb4⟩
              have HB4 := Lib.hid ((Bel.alloc wr (.cells #[.int .i64 0, .int .i64 pos, .string ⟨#[]⟩] 32)).trans hb4)
              have B4 := Lib.hid ((Blk.new wr 32 [.int .i64 0, .int .i64 pos, .string ⟨#[]⟩]).bel hb4)
              have f40 := B4.out.at 0
              have f41 := B4.out.at 1
              have f42 := B4.out.at 2
              have f43 := B4.out.fz
              go_wp2_with fail
              refine (HKW.out _).mono ?_
              rintro e w5 ⟨rfl, hb5⟩
              clear f40 f41 f42 f43
              have B5 := Lib.hid ((B4.out.set 2 (.string y)).bel hb5)
              have f50 := B5.out.at 0
              have f51 := B5.out.at 1
              have f52 := B5.out.at 2
              have f53 := B5.out.fz
              have HBW := Lib.hid (bel_setNew ((bel_setNew HB4.out (Nat.le_refl _) 2 (.string y)).trans hb5) (Nat.le_refl _) 0 (.int .i64 1))
              go_wp2_with (at_builtin; refine wpL_append1 rfl _ _ 23 rfl w 32 (.agg #[.int .i64 0, .int .i64 0, .string ⟨#[]⟩]) 3 32 Tryz.underlying23 info_lex rfl (by decide) (by decide) _ acc.length (lexCells acc) rfl ((own_bel HOWN.out HBW.out).alloc _) ⟨w5.heap.size, 0, none⟩ 1 [.int .i64 1, .int .i64 pos, .string y] rfl rfl (cells3_at _ _ (by simp) _ _ _ _) (by simp [Value.oneCell']) (by omega) ((hbel.trans HBW.out).to_alloc _) ?_; intro g2 cp w9 hown9 hb9 hb10; have HOWN9 := Lib.hid hown9; clear hown9)
              exact ⟨⟨pos + n, b', acc ++ [(1, pos, y)], by go_num, by omega, by simp; omega, hb9, by rw [lexCells_snoc, List.length_append]; exact HOWN9.out, by omega, HLO.out, HST.out⟩, by simp [intOf]; omega⟩
          · have hw1 : wordN x = 0 := by simpa using hw0
            rw [if_neg hw0] at hone
            rw [hw1] at HWD
            clear hwle hw0 hw1
            by_cases hn0 : numN x ≠ 0
            · rw [if_pos hn0] at hone
              rw [hone] at hst hlexo
              have hor := hnn.1 hn0
              have hnl1 := (hnl hn0).1
              obtain ⟨n, hn⟩ : ∃ n, numN x = n := ⟨_, rfl⟩
              rw [hn] at hst hlexo hn0 hnl1 HNU
              have hxe := HEX.out n (by omega)
              rw [hxe] at hst
              have hlexo2 := hlexo rfl
              simp only at hst hlexo2
              rw [if_neg (by simp)] at hst
              obtain ⟨y, hy⟩ : ∃ y, s.extract pos (pos + n) = y := ⟨_, rfl⟩
              rw [hy] at hst
              have HST := Lib.hid hst
              have HLO := Lib.hid hlexo2
              have hn1 : 1 ≤ n := by omega
              have hpn : pos + n ≤ s.size := by omega
              have hd1 := HDG.out pos
              have hd2 := HDG.out (pos + 1)
              clear hle hnn hnl hsl hg0 HTX HSG HDG hone hn hxe hlexo hlexo2 HEX hst hn0
              cases hD : digAt s pos
              · rw [hD] at hd1
                have h46 : c = 46 ∧ digAt s (pos + 1) = true := hor.elim (fun h => by rw [hD] at h; cases h) id
                have e46 : ((c.toNat : Int) == 46) = true := by rw [h46.1]; rfl
                rw [h46.2] at hd2
                have HD1 := Lib.hid hd1
                have HD2 := Lib.hid hd2
                clear hd1 hd2 hor h46 hD
                go_wp2_with fail
                refine (HSP.out _).mono ?_
                rintro e w3 ⟨rfl, rfl⟩
                go_wp2_with fail
                refine (HWD.out _).mono ?_
                rintro e w4 ⟨rfl, hb4⟩
                have HB4 := Lib.hid ((Bel.alloc wr (.cells #[.int .i64 0, .int .i64 pos, .string ⟨#[]⟩] 32)).trans hb4)
                have B4 := Lib.hid ((Blk.new wr 32 [.int .i64 0, .int .i64 pos, .string ⟨#[]⟩]).bel hb4)
                have f40 := B4.out.at 0
                have f41 := B4.out.at 1
                have f42 := B4.out.at 2
                have f43 := B4.out.fz
                go_wp2_with fail
                refine (HD1.out _).mono ?_
                rintro e w5 ⟨rfl, rfl⟩
                go_wp2_with fail
                refine (HD2.out _).mono ?_
                rintro e w5 ⟨rfl, rfl⟩
                go_wp2_with fail
                refine (HNU.out _).mono ?_
                rintro e w5 ⟨rfl, rfl⟩
                have HBW := Lib.hid (bel_setNew (bel_setNew HB4.out (Nat.le_refl _) 0 (.int .i64 2)) (Nat.le_refl _) 2 (.string y))
                go_wp2_with (at_builtin; refine wpL_append1 rfl _ _ 23 rfl w 32 (.agg #[.int .i64 0, .int .i64 0, .string ⟨#[]⟩]) 3 32 Tryz.underlying23 info_lex rfl (by decide) (by decide) _ acc.length (lexCells acc) rfl ((own_bel HOWN.out HBW.out).alloc _) ⟨w4.heap.size, 0, none⟩ 1 [.int .i64 2, .int .i64 pos, .string y] rfl rfl (cells3_at _ _ (by simp) _ _ _ _) (by simp [Value.oneCell']) (by omega) ((hbel.trans HBW.out).to_alloc _) ?_; intro g2 cp w9 hown9 hb9 hb10; have HOWN9 := Lib.hid hown9; clear hown9)
                exact ⟨⟨pos + n, b', acc ++ [(2, pos, y)], by go_num, by omega, by simp; omega, hb9, by rw [lexCells_snoc, List.length_append]; exact HOWN9.out, by omega, HLO.out, HST.out⟩, by simp [intOf]; omega⟩
              · rw [hD] at hd1
                have HD1 := Lib.hid hd1
                clear hd1 hd2 hor hD
                go_wp2_with fail
                refine (HSP.out _).mono ?_
                rintro e w3 ⟨rfl, rfl⟩
                go_wp2_with fail
                refine (HWD.out _).mono ?_
                rintro e w4 ⟨rfl, hb4⟩
                have HB4 := Lib.hid ((Bel.alloc wr (.cells #[.int .i64 0, .int .i64 pos, .string ⟨#[]⟩] 32)).trans hb4)
                have B4 := Lib.hid ((Blk.new wr 32 [.int .i64 0, .int .i64 pos, .string ⟨#[]⟩]).bel hb4)
                have f40 := B4.out.at 0
                have f41 := B4.out.at 1
                have f42 := B4.out.at 2
                have f43 := B4.out.fz
                go_wp2_with fail
                refine (HD1.out _).mono ?_
                rintro e w5 ⟨rfl, rfl⟩
                go_wp2_with fail
                refine (HNU.out _).mono ?_
                rintro e w5 ⟨rfl, rfl⟩
                have HBW := Lib.hid (bel_setNew (bel_setNew HB4.out (Nat.le_refl _) 0 (.int .i64 2)) (Nat.le_refl _) 2 (.string y))
                go_wp2_with (at_builtin; refine wpL_append1 rfl _ _ 23 rfl w 32 (.agg #[.int .i64 0, .int .i64 0, .string ⟨#[]⟩]) 3 32 Tryz.underlying23 info_lex rfl (by decide) (by decide) _ acc.length (lexCells acc) rfl ((own_bel HOWN.out HBW.out).alloc _) ⟨w4.heap.size, 0, none⟩ 1 [.int .i64 2, .int .i64 pos, .string y] rfl rfl (cells3_at _ _ (by simp) _ _ _ _) (by simp [Value.oneCell']) (by omega) ((hbel.trans HBW.out).to_alloc _) ?_; intro g2 cp w9 hown9 hb9 hb10; have HOWN9 := Lib.hid hown9; clear hown9)
                exact ⟨⟨pos + n, b', acc ++ [(2, pos, y)], by go_num, by omega, by simp; omega, hb9, by rw [lexCells_snoc, List.length_append]; exact HOWN9.out, by omega, HLO.out, HST.out⟩, by simp [intOf]; omega⟩
            · rw [if_neg hn0] at hone
              have hor : ¬ (digAt s pos = true ∨ c = 46 ∧ digAt s (pos + 1) = true) := fun h => hn0 (hnn.2 h)
              have hD : digAt s pos = false := by
                cases h : digAt s pos with
                | false => rfl
                | true => exact absurd (.inl h) hor
              have hd1 := HDG.out pos
              rw [hD] at hd1
              have hd2 := HDG.out (pos + 1)
              have HD1 := Lib.hid hd1
              have HD2 := Lib.hid hd2
              clear hd1 hd2 hnn hnl HNU hD hn0
              by_cases h34 : c = 34
              · have e34 : ((c.toNat : Int) == 34) = true := by rw [h34]; rfl
                have e46 : ((c.toNat : Int) == 46) = false := by rw [h34]; rfl
                rw [if_pos (by rw [hg0]; exact h34)] at hone
                rw [hone] at hst hlexo hle
                obtain ⟨⟨T1, T2, T3⟩, hT⟩ : ∃ T, textS x = T := ⟨_, rfl⟩
                rw [hT] at hst hlexo hle HTX
                simp only at hst hlexo hle
                clear hsl hg0 HSG HDG hone HEX hor h34 hT
                unfold rtextR at HTX
                by_cases h0 : T3 = 0
                · subst h0
                  rw [if_neg (by simp)] at hst
                  rw [if_pos (by rfl), if_pos (by rfl)] at HTX
                  have HST := Lib.hid hst
                  have HLO := Lib.hid (hlexo rfl)
                  have hle1 := hle.1
                  have hle2 := hle.2 rfl
                  clear hst hlexo hle
                  go_wp2_with fail
                  refine (HSP.out _).mono ?_
                  rintro e w3 ⟨rfl, rfl⟩
                  go_wp2_with fail
                  refine (HWD.out _).mono ?_
                  rintro e w4 ⟨rfl, hb4⟩
                  have HB4 := Lib.hid ((Bel.alloc wr (.cells #[.int .i64 0, .int .i64 pos, .string ⟨#[]⟩] 32)).trans hb4)
                  have B4 := Lib.hid ((Blk.new wr 32 [.int .i64 0, .int .i64 pos, .string ⟨#[]⟩]).bel hb4)
                  have f40 := B4.out.at 0
                  have f41 := B4.out.at 1
                  have f42 := B4.out.at 2
                  have f43 := B4.out.fz
                  go_wp2_with fail
                  refine (HD1.out _).mono ?_
                  rintro e w5 ⟨rfl, rfl⟩
                  go_wp2_with fail
                  refine (HTX.out _).mono ?_
                  rintro e w5 ⟨rfl, hb5⟩
                  clear f40 f41 f42 f43
                  have B5 := Lib.hid (B4.out.bel hb5)
                  have f50 := B5.out.at 0
                  have f51 := B5.out.at 1
                  have f52 := B5.out.at 2
                  have f53 := B5.out.fz
                  have HBW := Lib.hid (bel_setNew (bel_setNew (HB4.out.trans hb5) (Nat.le_refl _) 0 (.int .i64 3)) (Nat.le_refl _) 2 (.string T1))
                  go_wp2_with (at_builtin; refine wpL_append1 rfl _ _ 23 rfl w 32 (.agg #[.int .i64 0, .int .i64 0, .string ⟨#[]⟩]) 3 32 Tryz.underlying23 info_lex rfl (by decide) (by decide) _ acc.length (lexCells acc) rfl ((own_bel HOWN.out HBW.out).alloc _) ⟨w5.heap.size, 0, none⟩ 1 [.int .i64 3, .int .i64 pos, .string T1] rfl rfl (cells3_at _ _ (by simp) _ _ _ _) (by simp [Value.oneCell']) (by omega) ((hbel.trans HBW.out).to_alloc _) ?_; intro g2 cp w9 hown9 hb9 hb10; have HOWN9 := Lib.hid hown9; clear hown9)
                  exact ⟨⟨pos + T2, b', acc ++ [(3, pos, T1)], by go_num, by omega, by simp; omega, hb9, by rw [lexCells_snoc, List.length_append]; exact HOWN9.out, by omega, HLO.out, HST.out⟩, by simp [intOf]; omega⟩
                · rw [if_pos h0] at hst
                  rw [if_neg h0, if_neg h0] at HTX
                  have h4 : ((T3 : Int) != 0) = true := by simp [h0]
                  have h5 : ((T3 : Int) == 0) = false := by simp [h0]
                  have HST := Lib.hid hst
                  clear hst hlexo hle h0
                  go_wp2_with fail
                  refine (HSP.out _).mono ?_
                  rintro e w3 ⟨rfl, rfl⟩
                  go_wp2_with fail
                  refine (HWD.out _).mono ?_
                  rintro e w4 ⟨rfl, hb4⟩
                  have HB4 := Lib.hid ((Bel.alloc wr (.cells #[.int .i64 0, .int .i64 pos, .string ⟨#[]⟩] 32)).trans hb4)
                  have B4 := Lib.hid ((Blk.new wr 32 [.int .i64 0, .int .i64 pos, .string ⟨#[]⟩]).bel hb4)
                  have f40 := B4.out.at 0
                  have f41 := B4.out.at 1
                  have f42 := B4.out.at 2
                  have f43 := B4.out.fz
                  go_wp2_with fail
                  refine (HD1.out _).mono ?_
                  rintro e w5 ⟨rfl, rfl⟩
                  go_wp2_with fail
                  refine (HTX.out _).mono ?_
                  rintro e w5 ⟨rfl, hb5⟩
                  clear f40 f41 f42 f43
                  have B5 := Lib.hid (B4.out.bel hb5)
                  have f50 := B5.out.at 0
                  have f51 := B5.out.at 1
                  have f52 := B5.out.at 2
                  have f53 := B5.out.fz
                  go_wp2_with fail
                  go_ret3
                  have := HST.out
                  injection this with e1 e2
                  injection e2 with e2 e3
                  subst e1 e2 e3
                  exact ⟨(hbel.trans HB4.out).trans hb5, _, rfl, World.ownsRow_nil _ _ _ _⟩
              · have e34 : ((c.toNat : Int) == 34) = false := by
                  simp only [beq_eq_false_iff_ne, ne_eq]
                  intro h
                  exact h34 (UInt8.toNat_inj.1 (by rw [show (34 : UInt8).toNat = 34 from rfl]; omega))
                rw [if_neg (by rw [hg0]; exact h34)] at hone
                obtain ⟨z, hz⟩ : ∃ z, signS x = z := ⟨_, rfl⟩
                have hsz2 : (signS x).size ≠ 0 → signS x = s.extract pos (pos + (signS x).size) := fun h => by
                  rw [← HEX.out _ (by have := (hsl h).1; omega)]
                  exact sign_pre x
                rw [hz] at hone hsl HSG hsz2
                clear HEX hg0 hz h34 HTX
                by_cases h46 : c = 46
                · have e46 : ((c.toNat : Int) == 46) = true := by rw [h46]; rfl
                  have hDD : digAt s (pos + 1) = false := by
                    cases h : digAt s (pos + 1) with
                    | false => rfl
                    | true => exact absurd (.inr ⟨h46, h⟩) hor
                  rw [hDD] at HD2
                  clear hDD hor h46
                  by_cases hz0 : z.size = 0
                  · rw [if_pos hz0] at hone
                    rw [hone] at hst
                    simp only at hst
                    rw [if_pos (by simp)] at hst
                    rw [hz0] at HSG
                    have HST := Lib.hid hst
                    clear hst hlexo hle hone hsl hsz2 hz0
                    go_wp2_with fail
                    refine (HSP.out _).mono ?_
                    rintro e w3 ⟨rfl, rfl⟩
                    go_wp2_with fail
                    refine (HWD.out _).mono ?_
                    rintro e w4 ⟨rfl, hb4⟩
                    have HB4 := Lib.hid ((Bel.alloc wr (.cells #[.int .i64 0, .int .i64 pos, .string ⟨#[]⟩] 32)).trans hb4)
                    have B4 := Lib.hid ((Blk.new wr 32 [.int .i64 0, .int .i64 pos, .string ⟨#[]⟩]).bel hb4)
                    have f40 := B4.out.at 0
                    have f41 := B4.out.at 1
                    have f42 := B4.out.at 2
                    have f43 := B4.out.fz
                    go_wp2_with fail
                    refine (HD1.out _).mono ?_
                    rintro e w5 ⟨rfl, rfl⟩
                    go_wp2_with fail
                    refine (HD2.out _).mono ?_
                    rintro e w5 ⟨rfl, rfl⟩
                    go_wp2_with fail
                    refine (HSG.out _).mono ?_
                    rintro e w5 ⟨rfl, rfl⟩
                    go_wp2_with fail
                    go_ret3
                    have := HST.out
                    injection this with e1 e2
                    injection e2 with e2 e3
                    subst e1 e2 e3
                    exact ⟨hbel.trans HB4.out, _, rfl, World.ownsRow_nil _ _ _ _⟩
                  · rw [if_neg hz0] at hone
                    rw [hone] at hst hlexo
                    have hlexo2 := hlexo rfl
                    simp only at hst hlexo2
                    rw [if_neg (by simp)] at hst
                    have hsl1 := (hsl hz0).1
                    have hzz := hsz2 hz0
                    obtain ⟨n, hn⟩ : ∃ n, z.size = n := ⟨_, rfl⟩
                    rw [hn] at hst hlexo2 hz0 hsl1 HSG hzz
                    have hy : s.extract pos (pos + n) = z := hzz.symm
                    have HST := Lib.hid hst
                    have HLO := Lib.hid hlexo2
                    have hn1 : 1 ≤ n := by omega
                    have hpn : pos + n ≤ s.size := hsl1
                    clear hst hlexo hlexo2 hle hone hsl hsz2 hzz hn hz0
                    go_wp2_with fail
                    refine (HSP.out _).mono ?_
                    rintro e w3 ⟨rfl, rfl⟩
                    go_wp2_with fail
                    refine (HWD.out _).mono ?_
                    rintro e w4 ⟨rfl, hb4⟩
                    have HB4 := Lib.hid ((Bel.alloc wr (.cells #[.int .i64 0, .int .i64 pos, .string ⟨#[]⟩] 32)).trans hb4)
                    have B4 := Lib.hid ((Blk.new wr 32 [.int .i64 0, .int .i64 pos, .string ⟨#[]⟩]).bel hb4)
                    have f40 := B4.out.at 0
                    have f41 := B4.out.at 1
                    have f42 := B4.out.at 2
                    have f43 := B4.out.fz
                    go_wp2_with fail
                    refine (HD1.out _).mono ?_
                    rintro e w5 ⟨rfl, rfl⟩
                    go_wp2_with fail
                    refine (HD2.out _).mono ?_
                    rintro e w5 ⟨rfl, rfl⟩
                    go_wp2_with fail
                    refine (HSG.out _).mono ?_
                    rintro e w5 ⟨rfl, rfl⟩
                    have HBW := Lib.hid (bel_setNew (bel_setNew HB4.out (Nat.le_refl _) 0 (.int .i64 4)) (Nat.le_refl _) 2 (.string z))
                    go_wp2_with (at_builtin; refine wpL_append1 rfl _ _ 23 rfl w 32 (.agg #[.int .i64 0, .int .i64 0, .string ⟨#[]⟩]) 3 32 Tryz.underlying23 info_lex rfl (by decide) (by decide) _ acc.length (lexCells acc) rfl ((own_bel HOWN.out HBW.out).alloc _) ⟨w4.heap.size, 0, none⟩ 1 [.int .i64 4, .int .i64 pos, .string z] rfl rfl (cells3_at _ _ (by simp) _ _ _ _) (by simp [Value.oneCell']) (by omega) ((hbel.trans HBW.out).to_alloc _) ?_; intro g2 cp w9 hown9 hb9 hb10; have HOWN9 := Lib.hid hown9; clear hown9)
                    exact ⟨⟨pos + n, b', acc ++ [(4, pos, z)], by go_num, by omega, by simp; omega, hb9, by rw [lexCells_snoc, List.length_append]; exact HOWN9.out, by omega, HLO.out, HST.out⟩, by simp [intOf]; omega⟩
                · have e46 : ((c.toNat : Int) == 46) = false := by
                    simp only [beq_eq_false_iff_ne, ne_eq]
                    intro h
                    exact h46 (UInt8.toNat_inj.1 (by rw [show (46 : UInt8).toNat = 46 from rfl]; omega))
                  clear hor h46 HD2
                  by_cases hz0 : z.size = 0
                  · rw [if_pos hz0] at hone
                    rw [hone] at hst
                    simp only at hst
                    rw [if_pos (by simp)] at hst
                    rw [hz0] at HSG
                    have HST := Lib.hid hst
                    clear hst hlexo hle hone hsl hsz2 hz0
                    go_wp2_with fail
                    refine (HSP.out _).mono ?_
                    rintro e w3 ⟨rfl, rfl⟩
                    go_wp2_with fail
                    refine (HWD.out _).mono ?_
                    rintro e w4 ⟨rfl, hb4⟩
                    have HB4 := Lib.hid ((Bel.alloc wr (.cells #[.int .i64 0, .int .i64 pos, .string ⟨#[]⟩] 32)).trans hb4)
                    have B4 := Lib.hid ((Blk.new wr 32 [.int .i64 0, .int .i64 pos, .string ⟨#[]⟩]).bel hb4)
                    have f40 := B4.out.at 0
                    have f41 := B4.out.at 1
                    have f42 := B4.out.at 2
                    have f43 := B4.out.fz
                    go_wp2_with fail
                    refine (HD1.out _).mono ?_
                    rintro e w5 ⟨rfl, rfl⟩
                    go_wp2_with fail
                    refine (HSG.out _).mono ?_
                    rintro e w5 ⟨rfl, rfl⟩
                    go_wp2_with fail
                    go_ret3
                    have := HST.out
                    injection this with e1 e2
                    injection e2 with e2 e3
                    subst e1 e2 e3
                    exact ⟨hbel.trans HB4.out, _, rfl, World.ownsRow_nil _ _ _ _⟩
                  · rw [if_neg hz0] at hone
                    rw [hone] at hst hlexo
                    have hlexo2 := hlexo rfl
                    simp only at hst hlexo2
                    rw [if_neg (by simp)] at hst
                    have hsl1 := (hsl hz0).1
                    have hzz := hsz2 hz0
                    obtain ⟨n, hn⟩ : ∃ n, z.size = n := ⟨_, rfl⟩
                    rw [hn] at hst hlexo2 hz0 hsl1 HSG hzz
                    have hy : s.extract pos (pos + n) = z := hzz.symm
                    have HST := Lib.hid hst
                    have HLO := Lib.hid hlexo2
                    have hn1 : 1 ≤ n := by omega
                    have hpn : pos + n ≤ s.size := hsl1
                    clear hst hlexo hlexo2 hle hone hsl hsz2 hzz hn hz0
                    go_wp2_with fail
                    refine (HSP.out _).mono ?_
                    rintro e w3 ⟨rfl, rfl⟩
                    go_wp2_with fail
                    refine (HWD.out _).mono ?_
                    rintro e w4 ⟨rfl, hb4⟩
                    have HB4 := Lib.hid ((Bel.alloc wr (.cells #[.int .i64 0, .int .i64 pos, .string ⟨#[]⟩] 32)).trans hb4)
                    have B4 := Lib.hid ((Blk.new wr 32 [.int .i64 0, .int .i64 pos, .string ⟨#[]⟩]).bel hb4)
                    have f40 := B4.out.at 0
                    have f41 := B4.out.at 1
                    have f42 := B4.out.at 2
                    have f43 := B4.out.fz
                    go_wp2_with fail
                    refine (HD1.out _).mono ?_
                    rintro e w5 ⟨rfl, rfl⟩
                    go_wp2_with fail
                    refine (HSG.out _).mono ?_
                    rintro e w5 ⟨rfl, rfl⟩
                    have HBW := Lib.hid (bel_setNew (bel_setNew HB4.out (Nat.le_refl _) 0 (.int .i64 4)) (Nat.le_refl _) 2 (.string z))
                    go_wp2_with (at_builtin; refine wpL_append1 rfl _ _ 23 rfl w 32 (.agg #[.int .i64 0, .int .i64 0, .string ⟨#[]⟩]) 3 32 Tryz.underlying23 info_lex rfl (by decide) (by decide) _ acc.length (lexCells acc) rfl ((own_bel HOWN.out HBW.out).alloc _) ⟨w4.heap.size, 0, none⟩ 1 [.int .i64 4, .int .i64 pos, .string z] rfl rfl (cells3_at _ _ (by simp) _ _ _ _) (by simp [Value.oneCell']) (by omega) ((hbel.trans HBW.out).to_alloc _) ?_; intro g2 cp w9 hown9 hb9 hb10; have HOWN9 := Lib.hid hown9; clear hown9)
                    exact ⟨⟨pos + n, b', acc ++ [(4, pos, z)], by go_num, by omega, by simp; omega, hb9, by rw [lexCells_snoc, List.length_append]; exact HOWN9.out, by omega, HLO.out, HST.out⟩, by simp [intOf]; omega⟩
        · rw [if_pos rfl] at hst
          have HST := Lib.hid hst
          have HOWN := Lib.hid hown
          have HOKS := Lib.hid (hspo rfl)
          clear hst hown hlexo hrw hnn hnl hsl hg0 hokp hspo
          go_wp2_with fail
          refine (HSP.out _).mono ?_
          rintro e w3 ⟨rfl, rfl⟩
          go_wp2_with fail
          exact ⟨⟨pos + 1, b', acc, by go_num, hp, by omega, hbel, HOWN.out, by omega, HOKS.out, HST.out⟩, by simp [intOf]; omega⟩
      · have hend := lexF_end s b pos acc hp
        rw [hend] at hsc
        injection hsc with e1 e2
        injection e2 with e2 e3
        have HOWN := Lib.hid hown
        have E1 := Lib.hid e1
        have E2 := Lib.hid e2
        have E3 := Lib.hid e3
        clear hown hend e1 e2 e3 hokp
        go_wp2_with (at_builtin; refine wpL_append1 rfl _ _ 23 rfl w 32 (.agg #[.int .i64 0, .int .i64 0, .string ⟨#[]⟩]) 3 32 Tryz.underlying23 info_lex rfl (by decide) (by decide) _ acc.length (lexCells acc) rfl (HOWN.out.alloc _) ⟨wr.heap.size, 0, none⟩ 1 [.int .i64 5, .int .i64 s.size, .string ⟨#[]⟩] rfl rfl (cells3_new0 _ _ _ _ _) (by simp [Value.oneCell']) (by omega) (hbel.to_alloc _) ?_; intro g2 cp w4 hown4 hb4 hb5; have HOWN4 := Lib.hid hown4; clear hown4)
        go_ret3
        refine ⟨hb4, .slice (some ⟨g2, 0, none⟩) (acc.length + 1) cp, ?_, ?_⟩
        · exact tup3 rfl (int_eq (by rw [E2.out])) (int_eq (by rw [E3.out]; rfl))
        · rw [E1.out, lexCells_snoc, List.length_append]
          exact HOWN4.out
end Go.Proofs.YtjnaikojoemkaaaGreatDoor

namespace Go.Proofs.YtjnaikojoemkaaaGreatDoor
open Go.RowKit

abbrev Lx := Int × Int × ByteArray
/-- v is a slice of tokens that reads as l. -/
def RowL (W : World) (v : Value) (l : List Lx) : Prop :=
  (v = .slice none 0 0 ∧ l = []) ∨ ∃ b off cap, v = .slice (some ⟨b, off, none⟩) l.length cap ∧ l.length ≤ cap ∧ b < W.heap.size ∧
    ∀ j x, l[j]? = some x → W.cell? ⟨b, off + j * 3, none⟩ = some (.int .i64 x.1) ∧ W.cell? ⟨b, off + j * 3 + 1, none⟩ = some (.int .i64 x.2.1) ∧ W.cell? ⟨b, off + j * 3 + 2, none⟩ = some (.string x.2.2)
theorem RowL.bel {W W' : World} {v : Value} {l : List Lx} (h : RowL W v l) (hb : Bel W W') : RowL W' v l := by
  rcases h with h | ⟨b, off, cap, h1, h2, h3, h4⟩
  · exact .inl h
  · refine .inr ⟨b, off, cap, h1, h2, Nat.lt_of_lt_of_le h3 hb.size, fun j x hx => ?_⟩
    obtain ⟨g0, g1, g2⟩ := h4 j x hx
    exact ⟨(hb.cell h3).trans g0, (hb.cell h3).trans g1, (hb.cell h3).trans g2⟩
def toLx (x : Int × Nat × ByteArray) : Lx := (x.1, (x.2.1 : Int), x.2.2)
theorem lexCells_at : ∀ (l : List (Int × Nat × ByteArray)) (j : Nat) (x : Int × Nat × ByteArray), l[j]? = some x → (lexCells l)[j * 3]? = some (.int .i64 x.1) ∧ (lexCells l)[j * 3 + 1]? = some (.int .i64 x.2.1) ∧ (lexCells l)[j * 3 + 2]? = some (.string x.2.2)
  | [], j, x, h => by cases h
  | y :: l, 0, x, h => by
    cases h
    exact ⟨rfl, rfl, rfl⟩
  | y :: l, j + 1, x, h => by
    have ih := lexCells_at l j x h
    have e : lexCells (y :: l) = [.int .i64 y.1, .int .i64 y.2.1, .string y.2.2] ++ lexCells l := rfl
    rw [e, show (j + 1) * 3 = j * 3 + 3 from by omega]
    exact ih
theorem own_rowL {W : World} {B : Nat} {v : Value} {l : List (Int × Nat × ByteArray)} (h : W.ownsRow B 32 3 v l.length (lexCells l)) : RowL W v (l.map toLx) := by
  obtain ⟨hl, ⟨rfl, h0⟩ | ⟨g, cap, cur, rfl, hg, hh, hn, _, hsz, ht⟩⟩ := h
  · exact .inl ⟨rfl, by rw [List.eq_nil_of_length_eq_zero h0]; rfl⟩
  · refine .inr ⟨g, 0, cap, by rw [List.length_map], by rw [List.length_map]; omega, (Array.getElem?_eq_some_iff.1 hh).1, fun j x hx => ?_⟩
    rw [List.getElem?_map] at hx
    obtain ⟨y, hy, rfl⟩ := Option.map_eq_some_iff.1 hx
    obtain ⟨g0, g1, g2⟩ := lexCells_at l j y hy
    have hj : j < l.length := (List.getElem?_eq_some_iff.1 hy).1
    have hc : ∀ k u, k < l.length * 3 → (lexCells l)[k]? = some u → W.cell? ⟨g, 0 + k, none⟩ = some u := by
      intro k u hk hu
      rw [← ht, List.getElem?_take, if_pos hk] at hu
      simp only [World.cell?, hh, Nat.zero_add]
      simpa using hu
    exact ⟨hc _ _ (by omega) g0, hc (j * 3 + 1) _ (by omega) g1, hc (j * 3 + 2) _ (by omega) g2⟩

/-- Are two lists of tokens the same? -/
def sameL (p : Bool) : List Lx → List Lx → Bool
  | [], [] => true
  | x :: a, y :: b => (x.1 == y.1 && x.2.2.toList == y.2.2.toList && (!p || x.2.1 == y.2.1)) && sameL p a b
  | _, _ => false
theorem sameL_len (p : Bool) : ∀ a b, a.length ≠ b.length → sameL p a b = false
  | [], [], h => absurd rfl h
  | [], y :: b, _ => rfl
  | x :: a, [], _ => rfl
  | x :: a, y :: b, h => by
    rw [sameL, sameL_len p a b (fun e => h (by simp [e])), Bool.and_false]
theorem sameL_refl (p : Bool) : ∀ a, sameL p a a = true
  | [] => rfl
  | x :: a => by rw [sameL, sameL_refl p a]; simp
theorem sameL_at (p : Bool) (a b : List Lx) (j : Nat) (x y : Lx) (hx : a[j]? = some x) (hy : b[j]? = some y) :
    sameL p (a.drop j) (b.drop j) = ((x.1 == y.1 && x.2.2.toList == y.2.2.toList && (!p || x.2.1 == y.2.1)) && sameL p (a.drop (j + 1)) (b.drop (j + 1))) := by
  obtain ⟨h1, rfl⟩ := List.getElem?_eq_some_iff.1 hx
  obtain ⟨h2, rfl⟩ := List.getElem?_eq_some_iff.1 hy
  rw [List.drop_eq_getElem_cons h1, List.drop_eq_getElem_cons h2, sameL]
theorem rowL_form {W : World} {v : Value} {l : List Lx} (h : RowL W v l) : ∃ a cap, v = .slice a l.length cap ∧ (l = [] ∨ ∃ b off, a = some ⟨b, off, none⟩ ∧ l.length ≤ cap ∧ b < W.heap.size ∧
    ∀ j x, l[j]? = some x → W.cell? ⟨b, off + j * 3, none⟩ = some (.int .i64 x.1) ∧ W.cell? ⟨b, off + j * 3 + 1, none⟩ = some (.int .i64 x.2.1) ∧ W.cell? ⟨b, off + j * 3 + 2, none⟩ = some (.string x.2.2)) := by
  rcases h with ⟨rfl, rfl⟩ | ⟨b, off, cap, rfl, h2, h3, h4⟩
  · exact ⟨none, 0, rfl, .inl rfl⟩
  · exact ⟨_, cap, rfl, .inr ⟨b, off, rfl, h2, h3, h4⟩⟩

set_option maxRecDepth 100000 in
set_option maxHeartbeats 4000000 in
theorem rsame_c (v1 v2 : Value) (a b : List Lx) (p : Bool) (w : World) (h1 : RowL w v1 a) (h2 : RowL w v2 b) (_hla : a.length ≤ 4294967280) (hlb : b.length ≤ 4294967280) :
    Calls Tryz.prog 8 #[v1, v2, .bool p] w (RetBel (.bool (sameL p a b)) w) := by
  obtain ⟨R, hR⟩ : ∃ R, sameL p a b = R := ⟨_, rfl⟩
  rw [hR]
  have HR := Lib.hid hR
  obtain ⟨a1, c1, rfl, hc1⟩ := rowL_form h1
  obtain ⟨a2, c2, rfl, hc2⟩ := rowL_form h2
  by_cases hne : a.length = b.length
  · obtain ⟨n, hn⟩ : ∃ n, b.length = n := ⟨_, rfl⟩
    rw [hn] at hne hlb ⊢
    rw [hne]
    have HNA := Lib.hid hne
    have HNB := Lib.hid hn
    rw [hne] at hc1
    rw [hn] at hc2
    have HC1 := Lib.hid hc1
    have HC2 := Lib.hid hc2
    clear hR hn hne hc1 hc2 h1 h2
    go_enter Tryz.func8, Tryz.ntmps8
    go_wp2_with fail
    go_loopw [7] (fun i wr => ∃ j : Nat, j ≤ n ∧ i = .int .i64 j ∧ Bel w wr ∧ sameL p (a.drop j) (b.drop j) = R) (fun i _ => n - (intOf i).toNat)
    case atStart => exact ⟨0, Nat.zero_le _, rfl, Bel.refl _, HR.out⟩
    case round =>
      obtain ⟨j, hj, rfl, hbel, hs⟩ := hrel
      by_cases hlt : j < n
      · have hlti : (j : Int) < n := by omega
        obtain ⟨x, hx⟩ : ∃ x, a[j]? = some x := ⟨_, List.getElem?_eq_getElem (by have := HNA.out; omega)⟩
        obtain ⟨y, hy⟩ : ∃ y, b[j]? = some y := ⟨_, List.getElem?_eq_getElem (by have := HNB.out; omega)⟩
        have hsa := sameL_at p a b j x y hx hy
        rw [hs] at hsa
        rcases HC1.out with h0 | ⟨b1, o1, rfl, hk1, hb1, hcell1⟩
        · have := HNA.out; rw [h0] at this; simp at this; omega
        rcases HC2.out with h0 | ⟨b2, o2, rfl, hk2, hb2, hcell2⟩
        · have := HNB.out; rw [h0] at this; simp at this; omega
        obtain ⟨f0, f1, f2⟩ := hcell1 j x hx
        obtain ⟨g0, g1, g2⟩ := hcell2 j y hy
        rw [← hbel.cell hb1] at f0 f1 f2
        rw [← hbel.cell hb2] at g0 g1 g2
        obtain ⟨x1, x2, x3⟩ := x
        obtain ⟨y1, y2, y3⟩ := y
        simp only at f0 f1 f2 g0 g1 g2 hsa
        obtain ⟨A, hA⟩ : ∃ A, (x1 == y1) = A := ⟨_, rfl⟩
        obtain ⟨B, hB⟩ : ∃ B, (x3.toList == y3.toList) = B := ⟨_, rfl⟩
        obtain ⟨C, hC⟩ : ∃ C, (x2 == y2) = C := ⟨_, rfl⟩
        have hA2 : (x1 != y1) = !A := by rw [← hA]; rfl
        have hB2 : (x3.toList != y3.toList) = !B := by rw [← hB]; rfl
        have hC2 : (x2 != y2) = !C := by rw [← hC]; rfl
        rw [hA, hB, hC] at hsa
        have HSA := Lib.hid hsa
        clear hsa hs hcell1 hcell2 hx hy
        cases A
        · rw [Bool.false_and, Bool.false_and, Bool.false_and] at HSA
          go_wp2_with fail
          go_quiet (fail)
          go_wp2_with fail
          go_ret
          exact ⟨by rw [HSA.out]; rfl, hbel.to_drewN _⟩
        · cases B
          · rw [Bool.true_and, Bool.false_and, Bool.false_and] at HSA
            go_wp2_with fail
            go_quiet (fail)
            go_wp2_with fail
            go_ret
            exact ⟨by rw [HSA.out]; rfl, hbel.to_drewN _⟩
          · cases p
            · rw [Bool.true_and, Bool.true_and, Bool.not_false, Bool.true_or, Bool.true_and] at HSA
              go_wp2_with fail
              go_quiet (fail)
              go_wp2_with fail
              exact ⟨⟨j + 1, by omega, by go_num, hbel.to_drewN _, HSA.out.symm⟩, by simp [intOf]; omega⟩
            · cases C
              · rw [Bool.true_and, Bool.true_and, Bool.not_true, Bool.false_or, Bool.false_and] at HSA
                go_wp2_with fail
                go_quiet (fail)
                go_wp2_with fail
                go_ret
                exact ⟨by rw [HSA.out]; rfl, hbel.to_drewN _⟩
              · rw [Bool.true_and, Bool.true_and, Bool.not_true, Bool.false_or, Bool.true_and] at HSA
                go_wp2_with fail
                go_quiet (fail)
                go_wp2_with fail
                exact ⟨⟨j + 1, by omega, by go_num, hbel.to_drewN _, HSA.out.symm⟩, by simp [intOf]; omega⟩
      · obtain rfl : j = n := by omega
        rw [List.drop_of_length_le (by rw [HNA.out]; exact Nat.le_refl _), List.drop_of_length_le (by rw [HNB.out]; exact Nat.le_refl _)] at hs
        subst hs
        go_wp2_with fail
        go_ret
        exact ⟨rfl, hbel⟩
  · have hf : R = false := by rw [← hR]; exact sameL_len p a b hne
    subst hf
    have hne1 : ((a.length : Int) == b.length) = false := by simp; omega
    have hne2 : ((a.length : Int) != b.length) = true := by simp; omega
    clear hR hc1 hc2 h1 h2 HR
    go_enter Tryz.func8, Tryz.ntmps8
    go_wp2_with fail
    go_ret
    exact ⟨rfl, Bel.refl _⟩
end Go.Proofs.YtjnaikojoemkaaaGreatDoor

namespace Go.Proofs.YtjnaikojoemkaaaGreatDoor
open Go.RowKit

theorem lex_row (s : ByteArray) (hs : s.size ≤ 4294967280) (w : World) (hE : Env w) (hw : SignsAt w) (L : List Lx) (n e : Nat) (h : (((lexS s).1.map toLx), (lexS s).2.1, (lexS s).2.2) = (L, n, e)) :
    Calls Tryz.prog 6 #[.string s] w fun x w' => ∃ v, x = .returned (.tuple #[v, .int .i64 n, .int .i64 e]) ∧ RowL w' v L ∧ Bel w w' := by
  injection h with h1 h2
  injection h2 with h2 h3
  refine (lex_c s hs w hE hw).mono ?_
  rintro x w' ⟨hb, v, rfl, ho⟩
  have := own_rowL ho
  rw [h1] at this
  exact ⟨v, by rw [h2, h3], this, hb⟩
def t1 : ByteArray := ⟨#[110, 101, 116, 32, 112, 114, 105, 99, 101, 42, 49, 46, 53]⟩
def t2 : ByteArray := ⟨#[91, 49, 46, 46, 53, 93]⟩
def t3 : ByteArray := ⟨#[34, 97]⟩
def t4 : ByteArray := ⟨#[97, 32, 63, 32, 98]⟩
def L1 : List Lx := [(0, 0, ⟨#[110, 101, 116]⟩), (0, 4, ⟨#[112, 114, 105, 99, 101]⟩), (4, 9, ⟨#[42]⟩), (2, 10, ⟨#[49, 46, 53]⟩), (5, 13, ⟨#[]⟩)]
def L2 : List Lx := [(4, 0, ⟨#[91]⟩), (2, 1, ⟨#[49]⟩), (4, 2, ⟨#[46, 46]⟩), (2, 4, ⟨#[53]⟩), (4, 5, ⟨#[93]⟩), (5, 6, ⟨#[]⟩)]
def W1 : List Lx := [(0, 0, ⟨#[110, 101, 116]⟩), (0, 0, ⟨#[112, 114, 105, 99, 101]⟩), (4, 0, ⟨#[42]⟩), (2, 0, ⟨#[49, 46, 53]⟩), (5, 0, ⟨#[]⟩)]
set_option maxRecDepth 100000 in
theorem ev1 : ((lexS t1).1.map toLx, (lexS t1).2.1, (lexS t1).2.2) = (L1, 13, 0) := by decide +kernel
set_option maxRecDepth 100000 in
theorem ev2 : ((lexS t2).1.map toLx, (lexS t2).2.1, (lexS t2).2.2) = (L2, 6, 0) := by decide +kernel
set_option maxRecDepth 100000 in
theorem ev3 : ((lexS t3).1.map toLx, (lexS t3).2.1, (lexS t3).2.2) = ([], 2, 10) := by decide +kernel
set_option maxRecDepth 100000 in
theorem ev4 : ((lexS t4).1.map toLx, (lexS t4).2.1, (lexS t4).2.2) = ([], 2, 11) := by decide +kernel
theorem ev5 : sameL false L1 W1 = true := by decide +kernel

def lxCells (l : List Lx) : List Value := l.flatMap fun x => [.int .i64 x.1, .int .i64 x.2.1, .string x.2.2]
theorem lxCells_at : ∀ (l : List Lx) (j : Nat) (x : Lx), l[j]? = some x → (lxCells l)[j * 3]? = some (.int .i64 x.1) ∧ (lxCells l)[j * 3 + 1]? = some (.int .i64 x.2.1) ∧ (lxCells l)[j * 3 + 2]? = some (.string x.2.2)
  | [], j, x, h => by cases h
  | y :: l, 0, x, h => by
    cases h
    exact ⟨rfl, rfl, rfl⟩
  | y :: l, j + 1, x, h => by
    have ih := lxCells_at l j x h
    have e : lxCells (y :: l) = [.int .i64 y.1, .int .i64 y.2.1, .string y.2.2] ++ lxCells l := rfl
    rw [e, show (j + 1) * 3 = j * 3 + 3 from by omega]
    exact ih
theorem rowL_new (w : World) (l : List Lx) (t : TypeId) : RowL (w.alloc (.cells (lxCells l).toArray t)) (.slice (some ⟨w.heap.size, 0, none⟩) l.length l.length) l := by
  have h0 : (w.alloc (.cells (lxCells l).toArray t)).heap[w.heap.size]? = some (.cells (lxCells l).toArray t (0, 0)) := World.alloc_heap_new _ _
  refine .inr ⟨w.heap.size, 0, l.length, rfl, Nat.le_refl _, by simp, fun j x hx => ?_⟩
  obtain ⟨g0, g1, g2⟩ := lxCells_at l j x hx
  simp only [World.cell?, h0, Nat.zero_add]
  exact ⟨by simpa using g0, by simpa using g1, by simpa using g2⟩

set_option maxRecDepth 100000 in
set_option maxHeartbeats 4000000 in
theorem alive_c (w : World) (hE : Env w) (hw : SignsAt w) : Calls Tryz.prog 5 #[] w (RetBel (.bool true) w) := by
  have H1 : Hid (∀ w1, Bel w w1 → Calls Tryz.prog 6 #[.string ⟨#[110, 101, 116, 32, 112, 114, 105, 99, 101, 42, 49, 46, 53]⟩] w1 fun x w' => ∃ v, x = .returned (.tuple #[v, .int .i64 13, .int .i64 0]) ∧ RowL w' v L1 ∧ Bel w1 w') := Lib.hid fun w1 hb => lex_row t1 (by decide) w1 (hE.bel hb) (signs_bel hw hb) _ _ _ ev1
  have H2 : Hid (∀ w1, Bel w w1 → Calls Tryz.prog 6 #[.string ⟨#[91, 49, 46, 46, 53, 93]⟩] w1 fun x w' => ∃ v, x = .returned (.tuple #[v, .int .i64 6, .int .i64 0]) ∧ RowL w' v L2 ∧ Bel w1 w') := Lib.hid fun w1 hb => lex_row t2 (by decide) w1 (hE.bel hb) (signs_bel hw hb) _ _ _ ev2
  have H3 : Hid (∀ w1, Bel w w1 → Calls Tryz.prog 6 #[.string ⟨#[34, 97]⟩] w1 fun x w' => ∃ v, x = .returned (.tuple #[v, .int .i64 2, .int .i64 10]) ∧ RowL w' v [] ∧ Bel w1 w') := Lib.hid fun w1 hb => lex_row t3 (by decide) w1 (hE.bel hb) (signs_bel hw hb) _ _ _ ev3
  have H4 : Hid (∀ w1, Bel w w1 → Calls Tryz.prog 6 #[.string ⟨#[97, 32, 63, 32, 98]⟩] w1 fun x w' => ∃ v, x = .returned (.tuple #[v, .int .i64 2, .int .i64 11]) ∧ RowL w' v [] ∧ Bel w1 w') := Lib.hid fun w1 hb => lex_row t4 (by decide) w1 (hE.bel hb) (signs_bel hw hb) _ _ _ ev4
  clear hE hw
  go_enter Tryz.func5, Tryz.ntmps5
  go_wp2_with fail
  refine (H1.out _ (Bel.refl _)).mono ?_
  rintro e w1 ⟨v1, rfl, r1, b1⟩
  go_wp2_with fail
  refine (H2.out _ b1).mono ?_
  rintro e w2 ⟨v2, rfl, r2, b2⟩
  have b12 := b1.trans b2
  go_wp2_with fail
  refine (H3.out _ b12).mono ?_
  rintro e w3 ⟨v3, rfl, r3, b3⟩
  have b13 := b12.trans b3
  go_wp2_with fail
  refine (H4.out _ b13).mono ?_
  rintro e w4 ⟨v4, rfl, r4, b4⟩
  have b14 := b13.trans b4
  have hrn := rowL_new w4 W1 32
  have r1' := ((r1.bel b2).bel b3).bel b4
  have HSM : Hid (Calls Tryz.prog 8 #[v1, .slice (some ⟨w4.heap.size, 0, none⟩) 5 5, .bool false] (w4.alloc (.cells (lxCells W1).toArray 32)) (RetBel (.bool true) (w4.alloc (.cells (lxCells W1).toArray 32)))) := Lib.hid (by
    have := rsame_c v1 _ L1 W1 false _ (r1'.bel (Bel.alloc _ _)) hrn (by decide) (by decide)
    rwa [ev5] at this)
  obtain ⟨m, c2, hm, h2⟩ := rowL_form r2
  rw [show L2.length = 6 from rfl] at hm h2
  subst hm
  rcases h2 with h2 | ⟨g, off, rfl, hk, hlt, hc⟩
  · cases h2
  obtain ⟨_, _, q2⟩ := hc 2 _ rfl
  have q3 := (((b3.trans b4).cell hlt).trans q2)
  have HQ := Lib.hid q3
  clear hc q2 q3 r1 r1' r2 r3 r4 hrn H1 H2 H3 H4
  go_wp2_with fail
  refine (HSM.out).mono ?_
  rintro e w5 ⟨rfl, b5⟩
  have q5 : w5.cell? ⟨g, off + 2 * 3 + 2, none⟩ = some (.string ⟨#[46, 46]⟩) := Bel.keep ((Bel.alloc _ _).trans b5) HQ.out
  go_wp2_with fail
  go_ret
  exact ⟨rfl, b14.trans ((Bel.alloc _ _).trans b5)⟩
end Go.Proofs.YtjnaikojoemkaaaGreatDoor
