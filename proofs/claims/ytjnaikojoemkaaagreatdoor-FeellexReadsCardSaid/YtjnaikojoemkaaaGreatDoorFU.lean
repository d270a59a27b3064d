/-
  feellex: the walk of the document's Lex.
-/
import Derived.Test.YtjnaikojoemkaaaGreatDoorFT
import Derived.Test.YtjnaikojoemkaaaGreatDoorBK
namespace Go.Proofs.YtjnaikojoemkaaaGreatDoor
open Go.RowKit

theorem tail_head (s : ByteArray) (i n : Nat) (_h : i + n ≤ s.size) : (s.extract i s.size).extract 0 n = s.extract i (i + n) := by
  apply ByteArray.ext; apply Array.ext'
  have h1 := extract_piece (s.extract i s.size) 0 n
  rw [Nat.zero_add] at h1
  rw [h1, extract_piece, tail_list, List.drop_zero]
theorem get_zero (s : ByteArray) (i : Nat) (h : i < s.size) : (s.extract i s.size).get! 0 = s.get! i := by rw [get_tail s i 0 (by omega), Nat.add_zero]

theorem cells3_at (w : World) (n : Nat) (hn : w.heap.size = n) (a b c : Value) (t : TypeId) : ∀ j u, [a, b, c][j]? = some u → (w.alloc (.cells #[a, b, c] t)).cell? ((⟨n, 0, none⟩ : Addr).add j) = some u := by
  subst hn
  exact cells3_new0 w a b c t
theorem sign_pre (x : ByteArray) : signS x = x.extract 0 (signS x).size := by
  have : ∀ l : List (List UInt8), (signIn x l).isPrefixOf x.data.toList = true := by
    intro l
    induction l with
    | nil => rfl
    | cons y l ih =>
      unfold signIn
      split
      · rename_i h; exact h
      · exact ih
  have h1 := List.isPrefixOf_iff_prefix.1 (this signsL)
  apply ByteArray.ext; apply Array.ext'
  have h2 := extract_piece x 0 (signS x).size
  rw [Nat.zero_add] at h2
  rw [h2, List.drop_zero]
  exact List.prefix_iff_eq_take.1 h1

set_option maxRecDepth 100000 in
set_option maxHeartbeats 8000000 in
theorem rlex_c (s : ByteArray) (hs : s.size ≤ 4294967280) (w : World) :
    Calls Tryz.prog 7 #[.string s] w (RetLex (lexS s) w) := by
  have HCK : Hid (∀ v w1, BytesAt w1 v s → Calls Tryz.prog 16 #[v] w1 fun e w' => e = .returned (.int .i64 (chkS s)) ∧ Bel w1 w') := Lib.hid fun v w1 hv => rcheck_c s hs v w1 hv
  have hok := chk_ok s
  obtain ⟨k, hk⟩ : ∃ k, chkS s = k := ⟨_, rfl⟩
  rw [hk] at HCK hok
  by_cases hlt : k < s.size
  · have hlti : (k : Int) < s.size := by omega
    have hR : lexS s = ([], k, 4) := by unfold lexS; rw [hk, if_pos hlt]
    rw [hR]
    clear hR hk hlt hok
    go_enter Tryz.func7, Tryz.ntmps7
    go_wp2_with (refine wpL_bytes rfl 9 43 5 _ rfl s rfl Tryz.underlying9 Tryz.underlying43 Tryz.underlying5 ?_; intro v W1 hv hb1)
    refine (HCK.out _ _ hv).mono ?_
    rintro e w2 ⟨rfl, hb2⟩
    go_wp2_with fail
    go_ret3
    exact ⟨hb1.trans hb2, _, rfl, World.ownsRow_nil _ _ _ _⟩
  · have hlti : decide (k < s.size) = false := decide_eq_false hlt
    have hR : lexS s = lexF s s.size 0 [] := by unfold lexS; rw [hk, if_neg hlt]
    obtain ⟨⟨RL, R2, R3⟩, hRR⟩ : ∃ R, lexS s = R := ⟨_, rfl⟩
    rw [hRR] at hR ⊢
    have HR := Lib.hid hR
    have HOK := Lib.hid (hok hlt)
    clear hR hRR hk hlt hok
    go_enter Tryz.func7, Tryz.ntmps7
    go_wp2_with (refine wpL_bytes rfl 9 43 5 _ rfl s rfl Tryz.underlying9 Tryz.underlying43 Tryz.underlying5 ?_; intro v W1 hv hb1)
    refine (HCK.out _ _ hv).mono ?_
    rintro e w2 ⟨rfl, hb2⟩
    have hb0 := hb1.trans hb2
    clear hv
    go_wp2_with fail
    go_loopw [6, 7] (fun l i wr => ∃ (pos b : Nat) (acc : List (Int × Nat × ByteArray)), i = .int .i64 pos ∧ pos ≤ s.size ∧ acc.length ≤ pos ∧ Bel w wr ∧ wr.ownsRow w.heap.size 32 3 l acc.length (lexCells acc) ∧ s.size ≤ pos + b ∧ OKat s pos ∧ (RL, R2, R3) = lexF s b pos acc) (fun _ i _ => s.size - (intOf i).toNat)
    case atStart => exact ⟨0, s.size, [], rfl, Nat.zero_le _, Nat.zero_le _, hb0, World.ownsRow_nil _ _ _ _, by omega, HOK.out, HR.out⟩
    case round =>
      obtain ⟨pos, b, acc, rfl, hpl, hal, hbel, hown, hb, hokp, hsc⟩ := hrel
      clear hb1 hb2 hb0 hlti
      by_cases hp : pos < s.size
      · have hpi : (pos : Int) < s.size := by omega
        obtain ⟨b', rfl, hst⟩ := lexF_step s b pos acc hp hb
        have hspo := space_ok s pos hokp hp
        have hlexo := lex_ok s pos hokp hp
        have hrw := rword_at s pos hokp hpl
        have hnn := num_not0 s pos hp
        have hnl := num_last s pos hpl
        have hsl := sign_last s pos hp
        have hg0 := get_zero s pos hp
        obtain ⟨c, hc⟩ : ∃ c, s.get! pos = c := ⟨_, rfl⟩
        have hx2 : s[pos]'hp = c := by rw [← hc]; exact (get_at s pos hp).symm
        rw [← hsc, hc] at hst
        rw [hc] at hspo hnn hg0
        have HSP : Hid (∀ w1, Calls Tryz.prog 17 #[.int .i64 c.toNat] w1 fun e w' => e = .returned (.bool (spaceC c.toNat)) ∧ w1 = w') := Lib.hid fun w1 => rspace_c (c.toNat : Int) w1
        obtain ⟨S, hS⟩ : ∃ S, spaceC (c.toNat : Int) = S := ⟨_, rfl⟩
        rw [hS] at HSP hst hspo
        have hcl := c.toNat_lt
        clear hS hc hsc
        cases S
        · rw [if_neg (by decide)] at hst
          clear hspo
          have hxs : (s.extract pos s.size).size = s.size - pos := by simp
          have hle := oneS_le (s.extract pos s.size) (by omega)
          have hwle := wordF_le (s.extract pos s.size) (s.extract pos s.size).size 0 (Nat.zero_le _)
          have hex := fun n h => tail_head s pos n h
          have HWD : Hid (∀ w1, Calls Tryz.prog 18 #[.string s, .int .i64 pos] w1 fun e w' => e = .returned (.int .i64 (wordN (s.extract pos s.size) : Nat)) ∧ Bel w1 w') := Lib.hid fun w1 => by
            have := rwd_c s hs pos hpl w1
            rwa [hrw, show ((pos + wordN (s.extract pos s.size) : Nat) : Int) - pos = (wordN (s.extract pos s.size) : Nat) from by omega] at this
          have HNU : Hid (∀ w1, Calls Tryz.prog 21 #[.string s, .int .i64 pos] w1 fun e w' => e = .returned (.int .i64 (numN (s.extract pos s.size) : Nat)) ∧ w1 = w') := Lib.hid fun w1 => rnumber_c s hs pos hpl w1
          have HTX : Hid (∀ w1, Calls Tryz.prog 22 #[.string s, .int .i64 pos] w1 (RetBel (rtextR pos (textS (s.extract pos s.size))) w1)) := Lib.hid fun w1 => rtext_c s hs pos hp w1
          have HSG : Hid (∀ w1, Calls Tryz.prog 23 #[.string s, .int .i64 pos] w1 fun e w' => e = .returned (.int .i64 (signS (s.extract pos s.size)).size) ∧ w1 = w') := Lib.hid fun w1 => rsign_c s hs pos hp w1
          have HDG : Hid (∀ (k : Nat) w1, Calls Tryz.prog 20 #[.string s, .int .i64 k] w1 fun e w' => e = .returned (.bool (digAt s k)) ∧ w1 = w') := Lib.hid fun k w1 => rdigit_c s hs k w1
          change wordN (s.extract pos s.size) ≤ (s.extract pos s.size).size at hwle
          obtain ⟨x, hx⟩ : ∃ x, s.extract pos s.size = x := ⟨_, rfl⟩
          rw [hx] at hst hle hxs hwle hlexo hnn hnl hsl hg0 HWD HNU HTX HSG
          simp only [hx] at hex
          have HOWN := Lib.hid hown
          have HEX := Lib.hid hex
          have hone : oneS x = oneS x := rfl
          conv at hone => rhs; unfold oneS
          clear hown hrw hex hx hokp
          by_cases hw0 : wordN x ≠ 0
          · rw [if_pos hw0] at hone
            rw [hone] at hst hlexo
            obtain ⟨n, hn⟩ : ∃ n, wordN x = n := ⟨_, rfl⟩
            rw [hn] at hst hlexo hwle hw0 HWD
            have hxe := HEX.out n (by omega)
            rw [hxe] at hst
            have hlexo2 := hlexo rfl
            simp only at hst hlexo2
            rw [if_neg (by simp)] at hst
            have HKW := Lib.hid fun w1 => rkeyword_c (s.extract pos (pos + n)) w1
            obtain ⟨y, hy⟩ : ∃ y, s.extract pos (pos + n) = y := ⟨_, rfl⟩
            rw [hy] at hst HKW
            obtain ⟨K, hK⟩ : ∃ K, isKw y = K := ⟨_, rfl⟩
            rw [hK] at hst HKW
            have HST := Lib.hid hst
            have HLO := Lib.hid hlexo2
            have hn1 : 1 ≤ n := by omega
            have hpn : pos + n ≤ s.size := by omega
            clear hle hnn hnl hsl hg0 HNU HTX HSG HDG hone hn hxe hlexo hlexo2 HEX hK hst hw0
            cases K
            · go_wp2_with fail
              refine (HSP.out _).mono ?_
              rintro e w3 ⟨rfl, rfl⟩
              go_wp2_with fail
              refine (HWD.out _).mono ?_
              rintro e w4 ⟨rfl, hb4⟩
              have HB4 := Lib.hid ((Bel.alloc wr (.cells #[.int .i64 0, .int .i64 pos, .string ⟨#[]⟩] 32)).trans hb4)
              have B4 := Lib.hid ((Blk.new wr 32 [.int .i64 0, .int .i64 pos, .string ⟨#[]⟩]).bel hb4)
              have f40 := B4.out.at 0
              have f41 := B4.out.at 1
              have f42 := B4.out.at 2
              have f43 := B4.out.fz
              go_wp2_with fail
              refine (HKW.out _).mono ?_
              rintro e w5 ⟨rfl, hb5⟩
              clear f40 f41 f42 f43
              have B5 := Lib.hid ((B4.out.set 2 (.string y)).bel hb5)
              have f50 := B5.out.at 0
              have f51 := B5.out.at 1
              have f52 := B5.out.at 2
              have f53 := B5.out.fz
              have HBW := Lib.hid ((bel_setNew HB4.out (Nat.le_refl _) 2 (.string y)).trans hb5)
              go_wp2_with (at_builtin; refine wpL_append1 rfl _ _ 23 rfl w 32 (.agg #[.int .i64 0, .int .i64 0, .string ⟨#[]⟩]) 3 32 Tryz.underlying23 info_lex rfl (by decide) (by decide) _ acc.length (lexCells acc) rfl ((own_bel HOWN.out HBW.out).alloc _) ⟨w5.heap.size, 0, none⟩ 1 [.int .i64 0, .int .i64 pos, .string y] rfl rfl (cells3_at _ _ (by simp) _ _ _ _) (by simp [Value.oneCell']) (by omega) ((hbel.trans HBW.out).to_alloc _) ?_; intro g2 cp w9 hown9 hb9 hb10; have HOWN9 := Lib.hid hown9; clear hown9)
              exact ⟨⟨pos + n, b', acc ++ [(0, pos, y)], by go_num, by omega, by simp; omega, hb9, by rw [lexCells_snoc, List.length_append]; exact HOWN9.out, by omega, HLO.out, HST.out⟩, by simp [intOf]; omega⟩
            · go_wp2_with fail
              refine (HSP.out _).mono ?_
              rintro e w3 ⟨rfl, rfl⟩
              go_wp2_with fail
              refine (HWD.out _).mono ?_
              rintro e w4 ⟨rfl, hb4⟩
              have HB4 := Lib.hid ((Bel.alloc wr (.cells #[.int .i64 0, .int .i64 pos, .string ⟨#[]⟩] 32)).trans hb4)
              have B4 := Lib.hid ((Blk.new wr 32 [.int .i64 0, .int .i64 pos, .string ⟨#[]⟩]).bel hb4)
              have f40 := B4.out.at 0
              have f41 := B4.out.at 1
              have f42 := B4.out.at 2
              have f43 := B4.out.fz
              go_wp2_with fail
              refine (HKW.out _).mono ?_
              rintro e w5 ⟨rfl, hb5⟩
              clear f40 f41 f42 f43
              have B5 := Lib.hid ((B4.out.set 2 (.string y)).bel hb5)
              have f50 := B5.out.at 0
              have f51 := B5.out.at 1
              have f52 := B5.out.at 2
              have f53 := B5.out.fz
              have HBW := Lib.hid (bel_setNew ((bel_setNew HB4.out (Nat.le_refl _) 2 (.string y)).trans hb5) (Nat.le_refl _) 0 (.int .i64 1))
              go_wp2_with (at_builtin; refine wpL_append1 rfl _ _ 23 rfl w 32 (.agg #[.int .i64 0, .int .i64 0, .string ⟨#[]⟩]) 3 32 Tryz.underlying23 info_lex rfl (by decide) (by decide) _ acc.length (lexCells acc) rfl ((own_bel HOWN.out HBW.out).alloc _) ⟨w5.heap.size, 0, none⟩ 1 [.int .i64 1, .int .i64 pos, .string y] rfl rfl (cells3_at _ _ (by simp) _ _ _ _) (by simp [Value.oneCell']) (by omega) ((hbel.trans HBW.out).to_alloc _) ?_; intro g2 cp w9 hown9 hb9 hb10; have HOWN9 := Lib.hid hown9; clear hown9)
              exact ⟨⟨pos + n, b', acc ++ [(1, pos, y)], by go_num, by omega, by simp; omega, hb9, by rw [lexCells_snoc, List.length_append]; exact HOWN9.out, by omega, HLO.out, HST.out⟩, by simp [intOf]; omega⟩
          · have hw1 : wordN x = 0 := by simpa using hw0
            rw [if_neg hw0] at hone
            rw [hw1] at HWD
            clear hwle hw0 hw1
            by_cases hn0 : numN x ≠ 0
            · rw [if_pos hn0] at hone
              rw [hone] at hst hlexo
              have hor := hnn.1 hn0
              have hnl1 := (hnl hn0).1
              obtain ⟨n, hn⟩ : ∃ n, numN x = n := ⟨_, rfl⟩
              rw [hn] at hst hlexo hn0 hnl1 HNU
              have hxe := HEX.out n (by omega)
              rw [hxe] at hst
              have hlexo2 := hlexo rfl
              simp only at hst hlexo2
              rw [if_neg (by simp)] at hst
              obtain ⟨y, hy⟩ : ∃ y, s.extract pos (pos + n) = y := ⟨_, rfl⟩
              rw [hy] at hst
              have HST := Lib.hid hst
              have HLO := Lib.hid hlexo2
              have hn1 : 1 ≤ n := by omega
              have hpn : pos + n ≤ s.size := by omega
              have hd1 := HDG.out pos
              have hd2 := HDG.out (pos + 1)
              clear hle hnn hnl hsl hg0 HTX HSG HDG hone hn hxe hlexo hlexo2 HEX hst hn0
              cases hD : digAt s pos
              · rw [hD] at hd1
                have h46 : c = 46 ∧ digAt s (pos + 1) = true := hor.elim (fun h => by rw [hD] at h; cases h) id
                have e46 : ((c.toNat : Int) == 46) = true := by rw [h46.1]; rfl
                rw [h46.2] at hd2
                have HD1 := Lib.hid hd1
                have HD2 := Lib.hid hd2
                clear hd1 hd2 hor h46 hD
                go_wp2_with fail
                refine (HSP.out _).mono ?_
                rintro e w3 ⟨rfl, rfl⟩
                go_wp2_with fail
                refine (HWD.out _).mono ?_
                rintro e w4 ⟨rfl, hb4⟩
                have HB4 := Lib.hid ((Bel.alloc wr (.cells #[.int .i64 0, .int .i64 pos, .string ⟨#[]⟩] 32)).trans hb4)
                have B4 := Lib.hid ((Blk.new wr 32 [.int .i64 0, .int .i64 pos, .string ⟨#[]⟩]).bel hb4)
                have f40 := B4.out.at 0
                have f41 := B4.out.at 1
                have f42 := B4.out.at 2
                have f43 := B4.out.fz
                go_wp2_with fail
                refine (HD1.out _).mono ?_
                rintro e w5 ⟨rfl, rfl⟩
                go_wp2_with fail
                refine (HD2.out _).mono ?_
                rintro e w5 ⟨rfl, rfl⟩
                go_wp2_with fail
                refine (HNU.out _).mono ?_
                rintro e w5 ⟨rfl, rfl⟩
                have HBW := Lib.hid (bel_setNew (bel_setNew HB4.out (Nat.le_refl _) 0 (.int .i64 2)) (Nat.le_refl _) 2 (.string y))
                go_wp2_with (at_builtin; refine wpL_append1 rfl _ _ 23 rfl w 32 (.agg #[.int .i64 0, .int .i64 0, .string ⟨#[]⟩]) 3 32 Tryz.underlying23 info_lex rfl (by decide) (by decide) _ acc.length (lexCells acc) rfl ((own_bel HOWN.out HBW.out).alloc _) ⟨w4.heap.size, 0, none⟩ 1 [.int .i64 2, .int .i64 pos, .string y] rfl rfl (cells3_at _ _ (by simp) _ _ _ _) (by simp [Value.oneCell']) (by omega) ((hbel.trans HBW.out).to_alloc _) ?_; intro g2 cp w9 hown9 hb9 hb10; have HOWN9 := Lib.hid hown9; clear hown9)
                exact ⟨⟨pos + n, b', acc ++ [(2, pos, y)], by go_num, by omega, by simp; omega, hb9, by rw [lexCells_snoc, List.length_append]; exact HOWN9.out, by omega, HLO.out, HST.out⟩, by simp [intOf]; omega⟩
              · rw [hD] at hd1
                have HD1 := Lib.hid hd1
                clear hd1 hd2 hor hD
                go_wp2_with fail
                refine (HSP.out _).mono ?_
                rintro e w3 ⟨rfl, rfl⟩
                go_wp2_with fail
                refine (HWD.out _).mono ?_
                rintro e w4 ⟨rfl, hb4⟩
                have HB4 := Lib.hid ((Bel.alloc wr (.cells #[.int .i64 0, .int .i64 pos, .string ⟨#[]⟩] 32)).trans hb4)
                have B4 := Lib.hid ((Blk.new wr 32 [.int .i64 0, .int .i64 pos, .string ⟨#[]⟩]).bel hb4)
                have f40 := B4.out.at 0
                have f41 := B4.out.at 1
                have f42 := B4.out.at 2
                have f43 := B4.out.fz
                go_wp2_with fail
                refine (HD1.out _).mono ?_
                rintro e w5 ⟨rfl, rfl⟩
                go_wp2_with fail
                refine (HNU.out _).mono ?_
                rintro e w5 ⟨rfl, rfl⟩
                have HBW := Lib.hid (bel_setNew (bel_setNew HB4.out (Nat.le_refl _) 0 (.int .i64 2)) (Nat.le_refl _) 2 (.string y))
                go_wp2_with (at_builtin; refine wpL_append1 rfl _ _ 23 rfl w 32 (.agg #[.int .i64 0, .int .i64 0, .string ⟨#[]⟩]) 3 32 Tryz.underlying23 info_lex rfl (by decide) (by decide) _ acc.length (lexCells acc) rfl ((own_bel HOWN.out HBW.out).alloc _) ⟨w4.heap.size, 0, none⟩ 1 [.int .i64 2, .int .i64 pos, .string y] rfl rfl (cells3_at _ _ (by simp) _ _ _ _) (by simp [Value.oneCell']) (by omega) ((hbel.trans HBW.out).to_alloc _) ?_; intro g2 cp w9 hown9 hb9 hb10; have HOWN9 := Lib.hid hown9; clear hown9)
                exact ⟨⟨pos + n, b', acc ++ [(2, pos, y)], by go_num, by omega, by simp; omega, hb9, by rw [lexCells_snoc, List.length_append]; exact HOWN9.out, by omega, HLO.out, HST.out⟩, by simp [intOf]; omega⟩
            · rw [if_neg hn0] at hone
              have hor : ¬ (digAt s pos = true ∨ c = 46 ∧ digAt s (pos + 1) = true) := fun h => hn0 (hnn.2 h)
              have hD : digAt s pos = false := by
                cases h : digAt s pos with
                | false => rfl
                | true => exact absurd (.inl h) hor
              have hd1 := HDG.out pos
              rw [hD] at hd1
              have hd2 := HDG.out (pos + 1)
              have HD1 := Lib.hid hd1
              have HD2 := Lib.hid hd2
              clear hd1 hd2 hnn hnl HNU hD hn0
              by_cases h34 : c = 34
              · have e34 : ((c.toNat : Int) == 34) = true := by rw [h34]; rfl
                have e46 : ((c.toNat : Int) == 46) = false := by rw [h34]; rfl
                rw [if_pos (by rw [hg0]; exact h34)] at hone
                rw [hone] at hst hlexo hle
                obtain ⟨⟨T1, T2, T3⟩, hT⟩ : ∃ T, textS x = T := ⟨_, rfl⟩
                rw [hT] at hst hlexo hle HTX
                simp only at hst hlexo hle
                clear hsl hg0 HSG HDG hone HEX hor h34 hT
                unfold rtextR at HTX
                by_cases h0 : T3 = 0
                · subst h0
                  rw [if_neg (by simp)] at hst
                  rw [if_pos (by rfl), if_pos (by rfl)] at HTX
                  have HST := Lib.hid hst
                  have HLO := Lib.hid (hlexo rfl)
                  have hle1 := hle.1
                  have hle2 := hle.2 rfl
                  clear hst hlexo hle
                  go_wp2_with fail
                  refine (HSP.out _).mono ?_
                  rintro e w3 ⟨rfl, rfl⟩
                  go_wp2_with fail
                  refine (HWD.out _).mono ?_
                  rintro e w4 ⟨rfl, hb4⟩
                  have HB4 := Lib.hid ((Bel.alloc wr (.cells #[.int .i64 0, .int .i64 pos, .string ⟨#[]⟩] 32)).trans hb4)
                  have B4 := Lib.hid ((Blk.new wr 32 [.int .i64 0, .int .i64 pos, .string ⟨#[]⟩]).bel hb4)
                  have f40 := B4.out.at 0
                  have f41 := B4.out.at 1
                  have f42 := B4.out.at 2
                  have f43 := B4.out.fz
                  go_wp2_with fail
                  refine (HD1.out _).mono ?_
                  rintro e w5 ⟨rfl, rfl⟩
                  go_wp2_with fail
                  refine (HTX.out _).mono ?_
                  rintro e w5 ⟨rfl, hb5⟩
                  clear f40 f41 f42 f43
                  have B5 := Lib.hid (B4.out.bel hb5)
                  have f50 := B5.out.at 0
                  have f51 := B5.out.at 1
                  have f52 := B5.out.at 2
                  have f53 := B5.out.fz
                  have HBW := Lib.hid (bel_setNew (bel_setNew (HB4.out.trans hb5) (Nat.le_refl _) 0 (.int .i64 3)) (Nat.le_refl _) 2 (.string T1))
                  go_wp2_with (at_builtin; refine wpL_append1 rfl _ _ 23 rfl w 32 (.agg #[.int .i64 0, .int .i64 0, .string ⟨#[]⟩]) 3 32 Tryz.underlying23 info_lex rfl (by decide) (by decide) _ acc.length (lexCells acc) rfl ((own_bel HOWN.out HBW.out).alloc _) ⟨w5.heap.size, 0, none⟩ 1 [.int .i64 3, .int .i64 pos, .string T1] rfl rfl (cells3_at _ _ (by simp) _ _ _ _) (by simp [Value.oneCell']) (by omega) ((hbel.trans HBW.out).to_alloc _) ?_; intro g2 cp w9 hown9 hb9 hb10; have HOWN9 := Lib.hid hown9; clear hown9)
                  exact ⟨⟨pos + T2, b', acc ++ [(3, pos, T1)], by go_num, by omega, by simp; omega, hb9, by rw [lexCells_snoc, List.length_append]; exact HOWN9.out, by omega, HLO.out, HST.out⟩, by simp [intOf]; omega⟩
                · rw [if_pos h0] at hst
                  rw [if_neg h0, if_neg h0] at HTX
                  have h4 : ((T3 : Int) != 0) = true := by simp [h0]
                  have h5 : ((T3 : Int) == 0) = false := by simp [h0]
                  have HST := Lib.hid hst
                  clear hst hlexo hle h0
                  go_wp2_with fail
                  refine (HSP.out _).mono ?_
                  rintro e w3 ⟨rfl, rfl⟩
                  go_wp2_with fail
                  refine (HWD.out _).mono ?_
                  rintro e w4 ⟨rfl, hb4⟩
                  have HB4 := Lib.hid ((Bel.alloc wr (.cells #[.int .i64 0, .int .i64 pos, .string ⟨#[]⟩] 32)).trans hb4)
                  have B4 := Lib.hid ((Blk.new wr 32 [.int .i64 0, .int .i64 pos, .string ⟨#[]⟩]).bel hb4)
                  have f40 := B4.out.at 0
                  have f41 := B4.out.at 1
                  have f42 := B4.out.at 2
                  have f43 := B4.out.fz
                  go_wp2_with fail
                  refine (HD1.out _).mono ?_
                  rintro e w5 ⟨rfl, rfl⟩
                  go_wp2_with fail
                  refine (HTX.out _).mono ?_
                  rintro e w5 ⟨rfl, hb5⟩
                  clear f40 f41 f42 f43
                  have B5 := Lib.hid (B4.out.bel hb5)
                  have f50 := B5.out.at 0
                  have f51 := B5.out.at 1
                  have f52 := B5.out.at 2
                  have f53 := B5.out.fz
                  go_wp2_with fail
                  go_ret3
                  have := HST.out
                  injection this with e1 e2
                  injection e2 with e2 e3
                  subst e1 e2 e3
                  exact ⟨(hbel.trans HB4.out).trans hb5, _, rfl, World.ownsRow_nil _ _ _ _⟩
              · have e34 : ((c.toNat : Int) == 34) = false := by
                  simp only [beq_eq_false_iff_ne, ne_eq]
                  intro h
                  exact h34 (UInt8.toNat_inj.1 (by rw [show (34 : UInt8).toNat = 34 from rfl]; omega))
                rw [if_neg (by rw [hg0]; exact h34)] at hone
                obtain ⟨z, hz⟩ : ∃ z, signS x = z := ⟨_, rfl⟩
                have hsz2 : (signS x).size ≠ 0 → signS x = s.extract pos (pos + (signS x).size) := fun h => by
                  rw [← HEX.out _ (by have := (hsl h).1; omega)]
                  exact sign_pre x
                rw [hz] at hone hsl HSG hsz2
                clear HEX hg0 hz h34 HTX
                by_cases h46 : c = 46
                · have e46 : ((c.toNat : Int) == 46) = true := by rw [h46]; rfl
                  have hDD : digAt s (pos + 1) = false := by
                    cases h : digAt s (pos + 1) with
                    | false => rfl
                    | true => exact absurd (.inr ⟨h46, h⟩) hor
                  rw [hDD] at HD2
                  clear hDD hor h46
                  by_cases hz0 : z.size = 0
                  · rw [if_pos hz0] at hone
                    rw [hone] at hst
                    simp only at hst
                    rw [if_pos (by simp)] at hst
                    rw [hz0] at HSG
                    have HST := Lib.hid hst
                    clear hst hlexo hle hone hsl hsz2 hz0
                    go_wp2_with fail
                    refine (HSP.out _).mono ?_
                    rintro e w3 ⟨rfl, rfl⟩
                    go_wp2_with fail
                    refine (HWD.out _).mono ?_
                    rintro e w4 ⟨rfl, hb4⟩
                    have HB4 := Lib.hid ((Bel.alloc wr (.cells #[.int .i64 0, .int .i64 pos, .string ⟨#[]⟩] 32)).trans hb4)
                    have B4 := Lib.hid ((Blk.new wr 32 [.int .i64 0, .int .i64 pos, .string ⟨#[]⟩]).bel hb4)
                    have f40 := B4.out.at 0
                    have f41 := B4.out.at 1
                    have f42 := B4.out.at 2
                    have f43 := B4.out.fz
                    go_wp2_with fail
                    refine (HD1.out _).mono ?_
                    rintro e w5 ⟨rfl, rfl⟩
                    go_wp2_with fail
                    refine (HD2.out _).mono ?_
                    rintro e w5 ⟨rfl, rfl⟩
                    go_wp2_with fail
                    refine (HSG.out _).mono ?_
                    rintro e w5 ⟨rfl, rfl⟩
                    go_wp2_with fail
                    go_ret3
                    have := HST.out
                    injection this with e1 e2
                    injection e2 with e2 e3
                    subst e1 e2 e3
                    exact ⟨hbel.trans HB4.out, _, rfl, World.ownsRow_nil _ _ _ _⟩
                  · rw [if_neg hz0] at hone
                    rw [hone] at hst hlexo
                    have hlexo2 := hlexo rfl
                    simp only at hst hlexo2
                    rw [if_neg (by simp)] at hst
                    have hsl1 := (hsl hz0).1
                    have hzz := hsz2 hz0
                    obtain ⟨n, hn⟩ : ∃ n, z.size = n := ⟨_, rfl⟩
                    rw [hn] at hst hlexo2 hz0 hsl1 HSG hzz
                    have hy : s.extract pos (pos + n) = z := hzz.symm
                    have HST := Lib.hid hst
                    have HLO := Lib.hid hlexo2
                    have hn1 : 1 ≤ n := by omega
                    have hpn : pos + n ≤ s.size := hsl1
                    clear hst hlexo hlexo2 hle hone hsl hsz2 hzz hn hz0
                    go_wp2_with fail
                    refine (HSP.out _).mono ?_
                    rintro e w3 ⟨rfl, rfl⟩
                    go_wp2_with fail
                    refine (HWD.out _).mono ?_
                    rintro e w4 ⟨rfl, hb4⟩
                    have HB4 := Lib.hid ((Bel.alloc wr (.cells #[.int .i64 0, .int .i64 pos, .string ⟨#[]⟩] 32)).trans hb4)
                    have B4 := Lib.hid ((Blk.new wr 32 [.int .i64 0, .int .i64 pos, .string ⟨#[]⟩]).bel hb4)
                    have f40 := B4.out.at 0
                    have f41 := B4.out.at 1
                    have f42 := B4.out.at 2
                    have f43 := B4.out.fz
                    go_wp2_with fail
                    refine (HD1.out _).mono ?_
                    rintro e w5 ⟨rfl, rfl⟩
                    go_wp2_with fail
                    refine (HD2.out _).mono ?_
                    rintro e w5 ⟨rfl, rfl⟩
                    go_wp2_with fail
                    refine (HSG.out _).mono ?_
                    rintro e w5 ⟨rfl, rfl⟩
                    have HBW := Lib.hid (bel_setNew (bel_setNew HB4.out (Nat.le_refl _) 0 (.int .i64 4)) (Nat.le_refl _) 2 (.string z))
                    go_wp2_with (at_builtin; refine wpL_append1 rfl _ _ 23 rfl w 32 (.agg #[.int .i64 0, .int .i64 0, .string ⟨#[]⟩]) 3 32 Tryz.underlying23 info_lex rfl (by decide) (by decide) _ acc.length (lexCells acc) rfl ((own_bel HOWN.out HBW.out).alloc _) ⟨w4.heap.size, 0, none⟩ 1 [.int .i64 4, .int .i64 pos, .string z] rfl rfl (cells3_at _ _ (by simp) _ _ _ _) (by simp [Value.oneCell']) (by omega) ((hbel.trans HBW.out).to_alloc _) ?_; intro g2 cp w9 hown9 hb9 hb10; have HOWN9 := Lib.hid hown9; clear hown9)
                    exact ⟨⟨pos + n, b', acc ++ [(4, pos, z)], by go_num, by omega, by simp; omega, hb9, by rw [lexCells_snoc, List.length_append]; exact HOWN9.out, by omega, HLO.out, HST.out⟩, by simp [intOf]; omega⟩
                · have e46 : ((c.toNat : Int) == 46) = false := by
                    simp only [beq_eq_false_iff_ne, ne_eq]
                    intro h
                    exact h46 (UInt8.toNat_inj.1 (by rw [show (46 : UInt8).toNat = 46 from rfl]; omega))
                  clear hor h46 HD2
                  by_cases hz0 : z.size = 0
                  · rw [if_pos hz0] at hone
                    rw [hone] at hst
                    simp only at hst
                    rw [if_pos (by simp)] at hst
                    rw [hz0] at HSG
                    have HST := Lib.hid hst
                    clear hst hlexo hle hone hsl hsz2 hz0
                    go_wp2_with fail
                    refine (HSP.out _).mono ?_
                    rintro e w3 ⟨rfl, rfl⟩
                    go_wp2_with fail
                    refine (HWD.out _).mono ?_
                    rintro e w4 ⟨rfl, hb4⟩
                    have HB4 := Lib.hid ((Bel.alloc wr (.cells #[.int .i64 0, .int .i64 pos, .string ⟨#[]⟩] 32)).trans hb4)
                    have B4 := Lib.hid ((Blk.new wr 32 [.int .i64 0, .int .i64 pos, .string ⟨#[]⟩]).bel hb4)
                    have f40 := B4.out.at 0
                    have f41 := B4.out.at 1
                    have f42 := B4.out.at 2
                    have f43 := B4.out.fz
                    go_wp2_with fail
                    refine (HD1.out _).mono ?_
                    rintro e w5 ⟨rfl, rfl⟩
                    go_wp2_with fail
                    refine (HSG.out _).mono ?_
                    rintro e w5 ⟨rfl, rfl⟩
                    go_wp2_with fail
                    go_ret3
                    have := HST.out
                    injection this with e1 e2
                    injection e2 with e2 e3
                    subst e1 e2 e3
                    exact ⟨hbel.trans HB4.out, _, rfl, World.ownsRow_nil _ _ _ _⟩
                  · rw [if_neg hz0] at hone
                    rw [hone] at hst hlexo
                    have hlexo2 := hlexo rfl
                    simp only at hst hlexo2
                    rw [if_neg (by simp)] at hst
                    have hsl1 := (hsl hz0).1
                    have hzz := hsz2 hz0
                    obtain ⟨n, hn⟩ : ∃ n, z.size = n := ⟨_, rfl⟩
                    rw [hn] at hst hlexo2 hz0 hsl1 HSG hzz
                    have hy : s.extract pos (pos + n) = z := hzz.symm
                    have HST := Lib.hid hst
                    have HLO := Lib.hid hlexo2
                    have hn1 : 1 ≤ n := by omega
                    have hpn : pos + n ≤ s.size := hsl1
                    clear hst hlexo hlexo2 hle hone hsl hsz2 hzz hn hz0
                    go_wp2_with fail
                    refine (HSP.out _).mono ?_
                    rintro e w3 ⟨rfl, rfl⟩
                    go_wp2_with fail
                    refine (HWD.out _).mono ?_
                    rintro e w4 ⟨rfl, hb4⟩
                    have HB4 := Lib.hid ((Bel.alloc wr (.cells #[.int .i64 0, .int .i64 pos, .string ⟨#[]⟩] 32)).trans hb4)
                    have B4 := Lib.hid ((Blk.new wr 32 [.int .i64 0, .int .i64 pos, .string ⟨#[]⟩]).bel hb4)
                    have f40 := B4.out.at 0
                    have f41 := B4.out.at 1
                    have f42 := B4.out.at 2
                    have f43 := B4.out.fz
                    go_wp2_with fail
                    refine (HD1.out _).mono ?_
                    rintro e w5 ⟨rfl, rfl⟩
                    go_wp2_with fail
                    refine (HSG.out _).mono ?_
                    rintro e w5 ⟨rfl, rfl⟩
                    have HBW := Lib.hid (bel_setNew (bel_setNew HB4.out (Nat.le_refl _) 0 (.int .i64 4)) (Nat.le_refl _) 2 (.string z))
                    go_wp2_with (at_builtin; refine wpL_append1 rfl _ _ 23 rfl w 32 (.agg #[.int .i64 0, .int .i64 0, .string ⟨#[]⟩]) 3 32 Tryz.underlying23 info_lex rfl (by decide) (by decide) _ acc.length (lexCells acc) rfl ((own_bel HOWN.out HBW.out).alloc _) ⟨w4.heap.size, 0, none⟩ 1 [.int .i64 4, .int .i64 pos, .string z] rfl rfl (cells3_at _ _ (by simp) _ _ _ _) (by simp [Value.oneCell']) (by omega) ((hbel.trans HBW.out).to_alloc _) ?_; intro g2 cp w9 hown9 hb9 hb10; have HOWN9 := Lib.hid hown9; clear hown9)
                    exact ⟨⟨pos + n, b', acc ++ [(4, pos, z)], by go_num, by omega, by simp; omega, hb9, by rw [lexCells_snoc, List.length_append]; exact HOWN9.out, by omega, HLO.out, HST.out⟩, by simp [intOf]; omega⟩
        · rw [if_pos rfl] at hst
          have HST := Lib.hid hst
          have HOWN := Lib.hid hown
          have HOKS := Lib.hid (hspo rfl)
          clear hst hown hlexo hrw hnn hnl hsl hg0 hokp hspo
          go_wp2_with fail
          refine (HSP.out _).mono ?_
          rintro e w3 ⟨rfl, rfl⟩
          go_wp2_with fail
          exact ⟨⟨pos + 1, b', acc, by go_num, hp, by omega, hbel, HOWN.out, by omega, HOKS.out, HST.out⟩, by simp [intOf]; omega⟩
      · have hend := lexF_end s b pos acc hp
        rw [hend] at hsc
        injection hsc with e1 e2
        injection e2 with e2 e3
        have HOWN := Lib.hid hown
        have E1 := Lib.hid e1
        have E2 := Lib.hid e2
        have E3 := Lib.hid e3
        clear hown hend e1 e2 e3 hokp
        go_wp2_with (at_builtin; refine wpL_append1 rfl _ _ 23 rfl w 32 (.agg #[.int .i64 0, .int .i64 0, .string ⟨#[]⟩]) 3 32 Tryz.underlying23 info_lex rfl (by decide) (by decide) _ acc.length (lexCells acc) rfl (HOWN.out.alloc _) ⟨wr.heap.size, 0, none⟩ 1 [.int .i64 5, .int .i64 s.size, .string ⟨#[]⟩] rfl rfl (cells3_new0 _ _ _ _ _) (by simp [Value.oneCell']) (by omega) (hbel.to_alloc _) ?_; intro g2 cp w4 hown4 hb4 hb5; have HOWN4 := Lib.hid hown4; clear hown4)
        go_ret3
        refine ⟨hb4, .slice (some ⟨g2, 0, none⟩) (acc.length + 1) cp, ?_, ?_⟩
        · exact tup3 rfl (int_eq (by rw [E2.out])) (int_eq (by rw [E3.out]; rfl))
        · rw [E1.out, lexCells_snoc, List.length_append]
          exact HOWN4.out
end Go.Proofs.YtjnaikojoemkaaaGreatDoor
