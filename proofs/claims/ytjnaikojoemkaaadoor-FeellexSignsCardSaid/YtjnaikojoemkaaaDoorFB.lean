/-
  feellex: the sign that a text begins with.
-/
import Derived.Test.YtjnaikojoemkaaaDoorFA
import Derived.Deep.MidRow
namespace Go.Proofs.YtjnaikojoemkaaaDoor
open Go.RowKit

/-- The signs, as the program lists them. -/
def signsL : List (List UInt8) := [[42, 42], [60, 61], [62, 61], [33, 61], [46, 46], [43], [45], [42], [47], [60], [62], [61], [40], [41], [91], [93], [123], [125], [44], [58], [46]]
def signsV : List Value := signsL.map fun l => .string ⟨l.toArray⟩
/-- The program's list lies in memory. -/
def SignsAt (w : World) : Prop := w.rangeAt 0 0 signsV
def signIn (s : ByteArray) : List (List UInt8) → List UInt8
  | [] => []
  | x :: l => if Lib.hasPrefix s.data.toList x = true then x else signIn s l
def signS (s : ByteArray) : ByteArray := ⟨(signIn s signsL).toArray⟩

theorem sign_hit (s : ByteArray) (k : Nat) (h : k < signsL.length) (hp : Lib.hasPrefix s.data.toList signsL[k] = true) : signIn s (signsL.drop k) = signsL[k] := by
  rw [List.drop_eq_getElem_cons h, signIn, if_pos hp]
theorem sign_miss (s : ByteArray) (k : Nat) (h : k < signsL.length) (hp : Lib.hasPrefix s.data.toList signsL[k] = false) : signIn s (signsL.drop k) = signIn s (signsL.drop (k + 1)) := by
  rw [List.drop_eq_getElem_cons h, signIn, if_neg (by rw [hp]; simp)]

theorem index_strs (T : TypeId) (n : Nat) (hu : Tryd.prog.underlying T = some (.array n 9)) (w : World) (cs : Array Value) (k : Nat) (hk : k < n) (x : Value) (hx : cs[k]? = some x) :
    (Instr.index T (.agg cs) (.int .i64 (k : Int))).run Tryd.prog w = .ok x w := by
  have h1 : (0 : Int) ≤ k ∧ (k : Int) < n := by omega
  have h2 : (sizeOf 9).run Tryd.prog w = .ok 1 w := by kernel_rfl
  have h3 : (isAgg 9).run Tryd.prog w = .ok false w := by kernel_rfl
  simp only [Instr.index, asIntOf, Sem.run_bind, Sem.run_pure, Result.andThen_ok, run_underlying hu, if_pos h1, h2, part, h3, Int.toNat_natCast, Nat.mul_one]
  simp [hx]

set_option maxRecDepth 100000 in
set_option maxHeartbeats 4000000 in
theorem sign_c (s : ByteArray) (w : World) (hw : SignsAt w) :
    Calls Tryd.prog 22 #[.string s] w fun e w' => e = .returned (.string (signS s)) ∧ w = w' := by
  have hpre := fun x w1 => Tryd.strings_HasPrefix s x w1
  have hidx := fun w1 k (hk : k < 21) x hx => index_strs 65 21 Tryd.underlying65 w1 signsV.toArray k hk x hx
  have HPRE := Lib.hid hpre
  have HIDX := Lib.hid hidx
  have HL : Hid (signsL.length = 21) := Lib.hid rfl
  clear hpre hidx
  obtain ⟨V, hV⟩ : ∃ V, signsV = V := ⟨_, rfl⟩
  rw [hV] at HIDX
  unfold SignsAt at hw
  rw [hV] at hw
  have hVl : V.length = 21 := by rw [← hV]; rfl
  have HW := Lib.hid hw
  have HV := Lib.hid hV
  have HVL := Lib.hid hVl
  clear hw hV hVl
  go_enter Tryd.func22, Tryd.ntmps22
  go_wp2_with (refine wpList_load_mid rfl 65 _ rfl 0 0 rfl V _ HW.out Tryd.underlying65 rfl (by rw [HVL.out]; kernel_rfl) ?_)
  go_loopw [6] (fun i wr => ∃ k : Nat, k ≤ 21 ∧ i = .int .i64 k ∧ w = wr ∧ signIn s (signsL.drop k) = signIn s signsL) (fun i _ => 21 - (intOf i).toNat)
  case atStart => exact ⟨0, by omega, rfl, rfl, rfl⟩
  case round =>
    obtain ⟨k, hk, rfl, rfl, hs⟩ := hrel
    by_cases hk2 : k < 21
    · have hki : (k : Int) < 21 := by omega
      have hkl : k < signsL.length := by rw [HL.out]; exact hk2
      obtain ⟨x, hx⟩ : ∃ x : ByteArray, ⟨signsL[k].toArray⟩ = x := ⟨_, rfl⟩
      have hvx : V.toArray[k]? = some (.string x) := by
        rw [← hx, ← HV.out]; simp [signsV, hkl]
      have hix := HIDX.out w k hk2 _ hvx
      have hpr := HPRE.out x w
      have hxl : x.data.toList = signsL[k] := by rw [← hx]
      obtain ⟨G, hG⟩ : ∃ G, Lib.hasPrefix s.data.toList x.data.toList = G := ⟨_, rfl⟩
      rw [hG] at hpr
      have HX := Lib.hid hx
      have HPR := Lib.hid hpr
      have HG := Lib.hid hG
      have HXL := Lib.hid hxl
      have HS := Lib.hid hs
      have HKL : Hid (k < signsL.length) := Lib.hid hkl
      clear hx hpr hG hxl hs hvx
      cases G
      · go_wp2_with fail
        refine HPR.out.mono ?_
        rintro e w1 ⟨rfl, rfl⟩
        go_wp2_with fail
        refine ⟨⟨k + 1, by omega, by go_num, trivial, ?_⟩, by simp [intOf]; omega⟩
        rw [← HS.out, sign_miss s k hkl (by rw [← HXL.out]; exact HG.out)]
      · go_wp2_with fail
        refine HPR.out.mono ?_
        rintro e w1 ⟨rfl, rfl⟩
        go_wp2_with fail
        go_ret
        refine ⟨?_, rfl⟩
        rw [sign_hit s k hkl (by rw [← HXL.out]; exact HG.out)] at HS
        show Ending.returned (.string x) = _
        rw [signS, ← HS.out, HX.out]
    · obtain rfl : k = 21 := by omega
      go_wp2_with fail
      go_ret
      refine ⟨?_, rfl⟩
      rw [signS, ← hs]
      rfl
end Go.Proofs.YtjnaikojoemkaaaDoor
