/-
  feellex: what a \ and what stands behind it tell.
-/
import Derived.Test.YtjnaikojoemkaaaDoorFF
import Derived.Deep.RegionHeld3
import Derived.Maps.OwnOps
namespace Go.Proofs.YtjnaikojoemkaaaDoor
open Go.RowKit Go.Maps Go.WideMaps

def escV (c : UInt8) : Option UInt8 := if c = 34 then some 34 else if c = 92 then some 92 else if c = 110 then some 10 else if c = 114 then some 13 else if c = 116 then some 9 else none
def putB (c : Int) : ByteArray := ⟨((putI c).map fun x => x.toNat.toUInt8).toArray⟩
/-- What a text that begins with \ tells, and how many bytes it has. -/
def escS (t : ByteArray) : ByteArray × Nat :=
  if t.size < 2 then (⟨#[]⟩, 0) else
    match escV (t.get! 1) with
    | some c => (⟨#[c]⟩, 2)
    | none => if t.get! 1 = 117 ∧ 6 ≤ t.size ∧ (t.extract 2 6).data.toList.all hexC = true then
        if fineC (hexN (t.extract 2 6).data.toList) = true then (putB (hexN (t.extract 2 6).data.toList), 6) else (⟨#[]⟩, 0)
      else (⟨#[]⟩, 0)

theorem esc_all : ((List.range 256).all fun i => (match escD.atKey (.int .u8 (i : Nat)) (.lit (.int .u8 0)) with | .lit (.int .u8 n) => n == (((escV i.toUInt8).getD 0).toNat : Int) | _ => false) && Maps.has escD (.int .u8 (i : Nat)) == (escV i.toUInt8).isSome) = true := by decide +kernel
theorem esc_at (c : UInt8) (k : Int) (h : escD.atKey (.int .u8 c.toNat) (.lit (.int .u8 0)) = .lit (.int .u8 k)) : k = ((escV c).getD 0).toNat := by
  have h1 := List.all_eq_true.1 esc_all c.toNat (List.mem_range.2 c.toNat_lt)
  rw [show c.toNat.toUInt8 = c from by simp, Bool.and_eq_true] at h1
  have h2 := h1.1
  rw [h] at h2
  simpa using h2
theorem esc_has (c : UInt8) : Maps.has escD (.int .u8 c.toNat) = (escV c).isSome := by
  have h1 := List.all_eq_true.1 esc_all c.toNat (List.mem_range.2 c.toNat_lt)
  rw [show c.toNat.toUInt8 = c from by simp, Bool.and_eq_true] at h1
  simpa using h1.2

theorem esc_look (c : UInt8) (w : World) :
    Calls Tryd.prog 46 #[] w fun e w' => e = .returned (.map (some w.heap.size)) ∧ (Instr.lookup 84 (.map (some w.heap.size)) (.int .u8 c.toNat) true).run Tryd.prog w' = .ok (.tuple #[.int .u8 ((escV c).getD 0).toNat, .bool (escV c).isSome]) w' ∧ Bel w w' := by
  refine (escapes_c w).mono ?_
  rintro e w' ⟨rfl, hm, hb⟩
  have hz : (zeroValue 5).run Tryd.prog w' = .ok (.int .u8 0) w' := by kernel_rfl
  obtain ⟨v, ps, hrun, hv⟩ := hm.look_ok (int_keyed Tryd.underlying5) Tryd.underlying84 hz (plainElem_int Tryd.underlying5 (by decide)) (keyOf_int_mk Tryd.underlying5 (a := (c.toNat : Int)) (by have := c.toNat_lt; simp [Lit.wf, IntKind.min, IntKind.max, IntKind.bits, IntKind.signed]; omega))
  obtain ⟨k, rfl, hk, _⟩ := plainElem_int_inv Tryd.underlying5 hv
  have := esc_at c k (congrArg Prod.fst hk)
  rw [this, esc_has] at hrun
  exact ⟨rfl, hrun, hb⟩

def hxS : List UInt8 := [48, 49, 50, 51, 52, 53, 54, 55, 56, 57, 97, 98, 99, 100, 101, 102, 65, 66, 67, 68, 69, 70]
theorem hx_all : ((List.range 256).all fun i => hxS.contains i.toUInt8 == hexC i.toUInt8) = true := by decide +kernel
theorem hx_hexC (c : UInt8) : hxS.contains c = hexC c := by
  have h1 := List.all_eq_true.1 hx_all c.toNat (List.mem_range.2 c.toNat_lt)
  rw [show c.toNat.toUInt8 = c from by simp] at h1
  simpa using h1
theorem dropW_nil {α : Type} (p : α → Bool) : ∀ l : List α, l.dropWhile p = [] ↔ ∀ x ∈ l, p x = true
  | [] => by simp
  | x :: l => by
    rw [List.dropWhile_cons]
    split
    · rename_i h
      rw [dropW_nil p l]
      simp [h]
    · rename_i h
      simp [h]
theorem dropW_idem {α : Type} (p : α → Bool) : ∀ l : List α, (l.dropWhile p).dropWhile p = l.dropWhile p
  | [] => rfl
  | x :: l => by
    rw [List.dropWhile_cons]
    split
    · exact dropW_idem p l
    · rename_i h; rw [List.dropWhile_cons, if_neg h]
theorem trim_hex (l : List UInt8) : (Lib.trimS l hxS).isEmpty = l.all hexC := by
  have hp : (fun x => hxS.contains x) = hexC := funext hx_hexC
  unfold Lib.trimS Lib.trimLeftS Lib.trimRightS
  rw [hp]
  cases h : l.all hexC with
  | true =>
    have h1 : l.reverse.dropWhile hexC = [] := (dropW_nil _ _).2 fun x hx => List.all_eq_true.1 h x (List.mem_reverse.1 hx)
    rw [h1]; rfl
  | false =>
    cases hd : ((l.reverse.dropWhile hexC).reverse.dropWhile hexC) with
    | cons x m => rfl
    | nil =>
      exfalso
      have h2 := (dropW_nil _ _).1 hd
      have h3 : (l.reverse.dropWhile hexC).dropWhile hexC = [] := (dropW_nil _ _).2 fun x hx => h2 x (List.mem_reverse.2 hx)
      rw [dropW_idem] at h3
      have h4 := (dropW_nil _ _).1 h3
      rw [List.all_eq_true.2 fun x hx => h4 x (List.mem_reverse.2 hx)] at h
      cases h
theorem one_byte_f (W : World) (n : Int) (q : UInt8) (h : n = q.toNat) :
    (convert 39 9 (.slice (some ⟨W.heap.size, 0, none⟩) 1 1)).run Tryd.prog (W.alloc (.cells #[.int .u8 n] 5)) = .ok (.string ⟨#[q]⟩) (W.alloc (.cells #[.int .u8 n] 5)) := by
  have := run_convert_bytes_back (P := Tryd.prog) (W.alloc (.cells #[.int .u8 n] 5)) 39 9 5 ⟨W.heap.size, 0, none⟩ 1 [q] Tryd.underlying39 Tryd.underlying5 Tryd.underlying9 (fun j hj => by
    obtain rfl : j = 0 := by simpa using hj
    rw [show (⟨W.heap.size, 0, none⟩ : Addr).add 0 = ⟨W.heap.size, 0, none⟩ from by simp [Addr.add]]
    simp [h])
  exact this
/-- 'string(b)' of a row of a character's bytes. -/
theorem row_string (W : World) (v : Value) (c : Int) (h : fineC c = true) (hv : RowAt W v (u8s (putI c))) : (convert 39 9 v).run Tryd.prog W = .ok (.string (putB c)) W := by
  obtain ⟨b, off, cap, rfl, hcap, hlt, hc⟩ := hv
  have hb : ∀ x ∈ putI c, 0 ≤ x ∧ x < 256 := by
    have hf : c = 9 ∨ c = 10 ∨ c = 13 ∨ 32 ≤ c ∧ c ≤ 55295 ∨ 57344 ≤ c ∧ c ≤ 65533 ∨ 65536 ≤ c ∧ c ≤ 1114111 := of_decide_eq_true h
    intro x hx
    unfold putI at hx
    split at hx
    · obtain rfl := List.mem_singleton.1 hx; omega
    · split at hx
      · simp only [List.mem_cons, List.not_mem_nil, or_false] at hx; omega
      · split at hx
        · simp only [List.mem_cons, List.not_mem_nil, or_false] at hx; omega
        · simp only [List.mem_cons, List.not_mem_nil, or_false] at hx; omega
  have hl : (u8s (putI c)).length = ((putI c).map fun x => x.toNat.toUInt8).length := by simp [u8s]
  rw [hl]
  refine run_convert_bytes_back (P := Tryd.prog) W 39 9 5 ⟨b, off, none⟩ cap _ Tryd.underlying39 Tryd.underlying5 Tryd.underlying9 fun j hj => ?_
  have hj2 : j < (putI c).length := by simpa using hj
  rw [show (⟨b, off, none⟩ : Addr).add j = ⟨b, off + j, none⟩ from by unfold Addr.add; split <;> simp_all, hc j (by rw [hl]; exact hj)]
  have := hb _ (List.getElem_mem hj2)
  simp [u8s]
  omega
end Go.Proofs.YtjnaikojoemkaaaDoor
