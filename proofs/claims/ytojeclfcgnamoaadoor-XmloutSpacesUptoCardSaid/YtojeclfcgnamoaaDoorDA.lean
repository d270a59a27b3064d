/-
  Trees of XML al trees in Lean, and how they lie in memory.
-/
import Derived.Test.YtojeclfcgnamoaaDoorMB
import Derived.Test.YtojeclfcgnamoaaDoorUCA
namespace Go.Proofs.YtojeclfcgnamoaaDoor
open Go.RowKit

/-- An attribute: its namespace, its name, its value. -/
abbrev Atr := ByteArray × ByteArray × ByteArray
/-- A node: its place, its namespace, its name, its attributes, its children, its text. -/
inductive Nd where
  | mk (t : Int) (sp lo : ByteArray) (al : List Atr) (ks : List Nd) (tx : ByteArray)
def Nd.t : Nd → Int | .mk t _ _ _ _ _ => t
def Nd.sp : Nd → ByteArray | .mk _ sp _ _ _ _ => sp
def Nd.lo : Nd → ByteArray | .mk _ _ lo _ _ _ => lo
def Nd.al : Nd → List Atr | .mk _ _ _ al _ _ => al
def Nd.ks : Nd → List Nd | .mk _ _ _ _ ks _ => ks
def Nd.tx : Nd → ByteArray | .mk _ _ _ _ _ tx => tx
/-- Attributes one behind the other, three cells each. -/
def AsAt (W : World) (b off : Nat) (al : List Atr) : Prop :=
  ∀ j x, al[j]? = some x → W.cell? ⟨b, off + j * 3, none⟩ = some (.string x.1) ∧ W.cell? ⟨b, off + j * 3 + 1, none⟩ = some (.string x.2.1) ∧ W.cell? ⟨b, off + j * 3 + 2, none⟩ = some (.string x.2.2)
theorem AsAt.bel {W W' : World} {b off : Nat} {al : List Atr} (h : AsAt W b off al) (hb : Bel W W') : AsAt W' b off al := fun j x hx => by
  obtain ⟨h0, h1, h2⟩ := h j x hx
  exact ⟨hb.keep h0, hb.keep h1, hb.keep h2⟩
/-- A slice of attributes. -/
def AttrsV (W : World) (v : Value) (al : List Atr) : Prop := ∃ a cap, v = .slice a al.length cap ∧ al.length ≤ cap ∧ (al = [] ∨ ∃ b off, a = some ⟨b, off, none⟩ ∧ b < W.heap.size ∧ AsAt W b off al)
theorem AttrsV.bel {W W' : World} {v : Value} {al : List Atr} (h : AttrsV W v al) (hb : Bel W W') : AttrsV W' v al := by
  obtain ⟨a, cap, h1, h2, h3⟩ := h
  exact ⟨a, cap, h1, h2, h3.imp id fun ⟨b, off, h4, h5, h6⟩ => ⟨b, off, h4, Nat.lt_of_lt_of_le h5 hb.size, h6.bel hb⟩⟩
mutual
/-- The slices of a node's attributes and children. -/
def NdAt (W : World) : Nd → Value → Value → Prop
  | .mk t _ _ al ks _, va, vk => AttrsV W va al ∧ (Lit.int .i64 t).wf = true ∧ ∃ a cap, vk = .slice a ks.length cap ∧ ks.length ≤ cap ∧ (ks = [] ∨ ∃ b off, a = some ⟨b, off, none⟩ ∧ b < W.heap.size ∧ NdsAt W b off ks)
/-- Nodes one behind the other, six cells each. -/
def NdsAt (W : World) (b : Nat) : Nat → List Nd → Prop
  | _, [] => True
  | off, .mk t sp lo al ks tx :: r => (∃ va vk, W.cell? ⟨b, off, none⟩ = some (.int .i64 t) ∧ W.cell? ⟨b, off + 1, none⟩ = some (.string sp) ∧ W.cell? ⟨b, off + 2, none⟩ = some (.string lo) ∧ W.cell? ⟨b, off + 3, none⟩ = some va ∧ W.cell? ⟨b, off + 4, none⟩ = some vk ∧ W.cell? ⟨b, off + 5, none⟩ = some (.string tx) ∧ NdAt W (.mk t sp lo al ks tx) va vk) ∧ NdsAt W b (off + 6) r
end
mutual
theorem NdAt.bel {W W' : World} (hb : Bel W W') : ∀ (e : Nd) {va vk : Value}, NdAt W e va vk → NdAt W' e va vk
  | .mk t sp lo al ks tx, va, vk, h => by
    unfold NdAt at h ⊢
    obtain ⟨h1, hk, a, cap, h2, h3, h4⟩ := h
    refine ⟨h1.bel hb, hk, a, cap, h2, h3, h4.imp id fun ⟨b, off, h5, h6, h7⟩ => ⟨b, off, h5, Nat.lt_of_lt_of_le h6 hb.size, NdsAt.bel hb ks h7⟩⟩
theorem NdsAt.bel {W W' : World} (hb : Bel W W') {b : Nat} : ∀ (l : List Nd) {off : Nat}, NdsAt W b off l → NdsAt W' b off l
  | [], _, _ => by unfold NdsAt; trivial
  | .mk t sp lo al ks tx :: r, off, h => by
    unfold NdsAt at h ⊢
    obtain ⟨⟨va, vk, c0, c1, c2, c3, c4, c5, h1⟩, h2⟩ := h
    exact ⟨⟨va, vk, hb.keep c0, hb.keep c1, hb.keep c2, hb.keep c3, hb.keep c4, hb.keep c5, NdAt.bel hb _ h1⟩, NdsAt.bel hb r h2⟩
end
/-- A node's cells at a place. -/
def NdCells (W : World) (b o : Nat) (e : Nd) (va vk : Value) : Prop :=
  W.cell? ⟨b, o, none⟩ = some (.int .i64 e.t) ∧ W.cell? ⟨b, o + 1, none⟩ = some (.string e.sp) ∧ W.cell? ⟨b, o + 2, none⟩ = some (.string e.lo) ∧ W.cell? ⟨b, o + 3, none⟩ = some va ∧ W.cell? ⟨b, o + 4, none⟩ = some vk ∧ W.cell? ⟨b, o + 5, none⟩ = some (.string e.tx)
theorem NdsAt.get {W : World} {b : Nat} : ∀ {l : List Nd} {off i : Nat} {e : Nd}, NdsAt W b off l → l[i]? = some e → ∃ va vk, NdCells W b (off + i * 6) e va vk ∧ NdAt W e va vk
  | [], _, _, _, _, h => by cases h
  | .mk t sp lo al ks tx :: r, off, 0, e, h, hx => by
    cases hx
    unfold NdsAt at h
    obtain ⟨⟨va, vk, c0, c1, c2, c3, c4, c5, h1⟩, _⟩ := h
    rw [Nat.zero_mul, Nat.add_zero]
    exact ⟨va, vk, ⟨c0, c1, c2, c3, c4, c5⟩, h1⟩
  | .mk t sp lo al ks tx :: r, off, i + 1, e, h, hx => by
    unfold NdsAt at h
    have := NdsAt.get h.2 (show r[i]? = some e from hx)
    rw [show off + (i + 1) * 6 = off + 6 + i * 6 from by omega]
    exact this
theorem NdsAt.of {W : World} {b : Nat} : ∀ (l : List Nd) (off : Nat), (∀ i e, l[i]? = some e → ∃ va vk, NdCells W b (off + i * 6) e va vk ∧ NdAt W e va vk) → NdsAt W b off l
  | [], _, _ => by unfold NdsAt; trivial
  | .mk t sp lo al ks tx :: r, off, h => by
    unfold NdsAt
    refine ⟨?_, NdsAt.of r (off + 6) fun i e he => ?_⟩
    · obtain ⟨va, vk, ⟨c0, c1, c2, c3, c4, c5⟩, h1⟩ := h 0 _ rfl
      rw [Nat.zero_mul, Nat.add_zero] at c0 c1 c2 c3 c4 c5
      exact ⟨va, vk, c0, c1, c2, c3, c4, c5, h1⟩
    · have := h (i + 1) e he
      rw [show off + 6 + i * 6 = off + (i + 1) * 6 from by omega]
      exact this
/-- A node's value. -/
def ndV (e : Nd) (va vk : Value) : Value := .agg #[.int .i64 e.t, .string e.sp, .string e.lo, va, vk, .string e.tx]
def atrSum (al : List Atr) : Nat := (al.map fun x => x.1.size + x.2.1.size + x.2.2.size + 1).sum
/-- How much there is in one. -/
def Nd.bulk : Nd → Nat
  | .mk _ sp lo al ks tx => sp.size + lo.size + tx.size + atrSum al + bulks ks + 1
where bulks : List Nd → Nat
  | [] => 0
  | e :: r => e.bulk + bulks r
theorem nd_bulk (e : Nd) : e.bulk = e.sp.size + e.lo.size + e.tx.size + atrSum e.al + Nd.bulk.bulks e.ks + 1 := by
  obtain ⟨t, sp, lo, al, ks, tx⟩ := e
  rw [Nd.bulk]
  rfl
theorem nbulks_mem {e : Nd} : ∀ {l : List Nd}, e ∈ l → e.bulk ≤ Nd.bulk.bulks l
  | x :: r, h => by
    unfold Nd.bulk.bulks
    rcases List.mem_cons.1 h with rfl | h
    · omega
    · have := nbulks_mem h; omega
theorem nd_pos (e : Nd) : 1 ≤ e.bulk := by rw [nd_bulk]; omega
theorem nbulks_len : ∀ l : List Nd, l.length ≤ Nd.bulk.bulks l
  | [] => Nat.zero_le _
  | x :: r => by
    have := nbulks_len r
    have := nd_pos x
    unfold Nd.bulk.bulks
    rw [List.length_cons]
    omega
theorem atr_len : ∀ l : List Atr, l.length ≤ atrSum l
  | [] => Nat.zero_le _
  | x :: r => by
    have := atr_len r
    unfold atrSum at *
    rw [List.length_cons, List.map_cons, List.sum_cons]
    omega
theorem atr_mem {x : Atr} : ∀ {l : List Atr}, x ∈ l → x.1.size + x.2.1.size + x.2.2.size + 1 ≤ atrSum l
  | y :: r, h => by
    unfold atrSum
    rw [List.map_cons, List.sum_cons]
    rcases List.mem_cons.1 h with rfl | h
    · omega
    · have := atr_mem h; unfold atrSum at this; omega
theorem nbulk_kid {e x : Nd} {i : Nat} (h : e.ks[i]? = some x) : x.bulk < e.bulk := by
  have := nbulks_mem (List.mem_of_getElem? h)
  rw [nd_bulk e]
  omega
/-- The children's cells. -/
def KidsAt (W : World) (a : Option Addr) (l : List Nd) : Prop := ∀ i x, l[i]? = some x → ∃ b off xaa xan xac xka xkn xkc, a = some ⟨b, off, none⟩ ∧
  W.cell? ⟨b, off + i * 6, none⟩ = some (.int .i64 x.t) ∧ W.cell? ⟨b, off + i * 6 + 1, none⟩ = some (.string x.sp) ∧ W.cell? ⟨b, off + i * 6 + 2, none⟩ = some (.string x.lo) ∧ W.cell? ⟨b, off + i * 6 + 3, none⟩ = some (.slice xaa xan xac) ∧
  W.cell? ⟨b, off + i * 6 + 4, none⟩ = some (.slice xka xkn xkc) ∧ W.cell? ⟨b, off + i * 6 + 5, none⟩ = some (.string x.tx) ∧ NdAt W x (.slice xaa xan xac) (.slice xka xkn xkc)
def AtrsAt (W : World) (a : Option Addr) (l : List Atr) : Prop := ∀ i x, l[i]? = some x → ∃ b off, a = some ⟨b, off, none⟩ ∧ W.cell? ⟨b, off + i * 3, none⟩ = some (.string x.1) ∧ W.cell? ⟨b, off + i * 3 + 1, none⟩ = some (.string x.2.1) ∧ W.cell? ⟨b, off + i * 3 + 2, none⟩ = some (.string x.2.2)
theorem NdAt.two {W : World} {e : Nd} {va vk : Value} (h : NdAt W e va vk) : AttrsV W va e.al ∧ ∃ a cap, vk = .slice a e.ks.length cap ∧ e.ks.length ≤ cap ∧ (e.ks = [] ∨ ∃ b off, a = some ⟨b, off, none⟩ ∧ b < W.heap.size ∧ NdsAt W b off e.ks) := by
  obtain ⟨t, sp, lo, al, ks, tx⟩ := e
  unfold NdAt at h
  exact ⟨h.1, h.2.2⟩
theorem NdAt.wf {W : World} {e : Nd} {va vk : Value} (h : NdAt W e va vk) : (Lit.int .i64 e.t).wf = true := by
  obtain ⟨t, sp, lo, al, ks, tx⟩ := e
  unfold NdAt at h
  exact h.2.1
/-- A node's slices, as a walk wants them. -/
theorem NdAt.opened {W : World} {e : Nd} {va vk : Value} (h : NdAt W e va vk) :
    ∃ (aa ka : Option Addr) (an ac kn kc : Nat), va = .slice aa an ac ∧ vk = .slice ka kn kc ∧ e.al.length = an ∧ e.ks.length = kn ∧ an ≤ ac ∧ kn ≤ kc ∧ an < e.bulk ∧ kn < e.bulk ∧ AtrsAt W aa e.al ∧ KidsAt W ka e.ks := by
  obtain ⟨⟨aa, ac, rfl, hac, has⟩, ka, kc, rfl, hkc, hks⟩ := h.two
  have hb := nd_bulk e
  have h1 := atr_len e.al
  have h2 := nbulks_len e.ks
  refine ⟨aa, ka, e.al.length, ac, e.ks.length, kc, rfl, rfl, rfl, rfl, hac, hkc, by omega, by omega, fun j x hx => ?_, fun j x hx => ?_⟩
  · rcases has with h0 | ⟨b, off, ha, _, hc⟩
    · rw [h0] at hx; cases hx
    · exact ⟨b, off, ha, hc j x hx⟩
  · rcases hks with h0 | ⟨b, off, ha, _, hc⟩
    · rw [h0] at hx; cases hx
    · obtain ⟨va, vk, ⟨c0, c1, c2, c3, c4, c5⟩, h1⟩ := hc.get hx
      obtain ⟨⟨xaa, xac, rfl, _⟩, xka, xkc, rfl, _⟩ := h1.two
      exact ⟨b, off, xaa, _, xac, xka, _, xkc, ha, c0, c1, c2, c3, c4, c5, h1⟩
theorem NdAt.make {W : World} {t : Int} {sp lo tx : ByteArray} {al : List Atr} {ks : List Nd} {va vk : Value} (ht : (Lit.int .i64 t).wf = true) (ha : AttrsV W va al) (hk : ∃ a cap, vk = .slice a ks.length cap ∧ ks.length ≤ cap ∧ (ks = [] ∨ ∃ b off, a = some ⟨b, off, none⟩ ∧ b < W.heap.size ∧ NdsAt W b off ks)) : NdAt W (.mk t sp lo al ks tx) va vk := by
  unfold NdAt
  exact ⟨ha, ht, hk⟩
end Go.Proofs.YtojeclfcgnamoaaDoor
