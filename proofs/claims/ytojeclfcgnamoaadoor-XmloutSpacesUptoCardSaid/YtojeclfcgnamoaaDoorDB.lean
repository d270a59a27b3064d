/-
  xmlout: what is wrong with a tree; its attributes in order; its prefixes; its bytes (plain).
-/
import Derived.Test.YtojeclfcgnamoaaDoorDA
namespace Go.Proofs.YtojeclfcgnamoaaDoor

def fineS (s : ByteArray) : Bool := !decide (chkS s < s.size)
/-- "http://www.w3.org/2000/xmlns/" -/
def nsX : ByteArray := ⟨#[104, 116, 116, 112, 58, 47, 47, 119, 119, 119, 46, 119, 51, 46, 111, 114, 103, 47, 50, 48, 48, 48, 47, 120, 109, 108, 110, 115, 47]⟩
/-- "xmlns" -/
def nmX : ByteArray := ⟨#[120, 109, 108, 110, 115]⟩
/-- "http://www.w3.org/XML/1998/namespace" -/
def spX : ByteArray := ⟨#[104, 116, 116, 112, 58, 47, 47, 119, 119, 119, 46, 119, 51, 46, 111, 114, 103, 47, 88, 77, 76, 47, 49, 57, 57, 56, 47, 110, 97, 109, 101, 115, 112, 97, 99, 101]⟩
/-- "https://www.omg.org/spec/DMN/20211108/MODEL/" -/
def uriX : ByteArray := ⟨#[104, 116, 116, 112, 115, 58, 47, 47, 119, 119, 119, 46, 111, 109, 103, 46, 111, 114, 103, 47, 115, 112, 101, 99, 47, 68, 77, 78, 47, 50, 48, 50, 49, 49, 49, 48, 56, 47, 77, 79, 68, 69, 76, 47]⟩
/-- What is wrong with a name. -/
def namedS (sp lo : ByteArray) (attr : Bool) : Nat := if plainS lo = false then 6 else if attr = true ∧ sp = ⟨#[]⟩ ∧ lo = nmX then 2 else if sp = nsX ∨ fineS sp = false then 7 else 0
def hasN (l : List (ByteArray × ByteArray)) (a b : ByteArray) : Bool := l.any fun y => decide (y.1 = a) && decide (y.2 = b)
theorem hasN_iff (l : List (ByteArray × ByteArray)) (a b : ByteArray) : hasN l a b = true ↔ (a, b) ∈ l := by
  unfold hasN
  rw [List.any_eq_true]
  constructor
  · rintro ⟨⟨x, y⟩, h1, h2⟩
    simp only [Bool.and_eq_true, decide_eq_true_eq] at h2
    obtain ⟨rfl, rfl⟩ := h2
    exact h1
  · intro h
    exact ⟨_, h, by simp⟩
/-- What is wrong with attributes, behind some names. -/
def attrsS : List (ByteArray × ByteArray) → List Atr → Nat
  | _, [] => 0
  | seen, x :: r => if namedS x.1 x.2.1 true ≠ 0 then namedS x.1 x.2.1 true else if hasN seen x.1 x.2.1 = true then 8 else if fineS x.2.2 = false then 4 else attrsS (seen ++ [(x.1, x.2.1)]) r
def textS6 (sp tx : ByteArray) (an kn : Nat) : Nat := if tx = ⟨#[]⟩ ∨ 0 < an ∨ 0 < kn ∨ sp ≠ ⟨#[]⟩ then 2 else if fineS tx = false then 4 else 0
def elemS (sp lo tx : ByteArray) (al : List Atr) : Nat := if tx ≠ ⟨#[]⟩ then 2 else if namedS sp lo false ≠ 0 then namedS sp lo false else attrsS [] al
mutual
/-- What is wrong with a node, so deep, that may be a text, or not. -/
def chkN : Nd → Nat → Bool → Nat
  | .mk _ sp lo al ks tx, deep, may => if 200 < deep ∧ lo ≠ ⟨#[]⟩ then 9 else if lo = ⟨#[]⟩ then (if may = false then 2 else textS6 sp tx al.length ks.length)
    else if elemS sp lo tx al ≠ 0 then elemS sp lo tx al else chksN ks (deep + 1) true
def chksN : List Nd → Nat → Bool → Nat
  | [], _, _ => 0
  | x :: r, deep, may => if chkN x deep may ≠ 0 then chkN x deep may else chksN r deep (decide (x.lo ≠ ⟨#[]⟩))
end
def CheckN (n : Nd) : Nat := chkN n 1 false
theorem chkN_eq (n : Nd) (deep : Nat) (may : Bool) : chkN n deep may = if 200 < deep ∧ n.lo ≠ ⟨#[]⟩ then 9 else if n.lo = ⟨#[]⟩ then (if may = false then 2 else textS6 n.sp n.tx n.al.length n.ks.length)
    else if elemS n.sp n.lo n.tx n.al ≠ 0 then elemS n.sp n.lo n.tx n.al else chksN n.ks (deep + 1) true := by
  obtain ⟨t, sp, lo, al, ks, tx⟩ := n
  rw [chkN]
  rfl
theorem chksN_nil (deep : Nat) (may : Bool) : chksN [] deep may = 0 := by rw [chksN]
theorem chksN_cons (x : Nd) (r : List Nd) (deep : Nat) (may : Bool) : chksN (x :: r) deep may = if chkN x deep may ≠ 0 then chkN x deep may else chksN r deep (decide (x.lo ≠ ⟨#[]⟩)) := by rw [chksN]
theorem namedS_le (sp lo : ByteArray) (b : Bool) : namedS sp lo b ≤ 9 := by unfold namedS; split <;> (try split) <;> (try split) <;> omega
theorem attrsS_le : ∀ (al : List Atr) (seen : List (ByteArray × ByteArray)), attrsS seen al ≤ 9
  | [], _ => by unfold attrsS; omega
  | x :: r, seen => by
    unfold attrsS
    have h1 := namedS_le x.1 x.2.1 true
    have h2 := attrsS_le r (seen ++ [(x.1, x.2.1)])
    split
    · exact h1
    · split
      · omega
      · split
        · omega
        · exact h2
theorem elemS_le (sp lo tx : ByteArray) (al : List Atr) : elemS sp lo tx al ≤ 9 := by
  unfold elemS
  have := namedS_le sp lo false
  have := attrsS_le al []
  split <;> (try split) <;> omega
theorem textS6_le (sp tx : ByteArray) (a k : Nat) : textS6 sp tx a k ≤ 9 := by unfold textS6; split <;> (try split) <;> omega
mutual
theorem chkN_le : ∀ (n : Nd) (deep : Nat) (may : Bool), chkN n deep may ≤ 9
  | .mk t sp lo al ks tx, deep, may => by
    rw [chkN]
    have := elemS_le sp lo tx al
    have := textS6_le sp tx al.length ks.length
    have := chksN_le ks (deep + 1) true
    split <;> (try split) <;> (try split) <;> omega
theorem chksN_le : ∀ (l : List Nd) (deep : Nat) (may : Bool), chksN l deep may ≤ 9
  | [], _, _ => by rw [chksN]; omega
  | x :: r, deep, may => by
    rw [chksN]
    have := chkN_le x deep may
    have := chksN_le r deep (decide (x.lo ≠ ⟨#[]⟩))
    split <;> omega
end
theorem CheckN_le (n : Nd) : CheckN n ≤ 9 := chkN_le n 1 false

/-! Attributes in order. -/
def ltB6 (a b : ByteArray) : Bool := decide (a.data.toList < b.data.toList)
def ltA (x y : Atr) : Bool := ltB6 x.1 y.1 || (decide (x.1 = y.1) && ltB6 x.2.1 y.2.1)
def sortA (al : List Atr) : List Atr := al.mergeSort fun x y => !ltA y x
def nmA (x : Atr) : ByteArray × ByteArray := (x.1, x.2.1)
mutual
def sortN : Nd → Nd
  | .mk t sp lo al ks tx => .mk t sp lo (sortA al) (sortsN ks) tx
def sortsN : List Nd → List Nd
  | [] => []
  | x :: r => sortN x :: sortsN r
end
theorem sortsN_map : ∀ l : List Nd, sortsN l = l.map sortN
  | [] => by rw [sortsN]; rfl
  | x :: r => by rw [sortsN, sortsN_map r]; rfl

/-! Prefixes. -/
abbrev Pr6 := ByteArray × ByteArray
def dmnX : ByteArray := ⟨#[100, 109, 110]⟩
def xmlX : ByteArray := ⟨#[120, 109, 108]⟩
/-- A number's text. -/
def decL : Nat → Nat → List UInt8
  | 0, _ => []
  | f + 1, n => if n = 0 then [] else decL f (n / 10) ++ [UInt8.ofNat (48 + n % 10)]
def decB (n : Nat) : List UInt8 := decL (n + 1) n
def othersP (l : List Pr6) : Nat := l.countP fun p => !(decide (p.1 = dmnX)) && !(decide (p.1 = xmlX))
def freshP (l : List Pr6) (s : ByteArray) : ByteArray := if s = uriX then dmnX else if s = spX then xmlX else ⟨(110 :: decB (othersP l + 1)).toArray⟩
def hasS (l : List Pr6) (s : ByteArray) : Bool := l.any fun p => decide (p.2 = s)
def meetP (l : List Pr6) (s : ByteArray) : List Pr6 := if s = ⟨#[]⟩ ∨ hasS l s = true then l else l ++ [(freshP l s, s)]
def meetsP (l : List Pr6) (al : List Atr) : List Pr6 := al.foldl (fun l a => meetP l a.1) l
mutual
def metN : List Pr6 → Nd → List Pr6
  | l, .mk _ sp _ al ks _ => metsN (meetsP (meetP l sp) al) ks
def metsN : List Pr6 → List Nd → List Pr6
  | l, [] => l
  | l, x :: r => metsN (metN l x) r
end
def PrefN (n : Nd) : List Pr6 := metN [] (sortN n)

/-! Bytes. -/
def escC (value : Bool) (c : UInt8) : List UInt8 :=
  if c = 38 then [38, 97, 109, 112, 59] else if c = 60 then [38, 108, 116, 59] else if c = 62 then [38, 103, 116, 59] else if c = 13 then [38, 35, 49, 51, 59]
  else if value = true ∧ c = 34 then [38, 113, 117, 111, 116, 59] else if value = true ∧ c = 9 then [38, 35, 57, 59] else if value = true ∧ c = 10 then [38, 35, 49, 48, 59] else [c]
def escL (value : Bool) (s : ByteArray) : List UInt8 := s.data.toList.flatMap (escC value)
def nameL (l : List Pr6) (sp lo : ByteArray) : List UInt8 := match l.find? fun p => decide (p.2 = sp) with
  | some p => p.1.data.toList ++ (58 :: lo.data.toList)
  | none => lo.data.toList
def valL (v : ByteArray) : List UInt8 := [61, 34] ++ (escL true v ++ [34])
/-- The namespaces of the whole. -/
def spcL (l : List Pr6) : List UInt8 := l.flatMap fun p => if p.2 = spX then [] else [32, 120, 109, 108, 110, 115, 58] ++ (p.1.data.toList ++ valL p.2)
def atsL (l : List Pr6) (al : List Atr) : List UInt8 := al.flatMap fun a => 32 :: (nameL l a.1 a.2.1 ++ valL a.2.2)
mutual
def wrN (l : List Pr6) (whole : Bool) : Nd → List UInt8
  | .mk _ sp lo al ks tx => if lo = ⟨#[]⟩ then escL false tx else 60 :: (nameL l sp lo ++ ((if whole = true then spcL l else []) ++ (atsL l al ++ (if ks = [] then [47, 62] else 62 :: (wrsN l ks ++ ([60, 47] ++ (nameL l sp lo ++ [62])))))))
def wrsN (l : List Pr6) : List Nd → List UInt8
  | [] => []
  | x :: r => wrN l false x ++ wrsN l r
end
def WriteN (n : Nd) : ByteArray := ⟨(wrN (PrefN n) true (sortN n)).toArray⟩
end Go.Proofs.YtojeclfcgnamoaaDoor
