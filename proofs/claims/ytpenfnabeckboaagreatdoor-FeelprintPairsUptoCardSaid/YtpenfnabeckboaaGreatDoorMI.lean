/-
  feellex: the walk of the document's Lex.
  feellex: rows of tokens; the walk of the document's Same.
  feellex: the walk of the law's alive.
-/
import Derived.Test.YtpenfnabeckboaaGreatDoorMH
import Derived.Test.YtpenfnabeckboaaGreatDoorMB
import Derived.BigQuiet
import Derived.Deep.QuietTactic
namespace Go.Proofs.YtpenfnabeckboaaGreatDoor
open Go.RowKit
abbrev Lx := Int × Int × ByteArray
end Go.Proofs.YtpenfnabeckboaaGreatDoor

namespace Go.Proofs.YtpenfnabeckboaaGreatDoor
open Go.RowKit
def t1 : ByteArray := ⟨#[110, 101, 116, 32, 112, 114, 105, 99, 101, 42, 49, 46, 53]⟩
def t2 : ByteArray := ⟨#[91, 49, 46, 46, 53, 93]⟩
def t3 : ByteArray := ⟨#[34, 97]⟩
def t4 : ByteArray := ⟨#[97, 32, 63, 32, 98]⟩
def W1 : List Lx := [(0, 0, ⟨#[110, 101, 116]⟩), (0, 0, ⟨#[112, 114, 105, 99, 101]⟩), (4, 0, ⟨#[42]⟩), (2, 0, ⟨#[49, 46, 53]⟩), (5, 0, ⟨#[]⟩)]
end Go.Proofs.YtpenfnabeckboaaGreatDoor
