/-
  The plain lexer: what the tokens of a text are, on lists of bytes; no program is in sight here.
-/
import Derived.Lib.IndexMore
import Derived.Lib.IndexBytes
namespace Go.Proofs.YthlhicegchkjjaaGreatDoor.Lx
abbrev Bytes := List UInt8
/-- A lower-case letter. -/
def isL (c : UInt8) : Bool := decide (97 ≤ c.toNat) && decide (c.toNat ≤ 122)
/-- A digit. -/
def isD (c : UInt8) : Bool := decide (48 ≤ c.toNat) && decide (c.toNat ≤ 57)
def alnum (c : UInt8) : Bool := isL c || isD c
/-- The reserved words, each between spaces. -/
def resText : Bytes := [32, 116, 121, 112, 101, 32, 115, 101, 99, 114, 101, 116, 32, 112, 117, 98, 108, 105, 99, 32, 114, 97, 110, 100, 111, 109, 32, 118, 97, 114, 32, 104, 97, 116, 99, 104, 32, 102, 117, 110, 99, 32, 114, 101, 116, 117, 114, 110, 32, 98, 101, 103, 105, 110, 32, 101, 110, 100, 32, 98, 111, 111, 108, 32, 105, 110, 116, 32, 97, 114, 114, 97, 121, 32, 111, 102, 32, 114, 101, 99, 111, 114, 100, 32, 116, 114, 117, 101, 32, 102, 97, 108, 115, 101, 32, 99, 97, 108, 108, 32, 114, 101, 108, 101, 97, 115, 101, 32, 111, 117, 116, 112, 117, 116, 32, 119, 97, 105, 116, 32, 105, 102, 32, 101, 108, 115, 101, 32, 119, 104, 105, 108, 101, 32, 108, 105, 109, 105, 116, 32, 102, 111, 114, 32, 116, 111, 32, 115, 101, 116, 116, 108, 101, 32, 109, 105, 110, 32, 109, 97, 120, 32]
/-- Is a text a reserved word? -/
def isRes (w : Bytes) : Bool := !w.isEmpty && (!decide (0 ≤ Lib.indexByte w 32) && Lib.contains resText (32 :: (w ++ [32])))
structure Tok where
  kind : Nat
  text : Bytes
  at_ : Nat
  deriving DecidableEq
def cons (t : Tok) (r : List Tok × Option (Nat × Nat)) : List Tok × Option (Nat × Nat) := (t :: r.1, r.2)
def isWordB (l : Bytes) : Bool := match l with | [] => false | c :: _ => isL c && l.all alnum
def isNameB (l : Bytes) : Bool := decide (l.length ≤ 12) && (isWordB l && !isRes l)
end Go.Proofs.YthlhicegchkjjaaGreatDoor.Lx
