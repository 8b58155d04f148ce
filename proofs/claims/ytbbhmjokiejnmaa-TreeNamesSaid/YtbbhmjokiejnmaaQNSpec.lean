/- Plain functions over files: what package tree does with a list of files. No program in sight. -/
import Derived.Test.YtbbhmjokiejnmaaQNPlain
import Derived.Test.YtbbhmjokiejnmaaQNPre
import Derived.Test.YtbbhmjokiejnmaaQNHy0
namespace Go.Proofs.Ytbbhmjokiejnmaa
open Go Go.Proofs.Ytbbhmjokiejnmaa.Hy
abbrev File := S29
abbrev zFile := z29
/-- The file at a place. -/
def fileAt (l : List File) (i : Nat) : File := l.getD i zFile
/-- The order of two texts. -/
def cmpB (a b : ByteArray) : Int := if Op.bytesLess a.toList b.toList then -1 else if Op.bytesLess b.toList a.toList then 1 else 0
/-- The order of two lists of texts. -/
def cmpL : List ByteArray → List ByteArray → Int
  | [], [] => 0
  | [], _ :: _ => -1
  | _ :: _, [] => 1
  | a :: x, b :: y => if cmpB a b = 0 then cmpL x y else cmpB a b
/-- The order of two paths. -/
def cmpP (a b : ByteArray) : Int := cmpL (elemsB a) (elemsB b)
/-- The binary search for a key, from i up to j. -/
def bsL (l : List File) (k : ByteArray) : Nat → Nat → Nat → Nat
  | 0, i, _ => i
  | n + 1, i, j => if i < j then (if cmpP (fileAt l ((i + j) / 2)).f0 k < 0 then bsL l k n ((i + j) / 2 + 1) j else bsL l k n i ((i + j) / 2)) else i
def atI (l : List File) (k : ByteArray) : Nat := bsL l k l.length 0 l.length
def atF (l : List File) (k : ByteArray) : Bool := decide (atI l k < l.length) && cmpP (fileAt l (atI l k)).f0 k == 0
/-- The paths are short enough for the walks. -/
def shortAll (l : List File) : Bool := decide (l.length ≤ 1048576) && l.all fun x => decide (x.f0.size ≤ 1048576)
/-- What of a text lies within a directory. -/
def withinB (s dir : ByteArray) : ByteArray × Bool :=
  if dir.data.toList = [] ∨ dir.data.toList = [46] then (s, true) else if s.data.toList = dir.data.toList then (⟨#[]⟩, true)
  else if (dir.data.toList ++ [47]).isPrefixOf s.data.toList = true then (s.extract (dir.size + 1) s.size, true) else (⟨#[]⟩, false)
/-- Is a path within another one, and not it? -/
def insideB (p dir : ByteArray) : Bool := (withinB p dir).2 && !(withinB p dir).1.toList.isEmpty
/-- The last place of a byte. -/
def lastIx (c : UInt8) : List UInt8 → Int
  | [] => -1
  | x :: l => if 0 ≤ lastIx c l then lastIx c l + 1 else if x = c then 0 else -1
/-- The directory of a path: what stands ahead of the last slash. -/
def dirB (p : ByteArray) : ByteArray := if 0 ≤ lastIx 47 p.data.toList then p.extract 0 (lastIx 47 p.data.toList).toNat else ⟨#[]⟩
def baseB (p : ByteArray) : ByteArray := if 0 ≤ lastIx 47 p.data.toList then p.extract ((lastIx 47 p.data.toList).toNat + 1) p.size else p
/-- Is one of the directories above a path there? -/
def aboveF (l : List File) : Nat → ByteArray → Bool
  | 0, _ => false
  | n + 1, d => if d.data.toList = [] then false else if atF l d then true else aboveF l n (dirB d)
/-- May a path stand beside those that are there? -/
def fitsF (l : List File) (p : ByteArray) : Bool :=
  let i := if atF l p then atI l p + 1 else atI l p
  !(decide (i < l.length) && insideB (fileAt l i).f0 p) && !aboveF l (p.size + 1) (dirB p)
/-- A file put in its place. -/
def putF (l : List File) (x : File) : List File := if atF l x.f0 then l.set (atI l x.f0) x else l.take (atI l x.f0) ++ x :: l.drop (atI l x.f0)
def tree_Put.f (l0 : List File) (a1_0 a1_1 : ByteArray) : Option (List File × Int) :=
  if shortAll l0 = true then
    if validB a1_0 = true then
      if 4000 < a1_1.size then some ([], 2) else
      if fitsF l0 a1_0 = true then (if 60 < (putF l0 ⟨a1_0, a1_1⟩).length then some ([], 2) else some (putF l0 ⟨a1_0, a1_1⟩, 0)) else some ([], 4)
    else some ([], 10)
  else none
end Go.Proofs.Ytbbhmjokiejnmaa

