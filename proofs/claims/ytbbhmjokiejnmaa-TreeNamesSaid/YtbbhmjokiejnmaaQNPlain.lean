/- Plain functions on texts: a cut at a byte, the pieces between a byte. No program in sight. -/
import Derived.Lib.Bytealg
import Derived.Lib.Strings
import Derived.Lib.IndexBytes
import Derived.WideShapes
namespace Go.Proofs.Ytbbhmjokiejnmaa
open Go
/-- What strings.Cut gives at a separator of one byte. -/
def cutB (c : UInt8) (s : ByteArray) : ByteArray × ByteArray × Bool :=
  if 0 ≤ Lib.indexByte s.data.toList c then (s.extract 0 (Lib.indexByte s.data.toList c).toNat, s.extract ((Lib.indexByte s.data.toList c).toNat + 1) s.size, true) else (s, ⟨#[]⟩, false)
theorem indexByte_lt (l : List UInt8) (c : UInt8) : Lib.indexByte l c < l.length ∨ Lib.indexByte l c = -1 := by
  induction l with
  | nil => right; rfl
  | cons b l ih =>
    unfold Lib.indexByte
    split
    · left; simp only [List.length_cons]; omega
    · have := Lib.indexByte_ge l c
      split
      · right; rfl
      · rename_i h
        left
        have h' : Lib.indexByte l c ≠ -1 := by simpa using h
        simp; omega
/-- The pieces of a list between c (at least one). -/
def splitL (c : UInt8) : List UInt8 → List (List UInt8)
  | [] => [[]]
  | x :: l => if x = c then [] :: splitL c l else match splitL c l with
    | [] => [[x]]
    | h :: t => (x :: h) :: t
theorem splitL_cons (c x : UInt8) (l : List UInt8) : splitL c (x :: l) = if x = c then [] :: splitL c l else match splitL c l with
    | [] => [[x]]
    | h :: t => (x :: h) :: t := rfl
theorem splitL_ne (c : UInt8) (l : List UInt8) : splitL c l ≠ [] := by
  cases l with
  | nil => simp [splitL]
  | cons x l =>
    unfold splitL
    split
    · simp
    · split <;> simp
theorem splitL_index (c : UInt8) (l : List UInt8) : splitL c l = if 0 ≤ Lib.indexByte l c then l.take (Lib.indexByte l c).toNat :: splitL c (l.drop ((Lib.indexByte l c).toNat + 1)) else [l] := by
  induction l with
  | nil => rfl
  | cons x l ih =>
    rw [splitL_cons]
    unfold Lib.indexByte
    by_cases h : x = c
    · subst h; simp
    · have h' : (x == c) = false := by simpa using h
      rw [if_neg h, h', ih]
      have hge := Lib.indexByte_ge l c
      simp only [Bool.false_eq_true, if_false]
      by_cases h1 : Lib.indexByte l c = -1
      · simp [h1]
      · have h2 : 0 ≤ Lib.indexByte l c := by omega
        have h3 : (Lib.indexByte l c == -1) = false := by simpa using h1
        have h4 : (Lib.indexByte l c + 1).toNat = (Lib.indexByte l c).toNat + 1 := by omega
        rw [if_pos h2, h3]
        simp only [Bool.false_eq_true, if_false]
        rw [if_pos (by omega), h4]
        simp
def mkB (l : List UInt8) : ByteArray := ⟨l.toArray⟩
theorem mkB_data (l : List UInt8) : (mkB l).data.toList = l := by simp [mkB]
theorem mkB_of (s : ByteArray) : mkB s.data.toList = s := WideShapes.bytes_inj (by simp [mkB])
theorem size_len (s : ByteArray) : s.size = s.data.toList.length := Lib.size_eq s
/-- The pieces of a text between c. -/
def splitB (c : UInt8) (s : ByteArray) : List ByteArray := (splitL c s.data.toList).map mkB
theorem splitB_cut (c : UInt8) (s : ByteArray) : splitB c s = (cutB c s).1 :: (if (cutB c s).2.2 then splitB c (cutB c s).2.1 else []) := by
  have hlt := indexByte_lt s.data.toList c
  unfold splitB cutB
  rw [splitL_index]
  split
  · rename_i h
    have e1 : s.extract 0 (Lib.indexByte s.data.toList c).toNat = mkB (s.data.toList.take (Lib.indexByte s.data.toList c).toNat) := WideShapes.bytes_inj (by rw [mkB_data, Lib.extract_data]; simp)
    have e2 : (s.extract ((Lib.indexByte s.data.toList c).toNat + 1) s.size).data.toList = s.data.toList.drop ((Lib.indexByte s.data.toList c).toNat + 1) := Lib.extract_to_end s _
    simp only [List.map_cons, if_true, e1, e2]
  · simp [mkB_of]
theorem cutB_size (c : UInt8) (s : ByteArray) : (cutB c s).1.size ≤ s.size ∧ (cutB c s).2.1.size ≤ s.size ∧ ((cutB c s).2.2 = true → (cutB c s).2.1.size < s.size) := by
  have hlt := indexByte_lt s.data.toList c
  rw [← Lib.size_eq] at hlt
  unfold cutB
  split
  · refine ⟨?_, ?_, fun _ => ?_⟩
    · simp only [ByteArray.size_extract]; omega
    · simp only [ByteArray.size_extract]; omega
    · simp only [ByteArray.size_extract]; omega
  · exact ⟨Nat.le_refl _, Nat.zero_le _, fun h => by cases h⟩
theorem splitB_length (c : UInt8) (s : ByteArray) : (splitB c s).length ≤ s.size + 1 := by
  unfold splitB
  rw [List.length_map, size_len]
  generalize s.data.toList = l
  induction l with
  | nil => simp [splitL]
  | cons x l ih =>
    unfold splitL
    split
    · simp only [List.length_cons]; omega
    · split
      · simp
      · rename_i h; rw [h] at ih; simp only [List.length_cons] at ih ⊢; omega
theorem splitB_ne (c : UInt8) (s : ByteArray) : splitB c s ≠ [] := by unfold splitB; simp [splitL_ne]
/-- The elements of a path: none of the empty one. -/
def elemsB (s : ByteArray) : List ByteArray := if s.data.toList = [] then [] else splitB 47 s
theorem elemsB_length (s : ByteArray) : (elemsB s).length ≤ s.size + 1 := by
  unfold elemsB; split
  · simp
  · exact splitB_length _ _
def oddSigns : List UInt8 := [34, 42, 58, 60, 62, 63, 92, 124, 96]
/-- May a byte stand in a path? -/
def fineB (c : UInt8) : Bool := decide (32 < c.toNat) && decide (c.toNat < 127) && decide (Lib.indexByte oddSigns c < 0)
/-- May an element stand in a path? -/
def elemB (e : ByteArray) : Bool := !(e.toList == []) && decide (e.size ≤ 30) && !(e.toList == [46]) && !(e.toList == [46, 46]) && e.data.toList.all fineB
/-- Is a text a path? -/
def validB (s : ByteArray) : Bool := !(s.toList == []) && decide (s.size ≤ 60) && (elemsB s).all elemB
end Go.Proofs.Ytbbhmjokiejnmaa

