/- Small functions of package strings at separators of one byte: what each returns. -/
import Derived.Test.YtbbhmjokiejnmaaProg
import Derived.Test.YtbbhmjokiejnmaaQNPlain
import Derived.WalkKit
import Derived.Deep.Draws
import Derived.Lib.Bytealg
import Derived.Lib.Strings
import Derived.Lib.IndexMore
import Derived.Lib.CutLaws
import Derived.Lib.Hide
import Derived.RegionTactic
namespace Go.Proofs.Ytbbhmjokiejnmaa
open Go Go.RowKit
set_option maxHeartbeats 400000 in
set_option maxRecDepth 100000 in
theorem strlite_IndexByte (s : ByteArray) (c : Int) (w : World) :
    Calls Try.prog 105 #[.string s, .int .u8 c] w fun e w' => e = .returned (.int .i64 (Lib.indexByte s.data.toList c.toNat.toUInt8)) ∧ w = w' := by
  go_enter Try.func105, Try.ntmps105
  go_wp2_with fail
  rw [run_callFunc_extern Try.func112 (by kernel_rfl) (by kernel_rfl) (by kernel_rfl) (e := Extern.BytealgIndexByte.indexByte) (by kernel_rfl), Lib.run_indexByteString]
  simp only [Result.andThen]
  rw [Oper.upon_value]
  go_wp2
  go_ret
  exact ⟨rfl, rfl⟩
set_option maxHeartbeats 400000 in
set_option maxRecDepth 100000 in
theorem strings_IndexByte (s : ByteArray) (c : Int) (w : World) :
    Calls Try.prog 100 #[.string s, .int .u8 c] w fun e w' => e = .returned (.int .i64 (Lib.indexByte s.data.toList c.toNat.toUInt8)) ∧ w = w' := by
  go_enter Try.func100, Try.ntmps100
  go_wp2_with (go_at_call 105; refine (strlite_IndexByte _ _ _).mono ?_; rintro e w' ⟨rfl, rfl⟩)
  go_ret
  exact ⟨rfl, rfl⟩
set_option maxHeartbeats 400000 in
set_option maxRecDepth 100000 in
/-- internal/stringslite.Index at a separator of one byte. -/
theorem strlite_Index1 (s : ByteArray) (c : UInt8) (w : World) :
    Calls Try.prog 90 #[.string s, .string ⟨#[c]⟩] w fun e w' => e = .returned (.int .i64 (Lib.indexByte s.data.toList c)) ∧ w = w' := by
  have hc : ((c.toNat : Int)).toNat.toUInt8 = c := by simp
  by_cases h : s.toList = [c]
  · have h1 : ([c] == s.toList) = true := by rw [h]; simp
    go_enter Try.func90, Try.ntmps90
    go_wp2_with (go_at_call 105; refine (strlite_IndexByte _ _ _).mono ?_; rintro e w' ⟨rfl, rfl⟩)
    go_ret
    exact ⟨by rw [← Lib.toList_data, h]; simp [Lib.indexByte], rfl⟩
  · have h1 : ([c] == s.toList) = false := by rw [beq_eq_false_iff_ne]; exact fun e => h e.symm
    go_enter Try.func90, Try.ntmps90
    go_wp2_with (go_at_call 105; refine (strlite_IndexByte _ _ _).mono ?_; rintro e w' ⟨rfl, rfl⟩)
    go_ret
    exact ⟨rfl, rfl⟩
set_option maxHeartbeats 400000 in
set_option maxRecDepth 100000 in
theorem strlite_Cut1 (s : ByteArray) (c : UInt8) (w : World) (hs : s.size ≤ 9223372036854775807) :
    Calls Try.prog 76 #[.string s, .string ⟨#[c]⟩] w fun e w' => e = .returned (.tuple #[.string (cutB c s).1, .string (cutB c s).2.1, .bool (cutB c s).2.2]) ∧ ∃ n, w' = w.drewN n := by
  have hlt := indexByte_lt s.data.toList c
  have hge := Lib.indexByte_ge s.data.toList c
  rw [← Lib.size_eq] at hlt
  by_cases h : 0 ≤ Lib.indexByte s.data.toList c
  · have e0 : cutB c s = (s.extract 0 (Lib.indexByte s.data.toList c).toNat, s.extract ((Lib.indexByte s.data.toList c).toNat + 1) s.size, true) := by unfold cutB; rw [if_pos h]
    rw [e0]
    obtain ⟨i, hi⟩ : ∃ i : Nat, Lib.indexByte s.data.toList c = i := ⟨(Lib.indexByte s.data.toList c).toNat, by omega⟩
    have hlt' : (i : Int) < s.size := by omega
    have hI : Hid (Lib.indexByte s.data.toList c = i) := Lib.hid hi
    clear hlt hge h e0 hi
    have c1 : (0 : Int) ≤ ↑i := by omega
    have c2 : (↑i : Int) ≤ ↑s.size := by omega
    have c3 : (0 : Int) ≤ ↑i + 1 := by omega
    have c4 : (↑i + 1 : Int) ≤ ↑s.size := by omega
    rw [hI.out]
    go_enter Try.func76, Try.ntmps76
    go_wp2_with (go_at_call 90; refine (strlite_Index1 _ _ _).mono ?_; rintro e w' ⟨rfl, rfl⟩; rw [hI.out])
    go_region
    go_wp2
    go_ret3
    exact ⟨rfl, 1, rfl⟩
  · have e0 : cutB c s = (s, ⟨#[]⟩, false) := by unfold cutB; rw [if_neg h]
    rw [e0]
    have hi : Lib.indexByte s.data.toList c = -1 := by omega
    have hI : Hid (Lib.indexByte s.data.toList c = -1) := Lib.hid hi
    clear hlt hge h e0 hi
    go_enter Try.func76, Try.ntmps76
    go_wp2_with (go_at_call 90; refine (strlite_Index1 _ _ _).mono ?_; rintro e w' ⟨rfl, rfl⟩; rw [hI.out])
    go_ret3
    exact ⟨rfl, 0, rfl⟩
set_option maxHeartbeats 400000 in
set_option maxRecDepth 100000 in
/-- strings.Cut at a separator of one byte. -/
theorem strings_Cut1 (s : ByteArray) (c : UInt8) (w : World) (hs : s.size ≤ 9223372036854775807) :
    Calls Try.prog 54 #[.string s, .string ⟨#[c]⟩] w fun e w' => e = .returned (.tuple #[.string (cutB c s).1, .string (cutB c s).2.1, .bool (cutB c s).2.2]) ∧ ∃ n, w' = w.drewN n := by
  generalize hv : cutB c s = v
  have hC := fun W => strlite_Cut1 s c W hs
  rw [hv] at hC
  have HC : Hid (∀ W : World, Calls Try.prog 76 #[.string s, .string ⟨#[c]⟩] W fun e w' => e = .returned (.tuple #[.string v.1, .string v.2.1, .bool v.2.2]) ∧ ∃ n, w' = W.drewN n) := Lib.hid hC
  clear hC hv
  go_enter Try.func54, Try.ntmps54
  go_wp2_with (go_at_call 76; refine (HC.out _).mono ?_; rintro e w' ⟨rfl, n, rfl⟩)
  go_ret3
  exact ⟨rfl, _, rfl⟩
end Go.Proofs.Ytbbhmjokiejnmaa

