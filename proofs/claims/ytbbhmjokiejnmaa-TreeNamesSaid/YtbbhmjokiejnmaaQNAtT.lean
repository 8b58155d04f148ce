/- (*sorted).at over names: the binary search. -/
import Derived.Test.YtbbhmjokiejnmaaQNEqs
import Derived.RangeFuncBox
import Derived.Deep.RegionHeld3
import Derived.Test.YtbbhmjokiejnmaaQNAt
import Derived.Lib.Bytealg
import Derived.Test.YtbbhmjokiejnmaaQNColl
namespace Go.Proofs.Ytbbhmjokiejnmaa
open Go Go.RowKit Go.Proofs.Ytbbhmjokiejnmaa.Hy Go.Proofs.YtbbhmjokiejnmaaW.PrintWords
set_option linter.unusedVariables false
/-- The binary search for a name, from i up to j. -/
def bsLT (l : List ByteArray) (k : ByteArray) : Nat → Nat → Nat → Nat
  | 0, i, _ => i
  | n + 1, i, j => if i < j then (if cmpB (rdOf ByteArray.empty l ((i + j) / 2 : Nat)) k < 0 then bsLT l k n ((i + j) / 2 + 1) j else bsLT l k n i ((i + j) / 2)) else i
def fileAtT (l : List ByteArray) (i : Nat) : ByteArray := rdOf ByteArray.empty l (i : Int)
def atIT (l : List ByteArray) (k : ByteArray) : Nat := bsLT l k l.length 0 l.length
def atFT (l : List ByteArray) (k : ByteArray) : Bool := decide (atIT l k < l.length) && cmpB (fileAtT l (atIT l k)) k == 0
theorem compareBytes_cmpB (a b : ByteArray) : Lib.compareBytes a.data.toList b.data.toList = cmpB a b := by
  unfold cmpB
  rw [Lib.toList_data, Lib.toList_data]
  generalize a.data.toList = x
  generalize b.data.toList = y
  induction x generalizing y with
  | nil => cases y <;> rfl
  | cons p x ih =>
    cases y with
    | nil => rfl
    | cons q y =>
      simp only [Lib.compareBytes, Op.bytesLess]
      by_cases h1 : p < q
      · simp [h1]
      · by_cases h2 : q < p
        · have e1 : (p == q) = false := by simpa using fun e => by subst e; exact h1 h2
          have e2 : (q == p) = false := by simpa using fun e => by subst e; exact h1 h2
          simp [h1, h2, e1]
        · have e : p = q := UInt8.le_antisymm (UInt8.not_lt.1 h2) (UInt8.not_lt.1 h1)
          subst e
          simp [h1, ih y]
set_option maxHeartbeats 1000000 in
set_option maxRecDepth 100000 in
theorem compareString_calls (a b : ByteArray) (w : World) :
    Calls Try.prog 88 #[.string a, .string b] w fun e w' => e = .returned (.int .i64 (cmpB a b)) ∧ w' = w := by
  go_enter Try.func88, Try.ntmps88
  go_wp2
  rw [run_callFunc_extern Try.func103 (by kernel_rfl) (by kernel_rfl) (by kernel_rfl) (e := Extern.BytealgCompare.compare) (by kernel_rfl), Lib.run_compareString]
  simp only [Result.andThen]
  rw [Oper.upon_value]
  go_wp2
  go_ret
  exact ⟨by rw [← compareBytes_cmpB]; rfl, rfl⟩
set_option maxHeartbeats 1000000 in
set_option maxRecDepth 100000 in
theorem stringsCompare_calls (a b : ByteArray) (w : World) :
    Calls Try.prog 73 #[.string a, .string b] w fun e w' => e = .returned (.int .i64 (cmpB a b)) ∧ w' = w := by
  go_enter Try.func73, Try.ntmps73
  go_wp2_with (go_at_call 88; refine (compareString_calls _ _ _).mono ?_; rintro e w' ⟨rfl, rfl⟩)
  go_ret
  exact ⟨rfl, rfl⟩
/-- A sorted list of names at block g: its slice is v. -/
def SortedAtT (w : World) (g : Nat) (v : Value) : Prop := w.heap[g]? = some (.cells #[v, .func (.func 72) #[] #[], .func (.func 73) #[] #[]] 74 (0, 0))
set_option maxHeartbeats 400000 in
set_option maxRecDepth 100000 in
theorem namesKey_calls (x0 : ByteArray) (w : World) :
    Calls Try.prog 72 #[.string x0] w fun e w' => e = .returned (.string x0) ∧ w = w' := by
  go_enter Try.func72, Try.ntmps72
  go_wp2
  go_ret
  exact ⟨rfl, rfl⟩
set_option maxHeartbeats 1000000 in
set_option maxRecDepth 100000 in
/-- The comparison of the search: the list at block g, its pointer in the box B. -/
theorem at1_callsT (x0 k : ByteArray) (g B : Nat) (v : Value) (W : World) (hg : SortedAtT W g v) (hB : Boxed W B 66 (.pointer (some ⟨g, 0, none⟩))) :
    Calls Try.prog 92 #[.string x0, .string k, .pointer (some ⟨B, 0, none⟩)] W fun e w' => e = .returned (.int .i64 (cmpB x0 k)) ∧ Below W.heap.size W w' := by
  have hd0 := hB.cell
  have hd1 : W.cell? ⟨g, 1, none⟩ = some (.func (.func 72) #[] #[]) := by rw [blk_cell hg]; rfl
  have hd2 : W.cell? ⟨g, 2, none⟩ = some (.func (.func 73) #[] #[]) := by rw [blk_cell hg]; rfl
  clear hg hB
  go_enter Try.func92, Try.ntmps92
  go_wp2_with fail
  go_region_held3 (fun w' => w'.cell? ⟨B, 0, none⟩ = some (.pointer (some ⟨g, 0, none⟩)) ∧ w'.cell? ⟨g, 1, none⟩ = some (.func (.func 72) #[] #[]) ∧ w'.cell? ⟨g, 2, none⟩ = some (.func (.func 73) #[] #[]))
    (first | go_keep | exact ⟨pw_cell_below ((Below.refl _ _).drew) hd0, pw_cell_below ((Below.refl _ _).drew) hd1, pw_cell_below ((Below.refl _ _).drew) hd2⟩)
    (first
      | (go_at_call 72; refine (namesKey_calls _ _).mono ?_; rintro e w' ⟨rfl, rfl⟩)
      | (go_at_call 73; refine (stringsCompare_calls _ _ _).mono ?_; rintro e w' ⟨rfl, rfl⟩))
  go_wp2
  go_ret
  exact ⟨rfl, (Below.refl _ W).drew⟩
set_option maxHeartbeats 2000000 in
set_option maxRecDepth 100000 in
theorem binarySearch_callsT (A : Option Addr) (c : Nat) (l : List ByteArray) (k : ByteArray) (g B : Nat) (v : Value) (w : World) (hr : Kd.C Kd.string w A l.length l) (hlen : l.length ≤ 1048576) (hg : SortedAtT w g v) (hB : Boxed w B 66 (.pointer (some ⟨g, 0, none⟩))) :
    Calls Try.prog 91 #[.slice A l.length c, .string k, .func (.func 92) #[] #[.pointer (some ⟨B, 0, none⟩)]] w fun e w' => e = .returned (.tuple #[.int .i64 (atIT l k), .bool (atFT l k)]) ∧ Below w.heap.size w w' := by
  have HR : Hid (Kd.C Kd.string w A l.length l) := Lib.hid hr
  have HG := Lib.hid hg
  have HB := Lib.hid hB
  clear hr hg hB
  go_enter Try.func91, Try.ntmps91
  go_wp2
  go_loopw [9, 10] (fun vi vj wr => ∃ i j n : Nat, vi = .int .i64 i ∧ vj = .int .i64 j ∧ i ≤ j ∧ j ≤ l.length ∧ j - i ≤ n ∧ Hid (atIT l k = bsLT l k n i j) ∧ Below w.heap.size w wr) (fun vi vj _ => (intOf vj).toNat - (intOf vi).toNat)
  case atStart => exact ⟨0, l.length, l.length, rfl, rfl, Nat.zero_le _, Nat.le_refl _, by omega, Lib.hid rfl, Below.refl _ _⟩
  case round =>
    obtain ⟨i, j, n, rfl, rfl, hij, hj, hn, HI, hbe⟩ := hrel
    by_cases hlt : i < j
    · obtain ⟨m, rfl⟩ : ∃ m, n = m + 1 := ⟨n - 1, by omega⟩
      have h1 : i ≤ (i + j) / 2 := by omega
      have h2 : (i + j) / 2 < j := by omega
      have hst : atIT l k = if cmpB (fileAtT l ((i + j) / 2)) k < 0 then bsLT l k m ((i + j) / 2 + 1) j else bsLT l k m i ((i + j) / 2) := by rw [HI.out]; simp only [bsLT]; rw [if_pos hlt]; rfl
      have HST := Lib.hid hst
      have p0 : (0 : Int) ≤ ((i : Int) + (j : Int)) / 2 := by omega
      have q0 : ((i : Int) + (j : Int)) / 2 < (l.length : Int) := by omega
      obtain ⟨ad, rfl, hx0⟩ := Kd.at_string (Kd.C_below HR.out hbe) (((i : Int) + (j : Int)) / 2) p0 q0
      have ef : rdOf ByteArray.empty l (((i : Int) + (j : Int)) / 2) = fileAtT l ((i + j) / 2) := by
        unfold fileAtT
        rw [show ((i : Int) + (j : Int)) / 2 = (((i + j) / 2 : Nat) : Int) from by omega]
      rw [show (((i : Int) + (j : Int)) / 2).toNat = (i + j) / 2 from by omega, ef] at hx0
      have hGw : SortedAtT wr g v := (hbe.block g (Array.getElem?_eq_some_iff.1 HG.out).1).trans HG.out
      have hBw : Boxed wr B 66 (.pointer (some ⟨g, 0, none⟩)) := (hbe.block B HB.out.lt).trans HB.out
      have HGw := Lib.hid hGw
      have HBw := Lib.hid hBw
      replace p0 := eq_true p0
      replace q0 := eq_true q0
      clear hst ef hGw hBw HI
      by_cases hneg : cmpB (fileAtT l ((i + j) / 2)) k < 0
      · have HN := Lib.hid (by have := HST.out; rw [if_pos hneg] at this; exact this : atIT l k = bsLT l k m ((i + j) / 2 + 1) j)
        clear HST
        go_wp2_with (go_at_call 92; refine (at1_callsT _ k g B v _ HGw.out HBw.out).mono ?_; rintro e w' ⟨rfl, hb1⟩)
        go_roundw
        case rel => exact ⟨(i + j) / 2 + 1, j, m, by go_num, rfl, by omega, by omega, by omega, HN, hbe.trans (hb1.mono hbe.size)⟩
        case measure => simp [intOf]; omega
      · have HN := Lib.hid (by have := HST.out; rw [if_neg hneg] at this; exact this : atIT l k = bsLT l k m i ((i + j) / 2))
        clear HST
        go_wp2_with (go_at_call 92; refine (at1_callsT _ k g B v _ HGw.out HBw.out).mono ?_; rintro e w' ⟨rfl, hb1⟩)
        go_roundw
        case rel => exact ⟨i, (i + j) / 2, m, rfl, by go_num, by omega, by omega, by omega, HN, hbe.trans (hb1.mono hbe.size)⟩
        case measure => simp [intOf]; omega
    · obtain rfl : i = j := by omega
      have hI : atIT l k = i := by rw [HI.out]; cases n <;> simp [bsLT]
      have HI' := Lib.hid hI
      clear hI HI
      by_cases hlt2 : i < l.length
      · have p0 : (0 : Int) ≤ (i : Int) := by omega
        have q0 : (i : Int) < (l.length : Int) := by omega
        obtain ⟨ad, rfl, hx0⟩ := Kd.at_string (Kd.C_below HR.out hbe) (i : Int) p0 q0
        rw [show rdOf ByteArray.empty l (i : Int) = fileAtT l i from rfl] at hx0
        rw [Int.toNat_natCast] at hx0
        have hGw : SortedAtT wr g v := (hbe.block g (Array.getElem?_eq_some_iff.1 HG.out).1).trans HG.out
        have hBw : Boxed wr B 66 (.pointer (some ⟨g, 0, none⟩)) := (hbe.block B HB.out.lt).trans HB.out
        have HGw := Lib.hid hGw
        have HBw := Lib.hid hBw
        have hfin : atFT l k = (cmpB (fileAtT l i) k == 0) := by unfold atFT; rw [HI'.out, decide_eq_true hlt2, Bool.true_and]
        have HF := Lib.hid hfin
        replace p0 := eq_true p0
        replace q0 := eq_true q0
        clear hGw hBw hfin
        go_wp2_with (go_at_call 92; refine (at1_callsT _ k g B v _ HGw.out HBw.out).mono ?_; rintro e w' ⟨rfl, hb1⟩)
        go_ret2
        exact ⟨by rw [HF.out, HI'.out]; rfl, hbe.trans (hb1.mono hbe.size)⟩
      · have hfin : atFT l k = false := by unfold atFT; rw [HI'.out, decide_eq_false hlt2, Bool.false_and]
        have HF := Lib.hid hfin
        clear hfin
        go_wp2
        go_ret2
        exact ⟨by rw [HF.out, HI'.out]; rfl, hbe⟩
set_option maxHeartbeats 1000000 in
set_option maxRecDepth 100000 in
theorem sorted_at_callsT (A : Option Addr) (c : Nat) (l : List ByteArray) (k : ByteArray) (g : Nat) (w : World) (hr : Kd.C Kd.string w A l.length l) (hlen : l.length ≤ 1048576) (hg : SortedAtT w g (.slice A l.length c)) :
    Calls Try.prog 77 #[.pointer (some ⟨g, 0, none⟩), .string k] w fun e w' => e = .returned (.tuple #[.int .i64 (atIT l k), .bool (atFT l k)]) ∧ Below w.heap.size w w' := by
  have hmf : ∀ (fn : Fn) (first cap : Array Value) (w : World), (Instr.makeFunc fn first cap).run Try.prog w = .ok (.func fn first cap) w := fun _ _ _ _ => rfl
  have hglt : g < w.heap.size := (Array.getElem?_eq_some_iff.1 hg).1
  have hg0 : (w.alloc (.cells #[.pointer (some ⟨g, 0, none⟩)] 66)).cell? ⟨g, 0, none⟩ = some (.slice A l.length c) := by
    have := (Below.heap_alloc w (.cells #[.pointer (some ⟨g, 0, none⟩)] 66) g hglt).trans hg
    simp [World.cell?, this]
  have hC := binarySearch_callsT A c l k g w.heap.size (.slice A l.length c) (w.alloc (.cells #[.pointer (some ⟨g, 0, none⟩)] 66)) (Kd.C_below hr (below_alloc (Below.refl _ _) _)) hlen ((Below.heap_alloc w _ g hglt).trans hg) (Boxed.new w _ _)
  have HC := Lib.hid hC
  clear hC hr hg
  go_enter Try.func77, Try.ntmps77
  go_wp2_with (go_at_call 91; refine HC.out.mono ?_; rintro e w' ⟨rfl, hb1⟩)
  go_ret2
  exact ⟨rfl, ((Below.refl _ w).alloc (Nat.le_refl _) _).trans (hb1.mono (by simp))⟩
end Go.Proofs.Ytbbhmjokiejnmaa

