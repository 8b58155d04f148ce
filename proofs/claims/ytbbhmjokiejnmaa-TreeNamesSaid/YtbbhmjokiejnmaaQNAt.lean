/- (*sorted).at over files: the binary search. -/
import Derived.Test.YtbbhmjokiejnmaaQNEqs
import Derived.RangeFuncBox
import Derived.Deep.RegionHeld3
namespace Go.Proofs.Ytbbhmjokiejnmaa
open Go Go.RowKit Go.Proofs.Ytbbhmjokiejnmaa.Hy Go.Proofs.YtbbhmjokiejnmaaW.PrintWords
set_option linter.unusedVariables false
/-- A sorted list of files at block g: its slice is v. -/
def SortedAt (w : World) (g : Nat) (v : Value) : Prop := w.heap[g]? = some (.cells #[v, .func (.func 64) #[] #[], .func (.func 46) #[] #[]] 58 (0, 0))
theorem cell_alloc_drew {W : World} {a : Addr} {v : Value} (o : Obj) (h : W.cell? a = some v) : (W.alloc o).drew.cell? a = some v := pw_cell_below ((Below.refl _ W).alloc (Nat.le_refl _) o) h
set_option maxHeartbeats 400000 in
set_option maxRecDepth 100000 in
theorem filesKey_calls (x0 x1 : ByteArray) (w : World) :
    Calls Try.prog 64 #[.agg #[.string x0, .string x1]] w fun e w' => e = .returned (.string x0) ∧ w.alloc (.cells #[.string x0, .string x1] 29) = w' := by
  go_enter Try.func64, Try.ntmps64
  go_wp2
  go_ret
  exact ⟨rfl, rfl⟩
set_option maxHeartbeats 1000000 in
set_option maxRecDepth 100000 in
/-- The comparison of the search: the list at block g, its pointer in the box B. -/
theorem at1_calls (x0 x1 k : ByteArray) (g B : Nat) (v : Value) (w : World) (hg : SortedAt w g v) (hB : Boxed w B 51 (.pointer (some ⟨g, 0, none⟩))) (h0 : x0.size ≤ 1048576) (hk : k.size ≤ 1048576) :
    Calls Try.prog 66 #[.agg #[.string x0, .string x1], .string k, .pointer (some ⟨B, 0, none⟩)] w fun e w' => e = .returned (.int .i64 (cmpP x0 k)) ∧ Below w.heap.size w w' := by
  have hlt := hB.lt
  have hglt : g < w.heap.size := (Array.getElem?_eq_some_iff.1 hg).1
  have hc : ∀ o, (w.alloc o).cell? ⟨B, 0, none⟩ = some (.pointer (some ⟨g, 0, none⟩)) := fun o => (hB.alloc o).cell
  have hg1 : ∀ o, (w.alloc o).cell? ⟨g, 1, none⟩ = some (.func (.func 64) #[] #[]) := fun o => by
    have := (Below.heap_alloc w o g hglt).trans hg
    simp [World.cell?, this]
  have hg2 : ∀ o, (w.alloc o).cell? ⟨g, 2, none⟩ = some (.func (.func 46) #[] #[]) := fun o => by
    have := (Below.heap_alloc w o g hglt).trans hg
    simp [World.cell?, this]
  go_enter Try.func66, Try.ntmps66
  have hs0 : ∀ o, (w.alloc o).cell? ⟨w.heap.size, 0, none⟩ = some (.string x0) → True := fun _ _ => trivial
  clear hs0
  go_wp2_with fail
  have hx0 : (w.alloc (.cells #[.string x0, .string x1] 29)).cell? ⟨w.heap.size, 0, none⟩ = some (.string x0) := by simp
  have hx1 : (w.alloc (.cells #[.string x0, .string x1] 29)).cell? ⟨w.heap.size, 1, none⟩ = some (.string x1) := by simp
  have hd0 := hc (.cells #[.string x0, .string x1] 29)
  have hd1 := hg1 (.cells #[.string x0, .string x1] 29)
  have hd2 := hg2 (.cells #[.string x0, .string x1] 29)
  have hbe : Below w.heap.size w (w.alloc (.cells #[.string x0, .string x1] 29)) := (Below.refl _ w).alloc (Nat.le_refl _) _
  obtain ⟨W, hW⟩ : ∃ W, w.alloc (.cells #[.string x0, .string x1] 29) = W := ⟨_, rfl⟩
  have hWs : w.heap.size + 1 ≤ W.heap.size := by rw [← hW]; simp
  rw [hW] at hx0 hx1 hd0 hd1 hd2 hbe ⊢
  clear hW hc hg1 hg2 hg hB
  go_region_held3 (fun w' => w'.cell? ⟨B, 0, none⟩ = some (.pointer (some ⟨g, 0, none⟩)) ∧ w'.cell? ⟨g, 1, none⟩ = some (.func (.func 64) #[] #[]) ∧ w'.cell? ⟨g, 2, none⟩ = some (.func (.func 46) #[] #[]) ∧ w'.cell? ⟨w.heap.size, 0, none⟩ = some (.string x0) ∧ w'.cell? ⟨w.heap.size, 1, none⟩ = some (.string x1))
    (first | go_keep | exact ⟨pw_cell_below hbq (cell_alloc_drew _ hd0), pw_cell_below hbq (cell_alloc_drew _ hd1), pw_cell_below hbq (cell_alloc_drew _ hd2), pw_cell_below hbq (cell_alloc_drew _ hx0), pw_cell_below hbq (cell_alloc_drew _ hx1)⟩)
    (first
      | (go_at_call 64; refine (filesKey_calls _ _ _).mono ?_; rintro e w' ⟨rfl, rfl⟩)
      | (go_at_call 46; refine (paths_Compare_calls _ _ h0 hk _).mono ?_; rintro e w' ⟨rfl, hbq⟩))
  go_wp2
  go_ret
  refine ⟨rfl, hbe.trans ?_⟩
  exact (((Below.refl _ W).alloc (Nat.le_refl _) _).drew.trans (hbq.mono (by simp))).mono (by omega)
theorem short_at {l : List File} (h : shortAll l = true) (i : Int) (h0 : 0 ≤ i) (h1 : i < l.length) : (rd_T29 l i).f0.size ≤ 1048576 := by
  unfold shortAll at h
  simp only [Bool.and_eq_true, List.all_eq_true, decide_eq_true_eq] at h
  have hm : rd_T29 l i ∈ l := by
    unfold rd_T29
    rw [List.getD_eq_getElem?_getD, List.getElem?_eq_getElem (by omega)]
    exact List.getElem_mem _
  exact h.2 _ hm
set_option maxHeartbeats 2000000 in
set_option maxRecDepth 100000 in
theorem binarySearch_calls (A : Option Addr) (c : Nat) (l : List File) (k : ByteArray) (g B : Nat) (v : Value) (w : World) (hr : Kd.C k29 w A l.length l) (hsh : shortAll l = true) (hg : SortedAt w g v) (hB : Boxed w B 51 (.pointer (some ⟨g, 0, none⟩))) (hk : k.size ≤ 1048576) :
    Calls Try.prog 65 #[.slice A l.length c, .string k, .func (.func 66) #[] #[.pointer (some ⟨B, 0, none⟩)]] w fun e w' => e = .returned (.tuple #[.int .i64 (atI l k), .bool (atF l k)]) ∧ Below w.heap.size w w' := by
  have hlen : l.length ≤ 1048576 := by unfold shortAll at hsh; simp only [Bool.and_eq_true, decide_eq_true_eq] at hsh; exact hsh.1
  have HR : Hid (Kd.C k29 w A l.length l) := Lib.hid hr
  have HS := Lib.hid hsh
  have HG := Lib.hid hg
  have HB := Lib.hid hB
  clear hr hsh hg hB
  go_enter Try.func65, Try.ntmps65
  go_wp2
  go_loopw [9, 10] (fun vi vj wr => ∃ i j n : Nat, vi = .int .i64 i ∧ vj = .int .i64 j ∧ i ≤ j ∧ j ≤ l.length ∧ j - i ≤ n ∧ Hid (atI l k = bsL l k n i j) ∧ Below w.heap.size w wr) (fun vi vj _ => (intOf vj).toNat - (intOf vi).toNat)
  case atStart => exact ⟨0, l.length, l.length, rfl, rfl, Nat.zero_le _, Nat.le_refl _, by omega, Lib.hid rfl, Below.refl _ _⟩
  case round =>
    obtain ⟨i, j, n, rfl, rfl, hij, hj, hn, HI, hbe⟩ := hrel
    by_cases hlt : i < j
    · obtain ⟨m, rfl⟩ : ∃ m, n = m + 1 := ⟨n - 1, by omega⟩
      have h1 : i ≤ (i + j) / 2 := by omega
      have h2 : (i + j) / 2 < j := by omega
      have hst : atI l k = if cmpP (fileAt l ((i + j) / 2)).f0 k < 0 then bsL l k m ((i + j) / 2 + 1) j else bsL l k m i ((i + j) / 2) := by rw [HI.out]; simp only [bsL]; rw [if_pos hlt]
      have HST := Lib.hid hst
      have p0 : (0 : Int) ≤ ((i : Int) + (j : Int)) / 2 := by omega
      have q0 : ((i : Int) + (j : Int)) / 2 < (l.length : Int) := by omega
      obtain ⟨ad, rfl, hx0, hx1⟩ := at_T29 (Kd.C_below HR.out hbe) (((i : Int) + (j : Int)) / 2) p0 q0
      have hsz := short_at HS.out _ p0 q0
      have ef : rd_T29 l (((i : Int) + (j : Int)) / 2) = fileAt l ((i + j) / 2) := by
        unfold rd_T29 fileAt
        rw [show (((i : Int) + (j : Int)) / 2).toNat = (i + j) / 2 from by omega]
      rw [show (((i : Int) + (j : Int)) / 2).toNat = (i + j) / 2 from by omega, ef] at hx0 hx1
      rw [ef] at hsz
      have hGw : SortedAt wr g v := (hbe.block g (Array.getElem?_eq_some_iff.1 HG.out).1).trans HG.out
      have hBw : Boxed wr B 51 (.pointer (some ⟨g, 0, none⟩)) := (hbe.block B HB.out.lt).trans HB.out
      have HGw := Lib.hid hGw
      have HBw := Lib.hid hBw
      replace p0 := eq_true p0
      replace q0 := eq_true q0
      clear hst ef hGw hBw HI
      by_cases hneg : cmpP (fileAt l ((i + j) / 2)).f0 k < 0
      · have HN := Lib.hid (by have := HST.out; rw [if_pos hneg] at this; exact this : atI l k = bsL l k m ((i + j) / 2 + 1) j)
        clear HST
        go_wp2_with (go_at_call 66; refine (at1_calls _ _ k g B v _ HGw.out HBw.out hsz hk).mono ?_; rintro e w' ⟨rfl, hb1⟩)
        go_roundw
        case rel => exact ⟨(i + j) / 2 + 1, j, m, by go_num, rfl, by omega, by omega, by omega, HN, hbe.trans (hb1.mono hbe.size)⟩
        case measure => simp [intOf]; omega
      · have HN := Lib.hid (by have := HST.out; rw [if_neg hneg] at this; exact this : atI l k = bsL l k m i ((i + j) / 2))
        clear HST
        go_wp2_with (go_at_call 66; refine (at1_calls _ _ k g B v _ HGw.out HBw.out hsz hk).mono ?_; rintro e w' ⟨rfl, hb1⟩)
        go_roundw
        case rel => exact ⟨i, (i + j) / 2, m, rfl, by go_num, by omega, by omega, by omega, HN, hbe.trans (hb1.mono hbe.size)⟩
        case measure => simp [intOf]; omega
    · obtain rfl : i = j := by omega
      have hI : atI l k = i := by rw [HI.out]; cases n <;> simp [bsL]
      have HI' := Lib.hid hI
      clear hI HI
      by_cases hlt2 : i < l.length
      · have p0 : (0 : Int) ≤ (i : Int) := by omega
        have q0 : (i : Int) < (l.length : Int) := by omega
        obtain ⟨ad, rfl, hx0, hx1⟩ := at_T29 (Kd.C_below HR.out hbe) (i : Int) p0 q0
        have hsz := short_at HS.out _ p0 q0
        rw [show rd_T29 l (i : Int) = fileAt l i from rfl] at hx0 hx1 hsz
        rw [Int.toNat_natCast] at hx0 hx1
        have hGw : SortedAt wr g v := (hbe.block g (Array.getElem?_eq_some_iff.1 HG.out).1).trans HG.out
        have hBw : Boxed wr B 51 (.pointer (some ⟨g, 0, none⟩)) := (hbe.block B HB.out.lt).trans HB.out
        have HGw := Lib.hid hGw
        have HBw := Lib.hid hBw
        have hfin : atF l k = (cmpP (fileAt l i).f0 k == 0) := by unfold atF; rw [HI'.out, decide_eq_true hlt2, Bool.true_and]
        have HF := Lib.hid hfin
        replace p0 := eq_true p0
        replace q0 := eq_true q0
        clear hGw hBw hfin
        go_wp2_with (go_at_call 66; refine (at1_calls _ _ k g B v _ HGw.out HBw.out hsz hk).mono ?_; rintro e w' ⟨rfl, hb1⟩)
        go_ret2
        exact ⟨by rw [HF.out, HI'.out]; rfl, hbe.trans (hb1.mono hbe.size)⟩
      · have hfin : atF l k = false := by unfold atF; rw [HI'.out, decide_eq_false hlt2, Bool.false_and]
        have HF := Lib.hid hfin
        clear hfin
        go_wp2
        go_ret2
        exact ⟨by rw [HF.out, HI'.out]; rfl, hbe⟩
set_option maxHeartbeats 1000000 in
set_option maxRecDepth 100000 in
theorem sorted_at_calls (A : Option Addr) (c : Nat) (l : List File) (k : ByteArray) (g : Nat) (w : World) (hr : Kd.C k29 w A l.length l) (hsh : shortAll l = true) (hg : SortedAt w g (.slice A l.length c)) (hk : k.size ≤ 1048576) :
    Calls Try.prog 40 #[.pointer (some ⟨g, 0, none⟩), .string k] w fun e w' => e = .returned (.tuple #[.int .i64 (atI l k), .bool (atF l k)]) ∧ Below w.heap.size w w' := by
  have hmf : ∀ (fn : Fn) (first cap : Array Value) (w : World), (Instr.makeFunc fn first cap).run Try.prog w = .ok (.func fn first cap) w := fun _ _ _ _ => rfl
  have hglt : g < w.heap.size := (Array.getElem?_eq_some_iff.1 hg).1
  have hg0 : (w.alloc (.cells #[.pointer (some ⟨g, 0, none⟩)] 51)).cell? ⟨g, 0, none⟩ = some (.slice A l.length c) := by
    have := (Below.heap_alloc w (.cells #[.pointer (some ⟨g, 0, none⟩)] 51) g hglt).trans hg
    simp [World.cell?, this]
  have hC := binarySearch_calls A c l k g w.heap.size (.slice A l.length c) (w.alloc (.cells #[.pointer (some ⟨g, 0, none⟩)] 51)) (Kd.C_below hr (below_alloc (Below.refl _ _) _)) hsh ((Below.heap_alloc w _ g hglt).trans hg) (Boxed.new w _ _) hk
  have HC := Lib.hid hC
  clear hC hr hg hsh
  go_enter Try.func40, Try.ntmps40
  go_wp2_with (go_at_call 65; refine HC.out.mono ?_; rintro e w' ⟨rfl, hb1⟩)
  go_ret2
  exact ⟨rfl, ((Below.refl _ w).alloc (Nat.le_refl _) _).trans (hb1.mono (by simp))⟩
end Go.Proofs.Ytbbhmjokiejnmaa

