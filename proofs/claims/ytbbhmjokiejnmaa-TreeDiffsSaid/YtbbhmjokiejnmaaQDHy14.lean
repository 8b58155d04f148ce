import Derived.Test.YtbbhmjokiejnmaaQDHy0
import Derived.Test.YtbbhmjokiejnmaaQDHy3
-- Printed by a program of this session (wip/hybrid.py) that runs the kit's print over given contracts. Lean checks it.
namespace Go.Proofs.Ytbbhmjokiejnmaa.Hy
open Go.RowKit Go.Proofs.YtbbhmjokiejnmaaW.PrintWords Go.Proofs.YtbbhmjokiejnmaaW.PrintLast Go.Proofs.YtbbhmjokiejnmaaW.PrintMore
attribute [local go_sem] min2_int min_two -- for this text's walks alone
set_option linter.unusedVariables false
set_option linter.unusedSimpArgs false
mutual
def tree_Diff.l0 : Nat → List (S29) → List (S29) → List ByteArray → Option (List ByteArray)
  | 0, _, _, _ => none
  | k + 1, x0, x1, x5 => if (x0.length : Int) > 0 then (tree_Diff.j1 k x0 x1 x5 true) else (tree_Diff.j1 k x0 x1 x5 (decide ((x1.length : Int) > 0)))
def tree_Diff.j1 : Nat → List (S29) → List (S29) → List ByteArray → Bool → Option (List ByteArray)
  | 0, _, _, _, _ => none
  | k + 1, x0, x1, x5, x14 => if x14 = true then (if (x0.length : Int) = 0 then (tree_Diff.j2 k x0 x1 x5 1) else (if (x1.length : Int) = 0 then (tree_Diff.j2 k x0 x1 x5 (-1)) else (if 0 < (x0.length : Int) then (if 0 < (x1.length : Int) then ((paths_Compare.f k ((rd_T29 x0 0).f0) ((rd_T29 x1 0).f0)).bind fun t346 => (tree_Diff.j2 k x0 x1 x5 t346)) else (none)) else (none)))) else (some x5)
def tree_Diff.j2 : Nat → List (S29) → List (S29) → List ByteArray → Int → Option (List ByteArray)
  | 0, _, _, _, _ => none
  | k + 1, x0, x1, x5, x6 => if x6 < 0 then (if 0 < (x0.length : Int) then (if x5.length < 8796093022208 then (if 1 ≤ (x0.length : Int) then (tree_Diff.l0 k (x0.drop 1) x1 (x5 ++ [(rd_T29 x0 0).f0])) else (none)) else (none)) else (none)) else (if x6 > 0 then (if 0 < (x1.length : Int) then (if x5.length < 8796093022208 then (if 1 ≤ (x1.length : Int) then (tree_Diff.l0 k x0 (x1.drop 1) (x5 ++ [(rd_T29 x1 0).f0])) else (none)) else (none)) else (none)) else (if 0 < (x0.length : Int) then (if 0 < (x1.length : Int) then (if ((rd_T29 x0 0).f1).toList = ((rd_T29 x1 0).f1).toList then (if 1 ≤ (x0.length : Int) then (if 1 ≤ (x1.length : Int) then (tree_Diff.l0 k (x0.drop 1) (x1.drop 1) x5) else (none)) else (none)) else (if x5.length < 8796093022208 then (if 1 ≤ (x0.length : Int) then (if 1 ≤ (x1.length : Int) then (tree_Diff.l0 k (x0.drop 1) (x1.drop 1) (x5 ++ [(rd_T29 x0 0).f0])) else (none)) else (none)) else (none))) else (none)) else (none)))
end
def tree_Diff.f (k : Nat) (l0 : List (S29)) (l1 : List (S29)) : Option (List ByteArray) := tree_Diff.l0 k l0 l1 ([] : List ByteArray)
def tree_Diff.T4 : Bool × List (List Nat × List Nat) := (true, [([], []), ([0], [0]), ([1], [1]), ([2], [2]), ([], []), ([4], [4]), ([5], [5]), ([6], [6]), ([3, 7], [3, 7]), ([8, 8, 0, 1, 2, 3, 4, 5, 6, 7, 8], [8])])
def tree_Diff.B4 : List Nat := [0, 1, 3, 7, 0, 16, 48, 112, 255, 511]
theorem tree_Diff.tab4 : rtab .any (opsOf Try.f21 4) = tree_Diff.T4 := by kernel_rfl
theorem tree_Diff.bits4 : waitsOk tree_Diff.T4.2 tree_Diff.B4 = true := by kernel_rfl
def tree_Diff.T9 : Bool × List (List Nat × List Nat) := (true, [([], []), ([0], [0]), ([1], [1]), ([2], [2]), ([], []), ([4], [4]), ([5], [5]), ([6], [6]), ([3, 7], [3, 7])])
def tree_Diff.B9 : List Nat := [0, 1, 3, 7, 0, 16, 48, 112, 255]
theorem tree_Diff.tab9 : rtab .any (opsOf Try.f21 9) = tree_Diff.T9 := by kernel_rfl
theorem tree_Diff.bits9 : waitsOk tree_Diff.T9.2 tree_Diff.B9 = true := by kernel_rfl
def tree_Diff.T13 : Bool × List (List Nat × List Nat) := (true, [([], []), ([], []), ([1], [1]), ([2], [2]), ([3], [3]), ([4], [4]), ([0, 5], [0, 5]), ([], []), ([7], [7]), ([6, 6, 0, 1, 2, 3, 4, 5, 6], [0, 6]), ([8, 9, 0, 1, 2, 3, 4, 5, 6, 7, 8, 9], [1, 7, 8])])
def tree_Diff.B13 : List Nat := [0, 0, 2, 6, 14, 30, 63, 0, 128, 127, 1023]
theorem tree_Diff.tab13 : rtab .any (opsOf Try.f21 13) = tree_Diff.T13 := by kernel_rfl
theorem tree_Diff.bits13 : waitsOk tree_Diff.T13.2 tree_Diff.B13 = true := by kernel_rfl
def tree_Diff.T15 : Bool × List (List Nat × List Nat) := (true, [([], []), ([], []), ([1], [1]), ([2], [2]), ([3], [3]), ([4], [4]), ([0, 5], [0, 5]), ([], []), ([7], [7]), ([6, 6, 0, 1, 2, 3, 4, 5, 6], [0, 6]), ([8, 9, 0, 1, 2, 3, 4, 5, 6, 7, 8, 9], [1, 7, 8])])
def tree_Diff.B15 : List Nat := [0, 0, 2, 6, 14, 30, 63, 0, 128, 127, 1023]
theorem tree_Diff.tab15 : rtab .any (opsOf Try.f21 15) = tree_Diff.T15 := by kernel_rfl
theorem tree_Diff.bits15 : waitsOk tree_Diff.T15.2 tree_Diff.B15 = true := by kernel_rfl
set_option maxHeartbeats 8000000 in
set_option maxRecDepth 100000 in
theorem tree_Diff.calls (k : Nat) (P0_ : Nat → Prop) (A0 : Option Addr) (c0 : Nat) (l0 : List (S29)) (P1_ : Nat → Prop) (A1 : Option Addr) (c1 : Nat) (l1 : List (S29)) (r : List ByteArray) (w : World) (hs0 : Kd.V k29 29 w w.heap.size (fun k_ => P0_ k_) (.slice A0 l0.length c0) l0) (hs1 : Kd.V k29 29 w w.heap.size (fun k_ => P1_ k_) (.slice A1 l1.length c1) l1) (h : tree_Diff.f k l0 l1 = some r) :
    Calls Try.prog 21 #[.slice A0 l0.length c0, .slice A1 l1.length c1] w fun e w' => ∃ v0_ : Value, e = .returned (v0_) ∧ Kd.R Kd.string 9 w' w.heap.size (fun k_ => (w.heap.size ≤ k_)) v0_ r ∧ Below w.heap.size w w' := by
  have HO0 := Aside0.mk (show Kd.V k29 29 w w.heap.size (fun k_ => ((P0_ k_ ∨ P1_ k_) ∨ w.heap.size ≤ k_)) (.slice A0 l0.length c0) l0 from Kd.V_mono hs0 (fun k_ hk => .inl (.inl hk)))
  have HO1 := Aside0.mk (show Kd.V k29 29 w w.heap.size (fun k_ => ((P0_ k_ ∨ P1_ k_) ∨ w.heap.size ≤ k_)) (.slice A1 l1.length c1) l1 from Kd.V_mono hs1 (fun k_ hk => .inl (.inr hk)))
  have HB := Aside0.mk (Below.refl w.heap.size w)
  have H : (tree_Diff.l0 k l0 l1 ([] : List ByteArray)) = some r := h
  clear h
  have H' := Aside0.mk H
  clear H
  go_enter Try.func21, Try.ntmps21
  go_wp2
  go_loopg [0, 1, 5] k (fun kq v0 v1 v5 w' => ∃ (x0_1 : List (S29)) (x1_1 : List (S29)) (x5_1 : List ByteArray), Aside0 (tree_Diff.l0 kq x0_1 x1_1 x5_1 = some r) ∧ Aside0 (kq ≤ k) ∧ Aside0 (Kd.V k29 29 w' w.heap.size (fun k_ => ((P0_ k_ ∨ P1_ k_) ∨ w.heap.size ≤ k_) ∧ some k_ ≠ (v5 : Value).ownBlock) v0 x0_1) ∧ Aside0 (Kd.V k29 29 w' w.heap.size (fun k_ => ((P0_ k_ ∨ P1_ k_) ∨ w.heap.size ≤ k_) ∧ some k_ ≠ (v5 : Value).ownBlock) v1 x1_1) ∧ Aside0 (Kd.R Kd.string 9 w' w.heap.size (fun k_ => (w.heap.size ≤ k_)) v5 x5_1) ∧ Aside0 (Below w.heap.size w w'))
  case atStart => exact ⟨(l0), (l1), (([] : List ByteArray)), H', ⟨Nat.le_refl _⟩, ⟨by (with_reducible repeat (first | apply Kd.V_alloc | apply Kd.V_drewN | apply Kd.V_drew)); exact Kd.V_mono HO0.out (fun _ hk => ⟨hk, (by simp [Value.ownBlock])⟩)⟩, ⟨by (with_reducible repeat (first | apply Kd.V_alloc | apply Kd.V_drewN | apply Kd.V_drew)); exact Kd.V_mono HO1.out (fun _ hk => ⟨hk, (by simp [Value.ownBlock])⟩)⟩, ⟨by first | exact Kd.R_nil _ _ _ _ _ | exact Kd.N_nil _ _ _ _ _ | exact Kd.V_nil _ _ _ _ _ | exact Kd.Q_nil _ _ _ _ _ | exact Kd.S_nil _ _ _ _ _⟩, ⟨by repeat (first | (with_reducible first | exact HB.out | apply below_alloc | apply pw_below_drewN | apply below_drew1) | exact HB.out)⟩⟩
  case round =>
    clear H'
    try clear c1
    try clear c2
    try clear p2
    obtain ⟨x0_1, x1_1, x5_1, HA, HK1, HO_0, HO_1, HO_5, HB⟩ := hrel
    cases gk with
    | zero => exact absurd HA.out (by simp [tree_Diff.l0])
    | succ k1 =>
      have H := HA.out
      clear HA
      simp only [tree_Diff.l0] at H
      have HC3 := Aside0.mk H
      clear H
      go_upto_region 2 with (fail)
      go_cut [14] (fun v14 wc => ∃ (kq : Nat) (x14_2 : Bool), v14 = .bool x14_2 ∧ Aside0 (tree_Diff.j1 kq x0_1 x1_1 x5_1 x14_2 = some r) ∧ Aside0 (kq ≤ k1) ∧ Aside0 (Kd.V k29 29 wc w.heap.size (fun k_ => ((P0_ k_ ∨ P1_ k_) ∨ w.heap.size ≤ k_) ∧ some k_ ≠ (u5 : Value).ownBlock) u0 x0_1) ∧ Aside0 (Kd.V k29 29 wc w.heap.size (fun k_ => ((P0_ k_ ∨ P1_ k_) ∨ w.heap.size ≤ k_) ∧ some k_ ≠ (u5 : Value).ownBlock) u1 x1_1) ∧ Aside0 (Kd.R Kd.string 9 wc w.heap.size (fun k_ => (w.heap.size ≤ k_)) u5 x5_1) ∧ Aside0 (Below w.heap.size w wc))
      case first =>
        have H := HC3.out
        clear HC3
        by_cases c4 : (x0_1.length : Int) > 0
        · rw [if_pos c4] at H
          have c4b0 : decide (0 < (x0_1.length : Int)) = true := decide_eq_true c4
          have c4b1 : decide (0 < x0_1.length) = true := decide_eq_true (by omega)
          clear c4
          (first | rw [c4b0] | (simp only [i64_w, i32_w]; rw [c4b0]) | skip)
          have H' := Aside0.mk H
          clear H
          obtain ⟨Ao5, co5, eo5⟩ := Kd.V_slice HO_0.out
          subst eo5
          go_wp2
          go_meet
          case rel => exact ⟨_, (true), (by first | rfl | (simp; done) | (simp [*]; done)), H', ⟨by have := HK1.out; first | omega | exact Nat.le_refl _⟩, ⟨by (with_reducible repeat (first | apply Kd.V_alloc | apply Kd.V_drewN | apply Kd.V_drew)); exact HO_0.out⟩, ⟨by (with_reducible repeat (first | apply Kd.V_alloc | apply Kd.V_drewN | apply Kd.V_drew)); exact HO_1.out⟩, ⟨by (with_reducible repeat (first | apply Kd.R_alloc | apply Kd.R_drewN | apply Kd.R_drew)); exact HO_5.out⟩, ⟨by repeat (first | (with_reducible first | exact HB.out | apply below_alloc | apply pw_below_drewN | apply below_drew1) | exact HB.out)⟩⟩
        · rw [if_neg c4] at H
          have c4b0 : decide (0 < (x0_1.length : Int)) = false := decide_eq_false c4
          have c4b1 : decide (0 < x0_1.length) = false := decide_eq_false (by omega)
          clear c4
          (first | rw [c4b0] | (simp only [i64_w, i32_w]; rw [c4b0]) | skip)
          have H' := Aside0.mk H
          clear H
          obtain ⟨Ao6, co6, eo6⟩ := Kd.V_slice HO_0.out
          subst eo6
          obtain ⟨Ao7, co7, eo7⟩ := Kd.V_slice HO_1.out
          subst eo7
          go_wp2
          go_meet
          case rel => exact ⟨_, (decide ((x1_1.length : Int) > 0)), (by first | rfl | (simp; done) | (simp [*]; done)), H', ⟨by have := HK1.out; first | omega | exact Nat.le_refl _⟩, ⟨by (with_reducible repeat (first | apply Kd.V_alloc | apply Kd.V_drewN | apply Kd.V_drew)); exact HO_0.out⟩, ⟨by (with_reducible repeat (first | apply Kd.V_alloc | apply Kd.V_drewN | apply Kd.V_drew)); exact HO_1.out⟩, ⟨by (with_reducible repeat (first | apply Kd.R_alloc | apply Kd.R_drewN | apply Kd.R_drew)); exact HO_5.out⟩, ⟨by repeat (first | (with_reducible first | exact HB.out | apply below_alloc | apply pw_below_drewN | apply below_drew1) | exact HB.out)⟩⟩
      case rest =>
        clear HC3
        try clear c1
        try clear c2
        try clear p2
        try clear c4
        try clear c4b0
        try clear c4b1
        try clear p2
        obtain ⟨kq, x14_2, rfl, HA, HJ2, HO_0, HO_1, HO_5, HB⟩ := hcut
        cases kq with
        | zero => exact absurd HA.out (by simp [tree_Diff.j1])
        | succ kj2 =>
          have H := HA.out
          clear HA
          simp only [tree_Diff.j1] at H
          by_cases c8 : x14_2 = true
          · subst c8
            have H1 : (if (x0_1.length : Int) = 0 then (tree_Diff.j2 kj2 x0_1 x1_1 x5_1 1) else (if (x1_1.length : Int) = 0 then (tree_Diff.j2 kj2 x0_1 x1_1 x5_1 (-1)) else (if 0 < (x0_1.length : Int) then (if 0 < (x1_1.length : Int) then ((paths_Compare.f kj2 ((rd_T29 x0_1 0).f0) ((rd_T29 x1_1 0).f0)).bind fun t346 => (tree_Diff.j2 kj2 x0_1 x1_1 x5_1 t346)) else (none)) else (none)))) = some r := by rw [if_pos rfl] at H; exact H
            clear H
            have H := H1
            clear H1
            have HC9 := Aside0.mk H
            clear H
            go_upto_block 2 with (fail)
            go_cut [6] (fun v6 wc => ∃ (kq : Nat) (x6_8 : Int), v6 = .int .i64 x6_8 ∧ Aside0 (tree_Diff.j2 kq x0_1 x1_1 x5_1 x6_8 = some r) ∧ Aside0 (kq ≤ kj2) ∧ Aside0 (Kd.V k29 29 wc w.heap.size (fun k_ => ((P0_ k_ ∨ P1_ k_) ∨ w.heap.size ≤ k_) ∧ some k_ ≠ (u5 : Value).ownBlock) u0 x0_1) ∧ Aside0 (Kd.V k29 29 wc w.heap.size (fun k_ => ((P0_ k_ ∨ P1_ k_) ∨ w.heap.size ≤ k_) ∧ some k_ ≠ (u5 : Value).ownBlock) u1 x1_1) ∧ Aside0 (Kd.R Kd.string 9 wc w.heap.size (fun k_ => (w.heap.size ≤ k_)) u5 x5_1) ∧ Aside0 (Below w.heap.size w wc))
            case first =>
              have H := HC9.out
              clear HC9
              by_cases c10 : (x0_1.length : Int) = 0
              · rw [if_pos c10] at H
                have c10b0 : ((x0_1.length : Int) == 0) = true := beq_iff_eq.mpr c10
                have c10b1 : ((x0_1.length : Int) != 0) = false := bne_eq_false_iff_eq.mpr c10
                clear c10
                (first | rw [c10b0] | (simp only [i64_w, i32_w]; rw [c10b0]) | skip)
                have H' := Aside0.mk H
                clear H
                obtain ⟨Ao11, co11, eo11⟩ := Kd.V_slice HO_0.out
                subst eo11
                go_wp2
                go_meet
                case rel => exact ⟨_, (1), (by first | rfl | (simp; done) | (simp [*]; done)), H', ⟨by have := HK1.out; have := HJ2.out; first | omega | exact Nat.le_refl _⟩, ⟨by (with_reducible repeat (first | apply Kd.V_alloc | apply Kd.V_drewN | apply Kd.V_drew)); exact HO_0.out⟩, ⟨by (with_reducible repeat (first | apply Kd.V_alloc | apply Kd.V_drewN | apply Kd.V_drew)); exact HO_1.out⟩, ⟨by (with_reducible repeat (first | apply Kd.R_alloc | apply Kd.R_drewN | apply Kd.R_drew)); exact HO_5.out⟩, ⟨by repeat (first | (with_reducible first | exact HB.out | apply below_alloc | apply pw_below_drewN | apply below_drew1) | exact HB.out)⟩⟩
              · rw [if_neg c10] at H
                have c10b0 : ((x0_1.length : Int) == 0) = false := beq_eq_false_iff_ne.mpr c10
                have c10b1 : ((x0_1.length : Int) != 0) = true := bne_iff_ne.mpr c10
                have c10b2 : ¬ (x0_1 = []) := fun h_ => c10 (by rw [h_]; rfl)
                (first | rw [c10b0] | (simp only [i64_w, i32_w]; rw [c10b0]) | skip)
                by_cases c12 : (x1_1.length : Int) = 0
                · rw [if_pos c12] at H
                  have c12b0 : ((x1_1.length : Int) == 0) = true := beq_iff_eq.mpr c12
                  have c12b1 : ((x1_1.length : Int) != 0) = false := bne_eq_false_iff_eq.mpr c12
                  clear c12
                  have H' := Aside0.mk H
                  clear H
                  obtain ⟨Ao13, co13, eo13⟩ := Kd.V_slice HO_0.out
                  subst eo13
                  obtain ⟨Ao14, co14, eo14⟩ := Kd.V_slice HO_1.out
                  subst eo14
                  go_wp2
                  go_meet
                  case rel => exact ⟨_, ((-1)), (by first | rfl | (simp; done) | (simp [*]; done)), H', ⟨by have := HK1.out; have := HJ2.out; first | omega | exact Nat.le_refl _⟩, ⟨by (with_reducible repeat (first | apply Kd.V_alloc | apply Kd.V_drewN | apply Kd.V_drew)); exact HO_0.out⟩, ⟨by (with_reducible repeat (first | apply Kd.V_alloc | apply Kd.V_drewN | apply Kd.V_drew)); exact HO_1.out⟩, ⟨by (with_reducible repeat (first | apply Kd.R_alloc | apply Kd.R_drewN | apply Kd.R_drew)); exact HO_5.out⟩, ⟨by repeat (first | (with_reducible first | exact HB.out | apply below_alloc | apply pw_below_drewN | apply below_drew1) | exact HB.out)⟩⟩
                · rw [if_neg c12] at H
                  have c12b0 : ((x1_1.length : Int) == 0) = false := beq_eq_false_iff_ne.mpr c12
                  have c12b1 : ((x1_1.length : Int) != 0) = true := bne_iff_ne.mpr c12
                  have c12b2 : ¬ (x1_1 = []) := fun h_ => c12 (by rw [h_]; rfl)
                  by_cases c15 : 0 < (x0_1.length : Int)
                  · rw [if_pos c15] at H
                    have c15b0 : decide (0 < (x0_1.length : Int)) = true := decide_eq_true c15
                    have c15b1 : decide (0 < x0_1.length) = true := decide_eq_true (by omega)
                    clear c15
                    by_cases c16 : 0 < (x1_1.length : Int)
                    · rw [if_pos c16] at H
                      have c16b0 : decide (0 < (x1_1.length : Int)) = true := decide_eq_true c16
                      have c16b1 : decide (0 < x1_1.length) = true := decide_eq_true (by omega)
                      clear c16
                      replace H := Option.bind_eq_some_iff.mp H
                      obtain ⟨t346, A170, H⟩ := H
                      replace H : (tree_Diff.j2 kj2 x0_1 x1_1 x5_1 t346) = some r := H
                      have A17 := Aside0.mk A170
                      clear A170
                      have H' := Aside0.mk H
                      clear H
                      obtain ⟨Ao18, co18, eo18⟩ := Kd.V_slice HO_0.out
                      subst eo18
                      obtain ⟨Ao19, co19, eo19⟩ := Kd.V_slice HO_1.out
                      subst eo19
                      try go_wp2
                      have n0_ := Aside0.mk (Kd.V_drew HO_0.out)
                      have n1_ := Aside0.mk (Kd.V_drew HO_1.out)
                      have n2_ := Aside0.mk (Kd.R_drew HO_5.out)
                      have n3_ := Aside0.mk (below_drew1 HB.out)
                      clear HO_0
                      clear HO_1
                      clear HO_5
                      clear HB
                      have HO_0 := n0_
                      have HO_1 := n1_
                      have HO_5 := n2_
                      have HB := n3_
                      clear n0_ n1_ n2_ n3_
                      have p344 : 0 ≤ (0 : Int) := (by omega)
                      have q344 : 0 < (x0_1.length : Int) := of_decide_eq_true (by first | (with_reducible assumption) | assumption)
                      obtain ⟨ad344, e344, hx344_0, hx344_1⟩ := at_T29 (Kd.V_reads' HO_0.out).2.2 0 p344 q344
                      cases e344
                      have qi344 : (0 < x0_1.length) = True := eq_true (by omega)
                      (try rw [show ((0 : Int)).toNat = 0 from rfl] at hx344_0)
                      (try rw [show 0 * 2 = 0 from rfl] at hx344_0)
                      (try rw [Addr.add_zero'] at hx344_0)
                      (try rw [show ((0 : Int)).toNat = 0 from rfl] at hx344_1)
                      (try rw [show 0 * 2 = 0 from rfl] at hx344_1)
                      (try rw [Addr.add_zero'] at hx344_1)
                      replace p344 := eq_true p344
                      replace q344 := eq_true q344
                      have p345 : 0 ≤ (0 : Int) := (by omega)
                      have q345 : 0 < (x1_1.length : Int) := of_decide_eq_true (by first | (with_reducible assumption) | assumption)
                      obtain ⟨ad345, e345, hx345_0, hx345_1⟩ := at_T29 (Kd.V_reads' HO_1.out).2.2 0 p345 q345
                      cases e345
                      have qi345 : (0 < x1_1.length) = True := eq_true (by omega)
                      (try rw [show ((0 : Int)).toNat = 0 from rfl] at hx345_0)
                      (try rw [show 0 * 2 = 0 from rfl] at hx345_0)
                      (try rw [Addr.add_zero'] at hx345_0)
                      (try rw [show ((0 : Int)).toNat = 0 from rfl] at hx345_1)
                      (try rw [show 0 * 2 = 0 from rfl] at hx345_1)
                      (try rw [Addr.add_zero'] at hx345_1)
                      replace p345 := eq_true p345
                      replace q345 := eq_true q345
                      refine start_ (n := 10) (S := fun w' => w'.cell? ad344 = some (.string ((rd_T29 x0_1 0).f0)) ∧ w'.cell? ⟨ad344.block, ad344.off + 1, none⟩ = some (.string ((rd_T29 x0_1 0).f1)) ∧ w'.cell? ad345 = some (.string ((rd_T29 x1_1 0).f0)) ∧ w'.cell? ⟨ad345.block, ad345.off + 1, none⟩ = some (.string ((rd_T29 x1_1 0).f1))) (ds := []) #[false, false, false, false, false, false, false, false, false, false] (by kernel_rfl) rfl rfl ⟨hx344_0, hx344_1, hx345_0, hx345_1⟩ (fun hHeld => ?_); refine with_tabW tree_Diff.tab4 tree_Diff.bits4 (fun HT_ HW_ => ?_)
                      generalize wc.drew = w20 at HO_0 HO_1 HO_5 HB hx344_0 hx344_1 hx345_0 hx345_1 hHeld ⊢
                      refine pure_ (i := 0) (N := some 15) (v := ?_) (a' := ?_) #[true, false, false, false, false, false, false, false, false, false] rfl rfl (any_of HT_.out (by kernel_rfl)) (fun _ _ _ h => h) (Or.inl ⟨by rfl, ?_⟩) ?_ ?_
                      rotate_left
                      · intro w'
                        go_simp
                        with_reducible rfl
                      rotate_left
                      · simp only [Act.put, List.setIfInBounds_toArray, List.set_cons_zero, List.set_cons_succ, i64_w, i32_w]
                        rfl
                      refine pure_ (i := 1) (N := some 16) (v := ?_) (a' := ?_) #[true, true, false, false, false, false, false, false, false, false] rfl rfl (any_of HT_.out (by kernel_rfl)) (fun _ _ _ h => h) (Or.inl ⟨by rfl, ?_⟩) ?_ ?_
                      rotate_left
                      · intro w'
                        go_simp
                        with_reducible rfl
                      rotate_left
                      · simp only [Act.put, List.setIfInBounds_toArray, List.set_cons_zero, List.set_cons_succ, i64_w, i32_w]
                        rfl
                      refine pure_ (i := 2) (N := some 17) (v := ?_) (a' := ?_) #[true, true, true, false, false, false, false, false, false, false] rfl rfl (any_of HT_.out (by kernel_rfl)) (fun _ _ _ h => h) (Or.inl ⟨by rfl, ?_⟩) ?_ ?_
                      rotate_left
                      · intro w'
                        go_simp
                        with_reducible rfl
                      rotate_left
                      · simp only [Act.put, List.setIfInBounds_toArray, List.set_cons_zero, List.set_cons_succ, i64_w, i32_w]
                        rfl
                      refine pure_ (i := 4) (N := some 19) (v := ?_) (a' := ?_) #[true, true, true, false, true, false, false, false, false, false] rfl rfl (any_of HT_.out (by kernel_rfl)) (fun _ _ _ h => h) (Or.inl ⟨by rfl, ?_⟩) ?_ ?_
                      rotate_left
                      · intro w'
                        go_simp
                        with_reducible rfl
                      rotate_left
                      · simp only [Act.put, List.setIfInBounds_toArray, List.set_cons_zero, List.set_cons_succ, i64_w, i32_w]
                        rfl
                      refine pure_ (i := 5) (N := some 20) (v := ?_) (a' := ?_) #[true, true, true, false, true, true, false, false, false, false] rfl rfl (any_of HT_.out (by kernel_rfl)) (fun _ _ _ h => h) (Or.inl ⟨by rfl, ?_⟩) ?_ ?_
                      rotate_left
                      · intro w'
                        go_simp
                        with_reducible rfl
                      rotate_left
                      · simp only [Act.put, List.setIfInBounds_toArray, List.set_cons_zero, List.set_cons_succ, i64_w, i32_w]
                        rfl
                      refine pure_ (i := 6) (N := some 21) (v := ?_) (a' := ?_) #[true, true, true, false, true, true, true, false, false, false] rfl rfl (any_of HT_.out (by kernel_rfl)) (fun _ _ _ h => h) (Or.inl ⟨by rfl, ?_⟩) ?_ ?_
                      rotate_left
                      · intro w'
                        go_simp
                        with_reducible rfl
                      rotate_left
                      · simp only [Act.put, List.setIfInBounds_toArray, List.set_cons_zero, List.set_cons_succ, i64_w, i32_w]
                        rfl
                      refine take_ (i := 3) (N := some 18) (v := ?_) (a' := ?_) #[true, true, true, true, true, true, true, false, false, false] rfl rfl (take_ofW HT_.out HW_.out (by kernel_rfl)) (fun _ _ _ h => h) (Or.inl ⟨by rfl, ?_⟩) hHeld ?_ ?_
                      rotate_left
                      · rintro w' ⟨s0, s1, s2, s3⟩
                        go_simp
                        with_reducible rfl
                      rotate_left
                      · simp only [Act.put, List.setIfInBounds_toArray, List.set_cons_zero, List.set_cons_succ, i64_w, i32_w]
                        rfl
                      refine take_ (i := 7) (N := some 22) (v := ?_) (a' := ?_) #[true, true, true, true, true, true, true, true, false, false] rfl rfl (take_ofW HT_.out HW_.out (by kernel_rfl)) (fun _ _ _ h => h) (Or.inl ⟨by rfl, ?_⟩) hHeld ?_ ?_
                      rotate_left
                      · rintro w' ⟨s0, s1, s2, s3⟩
                        go_simp
                        with_reducible rfl
                      rotate_left
                      · simp only [Act.put, List.setIfInBounds_toArray, List.set_cons_zero, List.set_cons_succ, i64_w, i32_w]
                        rfl
                      refine one_ (i := 8) (N := some 23) #[true, true, true, true, true, true, true, true, true, false] rfl rfl (one_of HT_.out (by kernel_rfl)) (by decide) (fun K hK => ?_)
                      refine goes_ Try.func46 (by kernel_rfl) rfl #[.string ((rd_T29 x0_1 0).f0), .string ((rd_T29 x1_1 0).f0)] (by rfl) rfl rfl (by (try simp only [List.map_toArray, List.map_cons, List.map_nil]); first | done | rfl | (simp only [List.length_drop, List.length_take]; rfl)) ?_
                      with_reducible refine (paths_Compare.calls kj2 ((rd_T29 x0_1 0).f0) ((rd_T29 x1_1 0).f0) t346 _ A17.out).mono ?_
                      rintro e w21 ⟨rfl, hb⟩
                      have HS0_ := (hb.cell (World.block_lt_of_cell? _ _ (hHeld.1))).trans (hHeld.1)
                      have HS1_ := (hb.cell (World.block_lt_of_cell? _ _ (hHeld.2.1))).trans (hHeld.2.1)
                      have HS2_ := (hb.cell (World.block_lt_of_cell? _ _ (hHeld.2.2.1))).trans (hHeld.2.2.1)
                      have HS3_ := (hb.cell (World.block_lt_of_cell? _ _ (hHeld.2.2.2))).trans (hHeld.2.2.2)
                      refine ⟨_, rfl, ?_⟩
                      have n0_ := Aside0.mk (Kd.V_below (by (with_reducible repeat (first | apply Kd.V_alloc | apply Kd.V_drewN | apply Kd.V_drew)); exact HO_0.out) hb)
                      have n1_ := Aside0.mk (Kd.V_below (by (with_reducible repeat (first | apply Kd.V_alloc | apply Kd.V_drewN | apply Kd.V_drew)); exact HO_1.out) hb)
                      have n2_ := Aside0.mk (Kd.R_below (by (with_reducible repeat (first | apply Kd.R_alloc | apply Kd.R_drewN | apply Kd.R_drew)); exact HO_5.out) hb)
                      have n3_ := Aside0.mk (below_step (by repeat (first | (with_reducible first | exact HB.out | apply below_alloc | apply pw_below_drewN | apply below_drew1) | exact HB.out)) hb)
                      clear HO_0
                      clear HO_1
                      clear HO_5
                      clear HB
                      have HO_0 := n0_
                      have HO_1 := n1_
                      have HO_5 := n2_
                      have HB := n3_
                      clear n0_ n1_ n2_ n3_
                      (try clear hb)
                      (try clear hb2)
                      (try clear hk)
                      (try clear hi)
                      refine hK.out _ _ ⟨HS0_, HS1_, HS2_, HS3_⟩ (fun hHeld => ?_)
                      clear hK K
                      refine norm_ (a' := ?_) ?_ ?_
                      rotate_left
                      · show Act.put _ (some 23) _ = _
                        simp only [Act.put, List.setIfInBounds_toArray, List.set_cons_zero, List.set_cons_succ, i64_w, i32_w]
                        rfl
                      refine pure_ (i := 9) (N := some 6) (v := ?_) (a' := ?_) #[true, true, true, true, true, true, true, true, true, true] rfl rfl (any_of HT_.out (by kernel_rfl)) (fun _ _ _ h => h) (Or.inl ⟨by rfl, ?_⟩) ?_ ?_
                      rotate_left
                      · intro w'
                        go_simp
                        with_reducible rfl
                      rotate_left
                      · simp only [Act.put, List.setIfInBounds_toArray, List.set_cons_zero, List.set_cons_succ, i64_w, i32_w]
                        rfl
                      refine done_ (done_of HT_.out (by kernel_rfl)) ?_
                      try go_wp2
                      go_meet
                      case rel => exact ⟨_, (t346), (by first | rfl | (simp; done) | (simp [*]; done)), H', ⟨by have := HK1.out; have := HJ2.out; first | omega | exact Nat.le_refl _⟩, ⟨by (with_reducible repeat (first | apply Kd.V_alloc | apply Kd.V_drewN | apply Kd.V_drew)); exact HO_0.out⟩, ⟨by (with_reducible repeat (first | apply Kd.V_alloc | apply Kd.V_drewN | apply Kd.V_drew)); exact HO_1.out⟩, ⟨by (with_reducible repeat (first | apply Kd.R_alloc | apply Kd.R_drewN | apply Kd.R_drew)); exact HO_5.out⟩, ⟨by repeat (first | (with_reducible first | exact HB.out | apply below_alloc | apply pw_below_drewN | apply below_drew1) | exact HB.out)⟩⟩
                    · rw [if_neg c16] at H
                      exact absurd H (by simp)
                  · rw [if_neg c15] at H
                    exact absurd H (by simp)
            case rest =>
              clear HC9
              try clear c1
              try clear c2
              try clear p2
              try clear p3
              try clear q3
              try clear hx3
              try clear qi3
              try clear c4
              try clear c4b0
              try clear c4b1
              try clear c8
              try clear c10
              try clear c10b0
              try clear c10b1
              try clear c10b2
              try clear c12
              try clear c12b0
              try clear c12b1
              try clear c12b2
              try clear c15
              try clear c15b0
              try clear c15b1
              try clear c16
              try clear c16b0
              try clear c16b1
              try clear c21
              try clear hx344_0
              try clear hx344_1
              try clear hx345_0
              try clear hx345_1
              try clear p2
              try clear p344
              try clear p345
              try clear q344
              try clear q345
              obtain ⟨kq, x6_8, rfl, HA, HJ8, HO_0, HO_1, HO_5, HB⟩ := hcut
              cases kq with
              | zero => exact absurd HA.out (by simp [tree_Diff.j2])
              | succ kj8 =>
                have H := HA.out
                clear HA
                simp only [tree_Diff.j2] at H
                by_cases c22 : x6_8 < 0
                · rw [if_pos c22] at H
                  have c22b0 : decide (x6_8 < 0) = true := decide_eq_true c22
                  clear c22
                  by_cases c23 : 0 < (x0_1.length : Int)
                  · rw [if_pos c23] at H
                    have c23b0 : decide (0 < (x0_1.length : Int)) = true := decide_eq_true c23
                    have c23b1 : decide (0 < x0_1.length) = true := decide_eq_true (by omega)
                    clear c23
                    by_cases c24 : x5_1.length < 8796093022208
                    · rw [if_pos c24] at H
                      have LMc24 := Aside0.mk c24
                      clear c24
                      obtain ⟨y348, hy348⟩ : ∃ y_ : List ByteArray, y_ = (x5_1 ++ [(rd_T29 x0_1 0).f0]) := ⟨_, rfl⟩
                      replace H : (if 1 ≤ (x0_1.length : Int) then (tree_Diff.l0 kj8 (x0_1.drop 1) x1_1 y348) else (none)) = some r := by first | (rw [hy348]; with_reducible exact H) | (have H2_ := (Option.bind_some _ _).symm.trans H; rw [hy348]; with_reducible exact H2_) | (have H2_ := (Option.bind_some _ _).symm.trans H; with_reducible exact H2_) | with_reducible exact H | (rw [hy348]; exact H) | exact H
                      have Ny348 := Aside0.mk hy348
                      clear hy348
                      by_cases c25 : 1 ≤ (x0_1.length : Int)
                      · rw [if_pos c25] at H
                        have c25b0 := eq_true c25
                        have c25b1 : decide (1 ≤ (x0_1.length : Int)) = true := decide_eq_true c25
                        clear c25
                        obtain ⟨y351, hy351⟩ : ∃ y_ : List (S29), y_ = (x0_1.drop 1) := ⟨_, rfl⟩
                        replace H : (tree_Diff.l0 kj8 y351 x1_1 y348) = some r := by first | (rw [hy351]; with_reducible exact H) | (have H2_ := (Option.bind_some _ _).symm.trans H; rw [hy351]; with_reducible exact H2_) | (have H2_ := (Option.bind_some _ _).symm.trans H; with_reducible exact H2_) | with_reducible exact H | (rw [hy351]; exact H) | exact H
                        have Ny351 := Aside0.mk hy351
                        clear hy351
                        have H' := Aside0.mk H
                        clear H
                        try go_wp2
                        have n0_ := Aside0.mk (Kd.V_drew HO_0.out)
                        have n1_ := Aside0.mk (Kd.V_drew HO_1.out)
                        have n2_ := Aside0.mk (Kd.R_drew HO_5.out)
                        have n3_ := Aside0.mk (below_drew1 HB.out)
                        clear HO_0
                        clear HO_1
                        clear HO_5
                        clear HB
                        have HO_0 := n0_
                        have HO_1 := n1_
                        have HO_5 := n2_
                        have HB := n3_
                        clear n0_ n1_ n2_ n3_
                        obtain ⟨Ao27, co27, eo27⟩ := Kd.V_slice HO_0.out
                        (first | subst eo27 | (injection eo27 with f1_ f2_ f3_; have f4_ := f1_.symm; have f5_ := f3_.symm; clear f1_ f2_ f3_; subst f4_; subst f5_))
                        have p347 : 0 ≤ (0 : Int) := (by omega)
                        have q347 : 0 < (x0_1.length : Int) := of_decide_eq_true (by first | (with_reducible assumption) | assumption)
                        obtain ⟨ad347, e347, hx347_0, hx347_1⟩ := at_T29 (Kd.V_reads' HO_0.out).2.2 0 p347 q347
                        cases e347
                        have qi347 : (0 < x0_1.length) = True := eq_true (by omega)
                        (try rw [show ((0 : Int)).toNat = 0 from rfl] at hx347_0)
                        (try rw [show 0 * 2 = 0 from rfl] at hx347_0)
                        (try rw [Addr.add_zero'] at hx347_0)
                        (try rw [show ((0 : Int)).toNat = 0 from rfl] at hx347_1)
                        (try rw [show 0 * 2 = 0 from rfl] at hx347_1)
                        (try rw [Addr.add_zero'] at hx347_1)
                        replace p347 := eq_true p347
                        replace q347 := eq_true q347
                        have q28 : (1 : Int) ≤ ((x0_1.length : Int) : Int) := of_decide_eq_true (by first | (with_reducible assumption) | assumption)
                        obtain ⟨i028, hi028, _, hsz28, _⟩ := info_parts info29
                        have hroom28 : x0_1.length ≤ co27 := (Kd.V_reads' HO_0.out).2.1
                        have hC28 : Kd.F k29 _ _ (some ad347) x0_1.length x0_1 := (Kd.V_at (base := w.heap.size) HO_0.out).2.2
                        have hcut28 := cut_from (P := Try.prog) 22 29 .i64 Try.underlying22 hi028 2 hsz28 (some ad347) x0_1.length co27 1 (by omega) q28
                        have hr28 := Kd.F_cut (m := (1 : Int).toNat) (c := co27) hC28 (by omega) hroom28
                        obtain ⟨A28, hA28⟩ : ∃ A1, A1 = (if co27 = (1 : Int).toNat then (some ad347) else ((some ad347) : Option Addr).map (·.add ((1 : Int).toNat * 2))) := ⟨_, rfl⟩
                        obtain ⟨c28, hc28⟩ : ∃ c1, c1 = co27 - (1 : Int).toNat := ⟨_, rfl⟩
                        have hy28 : y351.length = x0_1.length - (1 : Int).toNat := (by rw [Ny351.out, List.length_drop] <;> omega)
                        rw [show (x0_1).drop (1 : Int).toNat = y351 from Ny351.out.symm] at hr28
                        replace hr28 : Kd.F k29 _ _ A28 y351.length y351 := (by rw [hA28]; exact hr28)
                        rw [← hy28, ← hA28, ← hc28] at hcut28
                        have HO355 := Aside0.mk (show Kd.V k29 29 _ w.heap.size _ (.slice A28 y351.length c28) y351 from Kd.V_mk (by rw [hy28, hc28]; exact Nat.sub_le_sub_right hroom28 _) hr28)
                        have HC355 := Aside0.mk (show y351.length ≤ c28 from by rw [hy28, hc28]; exact Nat.sub_le_sub_right hroom28 _)
                        clear hr28 hC28 hroom28 hi028 hsz28 hc28
                        have KY28 := Aside0.mk hy28
                        have KA28 := Aside0.mk hA28
                        clear hy28 hA28
                        replace q28 := eq_true q28
                        refine start_ (n := 11) (S := fun w' => w'.cell? ad347 = some (.string ((rd_T29 x0_1 0).f0)) ∧ w'.cell? ⟨ad347.block, ad347.off + 1, none⟩ = some (.string ((rd_T29 x0_1 0).f1))) (ds := [5, 6]) #[false, false, false, false, false, false, false, false, false, false, false] (by kernel_rfl) rfl rfl ⟨hx347_0, hx347_1⟩ (fun hHeld => ?_); refine with_tabW tree_Diff.tab13 tree_Diff.bits13 (fun HT_ HW_ => ?_)
                        generalize wc.drew = w26 at HO_0 HO_1 HO_5 HB HO355 hx347_0 hx347_1 hHeld ⊢
                        refine pure_ (i := 0) (N := some 55) (v := ?_) (a' := ?_) #[true, false, false, false, false, false, false, false, false, false, false] rfl rfl (any_of HT_.out (by kernel_rfl)) (fun _ _ _ h => h) (Or.inl ⟨by rfl, ?_⟩) ?_ ?_
                        rotate_left
                        · intro w'
                          go_simp
                          with_reducible rfl
                        rotate_left
                        · simp only [Act.put, List.setIfInBounds_toArray, List.set_cons_zero, List.set_cons_succ, i64_w, i32_w]
                          rfl
                        refine pure_ (i := 1) (N := some 56) (v := ?_) (a' := ?_) #[true, true, false, false, false, false, false, false, false, false, false] rfl rfl (any_of HT_.out (by kernel_rfl)) (fun _ _ _ h => h) (Or.inl ⟨by rfl, ?_⟩) ?_ ?_
                        rotate_left
                        · intro w'
                          go_simp
                          with_reducible rfl
                        rotate_left
                        · simp only [Act.put, List.setIfInBounds_toArray, List.set_cons_zero, List.set_cons_succ, i64_w, i32_w]
                          rfl
                        refine pure_ (i := 2) (N := some 57) (v := ?_) (a' := ?_) #[true, true, true, false, false, false, false, false, false, false, false] rfl rfl (any_of HT_.out (by kernel_rfl)) (fun _ _ _ h => h) (Or.inl ⟨by rfl, ?_⟩) ?_ ?_
                        rotate_left
                        · intro w'
                          go_simp
                          with_reducible rfl
                        rotate_left
                        · simp only [Act.put, List.setIfInBounds_toArray, List.set_cons_zero, List.set_cons_succ, i64_w, i32_w]
                          rfl
                        refine pure_ (i := 3) (N := some 58) (v := ?_) (a' := ?_) #[true, true, true, true, false, false, false, false, false, false, false] rfl rfl (any_of HT_.out (by kernel_rfl)) (fun _ _ _ h => h) (Or.inl ⟨by rfl, ?_⟩) ?_ ?_
                        rotate_left
                        · intro w'
                          go_simp
                          with_reducible rfl
                        rotate_left
                        · simp only [Act.put, List.setIfInBounds_toArray, List.set_cons_zero, List.set_cons_succ, i64_w, i32_w]
                          rfl
                        refine pure_ (i := 7) (N := some 62) (v := ?_) (a' := ?_) #[true, true, true, true, false, false, false, true, false, false, false] rfl rfl (any_of HT_.out (by kernel_rfl)) (fun _ _ _ h => h) (Or.inl ⟨by rfl, ?_⟩) ?_ ?_
                        rotate_left
                        · intro w'
                          go_simp
                          with_reducible rfl
                        rotate_left
                        · simp only [Act.put, List.setIfInBounds_toArray, List.set_cons_zero, List.set_cons_succ, i64_w, i32_w]
                          rfl
                        refine pure_ (i := 8) (N := some 63) (v := ?_) (a' := ?_) #[true, true, true, true, false, false, false, true, true, false, false] rfl rfl (any_of HT_.out (by kernel_rfl)) (fun _ _ _ h => h) (Or.inl ⟨by rfl, ?_⟩) ?_ ?_
                        rotate_left
                        · intro w'
                          go_simp
                          with_reducible rfl
                        rotate_left
                        · simp only [Act.put, List.setIfInBounds_toArray, List.set_cons_zero, List.set_cons_succ, i64_w, i32_w]
                          rfl
                        refine take_ (i := 4) (N := some 59) (v := ?_) (a' := ?_) #[true, true, true, true, true, false, false, true, true, false, false] rfl rfl (take_ofW HT_.out HW_.out (by kernel_rfl)) (fun _ _ _ h => h) (Or.inl ⟨by rfl, ?_⟩) hHeld ?_ ?_
                        rotate_left
                        · rintro w' ⟨s0, s1⟩
                          go_simp
                          with_reducible rfl
                        rotate_left
                        · simp only [Act.put, List.setIfInBounds_toArray, List.set_cons_zero, List.set_cons_succ, i64_w, i32_w]
                          rfl
                        refine last_ (i := 5) (N := some 60) #[true, true, true, true, true, true, false, true, true, false, false] rfl rfl (one_of HT_.out (by kernel_rfl)) (by decide) (fun K hK => ?_)
                        refine value_ (w1 := ?_) (v := ?_) (by rfl) rfl ?_ ?_
                        rotate_left 2
                        · go_simp
                          constructor
                          · rfl
                          · rfl
                        refine hK.out _ _ ?_
                        clear hK K
                        refine norm_ (a' := ?_) ?_ ?_
                        rotate_left
                        · show Act.put _ (some 60) _ = _
                          simp only [Act.put, List.setIfInBounds_toArray, List.set_cons_zero, List.set_cons_succ, i64_w, i32_w]
                          rfl
                        refine last_ (i := 6) (N := some 61) #[true, true, true, true, true, true, true, true, true, false, false] rfl rfl (one_of HT_.out (by kernel_rfl)) (by decide) (fun K hK => ?_)
                        refine Kd.R_append_step Kd.string (w0 := w) w.heap.size (by rfl) (.tmp 55) (.tmp 60) 41 9 (.string ⟨#[]⟩) 16 rfl Try.underlying41 info9 rfl (by decide) (by omega) u5 x5_1 ((rd_T29 x0_1 0).f0) [.string ((rd_T29 x0_1 0).f0)] (fun k_ => (w.heap.size ≤ k_)) (fun _ => False) rfl rfl ?aP (fun _ hk => hk.elim) ?aF ?aO ?aB ?aS ?aL ?_
                        (case aP => exact rfl)
                        (case aB => exact (by repeat (first | (with_reducible first | exact HB.out | apply below_alloc | apply pw_below_drewN | apply below_drew1) | exact HB.out)))
                        (case aF => exact (fun k_ hk => (Nat.le_trans (below_size (by repeat (first | (with_reducible first | exact HB.out | apply below_alloc | apply pw_below_drewN | apply below_drew1) | exact HB.out))) hk)))
                        (case aO => exact (by (with_reducible repeat (first | apply Kd.R_alloc | apply Kd.R_drewN | apply Kd.R_drew)); exact HO_5.out))
                        (case aS => exact (below_size (by repeat (first | (with_reducible first | exact HB.out | apply below_alloc | apply pw_below_drewN | apply below_drew1) | exact HB.out))))
                        (case aL => have := LMc24.out; omega)
                        intro v349 w29 ho hb hg hat
                        rw [← Ny348.out] at ho
                        have n0_ := Aside0.mk (Kd.V_afterv (ok := (fun k_ => ((P0_ k_ ∨ P1_ k_) ∨ w.heap.size ≤ k_))) (by (with_reducible repeat (first | apply Kd.V_alloc | apply Kd.V_drewN | apply Kd.V_drew)); exact HO_0.out) hg hat)
                        have n1_ := Aside0.mk (Kd.V_afterv (ok := (fun k_ => ((P0_ k_ ∨ P1_ k_) ∨ w.heap.size ≤ k_))) (by (with_reducible repeat (first | apply Kd.V_alloc | apply Kd.V_drewN | apply Kd.V_drew)); exact HO_1.out) hg hat)
                        have n2_ := Aside0.mk (Kd.V_afterv (ok := (fun k_ => ((P0_ k_ ∨ P1_ k_) ∨ w.heap.size ≤ k_))) (by (with_reducible repeat (first | apply Kd.V_alloc | apply Kd.V_drewN | apply Kd.V_drew)); exact HO355.out) hg hat)
                        have n3_ := Aside0.mk (hb)
                        have n4_ := Aside0.mk (ho)
                        clear HO_0
                        clear HO_1
                        clear HO355
                        clear HB
                        clear HO_5
                        have HO_0 := n0_
                        have HO_1 := n1_
                        have HO355 := n2_
                        have HB := n3_
                        have HO350 := n4_
                        clear n0_ n1_ n2_ n3_ n4_
                        clear ho hb hg hat
                        refine hK.out _ _ ?_
                        clear hK K
                        refine norm_ (a' := ?_) ?_ ?_
                        rotate_left
                        · show Act.put _ (some 61) _ = _
                          simp only [Act.put, List.setIfInBounds_toArray, List.set_cons_zero, List.set_cons_succ, i64_w, i32_w]
                          rfl
                        refine pure_ (i := 9) (N := some 5) (v := ?_) (a' := ?_) #[true, true, true, true, true, true, true, true, true, true, false] rfl rfl (any_of HT_.out (by kernel_rfl)) (fun _ _ _ h => h) (Or.inl ⟨by rfl, ?_⟩) ?_ ?_
                        rotate_left
                        · intro w'
                          go_simp
                          with_reducible rfl
                        rotate_left
                        · simp only [Act.put, List.setIfInBounds_toArray, List.set_cons_zero, List.set_cons_succ, i64_w, i32_w]
                          rfl
                        refine pure_ (i := 10) (N := some 0) (v := ?_) (a' := ?_) #[true, true, true, true, true, true, true, true, true, true, true] rfl rfl (any_of HT_.out (by kernel_rfl)) (fun _ _ _ h => h) (Or.inl ⟨by rfl, ?_⟩) ?_ ?_
                        rotate_left
                        · intro w'
                          go_simp
                          with_reducible rfl
                        rotate_left
                        · simp only [Act.put, List.setIfInBounds_toArray, List.set_cons_zero, List.set_cons_succ, i64_w, i32_w]
                          rfl
                        refine done_ (done_of HT_.out (by kernel_rfl)) ?_
                        try go_wp2
                        go_roundg kj8
                        case measure => have := HK1.out; have := HJ2.out; have := HJ8.out; omega
                        case rel => exact ⟨(y351), (x1_1), (y348), H', ⟨by have := HK1.out; have := HJ2.out; have := HJ8.out; omega⟩, ⟨by (with_reducible repeat (first | apply Kd.V_alloc | apply Kd.V_drewN | apply Kd.V_drew)); exact HO355.out⟩, ⟨by (with_reducible repeat (first | apply Kd.V_alloc | apply Kd.V_drewN | apply Kd.V_drew)); exact HO_1.out⟩, ⟨by (with_reducible repeat (first | apply Kd.R_alloc | apply Kd.R_drewN | apply Kd.R_drew)); exact HO350.out⟩, ⟨by repeat (first | (with_reducible first | exact HB.out | apply below_alloc | apply pw_below_drewN | apply below_drew1) | exact HB.out)⟩⟩
                      · rw [if_neg c25] at H
                        exact absurd H (by simp)
                    · rw [if_neg c24] at H
                      exact absurd H (by simp)
                  · rw [if_neg c23] at H
                    exact absurd H (by simp)
                · rw [if_neg c22] at H
                  have c22b0 : decide (x6_8 < 0) = false := decide_eq_false c22
                  clear c22
                  by_cases c30 : x6_8 > 0
                  · rw [if_pos c30] at H
                    have c30b0 : decide (0 < x6_8) = true := decide_eq_true c30
                    clear c30
                    by_cases c31 : 0 < (x1_1.length : Int)
                    · rw [if_pos c31] at H
                      have c31b0 : decide (0 < (x1_1.length : Int)) = true := decide_eq_true c31
                      have c31b1 : decide (0 < x1_1.length) = true := decide_eq_true (by omega)
                      clear c31
                      by_cases c32 : x5_1.length < 8796093022208
                      · rw [if_pos c32] at H
                        have LMc32 := Aside0.mk c32
                        clear c32
                        obtain ⟨y357, hy357⟩ : ∃ y_ : List ByteArray, y_ = (x5_1 ++ [(rd_T29 x1_1 0).f0]) := ⟨_, rfl⟩
                        replace H : (if 1 ≤ (x1_1.length : Int) then (tree_Diff.l0 kj8 x0_1 (x1_1.drop 1) y357) else (none)) = some r := by first | (rw [hy357]; with_reducible exact H) | (have H2_ := (Option.bind_some _ _).symm.trans H; rw [hy357]; with_reducible exact H2_) | (have H2_ := (Option.bind_some _ _).symm.trans H; with_reducible exact H2_) | with_reducible exact H | (rw [hy357]; exact H) | exact H
                        have Ny357 := Aside0.mk hy357
                        clear hy357
                        by_cases c33 : 1 ≤ (x1_1.length : Int)
                        · rw [if_pos c33] at H
                          have c33b0 := eq_true c33
                          have c33b1 : decide (1 ≤ (x1_1.length : Int)) = true := decide_eq_true c33
                          clear c33
                          obtain ⟨y360, hy360⟩ : ∃ y_ : List (S29), y_ = (x1_1.drop 1) := ⟨_, rfl⟩
                          replace H : (tree_Diff.l0 kj8 x0_1 y360 y357) = some r := by first | (rw [hy360]; with_reducible exact H) | (have H2_ := (Option.bind_some _ _).symm.trans H; rw [hy360]; with_reducible exact H2_) | (have H2_ := (Option.bind_some _ _).symm.trans H; with_reducible exact H2_) | with_reducible exact H | (rw [hy360]; exact H) | exact H
                          have Ny360 := Aside0.mk hy360
                          clear hy360
                          have H' := Aside0.mk H
                          clear H
                          try go_wp2
                          have n0_ := Aside0.mk (Kd.V_drew HO_0.out)
                          have n1_ := Aside0.mk (Kd.V_drew HO_1.out)
                          have n2_ := Aside0.mk (Kd.R_drew HO_5.out)
                          have n3_ := Aside0.mk (below_drew1 HB.out)
                          clear HO_0
                          clear HO_1
                          clear HO_5
                          clear HB
                          have HO_0 := n0_
                          have HO_1 := n1_
                          have HO_5 := n2_
                          have HB := n3_
                          clear n0_ n1_ n2_ n3_
                          obtain ⟨Ao35, co35, eo35⟩ := Kd.V_slice HO_1.out
                          (first | subst eo35 | (injection eo35 with f1_ f2_ f3_; have f4_ := f1_.symm; have f5_ := f3_.symm; clear f1_ f2_ f3_; subst f4_; subst f5_))
                          have p356 : 0 ≤ (0 : Int) := (by omega)
                          have q356 : 0 < (x1_1.length : Int) := of_decide_eq_true (by first | (with_reducible assumption) | assumption)
                          obtain ⟨ad356, e356, hx356_0, hx356_1⟩ := at_T29 (Kd.V_reads' HO_1.out).2.2 0 p356 q356
                          cases e356
                          have qi356 : (0 < x1_1.length) = True := eq_true (by omega)
                          (try rw [show ((0 : Int)).toNat = 0 from rfl] at hx356_0)
                          (try rw [show 0 * 2 = 0 from rfl] at hx356_0)
                          (try rw [Addr.add_zero'] at hx356_0)
                          (try rw [show ((0 : Int)).toNat = 0 from rfl] at hx356_1)
                          (try rw [show 0 * 2 = 0 from rfl] at hx356_1)
                          (try rw [Addr.add_zero'] at hx356_1)
                          replace p356 := eq_true p356
                          replace q356 := eq_true q356
                          have q36 : (1 : Int) ≤ ((x1_1.length : Int) : Int) := of_decide_eq_true (by first | (with_reducible assumption) | assumption)
                          obtain ⟨i036, hi036, _, hsz36, _⟩ := info_parts info29
                          have hroom36 : x1_1.length ≤ co35 := (Kd.V_reads' HO_1.out).2.1
                          have hC36 : Kd.F k29 _ _ (some ad356) x1_1.length x1_1 := (Kd.V_at (base := w.heap.size) HO_1.out).2.2
                          have hcut36 := cut_from (P := Try.prog) 22 29 .i64 Try.underlying22 hi036 2 hsz36 (some ad356) x1_1.length co35 1 (by omega) q36
                          have hr36 := Kd.F_cut (m := (1 : Int).toNat) (c := co35) hC36 (by omega) hroom36
                          obtain ⟨A36, hA36⟩ : ∃ A1, A1 = (if co35 = (1 : Int).toNat then (some ad356) else ((some ad356) : Option Addr).map (·.add ((1 : Int).toNat * 2))) := ⟨_, rfl⟩
                          obtain ⟨c36, hc36⟩ : ∃ c1, c1 = co35 - (1 : Int).toNat := ⟨_, rfl⟩
                          have hy36 : y360.length = x1_1.length - (1 : Int).toNat := (by rw [Ny360.out, List.length_drop] <;> omega)
                          rw [show (x1_1).drop (1 : Int).toNat = y360 from Ny360.out.symm] at hr36
                          replace hr36 : Kd.F k29 _ _ A36 y360.length y360 := (by rw [hA36]; exact hr36)
                          rw [← hy36, ← hA36, ← hc36] at hcut36
                          have HO364 := Aside0.mk (show Kd.V k29 29 _ w.heap.size _ (.slice A36 y360.length c36) y360 from Kd.V_mk (by rw [hy36, hc36]; exact Nat.sub_le_sub_right hroom36 _) hr36)
                          have HC364 := Aside0.mk (show y360.length ≤ c36 from by rw [hy36, hc36]; exact Nat.sub_le_sub_right hroom36 _)
                          clear hr36 hC36 hroom36 hi036 hsz36 hc36
                          have KY36 := Aside0.mk hy36
                          have KA36 := Aside0.mk hA36
                          clear hy36 hA36
                          replace q36 := eq_true q36
                          refine start_ (n := 11) (S := fun w' => w'.cell? ad356 = some (.string ((rd_T29 x1_1 0).f0)) ∧ w'.cell? ⟨ad356.block, ad356.off + 1, none⟩ = some (.string ((rd_T29 x1_1 0).f1))) (ds := [5, 6]) #[false, false, false, false, false, false, false, false, false, false, false] (by kernel_rfl) rfl rfl ⟨hx356_0, hx356_1⟩ (fun hHeld => ?_); refine with_tabW tree_Diff.tab15 tree_Diff.bits15 (fun HT_ HW_ => ?_)
                          generalize wc.drew = w34 at HO_0 HO_1 HO_5 HB HO364 hx356_0 hx356_1 hHeld ⊢
                          refine pure_ (i := 0) (N := some 67) (v := ?_) (a' := ?_) #[true, false, false, false, false, false, false, false, false, false, false] rfl rfl (any_of HT_.out (by kernel_rfl)) (fun _ _ _ h => h) (Or.inl ⟨by rfl, ?_⟩) ?_ ?_
                          rotate_left
                          · intro w'
                            go_simp
                            with_reducible rfl
                          rotate_left
                          · simp only [Act.put, List.setIfInBounds_toArray, List.set_cons_zero, List.set_cons_succ, i64_w, i32_w]
                            rfl
                          refine pure_ (i := 1) (N := some 68) (v := ?_) (a' := ?_) #[true, true, false, false, false, false, false, false, false, false, false] rfl rfl (any_of HT_.out (by kernel_rfl)) (fun _ _ _ h => h) (Or.inl ⟨by rfl, ?_⟩) ?_ ?_
                          rotate_left
                          · intro w'
                            go_simp
                            with_reducible rfl
                          rotate_left
                          · simp only [Act.put, List.setIfInBounds_toArray, List.set_cons_zero, List.set_cons_succ, i64_w, i32_w]
                            rfl
                          refine pure_ (i := 2) (N := some 69) (v := ?_) (a' := ?_) #[true, true, true, false, false, false, false, false, false, false, false] rfl rfl (any_of HT_.out (by kernel_rfl)) (fun _ _ _ h => h) (Or.inl ⟨by rfl, ?_⟩) ?_ ?_
                          rotate_left
                          · intro w'
                            go_simp
                            with_reducible rfl
                          rotate_left
                          · simp only [Act.put, List.setIfInBounds_toArray, List.set_cons_zero, List.set_cons_succ, i64_w, i32_w]
                            rfl
                          refine pure_ (i := 3) (N := some 70) (v := ?_) (a' := ?_) #[true, true, true, true, false, false, false, false, false, false, false] rfl rfl (any_of HT_.out (by kernel_rfl)) (fun _ _ _ h => h) (Or.inl ⟨by rfl, ?_⟩) ?_ ?_
                          rotate_left
                          · intro w'
                            go_simp
                            with_reducible rfl
                          rotate_left
                          · simp only [Act.put, List.setIfInBounds_toArray, List.set_cons_zero, List.set_cons_succ, i64_w, i32_w]
                            rfl
                          refine pure_ (i := 7) (N := some 74) (v := ?_) (a' := ?_) #[true, true, true, true, false, false, false, true, false, false, false] rfl rfl (any_of HT_.out (by kernel_rfl)) (fun _ _ _ h => h) (Or.inl ⟨by rfl, ?_⟩) ?_ ?_
                          rotate_left
                          · intro w'
                            go_simp
                            with_reducible rfl
                          rotate_left
                          · simp only [Act.put, List.setIfInBounds_toArray, List.set_cons_zero, List.set_cons_succ, i64_w, i32_w]
                            rfl
                          refine pure_ (i := 8) (N := some 75) (v := ?_) (a' := ?_) #[true, true, true, true, false, false, false, true, true, false, false] rfl rfl (any_of HT_.out (by kernel_rfl)) (fun _ _ _ h => h) (Or.inl ⟨by rfl, ?_⟩) ?_ ?_
                          rotate_left
                          · intro w'
                            go_simp
                            with_reducible rfl
                          rotate_left
                          · simp only [Act.put, List.setIfInBounds_toArray, List.set_cons_zero, List.set_cons_succ, i64_w, i32_w]
                            rfl
                          refine take_ (i := 4) (N := some 71) (v := ?_) (a' := ?_) #[true, true, true, true, true, false, false, true, true, false, false] rfl rfl (take_ofW HT_.out HW_.out (by kernel_rfl)) (fun _ _ _ h => h) (Or.inl ⟨by rfl, ?_⟩) hHeld ?_ ?_
                          rotate_left
                          · rintro w' ⟨s0, s1⟩
                            go_simp
                            with_reducible rfl
                          rotate_left
                          · simp only [Act.put, List.setIfInBounds_toArray, List.set_cons_zero, List.set_cons_succ, i64_w, i32_w]
                            rfl
                          refine last_ (i := 5) (N := some 72) #[true, true, true, true, true, true, false, true, true, false, false] rfl rfl (one_of HT_.out (by kernel_rfl)) (by decide) (fun K hK => ?_)
                          refine value_ (w1 := ?_) (v := ?_) (by rfl) rfl ?_ ?_
                          rotate_left 2
                          · go_simp
                            constructor
                            · rfl
                            · rfl
                          refine hK.out _ _ ?_
                          clear hK K
                          refine norm_ (a' := ?_) ?_ ?_
                          rotate_left
                          · show Act.put _ (some 72) _ = _
                            simp only [Act.put, List.setIfInBounds_toArray, List.set_cons_zero, List.set_cons_succ, i64_w, i32_w]
                            rfl
                          refine last_ (i := 6) (N := some 73) #[true, true, true, true, true, true, true, true, true, false, false] rfl rfl (one_of HT_.out (by kernel_rfl)) (by decide) (fun K hK => ?_)
                          refine Kd.R_append_step Kd.string (w0 := w) w.heap.size (by rfl) (.tmp 67) (.tmp 72) 41 9 (.string ⟨#[]⟩) 16 rfl Try.underlying41 info9 rfl (by decide) (by omega) u5 x5_1 ((rd_T29 x1_1 0).f0) [.string ((rd_T29 x1_1 0).f0)] (fun k_ => (w.heap.size ≤ k_)) (fun _ => False) rfl rfl ?aP (fun _ hk => hk.elim) ?aF ?aO ?aB ?aS ?aL ?_
                          (case aP => exact rfl)
                          (case aB => exact (by repeat (first | (with_reducible first | exact HB.out | apply below_alloc | apply pw_below_drewN | apply below_drew1) | exact HB.out)))
                          (case aF => exact (fun k_ hk => (Nat.le_trans (below_size (by repeat (first | (with_reducible first | exact HB.out | apply below_alloc | apply pw_below_drewN | apply below_drew1) | exact HB.out))) hk)))
                          (case aO => exact (by (with_reducible repeat (first | apply Kd.R_alloc | apply Kd.R_drewN | apply Kd.R_drew)); exact HO_5.out))
                          (case aS => exact (below_size (by repeat (first | (with_reducible first | exact HB.out | apply below_alloc | apply pw_below_drewN | apply below_drew1) | exact HB.out))))
                          (case aL => have := LMc32.out; omega)
                          intro v358 w37 ho hb hg hat
                          rw [← Ny357.out] at ho
                          have n0_ := Aside0.mk (Kd.V_afterv (ok := (fun k_ => ((P0_ k_ ∨ P1_ k_) ∨ w.heap.size ≤ k_))) (by (with_reducible repeat (first | apply Kd.V_alloc | apply Kd.V_drewN | apply Kd.V_drew)); exact HO_0.out) hg hat)
                          have n1_ := Aside0.mk (Kd.V_afterv (ok := (fun k_ => ((P0_ k_ ∨ P1_ k_) ∨ w.heap.size ≤ k_))) (by (with_reducible repeat (first | apply Kd.V_alloc | apply Kd.V_drewN | apply Kd.V_drew)); exact HO_1.out) hg hat)
                          have n2_ := Aside0.mk (Kd.V_afterv (ok := (fun k_ => ((P0_ k_ ∨ P1_ k_) ∨ w.heap.size ≤ k_))) (by (with_reducible repeat (first | apply Kd.V_alloc | apply Kd.V_drewN | apply Kd.V_drew)); exact HO364.out) hg hat)
                          have n3_ := Aside0.mk (hb)
                          have n4_ := Aside0.mk (ho)
                          clear HO_0
                          clear HO_1
                          clear HO364
                          clear HB
                          clear HO_5
                          have HO_0 := n0_
                          have HO_1 := n1_
                          have HO364 := n2_
                          have HB := n3_
                          have HO359 := n4_
                          clear n0_ n1_ n2_ n3_ n4_
                          clear ho hb hg hat
                          refine hK.out _ _ ?_
                          clear hK K
                          refine norm_ (a' := ?_) ?_ ?_
                          rotate_left
                          · show Act.put _ (some 73) _ = _
                            simp only [Act.put, List.setIfInBounds_toArray, List.set_cons_zero, List.set_cons_succ, i64_w, i32_w]
                            rfl
                          refine pure_ (i := 9) (N := some 5) (v := ?_) (a' := ?_) #[true, true, true, true, true, true, true, true, true, true, false] rfl rfl (any_of HT_.out (by kernel_rfl)) (fun _ _ _ h => h) (Or.inl ⟨by rfl, ?_⟩) ?_ ?_
                          rotate_left
                          · intro w'
                            go_simp
                            with_reducible rfl
                          rotate_left
                          · simp only [Act.put, List.setIfInBounds_toArray, List.set_cons_zero, List.set_cons_succ, i64_w, i32_w]
                            rfl
                          refine pure_ (i := 10) (N := some 1) (v := ?_) (a' := ?_) #[true, true, true, true, true, true, true, true, true, true, true] rfl rfl (any_of HT_.out (by kernel_rfl)) (fun _ _ _ h => h) (Or.inl ⟨by rfl, ?_⟩) ?_ ?_
                          rotate_left
                          · intro w'
                            go_simp
                            with_reducible rfl
                          rotate_left
                          · simp only [Act.put, List.setIfInBounds_toArray, List.set_cons_zero, List.set_cons_succ, i64_w, i32_w]
                            rfl
                          refine done_ (done_of HT_.out (by kernel_rfl)) ?_
                          try go_wp2
                          go_roundg kj8
                          case measure => have := HK1.out; have := HJ2.out; have := HJ8.out; omega
                          case rel => exact ⟨(x0_1), (y360), (y357), H', ⟨by have := HK1.out; have := HJ2.out; have := HJ8.out; omega⟩, ⟨by (with_reducible repeat (first | apply Kd.V_alloc | apply Kd.V_drewN | apply Kd.V_drew)); exact HO_0.out⟩, ⟨by (with_reducible repeat (first | apply Kd.V_alloc | apply Kd.V_drewN | apply Kd.V_drew)); exact HO364.out⟩, ⟨by (with_reducible repeat (first | apply Kd.R_alloc | apply Kd.R_drewN | apply Kd.R_drew)); exact HO359.out⟩, ⟨by repeat (first | (with_reducible first | exact HB.out | apply below_alloc | apply pw_below_drewN | apply below_drew1) | exact HB.out)⟩⟩
                        · rw [if_neg c33] at H
                          exact absurd H (by simp)
                      · rw [if_neg c32] at H
                        exact absurd H (by simp)
                    · rw [if_neg c31] at H
                      exact absurd H (by simp)
                  · rw [if_neg c30] at H
                    have c30b0 : decide (0 < x6_8) = false := decide_eq_false c30
                    clear c30
                    by_cases c38 : 0 < (x0_1.length : Int)
                    · rw [if_pos c38] at H
                      have c38b0 : decide (0 < (x0_1.length : Int)) = true := decide_eq_true c38
                      have c38b1 : decide (0 < x0_1.length) = true := decide_eq_true (by omega)
                      clear c38
                      by_cases c39 : 0 < (x1_1.length : Int)
                      · rw [if_pos c39] at H
                        have c39b0 : decide (0 < (x1_1.length : Int)) = true := decide_eq_true c39
                        have c39b1 : decide (0 < x1_1.length) = true := decide_eq_true (by omega)
                        clear c39
                        by_cases c40 : ((rd_T29 x0_1 0).f1).toList = ((rd_T29 x1_1 0).f1).toList
                        · rw [if_pos c40] at H
                          have c40b0 : (((rd_T29 x0_1 0).f1).toList == ((rd_T29 x1_1 0).f1).toList) = true := beq_iff_eq.mpr c40
                          have c40b1 : (((rd_T29 x0_1 0).f1).toList != ((rd_T29 x1_1 0).f1).toList) = false := bne_eq_false_iff_eq.mpr c40
                          clear c40
                          by_cases c41 : 1 ≤ (x0_1.length : Int)
                          · rw [if_pos c41] at H
                            have c41b0 := eq_true c41
                            have c41b1 : decide (1 ≤ (x0_1.length : Int)) = true := decide_eq_true c41
                            clear c41
                            obtain ⟨y367, hy367⟩ : ∃ y_ : List (S29), y_ = (x0_1.drop 1) := ⟨_, rfl⟩
                            replace H : (if 1 ≤ (x1_1.length : Int) then (tree_Diff.l0 kj8 y367 (x1_1.drop 1) x5_1) else (none)) = some r := by first | (rw [hy367]; with_reducible exact H) | (have H2_ := (Option.bind_some _ _).symm.trans H; rw [hy367]; with_reducible exact H2_) | (have H2_ := (Option.bind_some _ _).symm.trans H; with_reducible exact H2_) | with_reducible exact H | (rw [hy367]; exact H) | exact H
                            have Ny367 := Aside0.mk hy367
                            clear hy367
                            by_cases c42 : 1 ≤ (x1_1.length : Int)
                            · rw [if_pos c42] at H
                              have c42b0 := eq_true c42
                              have c42b1 : decide (1 ≤ (x1_1.length : Int)) = true := decide_eq_true c42
                              clear c42
                              obtain ⟨y372, hy372⟩ : ∃ y_ : List (S29), y_ = (x1_1.drop 1) := ⟨_, rfl⟩
                              replace H : (tree_Diff.l0 kj8 y367 y372 x5_1) = some r := by first | (rw [hy372]; with_reducible exact H) | (have H2_ := (Option.bind_some _ _).symm.trans H; rw [hy372]; with_reducible exact H2_) | (have H2_ := (Option.bind_some _ _).symm.trans H; with_reducible exact H2_) | with_reducible exact H | (rw [hy372]; exact H) | exact H
                              have Ny372 := Aside0.mk hy372
                              clear hy372
                              have H' := Aside0.mk H
                              clear H
                              try go_wp2
                              have n0_ := Aside0.mk (Kd.V_drew HO_0.out)
                              have n1_ := Aside0.mk (Kd.V_drew HO_1.out)
                              have n2_ := Aside0.mk (Kd.R_drew HO_5.out)
                              have n3_ := Aside0.mk (below_drew1 HB.out)
                              clear HO_0
                              clear HO_1
                              clear HO_5
                              clear HB
                              have HO_0 := n0_
                              have HO_1 := n1_
                              have HO_5 := n2_
                              have HB := n3_
                              clear n0_ n1_ n2_ n3_
                              obtain ⟨Ao44, co44, eo44⟩ := Kd.V_slice HO_0.out
                              (first | subst eo44 | (injection eo44 with f1_ f2_ f3_; have f4_ := f1_.symm; have f5_ := f3_.symm; clear f1_ f2_ f3_; subst f4_; subst f5_))
                              have p365 : 0 ≤ (0 : Int) := (by omega)
                              have q365 : 0 < (x0_1.length : Int) := of_decide_eq_true (by first | (with_reducible assumption) | assumption)
                              obtain ⟨ad365, e365, hx365_0, hx365_1⟩ := at_T29 (Kd.V_reads' HO_0.out).2.2 0 p365 q365
                              cases e365
                              have qi365 : (0 < x0_1.length) = True := eq_true (by omega)
                              (try rw [show ((0 : Int)).toNat = 0 from rfl] at hx365_0)
                              (try rw [show 0 * 2 = 0 from rfl] at hx365_0)
                              (try rw [Addr.add_zero'] at hx365_0)
                              (try rw [show ((0 : Int)).toNat = 0 from rfl] at hx365_1)
                              (try rw [show 0 * 2 = 0 from rfl] at hx365_1)
                              (try rw [Addr.add_zero'] at hx365_1)
                              replace p365 := eq_true p365
                              replace q365 := eq_true q365
                              obtain ⟨Ao45, co45, eo45⟩ := Kd.V_slice HO_1.out
                              (first | subst eo45 | (injection eo45 with f1_ f2_ f3_; have f4_ := f1_.symm; have f5_ := f3_.symm; clear f1_ f2_ f3_; subst f4_; subst f5_))
                              have p366 : 0 ≤ (0 : Int) := (by omega)
                              have q366 : 0 < (x1_1.length : Int) := of_decide_eq_true (by first | (with_reducible assumption) | assumption)
                              obtain ⟨ad366, e366, hx366_0, hx366_1⟩ := at_T29 (Kd.V_reads' HO_1.out).2.2 0 p366 q366
                              cases e366
                              have qi366 : (0 < x1_1.length) = True := eq_true (by omega)
                              (try rw [show ((0 : Int)).toNat = 0 from rfl] at hx366_0)
                              (try rw [show 0 * 2 = 0 from rfl] at hx366_0)
                              (try rw [Addr.add_zero'] at hx366_0)
                              (try rw [show ((0 : Int)).toNat = 0 from rfl] at hx366_1)
                              (try rw [show 0 * 2 = 0 from rfl] at hx366_1)
                              (try rw [Addr.add_zero'] at hx366_1)
                              replace p366 := eq_true p366
                              replace q366 := eq_true q366
                              refine start_ (n := 9) (S := fun w' => w'.cell? ad365 = some (.string ((rd_T29 x0_1 0).f0)) ∧ w'.cell? ⟨ad365.block, ad365.off + 1, none⟩ = some (.string ((rd_T29 x0_1 0).f1)) ∧ w'.cell? ad366 = some (.string ((rd_T29 x1_1 0).f0)) ∧ w'.cell? ⟨ad366.block, ad366.off + 1, none⟩ = some (.string ((rd_T29 x1_1 0).f1))) (ds := []) #[false, false, false, false, false, false, false, false, false] (by kernel_rfl) rfl rfl ⟨hx365_0, hx365_1, hx366_0, hx366_1⟩ (fun hHeld => ?_); refine with_tabW tree_Diff.tab9 tree_Diff.bits9 (fun HT_ HW_ => ?_)
                              generalize wc.drew = w43 at HO_0 HO_1 HO_5 HB hx365_0 hx365_1 hx366_0 hx366_1 hHeld ⊢
                              refine pure_ (i := 0) (N := some 32) (v := ?_) (a' := ?_) #[true, false, false, false, false, false, false, false, false] rfl rfl (any_of HT_.out (by kernel_rfl)) (fun _ _ _ h => h) (Or.inl ⟨by rfl, ?_⟩) ?_ ?_
                              rotate_left
                              · intro w'
                                go_simp
                                with_reducible rfl
                              rotate_left
                              · simp only [Act.put, List.setIfInBounds_toArray, List.set_cons_zero, List.set_cons_succ, i64_w, i32_w]
                                rfl
                              refine pure_ (i := 1) (N := some 33) (v := ?_) (a' := ?_) #[true, true, false, false, false, false, false, false, false] rfl rfl (any_of HT_.out (by kernel_rfl)) (fun _ _ _ h => h) (Or.inl ⟨by rfl, ?_⟩) ?_ ?_
                              rotate_left
                              · intro w'
                                go_simp
                                with_reducible rfl
                              rotate_left
                              · simp only [Act.put, List.setIfInBounds_toArray, List.set_cons_zero, List.set_cons_succ, i64_w, i32_w]
                                rfl
                              refine pure_ (i := 2) (N := some 34) (v := ?_) (a' := ?_) #[true, true, true, false, false, false, false, false, false] rfl rfl (any_of HT_.out (by kernel_rfl)) (fun _ _ _ h => h) (Or.inl ⟨by rfl, ?_⟩) ?_ ?_
                              rotate_left
                              · intro w'
                                go_simp
                                with_reducible rfl
                              rotate_left
                              · simp only [Act.put, List.setIfInBounds_toArray, List.set_cons_zero, List.set_cons_succ, i64_w, i32_w]
                                rfl
                              refine pure_ (i := 4) (N := some 36) (v := ?_) (a' := ?_) #[true, true, true, false, true, false, false, false, false] rfl rfl (any_of HT_.out (by kernel_rfl)) (fun _ _ _ h => h) (Or.inl ⟨by rfl, ?_⟩) ?_ ?_
                              rotate_left
                              · intro w'
                                go_simp
                                with_reducible rfl
                              rotate_left
                              · simp only [Act.put, List.setIfInBounds_toArray, List.set_cons_zero, List.set_cons_succ, i64_w, i32_w]
                                rfl
                              refine pure_ (i := 5) (N := some 37) (v := ?_) (a' := ?_) #[true, true, true, false, true, true, false, false, false] rfl rfl (any_of HT_.out (by kernel_rfl)) (fun _ _ _ h => h) (Or.inl ⟨by rfl, ?_⟩) ?_ ?_
                              rotate_left
                              · intro w'
                                go_simp
                                with_reducible rfl
                              rotate_left
                              · simp only [Act.put, List.setIfInBounds_toArray, List.set_cons_zero, List.set_cons_succ, i64_w, i32_w]
                                rfl
                              refine pure_ (i := 6) (N := some 38) (v := ?_) (a' := ?_) #[true, true, true, false, true, true, true, false, false] rfl rfl (any_of HT_.out (by kernel_rfl)) (fun _ _ _ h => h) (Or.inl ⟨by rfl, ?_⟩) ?_ ?_
                              rotate_left
                              · intro w'
                                go_simp
                                with_reducible rfl
                              rotate_left
                              · simp only [Act.put, List.setIfInBounds_toArray, List.set_cons_zero, List.set_cons_succ, i64_w, i32_w]
                                rfl
                              refine take_ (i := 3) (N := some 35) (v := ?_) (a' := ?_) #[true, true, true, true, true, true, true, false, false] rfl rfl (take_ofW HT_.out HW_.out (by kernel_rfl)) (fun _ _ _ h => h) (Or.inl ⟨by rfl, ?_⟩) hHeld ?_ ?_
                              rotate_left
                              · rintro w' ⟨s0, s1, s2, s3⟩
                                go_simp
                                with_reducible rfl
                              rotate_left
                              · simp only [Act.put, List.setIfInBounds_toArray, List.set_cons_zero, List.set_cons_succ, i64_w, i32_w]
                                rfl
                              refine take_ (i := 7) (N := some 39) (v := ?_) (a' := ?_) #[true, true, true, true, true, true, true, true, false] rfl rfl (take_ofW HT_.out HW_.out (by kernel_rfl)) (fun _ _ _ h => h) (Or.inl ⟨by rfl, ?_⟩) hHeld ?_ ?_
                              rotate_left
                              · rintro w' ⟨s0, s1, s2, s3⟩
                                go_simp
                                with_reducible rfl
                              rotate_left
                              · simp only [Act.put, List.setIfInBounds_toArray, List.set_cons_zero, List.set_cons_succ, i64_w, i32_w]
                                rfl
                              refine pure_ (i := 8) (N := some 40) (v := ?_) (a' := ?_) #[true, true, true, true, true, true, true, true, true] rfl rfl (any_of HT_.out (by kernel_rfl)) (fun _ _ _ h => h) (Or.inl ⟨by rfl, ?_⟩) ?_ ?_
                              rotate_left
                              · intro w'
                                go_simp
                                with_reducible rfl
                              rotate_left
                              · simp only [Act.put, List.setIfInBounds_toArray, List.set_cons_zero, List.set_cons_succ, i64_w, i32_w]
                                rfl
                              refine done_ (done_of HT_.out (by kernel_rfl)) ?_
                              try go_wp2
                              have n0_ := Aside0.mk (Kd.V_drew HO_0.out)
                              have n1_ := Aside0.mk (Kd.V_drew HO_1.out)
                              have n2_ := Aside0.mk (Kd.R_drew HO_5.out)
                              have n3_ := Aside0.mk (below_drew1 HB.out)
                              clear HO_0
                              clear HO_1
                              clear HO_5
                              clear HB
                              have HO_0 := n0_
                              have HO_1 := n1_
                              have HO_5 := n2_
                              have HB := n3_
                              clear n0_ n1_ n2_ n3_
                              have q47 : (1 : Int) ≤ ((x0_1.length : Int) : Int) := of_decide_eq_true (by first | (with_reducible assumption) | assumption)
                              obtain ⟨i047, hi047, _, hsz47, _⟩ := info_parts info29
                              have hroom47 : x0_1.length ≤ co44 := (Kd.V_reads' HO_0.out).2.1
                              have hC47 : Kd.F k29 _ _ (some ad365) x0_1.length x0_1 := (Kd.V_at (base := w.heap.size) HO_0.out).2.2
                              have hcut47 := cut_from (P := Try.prog) 22 29 .i64 Try.underlying22 hi047 2 hsz47 (some ad365) x0_1.length co44 1 (by omega) q47
                              have hr47 := Kd.F_cut (m := (1 : Int).toNat) (c := co44) hC47 (by omega) hroom47
                              obtain ⟨A47, hA47⟩ : ∃ A1, A1 = (if co44 = (1 : Int).toNat then (some ad365) else ((some ad365) : Option Addr).map (·.add ((1 : Int).toNat * 2))) := ⟨_, rfl⟩
                              obtain ⟨c47, hc47⟩ : ∃ c1, c1 = co44 - (1 : Int).toNat := ⟨_, rfl⟩
                              have hy47 : y367.length = x0_1.length - (1 : Int).toNat := (by rw [Ny367.out, List.length_drop] <;> omega)
                              rw [show (x0_1).drop (1 : Int).toNat = y367 from Ny367.out.symm] at hr47
                              replace hr47 : Kd.F k29 _ _ A47 y367.length y367 := (by rw [hA47]; exact hr47)
                              rw [← hy47, ← hA47, ← hc47] at hcut47
                              have HO371 := Aside0.mk (show Kd.V k29 29 _ w.heap.size _ (.slice A47 y367.length c47) y367 from Kd.V_mk (by rw [hy47, hc47]; exact Nat.sub_le_sub_right hroom47 _) hr47)
                              have HC371 := Aside0.mk (show y367.length ≤ c47 from by rw [hy47, hc47]; exact Nat.sub_le_sub_right hroom47 _)
                              clear hr47 hC47 hroom47 hi047 hsz47 hc47
                              have KY47 := Aside0.mk hy47
                              have KA47 := Aside0.mk hA47
                              clear hy47 hA47
                              replace q47 := eq_true q47
                              have q48 : (1 : Int) ≤ ((x1_1.length : Int) : Int) := of_decide_eq_true (by first | (with_reducible assumption) | assumption)
                              obtain ⟨i048, hi048, _, hsz48, _⟩ := info_parts info29
                              have hroom48 : x1_1.length ≤ co45 := (Kd.V_reads' HO_1.out).2.1
                              have hC48 : Kd.F k29 _ _ (some ad366) x1_1.length x1_1 := (Kd.V_at (base := w.heap.size) HO_1.out).2.2
                              have hcut48 := cut_from (P := Try.prog) 22 29 .i64 Try.underlying22 hi048 2 hsz48 (some ad366) x1_1.length co45 1 (by omega) q48
                              have hr48 := Kd.F_cut (m := (1 : Int).toNat) (c := co45) hC48 (by omega) hroom48
                              obtain ⟨A48, hA48⟩ : ∃ A1, A1 = (if co45 = (1 : Int).toNat then (some ad366) else ((some ad366) : Option Addr).map (·.add ((1 : Int).toNat * 2))) := ⟨_, rfl⟩
                              obtain ⟨c48, hc48⟩ : ∃ c1, c1 = co45 - (1 : Int).toNat := ⟨_, rfl⟩
                              have hy48 : y372.length = x1_1.length - (1 : Int).toNat := (by rw [Ny372.out, List.length_drop] <;> omega)
                              rw [show (x1_1).drop (1 : Int).toNat = y372 from Ny372.out.symm] at hr48
                              replace hr48 : Kd.F k29 _ _ A48 y372.length y372 := (by rw [hA48]; exact hr48)
                              rw [← hy48, ← hA48, ← hc48] at hcut48
                              have HO376 := Aside0.mk (show Kd.V k29 29 _ w.heap.size _ (.slice A48 y372.length c48) y372 from Kd.V_mk (by rw [hy48, hc48]; exact Nat.sub_le_sub_right hroom48 _) hr48)
                              have HC376 := Aside0.mk (show y372.length ≤ c48 from by rw [hy48, hc48]; exact Nat.sub_le_sub_right hroom48 _)
                              clear hr48 hC48 hroom48 hi048 hsz48 hc48
                              have KY48 := Aside0.mk hy48
                              have KA48 := Aside0.mk hA48
                              clear hy48 hA48
                              replace q48 := eq_true q48
                              refine start_ (n := 6) (S := fun w' => True) (ds := []) #[false, false, false, false, false, false] (by kernel_rfl) rfl rfl trivial (fun hHeld => ?_)
                              generalize w43.drew = w46 at HO_0 HO_1 HO_5 HB HO371 HO376 hHeld ⊢
                              refine pure_ (i := 0) (N := some 48) (v := ?_) (a' := ?_) #[true, false, false, false, false, false] rfl rfl (by kernel_rfl) (fun _ _ _ h => h) (Or.inl ⟨by rfl, ?_⟩) ?_ ?_
                              rotate_left
                              · intro w'
                                go_simp
                                with_reducible rfl
                              rotate_left
                              · simp only [Act.put, List.setIfInBounds_toArray, List.set_cons_zero, List.set_cons_succ, i64_w, i32_w]
                                rfl
                              refine pure_ (i := 1) (N := some 49) (v := ?_) (a' := ?_) #[true, true, false, false, false, false] rfl rfl (by kernel_rfl) (fun _ _ _ h => h) (Or.inl ⟨by rfl, ?_⟩) ?_ ?_
                              rotate_left
                              · intro w'
                                go_simp
                                with_reducible rfl
                              rotate_left
                              · simp only [Act.put, List.setIfInBounds_toArray, List.set_cons_zero, List.set_cons_succ, i64_w, i32_w]
                                rfl
                              refine pure_ (i := 2) (N := some 50) (v := ?_) (a' := ?_) #[true, true, true, false, false, false] rfl rfl (by kernel_rfl) (fun _ _ _ h => h) (Or.inl ⟨by rfl, ?_⟩) ?_ ?_
                              rotate_left
                              · intro w'
                                go_simp
                                with_reducible rfl
                              rotate_left
                              · simp only [Act.put, List.setIfInBounds_toArray, List.set_cons_zero, List.set_cons_succ, i64_w, i32_w]
                                rfl
                              refine pure_ (i := 3) (N := some 51) (v := ?_) (a' := ?_) #[true, true, true, true, false, false] rfl rfl (by kernel_rfl) (fun _ _ _ h => h) (Or.inl ⟨by rfl, ?_⟩) ?_ ?_
                              rotate_left
                              · intro w'
                                go_simp
                                with_reducible rfl
                              rotate_left
                              · simp only [Act.put, List.setIfInBounds_toArray, List.set_cons_zero, List.set_cons_succ, i64_w, i32_w]
                                rfl
                              refine pure_ (i := 4) (N := some 0) (v := ?_) (a' := ?_) #[true, true, true, true, true, false] rfl rfl (by kernel_rfl) (fun _ _ _ h => h) (Or.inl ⟨by rfl, ?_⟩) ?_ ?_
                              rotate_left
                              · intro w'
                                go_simp
                                with_reducible rfl
                              rotate_left
                              · simp only [Act.put, List.setIfInBounds_toArray, List.set_cons_zero, List.set_cons_succ, i64_w, i32_w]
                                rfl
                              refine pure_ (i := 5) (N := some 1) (v := ?_) (a' := ?_) #[true, true, true, true, true, true] rfl rfl (by kernel_rfl) (fun _ _ _ h => h) (Or.inl ⟨by rfl, ?_⟩) ?_ ?_
                              rotate_left
                              · intro w'
                                go_simp
                                with_reducible rfl
                              rotate_left
                              · simp only [Act.put, List.setIfInBounds_toArray, List.set_cons_zero, List.set_cons_succ, i64_w, i32_w]
                                rfl
                              refine done_ (by kernel_rfl) ?_
                              try go_wp2
                              go_roundg kj8
                              case measure => have := HK1.out; have := HJ2.out; have := HJ8.out; omega
                              case rel => exact ⟨(y367), (y372), (x5_1), H', ⟨by have := HK1.out; have := HJ2.out; have := HJ8.out; omega⟩, ⟨by (with_reducible repeat (first | apply Kd.V_alloc | apply Kd.V_drewN | apply Kd.V_drew)); exact HO371.out⟩, ⟨by (with_reducible repeat (first | apply Kd.V_alloc | apply Kd.V_drewN | apply Kd.V_drew)); exact HO376.out⟩, ⟨by (with_reducible repeat (first | apply Kd.R_alloc | apply Kd.R_drewN | apply Kd.R_drew)); exact HO_5.out⟩, ⟨by repeat (first | (with_reducible first | exact HB.out | apply below_alloc | apply pw_below_drewN | apply below_drew1) | exact HB.out)⟩⟩
                            · rw [if_neg c42] at H
                              exact absurd H (by simp)
                          · rw [if_neg c41] at H
                            exact absurd H (by simp)
                        · rw [if_neg c40] at H
                          have c40b0 : (((rd_T29 x0_1 0).f1).toList == ((rd_T29 x1_1 0).f1).toList) = false := beq_eq_false_iff_ne.mpr c40
                          have c40b1 : (((rd_T29 x0_1 0).f1).toList != ((rd_T29 x1_1 0).f1).toList) = true := bne_iff_ne.mpr c40
                          by_cases c49 : x5_1.length < 8796093022208
                          · rw [if_pos c49] at H
                            have LMc49 := Aside0.mk c49
                            clear c49
                            obtain ⟨y378, hy378⟩ : ∃ y_ : List ByteArray, y_ = (x5_1 ++ [(rd_T29 x0_1 0).f0]) := ⟨_, rfl⟩
                            replace H : (if 1 ≤ (x0_1.length : Int) then (if 1 ≤ (x1_1.length : Int) then (tree_Diff.l0 kj8 (x0_1.drop 1) (x1_1.drop 1) y378) else (none)) else (none)) = some r := by first | (rw [hy378]; with_reducible exact H) | (have H2_ := (Option.bind_some _ _).symm.trans H; rw [hy378]; with_reducible exact H2_) | (have H2_ := (Option.bind_some _ _).symm.trans H; with_reducible exact H2_) | with_reducible exact H | (rw [hy378]; exact H) | exact H
                            have Ny378 := Aside0.mk hy378
                            clear hy378
                            by_cases c50 : 1 ≤ (x0_1.length : Int)
                            · rw [if_pos c50] at H
                              have c50b0 := eq_true c50
                              have c50b1 : decide (1 ≤ (x0_1.length : Int)) = true := decide_eq_true c50
                              clear c50
                              obtain ⟨y381, hy381⟩ : ∃ y_ : List (S29), y_ = (x0_1.drop 1) := ⟨_, rfl⟩
                              replace H : (if 1 ≤ (x1_1.length : Int) then (tree_Diff.l0 kj8 y381 (x1_1.drop 1) y378) else (none)) = some r := by first | (rw [hy381]; with_reducible exact H) | (have H2_ := (Option.bind_some _ _).symm.trans H; rw [hy381]; with_reducible exact H2_) | (have H2_ := (Option.bind_some _ _).symm.trans H; with_reducible exact H2_) | with_reducible exact H | (rw [hy381]; exact H) | exact H
                              have Ny381 := Aside0.mk hy381
                              clear hy381
                              by_cases c51 : 1 ≤ (x1_1.length : Int)
                              · rw [if_pos c51] at H
                                have c51b0 := eq_true c51
                                have c51b1 : decide (1 ≤ (x1_1.length : Int)) = true := decide_eq_true c51
                                clear c51
                                obtain ⟨y386, hy386⟩ : ∃ y_ : List (S29), y_ = (x1_1.drop 1) := ⟨_, rfl⟩
                                replace H : (tree_Diff.l0 kj8 y381 y386 y378) = some r := by first | (rw [hy386]; with_reducible exact H) | (have H2_ := (Option.bind_some _ _).symm.trans H; rw [hy386]; with_reducible exact H2_) | (have H2_ := (Option.bind_some _ _).symm.trans H; with_reducible exact H2_) | with_reducible exact H | (rw [hy386]; exact H) | exact H
                                have Ny386 := Aside0.mk hy386
                                clear hy386
                                have H' := Aside0.mk H
                                clear H
                                try go_wp2
                                have n0_ := Aside0.mk (Kd.V_drew HO_0.out)
                                have n1_ := Aside0.mk (Kd.V_drew HO_1.out)
                                have n2_ := Aside0.mk (Kd.R_drew HO_5.out)
                                have n3_ := Aside0.mk (below_drew1 HB.out)
                                clear HO_0
                                clear HO_1
                                clear HO_5
                                clear HB
                                have HO_0 := n0_
                                have HO_1 := n1_
                                have HO_5 := n2_
                                have HB := n3_
                                clear n0_ n1_ n2_ n3_
                                obtain ⟨Ao53, co53, eo53⟩ := Kd.V_slice HO_0.out
                                (first | subst eo53 | (injection eo53 with f1_ f2_ f3_; have f4_ := f1_.symm; have f5_ := f3_.symm; clear f1_ f2_ f3_; subst f4_; subst f5_))
                                have p365 : 0 ≤ (0 : Int) := (by omega)
                                have q365 : 0 < (x0_1.length : Int) := of_decide_eq_true (by first | (with_reducible assumption) | assumption)
                                obtain ⟨ad365, e365, hx365_0, hx365_1⟩ := at_T29 (Kd.V_reads' HO_0.out).2.2 0 p365 q365
                                cases e365
                                have qi365 : (0 < x0_1.length) = True := eq_true (by omega)
                                (try rw [show ((0 : Int)).toNat = 0 from rfl] at hx365_0)
                                (try rw [show 0 * 2 = 0 from rfl] at hx365_0)
                                (try rw [Addr.add_zero'] at hx365_0)
                                (try rw [show ((0 : Int)).toNat = 0 from rfl] at hx365_1)
                                (try rw [show 0 * 2 = 0 from rfl] at hx365_1)
                                (try rw [Addr.add_zero'] at hx365_1)
                                replace p365 := eq_true p365
                                replace q365 := eq_true q365
                                obtain ⟨Ao54, co54, eo54⟩ := Kd.V_slice HO_1.out
                                (first | subst eo54 | (injection eo54 with f1_ f2_ f3_; have f4_ := f1_.symm; have f5_ := f3_.symm; clear f1_ f2_ f3_; subst f4_; subst f5_))
                                have p366 : 0 ≤ (0 : Int) := (by omega)
                                have q366 : 0 < (x1_1.length : Int) := of_decide_eq_true (by first | (with_reducible assumption) | assumption)
                                obtain ⟨ad366, e366, hx366_0, hx366_1⟩ := at_T29 (Kd.V_reads' HO_1.out).2.2 0 p366 q366
                                cases e366
                                have qi366 : (0 < x1_1.length) = True := eq_true (by omega)
                                (try rw [show ((0 : Int)).toNat = 0 from rfl] at hx366_0)
                                (try rw [show 0 * 2 = 0 from rfl] at hx366_0)
                                (try rw [Addr.add_zero'] at hx366_0)
                                (try rw [show ((0 : Int)).toNat = 0 from rfl] at hx366_1)
                                (try rw [show 0 * 2 = 0 from rfl] at hx366_1)
                                (try rw [Addr.add_zero'] at hx366_1)
                                replace p366 := eq_true p366
                                replace q366 := eq_true q366
                                refine start_ (n := 9) (S := fun w' => w'.cell? ad365 = some (.string ((rd_T29 x0_1 0).f0)) ∧ w'.cell? ⟨ad365.block, ad365.off + 1, none⟩ = some (.string ((rd_T29 x0_1 0).f1)) ∧ w'.cell? ad366 = some (.string ((rd_T29 x1_1 0).f0)) ∧ w'.cell? ⟨ad366.block, ad366.off + 1, none⟩ = some (.string ((rd_T29 x1_1 0).f1))) (ds := []) #[false, false, false, false, false, false, false, false, false] (by kernel_rfl) rfl rfl ⟨hx365_0, hx365_1, hx366_0, hx366_1⟩ (fun hHeld => ?_); refine with_tabW tree_Diff.tab9 tree_Diff.bits9 (fun HT_ HW_ => ?_)
                                generalize wc.drew = w52 at HO_0 HO_1 HO_5 HB hx365_0 hx365_1 hx366_0 hx366_1 hHeld ⊢
                                refine pure_ (i := 0) (N := some 32) (v := ?_) (a' := ?_) #[true, false, false, false, false, false, false, false, false] rfl rfl (any_of HT_.out (by kernel_rfl)) (fun _ _ _ h => h) (Or.inl ⟨by rfl, ?_⟩) ?_ ?_
                                rotate_left
                                · intro w'
                                  go_simp
                                  with_reducible rfl
                                rotate_left
                                · simp only [Act.put, List.setIfInBounds_toArray, List.set_cons_zero, List.set_cons_succ, i64_w, i32_w]
                                  rfl
                                refine pure_ (i := 1) (N := some 33) (v := ?_) (a' := ?_) #[true, true, false, false, false, false, false, false, false] rfl rfl (any_of HT_.out (by kernel_rfl)) (fun _ _ _ h => h) (Or.inl ⟨by rfl, ?_⟩) ?_ ?_
                                rotate_left
                                · intro w'
                                  go_simp
                                  with_reducible rfl
                                rotate_left
                                · simp only [Act.put, List.setIfInBounds_toArray, List.set_cons_zero, List.set_cons_succ, i64_w, i32_w]
                                  rfl
                                refine pure_ (i := 2) (N := some 34) (v := ?_) (a' := ?_) #[true, true, true, false, false, false, false, false, false] rfl rfl (any_of HT_.out (by kernel_rfl)) (fun _ _ _ h => h) (Or.inl ⟨by rfl, ?_⟩) ?_ ?_
                                rotate_left
                                · intro w'
                                  go_simp
                                  with_reducible rfl
                                rotate_left
                                · simp only [Act.put, List.setIfInBounds_toArray, List.set_cons_zero, List.set_cons_succ, i64_w, i32_w]
                                  rfl
                                refine pure_ (i := 4) (N := some 36) (v := ?_) (a' := ?_) #[true, true, true, false, true, false, false, false, false] rfl rfl (any_of HT_.out (by kernel_rfl)) (fun _ _ _ h => h) (Or.inl ⟨by rfl, ?_⟩) ?_ ?_
                                rotate_left
                                · intro w'
                                  go_simp
                                  with_reducible rfl
                                rotate_left
                                · simp only [Act.put, List.setIfInBounds_toArray, List.set_cons_zero, List.set_cons_succ, i64_w, i32_w]
                                  rfl
                                refine pure_ (i := 5) (N := some 37) (v := ?_) (a' := ?_) #[true, true, true, false, true, true, false, false, false] rfl rfl (any_of HT_.out (by kernel_rfl)) (fun _ _ _ h => h) (Or.inl ⟨by rfl, ?_⟩) ?_ ?_
                                rotate_left
                                · intro w'
                                  go_simp
                                  with_reducible rfl
                                rotate_left
                                · simp only [Act.put, List.setIfInBounds_toArray, List.set_cons_zero, List.set_cons_succ, i64_w, i32_w]
                                  rfl
                                refine pure_ (i := 6) (N := some 38) (v := ?_) (a' := ?_) #[true, true, true, false, true, true, true, false, false] rfl rfl (any_of HT_.out (by kernel_rfl)) (fun _ _ _ h => h) (Or.inl ⟨by rfl, ?_⟩) ?_ ?_
                                rotate_left
                                · intro w'
                                  go_simp
                                  with_reducible rfl
                                rotate_left
                                · simp only [Act.put, List.setIfInBounds_toArray, List.set_cons_zero, List.set_cons_succ, i64_w, i32_w]
                                  rfl
                                refine take_ (i := 3) (N := some 35) (v := ?_) (a' := ?_) #[true, true, true, true, true, true, true, false, false] rfl rfl (take_ofW HT_.out HW_.out (by kernel_rfl)) (fun _ _ _ h => h) (Or.inl ⟨by rfl, ?_⟩) hHeld ?_ ?_
                                rotate_left
                                · rintro w' ⟨s0, s1, s2, s3⟩
                                  go_simp
                                  with_reducible rfl
                                rotate_left
                                · simp only [Act.put, List.setIfInBounds_toArray, List.set_cons_zero, List.set_cons_succ, i64_w, i32_w]
                                  rfl
                                refine take_ (i := 7) (N := some 39) (v := ?_) (a' := ?_) #[true, true, true, true, true, true, true, true, false] rfl rfl (take_ofW HT_.out HW_.out (by kernel_rfl)) (fun _ _ _ h => h) (Or.inl ⟨by rfl, ?_⟩) hHeld ?_ ?_
                                rotate_left
                                · rintro w' ⟨s0, s1, s2, s3⟩
                                  go_simp
                                  with_reducible rfl
                                rotate_left
                                · simp only [Act.put, List.setIfInBounds_toArray, List.set_cons_zero, List.set_cons_succ, i64_w, i32_w]
                                  rfl
                                refine pure_ (i := 8) (N := some 40) (v := ?_) (a' := ?_) #[true, true, true, true, true, true, true, true, true] rfl rfl (any_of HT_.out (by kernel_rfl)) (fun _ _ _ h => h) (Or.inl ⟨by rfl, ?_⟩) ?_ ?_
                                rotate_left
                                · intro w'
                                  go_simp
                                  with_reducible rfl
                                rotate_left
                                · simp only [Act.put, List.setIfInBounds_toArray, List.set_cons_zero, List.set_cons_succ, i64_w, i32_w]
                                  rfl
                                refine done_ (done_of HT_.out (by kernel_rfl)) ?_
                                have p377 : 0 ≤ (0 : Int) := (by omega)
                                have q377 : 0 < (x0_1.length : Int) := of_decide_eq_true (by first | (with_reducible assumption) | assumption)
                                obtain ⟨ad377, e377, hx377_0, hx377_1⟩ := at_T29 (Kd.V_reads' HO_0.out).2.2 0 p377 q377
                                obtain rfl : ad365 = ad377 := (by injection e377)
                                have qi377 : (0 < x0_1.length) = True := eq_true (by omega)
                                (try rw [show ((0 : Int)).toNat = 0 from rfl] at hx377_0)
                                (try rw [show 0 * 2 = 0 from rfl] at hx377_0)
                                (try rw [Addr.add_zero'] at hx377_0)
                                (try rw [show ((0 : Int)).toNat = 0 from rfl] at hx377_1)
                                (try rw [show 0 * 2 = 0 from rfl] at hx377_1)
                                (try rw [Addr.add_zero'] at hx377_1)
                                replace p377 := eq_true p377
                                replace q377 := eq_true q377
                                try go_wp2_with (first | ((with_reducible refine gate_builtin (b := .append) (xs := #[.tmp 41, .tmp 46]) rfl ?_); (try (refine gate_guard (by rfl) ?_; dsimp only)); at_builtin; refine Kd.R_append Kd.string (w0 := w) w.heap.size rfl (.tmp 41) (.tmp 46) 41 9 (.string ⟨#[]⟩) 16 rfl Try.underlying41 info9 rfl (by decide) (by omega) u5 x5_1 ((rd_T29 x0_1 0).f0) [.string ((rd_T29 x0_1 0).f0)] (fun k_ => (w.heap.size ≤ k_)) (fun _ => False) rfl rfl ?aP (fun _ hk => hk.elim) ?aF ?aO ?aB ?aS ?aL ?_; (case aP => exact rfl); (case aB => exact (by repeat (first | (with_reducible first | exact HB.out | apply below_alloc | apply pw_below_drewN | apply below_drew1) | exact HB.out))); (case aF => exact (fun k_ hk => (Nat.le_trans (below_size (by repeat (first | (with_reducible first | exact HB.out | apply below_alloc | apply pw_below_drewN | apply below_drew1) | exact HB.out))) hk))); (case aO => exact (by (with_reducible repeat (first | apply Kd.R_alloc | apply Kd.R_drewN | apply Kd.R_drew)); exact HO_5.out)); (case aS => exact (below_size (by repeat (first | (with_reducible first | exact HB.out | apply below_alloc | apply pw_below_drewN | apply below_drew1) | exact HB.out)))); (case aL => have := LMc49.out; omega); intro v379 w55 ho hb hg hat; rw [← Ny378.out] at ho; have n0_ := Aside0.mk (Kd.V_afterv (ok := (fun k_ => ((P0_ k_ ∨ P1_ k_) ∨ w.heap.size ≤ k_))) (by (with_reducible repeat (first | apply Kd.V_alloc | apply Kd.V_drewN | apply Kd.V_drew)); exact HO_0.out) hg hat); have n1_ := Aside0.mk (Kd.V_afterv (ok := (fun k_ => ((P0_ k_ ∨ P1_ k_) ∨ w.heap.size ≤ k_))) (by (with_reducible repeat (first | apply Kd.V_alloc | apply Kd.V_drewN | apply Kd.V_drew)); exact HO_1.out) hg hat); have n2_ := Aside0.mk (hb); have n3_ := Aside0.mk (ho); clear HO_0; clear HO_1; clear HB; clear HO_5; have HO_0 := n0_; have HO_1 := n1_; have HB := n2_; have HO380 := n3_; clear n0_ n1_ n2_ n3_; clear ho hb hg hat))
                                have n0_ := Aside0.mk (Kd.V_drew HO_0.out)
                                have n1_ := Aside0.mk (Kd.V_drew HO_1.out)
                                have n2_ := Aside0.mk (Kd.R_drew HO380.out)
                                have n3_ := Aside0.mk (below_drew1 HB.out)
                                clear HO_0
                                clear HO_1
                                clear HO380
                                clear HB
                                have HO_0 := n0_
                                have HO_1 := n1_
                                have HO380 := n2_
                                have HB := n3_
                                clear n0_ n1_ n2_ n3_
                                have q57 : (1 : Int) ≤ ((x0_1.length : Int) : Int) := of_decide_eq_true (by first | (with_reducible assumption) | assumption)
                                obtain ⟨i057, hi057, _, hsz57, _⟩ := info_parts info29
                                have hroom57 : x0_1.length ≤ co53 := (Kd.V_reads' HO_0.out).2.1
                                have hC57 : Kd.F k29 _ _ (some ad365) x0_1.length x0_1 := (Kd.V_at (base := w.heap.size) HO_0.out).2.2
                                have hcut57 := cut_from (P := Try.prog) 22 29 .i64 Try.underlying22 hi057 2 hsz57 (some ad365) x0_1.length co53 1 (by omega) q57
                                have hr57 := Kd.F_cut (m := (1 : Int).toNat) (c := co53) hC57 (by omega) hroom57
                                obtain ⟨A57, hA57⟩ : ∃ A1, A1 = (if co53 = (1 : Int).toNat then (some ad365) else ((some ad365) : Option Addr).map (·.add ((1 : Int).toNat * 2))) := ⟨_, rfl⟩
                                obtain ⟨c57, hc57⟩ : ∃ c1, c1 = co53 - (1 : Int).toNat := ⟨_, rfl⟩
                                have hy57 : y381.length = x0_1.length - (1 : Int).toNat := (by rw [Ny381.out, List.length_drop] <;> omega)
                                rw [show (x0_1).drop (1 : Int).toNat = y381 from Ny381.out.symm] at hr57
                                replace hr57 : Kd.F k29 _ _ A57 y381.length y381 := (by rw [hA57]; exact hr57)
                                rw [← hy57, ← hA57, ← hc57] at hcut57
                                have HO385 := Aside0.mk (show Kd.V k29 29 _ w.heap.size _ (.slice A57 y381.length c57) y381 from Kd.V_mk (by rw [hy57, hc57]; exact Nat.sub_le_sub_right hroom57 _) hr57)
                                have HC385 := Aside0.mk (show y381.length ≤ c57 from by rw [hy57, hc57]; exact Nat.sub_le_sub_right hroom57 _)
                                clear hr57 hC57 hroom57 hi057 hsz57 hc57
                                have KY57 := Aside0.mk hy57
                                have KA57 := Aside0.mk hA57
                                clear hy57 hA57
                                replace q57 := eq_true q57
                                have q58 : (1 : Int) ≤ ((x1_1.length : Int) : Int) := of_decide_eq_true (by first | (with_reducible assumption) | assumption)
                                obtain ⟨i058, hi058, _, hsz58, _⟩ := info_parts info29
                                have hroom58 : x1_1.length ≤ co54 := (Kd.V_reads' HO_1.out).2.1
                                have hC58 : Kd.F k29 _ _ (some ad366) x1_1.length x1_1 := (Kd.V_at (base := w.heap.size) HO_1.out).2.2
                                have hcut58 := cut_from (P := Try.prog) 22 29 .i64 Try.underlying22 hi058 2 hsz58 (some ad366) x1_1.length co54 1 (by omega) q58
                                have hr58 := Kd.F_cut (m := (1 : Int).toNat) (c := co54) hC58 (by omega) hroom58
                                obtain ⟨A58, hA58⟩ : ∃ A1, A1 = (if co54 = (1 : Int).toNat then (some ad366) else ((some ad366) : Option Addr).map (·.add ((1 : Int).toNat * 2))) := ⟨_, rfl⟩
                                obtain ⟨c58, hc58⟩ : ∃ c1, c1 = co54 - (1 : Int).toNat := ⟨_, rfl⟩
                                have hy58 : y386.length = x1_1.length - (1 : Int).toNat := (by rw [Ny386.out, List.length_drop] <;> omega)
                                rw [show (x1_1).drop (1 : Int).toNat = y386 from Ny386.out.symm] at hr58
                                replace hr58 : Kd.F k29 _ _ A58 y386.length y386 := (by rw [hA58]; exact hr58)
                                rw [← hy58, ← hA58, ← hc58] at hcut58
                                have HO390 := Aside0.mk (show Kd.V k29 29 _ w.heap.size _ (.slice A58 y386.length c58) y386 from Kd.V_mk (by rw [hy58, hc58]; exact Nat.sub_le_sub_right hroom58 _) hr58)
                                have HC390 := Aside0.mk (show y386.length ≤ c58 from by rw [hy58, hc58]; exact Nat.sub_le_sub_right hroom58 _)
                                clear hr58 hC58 hroom58 hi058 hsz58 hc58
                                have KY58 := Aside0.mk hy58
                                have KA58 := Aside0.mk hA58
                                clear hy58 hA58
                                replace q58 := eq_true q58
                                refine start_ (n := 6) (S := fun w' => True) (ds := []) #[false, false, false, false, false, false] (by kernel_rfl) rfl rfl trivial (fun hHeld => ?_)
                                generalize w55.drew = w56 at HO_0 HO_1 HO380 HB HO385 HO390 hHeld ⊢
                                refine pure_ (i := 0) (N := some 48) (v := ?_) (a' := ?_) #[true, false, false, false, false, false] rfl rfl (by kernel_rfl) (fun _ _ _ h => h) (Or.inl ⟨by rfl, ?_⟩) ?_ ?_
                                rotate_left
                                · intro w'
                                  go_simp
                                  with_reducible rfl
                                rotate_left
                                · simp only [Act.put, List.setIfInBounds_toArray, List.set_cons_zero, List.set_cons_succ, i64_w, i32_w]
                                  rfl
                                refine pure_ (i := 1) (N := some 49) (v := ?_) (a' := ?_) #[true, true, false, false, false, false] rfl rfl (by kernel_rfl) (fun _ _ _ h => h) (Or.inl ⟨by rfl, ?_⟩) ?_ ?_
                                rotate_left
                                · intro w'
                                  go_simp
                                  with_reducible rfl
                                rotate_left
                                · simp only [Act.put, List.setIfInBounds_toArray, List.set_cons_zero, List.set_cons_succ, i64_w, i32_w]
                                  rfl
                                refine pure_ (i := 2) (N := some 50) (v := ?_) (a' := ?_) #[true, true, true, false, false, false] rfl rfl (by kernel_rfl) (fun _ _ _ h => h) (Or.inl ⟨by rfl, ?_⟩) ?_ ?_
                                rotate_left
                                · intro w'
                                  go_simp
                                  with_reducible rfl
                                rotate_left
                                · simp only [Act.put, List.setIfInBounds_toArray, List.set_cons_zero, List.set_cons_succ, i64_w, i32_w]
                                  rfl
                                refine pure_ (i := 3) (N := some 51) (v := ?_) (a' := ?_) #[true, true, true, true, false, false] rfl rfl (by kernel_rfl) (fun _ _ _ h => h) (Or.inl ⟨by rfl, ?_⟩) ?_ ?_
                                rotate_left
                                · intro w'
                                  go_simp
                                  with_reducible rfl
                                rotate_left
                                · simp only [Act.put, List.setIfInBounds_toArray, List.set_cons_zero, List.set_cons_succ, i64_w, i32_w]
                                  rfl
                                refine pure_ (i := 4) (N := some 0) (v := ?_) (a' := ?_) #[true, true, true, true, true, false] rfl rfl (by kernel_rfl) (fun _ _ _ h => h) (Or.inl ⟨by rfl, ?_⟩) ?_ ?_
                                rotate_left
                                · intro w'
                                  go_simp
                                  with_reducible rfl
                                rotate_left
                                · simp only [Act.put, List.setIfInBounds_toArray, List.set_cons_zero, List.set_cons_succ, i64_w, i32_w]
                                  rfl
                                refine pure_ (i := 5) (N := some 1) (v := ?_) (a' := ?_) #[true, true, true, true, true, true] rfl rfl (by kernel_rfl) (fun _ _ _ h => h) (Or.inl ⟨by rfl, ?_⟩) ?_ ?_
                                rotate_left
                                · intro w'
                                  go_simp
                                  with_reducible rfl
                                rotate_left
                                · simp only [Act.put, List.setIfInBounds_toArray, List.set_cons_zero, List.set_cons_succ, i64_w, i32_w]
                                  rfl
                                refine done_ (by kernel_rfl) ?_
                                try go_wp2
                                go_roundg kj8
                                case measure => have := HK1.out; have := HJ2.out; have := HJ8.out; omega
                                case rel => exact ⟨(y381), (y386), (y378), H', ⟨by have := HK1.out; have := HJ2.out; have := HJ8.out; omega⟩, ⟨by (with_reducible repeat (first | apply Kd.V_alloc | apply Kd.V_drewN | apply Kd.V_drew)); exact HO385.out⟩, ⟨by (with_reducible repeat (first | apply Kd.V_alloc | apply Kd.V_drewN | apply Kd.V_drew)); exact HO390.out⟩, ⟨by (with_reducible repeat (first | apply Kd.R_alloc | apply Kd.R_drewN | apply Kd.R_drew)); exact HO380.out⟩, ⟨by repeat (first | (with_reducible first | exact HB.out | apply below_alloc | apply pw_below_drewN | apply below_drew1) | exact HB.out)⟩⟩
                              · rw [if_neg c51] at H
                                exact absurd H (by simp)
                            · rw [if_neg c50] at H
                              exact absurd H (by simp)
                          · rw [if_neg c49] at H
                            exact absurd H (by simp)
                      · rw [if_neg c39] at H
                        exact absurd H (by simp)
                    · rw [if_neg c38] at H
                      exact absurd H (by simp)
          · replace c8 := Bool.eq_false_iff.mpr c8
            subst c8
            have H1 : (some x5_1) = some r := by rw [if_neg (show ¬ (false = true) by decide)] at H; exact H
            clear H
            have H := H1
            clear H1
            obtain rfl := Option.some.inj H
            go_wp2
            go_ret
            exact ⟨_, by first | rfl | (simp [errW_none, errW_some] <;> rfl) | (simp [*, errW_none, errW_some] <;> rfl), by (with_reducible repeat (first | apply Kd.R_alloc | apply Kd.R_drewN | apply Kd.R_drew)); exact HO_5.out, by repeat (first | (with_reducible first | exact HB.out | apply below_alloc | apply pw_below_drewN | apply below_drew1) | exact HB.out)⟩
end Go.Proofs.Ytbbhmjokiejnmaa.Hy

