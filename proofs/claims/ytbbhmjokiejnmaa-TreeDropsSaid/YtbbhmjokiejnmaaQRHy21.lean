import Derived.Test.YtbbhmjokiejnmaaQRHy0
import Derived.Test.YtbbhmjokiejnmaaQRHy2
import Derived.Test.YtbbhmjokiejnmaaQRHy4
import Derived.Test.YtbbhmjokiejnmaaQRHy5
import Derived.Test.YtbbhmjokiejnmaaQRHy6
import Derived.Test.YtbbhmjokiejnmaaQRHy8
import Derived.Test.YtbbhmjokiejnmaaQRHy10
import Derived.Test.YtbbhmjokiejnmaaQRHy11
import Derived.Test.YtbbhmjokiejnmaaQRDrop
import Derived.Test.YtbbhmjokiejnmaaQRFind
import Derived.Test.YtbbhmjokiejnmaaQRPut
import Derived.Test.YtbbhmjokiejnmaaQRHy20b
-- Printed by a program of this session (wip/hybrid.py) that runs the kit's print over given contracts. Lean checks it.
namespace Go.Proofs.Ytbbhmjokiejnmaa.Hy
open Go.RowKit Go.Proofs.YtbbhmjokiejnmaaW.PrintWords Go.Proofs.YtbbhmjokiejnmaaW.PrintLast Go.Proofs.YtbbhmjokiejnmaaW.PrintMore
attribute [local go_sem] min2_int min_two -- for this text's walks alone
set_option linter.unusedVariables false
set_option linter.unusedSimpArgs false
attribute [local go_sem high] eqA33
mutual
def graftbedlaw02_TreeDrops.j0 : Nat → List (S29) → ByteArray → Bool → Option (Bool)
  | 0, _, _, _ => none
  | k + 1, x0, x1, x26 => if x26 = true then ((graftbedlaw02_shown.f).bind fun t609 => (some t609)) else ((graftbedlaw02_grown.f k x0).bind fun t610 => ((tree_Find.f t610 x1).bind fun bt613 => ((graftbedref02_Find.f k t610 x1).bind fun bt615 => ((tree_Drop.f t610 x1).bind fun bt617 => ((graftbedref02_Drop.f k t610 x1).bind fun bt621 => (if bt613.1.toList = bt615.1.toList then (if (bt613.2 != bt615.2) = true then (graftbedlaw02_TreeDrops.j1 k x1 t610 bt613.1 bt617.1 bt617.2 true) else (if bt617.2 = bt621.2 then ((graftbedref02_Same.f k bt617.1 bt621.1).bind fun t625 => (if t625 = true then (graftbedlaw02_TreeDrops.j1 k x1 t610 bt613.1 bt617.1 bt617.2 ((bt617.2 == 0) != bt613.2)) else (graftbedlaw02_TreeDrops.j1 k x1 t610 bt613.1 bt617.1 bt617.2 true))) else (graftbedlaw02_TreeDrops.j1 k x1 t610 bt613.1 bt617.1 bt617.2 true))) else (graftbedlaw02_TreeDrops.j1 k x1 t610 bt613.1 bt617.1 bt617.2 true)))))))
def graftbedlaw02_TreeDrops.j1 : Nat → ByteArray → List (S29) → ByteArray → List (S29) → Int → Bool → Option (Bool)
  | 0, _, _, _, _, _, _ => none
  | k + 1, x1, x5, x6, x10, x11, x78 => if x78 = true then (some false) else (if x11 = 0 then ((tree_Put.f x10 x1 x6).bind fun bt626 => (if bt626.2 = 0 then ((graftbedref02_Same.f k bt626.1 x5).bind fun t630 => (if t630 = true then ((tree_Check.f k x10).bind fun bt631 => (some (bt631.1 == 0 && (bt631.2.1.toList == ([] : List UInt8) && (bt631.2.2 == 0))))) else (some false))) else (some false))) else (some (x11 == 3)))
end
def graftbedlaw02_TreeDrops.f (k : Nat) (l0 : List (S29)) (a1 : ByteArray) : Option (Bool) := (graftbedlaw02_heavy.f k l0).bind fun t607 => (if t607 = true then (graftbedlaw02_TreeDrops.j0 k l0 a1 true) else (if (a1.size : Int) > 1024 then (graftbedlaw02_TreeDrops.j0 k l0 a1 true) else ((graftbedlaw02_shown.f).bind fun t608 => (graftbedlaw02_TreeDrops.j0 k l0 a1 (!t608)))))
set_option maxHeartbeats 8000000 in
set_option maxRecDepth 100000 in
theorem graftbedlaw02_TreeDrops.calls (k : Nat) (A0 : Option Addr) (c0 : Nat) (l0 : List (S29)) (a1 : ByteArray) (r : Bool) (w : World) (hr0 : Kd.C k29 w A0 l0.length l0) (hc0 : l0.length ≤ c0) (h : graftbedlaw02_TreeDrops.f k l0 a1 = some r) :
    Calls Try.prog 8 #[.slice A0 l0.length c0, .string a1] w fun e w' => e = .returned (.bool r) ∧ Below w.heap.size w w' := by
  have hu29 := Try.underlying29
  have hu33 := Try.underlying33
  have HR0 := Aside0.mk hr0
  have HC0 := Aside0.mk hc0
  clear hr0 hc0
  have HB := Aside0.mk (Below.refl w.heap.size w)
  have H : ((graftbedlaw02_heavy.f k l0).bind fun t607 => (if t607 = true then (graftbedlaw02_TreeDrops.j0 k l0 a1 true) else (if (a1.size : Int) > 1024 then (graftbedlaw02_TreeDrops.j0 k l0 a1 true) else ((graftbedlaw02_shown.f).bind fun t608 => (graftbedlaw02_TreeDrops.j0 k l0 a1 (!t608)))))) = some r := h
  clear h
  have HC3 := Aside0.mk H
  clear H
  go_enter Try.func8, Try.ntmps8
  go_upto_region 1 with (fail)
  go_cut [26] (fun v26 wc => ∃ (kq : Nat) (x26_2 : Bool), v26 = .bool x26_2 ∧ Aside0 (graftbedlaw02_TreeDrops.j0 kq l0 a1 x26_2 = some r) ∧ Aside0 (kq ≤ k) ∧ Aside0 (Below w.heap.size w wc))
  case first =>
    have H := HC3.out
    clear HC3
    replace H := Option.bind_eq_some_iff.mp H
    obtain ⟨t607, A40, H⟩ := H
    replace H : (if t607 = true then (graftbedlaw02_TreeDrops.j0 k l0 a1 true) else (if (a1.size : Int) > 1024 then (graftbedlaw02_TreeDrops.j0 k l0 a1 true) else ((graftbedlaw02_shown.f).bind fun t608 => (graftbedlaw02_TreeDrops.j0 k l0 a1 (!t608))))) = some r := H
    have A4 := Aside0.mk A40
    clear A40
    by_cases c5 : t607 = true
    · subst c5
      have H1 : (graftbedlaw02_TreeDrops.j0 k l0 a1 true) = some r := by rw [if_pos rfl] at H; exact H
      clear H
      have H := H1
      clear H1
      have H' := Aside0.mk H
      clear H
      go_wp2_with (first | ((with_reducible refine gate_callee (f := 10) rfl ?_); refine goesL_ (some 17) rfl rfl Try.func10 (by kernel_rfl) rfl #[.slice A0 l0.length c0] rfl (by (try simp only [List.map_toArray, List.map_cons, List.map_nil]); first | done | rfl | (simp only [List.length_drop, List.length_take]; rfl)) ?_; (with_reducible refine (graftbedlaw02_heavy.calls k _ _ l0 true _ ?side1 ?side2 A4.out).mono ?_); (case side1 => repeat (first | exact (Kd.C_below HR0.out HB.out) | (with_reducible refine Kd.C_alloc ?_ _) | (with_reducible refine Kd.C_drewN ?_ _) | (with_reducible refine Kd.C_drew ?_))); (case side2 => exact HC0.out); rintro e w6 ⟨rfl, hb⟩; refine ⟨_, rfl, ?_⟩; have n0_ := Aside0.mk (below_step (by repeat (first | (with_reducible first | exact HB.out | apply below_alloc | apply pw_below_drewN | apply below_drew1) | exact HB.out)) hb); clear HB; have HB := n0_; clear n0_; (try clear hb); (try clear hb2); (try clear hk); (try clear hi)))
      go_meet
      case rel => exact ⟨_, (true), (by first | rfl | (simp; done) | (simp [*]; done)), H', ⟨by first | omega | exact Nat.le_refl _⟩, ⟨by repeat (first | (with_reducible first | exact HB.out | apply below_alloc | apply pw_below_drewN | apply below_drew1) | exact HB.out)⟩⟩
    · replace c5 := Bool.eq_false_iff.mpr c5
      subst c5
      have H1 : (if (a1.size : Int) > 1024 then (graftbedlaw02_TreeDrops.j0 k l0 a1 true) else ((graftbedlaw02_shown.f).bind fun t608 => (graftbedlaw02_TreeDrops.j0 k l0 a1 (!t608)))) = some r := by rw [if_neg (show ¬ (false = true) by decide)] at H; exact H
      clear H
      have H := H1
      clear H1
      by_cases c7 : (a1.size : Int) > 1024
      · rw [if_pos c7] at H
        have c7b0 : decide (1024 < (a1.size : Int)) = true := decide_eq_true c7
        have c7b1 : decide (1024 < a1.size) = true := decide_eq_true (by omega)
        clear c7
        (first | rw [c7b0] | (simp only [i64_w, i32_w]; rw [c7b0]) | skip)
        have H' := Aside0.mk H
        clear H
        go_wp2_with (first | ((with_reducible refine gate_callee (f := 10) rfl ?_); refine goesL_ (some 17) rfl rfl Try.func10 (by kernel_rfl) rfl #[.slice A0 l0.length c0] rfl (by (try simp only [List.map_toArray, List.map_cons, List.map_nil]); first | done | rfl | (simp only [List.length_drop, List.length_take]; rfl)) ?_; (with_reducible refine (graftbedlaw02_heavy.calls k _ _ l0 false _ ?side1 ?side2 A4.out).mono ?_); (case side1 => repeat (first | exact (Kd.C_below HR0.out HB.out) | (with_reducible refine Kd.C_alloc ?_ _) | (with_reducible refine Kd.C_drewN ?_ _) | (with_reducible refine Kd.C_drew ?_))); (case side2 => exact HC0.out); rintro e w8 ⟨rfl, hb⟩; refine ⟨_, rfl, ?_⟩; have n0_ := Aside0.mk (below_step (by repeat (first | (with_reducible first | exact HB.out | apply below_alloc | apply pw_below_drewN | apply below_drew1) | exact HB.out)) hb); clear HB; have HB := n0_; clear n0_; (try clear hb); (try clear hb2); (try clear hk); (try clear hi)))
        go_meet
        case rel => exact ⟨_, (true), (by first | rfl | (simp; done) | (simp [*]; done)), H', ⟨by first | omega | exact Nat.le_refl _⟩, ⟨by repeat (first | (with_reducible first | exact HB.out | apply below_alloc | apply pw_below_drewN | apply below_drew1) | exact HB.out)⟩⟩
      · rw [if_neg c7] at H
        have c7b0 : decide (1024 < (a1.size : Int)) = false := decide_eq_false c7
        have c7b1 : decide (1024 < a1.size) = false := decide_eq_false (by omega)
        clear c7
        (first | rw [c7b0] | (simp only [i64_w, i32_w]; rw [c7b0]) | skip)
        replace H := Option.bind_eq_some_iff.mp H
        obtain ⟨t608, A90, H⟩ := H
        replace H : (graftbedlaw02_TreeDrops.j0 k l0 a1 (!t608)) = some r := H
        have A9 := Aside0.mk A90
        clear A90
        have H' := Aside0.mk H
        clear H
        go_wp2_with (first | ((with_reducible refine gate_callee (f := 10) rfl ?_); refine goesL_ (some 17) rfl rfl Try.func10 (by kernel_rfl) rfl #[.slice A0 l0.length c0] rfl (by (try simp only [List.map_toArray, List.map_cons, List.map_nil]); first | done | rfl | (simp only [List.length_drop, List.length_take]; rfl)) ?_; (with_reducible refine (graftbedlaw02_heavy.calls k _ _ l0 false _ ?side1 ?side2 A4.out).mono ?_); (case side1 => repeat (first | exact (Kd.C_below HR0.out HB.out) | (with_reducible refine Kd.C_alloc ?_ _) | (with_reducible refine Kd.C_drewN ?_ _) | (with_reducible refine Kd.C_drew ?_))); (case side2 => exact HC0.out); rintro e w10 ⟨rfl, hb⟩; refine ⟨_, rfl, ?_⟩; have n0_ := Aside0.mk (below_step (by repeat (first | (with_reducible first | exact HB.out | apply below_alloc | apply pw_below_drewN | apply below_drew1) | exact HB.out)) hb); clear HB; have HB := n0_; clear n0_; (try clear hb); (try clear hb2); (try clear hk); (try clear hi)) | (go_at_call 11; (with_reducible refine (graftbedlaw02_shown.calls  t608 _ A9.out).mono ?_); rintro e w11 ⟨rfl, hb⟩; have n0_ := Aside0.mk (below_step (by repeat (first | (with_reducible first | exact HB.out | apply below_alloc | apply pw_below_drewN | apply below_drew1) | exact HB.out)) hb); clear HB; have HB := n0_; clear n0_; (try clear hb); (try clear hb2); (try clear hk); (try clear hi)))
        go_meet
        case rel => exact ⟨_, (!t608), (by first | rfl | (simp; done) | (simp [*]; done)), H', ⟨by first | omega | exact Nat.le_refl _⟩, ⟨by repeat (first | (with_reducible first | exact HB.out | apply below_alloc | apply pw_below_drewN | apply below_drew1) | exact HB.out)⟩⟩
  case rest =>
    clear HC3
    try clear c1
    try clear p2
    try clear c5
    try clear c7
    try clear c7b0
    try clear c7b1
    try clear c8
    try clear c10
    obtain ⟨kq, x26_2, rfl, HA, HJ2, HB⟩ := hcut
    cases kq with
    | zero => exact absurd HA.out (by simp [graftbedlaw02_TreeDrops.j0])
    | succ kj2 =>
      have H := HA.out
      clear HA
      simp only [graftbedlaw02_TreeDrops.j0] at H
      by_cases c12 : x26_2 = true
      · subst c12
        have H1 : ((graftbedlaw02_shown.f).bind fun t609 => (some t609)) = some r := by rw [if_pos rfl] at H; exact H
        clear H
        have H := H1
        clear H1
        replace H := Option.bind_eq_some_iff.mp H
        obtain ⟨t609, A130, H⟩ := H
        replace H : (some t609) = some r := H
        have A13 := Aside0.mk A130
        clear A130
        obtain rfl := Option.some.inj H
        go_wp2_with (first | ((with_reducible refine gate_callee (f := 11) rfl ?_); refine goesL_ (some 27) rfl rfl Try.func11 (by kernel_rfl) rfl #[] rfl (by (try simp only [List.map_toArray, List.map_cons, List.map_nil]); first | done | rfl | (simp only [List.length_drop, List.length_take]; rfl)) ?_; (with_reducible refine (graftbedlaw02_shown.calls  t609 _ A13.out).mono ?_); rintro e w14 ⟨rfl, hb⟩; refine ⟨_, rfl, ?_⟩; have n0_ := Aside0.mk (below_step (by repeat (first | (with_reducible first | exact HB.out | apply below_alloc | apply pw_below_drewN | apply below_drew1) | exact HB.out)) hb); clear HB; have HB := n0_; clear n0_; (try clear hb); (try clear hb2); (try clear hk); (try clear hi)))
        go_ret
        exact ⟨by first | rfl | (simp [errW_none, errW_some] <;> rfl) | (simp [*, errW_none, errW_some] <;> rfl), by repeat (first | (with_reducible first | exact HB.out | apply below_alloc | apply pw_below_drewN | apply below_drew1) | exact HB.out)⟩
      · replace c12 := Bool.eq_false_iff.mpr c12
        subst c12
        have H1 : ((graftbedlaw02_grown.f kj2 l0).bind fun t610 => ((tree_Find.f t610 a1).bind fun bt613 => ((graftbedref02_Find.f kj2 t610 a1).bind fun bt615 => ((tree_Drop.f t610 a1).bind fun bt617 => ((graftbedref02_Drop.f kj2 t610 a1).bind fun bt621 => (if bt613.1.toList = bt615.1.toList then (if (bt613.2 != bt615.2) = true then (graftbedlaw02_TreeDrops.j1 kj2 a1 t610 bt613.1 bt617.1 bt617.2 true) else (if bt617.2 = bt621.2 then ((graftbedref02_Same.f kj2 bt617.1 bt621.1).bind fun t625 => (if t625 = true then (graftbedlaw02_TreeDrops.j1 kj2 a1 t610 bt613.1 bt617.1 bt617.2 ((bt617.2 == 0) != bt613.2)) else (graftbedlaw02_TreeDrops.j1 kj2 a1 t610 bt613.1 bt617.1 bt617.2 true))) else (graftbedlaw02_TreeDrops.j1 kj2 a1 t610 bt613.1 bt617.1 bt617.2 true))) else (graftbedlaw02_TreeDrops.j1 kj2 a1 t610 bt613.1 bt617.1 bt617.2 true))))))) = some r := by rw [if_neg (show ¬ (false = true) by decide)] at H; exact H
        clear H
        have H := H1
        clear H1
        replace H := Option.bind_eq_some_iff.mp H
        obtain ⟨t610, A150, H⟩ := H
        replace H : ((tree_Find.f t610 a1).bind fun bt613 => ((graftbedref02_Find.f kj2 t610 a1).bind fun bt615 => ((tree_Drop.f t610 a1).bind fun bt617 => ((graftbedref02_Drop.f kj2 t610 a1).bind fun bt621 => (if bt613.1.toList = bt615.1.toList then (if (bt613.2 != bt615.2) = true then (graftbedlaw02_TreeDrops.j1 kj2 a1 t610 bt613.1 bt617.1 bt617.2 true) else (if bt617.2 = bt621.2 then ((graftbedref02_Same.f kj2 bt617.1 bt621.1).bind fun t625 => (if t625 = true then (graftbedlaw02_TreeDrops.j1 kj2 a1 t610 bt613.1 bt617.1 bt617.2 ((bt617.2 == 0) != bt613.2)) else (graftbedlaw02_TreeDrops.j1 kj2 a1 t610 bt613.1 bt617.1 bt617.2 true))) else (graftbedlaw02_TreeDrops.j1 kj2 a1 t610 bt613.1 bt617.1 bt617.2 true))) else (graftbedlaw02_TreeDrops.j1 kj2 a1 t610 bt613.1 bt617.1 bt617.2 true)))))) = some r := H
        have A15 := Aside0.mk A150
        clear A150
        replace H := Option.bind_eq_some_iff.mp H
        obtain ⟨⟨t613, t614⟩, A160, H⟩ := H
        replace H : ((graftbedref02_Find.f kj2 t610 a1).bind fun bt615 => ((tree_Drop.f t610 a1).bind fun bt617 => ((graftbedref02_Drop.f kj2 t610 a1).bind fun bt621 => (if t613.toList = bt615.1.toList then (if (t614 != bt615.2) = true then (graftbedlaw02_TreeDrops.j1 kj2 a1 t610 t613 bt617.1 bt617.2 true) else (if bt617.2 = bt621.2 then ((graftbedref02_Same.f kj2 bt617.1 bt621.1).bind fun t625 => (if t625 = true then (graftbedlaw02_TreeDrops.j1 kj2 a1 t610 t613 bt617.1 bt617.2 ((bt617.2 == 0) != t614)) else (graftbedlaw02_TreeDrops.j1 kj2 a1 t610 t613 bt617.1 bt617.2 true))) else (graftbedlaw02_TreeDrops.j1 kj2 a1 t610 t613 bt617.1 bt617.2 true))) else (graftbedlaw02_TreeDrops.j1 kj2 a1 t610 t613 bt617.1 bt617.2 true))))) = some r := H
        have A16 := Aside0.mk A160
        clear A160
        replace H := Option.bind_eq_some_iff.mp H
        obtain ⟨⟨t615, t616⟩, A170, H⟩ := H
        replace H : ((tree_Drop.f t610 a1).bind fun bt617 => ((graftbedref02_Drop.f kj2 t610 a1).bind fun bt621 => (if t613.toList = t615.toList then (if (t614 != t616) = true then (graftbedlaw02_TreeDrops.j1 kj2 a1 t610 t613 bt617.1 bt617.2 true) else (if bt617.2 = bt621.2 then ((graftbedref02_Same.f kj2 bt617.1 bt621.1).bind fun t625 => (if t625 = true then (graftbedlaw02_TreeDrops.j1 kj2 a1 t610 t613 bt617.1 bt617.2 ((bt617.2 == 0) != t614)) else (graftbedlaw02_TreeDrops.j1 kj2 a1 t610 t613 bt617.1 bt617.2 true))) else (graftbedlaw02_TreeDrops.j1 kj2 a1 t610 t613 bt617.1 bt617.2 true))) else (graftbedlaw02_TreeDrops.j1 kj2 a1 t610 t613 bt617.1 bt617.2 true)))) = some r := H
        have A17 := Aside0.mk A170
        clear A170
        replace H := Option.bind_eq_some_iff.mp H
        obtain ⟨⟨t617, t618⟩, A180, H⟩ := H
        replace H : ((graftbedref02_Drop.f kj2 t610 a1).bind fun bt621 => (if t613.toList = t615.toList then (if (t614 != t616) = true then (graftbedlaw02_TreeDrops.j1 kj2 a1 t610 t613 t617 t618 true) else (if t618 = bt621.2 then ((graftbedref02_Same.f kj2 t617 bt621.1).bind fun t625 => (if t625 = true then (graftbedlaw02_TreeDrops.j1 kj2 a1 t610 t613 t617 t618 ((t618 == 0) != t614)) else (graftbedlaw02_TreeDrops.j1 kj2 a1 t610 t613 t617 t618 true))) else (graftbedlaw02_TreeDrops.j1 kj2 a1 t610 t613 t617 t618 true))) else (graftbedlaw02_TreeDrops.j1 kj2 a1 t610 t613 t617 t618 true))) = some r := H
        have A18 := Aside0.mk A180
        clear A180
        replace H := Option.bind_eq_some_iff.mp H
        obtain ⟨⟨t621, t622⟩, A190, H⟩ := H
        replace H : (if t613.toList = t615.toList then (if (t614 != t616) = true then (graftbedlaw02_TreeDrops.j1 kj2 a1 t610 t613 t617 t618 true) else (if t618 = t622 then ((graftbedref02_Same.f kj2 t617 t621).bind fun t625 => (if t625 = true then (graftbedlaw02_TreeDrops.j1 kj2 a1 t610 t613 t617 t618 ((t618 == 0) != t614)) else (graftbedlaw02_TreeDrops.j1 kj2 a1 t610 t613 t617 t618 true))) else (graftbedlaw02_TreeDrops.j1 kj2 a1 t610 t613 t617 t618 true))) else (graftbedlaw02_TreeDrops.j1 kj2 a1 t610 t613 t617 t618 true)) = some r := H
        have A19 := Aside0.mk A190
        clear A190
        have HC20 := Aside0.mk H
        clear H
        go_upto_region 8 with (first | ((with_reducible refine gate_callee (f := 12) rfl ?_); refine goesL_ (some 29) rfl rfl Try.func12 (by kernel_rfl) rfl #[.slice A0 l0.length c0] rfl (by (try simp only [List.map_toArray, List.map_cons, List.map_nil]); first | done | rfl | (simp only [List.length_drop, List.length_take]; rfl)) ?_; (with_reducible refine (graftbedlaw02_grown.calls kj2 _ _ l0 t610 _ ?side1 ?side2 A15.out).mono ?_); (case side1 => repeat (first | exact (Kd.C_below HR0.out HB.out) | (with_reducible refine Kd.C_alloc ?_ _) | (with_reducible refine Kd.C_drewN ?_ _) | (with_reducible refine Kd.C_drew ?_))); (case side2 => exact HC0.out); rintro e w21 ⟨v611, rfl, ho0, hb⟩; refine ⟨_, rfl, ?_⟩; have n0_ := Aside0.mk (Kd.R_lower ho0 (below_size (by repeat (first | (with_reducible first | exact HB.out | apply below_alloc | apply pw_below_drewN | apply below_drew1) | exact HB.out)))); have n1_ := Aside0.mk (below_step (by repeat (first | (with_reducible first | exact HB.out | apply below_alloc | apply pw_below_drewN | apply below_drew1) | exact HB.out)) hb); clear HB; have HO612 := n0_; have HB := n1_; clear n0_ n1_; (try clear hb); (try clear hb2); (try clear hk); (try clear hi); (try clear ho0); obtain ⟨Ao22, co22, eo22⟩ := Kd.R_slice HO612.out; subst eo22) | ((with_reducible refine gate_callee (f := 13) rfl ?_); refine goesL_ (some 33) rfl rfl Try.func13 (by kernel_rfl) rfl #[.slice Ao22 t610.length co22, .string a1] rfl (by (try simp only [List.map_toArray, List.map_cons, List.map_nil]); first | done | rfl | (simp only [List.length_drop, List.length_take]; rfl)) ?_; (with_reducible refine (tree_Find.calls _ _ t610 a1 t613 t614 _ ?side1 ?side2 A16.out).mono ?_); (case side1 => repeat (first | exact (Kd.R_reads' HO612.out).2.2 | (with_reducible refine Kd.C_alloc ?_ _) | (with_reducible refine Kd.C_drewN ?_ _) | (with_reducible refine Kd.C_drew ?_))); (case side2 => exact (Kd.R_reads' HO612.out).2.1); rintro e w23 ⟨rfl, hb⟩; refine ⟨_, rfl, ?_⟩; have n0_ := Aside0.mk (Kd.R_below (by (with_reducible repeat (first | apply Kd.R_alloc | apply Kd.R_drewN | apply Kd.R_drew)); exact HO612.out) hb); have n1_ := Aside0.mk (below_step (by repeat (first | (with_reducible first | exact HB.out | apply below_alloc | apply pw_below_drewN | apply below_drew1) | exact HB.out)) hb); clear HO612; clear HB; have HO612 := n0_; have HB := n1_; clear n0_ n1_; (try clear hb); (try clear hb2); (try clear hk); (try clear hi)) | ((with_reducible refine gate_callee (f := 17) rfl ?_); refine goesL_ (some 39) rfl rfl Try.func17 (by kernel_rfl) rfl #[.slice Ao22 t610.length co22, .string a1] rfl (by (try simp only [List.map_toArray, List.map_cons, List.map_nil]); first | done | rfl | (simp only [List.length_drop, List.length_take]; rfl)) ?_; (with_reducible refine (graftbedref02_Find.calls kj2 _ _ t610 a1 t615 t616 _ ?side1 ?side2 A17.out).mono ?_); (case side1 => repeat (first | exact (Kd.R_reads' HO612.out).2.2 | (with_reducible refine Kd.C_alloc ?_ _) | (with_reducible refine Kd.C_drewN ?_ _) | (with_reducible refine Kd.C_drew ?_))); (case side2 => exact (Kd.R_reads' HO612.out).2.1); rintro e w' ⟨rfl, ⟨nd, rfl⟩⟩; refine ⟨_, rfl, ?_⟩) | ((with_reducible refine gate_callee (f := 32) rfl ?_); refine goesL_ (some 45) rfl rfl Try.func32 (by kernel_rfl) rfl #[.slice Ao22 t610.length co22, .string a1] rfl (by (try simp only [List.map_toArray, List.map_cons, List.map_nil]); first | done | rfl | (simp only [List.length_drop, List.length_take]; rfl)) ?_; (with_reducible refine (tree_Drop.calls _ _ t610 a1 t617 t618 _ ?side1 ?side2 A18.out).mono ?_); (case side1 => repeat (first | exact (Kd.R_reads' HO612.out).2.2 | (with_reducible refine Kd.C_alloc ?_ _) | (with_reducible refine Kd.C_drewN ?_ _) | (with_reducible refine Kd.C_drew ?_))); (case side2 => exact (Kd.R_reads' HO612.out).2.1); rintro e w24 ⟨v619, rfl, ho0, hb⟩; refine ⟨_, rfl, ?_⟩; have n0_ := Aside0.mk (Kd.R_elder' (by (with_reducible repeat (first | apply Kd.R_alloc | apply Kd.R_drewN | apply Kd.R_drew)); exact HO612.out) (Kd.R_base ho0) hb); have n1_ := Aside0.mk (Kd.R_lower (Kd.R_new' ho0 (Kd.R_lt (by (with_reducible repeat (first | apply Kd.R_alloc | apply Kd.R_drewN | apply Kd.R_drew)); exact HO612.out))) (below_size (by repeat (first | (with_reducible first | exact HB.out | apply below_alloc | apply pw_below_drewN | apply below_drew1) | exact HB.out)))); have n2_ := Aside0.mk (below_step (by repeat (first | (with_reducible first | exact HB.out | apply below_alloc | apply pw_below_drewN | apply below_drew1) | exact HB.out)) hb); clear HO612; clear HB; have HO612 := n0_; have HO620 := n1_; have HB := n2_; clear n0_ n1_ n2_; (try clear hb); (try clear hb2); (try clear hk); (try clear hi); (try clear ho0)) | ((with_reducible refine gate_callee (f := 33) rfl ?_); refine goesL_ (some 51) rfl rfl Try.func33 (by kernel_rfl) rfl #[.slice Ao22 t610.length co22, .string a1] rfl (by (try simp only [List.map_toArray, List.map_cons, List.map_nil]); first | done | rfl | (simp only [List.length_drop, List.length_take]; rfl)) ?_; (with_reducible refine (graftbedref02_Drop.calls kj2 _ _ t610 a1 t621 t622 _ ?side1 ?side2 A19.out).mono ?_); (case side1 => repeat (first | exact (Kd.R_reads' HO612.out).2.2 | (with_reducible refine Kd.C_alloc ?_ _) | (with_reducible refine Kd.C_drewN ?_ _) | (with_reducible refine Kd.C_drew ?_))); (case side2 => exact (Kd.R_reads' HO612.out).2.1); rintro e w25 ⟨v623, rfl, ho0, hb⟩; refine ⟨_, rfl, ?_⟩; have n0_ := Aside0.mk (Kd.R_elder' (by (with_reducible repeat (first | apply Kd.R_alloc | apply Kd.R_drewN | apply Kd.R_drew)); exact HO612.out) (Kd.R_base ho0) hb); have n1_ := Aside0.mk (Kd.R_elder' (by (with_reducible repeat (first | apply Kd.R_alloc | apply Kd.R_drewN | apply Kd.R_drew)); exact HO620.out) (Kd.R_base ho0) hb); have n2_ := Aside0.mk (Kd.R_lower (Kd.R_new' (Kd.R_new' ho0 (Kd.R_lt (by (with_reducible repeat (first | apply Kd.R_alloc | apply Kd.R_drewN | apply Kd.R_drew)); exact HO612.out))) (Kd.R_lt (by (with_reducible repeat (first | apply Kd.R_alloc | apply Kd.R_drewN | apply Kd.R_drew)); exact HO620.out))) (below_size (by repeat (first | (with_reducible first | exact HB.out | apply below_alloc | apply pw_below_drewN | apply below_drew1) | exact HB.out)))); have n3_ := Aside0.mk (below_step (by repeat (first | (with_reducible first | exact HB.out | apply below_alloc | apply pw_below_drewN | apply below_drew1) | exact HB.out)) hb); clear HO612; clear HO620; clear HB; have HO612 := n0_; have HO620 := n1_; have HO624 := n2_; have HB := n3_; clear n0_ n1_ n2_ n3_; (try clear hb); (try clear hb2); (try clear hk); (try clear hi); (try clear ho0)))
        (try simp only [Act.put, List.setIfInBounds_toArray, List.set_cons_zero, List.set_cons_succ])
        go_cut [78] (fun v78 wc => ∃ (kq : Nat) (x78_19 : Bool), v78 = .bool x78_19 ∧ Aside0 (graftbedlaw02_TreeDrops.j1 kq a1 t610 t613 t617 t618 x78_19 = some r) ∧ Aside0 (kq ≤ kj2) ∧ Aside0 (Kd.R k29 29 wc w.heap.size (fun k_ => some k_ ≠ (v619 : Value).ownBlock) (.slice Ao22 t610.length co22) t610) ∧ Aside0 (Kd.R k29 29 wc w.heap.size (fun k_ => some k_ ≠ ((.slice Ao22 t610.length co22) : Value).ownBlock) v619 t617) ∧ Aside0 (Below w.heap.size w wc))
        case first =>
          have H := HC20.out
          clear HC20
          by_cases c26 : t613.toList = t615.toList
          · rw [if_pos c26] at H
            have c26b0 : (t613.toList == t615.toList) = true := beq_iff_eq.mpr c26
            have c26b1 : (t613.toList != t615.toList) = false := bne_eq_false_iff_eq.mpr c26
            clear c26
            (first | rw [c26b0] | (simp only [i64_w, i32_w]; rw [c26b0]) | skip)
            by_cases c27 : (t614 != t616) = true
            · rw [if_pos c27] at H
              have c27b0 : (t614 != t616) = true := c27
              (try (have c27b1 : decide (t614 = t616) = false := by simpa using c27))
              (try (have c27b2 : (t614 == t616) = false := by simpa using c27))
              (try (have c27b3 : ¬ (t614 = t616) := by simpa using c27))
              clear c27
              have H' := Aside0.mk H
              clear H
              go_wp2
              go_meet
              case rel => exact ⟨_, (true), (by first | rfl | (simp; done) | (simp [*]; done)), H', ⟨by have := HJ2.out; first | omega | exact Nat.le_refl _⟩, ⟨by (with_reducible repeat (first | apply Kd.R_alloc | apply Kd.R_drewN | apply Kd.R_drew)); exact Kd.R_mono HO612.out (fun _ hk => hk.1.2)⟩, ⟨by (with_reducible repeat (first | apply Kd.R_alloc | apply Kd.R_drewN | apply Kd.R_drew)); exact Kd.R_mono HO620.out (fun _ hk => hk.1.2)⟩, ⟨by repeat (first | (with_reducible first | exact HB.out | apply below_alloc | apply pw_below_drewN | apply below_drew1) | exact HB.out)⟩⟩
            · rw [if_neg c27] at H
              have c27b0 : (t614 != t616) = false := by simpa using c27
              (try (have c27b1 : decide (t614 = t616) = true := by simpa using c27))
              (try (have c27b2 : (t614 == t616) = true := by simpa using c27))
              clear c27
              by_cases c28 : t618 = t622
              · rw [if_pos c28] at H
                have c28b0 : (t618 == t622) = true := beq_iff_eq.mpr c28
                have c28b1 : (t618 != t622) = false := bne_eq_false_iff_eq.mpr c28
                clear c28
                replace H := Option.bind_eq_some_iff.mp H
                obtain ⟨t625, A290, H⟩ := H
                replace H : (if t625 = true then (graftbedlaw02_TreeDrops.j1 kj2 a1 t610 t613 t617 t618 ((t618 == 0) != t614)) else (graftbedlaw02_TreeDrops.j1 kj2 a1 t610 t613 t617 t618 true)) = some r := H
                have A29 := Aside0.mk A290
                clear A290
                by_cases c30 : t625 = true
                · subst c30
                  have H1 : (graftbedlaw02_TreeDrops.j1 kj2 a1 t610 t613 t617 t618 ((t618 == 0) != t614)) = some r := by rw [if_pos rfl] at H; exact H
                  clear H
                  have H := H1
                  clear H1
                  have H' := Aside0.mk H
                  clear H
                  obtain ⟨Ao31, co31, eo31⟩ := Kd.R_slice HO620.out
                  subst eo31
                  obtain ⟨Ao32, co32, eo32⟩ := Kd.R_slice HO624.out
                  subst eo32
                  go_wp2_with (first | (go_at_call 16; (with_reducible refine (graftbedref02_Same.calls kj2 _ _ t617 _ _ t621 true _ ?side1 ?side2 ?side3 ?side4 A29.out).mono ?_); (case side1 => repeat (first | exact (Kd.R_reads' HO620.out).2.2 | (with_reducible refine Kd.C_alloc ?_ _) | (with_reducible refine Kd.C_drewN ?_ _) | (with_reducible refine Kd.C_drew ?_))); (case side2 => exact (Kd.R_reads' HO620.out).2.1); (case side3 => repeat (first | exact (Kd.R_reads' HO624.out).2.2 | (with_reducible refine Kd.C_alloc ?_ _) | (with_reducible refine Kd.C_drewN ?_ _) | (with_reducible refine Kd.C_drew ?_))); (case side4 => exact (Kd.R_reads' HO624.out).2.1); rintro e w' ⟨rfl, ⟨nd, rfl⟩⟩))
                  go_meet
                  case rel => exact ⟨_, (((t618 == 0) != t614)), (by first | rfl | (simp; done) | (simp [*]; done)), H', ⟨by have := HJ2.out; first | omega | exact Nat.le_refl _⟩, ⟨by (with_reducible repeat (first | apply Kd.R_alloc | apply Kd.R_drewN | apply Kd.R_drew)); exact Kd.R_mono HO612.out (fun _ hk => hk.1.2)⟩, ⟨by (with_reducible repeat (first | apply Kd.R_alloc | apply Kd.R_drewN | apply Kd.R_drew)); exact Kd.R_mono HO620.out (fun _ hk => hk.1.2)⟩, ⟨by repeat (first | (with_reducible first | exact HB.out | apply below_alloc | apply pw_below_drewN | apply below_drew1) | exact HB.out)⟩⟩
                · replace c30 := Bool.eq_false_iff.mpr c30
                  subst c30
                  have H1 : (graftbedlaw02_TreeDrops.j1 kj2 a1 t610 t613 t617 t618 true) = some r := by rw [if_neg (show ¬ (false = true) by decide)] at H; exact H
                  clear H
                  have H := H1
                  clear H1
                  have H' := Aside0.mk H
                  clear H
                  obtain ⟨Ao33, co33, eo33⟩ := Kd.R_slice HO620.out
                  subst eo33
                  obtain ⟨Ao34, co34, eo34⟩ := Kd.R_slice HO624.out
                  subst eo34
                  go_wp2_with (first | (go_at_call 16; (with_reducible refine (graftbedref02_Same.calls kj2 _ _ t617 _ _ t621 false _ ?side1 ?side2 ?side3 ?side4 A29.out).mono ?_); (case side1 => repeat (first | exact (Kd.R_reads' HO620.out).2.2 | (with_reducible refine Kd.C_alloc ?_ _) | (with_reducible refine Kd.C_drewN ?_ _) | (with_reducible refine Kd.C_drew ?_))); (case side2 => exact (Kd.R_reads' HO620.out).2.1); (case side3 => repeat (first | exact (Kd.R_reads' HO624.out).2.2 | (with_reducible refine Kd.C_alloc ?_ _) | (with_reducible refine Kd.C_drewN ?_ _) | (with_reducible refine Kd.C_drew ?_))); (case side4 => exact (Kd.R_reads' HO624.out).2.1); rintro e w' ⟨rfl, ⟨nd, rfl⟩⟩))
                  go_meet
                  case rel => exact ⟨_, (true), (by first | rfl | (simp; done) | (simp [*]; done)), H', ⟨by have := HJ2.out; first | omega | exact Nat.le_refl _⟩, ⟨by (with_reducible repeat (first | apply Kd.R_alloc | apply Kd.R_drewN | apply Kd.R_drew)); exact Kd.R_mono HO612.out (fun _ hk => hk.1.2)⟩, ⟨by (with_reducible repeat (first | apply Kd.R_alloc | apply Kd.R_drewN | apply Kd.R_drew)); exact Kd.R_mono HO620.out (fun _ hk => hk.1.2)⟩, ⟨by repeat (first | (with_reducible first | exact HB.out | apply below_alloc | apply pw_below_drewN | apply below_drew1) | exact HB.out)⟩⟩
              · rw [if_neg c28] at H
                have c28b0 : (t618 == t622) = false := beq_eq_false_iff_ne.mpr c28
                have c28b1 : (t618 != t622) = true := bne_iff_ne.mpr c28
                have H' := Aside0.mk H
                clear H
                go_wp2
                go_meet
                case rel => exact ⟨_, (true), (by first | rfl | (simp; done) | (simp [*]; done)), H', ⟨by have := HJ2.out; first | omega | exact Nat.le_refl _⟩, ⟨by (with_reducible repeat (first | apply Kd.R_alloc | apply Kd.R_drewN | apply Kd.R_drew)); exact Kd.R_mono HO612.out (fun _ hk => hk.1.2)⟩, ⟨by (with_reducible repeat (first | apply Kd.R_alloc | apply Kd.R_drewN | apply Kd.R_drew)); exact Kd.R_mono HO620.out (fun _ hk => hk.1.2)⟩, ⟨by repeat (first | (with_reducible first | exact HB.out | apply below_alloc | apply pw_below_drewN | apply below_drew1) | exact HB.out)⟩⟩
          · rw [if_neg c26] at H
            have c26b0 : (t613.toList == t615.toList) = false := beq_eq_false_iff_ne.mpr c26
            have c26b1 : (t613.toList != t615.toList) = true := bne_iff_ne.mpr c26
            (first | rw [c26b0] | (simp only [i64_w, i32_w]; rw [c26b0]) | skip)
            have H' := Aside0.mk H
            clear H
            go_wp2
            go_meet
            case rel => exact ⟨_, (true), (by first | rfl | (simp; done) | (simp [*]; done)), H', ⟨by have := HJ2.out; first | omega | exact Nat.le_refl _⟩, ⟨by (with_reducible repeat (first | apply Kd.R_alloc | apply Kd.R_drewN | apply Kd.R_drew)); exact Kd.R_mono HO612.out (fun _ hk => hk.1.2)⟩, ⟨by (with_reducible repeat (first | apply Kd.R_alloc | apply Kd.R_drewN | apply Kd.R_drew)); exact Kd.R_mono HO620.out (fun _ hk => hk.1.2)⟩, ⟨by repeat (first | (with_reducible first | exact HB.out | apply below_alloc | apply pw_below_drewN | apply below_drew1) | exact HB.out)⟩⟩
        case rest =>
          clear HC20
          try clear c1
          try clear c2
          try clear p2
          try clear c3
          try clear c5
          try clear c7
          try clear c7b0
          try clear c7b1
          try clear c8
          try clear c10
          try clear c11
          try clear c12
          try clear c13
          try clear c17
          try clear c26
          try clear c26b0
          try clear c26b1
          try clear c27
          try clear c27b0
          try clear c27b1
          try clear c27b2
          try clear c28
          try clear c28b0
          try clear c28b1
          try clear c30
          try clear c32
          try clear c33
          try clear p2
          obtain ⟨kq, x78_19, rfl, HA, HJ19, HO_5, HO_10, HB⟩ := hcut
          cases kq with
          | zero => exact absurd HA.out (by simp [graftbedlaw02_TreeDrops.j1])
          | succ kj19 =>
            have H := HA.out
            clear HA
            simp only [graftbedlaw02_TreeDrops.j1] at H
            by_cases c35 : x78_19 = true
            · subst c35
              have H1 : (some false) = some r := by rw [if_pos rfl] at H; exact H
              clear H
              have H := H1
              clear H1
              obtain rfl := Option.some.inj H
              go_wp2
              go_ret
              exact ⟨by first | rfl | (simp [errW_none, errW_some] <;> rfl) | (simp [*, errW_none, errW_some] <;> rfl), by repeat (first | (with_reducible first | exact HB.out | apply below_alloc | apply pw_below_drewN | apply below_drew1) | exact HB.out)⟩
            · replace c35 := Bool.eq_false_iff.mpr c35
              subst c35
              have H1 : (if t618 = 0 then ((tree_Put.f t617 a1 t613).bind fun bt626 => (if bt626.2 = 0 then ((graftbedref02_Same.f kj19 bt626.1 t610).bind fun t630 => (if t630 = true then ((tree_Check.f kj19 t617).bind fun bt631 => (some (bt631.1 == 0 && (bt631.2.1.toList == ([] : List UInt8) && (bt631.2.2 == 0))))) else (some false))) else (some false))) else (some (t618 == 3))) = some r := by rw [if_neg (show ¬ (false = true) by decide)] at H; exact H
              clear H
              have H := H1
              clear H1
              by_cases c36 : t618 = 0
              · rw [if_pos c36] at H
                have c36b0 : (t618 == 0) = true := beq_iff_eq.mpr c36
                have c36b1 : (t618 != 0) = false := bne_eq_false_iff_eq.mpr c36
                clear c36
                replace H := Option.bind_eq_some_iff.mp H
                obtain ⟨⟨t626, t629⟩, A370, H⟩ := H
                replace H : (if t629 = 0 then ((graftbedref02_Same.f kj19 t626 t610).bind fun t630 => (if t630 = true then ((tree_Check.f kj19 t617).bind fun bt631 => (some (bt631.1 == 0 && (bt631.2.1.toList == ([] : List UInt8) && (bt631.2.2 == 0))))) else (some false))) else (some false)) = some r := H
                have A37 := Aside0.mk A370
                clear A370
                by_cases c38 : t629 = 0
                · rw [if_pos c38] at H
                  have c38b0 : (t629 == 0) = true := beq_iff_eq.mpr c38
                  have c38b1 : (t629 != 0) = false := bne_eq_false_iff_eq.mpr c38
                  clear c38
                  replace H := Option.bind_eq_some_iff.mp H
                  obtain ⟨t630, A390, H⟩ := H
                  replace H : (if t630 = true then ((tree_Check.f kj19 t617).bind fun bt631 => (some (bt631.1 == 0 && (bt631.2.1.toList == ([] : List UInt8) && (bt631.2.2 == 0))))) else (some false)) = some r := H
                  have A39 := Aside0.mk A390
                  clear A390
                  by_cases c40 : t630 = true
                  · subst c40
                    have H1 : ((tree_Check.f kj19 t617).bind fun bt631 => (some (bt631.1 == 0 && (bt631.2.1.toList == ([] : List UInt8) && (bt631.2.2 == 0))))) = some r := by rw [if_pos rfl] at H; exact H
                    clear H
                    have H := H1
                    clear H1
                    replace H := Option.bind_eq_some_iff.mp H
                    obtain ⟨⟨t631, t632, t633⟩, A410, H⟩ := H
                    replace H : (some (t631 == 0 && (t632.toList == ([] : List UInt8) && (t633 == 0)))) = some r := H
                    have A41 := Aside0.mk A410
                    clear A410
                    obtain rfl := Option.some.inj H
                    obtain ⟨Ao42, co42, eo42⟩ := Kd.R_slice HO_10.out
                    subst eo42
                    go_wp2_with (first | ((with_reducible refine gate_callee (f := 19) rfl ?_); refine goesL_ (some 88) rfl rfl Try.func19 (by kernel_rfl) rfl #[.slice Ao42 t617.length co42, .agg #[.string a1, .string t613]] rfl (by (try simp only [List.map_toArray, List.map_cons, List.map_nil]); first | done | rfl | (simp only [List.length_drop, List.length_take]; rfl)) ?_; (with_reducible refine (tree_Put.calls _ _ t617 a1 t613 t626 t629 _ ?side1 ?side2 A37.out).mono ?_); (case side1 => repeat (first | exact (Kd.R_reads' HO_10.out).2.2 | (with_reducible refine Kd.C_alloc ?_ _) | (with_reducible refine Kd.C_drewN ?_ _) | (with_reducible refine Kd.C_drew ?_))); (case side2 => exact (Kd.R_reads' HO_10.out).2.1); rintro e w43 ⟨v627, rfl, ho0, hb⟩; refine ⟨_, rfl, ?_⟩; have n0_ := Aside0.mk (Kd.R_elder' (by (with_reducible repeat (first | apply Kd.R_alloc | apply Kd.R_drewN | apply Kd.R_drew)); exact HO_5.out) (Kd.R_base ho0) hb); have n1_ := Aside0.mk (Kd.R_elder' (by (with_reducible repeat (first | apply Kd.R_alloc | apply Kd.R_drewN | apply Kd.R_drew)); exact HO_10.out) (Kd.R_base ho0) hb); have n2_ := Aside0.mk (Kd.R_lower (Kd.R_new' (Kd.R_new' ho0 (Kd.R_lt (by (with_reducible repeat (first | apply Kd.R_alloc | apply Kd.R_drewN | apply Kd.R_drew)); exact HO_5.out))) (Kd.R_lt (by (with_reducible repeat (first | apply Kd.R_alloc | apply Kd.R_drewN | apply Kd.R_drew)); exact HO_10.out))) (below_size (by repeat (first | (with_reducible first | exact HB.out | apply below_alloc | apply pw_below_drewN | apply below_drew1) | exact HB.out)))); have n3_ := Aside0.mk (below_step (by repeat (first | (with_reducible first | exact HB.out | apply below_alloc | apply pw_below_drewN | apply below_drew1) | exact HB.out)) hb); clear HO_5; clear HO_10; clear HB; have HO_5 := n0_; have HO_10 := n1_; have HO628 := n2_; have HB := n3_; clear n0_ n1_ n2_ n3_; (try clear hb); (try clear hb2); (try clear hk); (try clear hi); (try clear ho0); obtain ⟨Ao44, co44, eo44⟩ := Kd.R_slice HO628.out; subst eo44) | (go_at_call 16; (with_reducible refine (graftbedref02_Same.calls kj19 _ _ t626 _ _ t610 true _ ?side1 ?side2 ?side3 ?side4 A39.out).mono ?_); (case side1 => repeat (first | exact (Kd.R_reads' HO628.out).2.2 | (with_reducible refine Kd.C_alloc ?_ _) | (with_reducible refine Kd.C_drewN ?_ _) | (with_reducible refine Kd.C_drew ?_))); (case side2 => exact (Kd.R_reads' HO628.out).2.1); (case side3 => repeat (first | exact (Kd.R_reads' HO_5.out).2.2 | (with_reducible refine Kd.C_alloc ?_ _) | (with_reducible refine Kd.C_drewN ?_ _) | (with_reducible refine Kd.C_drew ?_))); (case side4 => exact (Kd.R_reads' HO_5.out).2.1); rintro e w' ⟨rfl, ⟨nd, rfl⟩⟩) | (go_at_call 18; (with_reducible refine (tree_Check.calls kj19 _ _ t617 t631 t632 t633 _ ?side1 ?side2 A41.out).mono ?_); (case side1 => repeat (first | exact (Kd.R_reads' HO_10.out).2.2 | (with_reducible refine Kd.C_alloc ?_ _) | (with_reducible refine Kd.C_drewN ?_ _) | (with_reducible refine Kd.C_drew ?_))); (case side2 => exact (Kd.R_reads' HO_10.out).2.1); rintro e w45 ⟨rfl, hb⟩; have n0_ := Aside0.mk (Kd.R_below (by (with_reducible repeat (first | apply Kd.R_alloc | apply Kd.R_drewN | apply Kd.R_drew)); exact HO_5.out) hb); have n1_ := Aside0.mk (Kd.R_below (by (with_reducible repeat (first | apply Kd.R_alloc | apply Kd.R_drewN | apply Kd.R_drew)); exact HO_10.out) hb); have n2_ := Aside0.mk (Kd.R_below (by (with_reducible repeat (first | apply Kd.R_alloc | apply Kd.R_drewN | apply Kd.R_drew)); exact HO628.out) hb); have n3_ := Aside0.mk (below_step (by repeat (first | (with_reducible first | exact HB.out | apply below_alloc | apply pw_below_drewN | apply below_drew1) | exact HB.out)) hb); clear HO_5; clear HO_10; clear HO628; clear HB; have HO_5 := n0_; have HO_10 := n1_; have HO628 := n2_; have HB := n3_; clear n0_ n1_ n2_ n3_; (try clear hb); (try clear hb2); (try clear hk); (try clear hi)))
                    go_ret
                    exact ⟨by first | rfl | (simp [errW_none, errW_some] <;> rfl) | (simp [*, errW_none, errW_some] <;> rfl), by repeat (first | (with_reducible first | exact HB.out | apply below_alloc | apply pw_below_drewN | apply below_drew1) | exact HB.out)⟩
                  · replace c40 := Bool.eq_false_iff.mpr c40
                    subst c40
                    have H1 : (some false) = some r := by rw [if_neg (show ¬ (false = true) by decide)] at H; exact H
                    clear H
                    have H := H1
                    clear H1
                    obtain rfl := Option.some.inj H
                    obtain ⟨Ao46, co46, eo46⟩ := Kd.R_slice HO_10.out
                    subst eo46
                    go_wp2_with (first | ((with_reducible refine gate_callee (f := 19) rfl ?_); refine goesL_ (some 88) rfl rfl Try.func19 (by kernel_rfl) rfl #[.slice Ao46 t617.length co46, .agg #[.string a1, .string t613]] rfl (by (try simp only [List.map_toArray, List.map_cons, List.map_nil]); first | done | rfl | (simp only [List.length_drop, List.length_take]; rfl)) ?_; (with_reducible refine (tree_Put.calls _ _ t617 a1 t613 t626 t629 _ ?side1 ?side2 A37.out).mono ?_); (case side1 => repeat (first | exact (Kd.R_reads' HO_10.out).2.2 | (with_reducible refine Kd.C_alloc ?_ _) | (with_reducible refine Kd.C_drewN ?_ _) | (with_reducible refine Kd.C_drew ?_))); (case side2 => exact (Kd.R_reads' HO_10.out).2.1); rintro e w47 ⟨v627, rfl, ho0, hb⟩; refine ⟨_, rfl, ?_⟩; have n0_ := Aside0.mk (Kd.R_elder' (by (with_reducible repeat (first | apply Kd.R_alloc | apply Kd.R_drewN | apply Kd.R_drew)); exact HO_5.out) (Kd.R_base ho0) hb); have n1_ := Aside0.mk (Kd.R_elder' (by (with_reducible repeat (first | apply Kd.R_alloc | apply Kd.R_drewN | apply Kd.R_drew)); exact HO_10.out) (Kd.R_base ho0) hb); have n2_ := Aside0.mk (Kd.R_lower (Kd.R_new' (Kd.R_new' ho0 (Kd.R_lt (by (with_reducible repeat (first | apply Kd.R_alloc | apply Kd.R_drewN | apply Kd.R_drew)); exact HO_5.out))) (Kd.R_lt (by (with_reducible repeat (first | apply Kd.R_alloc | apply Kd.R_drewN | apply Kd.R_drew)); exact HO_10.out))) (below_size (by repeat (first | (with_reducible first | exact HB.out | apply below_alloc | apply pw_below_drewN | apply below_drew1) | exact HB.out)))); have n3_ := Aside0.mk (below_step (by repeat (first | (with_reducible first | exact HB.out | apply below_alloc | apply pw_below_drewN | apply below_drew1) | exact HB.out)) hb); clear HO_5; clear HO_10; clear HB; have HO_5 := n0_; have HO_10 := n1_; have HO628 := n2_; have HB := n3_; clear n0_ n1_ n2_ n3_; (try clear hb); (try clear hb2); (try clear hk); (try clear hi); (try clear ho0); obtain ⟨Ao48, co48, eo48⟩ := Kd.R_slice HO628.out; subst eo48) | (go_at_call 16; (with_reducible refine (graftbedref02_Same.calls kj19 _ _ t626 _ _ t610 false _ ?side1 ?side2 ?side3 ?side4 A39.out).mono ?_); (case side1 => repeat (first | exact (Kd.R_reads' HO628.out).2.2 | (with_reducible refine Kd.C_alloc ?_ _) | (with_reducible refine Kd.C_drewN ?_ _) | (with_reducible refine Kd.C_drew ?_))); (case side2 => exact (Kd.R_reads' HO628.out).2.1); (case side3 => repeat (first | exact (Kd.R_reads' HO_5.out).2.2 | (with_reducible refine Kd.C_alloc ?_ _) | (with_reducible refine Kd.C_drewN ?_ _) | (with_reducible refine Kd.C_drew ?_))); (case side4 => exact (Kd.R_reads' HO_5.out).2.1); rintro e w' ⟨rfl, ⟨nd, rfl⟩⟩))
                    go_ret
                    exact ⟨by first | rfl | (simp [errW_none, errW_some] <;> rfl) | (simp [*, errW_none, errW_some] <;> rfl), by repeat (first | (with_reducible first | exact HB.out | apply below_alloc | apply pw_below_drewN | apply below_drew1) | exact HB.out)⟩
                · rw [if_neg c38] at H
                  have c38b0 : (t629 == 0) = false := beq_eq_false_iff_ne.mpr c38
                  have c38b1 : (t629 != 0) = true := bne_iff_ne.mpr c38
                  obtain rfl := Option.some.inj H
                  obtain ⟨Ao49, co49, eo49⟩ := Kd.R_slice HO_10.out
                  subst eo49
                  go_wp2_with (first | ((with_reducible refine gate_callee (f := 19) rfl ?_); refine goesL_ (some 88) rfl rfl Try.func19 (by kernel_rfl) rfl #[.slice Ao49 t617.length co49, .agg #[.string a1, .string t613]] rfl (by (try simp only [List.map_toArray, List.map_cons, List.map_nil]); first | done | rfl | (simp only [List.length_drop, List.length_take]; rfl)) ?_; (with_reducible refine (tree_Put.calls _ _ t617 a1 t613 t626 t629 _ ?side1 ?side2 A37.out).mono ?_); (case side1 => repeat (first | exact (Kd.R_reads' HO_10.out).2.2 | (with_reducible refine Kd.C_alloc ?_ _) | (with_reducible refine Kd.C_drewN ?_ _) | (with_reducible refine Kd.C_drew ?_))); (case side2 => exact (Kd.R_reads' HO_10.out).2.1); rintro e w50 ⟨v627, rfl, ho0, hb⟩; refine ⟨_, rfl, ?_⟩; have n0_ := Aside0.mk (Kd.R_elder' (by (with_reducible repeat (first | apply Kd.R_alloc | apply Kd.R_drewN | apply Kd.R_drew)); exact HO_5.out) (Kd.R_base ho0) hb); have n1_ := Aside0.mk (Kd.R_elder' (by (with_reducible repeat (first | apply Kd.R_alloc | apply Kd.R_drewN | apply Kd.R_drew)); exact HO_10.out) (Kd.R_base ho0) hb); have n2_ := Aside0.mk (Kd.R_lower (Kd.R_new' (Kd.R_new' ho0 (Kd.R_lt (by (with_reducible repeat (first | apply Kd.R_alloc | apply Kd.R_drewN | apply Kd.R_drew)); exact HO_5.out))) (Kd.R_lt (by (with_reducible repeat (first | apply Kd.R_alloc | apply Kd.R_drewN | apply Kd.R_drew)); exact HO_10.out))) (below_size (by repeat (first | (with_reducible first | exact HB.out | apply below_alloc | apply pw_below_drewN | apply below_drew1) | exact HB.out)))); have n3_ := Aside0.mk (below_step (by repeat (first | (with_reducible first | exact HB.out | apply below_alloc | apply pw_below_drewN | apply below_drew1) | exact HB.out)) hb); clear HO_5; clear HO_10; clear HB; have HO_5 := n0_; have HO_10 := n1_; have HO628 := n2_; have HB := n3_; clear n0_ n1_ n2_ n3_; (try clear hb); (try clear hb2); (try clear hk); (try clear hi); (try clear ho0)))
                  go_ret
                  exact ⟨by first | rfl | (simp [errW_none, errW_some] <;> rfl) | (simp [*, errW_none, errW_some] <;> rfl), by repeat (first | (with_reducible first | exact HB.out | apply below_alloc | apply pw_below_drewN | apply below_drew1) | exact HB.out)⟩
              · rw [if_neg c36] at H
                have c36b0 : (t618 == 0) = false := beq_eq_false_iff_ne.mpr c36
                have c36b1 : (t618 != 0) = true := bne_iff_ne.mpr c36
                obtain rfl := Option.some.inj H
                go_wp2
                go_ret
                exact ⟨by first | rfl | (simp [errW_none, errW_some] <;> rfl) | (simp [*, errW_none, errW_some] <;> rfl), by repeat (first | (with_reducible first | exact HB.out | apply below_alloc | apply pw_below_drewN | apply below_drew1) | exact HB.out)⟩
end Go.Proofs.Ytbbhmjokiejnmaa.Hy

