import Derived.Test.YtbbhmjokiejnmaaQMHy0
import Derived.Test.YtbbhmjokiejnmaaQMHy2
import Derived.Test.YtbbhmjokiejnmaaQMHy4
import Derived.Test.YtbbhmjokiejnmaaQMHy8
import Derived.Test.YtbbhmjokiejnmaaQMHy9
import Derived.Test.YtbbhmjokiejnmaaQMHy10
import Derived.Test.YtbbhmjokiejnmaaQMHy11
import Derived.Test.YtbbhmjokiejnmaaQMMerge
-- Printed by a program of this session (wip/hybrid.py) that runs the kit's print over given contracts. Lean checks it.
namespace Go.Proofs.Ytbbhmjokiejnmaa.Hy
open Go.RowKit Go.Proofs.YtbbhmjokiejnmaaW.PrintWords Go.Proofs.YtbbhmjokiejnmaaW.PrintLast Go.Proofs.YtbbhmjokiejnmaaW.PrintMore
attribute [local go_sem] min2_int min_two -- for this text's walks alone
set_option linter.unusedVariables false
set_option linter.unusedSimpArgs false
attribute [local go_sem high] eqA33
mutual
def graftbedlaw02_TreeMerges.j0 : Nat → List (S29) → List (S29) → Bool → Option (Bool)
  | 0, _, _, _ => none
  | k + 1, x0, x1, x27 => if x27 = true then ((graftbedlaw02_shown.f).bind fun t272 => (some t272)) else ((graftbedlaw02_grown.f k x0).bind fun t273 => ((graftbedlaw02_grown.f k x1).bind fun t276 => ((tree_Merge.f t273 t276).bind fun bt279 => ((graftbedref02_Merge.f k t273 t276).bind fun bt286 => (if (!(bt279.2.1 == bt286.2.1) || (!(bt279.2.2.1.toList == bt286.2.2.1.toList) || (!(bt279.2.2.2 == bt286.2.2.2)))) = true then (graftbedlaw02_TreeMerges.j1 k t273 t276 bt279.1 true bt279.2.1 bt279.2.2.1 bt279.2.2.2) else ((graftbedref02_Same.f k bt279.1 bt286.1).bind fun t293 => (graftbedlaw02_TreeMerges.j1 k t273 t276 bt279.1 (!t293) bt279.2.1 bt279.2.2.1 bt279.2.2.2)))))))
def graftbedlaw02_TreeMerges.j1 : Nat → List (S29) → List (S29) → List (S29) → Bool → Int → ByteArray → Int → Option (Bool)
  | 0, _, _, _, _, _, _, _ => none
  | k + 1, x5, x6, x7, x53, x286000, x286001, x286002 => if x53 = true then (some false) else (if (!(x286000 == 0) || (!(x286001.toList == ([] : List UInt8)) || (!(x286002 == 0)))) = true then (some ((x7.length : Int) == 0)) else ((tree_Merge.f x6 x5).bind fun bt294 => (graftbedlaw02_TreeMerges.l0 k x5 x6 x7 bt294.1 0 bt294.2.1 bt294.2.2.1 bt294.2.2.2)))
def graftbedlaw02_TreeMerges.l0 : Nat → List (S29) → List (S29) → List (S29) → List (S29) → Int → Int → ByteArray → Int → Option (Bool)
  | 0, _, _, _, _, _, _, _, _ => none
  | k + 1, x5, x6, x7, x11, x13, x301000, x301001, x301002 => if x13 < (x7.length : Int) then (if 0 ≤ x13 then ((graftbedref02_Find.f k x5 ((rd_T29 x7 x13).f0)).bind fun bt306 => ((graftbedref02_Find.f k x6 ((rd_T29 x7 x13).f0)).bind fun bt309 => (if bt306.2 = true then (if bt306.1.toList = ((rd_T29 x7 x13).f1).toList then (if bt309.2 = true then (if bt309.1.toList = ((rd_T29 x7 x13).f1).toList then (graftbedlaw02_TreeMerges.l0 k x5 x6 x7 x11 (wrap64 (x13 + 1)) x301000 x301001 x301002) else (some false)) else (graftbedlaw02_TreeMerges.l0 k x5 x6 x7 x11 (wrap64 (x13 + 1)) x301000 x301001 x301002)) else (some false)) else (if bt309.2 = true then (if bt309.1.toList = ((rd_T29 x7 x13).f1).toList then (graftbedlaw02_TreeMerges.l0 k x5 x6 x7 x11 (wrap64 (x13 + 1)) x301000 x301001 x301002) else (some false)) else (some false))))) else (none)) else (if (x301000 == 0 && (x301001.toList == ([] : List UInt8) && (x301002 == 0))) = true then ((graftbedref02_Same.f k x7 x11).bind fun t301 => (if t301 = true then ((tree_Check.f k x7).bind fun bt302 => (if (bt302.1 == 0 && (bt302.2.1.toList == ([] : List UInt8) && (bt302.2.2 == 0))) = true then (if (x7.length : Int) ≥ (x5.length : Int) then (some (decide ((x7.length : Int) ≥ (x6.length : Int)))) else (some false)) else (some false))) else (some false))) else (some false))
end
def graftbedlaw02_TreeMerges.f (k : Nat) (l0 : List (S29)) (l1 : List (S29)) : Option (Bool) := (graftbedlaw02_heavy.f k l0).bind fun t269 => (if t269 = true then (graftbedlaw02_TreeMerges.j0 k l0 l1 true) else ((graftbedlaw02_heavy.f k l1).bind fun t270 => (if t270 = true then (graftbedlaw02_TreeMerges.j0 k l0 l1 true) else ((graftbedlaw02_shown.f).bind fun t271 => (graftbedlaw02_TreeMerges.j0 k l0 l1 (!t271))))))
set_option maxHeartbeats 8000000 in
set_option maxRecDepth 100000 in
theorem graftbedlaw02_TreeMerges.calls (k : Nat) (A0 : Option Addr) (c0 : Nat) (l0 : List (S29)) (A1 : Option Addr) (c1 : Nat) (l1 : List (S29)) (r : Bool) (w : World) (hr0 : Kd.C k29 w A0 l0.length l0) (hc0 : l0.length ≤ c0) (hr1 : Kd.C k29 w A1 l1.length l1) (hc1 : l1.length ≤ c1) (h : graftbedlaw02_TreeMerges.f k l0 l1 = some r) :
    Calls Try.prog 4 #[.slice A0 l0.length c0, .slice A1 l1.length c1] w fun e w' => e = .returned (.bool r) ∧ Below w.heap.size w w' := by
  have hu33 := Try.underlying33
  have HR0 := Aside0.mk hr0
  have HC0 := Aside0.mk hc0
  clear hr0 hc0
  have HR1 := Aside0.mk hr1
  have HC1 := Aside0.mk hc1
  clear hr1 hc1
  have HB := Aside0.mk (Below.refl w.heap.size w)
  have H : ((graftbedlaw02_heavy.f k l0).bind fun t269 => (if t269 = true then (graftbedlaw02_TreeMerges.j0 k l0 l1 true) else ((graftbedlaw02_heavy.f k l1).bind fun t270 => (if t270 = true then (graftbedlaw02_TreeMerges.j0 k l0 l1 true) else ((graftbedlaw02_shown.f).bind fun t271 => (graftbedlaw02_TreeMerges.j0 k l0 l1 (!t271))))))) = some r := h
  clear h
  have HC3 := Aside0.mk H
  clear H
  go_enter Try.func4, Try.ntmps4
  go_upto_region 1 with (fail)
  go_cut [27] (fun v27 wc => ∃ (kq : Nat) (x27_2 : Bool), v27 = .bool x27_2 ∧ Aside0 (graftbedlaw02_TreeMerges.j0 kq l0 l1 x27_2 = some r) ∧ Aside0 (kq ≤ k) ∧ Aside0 (Below w.heap.size w wc))
  case first =>
    have H := HC3.out
    clear HC3
    replace H := Option.bind_eq_some_iff.mp H
    obtain ⟨t269, A40, H⟩ := H
    replace H : (if t269 = true then (graftbedlaw02_TreeMerges.j0 k l0 l1 true) else ((graftbedlaw02_heavy.f k l1).bind fun t270 => (if t270 = true then (graftbedlaw02_TreeMerges.j0 k l0 l1 true) else ((graftbedlaw02_shown.f).bind fun t271 => (graftbedlaw02_TreeMerges.j0 k l0 l1 (!t271)))))) = some r := H
    have A4 := Aside0.mk A40
    clear A40
    by_cases c5 : t269 = true
    · subst c5
      have H1 : (graftbedlaw02_TreeMerges.j0 k l0 l1 true) = some r := by rw [if_pos rfl] at H; exact H
      clear H
      have H := H1
      clear H1
      have H' := Aside0.mk H
      clear H
      go_wp2_with (first | ((with_reducible refine gate_callee (f := 10) rfl ?_); refine goesL_ (some 19) rfl rfl Try.func10 (by kernel_rfl) rfl #[.slice A0 l0.length c0] rfl (by (try simp only [List.map_toArray, List.map_cons, List.map_nil]); first | done | rfl | (simp only [List.length_drop, List.length_take]; rfl)) ?_; (with_reducible refine (graftbedlaw02_heavy.calls k _ _ l0 true _ ?side1 ?side2 A4.out).mono ?_); (case side1 => repeat (first | exact (Kd.C_below HR0.out HB.out) | (with_reducible refine Kd.C_alloc ?_ _) | (with_reducible refine Kd.C_drewN ?_ _) | (with_reducible refine Kd.C_drew ?_))); (case side2 => exact HC0.out); rintro e w6 ⟨rfl, hb⟩; refine ⟨_, rfl, ?_⟩; have n0_ := Aside0.mk (below_step (by repeat (first | (with_reducible first | exact HB.out | apply below_alloc | apply pw_below_drewN | apply below_drew1) | exact HB.out)) hb); clear HB; have HB := n0_; clear n0_; (try clear hb); (try clear hb2); (try clear hk); (try clear hi)))
      go_meet
      case rel => exact ⟨_, (true), (by first | rfl | (simp; done) | (simp [*]; done)), H', ⟨by first | omega | exact Nat.le_refl _⟩, ⟨by repeat (first | (with_reducible first | exact HB.out | apply below_alloc | apply pw_below_drewN | apply below_drew1) | exact HB.out)⟩⟩
    · replace c5 := Bool.eq_false_iff.mpr c5
      subst c5
      have H1 : ((graftbedlaw02_heavy.f k l1).bind fun t270 => (if t270 = true then (graftbedlaw02_TreeMerges.j0 k l0 l1 true) else ((graftbedlaw02_shown.f).bind fun t271 => (graftbedlaw02_TreeMerges.j0 k l0 l1 (!t271))))) = some r := by rw [if_neg (show ¬ (false = true) by decide)] at H; exact H
      clear H
      have H := H1
      clear H1
      replace H := Option.bind_eq_some_iff.mp H
      obtain ⟨t270, A70, H⟩ := H
      replace H : (if t270 = true then (graftbedlaw02_TreeMerges.j0 k l0 l1 true) else ((graftbedlaw02_shown.f).bind fun t271 => (graftbedlaw02_TreeMerges.j0 k l0 l1 (!t271)))) = some r := H
      have A7 := Aside0.mk A70
      clear A70
      by_cases c8 : t270 = true
      · subst c8
        have H1 : (graftbedlaw02_TreeMerges.j0 k l0 l1 true) = some r := by rw [if_pos rfl] at H; exact H
        clear H
        have H := H1
        clear H1
        have H' := Aside0.mk H
        clear H
        go_wp2_with (first | ((with_reducible refine gate_callee (f := 10) rfl ?_); refine goesL_ (some 19) rfl rfl Try.func10 (by kernel_rfl) rfl #[.slice A0 l0.length c0] rfl (by (try simp only [List.map_toArray, List.map_cons, List.map_nil]); first | done | rfl | (simp only [List.length_drop, List.length_take]; rfl)) ?_; (with_reducible refine (graftbedlaw02_heavy.calls k _ _ l0 false _ ?side1 ?side2 A4.out).mono ?_); (case side1 => repeat (first | exact (Kd.C_below HR0.out HB.out) | (with_reducible refine Kd.C_alloc ?_ _) | (with_reducible refine Kd.C_drewN ?_ _) | (with_reducible refine Kd.C_drew ?_))); (case side2 => exact HC0.out); rintro e w9 ⟨rfl, hb⟩; refine ⟨_, rfl, ?_⟩; have n0_ := Aside0.mk (below_step (by repeat (first | (with_reducible first | exact HB.out | apply below_alloc | apply pw_below_drewN | apply below_drew1) | exact HB.out)) hb); clear HB; have HB := n0_; clear n0_; (try clear hb); (try clear hb2); (try clear hk); (try clear hi)) | (go_at_call 10; (with_reducible refine (graftbedlaw02_heavy.calls k _ _ l1 true _ ?side1 ?side2 A7.out).mono ?_); (case side1 => repeat (first | exact (Kd.C_below HR1.out HB.out) | (with_reducible refine Kd.C_alloc ?_ _) | (with_reducible refine Kd.C_drewN ?_ _) | (with_reducible refine Kd.C_drew ?_))); (case side2 => exact HC1.out); rintro e w10 ⟨rfl, hb⟩; have n0_ := Aside0.mk (below_step (by repeat (first | (with_reducible first | exact HB.out | apply below_alloc | apply pw_below_drewN | apply below_drew1) | exact HB.out)) hb); clear HB; have HB := n0_; clear n0_; (try clear hb); (try clear hb2); (try clear hk); (try clear hi)))
        go_meet
        case rel => exact ⟨_, (true), (by first | rfl | (simp; done) | (simp [*]; done)), H', ⟨by first | omega | exact Nat.le_refl _⟩, ⟨by repeat (first | (with_reducible first | exact HB.out | apply below_alloc | apply pw_below_drewN | apply below_drew1) | exact HB.out)⟩⟩
      · replace c8 := Bool.eq_false_iff.mpr c8
        subst c8
        have H1 : ((graftbedlaw02_shown.f).bind fun t271 => (graftbedlaw02_TreeMerges.j0 k l0 l1 (!t271))) = some r := by rw [if_neg (show ¬ (false = true) by decide)] at H; exact H
        clear H
        have H := H1
        clear H1
        replace H := Option.bind_eq_some_iff.mp H
        obtain ⟨t271, A110, H⟩ := H
        replace H : (graftbedlaw02_TreeMerges.j0 k l0 l1 (!t271)) = some r := H
        have A11 := Aside0.mk A110
        clear A110
        have H' := Aside0.mk H
        clear H
        go_wp2_with (first | ((with_reducible refine gate_callee (f := 10) rfl ?_); refine goesL_ (some 19) rfl rfl Try.func10 (by kernel_rfl) rfl #[.slice A0 l0.length c0] rfl (by (try simp only [List.map_toArray, List.map_cons, List.map_nil]); first | done | rfl | (simp only [List.length_drop, List.length_take]; rfl)) ?_; (with_reducible refine (graftbedlaw02_heavy.calls k _ _ l0 false _ ?side1 ?side2 A4.out).mono ?_); (case side1 => repeat (first | exact (Kd.C_below HR0.out HB.out) | (with_reducible refine Kd.C_alloc ?_ _) | (with_reducible refine Kd.C_drewN ?_ _) | (with_reducible refine Kd.C_drew ?_))); (case side2 => exact HC0.out); rintro e w12 ⟨rfl, hb⟩; refine ⟨_, rfl, ?_⟩; have n0_ := Aside0.mk (below_step (by repeat (first | (with_reducible first | exact HB.out | apply below_alloc | apply pw_below_drewN | apply below_drew1) | exact HB.out)) hb); clear HB; have HB := n0_; clear n0_; (try clear hb); (try clear hb2); (try clear hk); (try clear hi)) | (go_at_call 10; (with_reducible refine (graftbedlaw02_heavy.calls k _ _ l1 false _ ?side1 ?side2 A7.out).mono ?_); (case side1 => repeat (first | exact (Kd.C_below HR1.out HB.out) | (with_reducible refine Kd.C_alloc ?_ _) | (with_reducible refine Kd.C_drewN ?_ _) | (with_reducible refine Kd.C_drew ?_))); (case side2 => exact HC1.out); rintro e w13 ⟨rfl, hb⟩; have n0_ := Aside0.mk (below_step (by repeat (first | (with_reducible first | exact HB.out | apply below_alloc | apply pw_below_drewN | apply below_drew1) | exact HB.out)) hb); clear HB; have HB := n0_; clear n0_; (try clear hb); (try clear hb2); (try clear hk); (try clear hi)) | (go_at_call 11; (with_reducible refine (graftbedlaw02_shown.calls  t271 _ A11.out).mono ?_); rintro e w14 ⟨rfl, hb⟩; have n0_ := Aside0.mk (below_step (by repeat (first | (with_reducible first | exact HB.out | apply below_alloc | apply pw_below_drewN | apply below_drew1) | exact HB.out)) hb); clear HB; have HB := n0_; clear n0_; (try clear hb); (try clear hb2); (try clear hk); (try clear hi)))
        go_meet
        case rel => exact ⟨_, (!t271), (by first | rfl | (simp; done) | (simp [*]; done)), H', ⟨by first | omega | exact Nat.le_refl _⟩, ⟨by repeat (first | (with_reducible first | exact HB.out | apply below_alloc | apply pw_below_drewN | apply below_drew1) | exact HB.out)⟩⟩
  case rest =>
    clear HC3
    try clear c1
    try clear p2
    try clear c4
    try clear c5
    try clear c8
    try clear c10
    obtain ⟨kq, x27_2, rfl, HA, HJ2, HB⟩ := hcut
    cases kq with
    | zero => exact absurd HA.out (by simp [graftbedlaw02_TreeMerges.j0])
    | succ kj2 =>
      have H := HA.out
      clear HA
      simp only [graftbedlaw02_TreeMerges.j0] at H
      by_cases c15 : x27_2 = true
      · subst c15
        have H1 : ((graftbedlaw02_shown.f).bind fun t272 => (some t272)) = some r := by rw [if_pos rfl] at H; exact H
        clear H
        have H := H1
        clear H1
        replace H := Option.bind_eq_some_iff.mp H
        obtain ⟨t272, A160, H⟩ := H
        replace H : (some t272) = some r := H
        have A16 := Aside0.mk A160
        clear A160
        obtain rfl := Option.some.inj H
        go_wp2_with (first | ((with_reducible refine gate_callee (f := 11) rfl ?_); refine goesL_ (some 28) rfl rfl Try.func11 (by kernel_rfl) rfl #[] rfl (by (try simp only [List.map_toArray, List.map_cons, List.map_nil]); first | done | rfl | (simp only [List.length_drop, List.length_take]; rfl)) ?_; (with_reducible refine (graftbedlaw02_shown.calls  t272 _ A16.out).mono ?_); rintro e w17 ⟨rfl, hb⟩; refine ⟨_, rfl, ?_⟩; have n0_ := Aside0.mk (below_step (by repeat (first | (with_reducible first | exact HB.out | apply below_alloc | apply pw_below_drewN | apply below_drew1) | exact HB.out)) hb); clear HB; have HB := n0_; clear n0_; (try clear hb); (try clear hb2); (try clear hk); (try clear hi)))
        go_ret
        exact ⟨by first | rfl | (simp [errW_none, errW_some] <;> rfl) | (simp [*, errW_none, errW_some] <;> rfl), by repeat (first | (with_reducible first | exact HB.out | apply below_alloc | apply pw_below_drewN | apply below_drew1) | exact HB.out)⟩
      · replace c15 := Bool.eq_false_iff.mpr c15
        subst c15
        have H1 : ((graftbedlaw02_grown.f kj2 l0).bind fun t273 => ((graftbedlaw02_grown.f kj2 l1).bind fun t276 => ((tree_Merge.f t273 t276).bind fun bt279 => ((graftbedref02_Merge.f kj2 t273 t276).bind fun bt286 => (if (!(bt279.2.1 == bt286.2.1) || (!(bt279.2.2.1.toList == bt286.2.2.1.toList) || (!(bt279.2.2.2 == bt286.2.2.2)))) = true then (graftbedlaw02_TreeMerges.j1 kj2 t273 t276 bt279.1 true bt279.2.1 bt279.2.2.1 bt279.2.2.2) else ((graftbedref02_Same.f kj2 bt279.1 bt286.1).bind fun t293 => (graftbedlaw02_TreeMerges.j1 kj2 t273 t276 bt279.1 (!t293) bt279.2.1 bt279.2.2.1 bt279.2.2.2))))))) = some r := by rw [if_neg (show ¬ (false = true) by decide)] at H; exact H
        clear H
        have H := H1
        clear H1
        replace H := Option.bind_eq_some_iff.mp H
        obtain ⟨t273, A180, H⟩ := H
        replace H : ((graftbedlaw02_grown.f kj2 l1).bind fun t276 => ((tree_Merge.f t273 t276).bind fun bt279 => ((graftbedref02_Merge.f kj2 t273 t276).bind fun bt286 => (if (!(bt279.2.1 == bt286.2.1) || (!(bt279.2.2.1.toList == bt286.2.2.1.toList) || (!(bt279.2.2.2 == bt286.2.2.2)))) = true then (graftbedlaw02_TreeMerges.j1 kj2 t273 t276 bt279.1 true bt279.2.1 bt279.2.2.1 bt279.2.2.2) else ((graftbedref02_Same.f kj2 bt279.1 bt286.1).bind fun t293 => (graftbedlaw02_TreeMerges.j1 kj2 t273 t276 bt279.1 (!t293) bt279.2.1 bt279.2.2.1 bt279.2.2.2)))))) = some r := H
        have A18 := Aside0.mk A180
        clear A180
        replace H := Option.bind_eq_some_iff.mp H
        obtain ⟨t276, A190, H⟩ := H
        replace H : ((tree_Merge.f t273 t276).bind fun bt279 => ((graftbedref02_Merge.f kj2 t273 t276).bind fun bt286 => (if (!(bt279.2.1 == bt286.2.1) || (!(bt279.2.2.1.toList == bt286.2.2.1.toList) || (!(bt279.2.2.2 == bt286.2.2.2)))) = true then (graftbedlaw02_TreeMerges.j1 kj2 t273 t276 bt279.1 true bt279.2.1 bt279.2.2.1 bt279.2.2.2) else ((graftbedref02_Same.f kj2 bt279.1 bt286.1).bind fun t293 => (graftbedlaw02_TreeMerges.j1 kj2 t273 t276 bt279.1 (!t293) bt279.2.1 bt279.2.2.1 bt279.2.2.2))))) = some r := H
        have A19 := Aside0.mk A190
        clear A190
        replace H := Option.bind_eq_some_iff.mp H
        obtain ⟨⟨t279, t282, t283, t284⟩, A200, H⟩ := H
        replace H : ((graftbedref02_Merge.f kj2 t273 t276).bind fun bt286 => (if (!(t282 == bt286.2.1) || (!(t283.toList == bt286.2.2.1.toList) || (!(t284 == bt286.2.2.2)))) = true then (graftbedlaw02_TreeMerges.j1 kj2 t273 t276 t279 true t282 t283 t284) else ((graftbedref02_Same.f kj2 t279 bt286.1).bind fun t293 => (graftbedlaw02_TreeMerges.j1 kj2 t273 t276 t279 (!t293) t282 t283 t284)))) = some r := H
        have A20 := Aside0.mk A200
        clear A200
        replace H := Option.bind_eq_some_iff.mp H
        obtain ⟨⟨t286, t289, t290, t291⟩, A210, H⟩ := H
        replace H : (if (!(t282 == t289) || (!(t283.toList == t290.toList) || (!(t284 == t291)))) = true then (graftbedlaw02_TreeMerges.j1 kj2 t273 t276 t279 true t282 t283 t284) else ((graftbedref02_Same.f kj2 t279 t286).bind fun t293 => (graftbedlaw02_TreeMerges.j1 kj2 t273 t276 t279 (!t293) t282 t283 t284))) = some r := H
        have A21 := Aside0.mk A210
        clear A210
        have HC22 := Aside0.mk H
        clear H
        go_upto_region 7 with (first | ((with_reducible refine gate_callee (f := 12) rfl ?_); refine goesL_ (some 30) rfl rfl Try.func12 (by kernel_rfl) rfl #[.slice A0 l0.length c0] rfl (by (try simp only [List.map_toArray, List.map_cons, List.map_nil]); first | done | rfl | (simp only [List.length_drop, List.length_take]; rfl)) ?_; (with_reducible refine (graftbedlaw02_grown.calls kj2 _ _ l0 t273 _ ?side1 ?side2 A18.out).mono ?_); (case side1 => repeat (first | exact (Kd.C_below HR0.out HB.out) | (with_reducible refine Kd.C_alloc ?_ _) | (with_reducible refine Kd.C_drewN ?_ _) | (with_reducible refine Kd.C_drew ?_))); (case side2 => exact HC0.out); rintro e w23 ⟨v274, rfl, ho0, hb⟩; refine ⟨_, rfl, ?_⟩; have n0_ := Aside0.mk (Kd.R_lower ho0 (below_size (by repeat (first | (with_reducible first | exact HB.out | apply below_alloc | apply pw_below_drewN | apply below_drew1) | exact HB.out)))); have n1_ := Aside0.mk (below_step (by repeat (first | (with_reducible first | exact HB.out | apply below_alloc | apply pw_below_drewN | apply below_drew1) | exact HB.out)) hb); clear HB; have HO275 := n0_; have HB := n1_; clear n0_ n1_; (try clear hb); (try clear hb2); (try clear hk); (try clear hi); (try clear ho0)) | ((with_reducible refine gate_callee (f := 12) rfl ?_); refine goesL_ (some 32) rfl rfl Try.func12 (by kernel_rfl) rfl #[.slice A1 l1.length c1] rfl (by (try simp only [List.map_toArray, List.map_cons, List.map_nil]); first | done | rfl | (simp only [List.length_drop, List.length_take]; rfl)) ?_; (with_reducible refine (graftbedlaw02_grown.calls kj2 _ _ l1 t276 _ ?side1 ?side2 A19.out).mono ?_); (case side1 => repeat (first | exact (Kd.C_below HR1.out HB.out) | (with_reducible refine Kd.C_alloc ?_ _) | (with_reducible refine Kd.C_drewN ?_ _) | (with_reducible refine Kd.C_drew ?_))); (case side2 => exact HC1.out); rintro e w24 ⟨v277, rfl, ho0, hb⟩; refine ⟨_, rfl, ?_⟩; have n0_ := Aside0.mk (Kd.R_elder' (by (with_reducible repeat (first | apply Kd.R_alloc | apply Kd.R_drewN | apply Kd.R_drew)); exact HO275.out) (Kd.R_base ho0) hb); have n1_ := Aside0.mk (Kd.R_lower (Kd.R_new' ho0 (Kd.R_lt (by (with_reducible repeat (first | apply Kd.R_alloc | apply Kd.R_drewN | apply Kd.R_drew)); exact HO275.out))) (below_size (by repeat (first | (with_reducible first | exact HB.out | apply below_alloc | apply pw_below_drewN | apply below_drew1) | exact HB.out)))); have n2_ := Aside0.mk (below_step (by repeat (first | (with_reducible first | exact HB.out | apply below_alloc | apply pw_below_drewN | apply below_drew1) | exact HB.out)) hb); clear HO275; clear HB; have HO275 := n0_; have HO278 := n1_; have HB := n2_; clear n0_ n1_ n2_; (try clear hb); (try clear hb2); (try clear hk); (try clear hi); (try clear ho0); obtain ⟨Ao25, co25, eo25⟩ := Kd.R_slice HO275.out; subst eo25; obtain ⟨Ao26, co26, eo26⟩ := Kd.R_slice HO278.out; subst eo26) | ((with_reducible refine gate_callee (f := 14) rfl ?_); refine goesL_ (some 36) rfl rfl Try.func14 (by kernel_rfl) rfl #[.slice Ao25 t273.length co25, .slice Ao26 t276.length co26] rfl (by (try simp only [List.map_toArray, List.map_cons, List.map_nil]); first | done | rfl | (simp only [List.length_drop, List.length_take]; rfl)) ?_; (with_reducible refine (tree_Merge.calls _ _ t273 _ _ t276 t279 t282 t283 t284 _ ?side1 ?side2 ?side3 ?side4 A20.out).mono ?_); (case side1 => repeat (first | exact (Kd.R_reads' HO275.out).2.2 | (with_reducible refine Kd.C_alloc ?_ _) | (with_reducible refine Kd.C_drewN ?_ _) | (with_reducible refine Kd.C_drew ?_))); (case side2 => exact (Kd.R_reads' HO275.out).2.1); (case side3 => repeat (first | exact (Kd.R_reads' HO278.out).2.2 | (with_reducible refine Kd.C_alloc ?_ _) | (with_reducible refine Kd.C_drewN ?_ _) | (with_reducible refine Kd.C_drew ?_))); (case side4 => exact (Kd.R_reads' HO278.out).2.1); rintro e w27 ⟨v280, rfl, ho0, hb⟩; refine ⟨_, rfl, ?_⟩; have n0_ := Aside0.mk (Kd.R_elder' (by (with_reducible repeat (first | apply Kd.R_alloc | apply Kd.R_drewN | apply Kd.R_drew)); exact HO275.out) (Kd.R_base ho0) hb); have n1_ := Aside0.mk (Kd.R_elder' (by (with_reducible repeat (first | apply Kd.R_alloc | apply Kd.R_drewN | apply Kd.R_drew)); exact HO278.out) (Kd.R_base ho0) hb); have n2_ := Aside0.mk (Kd.R_lower (Kd.R_new' (Kd.R_new' ho0 (Kd.R_lt (by (with_reducible repeat (first | apply Kd.R_alloc | apply Kd.R_drewN | apply Kd.R_drew)); exact HO275.out))) (Kd.R_lt (by (with_reducible repeat (first | apply Kd.R_alloc | apply Kd.R_drewN | apply Kd.R_drew)); exact HO278.out))) (below_size (by repeat (first | (with_reducible first | exact HB.out | apply below_alloc | apply pw_below_drewN | apply below_drew1) | exact HB.out)))); have n3_ := Aside0.mk (below_step (by repeat (first | (with_reducible first | exact HB.out | apply below_alloc | apply pw_below_drewN | apply below_drew1) | exact HB.out)) hb); clear HO275; clear HO278; clear HB; have HO275 := n0_; have HO278 := n1_; have HO281 := n2_; have HB := n3_; clear n0_ n1_ n2_ n3_; (try clear hb); (try clear hb2); (try clear hk); (try clear hi); (try clear ho0)) | ((with_reducible refine gate_dst (N := 8) rfl ?_); (try (refine gate_guard (by rfl) ?_; dsimp only)); refine box_event ?hg (N := 8) ?hd (cs := #[.int .i64 0, .string (⟨#[]⟩ : ByteArray), .int .i64 0]) (t := 33) ?hr ?_; (case hd => rfl); (case hg => rfl); (case hr => first | (go_simp; done) | (go_simp; rfl)); intro gb285 hg w28 hbox hb; have n0_ := Aside0.mk (Kd.R_below (by (with_reducible repeat (first | apply Kd.R_alloc | apply Kd.R_drewN | apply Kd.R_drew)); exact HO275.out) hb); have n1_ := Aside0.mk (Kd.R_below (by (with_reducible repeat (first | apply Kd.R_alloc | apply Kd.R_drewN | apply Kd.R_drew)); exact HO278.out) hb); have n2_ := Aside0.mk (Kd.R_below (by (with_reducible repeat (first | apply Kd.R_alloc | apply Kd.R_drewN | apply Kd.R_drew)); exact HO281.out) hb); have n3_ := Aside0.mk (below_step (by repeat (first | (with_reducible first | exact HB.out | apply below_alloc | apply pw_below_drewN | apply below_drew1) | exact HB.out)) hb); have n4_ := Aside0.mk (hbox); have n5_ := Aside0.mk ((by rw [hg]; exact (below_size (by repeat (first | (with_reducible first | exact HB.out | apply below_alloc | apply pw_below_drewN | apply below_drew1) | exact HB.out))) : w.heap.size ≤ gb285)); have n6_ := Aside0.mk ((by rw [hg]; exact (below_size (by repeat (first | (with_reducible first | exact HB.out | apply below_alloc | apply pw_below_drewN | apply below_drew1) | exact HB.out))) : w.heap.size ≤ gb285)); clear HO275; clear HO278; clear HO281; clear HB; have HO275 := n0_; have HO278 := n1_; have HO281 := n2_; have HB := n3_; have BK285 := n4_; have GW285 := n5_; have GE285 := n6_; clear n0_ n1_ n2_ n3_ n4_ n5_ n6_; clear hb hbox hg; have hcz29_0 : w28.cell? ⟨gb285, 0, none⟩ = some (.int .i64 0) := (blk_cell BK285.out 0).trans rfl; have hcz29_1 : w28.cell? ⟨gb285, 1, none⟩ = some (.string (⟨#[]⟩ : ByteArray)) := (blk_cell BK285.out 1).trans rfl; have hcz29_2 : w28.cell? ⟨gb285, 2, none⟩ = some (.int .i64 0) := (blk_cell BK285.out 2).trans rfl; have hfz29_0 := blk_frozen BK285.out 0; have hfz29_1 := blk_frozen BK285.out 1; have hfz29_2 := blk_frozen BK285.out 2) | ((with_reducible refine gate_callee (f := 15) rfl ?_); refine goesL_ (some 42) rfl rfl Try.func15 (by kernel_rfl) rfl #[.slice Ao25 t273.length co25, .slice Ao26 t276.length co26] rfl (by (try simp only [List.map_toArray, List.map_cons, List.map_nil]); first | done | rfl | (simp only [List.length_drop, List.length_take]; rfl)) ?_; (with_reducible refine (graftbedref02_Merge.calls kj2 _ _ t273 _ _ t276 t286 t289 t290 t291 _ ?side1 ?side2 ?side3 ?side4 A21.out).mono ?_); (case side1 => refine (Kd.R_reads' (e := 29) (base := w.heap.size) (ok := fun k_ => ((True ∧ some k_ ≠ (.slice Ao26 t276.length co26 : Value).ownBlock) ∧ some k_ ≠ (v280 : Value).ownBlock)) (n := t273.length) (c := co25) ?_).2.2; exact (by (with_reducible repeat (first | apply Kd.R_alloc | apply Kd.R_drewN | apply Kd.R_drew)); exact (Kd.R_mono (Kd.R_far (p := ⟨gb285, 2, none⟩) (Kd.R_far (p := ⟨gb285, 1, none⟩) (Kd.R_far (p := ⟨gb285, 0, none⟩) (Kd.R_types HO275.out BK285.out (by decide)) (fun _ hk => hk.2) (.int .i64 t282)) (fun _ hk => hk.2) (.string t283)) (fun _ hk => hk.2) (.int .i64 t284)) (fun _ h_ => h_.1)))); (case side2 => exact (Kd.R_reads' HO275.out).2.1); (case side3 => refine (Kd.R_reads' (e := 29) (base := w.heap.size) (ok := fun k_ => ((True ∧ some k_ ≠ (.slice Ao25 t273.length co25 : Value).ownBlock) ∧ some k_ ≠ (v280 : Value).ownBlock)) (n := t276.length) (c := co26) ?_).2.2; exact (by (with_reducible repeat (first | apply Kd.R_alloc | apply Kd.R_drewN | apply Kd.R_drew)); exact (Kd.R_mono (Kd.R_far (p := ⟨gb285, 2, none⟩) (Kd.R_far (p := ⟨gb285, 1, none⟩) (Kd.R_far (p := ⟨gb285, 0, none⟩) (Kd.R_types HO278.out BK285.out (by decide)) (fun _ hk => hk.2) (.int .i64 t282)) (fun _ hk => hk.2) (.string t283)) (fun _ hk => hk.2) (.int .i64 t284)) (fun _ h_ => h_.1)))); (case side4 => exact (Kd.R_reads' HO278.out).2.1); rintro e w30 ⟨v287, rfl, ho0, hb⟩; refine ⟨_, rfl, ?_⟩; have n0_ := Aside0.mk (Kd.R_elder' (by (with_reducible repeat (first | apply Kd.R_alloc | apply Kd.R_drewN | apply Kd.R_drew)); exact (Kd.R_mono (Kd.R_far (p := ⟨gb285, 2, none⟩) (Kd.R_far (p := ⟨gb285, 1, none⟩) (Kd.R_far (p := ⟨gb285, 0, none⟩) (Kd.R_types HO275.out BK285.out (by decide)) (fun _ hk => hk.2) (.int .i64 t282)) (fun _ hk => hk.2) (.string t283)) (fun _ hk => hk.2) (.int .i64 t284)) (fun _ h_ => h_.1))) (Kd.R_base ho0) hb); have n1_ := Aside0.mk (Kd.R_elder' (by (with_reducible repeat (first | apply Kd.R_alloc | apply Kd.R_drewN | apply Kd.R_drew)); exact (Kd.R_mono (Kd.R_far (p := ⟨gb285, 2, none⟩) (Kd.R_far (p := ⟨gb285, 1, none⟩) (Kd.R_far (p := ⟨gb285, 0, none⟩) (Kd.R_types HO278.out BK285.out (by decide)) (fun _ hk => hk.2) (.int .i64 t282)) (fun _ hk => hk.2) (.string t283)) (fun _ hk => hk.2) (.int .i64 t284)) (fun _ h_ => h_.1))) (Kd.R_base ho0) hb); have n2_ := Aside0.mk (Kd.R_elder' (by (with_reducible repeat (first | apply Kd.R_alloc | apply Kd.R_drewN | apply Kd.R_drew)); exact (Kd.R_mono (Kd.R_far (p := ⟨gb285, 2, none⟩) (Kd.R_far (p := ⟨gb285, 1, none⟩) (Kd.R_far (p := ⟨gb285, 0, none⟩) (Kd.R_types HO281.out BK285.out (by decide)) (fun _ hk => hk.2) (.int .i64 t282)) (fun _ hk => hk.2) (.string t283)) (fun _ hk => hk.2) (.int .i64 t284)) (fun _ h_ => h_.1))) (Kd.R_base ho0) hb); have n3_ := Aside0.mk (Kd.R_lower (Kd.R_new' (Kd.R_new' (Kd.R_new' ho0 (Kd.R_lt (by (with_reducible repeat (first | apply Kd.R_alloc | apply Kd.R_drewN | apply Kd.R_drew)); exact (Kd.R_mono (Kd.R_far (p := ⟨gb285, 2, none⟩) (Kd.R_far (p := ⟨gb285, 1, none⟩) (Kd.R_far (p := ⟨gb285, 0, none⟩) (Kd.R_types HO275.out BK285.out (by decide)) (fun _ hk => hk.2) (.int .i64 t282)) (fun _ hk => hk.2) (.string t283)) (fun _ hk => hk.2) (.int .i64 t284)) (fun _ h_ => h_.1))))) (Kd.R_lt (by (with_reducible repeat (first | apply Kd.R_alloc | apply Kd.R_drewN | apply Kd.R_drew)); exact (Kd.R_mono (Kd.R_far (p := ⟨gb285, 2, none⟩) (Kd.R_far (p := ⟨gb285, 1, none⟩) (Kd.R_far (p := ⟨gb285, 0, none⟩) (Kd.R_types HO278.out BK285.out (by decide)) (fun _ hk => hk.2) (.int .i64 t282)) (fun _ hk => hk.2) (.string t283)) (fun _ hk => hk.2) (.int .i64 t284)) (fun _ h_ => h_.1))))) (Kd.R_lt (by (with_reducible repeat (first | apply Kd.R_alloc | apply Kd.R_drewN | apply Kd.R_drew)); exact (Kd.R_mono (Kd.R_far (p := ⟨gb285, 2, none⟩) (Kd.R_far (p := ⟨gb285, 1, none⟩) (Kd.R_far (p := ⟨gb285, 0, none⟩) (Kd.R_types HO281.out BK285.out (by decide)) (fun _ hk => hk.2) (.int .i64 t282)) (fun _ hk => hk.2) (.string t283)) (fun _ hk => hk.2) (.int .i64 t284)) (fun _ h_ => h_.1))))) (below_size (by repeat (first | (with_reducible first | exact HB.out | apply below_alloc | apply pw_below_drewN | apply below_drew1 | refine below_set ?_ GE285.out) | exact HB.out)))); have n4_ := Aside0.mk (blk_below (g := gb285) (o := .cells #[.int .i64 t282, .string t283, .int .i64 t284] 33 (0, 0)) (by (with_reducible repeat (first | refine blk_drewN ?_ _ | refine blk_drew ?_ | refine blk_alloc ?_ _)); refine blk_put (cs := #[.int .i64 t282, .string t283, .int .i64 0]) ?_ 2 _ rfl; (with_reducible repeat (first | refine blk_drewN ?_ _ | refine blk_drew ?_ | refine blk_alloc ?_ _)); refine blk_put (cs := #[.int .i64 t282, .string (⟨#[]⟩ : ByteArray), .int .i64 0]) ?_ 1 _ rfl; (with_reducible repeat (first | refine blk_drewN ?_ _ | refine blk_drew ?_ | refine blk_alloc ?_ _)); refine blk_put (cs := #[.int .i64 0, .string (⟨#[]⟩ : ByteArray), .int .i64 0]) ?_ 0 _ rfl; (with_reducible repeat (first | refine blk_drewN ?_ _ | refine blk_drew ?_ | refine blk_alloc ?_ _)); exact BK285.out) hb); have n5_ := Aside0.mk (below_step (by repeat (first | (with_reducible first | exact HB.out | apply below_alloc | apply pw_below_drewN | apply below_drew1 | refine below_set ?_ GE285.out) | exact HB.out)) hb); clear HO275; clear HO278; clear HO281; clear BK285; clear HB; have HO275 := n0_; have HO278 := n1_; have HO281 := n2_; have HO288 := n3_; have BK285 := n4_; have HB := n5_; clear n0_ n1_ n2_ n3_ n4_ n5_; (try clear hb); (try clear hb2); (try clear hk); (try clear hi); (try clear ho0)) | ((with_reducible refine gate_dst (N := 10) rfl ?_); (try (refine gate_guard (by rfl) ?_; dsimp only)); refine box_event ?hg (N := 10) ?hd (cs := #[.int .i64 0, .string (⟨#[]⟩ : ByteArray), .int .i64 0]) (t := 33) ?hr ?_; (case hd => rfl); (case hg => rfl); (case hr => first | (go_simp; done) | (go_simp; rfl)); intro gb292 hg w31 hbox hb; have n0_ := Aside0.mk (Kd.R_below (by (with_reducible repeat (first | apply Kd.R_alloc | apply Kd.R_drewN | apply Kd.R_drew)); exact HO275.out) hb); have n1_ := Aside0.mk (Kd.R_below (by (with_reducible repeat (first | apply Kd.R_alloc | apply Kd.R_drewN | apply Kd.R_drew)); exact HO278.out) hb); have n2_ := Aside0.mk (Kd.R_below (by (with_reducible repeat (first | apply Kd.R_alloc | apply Kd.R_drewN | apply Kd.R_drew)); exact HO281.out) hb); have n3_ := Aside0.mk (Kd.R_below (by (with_reducible repeat (first | apply Kd.R_alloc | apply Kd.R_drewN | apply Kd.R_drew)); exact HO288.out) hb); have n4_ := Aside0.mk (blk_below (g := gb285) (o := .cells #[.int .i64 t282, .string t283, .int .i64 t284] 33 (0, 0)) (by (with_reducible repeat (first | refine blk_drewN ?_ _ | refine blk_drew ?_ | refine blk_alloc ?_ _)); exact BK285.out) hb); have n5_ := Aside0.mk (below_step (by repeat (first | (with_reducible first | exact HB.out | apply below_alloc | apply pw_below_drewN | apply below_drew1 | refine below_set ?_ GE285.out) | exact HB.out)) hb); have n6_ := Aside0.mk (hbox); have n7_ := Aside0.mk ((by rw [hg]; exact (below_size (by repeat (first | (with_reducible first | exact HB.out | apply below_alloc | apply pw_below_drewN | apply below_drew1 | refine below_set ?_ GE285.out) | exact HB.out))) : w.heap.size ≤ gb292)); have n8_ := Aside0.mk ((by rw [hg]; exact (below_size (by repeat (first | (with_reducible first | exact HB.out | apply below_alloc | apply pw_below_drewN | apply below_drew1 | refine below_set ?_ GE285.out) | exact HB.out))) : w.heap.size ≤ gb292)); have n9_ := Aside0.mk ((by rw [hg]; exact Nat.ne_of_lt (blk_lt (g := gb285) (o := .cells #[.int .i64 t282, .string t283, .int .i64 t284] 33 (0, 0)) (by (with_reducible repeat (first | refine blk_drewN ?_ _ | refine blk_drew ?_ | refine blk_alloc ?_ _)); exact BK285.out)) : gb285 ≠ gb292)); have n10_ := Aside0.mk ((by rw [hg]; exact Nat.ne_of_gt (blk_lt (g := gb285) (o := .cells #[.int .i64 t282, .string t283, .int .i64 t284] 33 (0, 0)) (by (with_reducible repeat (first | refine blk_drewN ?_ _ | refine blk_drew ?_ | refine blk_alloc ?_ _)); exact BK285.out)) : gb292 ≠ gb285)); clear HO275; clear HO278; clear HO281; clear HO288; clear BK285; clear HB; have HO275 := n0_; have HO278 := n1_; have HO281 := n2_; have HO288 := n3_; have BK285 := n4_; have HB := n5_; have BK292 := n6_; have GW292 := n7_; have GE292 := n8_; have NB285_292 := n9_; have NB292_285 := n10_; clear n0_ n1_ n2_ n3_ n4_ n5_ n6_ n7_ n8_ n9_ n10_; clear hb hbox hg; have hnb32 := NB292_285.out; have hnc32 := NB285_292.out; have hcz33_0 : w31.cell? ⟨gb292, 0, none⟩ = some (.int .i64 0) := (blk_cell BK292.out 0).trans rfl; have hcz33_1 : w31.cell? ⟨gb292, 1, none⟩ = some (.string (⟨#[]⟩ : ByteArray)) := (blk_cell BK292.out 1).trans rfl; have hcz33_2 : w31.cell? ⟨gb292, 2, none⟩ = some (.int .i64 0) := (blk_cell BK292.out 2).trans rfl; have hfz33_0 := blk_frozen BK292.out 0; have hfz33_1 := blk_frozen BK292.out 1; have hfz33_2 := blk_frozen BK292.out 2))
        (try simp only [Act.put, List.setIfInBounds_toArray, List.set_cons_zero, List.set_cons_succ])
        go_cut [53] (fun v53 wc => ∃ (kq : Nat) (x53_21 : Bool), v53 = .bool x53_21 ∧ Aside0 (graftbedlaw02_TreeMerges.j1 kq t273 t276 t279 x53_21 t282 t283 t284 = some r) ∧ Aside0 (kq ≤ kj2) ∧ Aside0 (Kd.R k29 29 wc w.heap.size (fun k_ => some k_ ≠ ((.slice Ao26 t276.length co26) : Value).ownBlock ∧ some k_ ≠ (v280 : Value).ownBlock) (.slice Ao25 t273.length co25) t273) ∧ Aside0 (Kd.R k29 29 wc w.heap.size (fun k_ => some k_ ≠ ((.slice Ao25 t273.length co25) : Value).ownBlock ∧ some k_ ≠ (v280 : Value).ownBlock) (.slice Ao26 t276.length co26) t276) ∧ Aside0 (Kd.R k29 29 wc w.heap.size (fun k_ => some k_ ≠ ((.slice Ao25 t273.length co25) : Value).ownBlock ∧ some k_ ≠ ((.slice Ao26 t276.length co26) : Value).ownBlock) v280 t279) ∧ Aside0 (wc.heap[gb285]? = some (.cells #[.int .i64 t282, .string t283, .int .i64 t284] 33 (0, 0))) ∧ Aside0 (wc.heap[gb292]? = some (.cells #[.int .i64 t289, .string t290, .int .i64 t291] 33 (0, 0))) ∧ Aside0 (Below w.heap.size w wc))
        case first =>
          have H := HC22.out
          clear HC22
          by_cases c34 : (!(t282 == t289) || (!(t283.toList == t290.toList) || (!(t284 == t291)))) = true
          · rw [if_pos c34] at H
            have c34b0 : (!(t282 == t289) || (!(t283.toList == t290.toList) || (!(t284 == t291)))) = true := c34
            clear c34
            (first | rw [c34b0] | (simp only [i64_w, i32_w]; rw [c34b0]) | skip)
            have H' := Aside0.mk H
            clear H
            have hnb35 := NB285_292.out
            have hnc35 := NB292_285.out
            have hcz36_0 : w31.cell? ⟨gb285, 0, none⟩ = some (.int .i64 t282) := (blk_cell BK285.out 0).trans rfl
            have hcz36_1 : w31.cell? ⟨gb285, 1, none⟩ = some (.string t283) := (blk_cell BK285.out 1).trans rfl
            have hcz36_2 : w31.cell? ⟨gb285, 2, none⟩ = some (.int .i64 t284) := (blk_cell BK285.out 2).trans rfl
            have hfz36_0 := blk_frozen BK285.out 0
            have hfz36_1 := blk_frozen BK285.out 1
            have hfz36_2 := blk_frozen BK285.out 2
            have hcz37_0 : w31.cell? ⟨gb292, 0, none⟩ = some (.int .i64 0) := (blk_cell BK292.out 0).trans rfl
            have hcz37_1 : w31.cell? ⟨gb292, 1, none⟩ = some (.string (⟨#[]⟩ : ByteArray)) := (blk_cell BK292.out 1).trans rfl
            have hcz37_2 : w31.cell? ⟨gb292, 2, none⟩ = some (.int .i64 0) := (blk_cell BK292.out 2).trans rfl
            have hfz37_0 := blk_frozen BK292.out 0
            have hfz37_1 := blk_frozen BK292.out 1
            have hfz37_2 := blk_frozen BK292.out 2
            go_wp2
            go_meet
            case rel => exact ⟨_, (true), (by first | rfl | (simp; done) | (simp [*]; done)), H', ⟨by have := HJ2.out; first | omega | exact Nat.le_refl _⟩, ⟨by (with_reducible repeat (first | apply Kd.R_alloc | apply Kd.R_drewN | apply Kd.R_drew)); exact Kd.R_mono (Kd.R_far (p := ⟨gb292, 2, none⟩) (Kd.R_far (p := ⟨gb292, 1, none⟩) (Kd.R_far (p := ⟨gb292, 0, none⟩) (Kd.R_types HO275.out BK292.out (by decide)) (fun _ hk => hk.2) (.int .i64 t289)) (fun _ hk => hk.2) (.string t290)) (fun _ hk => hk.2) (.int .i64 t291)) (fun _ hk => ⟨hk.1.1.1.2, hk.1.1.2⟩)⟩, ⟨by (with_reducible repeat (first | apply Kd.R_alloc | apply Kd.R_drewN | apply Kd.R_drew)); exact Kd.R_mono (Kd.R_far (p := ⟨gb292, 2, none⟩) (Kd.R_far (p := ⟨gb292, 1, none⟩) (Kd.R_far (p := ⟨gb292, 0, none⟩) (Kd.R_types HO278.out BK292.out (by decide)) (fun _ hk => hk.2) (.int .i64 t289)) (fun _ hk => hk.2) (.string t290)) (fun _ hk => hk.2) (.int .i64 t291)) (fun _ hk => ⟨hk.1.1.1.2, hk.1.1.2⟩)⟩, ⟨by (with_reducible repeat (first | apply Kd.R_alloc | apply Kd.R_drewN | apply Kd.R_drew)); exact Kd.R_mono (Kd.R_far (p := ⟨gb292, 2, none⟩) (Kd.R_far (p := ⟨gb292, 1, none⟩) (Kd.R_far (p := ⟨gb292, 0, none⟩) (Kd.R_types HO281.out BK292.out (by decide)) (fun _ hk => hk.2) (.int .i64 t289)) (fun _ hk => hk.2) (.string t290)) (fun _ hk => hk.2) (.int .i64 t291)) (fun _ hk => ⟨hk.1.1.1.2, hk.1.1.2⟩)⟩, ⟨by (with_reducible repeat (first | refine blk_drewN ?_ _ | refine blk_drew ?_ | refine blk_alloc ?_ _)); refine blk_far ?_ NB285_292.out _; (with_reducible repeat (first | refine blk_drewN ?_ _ | refine blk_drew ?_ | refine blk_alloc ?_ _)); refine blk_far ?_ NB285_292.out _; (with_reducible repeat (first | refine blk_drewN ?_ _ | refine blk_drew ?_ | refine blk_alloc ?_ _)); refine blk_far ?_ NB285_292.out _; (with_reducible repeat (first | refine blk_drewN ?_ _ | refine blk_drew ?_ | refine blk_alloc ?_ _)); exact BK285.out⟩, ⟨by (with_reducible repeat (first | refine blk_drewN ?_ _ | refine blk_drew ?_ | refine blk_alloc ?_ _)); refine blk_put (cs := #[.int .i64 t289, .string t290, .int .i64 0]) ?_ 2 _ rfl; (with_reducible repeat (first | refine blk_drewN ?_ _ | refine blk_drew ?_ | refine blk_alloc ?_ _)); refine blk_put (cs := #[.int .i64 t289, .string (⟨#[]⟩ : ByteArray), .int .i64 0]) ?_ 1 _ rfl; (with_reducible repeat (first | refine blk_drewN ?_ _ | refine blk_drew ?_ | refine blk_alloc ?_ _)); refine blk_put (cs := #[.int .i64 0, .string (⟨#[]⟩ : ByteArray), .int .i64 0]) ?_ 0 _ rfl; (with_reducible repeat (first | refine blk_drewN ?_ _ | refine blk_drew ?_ | refine blk_alloc ?_ _)); exact BK292.out⟩, ⟨by repeat (first | (with_reducible first | exact HB.out | apply below_alloc | apply pw_below_drewN | apply below_drew1 | refine below_set ?_ GE285.out | refine below_set ?_ GE292.out) | exact HB.out)⟩⟩
          · rw [if_neg c34] at H
            have c34b0 : (!(t282 == t289) || (!(t283.toList == t290.toList) || (!(t284 == t291)))) = false := by simpa using c34
            clear c34
            (first | rw [c34b0] | (simp only [i64_w, i32_w]; rw [c34b0]) | skip)
            replace H := Option.bind_eq_some_iff.mp H
            obtain ⟨t293, A380, H⟩ := H
            replace H : (graftbedlaw02_TreeMerges.j1 kj2 t273 t276 t279 (!t293) t282 t283 t284) = some r := H
            have A38 := Aside0.mk A380
            clear A380
            have H' := Aside0.mk H
            clear H
            have hnb39 := NB285_292.out
            have hnc39 := NB292_285.out
            have hcz40_0 : w31.cell? ⟨gb285, 0, none⟩ = some (.int .i64 t282) := (blk_cell BK285.out 0).trans rfl
            have hcz40_1 : w31.cell? ⟨gb285, 1, none⟩ = some (.string t283) := (blk_cell BK285.out 1).trans rfl
            have hcz40_2 : w31.cell? ⟨gb285, 2, none⟩ = some (.int .i64 t284) := (blk_cell BK285.out 2).trans rfl
            have hfz40_0 := blk_frozen BK285.out 0
            have hfz40_1 := blk_frozen BK285.out 1
            have hfz40_2 := blk_frozen BK285.out 2
            have hcz41_0 : w31.cell? ⟨gb292, 0, none⟩ = some (.int .i64 0) := (blk_cell BK292.out 0).trans rfl
            have hcz41_1 : w31.cell? ⟨gb292, 1, none⟩ = some (.string (⟨#[]⟩ : ByteArray)) := (blk_cell BK292.out 1).trans rfl
            have hcz41_2 : w31.cell? ⟨gb292, 2, none⟩ = some (.int .i64 0) := (blk_cell BK292.out 2).trans rfl
            have hfz41_0 := blk_frozen BK292.out 0
            have hfz41_1 := blk_frozen BK292.out 1
            have hfz41_2 := blk_frozen BK292.out 2
            obtain ⟨Ao42, co42, eo42⟩ := Kd.R_slice HO281.out
            subst eo42
            obtain ⟨Ao43, co43, eo43⟩ := Kd.R_slice HO288.out
            subst eo43
            go_wp2_with (first | (go_at_call 16; (with_reducible refine (graftbedref02_Same.calls kj2 _ _ t279 _ _ t286 t293 _ ?side1 ?side2 ?side3 ?side4 A38.out).mono ?_); (case side1 => refine (Kd.R_reads' (e := 29) (base := w.heap.size) (ok := fun k_ => (((True ∧ some k_ ≠ (.slice Ao25 t273.length co25 : Value).ownBlock) ∧ some k_ ≠ (.slice Ao26 t276.length co26 : Value).ownBlock) ∧ some k_ ≠ (.slice Ao43 t286.length co43 : Value).ownBlock)) (n := t279.length) (c := co42) ?_).2.2; exact (by (with_reducible repeat (first | apply Kd.R_alloc | apply Kd.R_drewN | apply Kd.R_drew)); exact (Kd.R_mono (Kd.R_far (p := ⟨gb292, 2, none⟩) (Kd.R_far (p := ⟨gb292, 1, none⟩) (Kd.R_far (p := ⟨gb292, 0, none⟩) (Kd.R_types HO281.out BK292.out (by decide)) (fun _ hk => hk.2) (.int .i64 t289)) (fun _ hk => hk.2) (.string t290)) (fun _ hk => hk.2) (.int .i64 t291)) (fun _ h_ => h_.1)))); (case side2 => exact (Kd.R_reads' HO281.out).2.1); (case side3 => refine (Kd.R_reads' (e := 29) (base := w.heap.size) (ok := fun k_ => (((True ∧ some k_ ≠ (.slice Ao25 t273.length co25 : Value).ownBlock) ∧ some k_ ≠ (.slice Ao26 t276.length co26 : Value).ownBlock) ∧ some k_ ≠ (.slice Ao42 t279.length co42 : Value).ownBlock)) (n := t286.length) (c := co43) ?_).2.2; exact (by (with_reducible repeat (first | apply Kd.R_alloc | apply Kd.R_drewN | apply Kd.R_drew)); exact (Kd.R_mono (Kd.R_far (p := ⟨gb292, 2, none⟩) (Kd.R_far (p := ⟨gb292, 1, none⟩) (Kd.R_far (p := ⟨gb292, 0, none⟩) (Kd.R_types HO288.out BK292.out (by decide)) (fun _ hk => hk.2) (.int .i64 t289)) (fun _ hk => hk.2) (.string t290)) (fun _ hk => hk.2) (.int .i64 t291)) (fun _ h_ => h_.1)))); (case side4 => exact (Kd.R_reads' HO288.out).2.1); rintro e w' ⟨rfl, ⟨nd, rfl⟩⟩))
            go_meet
            case rel => exact ⟨_, (!t293), (by first | rfl | (simp; done) | (simp [*]; done)), H', ⟨by have := HJ2.out; first | omega | exact Nat.le_refl _⟩, ⟨by (with_reducible repeat (first | apply Kd.R_alloc | apply Kd.R_drewN | apply Kd.R_drew)); exact Kd.R_mono (Kd.R_far (p := ⟨gb292, 2, none⟩) (Kd.R_far (p := ⟨gb292, 1, none⟩) (Kd.R_far (p := ⟨gb292, 0, none⟩) (Kd.R_types HO275.out BK292.out (by decide)) (fun _ hk => hk.2) (.int .i64 t289)) (fun _ hk => hk.2) (.string t290)) (fun _ hk => hk.2) (.int .i64 t291)) (fun _ hk => ⟨hk.1.1.1.2, hk.1.1.2⟩)⟩, ⟨by (with_reducible repeat (first | apply Kd.R_alloc | apply Kd.R_drewN | apply Kd.R_drew)); exact Kd.R_mono (Kd.R_far (p := ⟨gb292, 2, none⟩) (Kd.R_far (p := ⟨gb292, 1, none⟩) (Kd.R_far (p := ⟨gb292, 0, none⟩) (Kd.R_types HO278.out BK292.out (by decide)) (fun _ hk => hk.2) (.int .i64 t289)) (fun _ hk => hk.2) (.string t290)) (fun _ hk => hk.2) (.int .i64 t291)) (fun _ hk => ⟨hk.1.1.1.2, hk.1.1.2⟩)⟩, ⟨by (with_reducible repeat (first | apply Kd.R_alloc | apply Kd.R_drewN | apply Kd.R_drew)); exact Kd.R_mono (Kd.R_far (p := ⟨gb292, 2, none⟩) (Kd.R_far (p := ⟨gb292, 1, none⟩) (Kd.R_far (p := ⟨gb292, 0, none⟩) (Kd.R_types HO281.out BK292.out (by decide)) (fun _ hk => hk.2) (.int .i64 t289)) (fun _ hk => hk.2) (.string t290)) (fun _ hk => hk.2) (.int .i64 t291)) (fun _ hk => ⟨hk.1.1.1.2, hk.1.1.2⟩)⟩, ⟨by (with_reducible repeat (first | refine blk_drewN ?_ _ | refine blk_drew ?_ | refine blk_alloc ?_ _)); refine blk_far ?_ NB285_292.out _; (with_reducible repeat (first | refine blk_drewN ?_ _ | refine blk_drew ?_ | refine blk_alloc ?_ _)); refine blk_far ?_ NB285_292.out _; (with_reducible repeat (first | refine blk_drewN ?_ _ | refine blk_drew ?_ | refine blk_alloc ?_ _)); refine blk_far ?_ NB285_292.out _; (with_reducible repeat (first | refine blk_drewN ?_ _ | refine blk_drew ?_ | refine blk_alloc ?_ _)); exact BK285.out⟩, ⟨by (with_reducible repeat (first | refine blk_drewN ?_ _ | refine blk_drew ?_ | refine blk_alloc ?_ _)); refine blk_put (cs := #[.int .i64 t289, .string t290, .int .i64 0]) ?_ 2 _ rfl; (with_reducible repeat (first | refine blk_drewN ?_ _ | refine blk_drew ?_ | refine blk_alloc ?_ _)); refine blk_put (cs := #[.int .i64 t289, .string (⟨#[]⟩ : ByteArray), .int .i64 0]) ?_ 1 _ rfl; (with_reducible repeat (first | refine blk_drewN ?_ _ | refine blk_drew ?_ | refine blk_alloc ?_ _)); refine blk_put (cs := #[.int .i64 0, .string (⟨#[]⟩ : ByteArray), .int .i64 0]) ?_ 0 _ rfl; (with_reducible repeat (first | refine blk_drewN ?_ _ | refine blk_drew ?_ | refine blk_alloc ?_ _)); exact BK292.out⟩, ⟨by repeat (first | (with_reducible first | exact HB.out | apply below_alloc | apply pw_below_drewN | apply below_drew1 | refine below_set ?_ GE285.out | refine below_set ?_ GE292.out) | exact HB.out)⟩⟩
        case rest =>
          clear HC22
          try clear c1
          try clear p2
          try clear c3
          try clear c4
          try clear c5
          try clear c8
          try clear c10
          try clear c11
          try clear c12
          try clear c14
          try clear c15
          try clear c32
          try clear c34
          try clear c34b0
          try clear c35
          try clear c39
          try clear hcz29_0
          try clear hcz29_1
          try clear hcz29_2
          try clear hcz33_0
          try clear hcz33_1
          try clear hcz33_2
          try clear hcz36_0
          try clear hcz36_1
          try clear hcz36_2
          try clear hcz37_0
          try clear hcz37_1
          try clear hcz37_2
          try clear hcz40_0
          try clear hcz40_1
          try clear hcz40_2
          try clear hcz41_0
          try clear hcz41_1
          try clear hcz41_2
          try clear hfz29_0
          try clear hfz29_1
          try clear hfz29_2
          try clear hfz33_0
          try clear hfz33_1
          try clear hfz33_2
          try clear hfz36_0
          try clear hfz36_1
          try clear hfz36_2
          try clear hfz37_0
          try clear hfz37_1
          try clear hfz37_2
          try clear hfz40_0
          try clear hfz40_1
          try clear hfz40_2
          try clear hfz41_0
          try clear hfz41_1
          try clear hfz41_2
          try clear p2
          obtain ⟨kq, x53_21, rfl, HA, HJ21, HO_5, HO_6, HO_7, BK285, BK292, HB⟩ := hcut
          cases kq with
          | zero => exact absurd HA.out (by simp [graftbedlaw02_TreeMerges.j1])
          | succ kj21 =>
            have H := HA.out
            clear HA
            simp only [graftbedlaw02_TreeMerges.j1] at H
            by_cases c44 : x53_21 = true
            · subst c44
              have H1 : (some false) = some r := by rw [if_pos rfl] at H; exact H
              clear H
              have H := H1
              clear H1
              obtain rfl := Option.some.inj H
              go_wp2
              go_ret
              exact ⟨by first | rfl | (simp [errW_none, errW_some] <;> rfl) | (simp [*, errW_none, errW_some] <;> rfl), by repeat (first | (with_reducible first | exact HB.out | apply below_alloc | apply pw_below_drewN | apply below_drew1 | refine below_set ?_ GE285.out | refine below_set ?_ GE292.out) | exact HB.out)⟩
            · replace c44 := Bool.eq_false_iff.mpr c44
              subst c44
              have H1 : (if (!(t282 == 0) || (!(t283.toList == ([] : List UInt8)) || (!(t284 == 0)))) = true then (some ((t279.length : Int) == 0)) else ((tree_Merge.f t276 t273).bind fun bt294 => (graftbedlaw02_TreeMerges.l0 kj21 t273 t276 t279 bt294.1 0 bt294.2.1 bt294.2.2.1 bt294.2.2.2))) = some r := by rw [if_neg (show ¬ (false = true) by decide)] at H; exact H
              clear H
              have H := H1
              clear H1
              by_cases c45 : (!(t282 == 0) || (!(t283.toList == ([] : List UInt8)) || (!(t284 == 0)))) = true
              · rw [if_pos c45] at H
                have c45b0 : (!(t282 == 0) || (!(t283.toList == ([] : List UInt8)) || (!(t284 == 0)))) = true := c45
                have c45b0e := c45b0
                simp only [show ∀ l : List UInt8, (l == ([] : List UInt8)) = l.isEmpty from fun l => by cases l <;> rfl] at c45b0e
                clear c45
                obtain rfl := Option.some.inj H
                have hnb46 := NB285_292.out
                have hnc46 := NB292_285.out
                have hcz47_0 : wc.cell? ⟨gb285, 0, none⟩ = some (.int .i64 t282) := (blk_cell BK285.out 0).trans rfl
                have hcz47_1 : wc.cell? ⟨gb285, 1, none⟩ = some (.string t283) := (blk_cell BK285.out 1).trans rfl
                have hcz47_2 : wc.cell? ⟨gb285, 2, none⟩ = some (.int .i64 t284) := (blk_cell BK285.out 2).trans rfl
                have hfz47_0 := blk_frozen BK285.out 0
                have hfz47_1 := blk_frozen BK285.out 1
                have hfz47_2 := blk_frozen BK285.out 2
                obtain ⟨Ao48, co48, eo48⟩ := Kd.R_slice HO_7.out
                subst eo48
                go_wp2
                go_ret
                exact ⟨by first | rfl | (simp [errW_none, errW_some] <;> rfl) | (simp [*, errW_none, errW_some] <;> rfl), by repeat (first | (with_reducible first | exact HB.out | apply below_alloc | apply pw_below_drewN | apply below_drew1 | refine below_set ?_ GE285.out | refine below_set ?_ GE292.out) | exact HB.out)⟩
              · rw [if_neg c45] at H
                have c45b0 : (!(t282 == 0) || (!(t283.toList == ([] : List UInt8)) || (!(t284 == 0)))) = false := by simpa using c45
                have c45b0e := c45b0
                simp only [show ∀ l : List UInt8, (l == ([] : List UInt8)) = l.isEmpty from fun l => by cases l <;> rfl] at c45b0e
                clear c45
                replace H := Option.bind_eq_some_iff.mp H
                obtain ⟨⟨t294, t297, t298, t299⟩, A490, H⟩ := H
                replace H : (graftbedlaw02_TreeMerges.l0 kj21 t273 t276 t279 t294 0 t297 t298 t299) = some r := H
                have A49 := Aside0.mk A490
                clear A490
                have H' := Aside0.mk H
                clear H
                have hnb50 := NB285_292.out
                have hnc50 := NB292_285.out
                have hcz51_0 : wc.cell? ⟨gb285, 0, none⟩ = some (.int .i64 t282) := (blk_cell BK285.out 0).trans rfl
                have hcz51_1 : wc.cell? ⟨gb285, 1, none⟩ = some (.string t283) := (blk_cell BK285.out 1).trans rfl
                have hcz51_2 : wc.cell? ⟨gb285, 2, none⟩ = some (.int .i64 t284) := (blk_cell BK285.out 2).trans rfl
                have hfz51_0 := blk_frozen BK285.out 0
                have hfz51_1 := blk_frozen BK285.out 1
                have hfz51_2 := blk_frozen BK285.out 2
                go_wp2_with (first | ((with_reducible refine gate_callee (f := 14) rfl ?_); refine goesL_ (some 63) rfl rfl Try.func14 (by kernel_rfl) rfl #[.slice Ao26 t276.length co26, .slice Ao25 t273.length co25] rfl (by (try simp only [List.map_toArray, List.map_cons, List.map_nil]); first | done | rfl | (simp only [List.length_drop, List.length_take]; rfl)) ?_; (with_reducible refine (tree_Merge.calls _ _ t276 _ _ t273 t294 t297 t298 t299 _ ?side1 ?side2 ?side3 ?side4 A49.out).mono ?_); (case side1 => repeat (first | exact (Kd.R_reads' HO_6.out).2.2 | (with_reducible refine Kd.C_alloc ?_ _) | (with_reducible refine Kd.C_drewN ?_ _) | (with_reducible refine Kd.C_drew ?_))); (case side2 => exact (Kd.R_reads' HO_6.out).2.1); (case side3 => repeat (first | exact (Kd.R_reads' HO_5.out).2.2 | (with_reducible refine Kd.C_alloc ?_ _) | (with_reducible refine Kd.C_drewN ?_ _) | (with_reducible refine Kd.C_drew ?_))); (case side4 => exact (Kd.R_reads' HO_5.out).2.1); rintro e w52 ⟨v295, rfl, ho0, hb⟩; refine ⟨_, rfl, ?_⟩; have n0_ := Aside0.mk (Kd.R_elder' (by (with_reducible repeat (first | apply Kd.R_alloc | apply Kd.R_drewN | apply Kd.R_drew)); exact HO_5.out) (Kd.R_base ho0) hb); have n1_ := Aside0.mk (Kd.R_elder' (by (with_reducible repeat (first | apply Kd.R_alloc | apply Kd.R_drewN | apply Kd.R_drew)); exact HO_6.out) (Kd.R_base ho0) hb); have n2_ := Aside0.mk (Kd.R_elder' (by (with_reducible repeat (first | apply Kd.R_alloc | apply Kd.R_drewN | apply Kd.R_drew)); exact HO_7.out) (Kd.R_base ho0) hb); have n3_ := Aside0.mk (Kd.R_lower (Kd.R_new' (Kd.R_new' (Kd.R_new' ho0 (Kd.R_lt (by (with_reducible repeat (first | apply Kd.R_alloc | apply Kd.R_drewN | apply Kd.R_drew)); exact HO_5.out))) (Kd.R_lt (by (with_reducible repeat (first | apply Kd.R_alloc | apply Kd.R_drewN | apply Kd.R_drew)); exact HO_6.out))) (Kd.R_lt (by (with_reducible repeat (first | apply Kd.R_alloc | apply Kd.R_drewN | apply Kd.R_drew)); exact HO_7.out))) (below_size (by repeat (first | (with_reducible first | exact HB.out | apply below_alloc | apply pw_below_drewN | apply below_drew1 | refine below_set ?_ GE285.out | refine below_set ?_ GE292.out) | exact HB.out)))); have n4_ := Aside0.mk (blk_below (g := gb285) (o := .cells #[.int .i64 t282, .string t283, .int .i64 t284] 33 (0, 0)) (by (with_reducible repeat (first | refine blk_drewN ?_ _ | refine blk_drew ?_ | refine blk_alloc ?_ _)); exact BK285.out) hb); have n5_ := Aside0.mk (blk_below (g := gb292) (o := .cells #[.int .i64 t289, .string t290, .int .i64 t291] 33 (0, 0)) (by (with_reducible repeat (first | refine blk_drewN ?_ _ | refine blk_drew ?_ | refine blk_alloc ?_ _)); exact BK292.out) hb); have n6_ := Aside0.mk (below_step (by repeat (first | (with_reducible first | exact HB.out | apply below_alloc | apply pw_below_drewN | apply below_drew1 | refine below_set ?_ GE285.out | refine below_set ?_ GE292.out) | exact HB.out)) hb); clear HO_5; clear HO_6; clear HO_7; clear BK285; clear BK292; clear HB; have HO_5 := n0_; have HO_6 := n1_; have HO_7 := n2_; have HO296 := n3_; have BK285 := n4_; have BK292 := n5_; have HB := n6_; clear n0_ n1_ n2_ n3_ n4_ n5_ n6_; (try clear hb); (try clear hb2); (try clear hk); (try clear hi); (try clear ho0)) | ((with_reducible refine gate_dst (N := 12) rfl ?_); (try (refine gate_guard (by rfl) ?_; dsimp only)); refine box_event ?hg (N := 12) ?hd (cs := #[.int .i64 0, .string (⟨#[]⟩ : ByteArray), .int .i64 0]) (t := 33) ?hr ?_; (case hd => rfl); (case hg => rfl); (case hr => first | (go_simp; done) | (go_simp; rfl)); intro gb300 hg w53 hbox hb; have n0_ := Aside0.mk (Kd.R_below (by (with_reducible repeat (first | apply Kd.R_alloc | apply Kd.R_drewN | apply Kd.R_drew)); exact HO_5.out) hb); have n1_ := Aside0.mk (Kd.R_below (by (with_reducible repeat (first | apply Kd.R_alloc | apply Kd.R_drewN | apply Kd.R_drew)); exact HO_6.out) hb); have n2_ := Aside0.mk (Kd.R_below (by (with_reducible repeat (first | apply Kd.R_alloc | apply Kd.R_drewN | apply Kd.R_drew)); exact HO_7.out) hb); have n3_ := Aside0.mk (Kd.R_below (by (with_reducible repeat (first | apply Kd.R_alloc | apply Kd.R_drewN | apply Kd.R_drew)); exact HO296.out) hb); have n4_ := Aside0.mk (blk_below (g := gb285) (o := .cells #[.int .i64 t282, .string t283, .int .i64 t284] 33 (0, 0)) (by (with_reducible repeat (first | refine blk_drewN ?_ _ | refine blk_drew ?_ | refine blk_alloc ?_ _)); exact BK285.out) hb); have n5_ := Aside0.mk (blk_below (g := gb292) (o := .cells #[.int .i64 t289, .string t290, .int .i64 t291] 33 (0, 0)) (by (with_reducible repeat (first | refine blk_drewN ?_ _ | refine blk_drew ?_ | refine blk_alloc ?_ _)); exact BK292.out) hb); have n6_ := Aside0.mk (below_step (by repeat (first | (with_reducible first | exact HB.out | apply below_alloc | apply pw_below_drewN | apply below_drew1 | refine below_set ?_ GE285.out | refine below_set ?_ GE292.out) | exact HB.out)) hb); have n7_ := Aside0.mk (hbox); have n8_ := Aside0.mk ((by rw [hg]; exact (below_size (by repeat (first | (with_reducible first | exact HB.out | apply below_alloc | apply pw_below_drewN | apply below_drew1 | refine below_set ?_ GE285.out | refine below_set ?_ GE292.out) | exact HB.out))) : w.heap.size ≤ gb300)); have n9_ := Aside0.mk ((by rw [hg]; exact (below_size (by repeat (first | (with_reducible first | exact HB.out | apply below_alloc | apply pw_below_drewN | apply below_drew1 | refine below_set ?_ GE285.out | refine below_set ?_ GE292.out) | exact HB.out))) : w.heap.size ≤ gb300)); have n10_ := Aside0.mk ((by rw [hg]; exact Nat.ne_of_lt (blk_lt (g := gb285) (o := .cells #[.int .i64 t282, .string t283, .int .i64 t284] 33 (0, 0)) (by (with_reducible repeat (first | refine blk_drewN ?_ _ | refine blk_drew ?_ | refine blk_alloc ?_ _)); exact BK285.out)) : gb285 ≠ gb300)); have n11_ := Aside0.mk ((by rw [hg]; exact Nat.ne_of_gt (blk_lt (g := gb285) (o := .cells #[.int .i64 t282, .string t283, .int .i64 t284] 33 (0, 0)) (by (with_reducible repeat (first | refine blk_drewN ?_ _ | refine blk_drew ?_ | refine blk_alloc ?_ _)); exact BK285.out)) : gb300 ≠ gb285)); have n12_ := Aside0.mk ((by rw [hg]; exact Nat.ne_of_lt (blk_lt (g := gb292) (o := .cells #[.int .i64 t289, .string t290, .int .i64 t291] 33 (0, 0)) (by (with_reducible repeat (first | refine blk_drewN ?_ _ | refine blk_drew ?_ | refine blk_alloc ?_ _)); exact BK292.out)) : gb292 ≠ gb300)); have n13_ := Aside0.mk ((by rw [hg]; exact Nat.ne_of_gt (blk_lt (g := gb292) (o := .cells #[.int .i64 t289, .string t290, .int .i64 t291] 33 (0, 0)) (by (with_reducible repeat (first | refine blk_drewN ?_ _ | refine blk_drew ?_ | refine blk_alloc ?_ _)); exact BK292.out)) : gb300 ≠ gb292)); clear HO_5; clear HO_6; clear HO_7; clear HO296; clear BK285; clear BK292; clear HB; have HO_5 := n0_; have HO_6 := n1_; have HO_7 := n2_; have HO296 := n3_; have BK285 := n4_; have BK292 := n5_; have HB := n6_; have BK300 := n7_; have GW300 := n8_; have GE300 := n9_; have NB285_300 := n10_; have NB300_285 := n11_; have NB292_300 := n12_; have NB300_292 := n13_; clear n0_ n1_ n2_ n3_ n4_ n5_ n6_ n7_ n8_ n9_ n10_ n11_ n12_ n13_; clear hb hbox hg; have hnb54 := NB300_285.out; have hnc54 := NB285_300.out; have hnb55 := NB300_292.out; have hnc55 := NB292_300.out; have hcz56_0 : w53.cell? ⟨gb300, 0, none⟩ = some (.int .i64 0) := (blk_cell BK300.out 0).trans rfl; have hcz56_1 : w53.cell? ⟨gb300, 1, none⟩ = some (.string (⟨#[]⟩ : ByteArray)) := (blk_cell BK300.out 1).trans rfl; have hcz56_2 : w53.cell? ⟨gb300, 2, none⟩ = some (.int .i64 0) := (blk_cell BK300.out 2).trans rfl; have hfz56_0 := blk_frozen BK300.out 0; have hfz56_1 := blk_frozen BK300.out 1; have hfz56_2 := blk_frozen BK300.out 2))
                go_loopg [13] kj21 (fun kq v13 w' => ∃ (x13_3 : Int), v13 = .int .i64 x13_3 ∧ Aside0 (graftbedlaw02_TreeMerges.l0 kq t273 t276 t279 t294 x13_3 t297 t298 t299 = some r) ∧ Aside0 (kq ≤ kj21) ∧ Aside0 (Kd.R k29 29 w' w.heap.size (fun k_ => some k_ ≠ ((.slice Ao26 t276.length co26) : Value).ownBlock ∧ some k_ ≠ (v280 : Value).ownBlock ∧ some k_ ≠ (v295 : Value).ownBlock) (.slice Ao25 t273.length co25) t273) ∧ Aside0 (Kd.R k29 29 w' w.heap.size (fun k_ => some k_ ≠ ((.slice Ao25 t273.length co25) : Value).ownBlock ∧ some k_ ≠ (v280 : Value).ownBlock ∧ some k_ ≠ (v295 : Value).ownBlock) (.slice Ao26 t276.length co26) t276) ∧ Aside0 (Kd.R k29 29 w' w.heap.size (fun k_ => some k_ ≠ ((.slice Ao25 t273.length co25) : Value).ownBlock ∧ some k_ ≠ ((.slice Ao26 t276.length co26) : Value).ownBlock ∧ some k_ ≠ (v295 : Value).ownBlock) v280 t279) ∧ Aside0 (Kd.R k29 29 w' w.heap.size (fun k_ => some k_ ≠ ((.slice Ao25 t273.length co25) : Value).ownBlock ∧ some k_ ≠ ((.slice Ao26 t276.length co26) : Value).ownBlock ∧ some k_ ≠ (v280 : Value).ownBlock) v295 t294) ∧ Aside0 (w'.heap[gb285]? = some (.cells #[.int .i64 t282, .string t283, .int .i64 t284] 33 (0, 0))) ∧ Aside0 (w'.heap[gb292]? = some (.cells #[.int .i64 t289, .string t290, .int .i64 t291] 33 (0, 0))) ∧ Aside0 (w'.heap[gb300]? = some (.cells #[.int .i64 t297, .string t298, .int .i64 t299] 33 (0, 0))) ∧ Aside0 (Below w.heap.size w w'))
                case atStart => exact ⟨(0), (by first | rfl | (simp; done) | (simp [*]; done)), H', ⟨Nat.le_refl _⟩, ⟨by (with_reducible repeat (first | apply Kd.R_alloc | apply Kd.R_drewN | apply Kd.R_drew)); exact Kd.R_mono (Kd.R_far (p := ⟨gb300, 2, none⟩) (Kd.R_far (p := ⟨gb300, 1, none⟩) (Kd.R_far (p := ⟨gb300, 0, none⟩) (Kd.R_types HO_5.out BK300.out (by decide)) (fun _ hk => hk.2) (.int .i64 t297)) (fun _ hk => hk.2) (.string t298)) (fun _ hk => hk.2) (.int .i64 t299)) (fun _ hk => ⟨hk.1.1.1, ⟨hk.1.1.2, hk.1.2⟩⟩)⟩, ⟨by (with_reducible repeat (first | apply Kd.R_alloc | apply Kd.R_drewN | apply Kd.R_drew)); exact Kd.R_mono (Kd.R_far (p := ⟨gb300, 2, none⟩) (Kd.R_far (p := ⟨gb300, 1, none⟩) (Kd.R_far (p := ⟨gb300, 0, none⟩) (Kd.R_types HO_6.out BK300.out (by decide)) (fun _ hk => hk.2) (.int .i64 t297)) (fun _ hk => hk.2) (.string t298)) (fun _ hk => hk.2) (.int .i64 t299)) (fun _ hk => ⟨hk.1.1.1, ⟨hk.1.1.2, hk.1.2⟩⟩)⟩, ⟨by (with_reducible repeat (first | apply Kd.R_alloc | apply Kd.R_drewN | apply Kd.R_drew)); exact Kd.R_mono (Kd.R_far (p := ⟨gb300, 2, none⟩) (Kd.R_far (p := ⟨gb300, 1, none⟩) (Kd.R_far (p := ⟨gb300, 0, none⟩) (Kd.R_types HO_7.out BK300.out (by decide)) (fun _ hk => hk.2) (.int .i64 t297)) (fun _ hk => hk.2) (.string t298)) (fun _ hk => hk.2) (.int .i64 t299)) (fun _ hk => ⟨hk.1.1.1, ⟨hk.1.1.2, hk.1.2⟩⟩)⟩, ⟨by (with_reducible repeat (first | apply Kd.R_alloc | apply Kd.R_drewN | apply Kd.R_drew)); exact Kd.R_mono (Kd.R_far (p := ⟨gb300, 2, none⟩) (Kd.R_far (p := ⟨gb300, 1, none⟩) (Kd.R_far (p := ⟨gb300, 0, none⟩) (Kd.R_types HO296.out BK300.out (by decide)) (fun _ hk => hk.2) (.int .i64 t297)) (fun _ hk => hk.2) (.string t298)) (fun _ hk => hk.2) (.int .i64 t299)) (fun _ hk => ⟨hk.1.1.1.2, ⟨hk.1.1.2, hk.1.2⟩⟩)⟩, ⟨by (with_reducible repeat (first | refine blk_drewN ?_ _ | refine blk_drew ?_ | refine blk_alloc ?_ _)); refine blk_far ?_ NB285_300.out _; (with_reducible repeat (first | refine blk_drewN ?_ _ | refine blk_drew ?_ | refine blk_alloc ?_ _)); refine blk_far ?_ NB285_300.out _; (with_reducible repeat (first | refine blk_drewN ?_ _ | refine blk_drew ?_ | refine blk_alloc ?_ _)); refine blk_far ?_ NB285_300.out _; (with_reducible repeat (first | refine blk_drewN ?_ _ | refine blk_drew ?_ | refine blk_alloc ?_ _)); exact BK285.out⟩, ⟨by (with_reducible repeat (first | refine blk_drewN ?_ _ | refine blk_drew ?_ | refine blk_alloc ?_ _)); refine blk_far ?_ NB292_300.out _; (with_reducible repeat (first | refine blk_drewN ?_ _ | refine blk_drew ?_ | refine blk_alloc ?_ _)); refine blk_far ?_ NB292_300.out _; (with_reducible repeat (first | refine blk_drewN ?_ _ | refine blk_drew ?_ | refine blk_alloc ?_ _)); refine blk_far ?_ NB292_300.out _; (with_reducible repeat (first | refine blk_drewN ?_ _ | refine blk_drew ?_ | refine blk_alloc ?_ _)); exact BK292.out⟩, ⟨by (with_reducible repeat (first | refine blk_drewN ?_ _ | refine blk_drew ?_ | refine blk_alloc ?_ _)); refine blk_put (cs := #[.int .i64 t297, .string t298, .int .i64 0]) ?_ 2 _ rfl; (with_reducible repeat (first | refine blk_drewN ?_ _ | refine blk_drew ?_ | refine blk_alloc ?_ _)); refine blk_put (cs := #[.int .i64 t297, .string (⟨#[]⟩ : ByteArray), .int .i64 0]) ?_ 1 _ rfl; (with_reducible repeat (first | refine blk_drewN ?_ _ | refine blk_drew ?_ | refine blk_alloc ?_ _)); refine blk_put (cs := #[.int .i64 0, .string (⟨#[]⟩ : ByteArray), .int .i64 0]) ?_ 0 _ rfl; (with_reducible repeat (first | refine blk_drewN ?_ _ | refine blk_drew ?_ | refine blk_alloc ?_ _)); exact BK300.out⟩, ⟨by repeat (first | (with_reducible first | exact HB.out | apply below_alloc | apply pw_below_drewN | apply below_drew1 | refine below_set ?_ GE285.out | refine below_set ?_ GE292.out | refine below_set ?_ GE300.out) | exact HB.out)⟩⟩
                case round =>
                  clear H'
                  try clear c1
                  try clear p2
                  try clear c3
                  try clear c4
                  try clear c5
                  try clear c8
                  try clear c10
                  try clear c11
                  try clear c12
                  try clear c14
                  try clear c15
                  try clear c32
                  try clear c34
                  try clear c34b0
                  try clear c35
                  try clear c39
                  try clear c44
                  try clear c45
                  try clear c45b0
                  try clear c46
                  try clear c50
                  try clear c54
                  try clear c55
                  try clear hcz29_0
                  try clear hcz29_1
                  try clear hcz29_2
                  try clear hcz33_0
                  try clear hcz33_1
                  try clear hcz33_2
                  try clear hcz36_0
                  try clear hcz36_1
                  try clear hcz36_2
                  try clear hcz37_0
                  try clear hcz37_1
                  try clear hcz37_2
                  try clear hcz40_0
                  try clear hcz40_1
                  try clear hcz40_2
                  try clear hcz41_0
                  try clear hcz41_1
                  try clear hcz41_2
                  try clear hcz47_0
                  try clear hcz47_1
                  try clear hcz47_2
                  try clear hcz51_0
                  try clear hcz51_1
                  try clear hcz51_2
                  try clear hcz56_0
                  try clear hcz56_1
                  try clear hcz56_2
                  try clear hfz29_0
                  try clear hfz29_1
                  try clear hfz29_2
                  try clear hfz33_0
                  try clear hfz33_1
                  try clear hfz33_2
                  try clear hfz36_0
                  try clear hfz36_1
                  try clear hfz36_2
                  try clear hfz37_0
                  try clear hfz37_1
                  try clear hfz37_2
                  try clear hfz40_0
                  try clear hfz40_1
                  try clear hfz40_2
                  try clear hfz41_0
                  try clear hfz41_1
                  try clear hfz41_2
                  try clear hfz47_0
                  try clear hfz47_1
                  try clear hfz47_2
                  try clear hfz51_0
                  try clear hfz51_1
                  try clear hfz51_2
                  try clear hfz56_0
                  try clear hfz56_1
                  try clear hfz56_2
                  try clear p2
                  obtain ⟨x13_3, rfl, HA, HK3, HO_5, HO_6, HO_7, HO_11, BK285, BK292, BK300, HB⟩ := hrel
                  cases gk with
                  | zero => exact absurd HA.out (by simp [graftbedlaw02_TreeMerges.l0])
                  | succ k3 =>
                    have H := HA.out
                    clear HA
                    simp only [graftbedlaw02_TreeMerges.l0] at H
                    by_cases c57 : x13_3 < (t279.length : Int)
                    · rw [if_pos c57] at H
                      have c57b0 : decide (x13_3 < (t279.length : Int)) = true := decide_eq_true c57
                      clear c57
                      by_cases c58 : 0 ≤ x13_3
                      · rw [if_pos c58] at H
                        have c58b0 : decide (0 ≤ x13_3) = true := decide_eq_true c58
                        clear c58
                        replace H := Option.bind_eq_some_iff.mp H
                        obtain ⟨⟨t306, t307⟩, A590, H⟩ := H
                        replace H : ((graftbedref02_Find.f k3 t276 ((rd_T29 t279 x13_3).f0)).bind fun bt309 => (if t307 = true then (if t306.toList = ((rd_T29 t279 x13_3).f1).toList then (if bt309.2 = true then (if bt309.1.toList = ((rd_T29 t279 x13_3).f1).toList then (graftbedlaw02_TreeMerges.l0 k3 t273 t276 t279 t294 (wrap64 (x13_3 + 1)) t297 t298 t299) else (some false)) else (graftbedlaw02_TreeMerges.l0 k3 t273 t276 t279 t294 (wrap64 (x13_3 + 1)) t297 t298 t299)) else (some false)) else (if bt309.2 = true then (if bt309.1.toList = ((rd_T29 t279 x13_3).f1).toList then (graftbedlaw02_TreeMerges.l0 k3 t273 t276 t279 t294 (wrap64 (x13_3 + 1)) t297 t298 t299) else (some false)) else (some false)))) = some r := H
                        have A59 := Aside0.mk A590
                        clear A590
                        replace H := Option.bind_eq_some_iff.mp H
                        obtain ⟨⟨t309, t310⟩, A600, H⟩ := H
                        replace H : (if t307 = true then (if t306.toList = ((rd_T29 t279 x13_3).f1).toList then (if t310 = true then (if t309.toList = ((rd_T29 t279 x13_3).f1).toList then (graftbedlaw02_TreeMerges.l0 k3 t273 t276 t279 t294 (wrap64 (x13_3 + 1)) t297 t298 t299) else (some false)) else (graftbedlaw02_TreeMerges.l0 k3 t273 t276 t279 t294 (wrap64 (x13_3 + 1)) t297 t298 t299)) else (some false)) else (if t310 = true then (if t309.toList = ((rd_T29 t279 x13_3).f1).toList then (graftbedlaw02_TreeMerges.l0 k3 t273 t276 t279 t294 (wrap64 (x13_3 + 1)) t297 t298 t299) else (some false)) else (some false))) = some r := H
                        have A60 := Aside0.mk A600
                        clear A600
                        by_cases c61 : t307 = true
                        · subst c61
                          have H1 : (if t306.toList = ((rd_T29 t279 x13_3).f1).toList then (if t310 = true then (if t309.toList = ((rd_T29 t279 x13_3).f1).toList then (graftbedlaw02_TreeMerges.l0 k3 t273 t276 t279 t294 (wrap64 (x13_3 + 1)) t297 t298 t299) else (some false)) else (graftbedlaw02_TreeMerges.l0 k3 t273 t276 t279 t294 (wrap64 (x13_3 + 1)) t297 t298 t299)) else (some false)) = some r := by rw [if_pos rfl] at H; exact H
                          clear H
                          have H := H1
                          clear H1
                          by_cases c62 : t306.toList = ((rd_T29 t279 x13_3).f1).toList
                          · rw [if_pos c62] at H
                            have c62b0 : (t306.toList == ((rd_T29 t279 x13_3).f1).toList) = true := beq_iff_eq.mpr c62
                            have c62b1 : (t306.toList != ((rd_T29 t279 x13_3).f1).toList) = false := bne_eq_false_iff_eq.mpr c62
                            clear c62
                            by_cases c63 : t310 = true
                            · subst c63
                              have H1 : (if t309.toList = ((rd_T29 t279 x13_3).f1).toList then (graftbedlaw02_TreeMerges.l0 k3 t273 t276 t279 t294 (wrap64 (x13_3 + 1)) t297 t298 t299) else (some false)) = some r := by rw [if_pos rfl] at H; exact H
                              clear H
                              have H := H1
                              clear H1
                              by_cases c64 : t309.toList = ((rd_T29 t279 x13_3).f1).toList
                              · rw [if_pos c64] at H
                                have c64b0 : (t309.toList == ((rd_T29 t279 x13_3).f1).toList) = true := beq_iff_eq.mpr c64
                                have c64b1 : (t309.toList != ((rd_T29 t279 x13_3).f1).toList) = false := bne_eq_false_iff_eq.mpr c64
                                clear c64
                                have H' := Aside0.mk H
                                clear H
                                obtain ⟨Ao65, co65, eo65⟩ := Kd.R_slice HO_7.out
                                subst eo65
                                have p305 : 0 ≤ (x13_3 : Int) := of_decide_eq_true (by first | (with_reducible assumption) | assumption)
                                have q305 : x13_3 < (t279.length : Int) := of_decide_eq_true (by first | (with_reducible assumption) | assumption)
                                obtain ⟨ad305, e305, hx305_0, hx305_1⟩ := at_T29 (Kd.R_reads' HO_7.out).2.2 x13_3 p305 q305
                                cases e305
                                replace p305 := eq_true p305
                                replace q305 := eq_true q305
                                go_wp2_with (first | ((with_reducible refine gate_callee (f := 17) rfl ?_); refine goesL_ (some 79) rfl rfl Try.func17 (by kernel_rfl) rfl #[.slice Ao25 t273.length co25, .string ((rd_T29 t279 x13_3).f0)] rfl (by (try simp only [List.map_toArray, List.map_cons, List.map_nil]); first | done | rfl | (simp only [List.length_drop, List.length_take]; rfl)) ?_; (with_reducible refine (graftbedref02_Find.calls k3 _ _ t273 ((rd_T29 t279 x13_3).f0) t306 true _ ?side1 ?side2 A59.out).mono ?_); (case side1 => repeat (first | exact (Kd.R_reads' HO_5.out).2.2 | (with_reducible refine Kd.C_alloc ?_ _) | (with_reducible refine Kd.C_drewN ?_ _) | (with_reducible refine Kd.C_drew ?_))); (case side2 => exact (Kd.R_reads' HO_5.out).2.1); rintro e w' ⟨rfl, ⟨nd, rfl⟩⟩; refine ⟨_, rfl, ?_⟩; have p308 : 0 ≤ (x13_3 : Int) := of_decide_eq_true (by first | (with_reducible assumption) | assumption); have q308 : x13_3 < (t279.length : Int) := of_decide_eq_true (by first | (with_reducible assumption) | assumption); obtain ⟨ad308, e308, hx308_0, hx308_1⟩ := at_T29 (Kd.R_reads' HO_7.out).2.2 x13_3 p308 q308; obtain rfl : ad305 = ad308 := (by injection e308); replace p308 := eq_true p308; replace q308 := eq_true q308) | ((with_reducible refine gate_callee (f := 17) rfl ?_); refine goesL_ (some 89) rfl rfl Try.func17 (by kernel_rfl) rfl #[.slice Ao26 t276.length co26, .string ((rd_T29 t279 x13_3).f0)] rfl (by (try simp only [List.map_toArray, List.map_cons, List.map_nil]); first | done | rfl | (simp only [List.length_drop, List.length_take]; rfl)) ?_; (with_reducible refine (graftbedref02_Find.calls k3 _ _ t276 ((rd_T29 t279 x13_3).f0) t309 true _ ?side1 ?side2 A60.out).mono ?_); (case side1 => repeat (first | exact (Kd.R_reads' HO_6.out).2.2 | (with_reducible refine Kd.C_alloc ?_ _) | (with_reducible refine Kd.C_drewN ?_ _) | (with_reducible refine Kd.C_drew ?_))); (case side2 => exact (Kd.R_reads' HO_6.out).2.1); rintro e w' ⟨rfl, ⟨nd, rfl⟩⟩; refine ⟨_, rfl, ?_⟩; have p311 : 0 ≤ (x13_3 : Int) := of_decide_eq_true (by first | (with_reducible assumption) | assumption); have q311 : x13_3 < (t279.length : Int) := of_decide_eq_true (by first | (with_reducible assumption) | assumption); obtain ⟨ad311, e311, hx311_0, hx311_1⟩ := at_T29 (Kd.R_reads' HO_7.out).2.2 x13_3 p311 q311; obtain rfl : ad305 = ad311 := (by injection e311); replace p311 := eq_true p311; replace q311 := eq_true q311; have p312 : 0 ≤ (x13_3 : Int) := of_decide_eq_true (by first | (with_reducible assumption) | assumption); have q312 : x13_3 < (t279.length : Int) := of_decide_eq_true (by first | (with_reducible assumption) | assumption); obtain ⟨ad312, e312, hx312_0, hx312_1⟩ := at_T29 (Kd.R_reads' HO_7.out).2.2 x13_3 p312 q312; obtain rfl : ad305 = ad312 := (by injection e312); replace p312 := eq_true p312; replace q312 := eq_true q312))
                                go_roundg k3
                                case measure => have := HJ2.out; have := HJ21.out; have := HK3.out; omega
                                case rel => exact ⟨(wrap64 (x13_3 + 1)), (by first | rfl | (simp; done) | (simp [*]; done)), H', ⟨by have := HJ2.out; have := HJ21.out; have := HK3.out; omega⟩, ⟨by (with_reducible repeat (first | apply Kd.R_alloc | apply Kd.R_drewN | apply Kd.R_drew)); exact HO_5.out⟩, ⟨by (with_reducible repeat (first | apply Kd.R_alloc | apply Kd.R_drewN | apply Kd.R_drew)); exact HO_6.out⟩, ⟨by (with_reducible repeat (first | apply Kd.R_alloc | apply Kd.R_drewN | apply Kd.R_drew)); exact HO_7.out⟩, ⟨by (with_reducible repeat (first | apply Kd.R_alloc | apply Kd.R_drewN | apply Kd.R_drew)); exact HO_11.out⟩, ⟨by (with_reducible repeat (first | refine blk_drewN ?_ _ | refine blk_drew ?_ | refine blk_alloc ?_ _)); exact BK285.out⟩, ⟨by (with_reducible repeat (first | refine blk_drewN ?_ _ | refine blk_drew ?_ | refine blk_alloc ?_ _)); exact BK292.out⟩, ⟨by (with_reducible repeat (first | refine blk_drewN ?_ _ | refine blk_drew ?_ | refine blk_alloc ?_ _)); exact BK300.out⟩, ⟨by repeat (first | (with_reducible first | exact HB.out | apply below_alloc | apply pw_below_drewN | apply below_drew1 | refine below_set ?_ GE285.out | refine below_set ?_ GE292.out | refine below_set ?_ GE300.out) | exact HB.out)⟩⟩
                              · rw [if_neg c64] at H
                                have c64b0 : (t309.toList == ((rd_T29 t279 x13_3).f1).toList) = false := beq_eq_false_iff_ne.mpr c64
                                have c64b1 : (t309.toList != ((rd_T29 t279 x13_3).f1).toList) = true := bne_iff_ne.mpr c64
                                obtain rfl := Option.some.inj H
                                obtain ⟨Ao66, co66, eo66⟩ := Kd.R_slice HO_7.out
                                subst eo66
                                have p305 : 0 ≤ (x13_3 : Int) := of_decide_eq_true (by first | (with_reducible assumption) | assumption)
                                have q305 : x13_3 < (t279.length : Int) := of_decide_eq_true (by first | (with_reducible assumption) | assumption)
                                obtain ⟨ad305, e305, hx305_0, hx305_1⟩ := at_T29 (Kd.R_reads' HO_7.out).2.2 x13_3 p305 q305
                                cases e305
                                replace p305 := eq_true p305
                                replace q305 := eq_true q305
                                go_wp2_with (first | ((with_reducible refine gate_callee (f := 17) rfl ?_); refine goesL_ (some 79) rfl rfl Try.func17 (by kernel_rfl) rfl #[.slice Ao25 t273.length co25, .string ((rd_T29 t279 x13_3).f0)] rfl (by (try simp only [List.map_toArray, List.map_cons, List.map_nil]); first | done | rfl | (simp only [List.length_drop, List.length_take]; rfl)) ?_; (with_reducible refine (graftbedref02_Find.calls k3 _ _ t273 ((rd_T29 t279 x13_3).f0) t306 true _ ?side1 ?side2 A59.out).mono ?_); (case side1 => repeat (first | exact (Kd.R_reads' HO_5.out).2.2 | (with_reducible refine Kd.C_alloc ?_ _) | (with_reducible refine Kd.C_drewN ?_ _) | (with_reducible refine Kd.C_drew ?_))); (case side2 => exact (Kd.R_reads' HO_5.out).2.1); rintro e w' ⟨rfl, ⟨nd, rfl⟩⟩; refine ⟨_, rfl, ?_⟩; have p308 : 0 ≤ (x13_3 : Int) := of_decide_eq_true (by first | (with_reducible assumption) | assumption); have q308 : x13_3 < (t279.length : Int) := of_decide_eq_true (by first | (with_reducible assumption) | assumption); obtain ⟨ad308, e308, hx308_0, hx308_1⟩ := at_T29 (Kd.R_reads' HO_7.out).2.2 x13_3 p308 q308; obtain rfl : ad305 = ad308 := (by injection e308); replace p308 := eq_true p308; replace q308 := eq_true q308) | ((with_reducible refine gate_callee (f := 17) rfl ?_); refine goesL_ (some 89) rfl rfl Try.func17 (by kernel_rfl) rfl #[.slice Ao26 t276.length co26, .string ((rd_T29 t279 x13_3).f0)] rfl (by (try simp only [List.map_toArray, List.map_cons, List.map_nil]); first | done | rfl | (simp only [List.length_drop, List.length_take]; rfl)) ?_; (with_reducible refine (graftbedref02_Find.calls k3 _ _ t276 ((rd_T29 t279 x13_3).f0) t309 true _ ?side1 ?side2 A60.out).mono ?_); (case side1 => repeat (first | exact (Kd.R_reads' HO_6.out).2.2 | (with_reducible refine Kd.C_alloc ?_ _) | (with_reducible refine Kd.C_drewN ?_ _) | (with_reducible refine Kd.C_drew ?_))); (case side2 => exact (Kd.R_reads' HO_6.out).2.1); rintro e w' ⟨rfl, ⟨nd, rfl⟩⟩; refine ⟨_, rfl, ?_⟩; have p311 : 0 ≤ (x13_3 : Int) := of_decide_eq_true (by first | (with_reducible assumption) | assumption); have q311 : x13_3 < (t279.length : Int) := of_decide_eq_true (by first | (with_reducible assumption) | assumption); obtain ⟨ad311, e311, hx311_0, hx311_1⟩ := at_T29 (Kd.R_reads' HO_7.out).2.2 x13_3 p311 q311; obtain rfl : ad305 = ad311 := (by injection e311); replace p311 := eq_true p311; replace q311 := eq_true q311; have p312 : 0 ≤ (x13_3 : Int) := of_decide_eq_true (by first | (with_reducible assumption) | assumption); have q312 : x13_3 < (t279.length : Int) := of_decide_eq_true (by first | (with_reducible assumption) | assumption); obtain ⟨ad312, e312, hx312_0, hx312_1⟩ := at_T29 (Kd.R_reads' HO_7.out).2.2 x13_3 p312 q312; obtain rfl : ad305 = ad312 := (by injection e312); replace p312 := eq_true p312; replace q312 := eq_true q312))
                                go_ret
                                exact ⟨by first | rfl | (simp [errW_none, errW_some] <;> rfl) | (simp [*, errW_none, errW_some] <;> rfl), by repeat (first | (with_reducible first | exact HB.out | apply below_alloc | apply pw_below_drewN | apply below_drew1 | refine below_set ?_ GE285.out | refine below_set ?_ GE292.out | refine below_set ?_ GE300.out) | exact HB.out)⟩
                            · replace c63 := Bool.eq_false_iff.mpr c63
                              subst c63
                              have H1 : (graftbedlaw02_TreeMerges.l0 k3 t273 t276 t279 t294 (wrap64 (x13_3 + 1)) t297 t298 t299) = some r := by rw [if_neg (show ¬ (false = true) by decide)] at H; exact H
                              clear H
                              have H := H1
                              clear H1
                              have H' := Aside0.mk H
                              clear H
                              obtain ⟨Ao67, co67, eo67⟩ := Kd.R_slice HO_7.out
                              subst eo67
                              have p305 : 0 ≤ (x13_3 : Int) := of_decide_eq_true (by first | (with_reducible assumption) | assumption)
                              have q305 : x13_3 < (t279.length : Int) := of_decide_eq_true (by first | (with_reducible assumption) | assumption)
                              obtain ⟨ad305, e305, hx305_0, hx305_1⟩ := at_T29 (Kd.R_reads' HO_7.out).2.2 x13_3 p305 q305
                              cases e305
                              replace p305 := eq_true p305
                              replace q305 := eq_true q305
                              go_wp2_with (first | ((with_reducible refine gate_callee (f := 17) rfl ?_); refine goesL_ (some 79) rfl rfl Try.func17 (by kernel_rfl) rfl #[.slice Ao25 t273.length co25, .string ((rd_T29 t279 x13_3).f0)] rfl (by (try simp only [List.map_toArray, List.map_cons, List.map_nil]); first | done | rfl | (simp only [List.length_drop, List.length_take]; rfl)) ?_; (with_reducible refine (graftbedref02_Find.calls k3 _ _ t273 ((rd_T29 t279 x13_3).f0) t306 true _ ?side1 ?side2 A59.out).mono ?_); (case side1 => repeat (first | exact (Kd.R_reads' HO_5.out).2.2 | (with_reducible refine Kd.C_alloc ?_ _) | (with_reducible refine Kd.C_drewN ?_ _) | (with_reducible refine Kd.C_drew ?_))); (case side2 => exact (Kd.R_reads' HO_5.out).2.1); rintro e w' ⟨rfl, ⟨nd, rfl⟩⟩; refine ⟨_, rfl, ?_⟩; have p308 : 0 ≤ (x13_3 : Int) := of_decide_eq_true (by first | (with_reducible assumption) | assumption); have q308 : x13_3 < (t279.length : Int) := of_decide_eq_true (by first | (with_reducible assumption) | assumption); obtain ⟨ad308, e308, hx308_0, hx308_1⟩ := at_T29 (Kd.R_reads' HO_7.out).2.2 x13_3 p308 q308; obtain rfl : ad305 = ad308 := (by injection e308); replace p308 := eq_true p308; replace q308 := eq_true q308) | ((with_reducible refine gate_callee (f := 17) rfl ?_); refine goesL_ (some 89) rfl rfl Try.func17 (by kernel_rfl) rfl #[.slice Ao26 t276.length co26, .string ((rd_T29 t279 x13_3).f0)] rfl (by (try simp only [List.map_toArray, List.map_cons, List.map_nil]); first | done | rfl | (simp only [List.length_drop, List.length_take]; rfl)) ?_; (with_reducible refine (graftbedref02_Find.calls k3 _ _ t276 ((rd_T29 t279 x13_3).f0) t309 false _ ?side1 ?side2 A60.out).mono ?_); (case side1 => repeat (first | exact (Kd.R_reads' HO_6.out).2.2 | (with_reducible refine Kd.C_alloc ?_ _) | (with_reducible refine Kd.C_drewN ?_ _) | (with_reducible refine Kd.C_drew ?_))); (case side2 => exact (Kd.R_reads' HO_6.out).2.1); rintro e w' ⟨rfl, ⟨nd, rfl⟩⟩; refine ⟨_, rfl, ?_⟩; have p311 : 0 ≤ (x13_3 : Int) := of_decide_eq_true (by first | (with_reducible assumption) | assumption); have q311 : x13_3 < (t279.length : Int) := of_decide_eq_true (by first | (with_reducible assumption) | assumption); obtain ⟨ad311, e311, hx311_0, hx311_1⟩ := at_T29 (Kd.R_reads' HO_7.out).2.2 x13_3 p311 q311; obtain rfl : ad305 = ad311 := (by injection e311); replace p311 := eq_true p311; replace q311 := eq_true q311))
                              go_roundg k3
                              case measure => have := HJ2.out; have := HJ21.out; have := HK3.out; omega
                              case rel => exact ⟨(wrap64 (x13_3 + 1)), (by first | rfl | (simp; done) | (simp [*]; done)), H', ⟨by have := HJ2.out; have := HJ21.out; have := HK3.out; omega⟩, ⟨by (with_reducible repeat (first | apply Kd.R_alloc | apply Kd.R_drewN | apply Kd.R_drew)); exact HO_5.out⟩, ⟨by (with_reducible repeat (first | apply Kd.R_alloc | apply Kd.R_drewN | apply Kd.R_drew)); exact HO_6.out⟩, ⟨by (with_reducible repeat (first | apply Kd.R_alloc | apply Kd.R_drewN | apply Kd.R_drew)); exact HO_7.out⟩, ⟨by (with_reducible repeat (first | apply Kd.R_alloc | apply Kd.R_drewN | apply Kd.R_drew)); exact HO_11.out⟩, ⟨by (with_reducible repeat (first | refine blk_drewN ?_ _ | refine blk_drew ?_ | refine blk_alloc ?_ _)); exact BK285.out⟩, ⟨by (with_reducible repeat (first | refine blk_drewN ?_ _ | refine blk_drew ?_ | refine blk_alloc ?_ _)); exact BK292.out⟩, ⟨by (with_reducible repeat (first | refine blk_drewN ?_ _ | refine blk_drew ?_ | refine blk_alloc ?_ _)); exact BK300.out⟩, ⟨by repeat (first | (with_reducible first | exact HB.out | apply below_alloc | apply pw_below_drewN | apply below_drew1 | refine below_set ?_ GE285.out | refine below_set ?_ GE292.out | refine below_set ?_ GE300.out) | exact HB.out)⟩⟩
                          · rw [if_neg c62] at H
                            have c62b0 : (t306.toList == ((rd_T29 t279 x13_3).f1).toList) = false := beq_eq_false_iff_ne.mpr c62
                            have c62b1 : (t306.toList != ((rd_T29 t279 x13_3).f1).toList) = true := bne_iff_ne.mpr c62
                            obtain rfl := Option.some.inj H
                            obtain ⟨Ao68, co68, eo68⟩ := Kd.R_slice HO_7.out
                            subst eo68
                            have p305 : 0 ≤ (x13_3 : Int) := of_decide_eq_true (by first | (with_reducible assumption) | assumption)
                            have q305 : x13_3 < (t279.length : Int) := of_decide_eq_true (by first | (with_reducible assumption) | assumption)
                            obtain ⟨ad305, e305, hx305_0, hx305_1⟩ := at_T29 (Kd.R_reads' HO_7.out).2.2 x13_3 p305 q305
                            cases e305
                            replace p305 := eq_true p305
                            replace q305 := eq_true q305
                            go_wp2_with (first | ((with_reducible refine gate_callee (f := 17) rfl ?_); refine goesL_ (some 79) rfl rfl Try.func17 (by kernel_rfl) rfl #[.slice Ao25 t273.length co25, .string ((rd_T29 t279 x13_3).f0)] rfl (by (try simp only [List.map_toArray, List.map_cons, List.map_nil]); first | done | rfl | (simp only [List.length_drop, List.length_take]; rfl)) ?_; (with_reducible refine (graftbedref02_Find.calls k3 _ _ t273 ((rd_T29 t279 x13_3).f0) t306 true _ ?side1 ?side2 A59.out).mono ?_); (case side1 => repeat (first | exact (Kd.R_reads' HO_5.out).2.2 | (with_reducible refine Kd.C_alloc ?_ _) | (with_reducible refine Kd.C_drewN ?_ _) | (with_reducible refine Kd.C_drew ?_))); (case side2 => exact (Kd.R_reads' HO_5.out).2.1); rintro e w' ⟨rfl, ⟨nd, rfl⟩⟩; refine ⟨_, rfl, ?_⟩; have p308 : 0 ≤ (x13_3 : Int) := of_decide_eq_true (by first | (with_reducible assumption) | assumption); have q308 : x13_3 < (t279.length : Int) := of_decide_eq_true (by first | (with_reducible assumption) | assumption); obtain ⟨ad308, e308, hx308_0, hx308_1⟩ := at_T29 (Kd.R_reads' HO_7.out).2.2 x13_3 p308 q308; obtain rfl : ad305 = ad308 := (by injection e308); replace p308 := eq_true p308; replace q308 := eq_true q308) | ((with_reducible refine gate_callee (f := 17) rfl ?_); refine goesL_ (some 89) rfl rfl Try.func17 (by kernel_rfl) rfl #[.slice Ao26 t276.length co26, .string ((rd_T29 t279 x13_3).f0)] rfl (by (try simp only [List.map_toArray, List.map_cons, List.map_nil]); first | done | rfl | (simp only [List.length_drop, List.length_take]; rfl)) ?_; (with_reducible refine (graftbedref02_Find.calls k3 _ _ t276 ((rd_T29 t279 x13_3).f0) t309 t310 _ ?side1 ?side2 A60.out).mono ?_); (case side1 => repeat (first | exact (Kd.R_reads' HO_6.out).2.2 | (with_reducible refine Kd.C_alloc ?_ _) | (with_reducible refine Kd.C_drewN ?_ _) | (with_reducible refine Kd.C_drew ?_))); (case side2 => exact (Kd.R_reads' HO_6.out).2.1); rintro e w' ⟨rfl, ⟨nd, rfl⟩⟩; refine ⟨_, rfl, ?_⟩; have p311 : 0 ≤ (x13_3 : Int) := of_decide_eq_true (by first | (with_reducible assumption) | assumption); have q311 : x13_3 < (t279.length : Int) := of_decide_eq_true (by first | (with_reducible assumption) | assumption); obtain ⟨ad311, e311, hx311_0, hx311_1⟩ := at_T29 (Kd.R_reads' HO_7.out).2.2 x13_3 p311 q311; obtain rfl : ad305 = ad311 := (by injection e311); replace p311 := eq_true p311; replace q311 := eq_true q311))
                            go_ret
                            exact ⟨by first | rfl | (simp [errW_none, errW_some] <;> rfl) | (simp [*, errW_none, errW_some] <;> rfl), by repeat (first | (with_reducible first | exact HB.out | apply below_alloc | apply pw_below_drewN | apply below_drew1 | refine below_set ?_ GE285.out | refine below_set ?_ GE292.out | refine below_set ?_ GE300.out) | exact HB.out)⟩
                        · replace c61 := Bool.eq_false_iff.mpr c61
                          subst c61
                          have H1 : (if t310 = true then (if t309.toList = ((rd_T29 t279 x13_3).f1).toList then (graftbedlaw02_TreeMerges.l0 k3 t273 t276 t279 t294 (wrap64 (x13_3 + 1)) t297 t298 t299) else (some false)) else (some false)) = some r := by rw [if_neg (show ¬ (false = true) by decide)] at H; exact H
                          clear H
                          have H := H1
                          clear H1
                          by_cases c69 : t310 = true
                          · subst c69
                            have H1 : (if t309.toList = ((rd_T29 t279 x13_3).f1).toList then (graftbedlaw02_TreeMerges.l0 k3 t273 t276 t279 t294 (wrap64 (x13_3 + 1)) t297 t298 t299) else (some false)) = some r := by rw [if_pos rfl] at H; exact H
                            clear H
                            have H := H1
                            clear H1
                            by_cases c70 : t309.toList = ((rd_T29 t279 x13_3).f1).toList
                            · rw [if_pos c70] at H
                              have c70b0 : (t309.toList == ((rd_T29 t279 x13_3).f1).toList) = true := beq_iff_eq.mpr c70
                              have c70b1 : (t309.toList != ((rd_T29 t279 x13_3).f1).toList) = false := bne_eq_false_iff_eq.mpr c70
                              clear c70
                              have H' := Aside0.mk H
                              clear H
                              obtain ⟨Ao71, co71, eo71⟩ := Kd.R_slice HO_7.out
                              subst eo71
                              have p305 : 0 ≤ (x13_3 : Int) := of_decide_eq_true (by first | (with_reducible assumption) | assumption)
                              have q305 : x13_3 < (t279.length : Int) := of_decide_eq_true (by first | (with_reducible assumption) | assumption)
                              obtain ⟨ad305, e305, hx305_0, hx305_1⟩ := at_T29 (Kd.R_reads' HO_7.out).2.2 x13_3 p305 q305
                              cases e305
                              replace p305 := eq_true p305
                              replace q305 := eq_true q305
                              go_wp2_with (first | ((with_reducible refine gate_callee (f := 17) rfl ?_); refine goesL_ (some 79) rfl rfl Try.func17 (by kernel_rfl) rfl #[.slice Ao25 t273.length co25, .string ((rd_T29 t279 x13_3).f0)] rfl (by (try simp only [List.map_toArray, List.map_cons, List.map_nil]); first | done | rfl | (simp only [List.length_drop, List.length_take]; rfl)) ?_; (with_reducible refine (graftbedref02_Find.calls k3 _ _ t273 ((rd_T29 t279 x13_3).f0) t306 false _ ?side1 ?side2 A59.out).mono ?_); (case side1 => repeat (first | exact (Kd.R_reads' HO_5.out).2.2 | (with_reducible refine Kd.C_alloc ?_ _) | (with_reducible refine Kd.C_drewN ?_ _) | (with_reducible refine Kd.C_drew ?_))); (case side2 => exact (Kd.R_reads' HO_5.out).2.1); rintro e w' ⟨rfl, ⟨nd, rfl⟩⟩; refine ⟨_, rfl, ?_⟩; have p308 : 0 ≤ (x13_3 : Int) := of_decide_eq_true (by first | (with_reducible assumption) | assumption); have q308 : x13_3 < (t279.length : Int) := of_decide_eq_true (by first | (with_reducible assumption) | assumption); obtain ⟨ad308, e308, hx308_0, hx308_1⟩ := at_T29 (Kd.R_reads' HO_7.out).2.2 x13_3 p308 q308; obtain rfl : ad305 = ad308 := (by injection e308); replace p308 := eq_true p308; replace q308 := eq_true q308) | ((with_reducible refine gate_callee (f := 17) rfl ?_); refine goesL_ (some 89) rfl rfl Try.func17 (by kernel_rfl) rfl #[.slice Ao26 t276.length co26, .string ((rd_T29 t279 x13_3).f0)] rfl (by (try simp only [List.map_toArray, List.map_cons, List.map_nil]); first | done | rfl | (simp only [List.length_drop, List.length_take]; rfl)) ?_; (with_reducible refine (graftbedref02_Find.calls k3 _ _ t276 ((rd_T29 t279 x13_3).f0) t309 true _ ?side1 ?side2 A60.out).mono ?_); (case side1 => repeat (first | exact (Kd.R_reads' HO_6.out).2.2 | (with_reducible refine Kd.C_alloc ?_ _) | (with_reducible refine Kd.C_drewN ?_ _) | (with_reducible refine Kd.C_drew ?_))); (case side2 => exact (Kd.R_reads' HO_6.out).2.1); rintro e w' ⟨rfl, ⟨nd, rfl⟩⟩; refine ⟨_, rfl, ?_⟩; have p313 : 0 ≤ (x13_3 : Int) := of_decide_eq_true (by first | (with_reducible assumption) | assumption); have q313 : x13_3 < (t279.length : Int) := of_decide_eq_true (by first | (with_reducible assumption) | assumption); obtain ⟨ad313, e313, hx313_0, hx313_1⟩ := at_T29 (Kd.R_reads' HO_7.out).2.2 x13_3 p313 q313; obtain rfl : ad305 = ad313 := (by injection e313); replace p313 := eq_true p313; replace q313 := eq_true q313))
                              go_roundg k3
                              case measure => have := HJ2.out; have := HJ21.out; have := HK3.out; omega
                              case rel => exact ⟨(wrap64 (x13_3 + 1)), (by first | rfl | (simp; done) | (simp [*]; done)), H', ⟨by have := HJ2.out; have := HJ21.out; have := HK3.out; omega⟩, ⟨by (with_reducible repeat (first | apply Kd.R_alloc | apply Kd.R_drewN | apply Kd.R_drew)); exact HO_5.out⟩, ⟨by (with_reducible repeat (first | apply Kd.R_alloc | apply Kd.R_drewN | apply Kd.R_drew)); exact HO_6.out⟩, ⟨by (with_reducible repeat (first | apply Kd.R_alloc | apply Kd.R_drewN | apply Kd.R_drew)); exact HO_7.out⟩, ⟨by (with_reducible repeat (first | apply Kd.R_alloc | apply Kd.R_drewN | apply Kd.R_drew)); exact HO_11.out⟩, ⟨by (with_reducible repeat (first | refine blk_drewN ?_ _ | refine blk_drew ?_ | refine blk_alloc ?_ _)); exact BK285.out⟩, ⟨by (with_reducible repeat (first | refine blk_drewN ?_ _ | refine blk_drew ?_ | refine blk_alloc ?_ _)); exact BK292.out⟩, ⟨by (with_reducible repeat (first | refine blk_drewN ?_ _ | refine blk_drew ?_ | refine blk_alloc ?_ _)); exact BK300.out⟩, ⟨by repeat (first | (with_reducible first | exact HB.out | apply below_alloc | apply pw_below_drewN | apply below_drew1 | refine below_set ?_ GE285.out | refine below_set ?_ GE292.out | refine below_set ?_ GE300.out) | exact HB.out)⟩⟩
                            · rw [if_neg c70] at H
                              have c70b0 : (t309.toList == ((rd_T29 t279 x13_3).f1).toList) = false := beq_eq_false_iff_ne.mpr c70
                              have c70b1 : (t309.toList != ((rd_T29 t279 x13_3).f1).toList) = true := bne_iff_ne.mpr c70
                              obtain rfl := Option.some.inj H
                              obtain ⟨Ao72, co72, eo72⟩ := Kd.R_slice HO_7.out
                              subst eo72
                              have p305 : 0 ≤ (x13_3 : Int) := of_decide_eq_true (by first | (with_reducible assumption) | assumption)
                              have q305 : x13_3 < (t279.length : Int) := of_decide_eq_true (by first | (with_reducible assumption) | assumption)
                              obtain ⟨ad305, e305, hx305_0, hx305_1⟩ := at_T29 (Kd.R_reads' HO_7.out).2.2 x13_3 p305 q305
                              cases e305
                              replace p305 := eq_true p305
                              replace q305 := eq_true q305
                              go_wp2_with (first | ((with_reducible refine gate_callee (f := 17) rfl ?_); refine goesL_ (some 79) rfl rfl Try.func17 (by kernel_rfl) rfl #[.slice Ao25 t273.length co25, .string ((rd_T29 t279 x13_3).f0)] rfl (by (try simp only [List.map_toArray, List.map_cons, List.map_nil]); first | done | rfl | (simp only [List.length_drop, List.length_take]; rfl)) ?_; (with_reducible refine (graftbedref02_Find.calls k3 _ _ t273 ((rd_T29 t279 x13_3).f0) t306 false _ ?side1 ?side2 A59.out).mono ?_); (case side1 => repeat (first | exact (Kd.R_reads' HO_5.out).2.2 | (with_reducible refine Kd.C_alloc ?_ _) | (with_reducible refine Kd.C_drewN ?_ _) | (with_reducible refine Kd.C_drew ?_))); (case side2 => exact (Kd.R_reads' HO_5.out).2.1); rintro e w' ⟨rfl, ⟨nd, rfl⟩⟩; refine ⟨_, rfl, ?_⟩; have p308 : 0 ≤ (x13_3 : Int) := of_decide_eq_true (by first | (with_reducible assumption) | assumption); have q308 : x13_3 < (t279.length : Int) := of_decide_eq_true (by first | (with_reducible assumption) | assumption); obtain ⟨ad308, e308, hx308_0, hx308_1⟩ := at_T29 (Kd.R_reads' HO_7.out).2.2 x13_3 p308 q308; obtain rfl : ad305 = ad308 := (by injection e308); replace p308 := eq_true p308; replace q308 := eq_true q308) | ((with_reducible refine gate_callee (f := 17) rfl ?_); refine goesL_ (some 89) rfl rfl Try.func17 (by kernel_rfl) rfl #[.slice Ao26 t276.length co26, .string ((rd_T29 t279 x13_3).f0)] rfl (by (try simp only [List.map_toArray, List.map_cons, List.map_nil]); first | done | rfl | (simp only [List.length_drop, List.length_take]; rfl)) ?_; (with_reducible refine (graftbedref02_Find.calls k3 _ _ t276 ((rd_T29 t279 x13_3).f0) t309 true _ ?side1 ?side2 A60.out).mono ?_); (case side1 => repeat (first | exact (Kd.R_reads' HO_6.out).2.2 | (with_reducible refine Kd.C_alloc ?_ _) | (with_reducible refine Kd.C_drewN ?_ _) | (with_reducible refine Kd.C_drew ?_))); (case side2 => exact (Kd.R_reads' HO_6.out).2.1); rintro e w' ⟨rfl, ⟨nd, rfl⟩⟩; refine ⟨_, rfl, ?_⟩; have p313 : 0 ≤ (x13_3 : Int) := of_decide_eq_true (by first | (with_reducible assumption) | assumption); have q313 : x13_3 < (t279.length : Int) := of_decide_eq_true (by first | (with_reducible assumption) | assumption); obtain ⟨ad313, e313, hx313_0, hx313_1⟩ := at_T29 (Kd.R_reads' HO_7.out).2.2 x13_3 p313 q313; obtain rfl : ad305 = ad313 := (by injection e313); replace p313 := eq_true p313; replace q313 := eq_true q313))
                              go_ret
                              exact ⟨by first | rfl | (simp [errW_none, errW_some] <;> rfl) | (simp [*, errW_none, errW_some] <;> rfl), by repeat (first | (with_reducible first | exact HB.out | apply below_alloc | apply pw_below_drewN | apply below_drew1 | refine below_set ?_ GE285.out | refine below_set ?_ GE292.out | refine below_set ?_ GE300.out) | exact HB.out)⟩
                          · replace c69 := Bool.eq_false_iff.mpr c69
                            subst c69
                            have H1 : (some false) = some r := by rw [if_neg (show ¬ (false = true) by decide)] at H; exact H
                            clear H
                            have H := H1
                            clear H1
                            obtain rfl := Option.some.inj H
                            obtain ⟨Ao73, co73, eo73⟩ := Kd.R_slice HO_7.out
                            subst eo73
                            have p305 : 0 ≤ (x13_3 : Int) := of_decide_eq_true (by first | (with_reducible assumption) | assumption)
                            have q305 : x13_3 < (t279.length : Int) := of_decide_eq_true (by first | (with_reducible assumption) | assumption)
                            obtain ⟨ad305, e305, hx305_0, hx305_1⟩ := at_T29 (Kd.R_reads' HO_7.out).2.2 x13_3 p305 q305
                            cases e305
                            replace p305 := eq_true p305
                            replace q305 := eq_true q305
                            go_wp2_with (first | ((with_reducible refine gate_callee (f := 17) rfl ?_); refine goesL_ (some 79) rfl rfl Try.func17 (by kernel_rfl) rfl #[.slice Ao25 t273.length co25, .string ((rd_T29 t279 x13_3).f0)] rfl (by (try simp only [List.map_toArray, List.map_cons, List.map_nil]); first | done | rfl | (simp only [List.length_drop, List.length_take]; rfl)) ?_; (with_reducible refine (graftbedref02_Find.calls k3 _ _ t273 ((rd_T29 t279 x13_3).f0) t306 false _ ?side1 ?side2 A59.out).mono ?_); (case side1 => repeat (first | exact (Kd.R_reads' HO_5.out).2.2 | (with_reducible refine Kd.C_alloc ?_ _) | (with_reducible refine Kd.C_drewN ?_ _) | (with_reducible refine Kd.C_drew ?_))); (case side2 => exact (Kd.R_reads' HO_5.out).2.1); rintro e w' ⟨rfl, ⟨nd, rfl⟩⟩; refine ⟨_, rfl, ?_⟩; have p308 : 0 ≤ (x13_3 : Int) := of_decide_eq_true (by first | (with_reducible assumption) | assumption); have q308 : x13_3 < (t279.length : Int) := of_decide_eq_true (by first | (with_reducible assumption) | assumption); obtain ⟨ad308, e308, hx308_0, hx308_1⟩ := at_T29 (Kd.R_reads' HO_7.out).2.2 x13_3 p308 q308; obtain rfl : ad305 = ad308 := (by injection e308); replace p308 := eq_true p308; replace q308 := eq_true q308) | ((with_reducible refine gate_callee (f := 17) rfl ?_); refine goesL_ (some 89) rfl rfl Try.func17 (by kernel_rfl) rfl #[.slice Ao26 t276.length co26, .string ((rd_T29 t279 x13_3).f0)] rfl (by (try simp only [List.map_toArray, List.map_cons, List.map_nil]); first | done | rfl | (simp only [List.length_drop, List.length_take]; rfl)) ?_; (with_reducible refine (graftbedref02_Find.calls k3 _ _ t276 ((rd_T29 t279 x13_3).f0) t309 false _ ?side1 ?side2 A60.out).mono ?_); (case side1 => repeat (first | exact (Kd.R_reads' HO_6.out).2.2 | (with_reducible refine Kd.C_alloc ?_ _) | (with_reducible refine Kd.C_drewN ?_ _) | (with_reducible refine Kd.C_drew ?_))); (case side2 => exact (Kd.R_reads' HO_6.out).2.1); rintro e w' ⟨rfl, ⟨nd, rfl⟩⟩; refine ⟨_, rfl, ?_⟩))
                            go_ret
                            exact ⟨by first | rfl | (simp [errW_none, errW_some] <;> rfl) | (simp [*, errW_none, errW_some] <;> rfl), by repeat (first | (with_reducible first | exact HB.out | apply below_alloc | apply pw_below_drewN | apply below_drew1 | refine below_set ?_ GE285.out | refine below_set ?_ GE292.out | refine below_set ?_ GE300.out) | exact HB.out)⟩
                      · rw [if_neg c58] at H
                        exact absurd H (by simp)
                    · rw [if_neg c57] at H
                      have c57b0 : decide (x13_3 < (t279.length : Int)) = false := decide_eq_false c57
                      clear c57
                      by_cases c74 : (t297 == 0 && (t298.toList == ([] : List UInt8) && (t299 == 0))) = true
                      · rw [if_pos c74] at H
                        have c74b0 : (t297 == 0 && (t298.toList == ([] : List UInt8) && (t299 == 0))) = true := c74
                        have c74b0e := c74b0
                        simp only [show ∀ l : List UInt8, (l == ([] : List UInt8)) = l.isEmpty from fun l => by cases l <;> rfl] at c74b0e
                        (try (have c74b1 : decide (t297 = 0 && (t298.toList == ([] : List UInt8) && (t299 == 0))) = true := by simpa using c74))
                        (try (have c74b2 : (t297 == 0 && (t298.toList == ([] : List UInt8) && (t299 == 0))) = true := by simpa using c74))
                        clear c74
                        replace H := Option.bind_eq_some_iff.mp H
                        obtain ⟨t301, A750, H⟩ := H
                        replace H : (if t301 = true then ((tree_Check.f k3 t279).bind fun bt302 => (if (bt302.1 == 0 && (bt302.2.1.toList == ([] : List UInt8) && (bt302.2.2 == 0))) = true then (if (t279.length : Int) ≥ (t273.length : Int) then (some (decide ((t279.length : Int) ≥ (t276.length : Int)))) else (some false)) else (some false))) else (some false)) = some r := H
                        have A75 := Aside0.mk A750
                        clear A750
                        by_cases c76 : t301 = true
                        · subst c76
                          have H1 : ((tree_Check.f k3 t279).bind fun bt302 => (if (bt302.1 == 0 && (bt302.2.1.toList == ([] : List UInt8) && (bt302.2.2 == 0))) = true then (if (t279.length : Int) ≥ (t273.length : Int) then (some (decide ((t279.length : Int) ≥ (t276.length : Int)))) else (some false)) else (some false))) = some r := by rw [if_pos rfl] at H; exact H
                          clear H
                          have H := H1
                          clear H1
                          replace H := Option.bind_eq_some_iff.mp H
                          obtain ⟨⟨t302, t303, t304⟩, A770, H⟩ := H
                          replace H : (if (t302 == 0 && (t303.toList == ([] : List UInt8) && (t304 == 0))) = true then (if (t279.length : Int) ≥ (t273.length : Int) then (some (decide ((t279.length : Int) ≥ (t276.length : Int)))) else (some false)) else (some false)) = some r := H
                          have A77 := Aside0.mk A770
                          clear A770
                          by_cases c78 : (t302 == 0 && (t303.toList == ([] : List UInt8) && (t304 == 0))) = true
                          · rw [if_pos c78] at H
                            have c78b0 : (t302 == 0 && (t303.toList == ([] : List UInt8) && (t304 == 0))) = true := c78
                            have c78b0e := c78b0
                            simp only [show ∀ l : List UInt8, (l == ([] : List UInt8)) = l.isEmpty from fun l => by cases l <;> rfl] at c78b0e
                            (try (have c78b1 : decide (t302 = 0 && (t303.toList == ([] : List UInt8) && (t304 == 0))) = true := by simpa using c78))
                            (try (have c78b2 : (t302 == 0 && (t303.toList == ([] : List UInt8) && (t304 == 0))) = true := by simpa using c78))
                            clear c78
                            by_cases c79 : (t279.length : Int) ≥ (t273.length : Int)
                            · rw [if_pos c79] at H
                              have c79b0 : decide ((t273.length : Int) ≤ (t279.length : Int)) = true := decide_eq_true c79
                              have c79b1 : decide (t273.length ≤ t279.length) = true := decide_eq_true (Int.ofNat_le.mp c79)
                              clear c79
                              obtain rfl := Option.some.inj H
                              obtain ⟨Ao80, co80, eo80⟩ := Kd.R_slice HO_7.out
                              subst eo80
                              have hnb81 := NB300_285.out
                              have hnc81 := NB285_300.out
                              have hnb82 := NB300_292.out
                              have hnc82 := NB292_300.out
                              have hcz83_0 : wr.cell? ⟨gb300, 0, none⟩ = some (.int .i64 t297) := (blk_cell BK300.out 0).trans rfl
                              have hcz83_1 : wr.cell? ⟨gb300, 1, none⟩ = some (.string t298) := (blk_cell BK300.out 1).trans rfl
                              have hcz83_2 : wr.cell? ⟨gb300, 2, none⟩ = some (.int .i64 t299) := (blk_cell BK300.out 2).trans rfl
                              have hfz83_0 := blk_frozen BK300.out 0
                              have hfz83_1 := blk_frozen BK300.out 1
                              have hfz83_2 := blk_frozen BK300.out 2
                              obtain ⟨Ao84, co84, eo84⟩ := Kd.R_slice HO_11.out
                              subst eo84
                              go_wp2_with (first | (go_at_call 16; (with_reducible refine (graftbedref02_Same.calls k3 _ _ t279 _ _ t294 true _ ?side1 ?side2 ?side3 ?side4 A75.out).mono ?_); (case side1 => repeat (first | exact (Kd.R_reads' HO_7.out).2.2 | (with_reducible refine Kd.C_alloc ?_ _) | (with_reducible refine Kd.C_drewN ?_ _) | (with_reducible refine Kd.C_drew ?_))); (case side2 => exact (Kd.R_reads' HO_7.out).2.1); (case side3 => repeat (first | exact (Kd.R_reads' HO_11.out).2.2 | (with_reducible refine Kd.C_alloc ?_ _) | (with_reducible refine Kd.C_drewN ?_ _) | (with_reducible refine Kd.C_drew ?_))); (case side4 => exact (Kd.R_reads' HO_11.out).2.1); rintro e w' ⟨rfl, ⟨nd, rfl⟩⟩) | (go_at_call 18; (with_reducible refine (tree_Check.calls k3 _ _ t279 t302 t303 t304 _ ?side1 ?side2 A77.out).mono ?_); (case side1 => repeat (first | exact (Kd.R_reads' HO_7.out).2.2 | (with_reducible refine Kd.C_alloc ?_ _) | (with_reducible refine Kd.C_drewN ?_ _) | (with_reducible refine Kd.C_drew ?_))); (case side2 => exact (Kd.R_reads' HO_7.out).2.1); rintro e w85 ⟨rfl, hb⟩; have n0_ := Aside0.mk (Kd.R_below (by (with_reducible repeat (first | apply Kd.R_alloc | apply Kd.R_drewN | apply Kd.R_drew)); exact HO_5.out) hb); have n1_ := Aside0.mk (Kd.R_below (by (with_reducible repeat (first | apply Kd.R_alloc | apply Kd.R_drewN | apply Kd.R_drew)); exact HO_6.out) hb); have n2_ := Aside0.mk (Kd.R_below (by (with_reducible repeat (first | apply Kd.R_alloc | apply Kd.R_drewN | apply Kd.R_drew)); exact HO_7.out) hb); have n3_ := Aside0.mk (Kd.R_below (by (with_reducible repeat (first | apply Kd.R_alloc | apply Kd.R_drewN | apply Kd.R_drew)); exact HO_11.out) hb); have n4_ := Aside0.mk (blk_below (g := gb285) (o := .cells #[.int .i64 t282, .string t283, .int .i64 t284] 33 (0, 0)) (by (with_reducible repeat (first | refine blk_drewN ?_ _ | refine blk_drew ?_ | refine blk_alloc ?_ _)); exact BK285.out) hb); have n5_ := Aside0.mk (blk_below (g := gb292) (o := .cells #[.int .i64 t289, .string t290, .int .i64 t291] 33 (0, 0)) (by (with_reducible repeat (first | refine blk_drewN ?_ _ | refine blk_drew ?_ | refine blk_alloc ?_ _)); exact BK292.out) hb); have n6_ := Aside0.mk (blk_below (g := gb300) (o := .cells #[.int .i64 t297, .string t298, .int .i64 t299] 33 (0, 0)) (by (with_reducible repeat (first | refine blk_drewN ?_ _ | refine blk_drew ?_ | refine blk_alloc ?_ _)); exact BK300.out) hb); have n7_ := Aside0.mk (below_step (by repeat (first | (with_reducible first | exact HB.out | apply below_alloc | apply pw_below_drewN | apply below_drew1 | refine below_set ?_ GE285.out | refine below_set ?_ GE292.out | refine below_set ?_ GE300.out) | exact HB.out)) hb); clear HO_5; clear HO_6; clear HO_7; clear HO_11; clear BK285; clear BK292; clear BK300; clear HB; have HO_5 := n0_; have HO_6 := n1_; have HO_7 := n2_; have HO_11 := n3_; have BK285 := n4_; have BK292 := n5_; have BK300 := n6_; have HB := n7_; clear n0_ n1_ n2_ n3_ n4_ n5_ n6_ n7_; (try clear hb); (try clear hb2); (try clear hk); (try clear hi)))
                              go_ret
                              exact ⟨by first | rfl | (simp [errW_none, errW_some] <;> rfl) | (simp [*, errW_none, errW_some] <;> rfl), by repeat (first | (with_reducible first | exact HB.out | apply below_alloc | apply pw_below_drewN | apply below_drew1 | refine below_set ?_ GE285.out | refine below_set ?_ GE292.out | refine below_set ?_ GE300.out) | exact HB.out)⟩
                            · rw [if_neg c79] at H
                              have c79b0 : decide ((t273.length : Int) ≤ (t279.length : Int)) = false := decide_eq_false c79
                              have c79b1 : decide (t273.length ≤ t279.length) = false := decide_eq_false (fun h => c79 (Int.ofNat_le.mpr h))
                              clear c79
                              obtain rfl := Option.some.inj H
                              obtain ⟨Ao86, co86, eo86⟩ := Kd.R_slice HO_7.out
                              subst eo86
                              have hnb87 := NB300_285.out
                              have hnc87 := NB285_300.out
                              have hnb88 := NB300_292.out
                              have hnc88 := NB292_300.out
                              have hcz89_0 : wr.cell? ⟨gb300, 0, none⟩ = some (.int .i64 t297) := (blk_cell BK300.out 0).trans rfl
                              have hcz89_1 : wr.cell? ⟨gb300, 1, none⟩ = some (.string t298) := (blk_cell BK300.out 1).trans rfl
                              have hcz89_2 : wr.cell? ⟨gb300, 2, none⟩ = some (.int .i64 t299) := (blk_cell BK300.out 2).trans rfl
                              have hfz89_0 := blk_frozen BK300.out 0
                              have hfz89_1 := blk_frozen BK300.out 1
                              have hfz89_2 := blk_frozen BK300.out 2
                              obtain ⟨Ao90, co90, eo90⟩ := Kd.R_slice HO_11.out
                              subst eo90
                              go_wp2_with (first | (go_at_call 16; (with_reducible refine (graftbedref02_Same.calls k3 _ _ t279 _ _ t294 true _ ?side1 ?side2 ?side3 ?side4 A75.out).mono ?_); (case side1 => repeat (first | exact (Kd.R_reads' HO_7.out).2.2 | (with_reducible refine Kd.C_alloc ?_ _) | (with_reducible refine Kd.C_drewN ?_ _) | (with_reducible refine Kd.C_drew ?_))); (case side2 => exact (Kd.R_reads' HO_7.out).2.1); (case side3 => repeat (first | exact (Kd.R_reads' HO_11.out).2.2 | (with_reducible refine Kd.C_alloc ?_ _) | (with_reducible refine Kd.C_drewN ?_ _) | (with_reducible refine Kd.C_drew ?_))); (case side4 => exact (Kd.R_reads' HO_11.out).2.1); rintro e w' ⟨rfl, ⟨nd, rfl⟩⟩) | (go_at_call 18; (with_reducible refine (tree_Check.calls k3 _ _ t279 t302 t303 t304 _ ?side1 ?side2 A77.out).mono ?_); (case side1 => repeat (first | exact (Kd.R_reads' HO_7.out).2.2 | (with_reducible refine Kd.C_alloc ?_ _) | (with_reducible refine Kd.C_drewN ?_ _) | (with_reducible refine Kd.C_drew ?_))); (case side2 => exact (Kd.R_reads' HO_7.out).2.1); rintro e w91 ⟨rfl, hb⟩; have n0_ := Aside0.mk (Kd.R_below (by (with_reducible repeat (first | apply Kd.R_alloc | apply Kd.R_drewN | apply Kd.R_drew)); exact HO_5.out) hb); have n1_ := Aside0.mk (Kd.R_below (by (with_reducible repeat (first | apply Kd.R_alloc | apply Kd.R_drewN | apply Kd.R_drew)); exact HO_6.out) hb); have n2_ := Aside0.mk (Kd.R_below (by (with_reducible repeat (first | apply Kd.R_alloc | apply Kd.R_drewN | apply Kd.R_drew)); exact HO_7.out) hb); have n3_ := Aside0.mk (Kd.R_below (by (with_reducible repeat (first | apply Kd.R_alloc | apply Kd.R_drewN | apply Kd.R_drew)); exact HO_11.out) hb); have n4_ := Aside0.mk (blk_below (g := gb285) (o := .cells #[.int .i64 t282, .string t283, .int .i64 t284] 33 (0, 0)) (by (with_reducible repeat (first | refine blk_drewN ?_ _ | refine blk_drew ?_ | refine blk_alloc ?_ _)); exact BK285.out) hb); have n5_ := Aside0.mk (blk_below (g := gb292) (o := .cells #[.int .i64 t289, .string t290, .int .i64 t291] 33 (0, 0)) (by (with_reducible repeat (first | refine blk_drewN ?_ _ | refine blk_drew ?_ | refine blk_alloc ?_ _)); exact BK292.out) hb); have n6_ := Aside0.mk (blk_below (g := gb300) (o := .cells #[.int .i64 t297, .string t298, .int .i64 t299] 33 (0, 0)) (by (with_reducible repeat (first | refine blk_drewN ?_ _ | refine blk_drew ?_ | refine blk_alloc ?_ _)); exact BK300.out) hb); have n7_ := Aside0.mk (below_step (by repeat (first | (with_reducible first | exact HB.out | apply below_alloc | apply pw_below_drewN | apply below_drew1 | refine below_set ?_ GE285.out | refine below_set ?_ GE292.out | refine below_set ?_ GE300.out) | exact HB.out)) hb); clear HO_5; clear HO_6; clear HO_7; clear HO_11; clear BK285; clear BK292; clear BK300; clear HB; have HO_5 := n0_; have HO_6 := n1_; have HO_7 := n2_; have HO_11 := n3_; have BK285 := n4_; have BK292 := n5_; have BK300 := n6_; have HB := n7_; clear n0_ n1_ n2_ n3_ n4_ n5_ n6_ n7_; (try clear hb); (try clear hb2); (try clear hk); (try clear hi)))
                              go_ret
                              exact ⟨by first | rfl | (simp [errW_none, errW_some] <;> rfl) | (simp [*, errW_none, errW_some] <;> rfl), by repeat (first | (with_reducible first | exact HB.out | apply below_alloc | apply pw_below_drewN | apply below_drew1 | refine below_set ?_ GE285.out | refine below_set ?_ GE292.out | refine below_set ?_ GE300.out) | exact HB.out)⟩
                          · rw [if_neg c78] at H
                            have c78b0 : (t302 == 0 && (t303.toList == ([] : List UInt8) && (t304 == 0))) = false := by simpa using c78
                            have c78b0e := c78b0
                            simp only [show ∀ l : List UInt8, (l == ([] : List UInt8)) = l.isEmpty from fun l => by cases l <;> rfl] at c78b0e
                            (try (have c78b1 : decide (t302 = 0 && (t303.toList == ([] : List UInt8) && (t304 == 0))) = false := by simpa using c78))
                            (try (have c78b2 : (t302 == 0 && (t303.toList == ([] : List UInt8) && (t304 == 0))) = false := by simpa using c78))
                            (try (have c78b3 : ¬ (t302 = 0 && (t303.toList == ([] : List UInt8) && (t304 == 0))) := by simpa using c78))
                            clear c78
                            obtain rfl := Option.some.inj H
                            obtain ⟨Ao92, co92, eo92⟩ := Kd.R_slice HO_7.out
                            subst eo92
                            have hnb93 := NB300_285.out
                            have hnc93 := NB285_300.out
                            have hnb94 := NB300_292.out
                            have hnc94 := NB292_300.out
                            have hcz95_0 : wr.cell? ⟨gb300, 0, none⟩ = some (.int .i64 t297) := (blk_cell BK300.out 0).trans rfl
                            have hcz95_1 : wr.cell? ⟨gb300, 1, none⟩ = some (.string t298) := (blk_cell BK300.out 1).trans rfl
                            have hcz95_2 : wr.cell? ⟨gb300, 2, none⟩ = some (.int .i64 t299) := (blk_cell BK300.out 2).trans rfl
                            have hfz95_0 := blk_frozen BK300.out 0
                            have hfz95_1 := blk_frozen BK300.out 1
                            have hfz95_2 := blk_frozen BK300.out 2
                            obtain ⟨Ao96, co96, eo96⟩ := Kd.R_slice HO_11.out
                            subst eo96
                            go_wp2_with (first | (go_at_call 16; (with_reducible refine (graftbedref02_Same.calls k3 _ _ t279 _ _ t294 true _ ?side1 ?side2 ?side3 ?side4 A75.out).mono ?_); (case side1 => repeat (first | exact (Kd.R_reads' HO_7.out).2.2 | (with_reducible refine Kd.C_alloc ?_ _) | (with_reducible refine Kd.C_drewN ?_ _) | (with_reducible refine Kd.C_drew ?_))); (case side2 => exact (Kd.R_reads' HO_7.out).2.1); (case side3 => repeat (first | exact (Kd.R_reads' HO_11.out).2.2 | (with_reducible refine Kd.C_alloc ?_ _) | (with_reducible refine Kd.C_drewN ?_ _) | (with_reducible refine Kd.C_drew ?_))); (case side4 => exact (Kd.R_reads' HO_11.out).2.1); rintro e w' ⟨rfl, ⟨nd, rfl⟩⟩) | (go_at_call 18; (with_reducible refine (tree_Check.calls k3 _ _ t279 t302 t303 t304 _ ?side1 ?side2 A77.out).mono ?_); (case side1 => repeat (first | exact (Kd.R_reads' HO_7.out).2.2 | (with_reducible refine Kd.C_alloc ?_ _) | (with_reducible refine Kd.C_drewN ?_ _) | (with_reducible refine Kd.C_drew ?_))); (case side2 => exact (Kd.R_reads' HO_7.out).2.1); rintro e w97 ⟨rfl, hb⟩; have n0_ := Aside0.mk (Kd.R_below (by (with_reducible repeat (first | apply Kd.R_alloc | apply Kd.R_drewN | apply Kd.R_drew)); exact HO_5.out) hb); have n1_ := Aside0.mk (Kd.R_below (by (with_reducible repeat (first | apply Kd.R_alloc | apply Kd.R_drewN | apply Kd.R_drew)); exact HO_6.out) hb); have n2_ := Aside0.mk (Kd.R_below (by (with_reducible repeat (first | apply Kd.R_alloc | apply Kd.R_drewN | apply Kd.R_drew)); exact HO_7.out) hb); have n3_ := Aside0.mk (Kd.R_below (by (with_reducible repeat (first | apply Kd.R_alloc | apply Kd.R_drewN | apply Kd.R_drew)); exact HO_11.out) hb); have n4_ := Aside0.mk (blk_below (g := gb285) (o := .cells #[.int .i64 t282, .string t283, .int .i64 t284] 33 (0, 0)) (by (with_reducible repeat (first | refine blk_drewN ?_ _ | refine blk_drew ?_ | refine blk_alloc ?_ _)); exact BK285.out) hb); have n5_ := Aside0.mk (blk_below (g := gb292) (o := .cells #[.int .i64 t289, .string t290, .int .i64 t291] 33 (0, 0)) (by (with_reducible repeat (first | refine blk_drewN ?_ _ | refine blk_drew ?_ | refine blk_alloc ?_ _)); exact BK292.out) hb); have n6_ := Aside0.mk (blk_below (g := gb300) (o := .cells #[.int .i64 t297, .string t298, .int .i64 t299] 33 (0, 0)) (by (with_reducible repeat (first | refine blk_drewN ?_ _ | refine blk_drew ?_ | refine blk_alloc ?_ _)); exact BK300.out) hb); have n7_ := Aside0.mk (below_step (by repeat (first | (with_reducible first | exact HB.out | apply below_alloc | apply pw_below_drewN | apply below_drew1 | refine below_set ?_ GE285.out | refine below_set ?_ GE292.out | refine below_set ?_ GE300.out) | exact HB.out)) hb); clear HO_5; clear HO_6; clear HO_7; clear HO_11; clear BK285; clear BK292; clear BK300; clear HB; have HO_5 := n0_; have HO_6 := n1_; have HO_7 := n2_; have HO_11 := n3_; have BK285 := n4_; have BK292 := n5_; have BK300 := n6_; have HB := n7_; clear n0_ n1_ n2_ n3_ n4_ n5_ n6_ n7_; (try clear hb); (try clear hb2); (try clear hk); (try clear hi)))
                            go_ret
                            exact ⟨by first | rfl | (simp [errW_none, errW_some] <;> rfl) | (simp [*, errW_none, errW_some] <;> rfl), by repeat (first | (with_reducible first | exact HB.out | apply below_alloc | apply pw_below_drewN | apply below_drew1 | refine below_set ?_ GE285.out | refine below_set ?_ GE292.out | refine below_set ?_ GE300.out) | exact HB.out)⟩
                        · replace c76 := Bool.eq_false_iff.mpr c76
                          subst c76
                          have H1 : (some false) = some r := by rw [if_neg (show ¬ (false = true) by decide)] at H; exact H
                          clear H
                          have H := H1
                          clear H1
                          obtain rfl := Option.some.inj H
                          obtain ⟨Ao98, co98, eo98⟩ := Kd.R_slice HO_7.out
                          subst eo98
                          have hnb99 := NB300_285.out
                          have hnc99 := NB285_300.out
                          have hnb100 := NB300_292.out
                          have hnc100 := NB292_300.out
                          have hcz101_0 : wr.cell? ⟨gb300, 0, none⟩ = some (.int .i64 t297) := (blk_cell BK300.out 0).trans rfl
                          have hcz101_1 : wr.cell? ⟨gb300, 1, none⟩ = some (.string t298) := (blk_cell BK300.out 1).trans rfl
                          have hcz101_2 : wr.cell? ⟨gb300, 2, none⟩ = some (.int .i64 t299) := (blk_cell BK300.out 2).trans rfl
                          have hfz101_0 := blk_frozen BK300.out 0
                          have hfz101_1 := blk_frozen BK300.out 1
                          have hfz101_2 := blk_frozen BK300.out 2
                          obtain ⟨Ao102, co102, eo102⟩ := Kd.R_slice HO_11.out
                          subst eo102
                          go_wp2_with (first | (go_at_call 16; (with_reducible refine (graftbedref02_Same.calls k3 _ _ t279 _ _ t294 false _ ?side1 ?side2 ?side3 ?side4 A75.out).mono ?_); (case side1 => repeat (first | exact (Kd.R_reads' HO_7.out).2.2 | (with_reducible refine Kd.C_alloc ?_ _) | (with_reducible refine Kd.C_drewN ?_ _) | (with_reducible refine Kd.C_drew ?_))); (case side2 => exact (Kd.R_reads' HO_7.out).2.1); (case side3 => repeat (first | exact (Kd.R_reads' HO_11.out).2.2 | (with_reducible refine Kd.C_alloc ?_ _) | (with_reducible refine Kd.C_drewN ?_ _) | (with_reducible refine Kd.C_drew ?_))); (case side4 => exact (Kd.R_reads' HO_11.out).2.1); rintro e w' ⟨rfl, ⟨nd, rfl⟩⟩))
                          go_ret
                          exact ⟨by first | rfl | (simp [errW_none, errW_some] <;> rfl) | (simp [*, errW_none, errW_some] <;> rfl), by repeat (first | (with_reducible first | exact HB.out | apply below_alloc | apply pw_below_drewN | apply below_drew1 | refine below_set ?_ GE285.out | refine below_set ?_ GE292.out | refine below_set ?_ GE300.out) | exact HB.out)⟩
                      · rw [if_neg c74] at H
                        have c74b0 : (t297 == 0 && (t298.toList == ([] : List UInt8) && (t299 == 0))) = false := by simpa using c74
                        have c74b0e := c74b0
                        simp only [show ∀ l : List UInt8, (l == ([] : List UInt8)) = l.isEmpty from fun l => by cases l <;> rfl] at c74b0e
                        (try (have c74b1 : decide (t297 = 0 && (t298.toList == ([] : List UInt8) && (t299 == 0))) = false := by simpa using c74))
                        (try (have c74b2 : (t297 == 0 && (t298.toList == ([] : List UInt8) && (t299 == 0))) = false := by simpa using c74))
                        (try (have c74b3 : ¬ (t297 = 0 && (t298.toList == ([] : List UInt8) && (t299 == 0))) := by simpa using c74))
                        clear c74
                        obtain rfl := Option.some.inj H
                        obtain ⟨Ao103, co103, eo103⟩ := Kd.R_slice HO_7.out
                        subst eo103
                        have hnb104 := NB300_285.out
                        have hnc104 := NB285_300.out
                        have hnb105 := NB300_292.out
                        have hnc105 := NB292_300.out
                        have hcz106_0 : wr.cell? ⟨gb300, 0, none⟩ = some (.int .i64 t297) := (blk_cell BK300.out 0).trans rfl
                        have hcz106_1 : wr.cell? ⟨gb300, 1, none⟩ = some (.string t298) := (blk_cell BK300.out 1).trans rfl
                        have hcz106_2 : wr.cell? ⟨gb300, 2, none⟩ = some (.int .i64 t299) := (blk_cell BK300.out 2).trans rfl
                        have hfz106_0 := blk_frozen BK300.out 0
                        have hfz106_1 := blk_frozen BK300.out 1
                        have hfz106_2 := blk_frozen BK300.out 2
                        go_wp2
                        go_ret
                        exact ⟨by first | rfl | (simp [errW_none, errW_some] <;> rfl) | (simp [*, errW_none, errW_some] <;> rfl), by repeat (first | (with_reducible first | exact HB.out | apply below_alloc | apply pw_below_drewN | apply below_drew1 | refine below_set ?_ GE285.out | refine below_set ?_ GE292.out | refine below_set ?_ GE300.out) | exact HB.out)⟩
end Go.Proofs.Ytbbhmjokiejnmaa.Hy

