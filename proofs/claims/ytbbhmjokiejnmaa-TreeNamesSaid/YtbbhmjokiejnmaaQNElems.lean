/- paths.elems: the iterator over a path's elements: its contract. -/
import Derived.Test.YtbbhmjokiejnmaaQNStr
import Derived.Test.YtbbhmjokiejnmaaQNRange
import Derived.Shelf.Abstract
import Derived.Shelf.RegionOpen
import Derived.OwnWalkIn
import Derived.TacticsInMore
import Derived.LoopNIn
import Derived.LoopIn
import Derived.BigFrameIn
namespace Go.Proofs.Ytbbhmjokiejnmaa
open Go Go.RowKit Go.Shelf
set_option maxHeartbeats 400000 in
set_option maxRecDepth 100000 in
theorem paths_elems_calls (s : ByteArray) (w : World) :
    Calls Try.prog 84 #[.string s] w fun e w' => e = .returned (.func (.func 99) #[] #[.pointer (some ⟨w.heap.size, 0, none⟩)]) ∧ w.alloc (.cells #[.string s] 9) = w' := by
  have hmf : ∀ (fn : Fn) (first cap : Array Value) (w : World), (Instr.makeFunc fn first cap).run Try.prog w = .ok (.func fn first cap) w := fun _ _ _ _ => rfl
  go_enter Try.func84, Try.ntmps84
  go_wp2
  go_ret
  exact ⟨rfl, rfl⟩
attribute [local go_sem] Oper.semAt_some
set_option maxHeartbeats 2000000 in
set_option maxRecDepth 100000 in
/-- The iterator, its text in the box B. -/
theorem paths_elems1_seq (n B : Nat) (s : ByteArray) (w : World) (hB : Boxed w B 9 (.string s)) (hs : s.size ≤ 9223372036854775807) (hn : 1 ≤ n) :
    SeqB Fence.wide n Try.prog 99 #[.pointer (some ⟨B, 0, none⟩)] (fun x : ByteArray => #[.string x]) (fun k => k = B) (B + 1) (fun xs => xs = elemsB s) (fun pre => pre <+: elemsB s) (elemsB s).length w := by
  intro l J Jx W hW hJ hJx hY h0
  have hBW : Boxed W B 9 (.string s) := (hW.block B hB.lt).trans hB
  refine callsIn_of_wp Try.func99 rfl trivial ?_ rfl
  simp only [Try.ntmps99, List.size_toArray, List.length_cons, List.length_nil, Nat.reduceAdd, Nat.reduceSub, Array.replicate_succ, Array.replicate_zero, List.push_toArray, List.append_toArray, List.nil_append, List.cons_append]
  have hc := hBW.cell
  gi_wp2
  gi_loopw [3] (fun m wr => ∃ (pre : List ByteArray) (r : ByteArray) (more : Bool), m = .bool more ∧ r.size ≤ s.size ∧ Boxed wr B 9 (.string r) ∧ Hid (elemsB s = pre ++ (if more then splitB 47 r else [])) ∧ J pre wr)
    (fun m wr => (match m with | .bool true => 1 | _ => 0) + (match wr.cell? ⟨B, 0, none⟩ with | some (.string r) => r.size | _ => 0))
  case atStart =>
    refine ⟨[], s, _, rfl, Nat.le_refl _, hBW, ?_, h0⟩
    refine Lib.hid ?_
    unfold elemsB
    rw [Lib.toList_data]
    by_cases he : s.data.toList = []
    · rw [if_pos he, he]; simp
    · rw [if_neg he]; cases hd : s.data.toList with
      | nil => exact absurd hd he
      | cons a t => simp
  case round =>
    obtain ⟨pre, r, more, rfl, hrs, hb, hX, hJp⟩ := hrel
    have hcr := hb.cell
    have hfr := hb.frozen
    cases more with
    | false =>
      have hx := hX.out
      clear hX
      simp only [Bool.false_eq_true, if_false, List.append_nil] at hx
      have HX := Lib.hid hx
      clear hx
      gi_wp2
      go_end0
      exact ⟨⟨_, rfl⟩, .inl ⟨pre, HX.out.symm, hJp⟩⟩
    | true =>
      have hx := hX.out
      clear hX
      simp only [if_true] at hx
      have hsz := cutB_size 47 r
      rw [splitB_cut] at hx
      have HX := Lib.hid hx
      clear hx
      obtain ⟨c1, c2, c3⟩ := hsz
      have HC := Lib.hid c3
      clear c3
      gi_wp2_with (refine ⟨trivial, ?_⟩; gi_at_call 54; refine (callsIn_wide.2 (strings_Cut1 r 47 wr (by omega))).mono ?_; rintro e w' ⟨rfl, nd, rfl⟩)
      have hW1 : Turned (fun k => k = B) wr ((wr.drewN nd).setCell ⟨B, 0, none⟩ (.string (cutB 47 r).2.1)) := (Turned.drewN wr nd).trans (Turned.setCell _ _ _ rfl)
      have hlen : pre.length < (elemsB s).length := by rw [HX.out]; simp
      have hb1 : Boxed ((wr.drewN nd).setCell ⟨B, 0, none⟩ (.string (cutB 47 r).2.1)) B 9 (.string (cutB 47 r).2.1) := Boxed.set _ (show Boxed (wr.drewN nd) B 9 (.string r) from hb)
      obtain ⟨fn, tmps, assign, body, hy, hR⟩ := hY pre (cutB 47 r).1 _ (hJ _ _ _ hJp hW1) hlen
      clear hlen
      rw [hy]
      gi_wp2
      refine hR.mono ?_
      rintro e W3 (⟨rfl, hJ3, hk3⟩ | ⟨rfl, hJx3⟩)
      · have hb3 : Boxed W3 B 9 (.string (cutB 47 r).2.1) := (hk3.block B (by omega)).trans hb1
        have hm1 := hb3.cell
        have hm2 := hcr
        gi_wp2
        go_roundw
        case rel =>
          refine ⟨pre ++ [(cutB 47 r).1], (cutB 47 r).2.1, _, rfl, by omega, hb3, Lib.hid ?_, hJ3⟩
          rw [HX.out]; simp
        case measure =>
          rw [hm1, hm2]
          have := HC.out
          cases hf : (cutB 47 r).2.2 with
          | true => have := this hf; simp; omega
          | false =>
            have hz : (cutB 47 r).2.1.size = 0 := by
              unfold cutB at hf ⊢
              split
              · rename_i hh; rw [if_pos hh] at hf; cases hf
              · rfl
            simp [hz]; omega
      · gi_wp2
        refine bodyPost_ret (results_none rfl _ _ _) rfl ?_
        refine ⟨⟨_, rfl⟩, .inr ⟨pre ++ [(cutB 47 r).1], ?_, hJx3⟩⟩
        rw [HX.out]
        exact ⟨_, by rw [List.append_assoc]; rfl⟩
end Go.Proofs.Ytbbhmjokiejnmaa

