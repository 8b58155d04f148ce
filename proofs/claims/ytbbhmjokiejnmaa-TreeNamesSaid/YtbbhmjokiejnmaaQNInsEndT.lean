/- slices.Insert over files, at the end. -/
import Derived.Test.YtbbhmjokiejnmaaQNOwnT
import Derived.Test.YtbbhmjokiejnmaaQNInsEnd
import Derived.Laws.Externs
import Derived.Laws.NewBlocks
namespace Go.Proofs.Ytbbhmjokiejnmaa
open Go Go.RowKit Go.Proofs.Ytbbhmjokiejnmaa.Hy Go.Proofs.YtbbhmjokiejnmaaW.PrintWords
set_option linter.unusedVariables false
/-- What a row's writer leaves: the row v' holds l, in the place of v; all other blocks are as they were. -/
def InsPostT (w w' : World) (base : Nat) (v v' : Value) (l : List ByteArray) : Prop :=
  OwnFT w' base v' l ∧ w.grownBy w' v.ownBlock ∧ (v'.ownBlock = v.ownBlock ∨ ∃ b, v'.ownBlock = some b ∧ w.heap.size ≤ b)
theorem cells2_readT {w : World} {vb : Nat} {x : ByteArray} {t : TypeId} (hx : w.heap[vb]? = some (.cells #[.string x] t (0, 0))) : Kd.C Kd.string w (some ⟨vb, 0, none⟩) [x].length [x] := by
  refine ⟨rfl, by simp, fun _ => ⟨_, rfl, fun j p hj => ?_⟩⟩
  cases j with
  | zero =>
    simp only [List.getElem?_cons_zero, Option.some.injEq] at hj
    subst hj
    refine ⟨[.string x], rfl, rfl, fun q u hq => ?_⟩
    rcases q with _ | q
    · simp only [List.getElem?_cons_zero, Option.some.injEq] at hq; subst hq; simp [World.cell?, Addr.add, hx]
    · simp at hq
  | succ j => simp at hj
set_option maxHeartbeats 4000000 in
set_option maxRecDepth 100000 in
theorem insert_end_callsT (A : Option Addr) (c : Nat) (l : List ByteArray) (x : ByteArray) (base vb : Nat) (w : World) (HO : OwnFT w base (.slice A l.length c) l) (hlc : l.length ≤ c) (hx : w.heap[vb]? = some (.cells #[.string x] 9 (0, 0))) (hl : l.length ≤ 1048577) (hb : base ≤ w.heap.size) :
    Calls Try.prog 78 #[.slice A l.length c, .int .i64 (l.length : Int), .slice (some ⟨vb, 0, none⟩) 1 1] w fun e w' => ∃ v', e = .returned v' ∧ InsPostT w w' base (.slice A l.length c) v' (l ++ [x]) := by
  have HR := Lib.hid (R_of_ownFT (ok := fun _ => True) HO (fun _ _ => trivial))
  have HC := Lib.hid (cells2_readT hx)
  clear HO hx
  obtain ⟨i0, hi, hz0, hz1, hz2⟩ := info_parts Try.infoStr
  obtain ⟨A1, m1, c1, hc1⟩ : ∃ A' m' c', ∀ W : World, (Instr.slice 41 (.slice A l.length c) (some (.int .i64 (l.length : Int))) none none).run Try.prog W = .ok (.slice A' m' c') W := ⟨_, _, _, cut_from (P := Try.prog) 41 9 .i64 Try.underlying41 hi 1 hz1 A l.length c (l.length : Int) (by omega) (by omega)⟩
  clear hi hz0 hz1 hz2
  go_enter Try.func78, Try.ntmps78
  go_wp2_with (first
      | ((with_reducible refine gate_builtin (b := .append) (xs := #[.tmp 23, .tmp 24]) rfl ?_); at_builtin; refine Kd.R_append_rows Kd.string (w0 := w) base rfl (.tmp 23) (.tmp 24) 41 9 (.string ⟨#[]⟩) 16 rfl Try.underlying41 Try.infoStr rfl (by decide) (by omega) _ l [x] (some ⟨vb, 0, none⟩) 1 1 (fun _ => True) (fun _ => False) rfl rfl HR.out HC.out (fun _ _ h => h) (fun _ h => h.elim) (fun _ _ => trivial) (Below.refl _ _) hb (by omega) ?_; intro v2 w2 ho2 hb2 hg2 ha2))
  go_ret
  exact ⟨v2, rfl, own_of_RT ho2, hg2, ha2⟩
end Go.Proofs.Ytbbhmjokiejnmaa

