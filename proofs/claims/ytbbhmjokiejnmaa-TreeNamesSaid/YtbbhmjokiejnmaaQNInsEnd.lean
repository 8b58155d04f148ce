/- slices.Insert over files, at the end. -/
import Derived.Test.YtbbhmjokiejnmaaQNOwn
import Derived.Laws.Externs
import Derived.Laws.NewBlocks
namespace Go.Proofs.Ytbbhmjokiejnmaa
open Go Go.RowKit Go.Proofs.Ytbbhmjokiejnmaa.Hy Go.Proofs.YtbbhmjokiejnmaaW.PrintWords
set_option linter.unusedVariables false
/-- What a row's writer leaves: the row v' holds l, in the place of v; all other blocks are as they were. -/
def InsPost (w w' : World) (base : Nat) (v v' : Value) (l : List File) : Prop :=
  OwnF w' base v' l ∧ w.grownBy w' v.ownBlock ∧ (v'.ownBlock = v.ownBlock ∨ ∃ b, v'.ownBlock = some b ∧ w.heap.size ≤ b)
theorem cells2_read {w : World} {vb : Nat} {x : File} {t : TypeId} (hx : w.heap[vb]? = some (.cells #[.string x.f0, .string x.f1] t (0, 0))) : Kd.C k29 w (some ⟨vb, 0, none⟩) [x].length [x] := by
  refine ⟨rfl, by simp, fun _ => ⟨_, rfl, fun j p hj => ?_⟩⟩
  cases j with
  | zero =>
    simp only [List.getElem?_cons_zero, Option.some.injEq] at hj
    subst hj
    refine ⟨[.string x.f0, .string x.f1], rfl, k29_mk w x, fun q u hq => ?_⟩
    rcases q with _ | _ | q
    · simp only [List.getElem?_cons_zero, Option.some.injEq] at hq; subst hq; simp [World.cell?, Addr.add, hx]
    · simp only [List.getElem?_cons_succ, List.getElem?_cons_zero, Option.some.injEq] at hq; subst hq; simp [World.cell?, Addr.add, hx]
    · simp at hq
  | succ j => simp at hj
set_option maxHeartbeats 4000000 in
set_option maxRecDepth 100000 in
theorem insert_end_calls (A : Option Addr) (c : Nat) (l : List File) (x : File) (base vb : Nat) (w : World) (HO : OwnF w base (.slice A l.length c) l) (hlc : l.length ≤ c) (hx : w.heap[vb]? = some (.cells #[.string x.f0, .string x.f1] 29 (0, 0))) (hl : l.length ≤ 1048577) (hb : base ≤ w.heap.size) :
    Calls Try.prog 68 #[.slice A l.length c, .int .i64 (l.length : Int), .slice (some ⟨vb, 0, none⟩) 1 1] w fun e w' => ∃ v', e = .returned v' ∧ InsPost w w' base (.slice A l.length c) v' (l ++ [x]) := by
  have HR := Lib.hid (R_of_ownF (ok := fun _ => True) HO (fun _ _ => trivial))
  have HC := Lib.hid (cells2_read hx)
  clear HO hx
  obtain ⟨i0, hi, hz0, hz1, hz2⟩ := info_parts info29
  obtain ⟨A1, m1, c1, hc1⟩ : ∃ A' m' c', ∀ W : World, (Instr.slice 22 (.slice A l.length c) (some (.int .i64 (l.length : Int))) none none).run Try.prog W = .ok (.slice A' m' c') W := ⟨_, _, _, cut_from (P := Try.prog) 22 29 .i64 Try.underlying22 hi 2 hz1 A l.length c (l.length : Int) (by omega) (by omega)⟩
  clear hi hz0 hz1 hz2
  go_enter Try.func68, Try.ntmps68
  go_wp2_with (first
      | ((with_reducible refine gate_builtin (b := .append) (xs := #[.tmp 23, .tmp 24]) rfl ?_); at_builtin; refine Kd.R_append_rows k29 (w0 := w) base rfl (.tmp 23) (.tmp 24) 22 29 (.agg #[(.string ⟨#[]⟩), (.string ⟨#[]⟩)]) 32 rfl Try.underlying22 info29 rfl (by decide) (by omega) _ l [x] (some ⟨vb, 0, none⟩) 1 1 (fun _ => True) (fun _ => False) rfl rfl HR.out HC.out (fun _ _ h => h) (fun _ h => h.elim) (fun _ _ => trivial) (Below.refl _ _) hb (by omega) ?_; intro v2 w2 ho2 hb2 hg2 ha2))
  go_ret
  exact ⟨v2, rfl, own_of_R ho2, hg2, ha2⟩
end Go.Proofs.Ytbbhmjokiejnmaa

