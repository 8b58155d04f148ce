/- slices.Clone over files; tree.files: a sorted list of a tree's files in new memory. -/
import Derived.Test.YtbbhmjokiejnmaaQNAt
import Derived.Lib.SliceRun
namespace Go.Proofs.Ytbbhmjokiejnmaa
open Go Go.RowKit Go.Proofs.Ytbbhmjokiejnmaa.Hy Go.Proofs.YtbbhmjokiejnmaaW.PrintWords
set_option linter.unusedVariables false
set_option maxHeartbeats 2000000 in
set_option maxRecDepth 100000 in
theorem clone_calls (A : Option Addr) (c : Nat) (l : List File) (w : World) (hr : Kd.C k29 w A l.length l) (hl : l.length ≤ 1048576) :
    Calls Try.prog 61 #[.slice A l.length c] w fun e w' => ∃ v : Value, e = .returned v ∧ Kd.R k29 29 w' w.heap.size (fun _ => True) v l ∧ Below w.heap.size w w' := by
  have HR := Lib.hid hr
  have mixed : ∀ (w : World) (a : Option Addr) (n c n' c' : Nat), (binOp .eql 22 (.slice a n c) (.slice none n' c')).run Try.prog w = .ok (.bool a.isNone) w := fun w a n c n' c' => Lib.run_eql_slice_nil w 22 29 a n c n' c' Try.underlying22
  cases A with
  | none =>
    have h0 : l = [] := by
      rcases Nat.eq_zero_or_pos l.length with h | h
      · exact List.eq_nil_of_length_eq_zero h
      · obtain ⟨ad, h, _⟩ := hr.2.2 h
        cases h
    subst h0
    clear hr
    go_enter Try.func61, Try.ntmps61
    go_wp2
    go_ret
    exact ⟨_, rfl, ⟨by simp [Value.ownBlock], [], own_nil _ _ _ _, Reps.none _ _⟩, Below.refl _ _⟩
  | some a =>
    clear hr
    go_enter Try.func61, Try.ntmps61
    go_wp2_with (first
      | ((with_reducible refine gate_dst (N := 5) rfl ?_); refine Kd.R_lit k29 (w0 := w) w.heap.size 29 ?hg (N := 5) ?hd (xs := ([] : List File)) (inner := []) (ok := fun _ => True) (okp := fun _ => True) ?hr ?hp (fun _ hk => hk) trivial (Below.refl _ _) (Nat.le_refl _) (by simp) ?_; (case hd => rfl); (case hg => rfl); (case hr => first | (go_simp; done) | (go_simp; rfl)); (case hp => exact (Reps.none _ _)); intro v1 w1 ho1 hb1 _ _)
      | ((with_reducible refine gate_builtin (b := .append) (xs := #[.tmp 5, .tmp 6]) rfl ?_); at_builtin; refine Kd.R_append_rows k29 (w0 := w) w.heap.size rfl (.tmp 5) (.tmp 6) 22 29 (.agg #[(.string ⟨#[]⟩), (.string ⟨#[]⟩)]) 32 rfl Try.underlying22 info29 rfl (by decide) (by omega) v1 [] l _ _ _ (fun _ => True) (fun _ => False) rfl rfl ho1 (Kd.C_below HR.out hb1) (fun _ _ h => h) (fun _ h => h.elim) (fun _ _ => trivial) hb1 hb1.size (by simp; omega) ?_; intro v2 w2 ho2 hb2 _ _))
    go_ret
    exact ⟨v2, rfl, ho2, hb2⟩
/-- A sorted list at g whose slice is v, the files l in it: all in memory of its own. -/
def SortedOwn (w : World) (base g : Nat) (v : Value) (l : List File) : Prop :=
  base ≤ g ∧ SortedAt w g v ∧ Kd.R k29 29 w base (fun k => k ≠ g) v l
set_option maxHeartbeats 2000000 in
set_option maxRecDepth 100000 in
theorem files_calls (A : Option Addr) (c : Nat) (l : List File) (w : World) (hr : Kd.C k29 w A l.length l) (hl : l.length ≤ 1048576) :
    Calls Try.prog 39 #[.slice A l.length c] w fun e w' => ∃ (v : Value) (g : Nat), e = .returned (.pointer (some ⟨g, 0, none⟩)) ∧ SortedOwn w' w.heap.size g v l ∧ Below w.heap.size w w' := by
  have HC := Lib.hid (clone_calls A c l w hr hl)
  clear hr
  go_enter Try.func39, Try.ntmps39
  go_wp2_with (go_at_call 61; refine HC.out.mono ?_; rintro e w' ⟨v, rfl, hR, hB⟩; obtain ⟨Av, cv, rfl⟩ := Kd.R_slice hR)
  go_ret
  have hR' := Kd.R_bound hR
  exact ⟨.slice Av l.length cv, w'.heap.size, rfl, ⟨hB.size, Array.getElem?_push_size, Kd.R_mono (Kd.R_alloc hR' _) (fun k hk => by omega)⟩, hB.alloc hB.size _⟩
end Go.Proofs.Ytbbhmjokiejnmaa

