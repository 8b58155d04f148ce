/- A slice of files that came in, opened. -/
import Derived.Test.YtbbhmjokiejnmaaRows
import Derived.Test.YtbbhmjokiejnmaaQNHy0
import Derived.WalkKit
import Derived.ProofKit
import Derived.OpenShut
import Derived.ShutString
import Derived.ChangeOld
import Derived.Below
import Derived.SizedLaws
import Derived.Deep.SlicePairs
import Derived.Lib.SmallJoins
namespace Go.Proofs.Ytbbhmjokiejnmaa
open Go Go.ChangeShapes Go.WideShapes Go.ChangeAt Go.RowKit Go.Deep Go.Proofs.Ytbbhmjokiejnmaa.Hy Go.Proofs.YtbbhmjokiejnmaaW.PrintWords
set_option linter.unusedVariables false
theorem ownIsNone : ownKnob Try.prog.godebug = none := by kernel_rfl
theorem laidOut : laidOutB Try.prog = true := by kernel_rfl
set_option maxRecDepth 100000 in
theorem open_files {H : Type} {enc : TypeId × Value → H} {W : World} {base : Nat} {v : Value} {d : DataW H} {p : List MemPlace} (hval : Value.okWide Try.prog W .any base 22 v) (h : DataW.Trod enc Try.prog W 0 (fun _ => true) true 22 v d p) :
    ∃ (A : Option Addr) (c : Nat) (l : List S29), v = .slice A l.length c ∧ l.length ≤ c ∧ Kd.C k29 W A l.length l := by
  obtain ⟨a, len, cap, rfl⟩ := okWide_slice Try.underlying22 hval
  obtain ⟨fuel, hf⟩ := h
  rcases open_slice_pairs Try.underlying22 Try.underlying29 (by kernel_rfl) rfl rfl (by kernel_rfl) (by kernel_rfl) hf with ⟨hcs, _⟩ | ⟨x, l, c, m, n, V0, V1, D0, D1, P0, P1, hcs, _, hl, hm, hmm, hx, hi⟩
  · simp [Value.cells] at hcs
    obtain ⟨rfl, rfl, rfl⟩ := hcs
    exact ⟨none, 0, [], rfl, Nat.le_refl _, rfl, by simp, fun h => absurd h (Nat.lt_irrefl 0)⟩
  · simp [Value.cells] at hcs
    obtain ⟨rfl, rfl, rfl⟩ := hcs
    have hmm' : m = cap := by simpa using hmm
    subst hmm'
    have hs : ∀ i, i < len → ∃ q : S29, W.cell? (x.add (i * 2)) = some (.string q.f0) ∧ W.cell? (x.add (i * 2 + 1)) = some (.string q.f1) := fun i hi' => by
      obtain ⟨h0, h1, t0, t1⟩ := hi i (by omega)
      obtain ⟨s0, e0, _⟩ := DataW.trod_string Try.underlying9 t0
      obtain ⟨s1, e1, _⟩ := DataW.trod_string Try.underlying9 t1
      simp only [List.cons.injEq, and_true] at e0 e1
      rw [e0] at h0; rw [e1] at h1
      exact ⟨⟨s0, s1⟩, h0, h1⟩
    haveI : Inhabited S29 := ⟨z29⟩
    obtain ⟨Q, hQ⟩ := choose_lt hs
    refine ⟨some x, m, (List.range len).map Q, by simp, by simpa using hl, rfl, by simp; unfold maxLen at hm; omega, fun _ => ⟨x, rfl, fun j p hj => ?_⟩⟩
    have hjl : j < len := by
      have := (List.getElem?_eq_some_iff.1 hj).1
      simpa using this
    have hp : Q j = p := by simpa [hjl] using hj
    subst hp
    refine ⟨[.string (Q j).f0, .string (Q j).f1], rfl, k29_mk W _, fun q u hq => ?_⟩
    show W.cell? (x.add (j * 2 + q)) = some u
    rcases q with _ | _ | q
    · simp only [List.getElem?_cons_zero, Option.some.injEq] at hq; subst hq; exact (hQ j hjl).1
    · simp only [List.getElem?_cons_succ, List.getElem?_cons_zero, Option.some.injEq] at hq; subst hq; exact (hQ j hjl).2
    · simp at hq
end Go.Proofs.Ytbbhmjokiejnmaa

