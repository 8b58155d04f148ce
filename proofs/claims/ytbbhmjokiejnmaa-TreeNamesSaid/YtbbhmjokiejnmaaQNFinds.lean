/- The law TreeFinds, in plain words. -/
import Derived.Test.YtbbhmjokiejnmaaQNRefs2
namespace Go.Proofs.Ytbbhmjokiejnmaa
open Go Go.RowKit Go.Proofs.Ytbbhmjokiejnmaa.Hy Go.Proofs.YtbbhmjokiejnmaaW.PrintWords
set_option linter.unusedVariables false
def hv : List File → Int → Bool
  | [], n => decide (n > 16384)
  | y :: l, n => if n ≤ 16384 then hv l (n + (mn (y.f0.size : Int) 1048576 + mn (y.f1.size : Int) 1048576)) else decide (n > 16384)
def heavyB (l : List File) : Bool := if 80 < l.length then true else hv l (mn (l.length : Int) 1048576)
theorem mn_le (a : Nat) : 0 ≤ mn (a : Int) 1048576 ∧ mn (a : Int) 1048576 ≤ 1048576 := by unfold mn; split <;> omega
theorem heavy_at (l : List File) (hl : l.length ≤ 80) : ∀ (d i : Nat) (n : Int), i + d = l.length → 0 ≤ n → n ≤ 8388608 → Ev (fun k => graftbedlaw02_heavy.l0 k l n (i : Int)) (hv (l.drop i) n) := by
  intro d
  induction d with
  | zero =>
    intro i n hi h0 h1
    have e : l.drop i = [] := by rw [List.drop_eq_nil_iff]; omega
    rw [e]
    refine Ev.step (f := fun _ => some _) (fun k => ?_) (Ev.now _)
    simp only [graftbedlaw02_heavy.l0, hv]; rw [if_neg (by omega)]
  | succ d ih =>
    intro i n hi h0 h1
    have hlt : i < l.length := by omega
    have ed : l.drop i = l[i] :: l.drop (i + 1) := List.drop_eq_getElem_cons hlt
    have hr := rdT_nat l i hlt
    have m0 := mn_le l[i].f0.size
    have m1 := mn_le l[i].f1.size
    rw [ed]
    unfold hv
    by_cases hq : n ≤ 16384
    · rw [if_pos hq]
      refine Ev.step (f := fun k => graftbedlaw02_heavy.l0 k l (n + (mn (l[i].f0.size : Int) 1048576 + mn (l[i].f1.size : Int) 1048576)) ((i + 1 : Nat) : Int)) (fun k => ?_) (ih (i + 1) (n + (mn (l[i].f0.size : Int) 1048576 + mn (l[i].f1.size : Int) 1048576)) (by omega) (by omega) (by omega))
      simp only [graftbedlaw02_heavy.l0]
      rw [if_pos (by omega), if_pos hq, if_pos (by omega), hr, wrap_i (by omega)]
      rw [show wrap64 (n + (mn (l[i].f0.size : Int) 1048576 + mn (l[i].f1.size : Int) 1048576)) = n + (mn (l[i].f0.size : Int) 1048576 + mn (l[i].f1.size : Int) 1048576) from by unfold wrap64; omega]
    · rw [if_neg hq]
      refine Ev.step (f := fun _ => some _) (fun k => ?_) (Ev.now _)
      simp only [graftbedlaw02_heavy.l0]
      rw [if_pos (by omega), if_neg hq]
theorem heavy_ev (l : List File) : Ev (fun k => graftbedlaw02_heavy.f k l) (heavyB l) := by
  unfold graftbedlaw02_heavy.f heavyB
  by_cases h : 80 < l.length
  · rw [if_pos h]; exact Ev.congr (fun k => if_pos (by omega)) (Ev.now _)
  · rw [if_neg h]
    refine Ev.congr (fun k => if_neg (by omega)) ?_
    have m := mn_le l.length
    have := heavy_at l (by omega) l.length 0 (mn (l.length : Int) 1048576) (by omega) (by omega) (by omega)
    rw [List.drop_zero] at this
    exact this
theorem hv_light (l : List File) : ∀ n : Int, 0 ≤ n → hv l n = false → n ≤ 16384 ∧ ∀ y ∈ l, y.f0.size ≤ 16384 ∧ y.f1.size ≤ 16384 := by
  induction l with
  | nil => intro n h0 h; unfold hv at h; simp at h; exact ⟨h, by simp⟩
  | cons y l ih =>
    intro n h0 h
    unfold hv at h
    have m0 := mn_le y.f0.size
    have m1 := mn_le y.f1.size
    split at h
    · rename_i hq
      obtain ⟨a, b⟩ := ih _ (by omega) h
      refine ⟨hq, fun z hz => ?_⟩
      rcases List.mem_cons.1 hz with rfl | hz
      · have e0 : mn (z.f0.size : Int) 1048576 ≤ 16384 := by omega
        have e1 : mn (z.f1.size : Int) 1048576 ≤ 16384 := by omega
        unfold mn at e0 e1
        split at e0 <;> split at e1 <;> omega
      · exact b z hz
    · rename_i hq
      have h : ¬ (n > 16384) := by simpa using h
      omega
theorem heavy_light (l : List File) (h : heavyB l = false) : l.length ≤ 80 ∧ ∀ y ∈ l, y.f0.size ≤ 16384 ∧ y.f1.size ≤ 16384 := by
  unfold heavyB at h
  split at h
  · cases h
  · have m := mn_le l.length
    exact ⟨by omega, (hv_light l _ m.1 h).2⟩
theorem light_small {l : List File} (h : heavyB l = false) : Small l := by
  obtain ⟨a, b⟩ := heavy_light l h
  exact ⟨by omega, fun y hy => by have := (b y hy).1; omega⟩
theorem shown_some : graftbedlaw02_shown.f = some true := by decide +kernel
end Go.Proofs.Ytbbhmjokiejnmaa

