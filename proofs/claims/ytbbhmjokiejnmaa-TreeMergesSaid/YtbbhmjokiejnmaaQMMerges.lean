/- The law TreeMerges, in plain words: the reference's Merge. -/
import Derived.Test.YtbbhmjokiejnmaaQMMerge
import Derived.Test.YtbbhmjokiejnmaaQMDiffs3
import Derived.Test.YtbbhmjokiejnmaaQMHy12
namespace Go.Proofs.Ytbbhmjokiejnmaa
open Go Go.RowKit Go.Proofs.Ytbbhmjokiejnmaa.Hy Go.Proofs.YtbbhmjokiejnmaaW.PrintWords
set_option linter.unusedVariables false
/-- A file set ahead of the first that is greater. -/
def insA (x : File) : List File → List File
  | [] => [x]
  | y :: l => if 0 < cmpP y.f0 x.f0 then x :: y :: l else y :: insA x l
def clash (l : List File) (x : File) : Bool := l.any (fun y => insideB y.f0 x.f0 || insideB x.f0 y.f0)
/-- The reference's Merge, from a state on. -/
def rmGo : List File → Bool → List File → List File × Int × ByteArray × Int
  | cur, many, [] => if many = true then ([], 2, ⟨#[]⟩, 0) else (cur, 0, ⟨#[]⟩, 0)
  | cur, many, f :: b => match lookB cur f.f0 with
    | some d => if d.toList = f.f1.toList then rmGo cur many b else ([], 4, f.f0, 0)
    | none => if clash cur f = true then ([], 4, f.f0, 0) else rmGo (insA f cur) (many || decide (60 < (insA f cur).length)) b
theorem merge_l1 (b cur : List File) (many : Bool) (i : Nat) (hi : i < b.length) (hb : b.length ≤ 1048576) (hc : cur.length ≤ 2097152) (hbs : ∀ y ∈ b, y.f0.size ≤ 1048576) (hcs : ∀ y ∈ cur, y.f0.size ≤ 1048576) (r : List File × Int × ByteArray × Int) :
    ∀ (d j : Nat) (now : List File) (done : Bool), j + d = cur.length → now.length ≤ 2 * j →
      (clash (cur.drop j) b[i] = false → Ev (fun k => graftbedref02_Merge.l0 k b (now ++ if done = true then cur.drop j else insA b[i] (cur.drop j)) (many || decide (60 < (now ++ if done = true then cur.drop j else insA b[i] (cur.drop j)).length)) ((i + 1 : Nat) : Int)) r) →
      Ev (fun k => graftbedref02_Merge.l1 k b cur many (i : Int) now done (j : Int)) (if clash (cur.drop j) b[i] = true then ([], 4, b[i].f0, 0) else r) := by
  intro d
  induction d with
  | zero =>
    intro j now done hj hn hR
    have hdr : cur.drop j = [] := List.drop_eq_nil_of_le (by omega)
    rw [hdr] at hR ⊢
    have hcl : clash [] b[i] = false := rfl
    rw [hcl]
    simp only [Bool.false_eq_true, if_false]
    have hR' := hR hcl
    have hr := rdT_nat b i hi
    cases done with
    | true =>
      refine Ev.step (f := fun k => graftbedref02_Merge.l0 k b now (many || decide (60 < now.length)) ((i + 1 : Nat) : Int)) (fun k => ?_) (by simpa using hR')
      simp only [graftbedref02_Merge.l1]
      rw [if_neg (by omega), if_pos trivial, wrap_i (by omega)]
      cases many with
      | true => rfl
      | false =>
        simp only [Bool.false_eq_true, if_false, Bool.false_or]
        congr 1
        exact decide_eq_decide.2 (by omega)
    | false =>
      refine Ev.step (f := fun k => graftbedref02_Merge.l0 k b (now ++ [b[i]]) (many || decide (60 < (now ++ [b[i]]).length)) ((i + 1 : Nat) : Int)) (fun k => ?_) (by simpa [insA] using hR')
      simp only [graftbedref02_Merge.l1]
      rw [if_neg (by omega), if_neg (by simp), if_pos (by omega), if_pos (by omega), if_pos (by omega), hr, wrap_i (by omega)]
      simp only [Option.bind_some]
      cases many with
      | true => rfl
      | false =>
        simp only [Bool.false_eq_true, if_false, Bool.false_or]
        congr 1
        refine decide_eq_decide.2 ?_
        simp only [List.length_append, List.length_cons, List.length_nil]
        omega
  | succ d ih =>
    intro j now done hj hn hR
    have hlt : j < cur.length := by omega
    have hr := rdT_nat b i hi
    have hq := rdT_nat cur j hlt
    have z1 := hbs b[i] (List.getElem_mem _)
    have z2 := hcs cur[j] (List.getElem_mem _)
    rw [List.drop_eq_getElem_cons hlt] at hR ⊢
    have hcl : clash (cur[j] :: cur.drop (j + 1)) b[i] = ((insideB cur[j].f0 b[i].f0 || insideB b[i].f0 cur[j].f0) || clash (cur.drop (j + 1)) b[i]) := rfl
    have hj3 : ∀ q : Bool, (insideB cur[j].f0 b[i].f0 || insideB b[i].f0 cur[j].f0) = q → Ev (fun k => graftbedref02_Merge.j3 k b cur many (i : Int) now done (j : Int) q) (if clash (cur[j] :: cur.drop (j + 1)) b[i] = true then ([], 4, b[i].f0, 0) else r) := fun q hqq => by
      rw [hcl, hqq]
      cases q with
      | true =>
        simp only [Bool.true_or, if_true]
        refine Ev.step (f := fun _ => some ([], 4, b[i].f0, 0)) (fun k => ?_) (Ev.now _)
        simp only [graftbedref02_Merge.j3]
        rw [if_pos trivial, if_pos (by omega), if_pos (by omega), hr]
      | false =>
        simp only [Bool.false_or]
        have hR1 : clash (cur.drop (j + 1)) b[i] = false → _ := fun h => hR (by rw [hcl, hqq, h]; rfl)
        cases done with
        | true =>
          refine Ev.step (f := fun k => graftbedref02_Merge.l1 k b cur many (i : Int) (now ++ [cur[j]]) true ((j + 1 : Nat) : Int)) (fun k => ?_) (ih (j + 1) (now ++ [cur[j]]) true (by omega) (by simp; omega) (fun h => by simpa using hR1 h))
          simp only [graftbedref02_Merge.j3]
          rw [if_neg (by simp), if_pos trivial, if_pos (by omega), if_pos (by omega), if_pos (by omega), hq, wrap_i (by omega)]
        | false =>
          refine Ev.step (f := fun k => (graftbedref01_Compare.f k cur[j].f0 b[i].f0).bind fun t246 => if t246 > 0 then graftbedref02_Merge.l1 k b cur many (i : Int) (now ++ [b[i]] ++ [cur[j]]) true ((j + 1 : Nat) : Int) else graftbedref02_Merge.l1 k b cur many (i : Int) (now ++ [cur[j]]) false ((j + 1 : Nat) : Int)) (fun k => ?_) ?_
          · simp only [graftbedref02_Merge.j3]
            have hn1 : now.length < 4398046511104 := by omega
            have hn2 : (now ++ [(⟨b[i].f0, b[i].f1⟩ : File)]).length < 4398046511104 := by simp; omega
            rw [if_neg (by simp), if_neg (by simp), if_pos (by omega), if_pos (by omega), if_pos (by omega), if_pos (by omega), hq, hr, wrap_i (by omega)]
            simp only [Option.bind_some]
            simp only [hn1, hn2, if_true]
          · refine Ev.bind (refCompare_ev _ _ (by omega) (by omega)) ?_
            by_cases hc : cmpP cur[j].f0 b[i].f0 > 0
            · simp only [if_pos hc]
              exact ih (j + 1) (now ++ [b[i]] ++ [cur[j]]) true (by omega) (by simp; omega) (fun h => by
                have := hR1 h
                unfold insA at this
                rw [if_pos hc] at this
                simpa using this)
            · simp only [if_neg hc]
              exact ih (j + 1) (now ++ [cur[j]]) false (by omega) (by simp; omega) (fun h => by
                have := hR1 h
                unfold insA at this
                rw [if_neg hc] at this
                simpa using this)
    refine Ev.step (f := fun k => (graftbedref02_inside.f k cur[j].f0 b[i].f0).bind fun t235 => if t235 = true then graftbedref02_Merge.j3 k b cur many (i : Int) now done (j : Int) true else (graftbedref02_inside.f k b[i].f0 cur[j].f0).bind fun t238 => graftbedref02_Merge.j3 k b cur many (i : Int) now done (j : Int) t238) (fun k => ?_) ?_
    · simp only [graftbedref02_Merge.l1]
      rw [if_pos (by omega), if_pos (by omega), if_pos (by omega), if_pos (by omega), hq, hr]
    · refine Ev.bind (refInside_ev _ _ (by omega) (by omega)) ?_
      cases h1 : insideB cur[j].f0 b[i].f0 with
      | true => exact hj3 true (by rw [h1]; rfl)
      | false =>
        simp only [Bool.false_eq_true, if_false]
        exact Ev.bind (refInside_ev _ _ (by omega) (by omega)) (hj3 _ (by rw [h1]; rfl))
theorem insA_len (x : File) : ∀ l, (insA x l).length = l.length + 1
  | [] => rfl
  | y :: l => by unfold insA; split <;> simp [insA_len x l]
theorem insA_mem (x z : File) : ∀ l, z ∈ insA x l ↔ z = x ∨ z ∈ l
  | [] => by simp [insA]
  | y :: l => by
    unfold insA; split
    · simp
    · rw [List.mem_cons, insA_mem x z l, List.mem_cons]; constructor
      · rintro (h | h | h)
        · exact .inr (.inl h)
        · exact .inl h
        · exact .inr (.inr h)
      · rintro (h | h | h)
        · exact .inr (.inl h)
        · exact .inl h
        · exact .inr (.inr h)
theorem refMerge_at (b : List File) (hb : b.length ≤ 1048576) (hbs : ∀ y ∈ b, y.f0.size ≤ 1048576) : ∀ (d i : Nat) (cur : List File) (many : Bool), i + d = b.length → cur.length ≤ 1048576 + i → (∀ y ∈ cur, y.f0.size ≤ 1048576) →
    Ev (fun k => graftbedref02_Merge.l0 k b cur many (i : Int)) (rmGo cur many (b.drop i)) := by
  intro d
  induction d with
  | zero =>
    intro i cur many hi hc hcs
    rw [List.drop_eq_nil_of_le (by omega)]
    refine Ev.step (f := fun _ => some (if many = true then ([], 2, ⟨#[]⟩, 0) else (cur, 0, ⟨#[]⟩, 0))) (fun k => ?_) (Ev.now _)
    simp only [graftbedref02_Merge.l0]
    rw [if_neg (by omega)]
    cases many <;> rfl
  | succ d ih =>
    intro i cur many hi hc hcs
    have hlt : i < b.length := by omega
    have hr := rdT_nat b i hlt
    rw [List.drop_eq_getElem_cons hlt]
    refine Ev.step (f := fun k => (graftbedref02_Find.f k cur b[i].f0).bind fun bt => if bt.2 = true then graftbedref02_Merge.j1 k b cur many (i : Int) bt.2 (bt.1.toList != b[i].f1.toList) else graftbedref02_Merge.j1 k b cur many (i : Int) bt.2 false) (fun k => ?_) (Ev.bind (refFind_ev cur _ (by omega)) ?_)
    · simp only [graftbedref02_Merge.l0]
      rw [if_pos (by omega), if_pos (by omega), hr]
    · rw [findB_look]
      unfold rmGo
      cases hk : lookB cur b[i].f0 with
      | some dd =>
        simp only [if_true]
        by_cases hd : dd.toList = b[i].f1.toList
        · rw [if_pos hd]
          have e : (dd.toList != b[i].f1.toList) = false := by simpa using hd
          rw [e]
          refine Ev.step (f := fun k => graftbedref02_Merge.l0 k b cur many ((i + 1 : Nat) : Int)) (fun k => ?_) (ih (i + 1) cur many (by omega) (by omega) hcs)
          simp only [graftbedref02_Merge.j1]
          rw [if_neg (by simp), if_pos trivial, wrap_i (by omega)]
        · rw [if_neg hd]
          have e : (dd.toList != b[i].f1.toList) = true := by simpa using hd
          rw [e]
          refine Ev.step (f := fun _ => some ([], 4, b[i].f0, 0)) (fun k => ?_) (Ev.now _)
          simp only [graftbedref02_Merge.j1]
          rw [if_pos trivial, if_pos (by omega), if_pos (by omega), hr]
      | none =>
        simp only [Bool.false_eq_true, if_false]
        refine Ev.step (f := fun k => graftbedref02_Merge.l1 k b cur many (i : Int) [] false 0) (fun k => ?_) ?_
        · simp only [graftbedref02_Merge.j1]
          rw [if_neg (by simp), if_neg (by simp)]
        · have := merge_l1 b cur many i hlt hb (by omega) hbs hcs (rmGo (insA b[i] cur) (many || decide (60 < (insA b[i] cur).length)) (b.drop (i + 1))) cur.length 0 [] false (by omega) (by simp) (fun _ => by
            have h2 := ih (i + 1) (insA b[i] cur) (many || decide (60 < (insA b[i] cur).length)) (by omega) (by rw [insA_len]; omega) (fun y hy => by
              rcases (insA_mem _ _ _).1 hy with rfl | hy
              · exact hbs _ (List.getElem_mem _)
              · exact hcs y hy)
            simpa using h2)
          rw [List.drop_zero] at this
          exact this
theorem refMerge_ev (a b : List File) (ha : Small a) (hb : Small b) : Ev (fun k => graftbedref02_Merge.f k a b) (rmGo a false b) := by
  have h1 := ha.1
  have h2 := hb.1
  unfold graftbedref02_Merge.f
  simp only [Option.bind_some, List.nil_append]
  refine Ev.congr (fun k => if_pos (by simp; omega)) ?_
  have := refMerge_at b hb.1 hb.2 b.length 0 a false (by omega) (by omega) ha.2
  rw [List.drop_zero] at this
  exact this
end Go.Proofs.Ytbbhmjokiejnmaa

