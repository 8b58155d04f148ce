/- A range over an iterator that keeps a state of its own in blocks of cells (a captured variable): the iterator's contract, and the law for the caller. -/
import Derived.RangeFuncNested
import Derived.RangeFuncBound
import Derived.RangeFuncCalls
import Derived.RangeFuncLeaves
import Derived.RangeFuncWrites
import Derived.WalkKit
import Derived.Deep.Draws
namespace Go.Proofs.Ytbbhmjokiejnmaa
open Go Go.RowKit
/-- B is A, with new blocks, and with other things in the blocks of 'own'. -/
structure Turned (own : Nat → Prop) (A B : World) : Prop where
  os : B.os = A.os
  tape : B.tape = A.tape
  output : B.output = A.output
  size : A.heap.size ≤ B.heap.size
  block : ∀ k, k < A.heap.size → ¬ own k → B.heap[k]? = A.heap[k]?
namespace Turned
variable {own own' : Nat → Prop} {A B C : World}
theorem trans (h : Turned own A B) (k : Turned own B C) : Turned own A C :=
  ⟨k.os.trans h.os, k.tape.trans h.tape, k.output.trans h.output, Nat.le_trans h.size k.size, fun i hi ho => (k.block i (Nat.lt_of_lt_of_le hi h.size) ho).trans (h.block i hi ho)⟩
theorem mono (h : Turned own A B) (ho : ∀ k, own k → own' k) : Turned own' A B := ⟨h.os, h.tape, h.output, h.size, fun i hi hn => h.block i hi (fun x => hn (ho i x))⟩
theorem of_below {n : Nat} (h : Below n A B) (hn : A.heap.size ≤ n) : Turned own A B := ⟨h.os, h.tape, h.output, h.size, fun i hi _ => h.block i (Nat.lt_of_lt_of_le hi hn)⟩
theorem alloc (A : World) (o : Obj) : Turned own A (A.alloc o) := of_below ((Below.refl _ A).alloc (Nat.le_refl _) o) (Nat.le_refl _)
theorem grown {row : Option Nat} (h : A.grownBy B row) (hr : ∀ k, row = some k → own k) : Turned own A B :=
  ⟨h.os, h.tape, h.output, h.size, fun i hi ho => h.block i hi (fun e => ho (hr i e.symm))⟩
theorem putObj (A : World) (l : Nat) (o : Obj) (hl : own l) : Turned own A (A.putObj l o) := grown (grownBy_putObj' A l o) (fun k e => by cases e; exact hl)
theorem setCell (A : World) (p : Addr) (v : Value) (hl : own p.block) : Turned own A (A.setCell p v) :=
  ⟨rfl, rfl, rfl, (KeepsOthers.setCell A p v).size, fun i _ ho => Below.heap_setCell A p v i (fun e => ho (by rw [e]; exact hl))⟩
theorem drewN (A : World) (n : Nat) : Turned own A (A.drewN n) := ⟨rfl, rfl, rfl, Nat.le_refl _, fun _ _ _ => rfl⟩
theorem heap (h : Turned own A B) {k : Nat} {o : Obj} (hn : ¬ own k) (hk : A.heap[k]? = some o) : B.heap[k]? = some o :=
  (h.block k (Array.getElem?_eq_some_iff.1 hk).1 hn).trans hk
theorem below (h : Turned own A B) {n : Nat} (hn : n ≤ A.heap.size) (ho : ∀ k, own k → n ≤ k) : Below n A B :=
  ⟨h.os, h.tape, h.output, h.size, fun i hi => h.block i (Nat.lt_of_lt_of_le hi hn) (fun x => by have := ho i x; omega)⟩
end Turned
/-- What abides a turn of the blocks of 'own', and new ones. -/
def AbidesT {β : Type} (own : Nat → Prop) (J : β → World → Prop) : Prop := ∀ s A B, J s A → Turned own A B → J s B
theorem abidesT_below {β : Type} {own : Nat → Prop} {n : Nat} {w₀ : World} (hn : n ≤ w₀.heap.size) (ho : ∀ k, own k → n ≤ k) : AbidesT own (fun (_ : β) W => Below n w₀ W) :=
  fun _ _ _ hs ht => hs.trans (ht.below (Nat.le_trans hn hs.size) ho)
theorem abidesT_turned {β : Type} {own own' : Nat → Prop} {w₀ : World} (ho : ∀ k, own' k → own k ∨ w₀.heap.size ≤ k) : AbidesT own' (fun (_ : β) W => Turned own w₀ W) :=
  fun _ _ _ hs ht => ⟨ht.os.trans hs.os, ht.tape.trans hs.tape, ht.output.trans hs.output, Nat.le_trans hs.size ht.size, fun k hk hn =>
    (ht.block k (Nat.lt_of_lt_of_le hk hs.size) (fun h => (ho k h).elim hn (fun h' => by omega))).trans (hs.block k hk hn)⟩
/-- The contract of an iterator value (function g, what it has captured: lb) that turns its own blocks between two rounds, and leans on what lies below n₀ being kept by a round. -/
def SeqB {α : Type} (F : Fence) (n : Nat) (P : Program) (g : Nat) (lb : Array Value) (encs : α → Array Value) (own : Nat → Prop) (n₀ : Nat) (S Sp : List α → Prop) (N : Nat) (w : World) : Prop :=
  ∀ (l : Nat) (J Jx : List α → World → Prop) (W : World), Below w.heap.size w W → AbidesT own J → AbidesT own Jx →
    (∀ pre x W1, J pre W1 → pre.length < N → YieldAt F (n - 1) P l (encs x) W1 fun e W' =>
      (e = .returned (.bool true) ∧ J (pre ++ [x]) W' ∧ Below n₀ W1 W') ∨ (e = .returned (.bool false) ∧ Jx (pre ++ [x]) W')) →
    J [] W →
    CallsIn F n P g (#[.func (.yield l) #[] #[]] ++ lb) W fun e W' => (∃ v, e = .returned v) ∧ ((∃ xs, S xs ∧ J xs W') ∨ (∃ pre, Sp pre ∧ Jx pre W'))
/-- How the body of a round may be left. -/
def postB {α : Type} (D n₀ : Nat) (I : List α → World → Prop) (Ix : Code → List α → World → Prop) (xs : List α) (W : World) : Exit → Act → World → Prop
  | .normal, _, W' => KeepsFrom D W W' ∧ Below n₀ W W' ∧ I xs W'
  | .ret, _, W' => KeepsFrom D W W' ∧ Ix .ret xs W'
  | .exit id, _, W' => KeepsFrom D W W' ∧ Ix (.exit id) xs W'
  | .goto t, _, W' => KeepsFrom D W W' ∧ Ix (.goto t) xs W'
  | .panic _, _, _ => False
  | .outgrown, _, _ => False
/-- A range over an iterator of that contract. -/
theorem wpIn_rangeB {α : Type} {F : Fence} {n : Nat} {P : Program} {g : Operand} {ps : Array Tmp} {assign body : Code} {Q : Exit → Act → World → Prop} {a : Act} {w : World}
    (hro : F.round = none) (h1 : 1 ≤ n) {gf : Nat} {lb : Array Value} (hg : a.eval g = .func (.func gf) #[] lb) (hFg : F.fn gf) (eg : ∀ args w, (callFunc gf args).run P w = .ok (.enter gf args) w)
    {encs : α → Array Value} {own : Nat → Prop} {n₀ : Nat} {S Sp : List α → Prop} {N : Nat} {w0 : World} (hseq : SeqB F (n - 1) P gf lb encs own n₀ S Sp N w0)
    (hown : ∀ k, own k → k < w.heap.size) (hn₀ : n₀ ≤ w.heap.size) (hb0 : Below w0.heap.size w0 w) (hps : ∀ x, (encs x).size = ps.size)
    (I : List α → World → Prop) (Ix : Code → List α → World → Prop)
    (hI : AbidesT (fun k => own k ∨ k = w.heap.size ∨ k = w.heap.size + 1) I) (hIx : ∀ c, AbidesT (fun k => own k ∨ k = w.heap.size ∨ k = w.heap.size + 1) (Ix c)) (h0 : I [] w)
    (Ax : List α → α → Act → World → Prop) (hAx : ∀ pre x a', AbidesT (fun k => k = w.heap.size ∨ k = w.heap.size + 1) (fun (_ : Unit) W => Ax pre x a' W))
    (hassign : ∀ (l : Nat) (pre : List α) (x : α) (W : World) (K : Act → World → Prop), w.heap.size + 2 ≤ W.heap.size → I pre W → (∀ a' W', KeepsFrom w.heap.size W W' → Below n₀ W W' → I pre W' → Ax pre x a' W' → K a' W') →
      assign.wpIn (F.inRound l) (n - 1 - 1) P (Exit.then K (fun _ _ _ => False)) { tmps := (ps.zip (encs x)).foldl (fun t (p, v) => t.setIfInBounds p v) a.tmps, defers := [] } W)
    (hbody : ∀ (l : Nat) (pre : List α) (x : α) (a' : Act) (W : World), w.heap.size + 2 ≤ W.heap.size → (∃ r, W.heap[l]? = some (.loop r)) → l = w.heap.size + 1 → I pre W → Ax pre x a' W → pre.length < N → body.wpIn (F.inRound l) (n - 1 - 1) P (postB w.heap.size n₀ I Ix (pre ++ [x]) W) a' W)
    (hdone : ∀ (xs : List α) (W : World), w.heap.size + 2 ≤ W.heap.size → S xs → I xs W → W.heap[w.heap.size]? = some (.deferred (some [])) → Q .normal { a with defers := { target := .collected w.heap.size, args := #[] } :: a.defers } W)
    (hstop : ∀ (c : Code) (pre : List α) (W : World), w.heap.size + 2 ≤ W.heap.size → Sp pre → Ix c pre W → W.heap[w.heap.size]? = some (.deferred (some [])) → c.wpIn F n P Q { a with defers := { target := .collected w.heap.size, args := #[] } :: a.defers } W) :
    (Code.rangeFunc g ps assign body).wpIn F n P Q a w := by
  refine wpIn_rangeFunc fun fn hfn => ?_
  rw [hro]
  obtain ⟨D, hD⟩ : ∃ D, D = w.heap.size := ⟨_, rfl⟩
  obtain ⟨rec, hrec⟩ : ∃ rec : LoopState → Option Code → Loop, rec = fun st pe => { state := st, pending := pe, fn, tmps := a.tmps, params := ps, assign, body, defers := w.heap.size } := ⟨_, rfl⟩
  obtain ⟨W1, hW1⟩ : ∃ W1, (w.alloc (.deferred (some []))).alloc (.loop (rec .ready none)) = W1 := ⟨_, rfl⟩
  have hs1 : W1.heap.size = D + 2 := by rw [← hW1, hD]; simp
  have hw1 : Below w.heap.size w W1 := by rw [← hW1]; exact ((Below.refl _ w).alloc (Nat.le_refl _) _).alloc (by simp) _
  have hrecAt : W1.heap[D + 1]? = some (.loop (rec .ready none)) := by
    rw [← hW1, hD]; have := World.alloc_heap_new (w.alloc (.deferred (some []))) (.loop (rec .ready none)); rwa [World.size_alloc] at this
  have hdefAt : W1.heap[D]? = some (.deferred (some [])) := by
    rw [← hW1, hD]; exact (Below.heap_alloc _ _ _ (by simp)).trans (World.alloc_heap_new w _)
  have hnD : ¬ own D := fun h => by have := hown D h; omega
  have hnL : ¬ own (D + 1) := fun h => by have := hown (D + 1) h; omega
  rw [← hD] at hI hIx hAx hbody hassign hdone hstop
  have tL : ∀ (W : World) (o : Obj), Turned (fun k => own k ∨ k = D ∨ k = D + 1) W (W.putObj (D + 1) o) := fun W o => Turned.putObj W _ o (.inr (.inr rfl))
  refine ⟨D + 1, [{ target := .collected D, args := #[] }], W1, { target := .fn (.func gf) lb, args := #[.func (.yield (D + 1)) #[] #[]] }, W1, gf,
    #[.func (.yield (D + 1)) #[] #[]] ++ lb, W1, ?_, ?_, ?_, ?_, fun _ => h1, ?_⟩
  · rw [← hW1, hrec, hD]; exact run_enterLoop_outer _ _ _ _ _
  · simp only [resolve, hg]
    simp [go_sem]
  · intro f' hf'; simp [Target.leads] at hf'; subst hf'; exact hFg
  · simp [invoke, go_sem, eg]
  refine (hseq (D + 1)
    (fun pre W => I pre W ∧ W.heap[D + 1]? = some (.loop (rec .ready none)) ∧ W.heap[D]? = some (.deferred (some [])) ∧ D + 2 ≤ W.heap.size)
    (fun pre W => ∃ c, Ix c pre W ∧ W.heap[D + 1]? = some (.loop (rec .done (some c))) ∧ W.heap[D]? = some (.deferred (some [])) ∧ D + 2 ≤ W.heap.size)
    W1 (hb0.trans (hw1.mono hb0.size))
    (fun s A B hs ht => ⟨hI s A B hs.1 (ht.mono (fun k h => .inl h)), ht.heap hnL hs.2.1, ht.heap hnD hs.2.2.1, Nat.le_trans hs.2.2.2 ht.size⟩)
    (fun s A B hs ht => by
      obtain ⟨c, hc, hl, hk, hz⟩ := hs
      exact ⟨c, hIx c s A B hc (ht.mono (fun k h => .inl h)), ht.heap hnL hl, ht.heap hnD hk, Nat.le_trans hz ht.size⟩)
    ?round ⟨hI [] w W1 h0 (Turned.of_below hw1 (Nat.le_refl _)), hrecAt, hdefAt, by omega⟩).mono ?behind
  case round =>
    rintro pre x W ⟨hi, hl, hk, hz⟩ hlen
    have hlt : D + 1 < W.heap.size := by omega
    have hy := run_yield (P := P) (args := encs x) hl (by rw [hrec]; exact hps x)
    rw [hrec] at hy
    refine ⟨fn, _, assign, body, hy, roundIn_of_wpIn hfn (hassign _ pre x W _ hz hi ?_)⟩
    intro a' W2 hkf2 hbe2 hi2 hax2
    have hz2 : D + 2 ≤ W2.heap.size := Nat.le_trans hz hkf2.size
    have hl2 : W2.heap[D + 1]? = some (.loop (rec .ready none)) := hkf2.same _ _ (by omega) hl rfl
    have hk2 : W2.heap[D]? = some (.deferred (some [])) := hkf2.same _ _ (by omega) hk rfl
    obtain ⟨W3, hW3⟩ : ∃ W3, W2.putObj (D + 1) (.loop { rec .ready none with state := .busy }) = W3 := ⟨_, rfl⟩
    refine ⟨W3, by rw [← hW3]; exact run_beginRound hl2 (by rw [hrec]), ?_⟩
    have hl3 : W3.heap[D + 1]? = some (.loop { rec .ready none with state := .busy }) := by rw [← hW3]; exact World.putObj_heap_same (by omega)
    have hk3 : W3.heap[D]? = some (.deferred (some [])) := by rw [← hW3]; exact (World.putObj_heap_other (by omega)).trans hk2
    have hz3 : D + 2 ≤ W3.heap.size := by rw [← hW3]; simpa using hz2
    have ht3 : Turned (fun k => own k ∨ k = D ∨ k = D + 1) W2 W3 := by rw [← hW3]; exact tL _ _
    have ht3' : Turned (fun k => k = D ∨ k = D + 1) W2 W3 := by rw [← hW3]; exact Turned.putObj W2 _ _ (.inr rfl)
    have hbe3 : Below n₀ W2 W3 := ht3'.below (by omega) (fun k h => by omega)
    refine wpIn_mono (hbody _ pre x a' W3 hz3 ⟨_, hl3⟩ rfl (hI _ _ _ hi2 ht3) (hAx pre x a' () _ _ hax2 ht3') hlen) ?_
    have fin : ∀ (jump : Option Code) (W4 : World), KeepsFrom D W3 W4 →
        (Instr.endRound (D + 1) jump).run P W4 = .ok (.bool jump.isNone) (W4.putObj (D + 1) (.loop (rec (if jump.isNone then .ready else .done) jump))) ∧
        (W4.putObj (D + 1) (.loop (rec (if jump.isNone then .ready else .done) jump))).heap[D + 1]? = some (.loop (rec (if jump.isNone then .ready else .done) jump)) ∧
        (W4.putObj (D + 1) (.loop (rec (if jump.isNone then .ready else .done) jump))).heap[D]? = some (.deferred (some [])) ∧ D + 2 ≤ (W4.putObj (D + 1) (.loop (rec (if jump.isNone then .ready else .done) jump))).heap.size ∧
        Below n₀ W4 (W4.putObj (D + 1) (.loop (rec (if jump.isNone then .ready else .done) jump))) := fun jump W4 hk4 => by
      have hz4 : D + 2 ≤ W4.heap.size := Nat.le_trans hz3 hk4.size
      have hl4 := hk4.same _ _ (by omega) hl3 rfl
      have he := run_endRound (P := P) jump hl4
      rw [hrec] at he ⊢
      exact ⟨he, World.putObj_heap_same (by omega), (World.putObj_heap_other (by omega)).trans (hk4.same _ _ (Nat.le_refl _) hk3 rfl), by simpa using hz4,
        (Turned.putObj (own := fun k => k = D + 1) W4 _ _ rfl).below (by omega) (fun k h => by omega)⟩
    rintro e a3 W4 hp
    cases e with
    | normal =>
      obtain ⟨hk4, hbe4, hi4⟩ := hp
      obtain ⟨hr, hl5, hk5, hz5, hbe5⟩ := fin none W4 hk4
      exact ⟨_, _, hr, .inl ⟨rfl, ⟨hI _ _ _ hi4 (tL _ _), hl5, hk5, hz5⟩, ((hbe2.trans hbe3).trans hbe4).trans hbe5⟩⟩
    | ret =>
      obtain ⟨hk4, hi4⟩ := hp
      obtain ⟨hr, hl5, hk5, hz5, _⟩ := fin (some .ret) W4 hk4
      exact ⟨_, _, hr, .inr ⟨rfl, .ret, hIx _ _ _ _ hi4 (tL _ _), hl5, hk5, hz5⟩⟩
    | exit id =>
      obtain ⟨hk4, hi4⟩ := hp
      obtain ⟨hr, hl5, hk5, hz5, _⟩ := fin (some (.exit id)) W4 hk4
      exact ⟨_, _, hr, .inr ⟨rfl, .exit id, hIx _ _ _ _ hi4 (tL _ _), hl5, hk5, hz5⟩⟩
    | goto t =>
      obtain ⟨hk4, hi4⟩ := hp
      obtain ⟨hr, hl5, hk5, hz5, _⟩ := fin (some (.goto t)) W4 hk4
      exact ⟨_, _, hr, .inr ⟨rfl, .goto t, hIx _ _ _ _ hi4 (tL _ _), hl5, hk5, hz5⟩⟩
    | panic ch => exact hp.elim
    | outgrown => exact hp.elim
  case behind =>
    rintro e W2 ⟨⟨v, rfl⟩, (⟨xs, hS, hi, hl, hk, hz⟩ | ⟨pre, hSp, c, hi, hl, hk, hz⟩)⟩
    · exact ⟨none, _, by have := run_endLoop (P := P) hl (by rw [hrec]; simp); rw [hrec] at this; exact this,
        hdone xs _ (by simpa using hz) hS (hI _ _ _ hi (tL _ _)) ((World.putObj_heap_other (by omega)).trans hk)⟩
    · exact ⟨some c, _, by have := run_endLoop (P := P) hl (by rw [hrec]; simp); rw [hrec] at this; exact this,
        hstop c pre _ (by simpa using hz) hSp (hIx c _ _ _ hi (tL _ _)) ((World.putObj_heap_other (by omega)).trans hk)⟩
end Go.Proofs.Ytbbhmjokiejnmaa

