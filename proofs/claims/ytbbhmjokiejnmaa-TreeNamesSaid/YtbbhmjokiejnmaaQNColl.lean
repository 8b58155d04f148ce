/- slices.Collect over paths.elems: paths.Elems. -/
import Derived.Test.YtbbhmjokiejnmaaQNElems
import Derived.Test.YtbbhmjokiejnmaaQNW
import Derived.OwnWalkIn
import Derived.Maps.AppendAt
import Derived.RangeFuncBox
namespace Go.Proofs.Ytbbhmjokiejnmaa
open Go Go.RowKit Go.Shelf Go.Proofs.YtbbhmjokiejnmaaW.PrintWords
theorem own_turned {own : Nat → Prop} {A B : World} {base : Nat} {e : TypeId} {size n : Nat} {v : Value} {xs : List Value} (h : A.ownsRow base e size v n xs) (ht : Turned own A B) (hn : ∀ k, base ≤ k → ¬ own k) : B.ownsRow base e size v n xs :=
  own_move h (fun k hk => ht.block k (own_lt h k hk) (hn k (own_base h k hk)))
theorem boxed_turned {own : Nat → Prop} {A B : World} {b : Nat} {t : TypeId} {v : Value} (h : Boxed A b t v) (ht : Turned own A B) (hn : ¬ own b) : Boxed B b t v := ht.heap hn h
/-- 'x = append(x, ..)' where x lies in a box and its row begins at n₀ or behind. -/
theorem boxed_appended {W w1 : World} {n₀ B : Nat} {t e : TypeId} {size : Nat} {v v' : Value} {k m : Nat} {xs ys : List Value} {tmp : Obj}
    (hv : Boxed W B t v) (hte : t ≠ e) (hrow : W.ownsRow n₀ e size v k xs) (hown' : w1.ownsRow n₀ e size v' m ys) (hgrow : (W.alloc tmp).grownBy w1 v.ownBlock) :
    Boxed w1 B t v ∧ Boxed (w1.setCell ⟨B, 0, none⟩ v') B t v' ∧ (w1.setCell ⟨B, 0, none⟩ v').ownsRow n₀ e size v' m ys ∧ KeepsOthers W (w1.setCell ⟨B, 0, none⟩ v') ∧ Turned (fun k => k = B ∨ n₀ ≤ k) W (w1.setCell ⟨B, 0, none⟩ v') := by
  obtain ⟨h1, h2, _, h4, _⟩ := hv.appended hte (own_weaken hrow (Nat.zero_le _)) (Nat.zero_le _) (Nat.zero_le _) (own_weaken hown' (Nat.zero_le _)) hgrow
  refine ⟨h1, h2, hown'.kept (grownBy_setCell' w1 B v') (.inr (h1.not_row hte hown').symm), h4, ?_⟩
  exact ((Turned.alloc W tmp).trans (Turned.grown hgrow (fun j hj => .inr (own_base hrow j hj)))).trans (Turned.setCell _ _ _ (.inl rfl))
theorem Try.infoStr : (Try.prog.info? 9).map (fun i => (i.zero, i.size, i.bytes)) = some (some (.string ⟨#[]⟩), 1, 16) := by kernel_rfl
attribute [local go_sem] Oper.semAt_some
set_option maxHeartbeats 2000000 in
set_option maxRecDepth 100000 in
/-- slices.AppendSeq(nil, seq) over an iterator with a state of its own. -/
theorem appendSeq_calls (gf : Nat) (lb : Array Value) (eg : ∀ args w, (callFunc gf args).run Try.prog w = .ok (.enter gf args) w) (xs : List ByteArray) (B : Nat) (hN : xs.length ≤ 1048577) (w : World) (hBw : B < w.heap.size)
    (hseq : ∀ n, 1 ≤ n → SeqB Fence.wide n Try.prog gf lb (fun x : ByteArray => #[.string x]) (fun k => k = B) (B + 1) (fun ys => ys = xs) (fun pre => pre <+: xs) xs.length w) :
    Calls Try.prog 102 #[.slice none 0 0, .func (.func gf) #[] lb] w fun e w' => ∃ v, e = .returned v ∧ Kd.R Kd.string 9 w' w.heap.size (fun _ => True) v xs ∧ Turned (fun k => k = B) w w' := by
  refine (callsIn_wide (n := 4)).1 ?_
  refine callsIn_of_wp_marks Try.func102 rfl trivial ?_ rfl
  simp only [Try.ntmps102, List.size_toArray, List.length_cons, List.length_nil, Nat.reduceAdd, Nat.reduceSub, Array.replicate_succ, Array.replicate_zero, List.push_toArray, List.append_toArray, List.nil_append, List.cons_append]
  gi_wp2
  have hb0 : Below w.heap.size w (w.alloc (.cells #[.slice none 0 0] 41)) := (Below.refl _ w).alloc (Nat.le_refl _) _
  obtain ⟨i0, hi, hz0, hz1, hz2⟩ := info_parts Try.infoStr
  refine wpIn_rangeB rfl (by omega) (gf := gf) (lb := lb) rfl trivial eg (hseq _ (by omega)) (fun k h => by subst h; simp; omega) (by simp; omega) hb0 (fun _ => rfl)
    (fun pre W => (∃ v, Boxed W w.heap.size 41 v ∧ W.ownsRow (w.heap.size + 3) 9 1 v pre.length (pre.map Value.string)) ∧ Turned (fun k => k = B) w W)
    (fun _ _ _ => False)
    (fun s A A' hs ht => by
      obtain ⟨⟨v, hv, hr⟩, hw⟩ := hs
      simp only [World.size_alloc] at ht
      exact ⟨⟨v, boxed_turned hv ht (by omega), own_turned hr ht (by omega)⟩, abidesT_turned (β := Unit) (fun k h => by omega) () _ _ hw ht⟩)
    (fun _ _ _ _ h _ => h)
    ⟨⟨_, Boxed.new w _ _, own_nil _ _ _ _⟩, Turned.alloc _ _⟩
    (fun _ x a' _ => a' = { tmps := #[.slice none 0 0, .func (.func gf) #[] lb, .pointer (some ⟨w.heap.size, 0, none⟩), undef, .slice none 0 0, .string x, .func (.func gf) #[] lb, .string x, undef, undef, undef, undef, undef], defers := [] })
    (fun _ _ _ _ _ _ h _ => h) ?assign ?body ?done ?stop
  case assign =>
    intro l pre x W K hsz hI hK
    gi_wp2
    exact hK _ _ (KeepsFrom.refl _ _) (Below.refl _ _) hI rfl
  case body =>
    rintro l pre x a' W hsz ⟨rc, hrc⟩ rfl ⟨⟨v, hv, hrow⟩, hT⟩ rfl hlen
    simp only [World.size_alloc] at hsz hrc
    have hle : w.heap.size + 3 ≤ W.heap.size := by omega
    have hvc := hv.cell
    have hvf := hv.frozen
    clear hseq eg
    gi_wp2_with (gi_at_builtin; refine wpListIn_append_own _ rfl _ _ 41 rfl (w.heap.size + 3) 9 i0 (.string ⟨#[]⟩) 1 16 Try.underlying41 hi hz0 hz1 hz2 rfl (by decide) _ _ _ rfl (hrow.alloc _) ⟨W.heap.size, 0, none⟩ 1 1 [.string x] rfl rfl (cell_one_new _ _ _) (by simp [Value.oneCell']) (by unfold maxLen; omega) (by omega) (by simp; omega) ?_; intro v' w3 hown' hgrow _; obtain ⟨g', cap', rfl⟩ := ownsRow_succ hown'; obtain ⟨hv1, hv2, hr2, hk2, hT2⟩ := boxed_appended hv (by decide) hrow hown' hgrow; have hc1 := hv1.cell; have hf1 := hv1.frozen)
    refine ⟨hk2.from _, hT2.below (by omega) (fun k h => by omega), ⟨⟨_, hv2, by simpa using hr2⟩, ?_⟩⟩
    exact abidesT_turned (β := Unit) (fun k h => by omega) () _ _ hT hT2
  case done =>
    rintro ys W hsz rfl ⟨⟨v, hv, hrow⟩, hT⟩ hK
    have hvc := hv.cell
    gi_wp2
    refine ⟨by simp, .inl ⟨_, _, rfl, run_takeDeferred hK, ?_⟩⟩
    have ht3 : Turned (fun k => k = w.heap.size + 1) W (W.putObj (w.heap.size + 1) (.deferred none)) := Turned.putObj _ _ _ rfl
    simp only [World.size_alloc]
    refine ⟨_, results_tmp rfl _ _ _, v, rfl, Kd.R_of_own (own_weaken (own_turned hrow ht3 (by omega)) (by omega)) (fun _ _ => trivial), ?_⟩
    exact abidesT_turned (β := Unit) (fun k h => by omega) () _ _ hT ht3
  case stop =>
    rintro c pre W _ _ h _
    exact h.elim
set_option maxHeartbeats 2000000 in
set_option maxRecDepth 100000 in
theorem collect_calls (gf : Nat) (lb : Array Value) (eg : ∀ args w, (callFunc gf args).run Try.prog w = .ok (.enter gf args) w) (xs : List ByteArray) (B : Nat) (hN : xs.length ≤ 1048577) (w : World) (hBw : B < w.heap.size)
    (hseq : ∀ n, 1 ≤ n → SeqB Fence.wide n Try.prog gf lb (fun x : ByteArray => #[.string x]) (fun k => k = B) (B + 1) (fun ys => ys = xs) (fun pre => pre <+: xs) xs.length w) :
    Calls Try.prog 87 #[.func (.func gf) #[] lb] w fun e w' => ∃ v, e = .returned v ∧ Kd.R Kd.string 9 w' w.heap.size (fun _ => True) v xs ∧ Turned (fun k => k = B) w w' := by
  have hc := appendSeq_calls gf lb eg xs B hN w hBw hseq
  have HC := Lib.hid hc
  clear hc hseq eg
  go_enter Try.func87, Try.ntmps87
  go_wp2_with (go_at_call 102; refine HC.out.mono ?_; rintro e w' ⟨v, rfl, hR, hT⟩)
  go_ret
  exact ⟨v, rfl, hR, hT⟩
def paths_Elems.f (a0 : ByteArray) : Option (List ByteArray) := if a0.size ≤ 1048576 then some (elemsB a0) else none
set_option maxHeartbeats 2000000 in
set_option maxRecDepth 100000 in
theorem paths_Elems.calls (a0 : ByteArray) (r : List ByteArray) (w : World) (h : paths_Elems.f a0 = some r) :
    Calls Try.prog 71 #[.string a0] w fun e w' => ∃ v0_ : Value, e = .returned (v0_) ∧ Kd.R Kd.string 9 w' w.heap.size (fun _ => True) v0_ r ∧ Below w.heap.size w w' := by
  unfold paths_Elems.f at h
  split at h
  · rename_i hs
    injection h with h
    subst h
    have hlen := elemsB_length a0
    have hc := collect_calls 99 #[.pointer (some ⟨w.heap.size, 0, none⟩)] (enters_of Try.func99 (by kernel_rfl) rfl) (elemsB a0) w.heap.size (by omega) (w.alloc (.cells #[.string a0] 9)) (by simp)
      (fun n hn => paths_elems1_seq n w.heap.size a0 _ (Boxed.new w _ _) (by omega) hn)
    have HC := Lib.hid hc
    clear hc
    go_enter Try.func71, Try.ntmps71
    go_wp2_with (first
      | (go_at_call 84; refine (paths_elems_calls _ _).mono ?_; rintro e w' ⟨rfl, rfl⟩)
      | (go_at_call 87; refine HC.out.mono ?_; rintro e w' ⟨v, rfl, hR, hT⟩))
    go_ret
    refine ⟨v, rfl, Kd.R_lower hR (by simp), ?_⟩
    exact ((Below.refl _ w).alloc (Nat.le_refl _) _).trans (hT.below (by simp) (fun k h => by omega))
  · cases h
end Go.Proofs.Ytbbhmjokiejnmaa

