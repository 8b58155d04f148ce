/- paths.fine, paths.Valid. -/
import Derived.Test.YtbbhmjokiejnmaaQNElems
import Derived.Test.YtbbhmjokiejnmaaQNColl
namespace Go.Proofs.Ytbbhmjokiejnmaa
open Go Go.RowKit Go.Shelf Go.Proofs.YtbbhmjokiejnmaaW.PrintWords
set_option maxHeartbeats 1000000 in
set_option maxRecDepth 100000 in
theorem paths_fine_calls (c : UInt8) (w : World) :
    Calls Try.prog 85 #[.int .u8 (c.toNat : Int)] w fun e w' => e = .returned (.bool (fineB c)) ∧ w = w' := by
  have hcc : ((c.toNat : Int)).toNat.toUInt8 = c := by simp
  have hlt := c.toNat_lt
  generalize hx : fineB c = b
  unfold fineB oddSigns at hx
  by_cases h1 : 32 < c.toNat
  · by_cases h2 : c.toNat < 127
    · simp only [h1, h2, decide_true, Bool.true_and] at hx
      have HX := Lib.hid hx
      clear hx
      go_enter Try.func85, Try.ntmps85
      go_wp2_with (go_at_call 100; refine (strings_IndexByte _ _ _).mono ?_; rintro e w' ⟨rfl, rfl⟩)
      go_ret
      exact ⟨by rw [← HX.out]; simp, rfl⟩
    · simp only [h1, h2, decide_true, decide_false, Bool.true_and, Bool.false_and] at hx
      subst hx
      have h2' : decide ((c.toNat : Int) < 127) = false := by simp; omega
      go_enter Try.func85, Try.ntmps85
      go_wp2_with (go_at_call 100; refine (strings_IndexByte _ _ _).mono ?_; rintro e w' ⟨rfl, rfl⟩)
      go_ret
      exact ⟨rfl, rfl⟩
  · simp only [h1, decide_false, Bool.false_and] at hx
    subst hx
    go_enter Try.func85, Try.ntmps85
    go_wp2_with (go_at_call 100; refine (strings_IndexByte _ _ _).mono ?_; rintro e w' ⟨rfl, rfl⟩)
    go_ret
    exact ⟨rfl, rfl⟩
attribute [local go_sem] Oper.semAt_some
set_option maxHeartbeats 2000000 in
set_option maxRecDepth 100000 in
theorem paths_Valid_long (s : ByteArray) (w : World) (h : s.toList = [] ∨ 60 < s.size) :
    Calls Try.prog 69 #[.string s] w fun e w' => e = .returned (.bool false) ∧ Below w.heap.size w w' := by
  by_cases he : s.toList = []
  · have he' : s.toList.isEmpty = true := by rw [he]; rfl
    clear h he
    go_enter Try.func69, Try.ntmps69
    go_wp2
    refine bodyPost_ret (v := .bool false) (by simp [results, Try.results69, go_sem]) rfl ⟨rfl, ?_⟩
    exact (Below.refl _ w).alloc (Nat.le_refl _) _
  · have he' : s.toList.isEmpty = false := by simpa using he
    have hd : decide ((60 : Int) < s.size) = true := by have := h.resolve_left he; simp; omega
    clear h he
    go_enter Try.func69, Try.ntmps69
    go_wp2
    refine bodyPost_ret (v := .bool false) (by simp [results, Try.results69, go_sem]) rfl ⟨rfl, ?_⟩
    exact (Below.refl _ w).alloc (Nat.le_refl _) _
def ValidI (w : World) (pre : List ByteArray) (W : World) : Prop := pre.all elemB = true ∧ Boxed W w.heap.size 4 (.bool false) ∧ Below w.heap.size w W
def ValidIx (w : World) (c : Code) (pre : List ByteArray) (W : World) : Prop := c = .ret ∧ pre.all elemB = false ∧ Boxed W w.heap.size 4 (.bool false) ∧ Below w.heap.size w W
set_option maxHeartbeats 2000000 in
set_option maxRecDepth 100000 in
theorem paths_Valid_short (s : ByteArray) (w : World) (h1 : ¬ s.toList = []) (h2 : s.size ≤ 60) :
    Calls Try.prog 69 #[.string s] w fun e w' => e = .returned (.bool ((elemsB s).all elemB)) ∧ Below w.heap.size w w' := by
  have he' : s.toList.isEmpty = false := by simpa using h1
  have hd : decide ((60 : Int) < s.size) = false := by simp; omega
  clear h1
  refine (callsIn_wide (n := 4)).1 ?_
  refine callsIn_of_wp_marks Try.func69 rfl trivial ?_ rfl
  simp only [Try.ntmps69, List.size_toArray, List.length_cons, List.length_nil, Nat.reduceAdd, Nat.reduceSub, Array.replicate_succ, Array.replicate_zero, List.push_toArray, List.append_toArray, List.nil_append, List.cons_append]
  gi_wp2_with (refine ⟨trivial, ?_⟩; gi_at_call 84; refine (callsIn_wide.2 (paths_elems_calls _ _)).mono ?_; rintro e w' ⟨rfl, rfl⟩)
  clear he' hd
  have hb0 : Below w.heap.size w ((w.alloc (.cells #[.bool false] 4)).alloc (.cells #[.string s] 9)) := ((Below.refl _ w).alloc (Nat.le_refl _) _).alloc (by simp) _
  have hv0 : Boxed ((w.alloc (.cells #[.bool false] 4)).alloc (.cells #[.string s] 9)) w.heap.size 4 (.bool false) := (Boxed.new w _ _).alloc _
  have hB0 : Boxed ((w.alloc (.cells #[.bool false] 4)).alloc (.cells #[.string s] 9)) (w.heap.size + 1) 9 (.string s) := by
    have := Boxed.new (w.alloc (.cells #[.bool false] 4)) 9 (.string s)
    rwa [World.size_alloc] at this
  refine wpIn_rangeB rfl (by omega) (gf := 99) rfl trivial (enters_of Try.func99 (by kernel_rfl) rfl)
    (paths_elems1_seq _ (w.heap.size + 1) s _ hB0 (by omega) (by omega)) (fun k h => by subst h; simp) (by simp) (Below.refl _ _) (fun _ => rfl)
    (ValidI w) (ValidIx w)
    (fun s A A' hs ht => by
      simp only [World.size_alloc] at ht
      exact ⟨hs.1, boxed_turned hs.2.1 ht (by omega), abidesT_below (β := Unit) (Nat.le_refl _) (fun k h => by omega) () _ _ hs.2.2 ht⟩)
    (fun c s A A' hs ht => by
      simp only [World.size_alloc] at ht
      exact ⟨hs.1, hs.2.1, boxed_turned hs.2.2.1 ht (by omega), abidesT_below (β := Unit) (Nat.le_refl _) (fun k h => by omega) () _ _ hs.2.2.2 ht⟩)
    ⟨rfl, hv0, hb0⟩
    (fun _ x a' _ => a' = { tmps := #[.string s, undef, .pointer (some ⟨w.heap.size, 0, none⟩), .string x, undef, .string s, .bool false, .bool false, .string s, .int .i64 s.size, .bool false, .bool false, .string s, .func (.func 99) #[] #[.pointer (some ⟨w.heap.size + 1, 0, none⟩)], .string x, undef, undef, undef, undef, undef, undef, undef, undef, undef, undef, undef, undef, undef, undef, undef, undef, undef, undef, undef, undef, undef, undef, undef, undef, undef, undef], defers := [] })
    (fun _ _ _ _ _ _ h _ => h) ?assign ?body ?done ?stop
  case assign =>
    intro l pre x W K hsz hI hK
    gi_wp2
    exact hK _ _ (KeepsFrom.refl _ _) (Below.refl _ _) hI rfl
  case body =>
    rintro l pre x a' W hsz ⟨rc, hrc⟩ rfl ⟨hall, hv, hB⟩ rfl hlen
    simp only [World.size_alloc] at hsz hrc
    clear hb0 hv0 hB0
    have hvc := hv.cell
    have hvf := hv.frozen
    have bad : elemB x = false → ∀ D W', W' = W.setCell ⟨w.heap.size, 0, none⟩ (.bool false) → KeepsFrom D W W' ∧ ValidIx w .ret (pre ++ [x]) W' := by
      rintro hx D W' rfl
      exact ⟨(KeepsOthers.setCell _ _ _).from _, rfl, by simp [hx], hv.set _, hB.setCell (p := ⟨w.heap.size, 0, none⟩) (Nat.le_refl _) _⟩
    have HB := Lib.hid bad
    clear bad
    by_cases q1 : x.toList = []
    · have q1' : x.toList.isEmpty = true := by rw [q1]; rfl
      have hx : elemB x = false := by simp [elemB, q1]
      have HX := Lib.hid hx
      clear q1 hx
      gi_wp2
      exact HB.out HX.out _ _ rfl
    have q1' : x.toList.isEmpty = false := by simpa using q1
    by_cases q2 : 30 < x.size
    · have q2' : decide ((30 : Int) < x.size) = true := by simp; omega
      have hx : elemB x = false := by unfold elemB; simp; omega
      have HX := Lib.hid hx
      clear q1 q2 hx
      gi_wp2
      exact HB.out HX.out _ _ rfl
    have q2' : decide ((30 : Int) < x.size) = false := by simp; omega
    by_cases q3 : x.toList = [46]
    · have q3' : (x.toList == [46]) = true := by rw [q3]; rfl
      have hx : elemB x = false := by simp [elemB, q3]
      have HX := Lib.hid hx
      clear q1 q2 q3 hx
      gi_wp2
      exact HB.out HX.out _ _ rfl
    have q3' : (x.toList == [46]) = false := by simpa using q3
    by_cases q4 : x.toList = [46, 46]
    · have q4' : (x.toList == [46, 46]) = true := by rw [q4]; rfl
      have hx : elemB x = false := by simp [elemB, q4]
      have HX := Lib.hid hx
      clear q1 q2 q3 q4 hx
      gi_wp2
      exact HB.out HX.out _ _ rfl
    have q4' : (x.toList == [46, 46]) = false := by simpa using q4
    have hx : elemB x = x.data.toList.all fineB := by
      unfold elemB
      have e1 : (x.toList == []) = false := by simpa using q1
      rw [e1, q3', q4']
      have : decide (x.size ≤ 30) = true := by simp; omega
      rw [this]; simp
    have HX := Lib.hid hx
    have hx30 : x.size ≤ 30 := by omega
    clear q1 q2 q3 q4 hx
    gi_wp2
    gi_loopw [32] (fun i wr => ∃ k : Nat, k ≤ x.size ∧ i = .int .i64 k ∧ Hid ((x.data.toList.take k).all fineB = true) ∧ W = wr) (fun i _ => x.size - (intOf i).toNat)
    case atStart => exact ⟨0, Nat.zero_le _, rfl, Lib.hid (by simp), rfl⟩
    case round =>
      obtain ⟨k, hk, rfl, hA, rfl⟩ := hrel
      by_cases hlt : k < x.size
      · have hstep : x.data.toList.take (k + 1) = x.data.toList.take k ++ [x[k]] := by
          rw [List.take_succ_eq_append_getElem (by simpa using hlt)]; rfl
        have HS := Lib.hid hstep
        have hmem : x[k] ∈ x.data.toList := by
          have : x[k] = x.data.toList[k]'(by simpa using hlt) := rfl
          rw [this]; exact List.getElem_mem _
        have HM := Lib.hid hmem
        clear hstep hmem
        cases hf : fineB x[k] with
        | true =>
          have HF := Lib.hid hf
          clear hf
          gi_wp2_with (refine ⟨trivial, ?_⟩; gi_at_call 85; refine (CallsIn.inRound _ (callsIn_wide.2 (paths_fine_calls _ _))).mono ?_; rintro e w' ⟨rfl, rfl⟩; rw [HF.out])
          go_roundw
          case rel => exact ⟨k + 1, by omega, by go_num, Lib.hid (by rw [HS.out, List.all_append, hA.out]; simp [HF.out]), by trivial⟩
          case measure => simp [intOf]; omega
        | false =>
          have HF := Lib.hid hf
          clear hf
          gi_wp2_with (refine ⟨trivial, ?_⟩; gi_at_call 85; refine (CallsIn.inRound _ (callsIn_wide.2 (paths_fine_calls _ _))).mono ?_; rintro e w' ⟨rfl, rfl⟩; rw [HF.out])
          refine HB.out ?_ _ _ rfl
          rw [HX.out, List.all_eq_false]
          exact ⟨_, HM.out, by rw [HF.out]; simp⟩
      · have hall2 : x.data.toList.all fineB = true := by
          have := hA.out
          rwa [List.take_of_length_le (by rw [← Lib.size_eq]; omega)] at this
        have HA2 := Lib.hid hall2
        clear hall2
        gi_wp2
        exact ⟨KeepsFrom.refl _ _, Below.refl _ _, by rw [List.all_append, hall, Bool.true_and]; simp only [List.all_cons, List.all_nil, Bool.and_true]; rw [HX.out]; exact HA2.out, hv, hB⟩
  case done =>
    rintro ys W hsz rfl ⟨hall, hv, hB⟩ hK
    have hvc := hv.cell
    have hvf := hv.frozen
    have HA := Lib.hid hall
    clear hall
    gi_wp2
    simp only [World.size_alloc] at hK ⊢
    have hK' := (KeepsOthers.setCell W ⟨w.heap.size, 0, none⟩ (.bool true)).same _ _ hK rfl
    refine ⟨by simp, .inl ⟨_, _, rfl, run_takeDeferred hK', ?_⟩⟩
    have ht3 : Turned (fun k => k = w.heap.size + 1 + 1) (W.setCell ⟨w.heap.size, 0, none⟩ (.bool true)) ((W.setCell ⟨w.heap.size, 0, none⟩ (.bool true)).putObj (w.heap.size + 1 + 1) (.deferred none)) := Turned.putObj _ _ _ rfl
    have hv3 := (boxed_turned (hv.set (.bool true)) ht3 (by omega)).cell
    refine ⟨.bool true, by simp [results, Try.results69, go_sem, hv3], by rw [HA.out], ?_⟩
    exact (hB.setCell (p := ⟨w.heap.size, 0, none⟩) (Nat.le_refl _) _).trans (ht3.below (by have := hB.size; simp [World.setCell]; omega) (fun k h => by omega))
  case stop =>
    rintro c pre W hsz hpre ⟨rfl, hall, hv, hB⟩ hK
    have hvc := hv.cell
    have hfin : (elemsB s).all elemB = false := by
      rw [List.all_eq_false] at hall ⊢
      obtain ⟨y, hy, hn⟩ := hall
      exact ⟨y, hpre.subset hy, hn⟩
    have HA := Lib.hid hfin
    clear hfin hall
    gi_wp2
    simp only [World.size_alloc] at hK ⊢
    refine ⟨by simp, .inl ⟨_, _, rfl, run_takeDeferred hK, ?_⟩⟩
    have ht3 : Turned (fun k => k = w.heap.size + 1 + 1) W (W.putObj (w.heap.size + 1 + 1) (.deferred none)) := Turned.putObj _ _ _ rfl
    have hv3 := (boxed_turned hv ht3 (by omega)).cell
    refine ⟨.bool false, by simp [results, Try.results69, go_sem, hv3], by rw [HA.out], ?_⟩
    exact hB.trans (ht3.below hB.size (fun k h => by omega))
def paths_Valid.f (a0 : ByteArray) : Option Bool := some (validB a0)
theorem paths_Valid.calls (a0 : ByteArray) (r : Bool) (w : World) (h : paths_Valid.f a0 = some r) :
    Calls Try.prog 69 #[.string a0] w fun e w' => e = .returned (.bool r) ∧ Below w.heap.size w w' := by
  injection h with h
  subst h
  by_cases h1 : a0.toList = []
  · have e : validB a0 = false := by simp [validB, h1]
    rw [e]; exact paths_Valid_long a0 w (.inl h1)
  · by_cases h2 : 60 < a0.size
    · have e : validB a0 = false := by unfold validB; simp; omega
      rw [e]; exact paths_Valid_long a0 w (.inr h2)
    · have e : validB a0 = (elemsB a0).all elemB := by
        unfold validB
        have e1 : (a0.toList == []) = false := by simpa using h1
        have e2 : decide (a0.size ≤ 60) = true := by simp; omega
        rw [e1, e2]; simp
      rw [e]; exact paths_Valid_short a0 w h1 (by omega)
end Go.Proofs.Ytbbhmjokiejnmaa

