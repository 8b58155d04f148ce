/- slices.Insert over files: one file, at any place. -/
import Derived.Test.YtbbhmjokiejnmaaQNInsEndT
import Derived.Test.YtbbhmjokiejnmaaQNInsert
import Derived.Shelf.Spec.SlicesInsertGrow
namespace Go.Proofs.Ytbbhmjokiejnmaa
open Go Go.RowKit Go.Lib Go.Proofs.Ytbbhmjokiejnmaa.Hy Go.Proofs.YtbbhmjokiejnmaaW.PrintWords
set_option linter.unusedVariables false
theorem shift_ownT {w : World} {base b c i : Nat} {l : List ByteArray} (x : ByteArray) (hn : l.length + 1 ≤ c) (hi : i ≤ l.length) (HO : OwnFT w base (.slice (some ⟨b, 0, none⟩) l.length c) l) :
    OwnFT ((w.drew.setCells b ((i + 1)) (cellsFT (l.drop i))).setCells b i [.string x]) base (.slice (some ⟨b, 0, none⟩) (l.length + 1) c) (l.take i ++ x :: l.drop i) := by
  obtain ⟨h1, h2⟩ := HO
  rcases h2 with ⟨h2, _⟩ | ⟨g, cap, cur, hv, hb, hh, hnc, hmax, hsz, htk⟩
  · cases h2
  · injection hv with hv1 hv2 hv3
    injection hv1 with hv1
    injection hv1 with hv1 _ _
    subst hv1 hv3
    rw [Nat.mul_one] at hsz htk
    have hlen : (l.take i ++ x :: l.drop i).length = l.length + 1 := by rw [List.length_append, List.length_cons, List.length_take, List.length_drop]; omega
    obtain ⟨cur1, k1, k2, k3⟩ := setCells_row (cellsFT (l.drop i)) ((i + 1)) w.drew cur hh (by rw [cellsFT_length, List.length_drop]; omega)
    obtain ⟨cur2, m1, m2, m3⟩ := setCells_row [.string x] i _ cur1 k1 (by rw [k2]; simp only [List.length_cons, List.length_nil]; omega)
    refine ⟨by rw [cellsFT_length, Nat.mul_one], .inr ⟨b, c, cur2, by rw [hlen], hb, m1, by omega, hmax, by rw [m2, k2, hsz, Nat.mul_one], ?_⟩⟩
    rw [hlen, Nat.mul_one, m3, k3]
    have hcur : cur.toList = cellsFT (l.take i) ++ cellsFT (l.drop i) ++ cur.toList.drop l.length := by
      rw [← cellsFT_append, List.take_append_drop, ← htk, List.take_append_drop]
    have hla : (cellsFT (l.take i)).length = i := by rw [cellsFT_length, List.length_take]; omega
    have hlb : (cellsFT (l.drop i)).length = (l.length - i) := by rw [cellsFT_length, List.length_drop]
    have := ins_list (cellsFT (l.take i)) (cellsFT (l.drop i)) (cur.toList.drop l.length) [Value.string x] cur.toList i 1 ((l.length - i)) hla hlb rfl (by rw [List.length_drop, Array.length_toList]; omega) hcur
    rw [hlb]
    rw [show l.length + 1 = i + 1 + (l.length - i) from by omega]
    simp only [List.length_cons, List.length_nil, Nat.zero_add]
    rw [this, cellsFT_append]
    simp [cellsFT]
theorem ownF_cellsT {w : World} {base b c : Nat} {l : List ByteArray} (HO : OwnFT w base (.slice (some ⟨b, 0, none⟩) l.length c) l) :
    base ≤ b ∧ ∃ cur : Array Value, w.heap[b]? = some (.cells cur 9 (0, 0)) ∧ cur.size = c ∧ l.length ≤ c ∧ c ≤ maxLen ∧ (∀ j v, (cellsFT l)[j]? = some v → w.cell? ⟨b, j, none⟩ = some v) := by
  obtain ⟨h1, h2⟩ := HO
  rcases h2 with ⟨h2, _⟩ | ⟨g, cap, cur, hv, hb, hh, hnc, hmax, hsz, htk⟩
  · cases h2
  · injection hv with hv1 hv2 hv3
    injection hv1 with hv1
    injection hv1 with hv1 _ _
    subst hv1 hv3
    rw [Nat.mul_one] at hsz htk
    refine ⟨hb, cur, hh, hsz, hnc, hmax, fun j v hj => ?_⟩
    rw [← htk] at hj
    rw [List.getElem?_take] at hj
    split at hj
    · rw [blk_cell hh]; simpa using hj
    · cases hj
theorem Try.sizeStr : ∀ w, (Go.sizeOf 9).run Try.prog w = .ok 1 w := by
  intro w
  obtain ⟨i0, hi, hz0, hz1, hz2⟩ := info_parts Try.infoStr
  simp [Go.sizeOf, typeInfo, hi, hz1]
set_option maxHeartbeats 4000000 in
set_option maxRecDepth 100000 in
theorem insert_shift_callsT (b c i : Nat) (l : List ByteArray) (x : ByteArray) (base vb : Nat) (w : World) (HO : OwnFT w base (.slice (some ⟨b, 0, none⟩) l.length c) l) (hroom : l.length + 1 ≤ c) (hi : i < l.length) (hx : w.heap[vb]? = some (.cells #[.string x] 9 (0, 0))) (hvb : vb ≠ b) (hl : l.length ≤ 1048577) :
    Calls Try.prog 78 #[.slice (some ⟨b, 0, none⟩) l.length c, .int .i64 (i : Int), .slice (some ⟨vb, 0, none⟩) 1 1] w fun e w' => ∃ v', e = .returned v' ∧ InsPostT w w' base (.slice (some ⟨b, 0, none⟩) l.length c) v' (l.take i ++ x :: l.drop i) := by
  obtain ⟨hbb, cur, hh, hsz, hnc, hmax, hcs⟩ := ownF_cellsT HO
  have hmax' : c ≤ 9223372036854775807 := by unfold maxLen at hmax; omega
  obtain ⟨i0, hi0, hz0, hz1, hz2⟩ := info_parts Try.infoStr
  have hut := Try.underlying41
  have hc1 : ∀ W : World, (Instr.slice 41 (.slice (some ⟨b, 0, none⟩) l.length c) (some (.int .i64 (i : Int))) none none).run Try.prog W = .ok (.slice (some ⟨b, i, none⟩) (l.length - i) (c - i)) W := fun W => by
    have := cut_from (P := Try.prog) 41 9 .i64 hut hi0 1 hz1 (some ⟨b, 0, none⟩) l.length c (i : Int) (by omega) (by omega) W
    rw [this, Int.toNat_natCast, if_neg (by omega)]
    simp only [Option.map_some, add_plain, Nat.mul_one]
  have hc2 : ∀ W : World, (Instr.slice 41 (.slice (some ⟨b, 0, none⟩) l.length c) none (some (.int .i64 ((l.length : Int) + 1))) none).run Try.prog W = .ok (.slice (some ⟨b, 0, none⟩) (l.length + 1) c) W := fun W => by
    have hel : Try.prog.elem 41 = 9 := by simp [Program.elem, hut]
    have hu : Try.prog.underlying 41 = some (.slice (Try.prog.elem 41)) := by rw [hel]; exact hut
    rw [run_slice_h W _ _ _ _ hu .i64 ((l.length : Int) + 1) (by omega) (by omega)]
    rw [show ((l.length : Int) + 1).toNat = l.length + 1 from by omega, hel, Try.sizeStr W]
    simp [Result.andThen, sliced, Addr.add]
  have hc3 : ∀ W : World, (Instr.slice 41 (.slice (some ⟨b, 0, none⟩) (l.length + 1) c) (some (.int .i64 ((i : Int) + 1))) none none).run Try.prog W = .ok (.slice (some ⟨b, (i + 1), none⟩) (l.length - i) (c - (i + 1))) W := fun W => by
    have := cut_from (P := Try.prog) 41 9 .i64 hut hi0 1 hz1 (some ⟨b, 0, none⟩) (l.length + 1) c ((i : Int) + 1) (by omega) (by omega) W
    rw [this, show ((i : Int) + 1).toNat = i + 1 from by omega, if_neg (by omega)]
    simp only [Option.map_some, add_plain, Nat.add_sub_add_right, Nat.mul_one]
  have hc4 : ∀ W : World, (Instr.slice 41 (.slice (some ⟨b, 0, none⟩) (l.length + 1) c) (some (.int .i64 (i : Int))) none none).run Try.prog W = .ok (.slice (some ⟨b, i, none⟩) (l.length + 1 - i) (c - i)) W := fun W => by
    have := cut_from (P := Try.prog) 41 9 .i64 hut hi0 1 hz1 (some ⟨b, 0, none⟩) (l.length + 1) c (i : Int) (by omega) (by omega) W
    rw [this, Int.toNat_natCast, if_neg (by omega)]
    simp only [Option.map_some, add_plain, Nat.mul_one]
  have hsa : w.shape? vb = some (9, 1) := by simp [World.shape?, hx]
  have hsb : w.shape? b = some (9, c) := by simp [World.shape?, hh, hsz]
  have hfa : w.frozen? ⟨vb, 0, none⟩ = false := blk_frozen hx 0
  have hfe : w.frozen? ⟨vb, 1, none⟩ = false := blk_frozen hx 1
  have hov : ∀ lb cb, (callFunc 93 #[.slice (some ⟨vb, 0, none⟩) 1 1, .slice (some ⟨b, (i + 1), none⟩) lb cb]).run Try.prog w = .ok (.value (.bool false)) w := fun lb cb => by
    rw [run_callFunc_extern Try.func93 (by kernel_rfl) (by kernel_rfl) (by kernel_rfl) (e := Extern.SlicesOverlaps.overlaps #[41, 41] #[4]) (by kernel_rfl),
      Lib.run_overlaps_apart w 41 4 9 hut 1 Try.sizeStr ⟨vb, 0, none⟩ ⟨b, (i + 1), none⟩ 1 1 lb cb hvb 9 9 1 c hsa hsb (by omega) hfa hfe]
    rfl
  have hszm : (Try.prog.info? 9).map (·.size) = some 1 := by rw [hi0]; simp [hz1]
  have hdl : (cellsFT (l.drop i)).length = (l.length - i) := by rw [cellsFT_length, List.length_drop]
  have hsp : ∀ k, k < c → (w.cell? ⟨b, k, none⟩).isSome = true := fun k hk => by rw [blk_cell hh, Array.getElem?_eq_getElem (by omega)]; rfl
  have hcp1 : ∀ ty dc sc, (Builtin.copy_ #[41, 41] ty #[.slice (some ⟨b, (i + 1), none⟩) (l.length - i) dc, .slice (some ⟨b, i, none⟩) (l.length + 1 - i) sc]).run Try.prog w.drew = .ok (goInt ((l.length - i : Nat) : Int)) (w.drew.setCells b ((i + 1)) (cellsFT (l.drop i))) := fun ty dc sc =>
    run_copyN w.drew 41 41 ty 9 1 b ((i + 1)) (l.length - i) dc ⟨b, i, none⟩ (l.length + 1 - i) sc (cellsFT (l.drop i)) (l.length - i) hut hszm (by simp only [Nat.min_def]; split <;> omega) (by rw [Nat.mul_one]; exact hdl)
      (fun j v hj => by rw [Addr.add_lit]; refine hcs (i + j) v ?_; rw [← cellsFT_drop, List.getElem?_drop] at hj; exact hj)
      (fun j hj => hsp _ (by omega)) (fun j hj => blk_frozen (w := w) hh _) (cellsFT_one _)
  obtain ⟨W1, hW1⟩ : ∃ W1, W1 = w.drew.setCells b ((i + 1)) (cellsFT (l.drop i)) := ⟨_, rfl⟩
  obtain ⟨cur1, g1, g2, g3⟩ := setCells_row (cellsFT (l.drop i)) ((i + 1)) w.drew cur hh (by omega)
  rw [← hW1] at g1
  have hvbw : vb < w.heap.size := (Array.getElem?_eq_some_iff.1 hx).1
  have hx1 : W1.heap[vb]? = some (.cells #[.string x] 9 (0, 0)) := by rw [hW1, setCells_far _ _ _ hvb]; exact hx
  have hcp2 : ∀ ty dc, (Builtin.copy_ #[41, 41] ty #[.slice (some ⟨b, i, none⟩) (l.length + 1 - i) dc, .slice (some ⟨vb, 0, none⟩) 1 1]).run Try.prog W1 = .ok (goInt 1) (W1.setCells b i [.string x]) := fun ty dc =>
    run_copyN W1 41 41 ty 9 1 b i (l.length + 1 - i) dc ⟨vb, 0, none⟩ 1 1 [.string x] 1 hut hszm (by simp only [Nat.min_def]; split <;> omega) rfl
      (fun j v hj => by
        rw [Addr.add_lit, Nat.zero_add, blk_cell hx1]
        simpa using hj)
      (fun j hj => by simp only [List.length_cons, List.length_nil] at hj; have hq : i + j < cur1.size := by rw [g2]; omega
                      rw [blk_cell g1, Array.getElem?_eq_getElem hq]; rfl) (fun j hj => blk_frozen g1 _) (by simp [Value.oneCell'])
  have hfin := shift_ownT (l := l) (i := i) (c := c) x hroom (by omega) HO
  rw [← hW1] at hfin
  have hgr : w.grownBy (W1.setCells b i [.string x]) (some b) := by
    have h1 : w.grownBy W1 (some b) := by
      rw [hW1]
      have := setCells_grownBy w.drew b (cellsFT (l.drop i)) ((i + 1))
      exact ⟨this.os, this.tape, this.output, this.size, this.block⟩
    have h2 := setCells_grownBy W1 b [.string x] i
    exact ⟨h2.os.trans h1.os, h2.tape.trans h1.tape, h2.output.trans h1.output, Nat.le_trans h1.size h2.size, fun k hk hkb => (h2.block k (Nat.lt_of_lt_of_le hk h1.size) hkb).trans (h1.block k hk hkb)⟩
  rw [← hW1] at hcp1
  have hz2' : ¬ ((i : Int) = (l.length : Int)) := by omega
  have hz3 : ¬ ((c : Int) < (l.length : Int) + 1) := by omega
  clear hsa hsb hfa hfe hx hsp hcs hh hsz hx1 g1 g2 g3 HO hi0 hz0 hz1 hz2 hszm hdl hmax hut
  have HFIN := Lib.hid hfin
  have HGR := Lib.hid hgr
  clear hfin hgr
  clear hW1
  have mixed : Try.prog.follows .mixedOrders = true := by kernel_rfl
  have hw1 : IntKind.i64.wrap ((i : Int) + 1) = (i : Int) + 1 := by rw [IntKind.wrap_i64]; omega
  have hb1 : (0 : Int) ≤ (i : Int) + 1 := by omega
  have hb2 : ¬ (c = i + 1) := by omega
  have hb3 : (i : Int) ≤ (l.length : Int) + 1 := by omega
  have hb4 : ¬ (c = i) := by omega
  have hb5 : (i : Int) + 1 ≤ (l.length : Int) + 1 := by omega
  have htn : ((i : Int) + 1).toNat = i + 1 := by omega
  have hin : i ≤ l.length := by omega
  go_enter Try.func78, Try.ntmps78
  go_wp2_with (simp only [hov])
  go_region_law_o (refine step_copy_runI rfl _ _ 41 41 rfl _ _ (by simp [Act.eval, Act.put]) (by simp [Act.eval, Act.put]) (hcp1 _ _ _) ?_)
  go_wp2_with (at_builtin; refine wpList_copy_runI _ rfl _ _ 41 41 rfl _ _ rfl rfl (hcp2 _ _) ?_)
  go_ret
  exact ⟨_, rfl, HFIN.out, HGR.out, .inl rfl⟩
theorem grow_ownT (w : World) {base i : Nat} {l : List ByteArray} (x : ByteArray) (ROW : Array Value) (G : Nat) (hi : i ≤ l.length) (hb : base ≤ w.heap.size) (hG : l.length + 1 ≤ G) (hGm : G ≤ maxLen) (hsz : ROW.size = G) (hpre : ROW.toList.take i = cellsFT (l.take i)) :
    OwnFT ((((w.alloc (.cells ROW 9)).setCells w.heap.size i [.string x]).drew).setCells w.heap.size ((i + 1)) (cellsFT (l.drop i))) base (.slice (some ⟨w.heap.size, 0, none⟩) (l.length + 1) G) (l.take i ++ x :: l.drop i) := by
  have hh : (w.alloc (.cells ROW 9)).heap[w.heap.size]? = some (.cells ROW 9 (0, 0)) := Array.getElem?_push_size
  have hlen : (l.take i ++ x :: l.drop i).length = l.length + 1 := by rw [List.length_append, List.length_cons, List.length_take, List.length_drop]; omega
  obtain ⟨cur1, k1, k2, k3⟩ := setCells_row [.string x] i _ ROW hh (by simp only [List.length_cons, List.length_nil]; omega)
  generalize ((w.alloc (.cells ROW 9)).setCells w.heap.size i [.string x]) = W2 at *
  have k1' : W2.drew.heap[w.heap.size]? = some (.cells cur1 9 (0, 0)) := k1
  obtain ⟨cur2, m1, m2, m3⟩ := setCells_row (cellsFT (l.drop i)) ((i + 1)) W2.drew cur1 k1' (by rw [k2, cellsFT_length, List.length_drop]; omega)
  refine ⟨by rw [cellsFT_length, Nat.mul_one], .inr ⟨w.heap.size, G, cur2, by rw [hlen], hb, m1, by omega, hGm, by rw [m2, k2, hsz, Nat.mul_one], ?_⟩⟩
  have hla : (cellsFT (l.take i)).length = i := by rw [cellsFT_length, List.length_take]; omega
  have hlb : (cellsFT (l.drop i)).length = (l.length - i) := by rw [cellsFT_length, List.length_drop]
  have h1 : cur1.toList.take ((i + 1)) = cellsFT (l.take i) ++ [.string x] := by
    rw [k3, hpre, List.take_append_of_le_length (by simp only [List.length_append, hla, List.length_cons, List.length_nil]; omega), List.take_of_length_le (by simp only [List.length_append, hla, List.length_cons, List.length_nil]; omega)]
  rw [hlen, Nat.mul_one, m3, h1, cellsFT_append, List.take_append_of_le_length (by simp only [List.length_append, hla, hlb, List.length_cons, List.length_nil]; omega), List.take_of_length_le (by simp only [List.length_append, hla, hlb, List.length_cons, List.length_nil]; omega)]
  simp [cellsFT]
set_option maxHeartbeats 4000000 in
set_option maxRecDepth 100000 in
theorem insert_grow_callsT (b c i : Nat) (l : List ByteArray) (x : ByteArray) (base vb : Nat) (w : World) (HO : OwnFT w base (.slice (some ⟨b, 0, none⟩) l.length c) l) (hroom : c < l.length + 1) (hi : i < l.length) (hx : w.heap[vb]? = some (.cells #[.string x] 9 (0, 0))) (hl : l.length ≤ 1048577) (hb : base ≤ w.heap.size) :
    Calls Try.prog 78 #[.slice (some ⟨b, 0, none⟩) l.length c, .int .i64 (i : Int), .slice (some ⟨vb, 0, none⟩) 1 1] w fun e w' => ∃ v', e = .returned v' ∧ InsPostT w w' base (.slice (some ⟨b, 0, none⟩) l.length c) v' (l.take i ++ x :: l.drop i) := by
  obtain ⟨hbb, cur, hh, hsz, hnc, hmax, hcs⟩ := ownF_cellsT HO
  obtain rfl : c = l.length := by omega
  obtain ⟨i0, hi0, hz0, hz1, hz2⟩ := info_parts Try.infoStr
  have hut := Try.underlying41
  have hbw : b < w.heap.size := (Array.getElem?_eq_some_iff.1 hh).1
  have hvw : vb < w.heap.size := (Array.getElem?_eq_some_iff.1 hx).1
  have hc1 : ∀ W : World, (Instr.slice 41 (.slice (some ⟨b, 0, none⟩) l.length l.length) (some (.int .i64 (i : Int))) none none).run Try.prog W = .ok (.slice (some ⟨b, i, none⟩) (l.length - i) (l.length - i)) W := fun W => by
    have := cut_from (P := Try.prog) 41 9 .i64 hut hi0 1 hz1 (some ⟨b, 0, none⟩) l.length l.length (i : Int) (by omega) (by omega) W
    rw [this, Int.toNat_natCast, if_neg (by omega)]
    simp only [Option.map_some, add_plain, Nat.mul_one]
  have hc2 : ∀ W : World, (Instr.slice 41 (.slice (some ⟨b, 0, none⟩) l.length l.length) none (some (.int .i64 (i : Int))) none).run Try.prog W = .ok (.slice (some ⟨b, 0, none⟩) i l.length) W := fun W => by
    have := cut_to (P := Try.prog) 41 9 .i64 hut hi0 (some ⟨b, 0, none⟩) l.length l.length (i : Int) (by omega) (by omega) (by omega) W
    rw [this, Int.toNat_natCast]
  have hold : (Builtin.firstCells i0.size i (.slice (some ⟨b, 0, none⟩) i l.length)).run Try.prog w.drew = .ok (cellsFT (l.take i)).toArray w.drew := by
    rw [hz1]
    exact run_firstCells_some w.drew 1 i ⟨b, 0, none⟩ i l.length (cellsFT (l.take i)) (by rw [cellsFT_length, List.length_take]; omega) (fun j v hj => by
      rw [Addr.add_lit, Nat.zero_add]
      refine hcs j v ?_
      rw [← cellsFT_take, List.getElem?_take] at hj
      split at hj
      · exact hj
      · cases hj)
  have hkk : (l.length : Int) + 1 - (i : Int) = ((l.length + 1 - i : Nat) : Int) := by omega
  have hik : i + (l.length + 1 - i) = l.length + 1 := by omega
  obtain ⟨G, hG⟩ : ∃ G, G = grownCap w (l.length + 1) l.length 9 := ⟨_, rfl⟩
  obtain ⟨ROW, hROW⟩ : ∃ ROW : Array Value, ROW = (cellsFT (l.take i)).toArray ++ Builtin.zeroCells (Value.string ⟨#[]⟩).cells (l.length + 1 - i) ++ Builtin.zeroCells (Value.string ⟨#[]⟩).cells (G - (l.length + 1)) := ⟨_, rfl⟩
  have hGn : l.length + 1 ≤ G := by rw [hG]; exact grownCap_ge w _ _ _
  have hGm : G ≤ maxLen := by
    rw [hG]; exact grownCap_le_maxLen w (l.length + 1) l.length 9 (by unfold maxLen; omega)
  have hrz : ∀ ty, (Builtin.append_ #[41, 3] ty #[.slice (some ⟨b, 0, none⟩) i l.length, .int .i64 ((l.length : Int) + 1 - (i : Int))]).run Try.prog w =
      .ok (.slice (some ⟨w.heap.size, 0, none⟩) (l.length + 1) G) (w.drew.alloc (.cells ROW 9)) := fun ty => by
    have h := Lib.run_append_grow_zeros w 41 3 ty 9 i0 _ .i64 .i64 hut Try.underlying3 hi0 hz0 (some ⟨b, 0, none⟩) i l.length (cellsFT (l.take i)) hold (l.length + 1 - i) (by omega) (by omega) (by omega) (by omega) (by rw [hz2]; omega) (by rw [hz2, hik]; exact growslice_fits (by omega) (by omega))
    rw [hik, ← hG, ← hROW] at h
    rw [hkk]
    exact h
  have hRs : ROW.size = G := by
    rw [hROW]
    simp only [Array.size_append, List.size_toArray, cellsFT_length, List.length_take, Builtin.zeroCells, Array.size_map, Array.size_range, Value.cells, List.length_cons, List.length_nil]
    omega
  have hRp : ROW.toList.take i = cellsFT (l.take i) := by
    rw [hROW]
    simp only [Array.toList_append]
    rw [List.append_assoc, List.take_append_of_le_length (by rw [cellsFT_length, List.length_take]; omega), List.take_of_length_le (by rw [cellsFT_length, List.length_take]; omega)]
  have hszm : (Try.prog.info? 9).map (·.size) = some 1 := by rw [hi0]; simp [hz1]
  have hdl : (cellsFT (l.drop i)).length = (l.length - i) := by rw [cellsFT_length, List.length_drop]
  obtain ⟨W1, hW1⟩ : ∃ W1, W1 = w.drew.alloc (.cells ROW 9) := ⟨_, rfl⟩
  have g1 : W1.heap[w.heap.size]? = some (.cells ROW 9 (0, 0)) := by rw [hW1]; exact Array.getElem?_push_size
  have e1 : ∀ k, k < w.heap.size → W1.heap[k]? = w.heap[k]? := fun k hk => by rw [hW1]; exact Array.getElem?_push_lt hk |>.trans (Array.getElem?_eq_getElem hk).symm
  have gb1 : w.grownBy W1 (some b) := by rw [hW1]; exact ⟨rfl, rfl, rfl, by simp [World.alloc], fun k hk _ => by rw [← hW1]; exact e1 k hk⟩
  have hx1 : W1.heap[vb]? = some (.cells #[.string x] 9 (0, 0)) := by rw [e1 vb hvw]; exact hx
  have hcpA : ∀ ty dc, (Builtin.copy_ #[41, 41] ty #[.slice (some ⟨w.heap.size, i, none⟩) (l.length + 1 - i) dc, .slice (some ⟨vb, 0, none⟩) 1 1]).run Try.prog W1 = .ok (goInt 1) (W1.setCells w.heap.size i [.string x]) := fun ty dc =>
    run_copyN W1 41 41 ty 9 1 w.heap.size i (l.length + 1 - i) dc ⟨vb, 0, none⟩ 1 1 [.string x] 1 hut hszm (by simp only [Nat.min_def]; split <;> omega) rfl
      (fun j v hj => by
        rw [Addr.add_lit, Nat.zero_add, blk_cell hx1]
        simpa using hj)
      (fun j hj => by simp only [List.length_cons, List.length_nil] at hj; have hq : i + j < ROW.size := by rw [hRs]; omega
                      rw [blk_cell g1, Array.getElem?_eq_getElem hq]; rfl) (fun j hj => blk_frozen g1 _) (by simp [Value.oneCell'])
  obtain ⟨W2, hW2⟩ : ∃ W2, W2 = W1.setCells w.heap.size i [.string x] := ⟨_, rfl⟩
  obtain ⟨cur1, k1, k2, k3⟩ := setCells_row [.string x] i W1 ROW g1 (by simp only [List.length_cons, List.length_nil]; omega)
  rw [← hW2] at k1 hcpA
  have hb2 : W2.heap[b]? = some (.cells cur 9 (0, 0)) := by rw [hW2, setCells_far _ _ _ (by omega : b ≠ w.heap.size), e1 b hbw]; exact hh
  have hcpB : ∀ ty dc sc, (Builtin.copy_ #[41, 41] ty #[.slice (some ⟨w.heap.size, (i + 1), none⟩) (l.length - i) dc, .slice (some ⟨b, i, none⟩) (l.length - i) sc]).run Try.prog W2.drew = .ok (goInt ((l.length - i : Nat) : Int)) (W2.drew.setCells w.heap.size ((i + 1)) (cellsFT (l.drop i))) := fun ty dc sc =>
    run_copyN W2.drew 41 41 ty 9 1 w.heap.size ((i + 1)) (l.length - i) dc ⟨b, i, none⟩ (l.length - i) sc (cellsFT (l.drop i)) (l.length - i) hut hszm (by simp only [Nat.min_def]; split <;> omega) (by rw [Nat.mul_one]; exact hdl)
      (fun j v hj => by
        rw [Addr.add_lit]
        show W2.cell? _ = _
        rw [blk_cell hb2, ← blk_cell hh]
        refine hcs (i + j) v ?_
        rw [← cellsFT_drop, List.getElem?_drop] at hj; exact hj)
      (fun j hj => by have hq : (i + 1) + j < cur1.size := by rw [k2, hRs]; omega
                      show (W2.cell? _).isSome = true
                      rw [blk_cell k1, Array.getElem?_eq_getElem hq]; rfl) (fun j hj => blk_frozen (w := W2) k1 _) (cellsFT_one _)
  have hfin := grow_ownT w.drew x ROW G (l := l) (i := i) (base := base) (by omega) hb hGn hGm hRs hRp
  have hfin : OwnFT (W2.drew.setCells w.heap.size ((i + 1)) (cellsFT (l.drop i))) base (.slice (some ⟨w.heap.size, 0, none⟩) (l.length + 1) G) (l.take i ++ x :: l.drop i) := by rw [hW2, hW1]; exact hfin
  have hgr : w.grownBy (W2.drew.setCells w.heap.size ((i + 1)) (cellsFT (l.drop i))) (some b) := by
    have h2 := setCells_grownBy W1 w.heap.size [.string x] i
    rw [← hW2] at h2
    have h3 := setCells_grownBy W2.drew w.heap.size (cellsFT (l.drop i)) ((i + 1))
    have hs2 : w.heap.size ≤ W2.heap.size := Nat.le_trans gb1.size h2.size
    exact ⟨h3.os.trans (h2.os.trans gb1.os), h3.tape.trans (h2.tape.trans gb1.tape), h3.output.trans (h2.output.trans gb1.output), Nat.le_trans hs2 h3.size, fun k hk hkb => (h3.block k (Nat.lt_of_lt_of_le hk hs2) (fun e => by injection e; omega)).trans ((h2.block k (Nat.lt_of_lt_of_le hk gb1.size) (fun e => by injection e; omega)).trans (e1 k hk))⟩
  have hc3 : ∀ W : World, (Instr.slice 41 (.slice (some ⟨w.heap.size, 0, none⟩) (l.length + 1) G) (some (.int .i64 (i : Int))) none none).run Try.prog W = .ok (.slice (some ⟨w.heap.size, i, none⟩) (l.length + 1 - i) (G - i)) W := fun W => by
    have := cut_from (P := Try.prog) 41 9 .i64 hut hi0 1 hz1 (some ⟨w.heap.size, 0, none⟩) (l.length + 1) G (i : Int) (by omega) (by omega) W
    rw [this, Int.toNat_natCast, if_neg (by omega)]
    simp only [Option.map_some, add_plain, Nat.mul_one]
  have hz2' : ¬ ((i : Int) = (l.length : Int)) := by omega
  have hz3 : (l.length : Int) < (l.length : Int) + 1 := by omega
  have hmax' : G ≤ 9223372036854775807 := by unfold maxLen at hGm; omega
  have hw1 : IntKind.i64.wrap ((i : Int) + 1) = (i : Int) + 1 := by rw [IntKind.wrap_i64]; omega
  have hb1 : (0 : Int) ≤ (i : Int) + 1 := by omega
  have hb2' : ¬ (G = i + 1) := by omega
  have hb3 : (i : Int) ≤ (l.length : Int) + 1 := by omega
  have hb4 : ¬ (G = i) := by omega
  have hb5 : (i : Int) + 1 ≤ (l.length : Int) + 1 := by omega
  have hb6 : ¬ (l.length = i) := by omega
  have hb7 : (i : Int) ≤ (l.length : Int) := by omega
  have htn : ((i : Int) + 1).toNat = i + 1 := by omega
  have hin : i ≤ l.length := by omega
  have mixed : Try.prog.follows .mixedOrders = true := by kernel_rfl
  have HFIN := Lib.hid hfin
  have HGR := Lib.hid hgr
  rw [← hW1] at hrz
  clear hfin hgr hW1 hW2 hROW hG hRs hRp g1 e1 gb1 hx1 k1 k2 k3 hb2 hx hcs hh hsz HO hi0 hz0 hz1 hz2 hszm hdl hmax hut hold hkk hik
  go_enter Try.func78, Try.ntmps78
  go_wp2_with (first
    | (at_builtin; refine Lib.wpList_append_run _ rfl _ _ _ _ rfl _ _ rfl rfl _ _ (hrz _) ?_)
    | (at_builtin; refine wpList_copy_runI _ rfl _ _ 41 41 rfl _ _ rfl rfl (hcpA _ _) ?_))
  go_region_law_o (refine step_copy_runI rfl _ _ 41 41 rfl (.slice (some ⟨w.heap.size, (i + 1), none⟩) (l.length - i) (G - (i + 1))) (.slice (some ⟨b, i, none⟩) (l.length - i) (l.length - i)) (by simp [Act.eval, Act.put]) (by simp [Act.eval, Act.put]) (hcpB _ _ _) ?_)
  go_wp2
  go_ret
  exact ⟨_, rfl, HFIN.out, HGR.out, .inr ⟨_, rfl, Nat.le_refl _⟩⟩
/-- slices.Insert(s, i, x). -/
theorem insert_callsT (A : Option Addr) (c i : Nat) (l : List ByteArray) (x : ByteArray) (base vb : Nat) (w : World) (HO : OwnFT w base (.slice A l.length c) l) (hi : i ≤ l.length) (hx : w.heap[vb]? = some (.cells #[.string x] 9 (0, 0))) (hvb : some vb ≠ (Value.slice A l.length c).ownBlock) (hl : l.length ≤ 1048577) (hb : base ≤ w.heap.size) :
    Calls Try.prog 78 #[.slice A l.length c, .int .i64 (i : Int), .slice (some ⟨vb, 0, none⟩) 1 1] w fun e w' => ∃ v', e = .returned v' ∧ InsPostT w w' base (.slice A l.length c) v' (l.take i ++ x :: l.drop i) := by
  rcases Nat.lt_or_ge i l.length with h | h
  · rcases HO.2 with ⟨h2, h0⟩ | ⟨g, cap, cur, hv, hgb, hh, hnc, hmax, hsz, htk⟩
    · omega
    · injection hv with hv1 hv2 hv3
      subst hv1 hv3
      have hne : vb ≠ g := fun e => hvb (by rw [e]; rfl)
      rcases Nat.lt_or_ge c (l.length + 1) with hr | hr
      · exact insert_grow_callsT g c i l x base vb w HO hr h hx hl hb
      · exact insert_shift_callsT g c i l x base vb w HO hr h hx hne hl
  · obtain rfl : i = l.length := by omega
    rw [List.take_length, List.drop_length]
    have hlc : l.length ≤ c := by
      rcases HO.2 with ⟨h2, h0⟩ | ⟨g, cap, cur, hv, hgb, hh, hnc, hmax, hsz, htk⟩
      · injection h2; omega
      · injection hv with hv1 hv2 hv3
        omega
    exact insert_end_callsT A c l x base vb w HO hlc hx hl hb
end Go.Proofs.Ytbbhmjokiejnmaa

