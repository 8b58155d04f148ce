/- (*sorted).put over files, tree.Put. -/
import Derived.Test.YtbbhmjokiejnmaaQNInsert
import Derived.Test.YtbbhmjokiejnmaaQNFits
namespace Go.Proofs.Ytbbhmjokiejnmaa
open Go Go.RowKit Go.Lib Go.Proofs.Ytbbhmjokiejnmaa.Hy Go.Proofs.YtbbhmjokiejnmaaW.PrintWords
set_option linter.unusedVariables false
theorem set_own {w : World} {base b c i : Nat} {l : List File} (x : File) (hi : i < l.length) (HO : OwnF w base (.slice (some ⟨b, 0, none⟩) l.length c) l) :
    (w.setCells b (i * 2) [.string x.f0, .string x.f1]).ownsRow base 29 2 (.slice (some ⟨b, 0, none⟩) l.length c) l.length (cellsF (l.set i x)) := by
  obtain ⟨h1, h2⟩ := HO
  rcases h2 with ⟨h2, _⟩ | ⟨g, cap, cur, hv, hb, hh, hnc, hmax, hsz, htk⟩
  · cases h2
  · injection hv with hv1 hv2 hv3
    injection hv1 with hv1
    injection hv1 with hv1 _ _
    subst hv1 hv3
    obtain ⟨cur2, m1, m2, m3⟩ := setCells_row [.string x.f0, .string x.f1] (i * 2) w cur hh (by simp only [List.length_cons, List.length_nil]; omega)
    refine ⟨by rw [cellsF_length, List.length_set], .inr ⟨b, c, cur2, rfl, hb, m1, hnc, hmax, by rw [m2, hsz], ?_⟩⟩
    rw [m3, List.set_eq_take_append_cons_drop, if_pos hi, cellsF_append]
    have hla : (cellsF (l.take i)).length = i * 2 := by rw [cellsF_length, List.length_take]; omega
    have h3 : cur.toList.take (i * 2) = cellsF (l.take i) := by
      rw [← cellsF_take, ← htk, List.take_take, Nat.min_eq_left (by omega)]
    have h4 : (cur.toList.drop (i * 2 + 2)).take ((l.length - (i + 1)) * 2) = cellsF (l.drop (i + 1)) := by
      rw [← cellsF_drop, ← htk, List.drop_take, show (i + 1) * 2 = i * 2 + 2 from by omega, show (l.length - (i + 1)) * 2 = l.length * 2 - (i * 2 + 2) from by omega]
    rw [h3, List.append_assoc, List.take_append, List.take_of_length_le (by rw [hla]; omega), hla]
    congr 1
    simp only [List.length_cons, List.length_nil, Nat.zero_add, Nat.reduceAdd, cellsF]
    rw [show l.length * 2 - i * 2 = (l.length - (i + 1)) * 2 + 1 + 1 from by omega]
    simp only [List.cons_append, List.nil_append, List.take_succ_cons]
    rw [h4]
theorem below_ad (W : World) (o : Obj) : Below W.heap.size W (W.alloc o).drew := ((Below.refl _ W).alloc (Nat.le_refl _) o).drew
theorem sortedAt_below {W W' : World} {g : Nat} {v : Value} (h : SortedAt W g v) (hb : Below W.heap.size W W') : SortedAt W' g v := (hb.block g (Array.getElem?_eq_some_iff.1 h).1).trans h
theorem atF_lt {l : List File} {k : ByteArray} (h : atF l k = true) : atI l k < l.length := by
  unfold atF at h
  simp only [Bool.and_eq_true, decide_eq_true_eq] at h
  exact h.1
theorem ins_slice {W w3 : World} {base : Nat} {v v3 : Value} {l : List File} (h : InsPost W w3 base v v3 l) : ∃ A n c, v3 = .slice A n c := by
  obtain ⟨A, c, e⟩ := own_slice h.1
  exact ⟨A, _, c, e⟩
theorem ins_sorted {W w3 : World} {base g : Nat} {v v3 u : Value} {l : List File} (h : InsPost W w3 base v v3 l) (hne : some g ≠ v.ownBlock) (hg : SortedAt W g u) : SortedAt w3 g u := (h.2.1.block g (Array.getElem?_eq_some_iff.1 hg).1 hne).trans hg
theorem sortedAt_cell {W : World} {g : Nat} {v : Value} (h : SortedAt W g v) : W.cell? ⟨g, 0, none⟩ = some v := by rw [blk_cell h]; rfl
theorem sortedAt_frozen {W : World} {g : Nat} {v : Value} (h : SortedAt W g v) : W.frozen? ⟨g, 0, none⟩ = false := blk_frozen h 0
theorem R_base {W : World} {base : Nat} {ok : Nat → Prop} {v : Value} {l : List File} (h : Kd.R k29 29 W base ok v l) : ∀ k, v.ownBlock = some k → base ≤ k := own_base (own_of_R h)
theorem ins_store {W w3 : World} {base g : Nat} {v v3 u : Value} {l : List File} (hbg : base ≤ g) (hg : SortedAt w3 g u) (h : InsPost W w3 base v v3 l) (hne : some g ≠ v.ownBlock) : SortedOwn (w3.setCell ⟨g, 0, none⟩ v3) base g v3 l := by
  have hn3 : some g ≠ v3.ownBlock := fun e => by
    obtain ⟨cells, hc⟩ := own_typed h.1 g e.symm
    rw [hg] at hc
    injection hc with hc
    injection hc with _ hc _
    exact absurd hc (by decide)
  refine ⟨hbg, ?_, R_of_ownF (own_setCell (p := ⟨g, 0, none⟩) h.1 hn3 v3) (fun k hk e => hn3 (by rw [hk, e]))⟩
  have := blk_set hg 0 v3
  exact this
theorem ins_below {w W w3 : World} {base g : Nat} {v v3 u : Value} {l : List File} (hbg : base ≤ g) (hb : base ≤ w.heap.size) (hw : Below w.heap.size w W) (h : InsPost W w3 base v v3 l) (hvb : ∀ k, v.ownBlock = some k → base ≤ k) : Below base w (w3.setCell ⟨g, 0, none⟩ u) := by
  refine Below.setCell (p := ⟨g, 0, none⟩) ?_ hbg u
  exact (hw.mono hb).grown h.2.1 (Nat.le_trans hb hw.size) hvb
set_option maxHeartbeats 4000000 in
set_option maxRecDepth 100000 in
theorem sorted_put_calls (A : Option Addr) (c : Nat) (l : List File) (x : File) (g base : Nat) (w : World) (hS : SortedOwn w base g (.slice A l.length c) l) (hsh : shortAll l = true) (hk : x.f0.size ≤ 1048576) (hb : base ≤ w.heap.size) :
    Calls Try.prog 42 #[.pointer (some ⟨g, 0, none⟩), .agg #[.string x.f0, .string x.f1]] w fun e w' => ∃ v', e = .returned (.tuple #[]) ∧ SortedOwn w' base g v' (putF l x) ∧ Below base w w' := by
  obtain ⟨hbg, hg, hR⟩ := hS
  have hlen : l.length ≤ 1048576 := by unfold shortAll at hsh; simp only [Bool.and_eq_true, decide_eq_true_eq] at hsh; exact hsh.1
  have hglt : g < w.heap.size := (Array.getElem?_eq_some_iff.1 hg).1
  obtain ⟨W, hW⟩ : ∃ W, w.alloc (.cells #[.string x.f0, .string x.f1] 29) = W := ⟨_, rfl⟩
  have hbe : Below w.heap.size w W := by rw [← hW]; exact (Below.refl _ w).alloc (Nat.le_refl _) _
  have hWs : W.heap.size = w.heap.size + 1 := by rw [← hW]; simp
  have hx : W.heap[w.heap.size]? = some (.cells #[.string x.f0, .string x.f1] 29 (0, 0)) := by rw [← hW]; exact Array.getElem?_push_size
  have hgW : SortedAt W g (.slice A l.length c) := (hbe.block g hglt).trans hg
  have hx0 : W.cell? ⟨w.heap.size, 0, none⟩ = some (.string x.f0) := by rw [blk_cell hx]; rfl
  have hx1 : W.cell? ⟨w.heap.size, 1, none⟩ = some (.string x.f1) := by rw [blk_cell hx]; rfl
  have hd0 : W.cell? ⟨g, 0, none⟩ = some (.slice A l.length c) := by rw [blk_cell hgW]; rfl
  have hd1 : W.cell? ⟨g, 1, none⟩ = some (.func (.func 64) #[] #[]) := by rw [blk_cell hgW]; rfl
  have hRW : Kd.R k29 29 W base (fun k => k ≠ g) (.slice A l.length c) l := Kd.R_below hR hbe
  have HRW := Lib.hid hRW
  have HGW := Lib.hid hgW
  have HXW := Lib.hid hx
  have HSH := Lib.hid hsh
  have hCW : Kd.C k29 W A l.length l := (Kd.R_reads' hRW).2.2
  have HCW := Lib.hid hCW
  clear hRW hgW hx hCW hR hg hsh
  cases hf : atF l x.f0 with
  | true =>
    have HF := Lib.hid hf
    clear hf
    go_enter Try.func42, Try.ntmps42
    go_wp2_with fail
    clear hW
    go_region_held3 (fun w' => w'.cell? ⟨w.heap.size, 0, none⟩ = some (.string x.f0) ∧ w'.cell? ⟨w.heap.size, 1, none⟩ = some (.string x.f1) ∧ w'.cell? ⟨g, 0, none⟩ = some (.slice A l.length c) ∧ w'.cell? ⟨g, 1, none⟩ = some (.func (.func 64) #[] #[]))
      (first | go_keep | exact ⟨pw_cell_below hbq (cell_alloc_drew _ hx0), pw_cell_below hbq (cell_alloc_drew _ hx1), pw_cell_below hbq (cell_alloc_drew _ hd0), pw_cell_below hbq (cell_alloc_drew _ hd1)⟩)
      (first
        | (go_at_call 64; refine (filesKey_calls _ _ _).mono ?_; rintro e w' ⟨rfl, rfl⟩)
        | (go_at_call 40; refine (sorted_at_calls A c l x.f0 g _ (Kd.C_below HCW.out (below_ad W _)) HSH.out (sortedAt_below HGW.out (below_ad W _)) hk).mono ?_; rintro e w' ⟨rfl, hbq⟩))
    have hB1 : Below W.heap.size W w' := (below_ad W _).trans (hbq.mono (below_ad W _).size)
    have hBw : Below w.heap.size w w' := hbe.trans (hB1.mono (by omega))
    replace hx0 := pw_cell_below hB1 hx0
    replace hx1 := pw_cell_below hB1 hx1
    replace hd0 := pw_cell_below hB1 hd0
    have HR2 := Lib.hid (Kd.R_below HRW.out hB1)
    have HG2 := Lib.hid (sortedAt_below HGW.out hB1)
    have hi := atF_lt HF.out
    rw [HF.out]
    clear hd1 HRW HGW HXW HCW hbq hB1 hbe hWs
    obtain ⟨b, cur, rfl, hbb, hbg', hh, hsz, hlc, hmax⟩ : ∃ (b : Nat) (cur : Array Value), A = some ⟨b, 0, none⟩ ∧ base ≤ b ∧ b ≠ g ∧ w'.heap[b]? = some (.cells cur 29 (0, 0)) ∧ cur.size = c * 2 ∧ l.length ≤ c ∧ c ≤ maxLen := by
      have ho := own_of_R HR2.out
      rcases ho.2 with ⟨h2, h0⟩ | ⟨b, cap, cur, hv, hgb, hh, hnc, hmax, hsz, htk⟩
      · omega
      · injection hv with hv1 hv2 hv3
        subst hv1 hv3
        exact ⟨b, cur, rfl, hgb, HR2.out.1 b rfl, hh, hsz, hnc, hmax⟩
    have hq0 : w'.cell? ⟨b, atI l x.f0 * 2, none⟩ = some cur[atI l x.f0 * 2]! := by rw [blk_cell hh, Array.getElem?_eq_getElem (by omega), getElem!_pos cur _ (by omega)]
    have hq1 : w'.cell? ⟨b, atI l x.f0 * 2 + 1, none⟩ = some cur[atI l x.f0 * 2 + 1]! := by rw [blk_cell hh, Array.getElem?_eq_getElem (by omega), getElem!_pos cur _ (by omega)]
    have hf0 : ∀ j, w'.frozen? ⟨b, j, none⟩ = false := fun j => blk_frozen hh j
    have hi0 : (0 : Int) ≤ (atI l x.f0 : Int) := by omega
    have hi1 : (atI l x.f0 : Int) < (l.length : Int) := by omega
    have HH := Lib.hid hh
    clear hh
    go_wp2
    go_region
    go_wp2
    (try simp only [Exit.inBlock, Exit.then]); refine bodyPost_ret (results_none rfl _ _ _) rfl ?_
    refine ⟨.slice (some ⟨b, 0, none⟩) l.length c, rfl, ?_, ?_⟩
    · have hse := set_own (i := atI l x.f0) x hi (own_of_R HR2.out)
      have hpf : putF l x = l.set (atI l x.f0) x := by unfold putF; rw [HF.out, if_pos rfl]
      rw [hpf]
      refine ⟨hbg, ?_, R_of_ownF ?_ (fun k hk => by injection hk with hk; rw [← hk]; exact hbg')⟩
      · show (w'.setCells b (atI l x.f0 * 2) [.string x.f0, .string x.f1]).heap[g]? = _
        rw [setCells_far _ _ _ (Ne.symm hbg')]
        exact HG2.out
      · show World.ownsRow _ base 29 2 _ (l.set (atI l x.f0) x).length _
        rw [List.length_set]
        exact hse
    · exact (((hBw.mono hb).setCell (p := ⟨b, _, none⟩) hbb _).setCell (p := ⟨b, _, none⟩) hbb _).drew
  | false =>
    have HF := Lib.hid hf
    clear hf
    go_enter Try.func42, Try.ntmps42
    go_wp2_with fail
    clear hW
    go_region_held3 (fun w' => w'.cell? ⟨w.heap.size, 0, none⟩ = some (.string x.f0) ∧ w'.cell? ⟨w.heap.size, 1, none⟩ = some (.string x.f1) ∧ w'.cell? ⟨g, 0, none⟩ = some (.slice A l.length c) ∧ w'.cell? ⟨g, 1, none⟩ = some (.func (.func 64) #[] #[]))
      (first | go_keep | exact ⟨pw_cell_below hbq (cell_alloc_drew _ hx0), pw_cell_below hbq (cell_alloc_drew _ hx1), pw_cell_below hbq (cell_alloc_drew _ hd0), pw_cell_below hbq (cell_alloc_drew _ hd1)⟩)
      (first
        | (go_at_call 64; refine (filesKey_calls _ _ _).mono ?_; rintro e w' ⟨rfl, rfl⟩)
        | (go_at_call 40; refine (sorted_at_calls A c l x.f0 g _ (Kd.C_below HCW.out (below_ad W _)) HSH.out (sortedAt_below HGW.out (below_ad W _)) hk).mono ?_; rintro e w' ⟨rfl, hbq⟩))
    have hB1 : Below W.heap.size W w' := (below_ad W _).trans (hbq.mono (below_ad W _).size)
    have hBw : Below w.heap.size w w' := hbe.trans (hB1.mono (by omega))
    replace hx0 := pw_cell_below hB1 hx0
    replace hx1 := pw_cell_below hB1 hx1
    replace hd0 := pw_cell_below hB1 hd0
    have HR2 := Lib.hid (Kd.R_below HRW.out hB1)
    have HG2 := Lib.hid (sortedAt_below HGW.out hB1)
    have hi := atI_le l x.f0
    rw [HF.out]
    clear hd1 HRW HGW HXW HCW hbq hB1
    have hbw' : base ≤ w'.heap.size := Nat.le_trans hb hBw.size
    have HO3 := Lib.hid (own_of_R (Kd.R_below HR2.out (below_ad w' (.cells #[.string x.f0, .string x.f1] 29))))
    have hgo : some g ≠ (Value.slice A l.length c).ownBlock := fun e => HR2.out.1 g e.symm rfl
    have hgw' : g < w'.heap.size := (Array.getElem?_eq_some_iff.1 HG2.out).1
    have hvn : some w'.heap.size ≠ (Value.slice A l.length c).ownBlock := fun e => by
      have := own_lt (own_of_R HR2.out) _ e.symm
      omega
    have hmixed : Try.prog.follows .mixedOrders = true := by kernel_rfl
    go_wp2
    go_region_with (first
      | (go_at_call 68; refine (insert_calls A c (atI l x.f0) l x base w'.heap.size _ HO3.out hi Array.getElem?_push_size hvn (by omega) (Nat.le_trans hbw' (by simp))).mono ?_; rintro e w3 ⟨v3, rfl, hP⟩; obtain ⟨A3, n3, c3, rfl⟩ := ins_slice hP; have hg3 := ins_sorted hP hgo (sortedAt_below HG2.out (below_ad w' _)); have hc3 := sortedAt_cell hg3; have hz3 := sortedAt_frozen hg3))
    go_wp2
    all_goals
      refine bodyPost_end (results_none rfl _ _ _) rfl ?_
      refine ⟨.slice A3 n3 c3, rfl, ?_, ?_⟩
      · have hpf : putF l x = l.take (atI l x.f0) ++ x :: l.drop (atI l x.f0) := by unfold putF; rw [HF.out]; rfl
        rw [hpf]
        exact ins_store hbg hg3 hP hgo
      · exact ins_below hbg hb (hBw.trans ((below_ad w' _).mono hBw.size)) hP (R_base HR2.out)
theorem sortedOwn_below {w w1 : World} {base g : Nat} {v : Value} {l : List File} (h : SortedOwn w base g v l) (hb : Below w.heap.size w w1) : SortedOwn w1 base g v l := ⟨h.1, sortedAt_below h.2.1 hb, Kd.R_below h.2.2 hb⟩
theorem validB_size {p : ByteArray} (h : validB p = true) : p.size ≤ 1048576 := by
  unfold validB at h
  simp only [Bool.and_eq_true, decide_eq_true_eq] at h
  omega
set_option maxHeartbeats 4000000 in
set_option maxRecDepth 100000 in
theorem tree_Put.calls (A0 : Option Addr) (c0 : Nat) (l0 : List File) (a1_0 a1_1 : ByteArray) (r1 : List File) (r2 : Int) (w : World) (hr0 : Kd.C k29 w A0 l0.length l0) (hc0 : l0.length ≤ c0) (h : tree_Put.f l0 a1_0 a1_1 = some (r1, r2)) :
    Calls Try.prog 19 #[.slice A0 l0.length c0, .agg #[.string a1_0, .string a1_1]] w fun e w' => ∃ v0_ : Value, e = .returned (.tuple #[v0_, .int .i64 r2]) ∧ Kd.R k29 29 w' w.heap.size (fun _ => True) v0_ r1 ∧ Below w.heap.size w w' := by
  unfold tree_Put.f at h
  split at h
  case isFalse => cases h
  rename_i hsh
  have hwr := wrong_some a1_0 a1_1
  obtain ⟨W, hW⟩ : ∃ W, w.alloc (.cells #[.string a1_0, .string a1_1] 29) = W := ⟨_, rfl⟩
  have hbe : Below w.heap.size w W := by rw [← hW]; exact (Below.refl _ w).alloc (Nat.le_refl _) _
  have hWs : W.heap.size = w.heap.size + 1 := by rw [← hW]; simp
  have hx : W.heap[w.heap.size]? = some (.cells #[.string a1_0, .string a1_1] 29 (0, 0)) := by rw [← hW]; exact Array.getElem?_push_size
  have hx0 : W.cell? ⟨w.heap.size, 0, none⟩ = some (.string a1_0) := by rw [blk_cell hx]; rfl
  have hx1 : W.cell? ⟨w.heap.size, 1, none⟩ = some (.string a1_1) := by rw [blk_cell hx]; rfl
  have HR := Lib.hid hr0
  clear hr0 hx
  by_cases hv : validB a1_0 = true
  case neg =>
    rw [if_neg hv] at h hwr
    injection h with h; injection h with h1 h2
    subst h1 h2
    have HWR := Lib.hid hwr
    clear hwr hv
    go_enter Try.func19, Try.ntmps19
    go_wp2_with (go_at_call 45; refine (tree_wrong.calls _ _ _ _ HWR.out).mono ?_; rintro e w' ⟨rfl, hbq⟩)
    go_ret2
    exact ⟨_, rfl, ⟨by simp [Value.ownBlock], [], own_nil _ _ _ _, Reps.none _ _⟩, hbe.trans (hbq.mono (by omega))⟩
  case pos =>
    rw [if_pos hv] at h hwr
    have hps := validB_size hv
    clear hv
    by_cases hd : 4000 < a1_1.size
    · rw [if_pos hd] at h hwr
      injection h with h; injection h with h1 h2
      subst h1 h2
      have HWR := Lib.hid hwr
      clear hwr hd
      go_enter Try.func19, Try.ntmps19
      go_wp2_with (go_at_call 45; refine (tree_wrong.calls _ _ _ _ HWR.out).mono ?_; rintro e w' ⟨rfl, hbq⟩)
      go_ret2
      exact ⟨_, rfl, ⟨by simp [Value.ownBlock], [], own_nil _ _ _ _, Reps.none _ _⟩, hbe.trans (hbq.mono (by omega))⟩
    · rw [if_neg hd] at h hwr
      have HWR := Lib.hid hwr
      clear hwr hd
      have hlen : l0.length ≤ 1048576 := by unfold shortAll at hsh; simp only [Bool.and_eq_true, decide_eq_true_eq] at hsh; exact hsh.1
      have hle : w.heap.size ≤ W.heap.size := by omega
      have HSH := Lib.hid hsh
      clear hsh
      cases hft : fitsF l0 a1_0 with
      | false =>
        rw [hft] at h
        simp only [Bool.false_eq_true, if_false] at h
        injection h with h; injection h with h1 h2
        subst h1 h2
        have HFIT := Lib.hid hft
        clear hft
        go_enter Try.func19, Try.ntmps19
        go_wp2_with (first
          | (go_at_call 45; refine (tree_wrong.calls _ _ _ _ HWR.out).mono ?_; rintro e w1 ⟨rfl, hbq⟩; have hB1 := hbe.trans (hbq.mono hle); have hx0 := pw_cell_below hbq hx0; have hx1 := pw_cell_below hbq hx1)
          | (go_at_call 39; refine (files_calls A0 c0 l0 _ (Kd.C_below HR.out hB1) hlen).mono ?_; rintro e w2 ⟨v, g, rfl, hS, hbf⟩; obtain ⟨Av, cv, rfl⟩ := Kd.R_slice hS.2.2; have hB2 := hB1.trans (hbf.mono hB1.size); have hx0 := pw_cell_below hbf hx0; have hx1 := pw_cell_below hbf hx1)
          | (go_at_call 41; refine (fits_calls Av cv l0 a1_0 g _ (Kd.R_reads' hS.2.2).2.2 HSH.out hS.2.1 hps).mono ?_; rintro e w3 ⟨rfl, hbt⟩; rw [HFIT.out]; have hB3 := hB2.trans (hbt.mono hB2.size); have hx0 := pw_cell_below hbt hx0; have hx1 := pw_cell_below hbt hx1))
        go_ret2
        exact ⟨_, rfl, ⟨by simp [Value.ownBlock], [], own_nil _ _ _ _, Reps.none _ _⟩, hB3⟩
      | true =>
        rw [hft] at h
        simp only [if_true] at h
        have HFIT := Lib.hid hft
        clear hft
        by_cases hm : 60 < (putF l0 ⟨a1_0, a1_1⟩).length
        · rw [if_pos hm] at h
          injection h with h; injection h with h1 h2
          subst h1 h2
          have hm' : ((60 : Int) < ((putF l0 ⟨a1_0, a1_1⟩).length : Int)) = True := eq_true (by omega)
          go_enter Try.func19, Try.ntmps19
          go_wp2_with (first
            | (go_at_call 45; refine (tree_wrong.calls _ _ _ _ HWR.out).mono ?_; rintro e w1 ⟨rfl, hbq⟩; have hB1 := hbe.trans (hbq.mono hle); have hx0 := pw_cell_below hbq hx0; have hx1 := pw_cell_below hbq hx1)
            | (go_at_call 39; refine (files_calls A0 c0 l0 _ (Kd.C_below HR.out hB1) hlen).mono ?_; rintro e w2 ⟨v, g, rfl, hS, hbf⟩; obtain ⟨Av, cv, rfl⟩ := Kd.R_slice hS.2.2; have hB2 := hB1.trans (hbf.mono hB1.size); have hx0 := pw_cell_below hbf hx0; have hx1 := pw_cell_below hbf hx1)
            | (go_at_call 41; refine (fits_calls Av cv l0 a1_0 g _ (Kd.R_reads' hS.2.2).2.2 HSH.out hS.2.1 hps).mono ?_; rintro e w3 ⟨rfl, hbt⟩; rw [HFIT.out]; have hB3 := hB2.trans (hbt.mono hB2.size); have hx0 := pw_cell_below hbt hx0; have hx1 := pw_cell_below hbt hx1)
            | (go_at_call 42; refine (sorted_put_calls Av cv l0 ⟨a1_0, a1_1⟩ g _ _ (sortedOwn_below hS hbt) HSH.out hps (Nat.le_trans hbf.size hbt.size)).mono ?_; rintro e w4 ⟨v', rfl, hS4, hb4⟩; obtain ⟨A4, c4, rfl⟩ := Kd.R_slice hS4.2.2; have hd4 := sortedAt_cell hS4.2.1; have hB4 := hB3.trans (hb4.mono hB1.size)))
          go_ret2
          exact ⟨_, rfl, ⟨by simp [Value.ownBlock], [], own_nil _ _ _ _, Reps.none _ _⟩, hB4⟩
        · rw [if_neg hm] at h
          injection h with h; injection h with h1 h2
          subst h1 h2
          have hm' : ((60 : Int) < ((putF l0 ⟨a1_0, a1_1⟩).length : Int)) = False := eq_false (by omega)
          go_enter Try.func19, Try.ntmps19
          go_wp2_with (first
            | (go_at_call 45; refine (tree_wrong.calls _ _ _ _ HWR.out).mono ?_; rintro e w1 ⟨rfl, hbq⟩; have hB1 := hbe.trans (hbq.mono hle); have hx0 := pw_cell_below hbq hx0; have hx1 := pw_cell_below hbq hx1)
            | (go_at_call 39; refine (files_calls A0 c0 l0 _ (Kd.C_below HR.out hB1) hlen).mono ?_; rintro e w2 ⟨v, g, rfl, hS, hbf⟩; obtain ⟨Av, cv, rfl⟩ := Kd.R_slice hS.2.2; have hB2 := hB1.trans (hbf.mono hB1.size); have hx0 := pw_cell_below hbf hx0; have hx1 := pw_cell_below hbf hx1)
            | (go_at_call 41; refine (fits_calls Av cv l0 a1_0 g _ (Kd.R_reads' hS.2.2).2.2 HSH.out hS.2.1 hps).mono ?_; rintro e w3 ⟨rfl, hbt⟩; rw [HFIT.out]; have hB3 := hB2.trans (hbt.mono hB2.size); have hx0 := pw_cell_below hbt hx0; have hx1 := pw_cell_below hbt hx1)
            | (go_at_call 42; refine (sorted_put_calls Av cv l0 ⟨a1_0, a1_1⟩ g _ _ (sortedOwn_below hS hbt) HSH.out hps (Nat.le_trans hbf.size hbt.size)).mono ?_; rintro e w4 ⟨v', rfl, hS4, hb4⟩; obtain ⟨A4, c4, rfl⟩ := Kd.R_slice hS4.2.2; have hd4 := sortedAt_cell hS4.2.1; have hB4 := hB3.trans (hb4.mono hB1.size)))
          go_ret2
          exact ⟨_, rfl, Kd.R_mono (Kd.R_lower hS4.2.2 hB1.size) (fun _ _ => trivial), hB4⟩
end Go.Proofs.Ytbbhmjokiejnmaa

