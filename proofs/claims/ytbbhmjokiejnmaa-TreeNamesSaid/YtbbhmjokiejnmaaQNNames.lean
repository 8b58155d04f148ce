/- (*sorted).put over names; tree.names; tree.Names. -/
import Derived.Test.YtbbhmjokiejnmaaQNInsertT
import Derived.Test.YtbbhmjokiejnmaaQNFits
namespace Go.Proofs.Ytbbhmjokiejnmaa
open Go Go.RowKit Go.Lib Go.Proofs.Ytbbhmjokiejnmaa.Hy Go.Proofs.YtbbhmjokiejnmaaW.PrintWords
set_option linter.unusedVariables false
theorem bsLT_le (l : List ByteArray) (k : ByteArray) : ∀ n i j, i ≤ j → bsLT l k n i j ≤ j := by
  intro n
  induction n with
  | zero => intro i j h; exact h
  | succ n ih =>
    intro i j h
    unfold bsLT
    split
    · rename_i hlt
      split
      · exact ih _ _ (by omega)
      · exact Nat.le_trans (ih _ _ (by omega)) (by omega)
    · exact h
theorem atIT_le (l : List ByteArray) (k : ByteArray) : atIT l k ≤ l.length := bsLT_le l k _ _ _ (Nat.zero_le _)
theorem atFT_lt {l : List ByteArray} {k : ByteArray} (h : atFT l k = true) : atIT l k < l.length := by
  unfold atFT at h
  simp only [Bool.and_eq_true, decide_eq_true_eq] at h
  exact h.1
/-- A name put in its place. -/
def putFT (l : List ByteArray) (x : ByteArray) : List ByteArray := if atFT l x then l.set (atIT l x) x else l.take (atIT l x) ++ x :: l.drop (atIT l x)
/-- What a put leaves. -/
def PutPostT (w w' : World) (base g : Nat) (v v' : Value) (l : List ByteArray) : Prop :=
  SortedAtT w' g v' ∧ OwnFT w' base v' l ∧ Turned (fun k => k = g ∨ some k = v.ownBlock) w w' ∧ (v'.ownBlock = v.ownBlock ∨ ∃ b, v'.ownBlock = some b ∧ w.heap.size ≤ b)
theorem own_sliceT {w : World} {base n : Nat} {e : TypeId} {size : Nat} {v : Value} {xs : List Value} (h : w.ownsRow base e size v n xs) : ∃ A c, v = .slice A n c := by
  rcases h.2 with ⟨rfl, hn⟩ | ⟨g, cap, cur, hv, _⟩
  · subst hn; exact ⟨none, 0, rfl⟩
  · exact ⟨some ⟨g, 0, none⟩, cap, hv⟩
theorem own_sliceN {w : World} {base n : Nat} {e : TypeId} {size : Nat} {v : Value} {xs : List Value} (h : w.ownsRow base e size v n xs) : ∃ A n' c, v = .slice A n' c := by
  obtain ⟨A, c, e⟩ := own_sliceT h
  exact ⟨A, n, c, e⟩
theorem sortedAtT_below {W W' : World} {g : Nat} {v : Value} (h : SortedAtT W g v) (hb : Below W.heap.size W W') : SortedAtT W' g v := (hb.block g (Array.getElem?_eq_some_iff.1 h).1).trans h
theorem sortedAtT_cell {W : World} {g : Nat} {v : Value} (h : SortedAtT W g v) : W.cell? ⟨g, 0, none⟩ = some v := by rw [blk_cell h]; rfl
theorem sortedAtT_frozen {W : World} {g : Nat} {v : Value} (h : SortedAtT W g v) : W.frozen? ⟨g, 0, none⟩ = false := blk_frozen h 0
theorem own_belowT {w w' : World} {base : Nat} {v : Value} {l : List ByteArray} (h : OwnFT w base v l) (hb : Below w.heap.size w w') : OwnFT w' base v l :=
  own_move h (fun k hk => hb.block k (own_lt h k hk))
/-- A sorted list's own block is no row of names. -/
theorem sortedAtT_row {w : World} {base g : Nat} {u v : Value} {l : List ByteArray} (hg : SortedAtT w g u) (h : OwnFT w base v l) : some g ≠ v.ownBlock := fun e => by
  obtain ⟨cells, hc⟩ := own_typed h g e.symm
  rw [hg] at hc
  injection hc with hc
  injection hc with _ hc _
  exact absurd hc (by decide)
theorem below_ad' (W : World) (o : Obj) : Below W.heap.size W (W.alloc o) := (Below.refl _ W).alloc (Nat.le_refl _) o
theorem below_adn (W : World) (o : Obj) (n : Nat) : Below W.heap.size W ((W.alloc o).drewN n) := (below_ad' W o).trans ((Drawn0.below ⟨⟨n, rfl⟩⟩).mono (below_ad' W o).size)
theorem ins_sortedT {W w3 : World} {base g : Nat} {v v3 u : Value} {l : List ByteArray} (h : InsPostT W w3 base v v3 l) (hne : some g ≠ v.ownBlock) (hg : SortedAtT W g u) : SortedAtT w3 g u := (h.2.1.block g (Array.getElem?_eq_some_iff.1 hg).1 hne).trans hg
theorem set_ownT {w : World} {base b c i : Nat} {l : List ByteArray} (x : ByteArray) (hi : i < l.length) (HO : OwnFT w base (.slice (some ⟨b, 0, none⟩) l.length c) l) :
    OwnFT (w.setCell ⟨b, i, none⟩ (.string x)) base (.slice (some ⟨b, 0, none⟩) l.length c) (l.set i x) ∧ w.grownBy (w.setCell ⟨b, i, none⟩ (.string x)) (some b) := by
  obtain ⟨ho, hg⟩ := own_store_of HO (i : Int) x
  refine ⟨?_, ?_⟩
  · rw [Int.toNat_natCast] at ho
    show World.ownsRow _ base 9 1 _ (l.set i x).length _
    rw [List.length_set]
    exact ho
  · rw [Int.toNat_natCast] at hg
    exact hg
set_option maxHeartbeats 4000000 in
set_option maxRecDepth 100000 in
theorem sorted_put_callsT (A : Option Addr) (c : Nat) (l : List ByteArray) (x : ByteArray) (g base : Nat) (w : World) (hg : SortedAtT w g (.slice A l.length c)) (hO : OwnFT w base (.slice A l.length c) l) (hlen : l.length ≤ 1048576) (hb : base ≤ w.heap.size) :
    Calls Try.prog 55 #[.pointer (some ⟨g, 0, none⟩), .string x] w fun e w' => ∃ v', e = .returned (.tuple #[]) ∧ PutPostT w w' base g (.slice A l.length c) v' (putFT l x) := by
  have hglt : g < w.heap.size := (Array.getElem?_eq_some_iff.1 hg).1
  have hgo := sortedAtT_row hg hO
  have hd0 := sortedAtT_cell hg
  have hd1 : w.cell? ⟨g, 1, none⟩ = some (.func (.func 72) #[] #[]) := by rw [blk_cell hg]; rfl
  have hC := (Kd.R_reads' (R_of_ownFT (ok := fun _ => True) hO (fun _ _ => trivial))).2.2
  have HC := Lib.hid hC
  have HG := Lib.hid hg
  have HO := Lib.hid hO
  clear hC hg hO
  cases hf : atFT l x with
  | true =>
    have hi := atFT_lt hf
    have hpf : putFT l x = l.set (atIT l x) x := by unfold putFT; rw [hf, if_pos rfl]
    have HPF := Lib.hid hpf
    have HF := Lib.hid hf
    clear hf hpf
    obtain ⟨b, cur, rfl, hbb, hh, hsz, hlc, hmax⟩ : ∃ (b : Nat) (cur : Array Value), A = some ⟨b, 0, none⟩ ∧ base ≤ b ∧ w.heap[b]? = some (.cells cur 9 (0, 0)) ∧ cur.size = c ∧ l.length ≤ c ∧ c ≤ maxLen := by
      rcases HO.out.2 with ⟨h2, h0⟩ | ⟨b, cap, cur, hv, hgb, hh, hnc, hmax, hsz, htk⟩
      · omega
      · injection hv with hv1 hv2 hv3
        subst hv1 hv3
        exact ⟨b, cur, rfl, hgb, hh, by rw [hsz, Nat.mul_one], hnc, hmax⟩
    have hblt : b < w.heap.size := (Array.getElem?_eq_some_iff.1 hh).1
    have HH := Lib.hid hh
    clear hh
    have hi0 : (0 : Int) ≤ (atIT l x : Int) := by omega
    have hi1 : (atIT l x : Int) < (l.length : Int) := by omega
    go_enter Try.func55, Try.ntmps55
    go_wp2_with (first
      | (go_at_call 72; refine (namesKey_calls _ _).mono ?_; rintro e w' ⟨rfl, rfl⟩)
      | (go_at_call 77; refine (sorted_at_callsT _ c l x g _ HC.out hlen HG.out).mono ?_; rintro e w1 ⟨rfl, hbq⟩; rw [HF.out]; have hd0' := sortedAtT_cell (sortedAtT_below HG.out hbq); have hh1 := (hbq.block b hblt).trans HH.out; have hq0 : w1.cell? ⟨b, atIT l x, none⟩ = some cur[atIT l x]! := by { rw [blk_cell hh1, Array.getElem?_eq_getElem (by omega), getElem!_pos cur _ (by omega)] }; have hf0 : ∀ j, w1.frozen? ⟨b, j, none⟩ = false := fun j => blk_frozen hh1 j; have HH1 := Lib.hid hh1; clear hh1))
    (try simp only [Exit.inBlock, Exit.then]); refine bodyPost_ret (results_none rfl _ _ _) rfl ?_
    refine ⟨.slice (some ⟨b, 0, none⟩) l.length c, rfl, ?_, ?_, ?_, .inl rfl⟩
    · have hbg : b ≠ g := fun e => by subst e; exact hgo rfl
      exact (Below.heap_setCell w1 ⟨b, _, none⟩ _ g (Ne.symm hbg)).trans (sortedAtT_below HG.out hbq)
    · rw [HPF.out]
      exact (set_ownT x hi (own_belowT HO.out hbq)).1
    · exact (Turned.of_below (hbq) (Nat.le_refl _)).trans (Turned.setCell w1 ⟨b, _, none⟩ _ (.inr rfl))
  | false =>
    have hi := atIT_le l x
    have hpf : putFT l x = l.take (atIT l x) ++ x :: l.drop (atIT l x) := by unfold putFT; rw [hf]; rfl
    have HPF := Lib.hid hpf
    have HF := Lib.hid hf
    clear hf hpf
    have hi0 : (0 : Int) ≤ (atIT l x : Int) := by omega
    go_enter Try.func55, Try.ntmps55
    go_wp2_with (first
      | (go_at_call 72; refine (namesKey_calls _ _).mono ?_; rintro e w' ⟨rfl, rfl⟩)
      | (go_at_call 77; refine (sorted_at_callsT _ c l x g _ HC.out hlen HG.out).mono ?_; rintro e w1 ⟨rfl, hbq⟩; rw [HF.out]; have hd0' := sortedAtT_cell (sortedAtT_below HG.out hbq))
      | (go_at_call 78; refine (insert_callsT A c (atIT l x) l x base w1.heap.size _ (own_belowT HO.out (hbq.trans ((below_ad' w1 _).mono hbq.size))) hi Array.getElem?_push_size (fun e => by have := own_lt (own_belowT HO.out hbq) _ e.symm; omega) (by omega) (Nat.le_trans hb (Nat.le_trans hbq.size (by simp)))).mono ?_; rintro e w3 ⟨v3, rfl, hP⟩; obtain ⟨A3, n3, c3, rfl⟩ := own_sliceN hP.1; have hg3 := ins_sortedT hP hgo (sortedAtT_below HG.out (hbq.trans ((below_ad' w1 _).mono hbq.size))); have hc3 := sortedAtT_cell hg3; have hz3 := sortedAtT_frozen hg3))
    refine bodyPost_end (results_none rfl _ _ _) rfl ?_
    refine ⟨.slice A3 n3 c3, rfl, ?_, ?_, ?_, ?_⟩
    · have := blk_set hg3 0 (.slice A3 n3 c3)
      exact this
    · rw [HPF.out]
      exact own_setCell (p := ⟨g, 0, none⟩) hP.1 (sortedAtT_row hg3 hP.1) _
    · refine (((Turned.of_below hbq (Nat.le_refl _)).trans (Turned.alloc w1 _)).trans (Turned.grown hP.2.1 (fun k e => .inr e.symm))).trans (Turned.setCell w3 ⟨g, _, none⟩ _ (.inl rfl))
    · rcases hP.2.2 with h | ⟨b, h1, h2⟩
      · exact .inl h
      · exact .inr ⟨b, h1, by have := hbq.size; simp at h2; omega⟩
set_option maxHeartbeats 400000 in
set_option maxRecDepth 100000 in
theorem names_calls (w : World) :
    Calls Try.prog 52 #[] w fun e w' => e = .returned (.pointer (some ⟨w.heap.size, 0, none⟩)) ∧ w.alloc (.cells #[.slice none 0 0, .func (.func 72) #[] #[], .func (.func 73) #[] #[]] 74) = w' := by
  go_enter Try.func52, Try.ntmps52
  go_wp2
  go_ret
  exact ⟨rfl, rfl⟩
/-- The names of what stands in a directory: its own files, the directories in it. -/
def namesGo (dir : ByteArray) : List File → List ByteArray → List ByteArray → List ByteArray × List ByteArray
  | [], own, dirs => (own, dirs)
  | f :: l, own, dirs =>
    if (withinB f.f0 dir).2 = true ∧ (withinB f.f0 dir).1.toList ≠ [] then
      (if (cutB 47 (withinB f.f0 dir).1).2.2 = true then namesGo dir l own (putFT dirs (cutB 47 (withinB f.f0 dir).1).1) else namesGo dir l (putFT own (cutB 47 (withinB f.f0 dir).1).1) dirs)
    else namesGo dir l own dirs
def tree_Names.f (l : List File) (dir : ByteArray) : Option (List ByteArray × List ByteArray) :=
  if shortAll l = true then if dir.size < 4611686018427387904 then some (namesGo dir l [] []) else none else none
theorem putFT_len (l : List ByteArray) (x : ByteArray) : (putFT l x).length ≤ l.length + 1 := by
  have := atIT_le l x
  unfold putFT
  split
  · rw [List.length_set]; omega
  · rw [List.length_append, List.length_cons, List.length_take, List.length_drop]; omega
theorem within_size (s dir : ByteArray) : (withinB s dir).1.size ≤ s.size := by
  unfold withinB
  split
  · exact Nat.le_refl _
  · split
    · exact Nat.zero_le _
    · split
      · simp
      · exact Nat.zero_le _
/-- Two sorted lists of names, apart. -/
structure Both (w : World) (base g1 g2 : Nat) (v1 v2 : Value) (l1 l2 : List ByteArray) : Prop where
  s1 : SortedAtT w g1 v1
  s2 : SortedAtT w g2 v2
  o1 : OwnFT w base v1 l1
  o2 : OwnFT w base v2 l2
  g12 : g1 ≠ g2
  b1 : base ≤ g1
  b2 : base ≤ g2
  apart : ∀ k, v1.ownBlock = some k → v2.ownBlock ≠ some k
theorem Both.below {w w' : World} {base g1 g2 : Nat} {v1 v2 : Value} {l1 l2 : List ByteArray} (h : Both w base g1 g2 v1 v2 l1 l2) (hb : Below w.heap.size w w') : Both w' base g1 g2 v1 v2 l1 l2 :=
  ⟨sortedAtT_below h.s1 hb, sortedAtT_below h.s2 hb, own_belowT h.o1 hb, own_belowT h.o2 hb, h.g12, h.b1, h.b2, h.apart⟩
theorem Both.flip {w : World} {base g1 g2 : Nat} {v1 v2 : Value} {l1 l2 : List ByteArray} (h : Both w base g1 g2 v1 v2 l1 l2) : Both w base g2 g1 v2 v1 l2 l1 :=
  ⟨h.s2, h.s1, h.o2, h.o1, Ne.symm h.g12, h.b2, h.b1, fun k h1 h2 => h.apart k h2 h1⟩
theorem Both.put {w w' : World} {base g1 g2 : Nat} {v1 v2 v' : Value} {l1 l2 l' : List ByteArray} (h : Both w base g1 g2 v1 v2 l1 l2) (hp : PutPostT w w' base g1 v1 v' l') : Both w' base g1 g2 v' v2 l' l2 := by
  obtain ⟨p1, p2, p3, p4⟩ := hp
  have hlt2 : g2 < w.heap.size := (Array.getElem?_eq_some_iff.1 h.s2).1
  refine ⟨p1, p3.heap (fun e => ?_) h.s2, p2, own_move h.o2 (fun k hk => p3.block k (own_lt h.o2 k hk) (fun e => ?_)), h.g12, h.b1, h.b2, fun k hk hk2 => ?_⟩
  · rcases e with e | e
    · exact h.g12 e.symm
    · exact sortedAtT_row h.s2 h.o1 e
  · rcases e with e | e
    · subst e; exact sortedAtT_row h.s1 h.o2 hk.symm
    · exact h.apart k e.symm hk
  · rcases p4 with e | ⟨b, e, hb⟩
    · exact h.apart k (by rw [← e]; exact hk) hk2
    · rw [e] at hk; injection hk with hk
      have := own_lt h.o2 k hk2
      omega
theorem put_belowT {w w' : World} {base g : Nat} {v v' : Value} {l l' : List ByteArray} (hg : base ≤ g) (hO : OwnFT w base v l) (hb : base ≤ w.heap.size) (hp : PutPostT w w' base g v v' l') : Below base w w' :=
  hp.2.2.1.below hb (fun k e => by
    rcases e with e | e
    · omega
    · exact own_base hO k e.symm)
set_option maxHeartbeats 4000000 in
set_option maxRecDepth 100000 in
theorem tree_Names.calls (A0 : Option Addr) (c0 : Nat) (l0 : List File) (a1 : ByteArray) (r1 r2 : List ByteArray) (w : World) (hr0 : Kd.C k29 w A0 l0.length l0) (hc0 : l0.length ≤ c0) (h : tree_Names.f l0 a1 = some (r1, r2)) :
    Calls Try.prog 26 #[.slice A0 l0.length c0, .string a1] w fun e w' => ∃ v0_ v1_ : Value, e = .returned (.tuple #[v0_, v1_]) ∧ Kd.R Kd.string 9 w' w.heap.size (fun k_ => some k_ ≠ (v1_ : Value).ownBlock) v0_ r1 ∧ Kd.R Kd.string 9 w' w.heap.size (fun k_ => some k_ ≠ (v0_ : Value).ownBlock) v1_ r2 ∧ Below w.heap.size w w' := by
  unfold tree_Names.f at h
  split at h
  case isFalse => cases h
  rename_i hsh
  split at h
  case isFalse => cases h
  rename_i hdir
  have hlen : l0.length ≤ 1048576 := by unfold shortAll at hsh; simp only [Bool.and_eq_true, decide_eq_true_eq] at hsh; exact hsh.1
  have HSH := Lib.hid hsh
  clear hsh
  injection h with h
  have HH := Lib.hid h
  have HR := Lib.hid hr0
  clear h hr0
  go_enter Try.func26, Try.ntmps26
  go_wp2_with (go_at_call 52; refine (names_calls _).mono ?_; rintro e w' ⟨rfl, rfl⟩)
  have hb0 : Below w.heap.size w ((w.alloc (.cells #[.slice none 0 0, .func (.func 72) #[] #[], .func (.func 73) #[] #[]] 74)).alloc (.cells #[.slice none 0 0, .func (.func 72) #[] #[], .func (.func 73) #[] #[]] 74)) := ((Below.refl _ w).alloc (Nat.le_refl _) _).alloc (by simp) _
  have hB0 : Both ((w.alloc (.cells #[.slice none 0 0, .func (.func 72) #[] #[], .func (.func 73) #[] #[]] 74)).alloc (.cells #[.slice none 0 0, .func (.func 72) #[] #[], .func (.func 73) #[] #[]] 74)) w.heap.size w.heap.size (w.heap.size + 1) (.slice none 0 0) (.slice none 0 0) [] [] := by
    refine ⟨?_, ?_, own_nil _ _ _ _, own_nil _ _ _ _, by omega, Nat.le_refl _, by omega, fun k hk => by simp [Value.ownBlock] at hk⟩
    · exact (Below.heap_alloc _ _ _ (by simp)).trans Array.getElem?_push_size
    · have := World.alloc_heap_new (w.alloc (.cells #[.slice none 0 0, .func (.func 72) #[] #[], .func (.func 73) #[] #[]] 74)) (.cells #[.slice none 0 0, .func (.func 72) #[] #[], .func (.func 73) #[] #[]] 74)
      rwa [World.size_alloc] at this
  have HB0 := Lib.hid hB0
  clear hB0
  go_loopw [19] (fun v wr => ∃ (i : Nat) (own dirs : List ByteArray) (A1 A2 : Option Addr) (c1 c2 : Nat), v = .int .i64 i ∧ i ≤ l0.length ∧ own.length + dirs.length ≤ i ∧ Hid (namesGo a1 (l0.drop i) own dirs = (r1, r2)) ∧ Hid (Both wr w.heap.size w.heap.size (w.heap.size + 1) (.slice A1 own.length c1) (.slice A2 dirs.length c2) own dirs) ∧ Below w.heap.size w wr) (fun v _ => l0.length - (RowKit.intOf v).toNat)
  case atStart => exact ⟨0, [], [], none, none, 0, 0, rfl, Nat.zero_le _, Nat.le_refl _, HH, HB0, hb0⟩
  case round =>
    obtain ⟨i, own, dirs, A1, A2, c1, c2, rfl, hi, hod, HGO, HBO, hbe⟩ := hrel
    by_cases hlt : i < l0.length
    · obtain ⟨ad, rfl, hx0, hx1⟩ := at_T29 (Kd.C_below HR.out hbe) (i : Int) (by omega) (by omega)
      have ef : rd_T29 l0 (i : Int) = l0[i] := by
        unfold rd_T29
        rw [List.getD_eq_getElem?_getD, List.getElem?_eq_getElem (by omega)]
        rfl
      rw [ef, Int.toNat_natCast] at hx0 hx1
      have hgo := HGO.out
      rw [List.drop_eq_getElem_cons hlt] at hgo
      simp only [namesGo] at hgo
      have hxs := short_at HSH.out (i : Int) (by omega) (by omega)
      rw [ef] at hxs
      generalize hxx : l0[i] = x at hx0 hx1 hgo hxs
      clear hxx ef HGO
      have hW := within_some x.f0 a1 hdir
      have hps := within_size x.f0 a1
      generalize withinB x.f0 a1 = q at hW hgo hps
      obtain ⟨p, is⟩ := q
      have HW := Lib.hid hW
      clear hW
      have p0 : ((0 : Int) ≤ (i : Int)) = True := eq_true (by omega)
      have q0 : ((i : Int) < (l0.length : Int)) = True := eq_true (by omega)
      cases is with
      | false =>
        simp only [Bool.false_eq_true, false_and, if_false] at hgo
        have HGO := Lib.hid hgo
        clear hgo
        go_wp2_with (go_at_call 53; refine (paths_Within.calls _ _ _ _ _ HW.out).mono ?_; rintro e w2 ⟨rfl, ⟨⟨nd, rfl⟩⟩⟩)
        go_roundw
        case rel => exact ⟨i + 1, own, dirs, A1, A2, c1, c2, by go_num, by omega, by omega, HGO, Lib.hid (HBO.out.below (below_adn wr _ nd)), hbe.trans ((below_adn wr _ nd).mono hbe.size)⟩
        case measure => simp [RowKit.intOf]; omega
      | true =>
        by_cases he : p.toList = []
        · have he1 : p.toList.isEmpty = true := by rw [he]; rfl
          simp only [he, ne_eq, not_true_eq_false, and_false, if_false] at hgo
          have HGO := Lib.hid hgo
          clear hgo he
          go_wp2_with (go_at_call 53; refine (paths_Within.calls _ _ _ _ _ HW.out).mono ?_; rintro e w2 ⟨rfl, ⟨⟨nd, rfl⟩⟩⟩)
          go_roundw
          case rel => exact ⟨i + 1, own, dirs, A1, A2, c1, c2, by go_num, by omega, by omega, HGO, Lib.hid (HBO.out.below (below_adn wr _ nd)), hbe.trans ((below_adn wr _ nd).mono hbe.size)⟩
          case measure => simp [RowKit.intOf]; omega
        · have he1 : p.toList.isEmpty = false := by cases hp : p.toList with
            | nil => exact absurd hp he
            | cons a b => rfl
          simp only [he, ne_eq, not_false_eq_true, and_self, if_true] at hgo
          clear he
          have hps' : p.size ≤ 9223372036854775807 := by simp only at hps; omega
          have hC := fun W => strings_Cut1 p 47 W hps'
          generalize cutB 47 p = q at hC hgo
          obtain ⟨first, rest, more⟩ := q
          have HC := Lib.hid hC
          clear hC
          cases more with
          | true =>
            simp only [if_true] at hgo
            have HGO := Lib.hid hgo
            clear hgo
            have hpl := putFT_len dirs first
            go_wp2_with (first
              | (go_at_call 53; refine (paths_Within.calls _ _ _ _ _ HW.out).mono ?_; rintro e w2 ⟨rfl, ⟨⟨nd, rfl⟩⟩⟩)
              | (go_at_call 54; refine (HC.out _).mono ?_; rintro e w3 ⟨rfl, ⟨nd2, rfl⟩⟩)
              | (go_at_call 55; refine (sorted_put_callsT A2 c2 dirs first (w.heap.size + 1) w.heap.size _ (HBO.out.below (below_adn wr _ _)).s2 (HBO.out.below (below_adn wr _ _)).o2 (by omega) (Nat.le_trans hbe.size (below_adn wr _ _).size)).mono ?_; rintro e w4 ⟨v4, rfl, hP⟩))
            obtain ⟨A3, c3, rfl⟩ := own_sliceT hP.2.1
            go_roundw
            case rel => exact ⟨i + 1, own, putFT dirs first, A1, A3, c1, c3, by go_num, by omega, by omega, HGO, Lib.hid ((HBO.out.below (below_adn wr _ _)).flip.put hP).flip, hbe.trans (((below_adn wr _ _).mono hbe.size).trans (put_belowT (by omega) (HBO.out.below (below_adn wr _ _)).o2 (Nat.le_trans hbe.size (below_adn wr _ _).size) hP))⟩
            case measure => simp [RowKit.intOf]; omega
          | false =>
            simp only [Bool.false_eq_true, if_false] at hgo
            have HGO := Lib.hid hgo
            clear hgo
            have hpl := putFT_len own first
            go_wp2_with (first
              | (go_at_call 53; refine (paths_Within.calls _ _ _ _ _ HW.out).mono ?_; rintro e w2 ⟨rfl, ⟨⟨nd, rfl⟩⟩⟩)
              | (go_at_call 54; refine (HC.out _).mono ?_; rintro e w3 ⟨rfl, ⟨nd2, rfl⟩⟩)
              | (go_at_call 55; refine (sorted_put_callsT A1 c1 own first w.heap.size w.heap.size _ (HBO.out.below (below_adn wr _ _)).s1 (HBO.out.below (below_adn wr _ _)).o1 (by omega) (Nat.le_trans hbe.size (below_adn wr _ _).size)).mono ?_; rintro e w4 ⟨v4, rfl, hP⟩))
            obtain ⟨A3, c3, rfl⟩ := own_sliceT hP.2.1
            go_roundw
            case rel => exact ⟨i + 1, putFT own first, dirs, A3, A2, c3, c2, by go_num, by omega, by omega, HGO, Lib.hid ((HBO.out.below (below_adn wr _ _)).put hP), hbe.trans (((below_adn wr _ _).mono hbe.size).trans (put_belowT (by omega) (HBO.out.below (below_adn wr _ _)).o1 (Nat.le_trans hbe.size (below_adn wr _ _).size) hP))⟩
            case measure => simp [RowKit.intOf]; omega
    · obtain rfl : i = l0.length := by omega
      have hfin := HGO.out
      rw [List.drop_length] at hfin
      simp only [namesGo, Prod.mk.injEq] at hfin
      obtain ⟨rfl, rfl⟩ := hfin
      clear HGO
      have hd1 := sortedAtT_cell HBO.out.s1
      have hd2 := sortedAtT_cell HBO.out.s2
      go_wp2
      go_region
      go_wp2
      go_ret2
      have hB := HBO.out.below (Below.refl wr.heap.size wr).drew
      exact ⟨_, _, rfl, R_of_ownFT hB.o1 (fun k hk e => hB.apart k hk e.symm), R_of_ownFT hB.o2 (fun k hk e => hB.apart k e.symm hk), hbe.drew⟩
end Go.Proofs.Ytbbhmjokiejnmaa

