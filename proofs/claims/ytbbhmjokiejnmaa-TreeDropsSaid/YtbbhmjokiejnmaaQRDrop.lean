/- slices.Delete over files, one; (*sorted).drop; tree.Drop. -/
import Derived.Test.YtbbhmjokiejnmaaQRPut
import Derived.Deep.RegionLaw
namespace Go.Proofs.Ytbbhmjokiejnmaa
open Go Go.RowKit Go.Lib Go.Proofs.Ytbbhmjokiejnmaa.Hy Go.Proofs.YtbbhmjokiejnmaaW.PrintWords
set_option linter.unusedVariables false
theorem run_clear_two {P : Program} (w : World) (t e ty : TypeId) (z0 z1 : Value) (ht : P.underlying t = some (.slice e)) (hv : ∀ w, (zeroValue e).run P w = .ok (.agg #[z0, z1]) w) (hz : (Value.agg #[z0, z1]).cells = #[z0, z1]) (h0 : z0.oneCell' = true) (h1 : z1.oneCell' = true) (b o c : Nat)
    (hc : ∀ j, j < 2 → (w.cell? ⟨b, o + j, none⟩).isSome = true) (hf : ∀ j, j < 2 → w.frozen? ⟨b, o + j, none⟩ = false) :
    (Builtin.clear_ #[t] ty #[.slice (some ⟨b, o, none⟩) 1 c]).run P w = .ok (.tuple #[]) (w.setCells b o [z0, z1]) := by
  have hzc : (Builtin.zeroCells (Value.agg #[z0, z1]).cells 1).toList = [z0, z1] := by
    rw [hz]
    apply List.ext_getElem
    · simp [Builtin.zeroCells]
    · intro i h1 h2
      simp only [List.length_cons, List.length_nil] at h2
      rcases i with _ | _ | i
      · simp [Builtin.zeroCells]
      · simp [Builtin.zeroCells]
      · omega
  have hst := run_storeCells_cells (P := P) b o [z0, z1] 0 w (by simpa using hc) (by simpa using hf) (by intro v hv'; simp only [List.mem_cons, List.not_mem_nil, or_false] at hv'; rcases hv' with rfl | rfl <;> assumption)
  simp only [Nat.add_zero] at hst
  simp [Builtin.clear_, run_underlying ht, hv, hzc, hst]
/-- What a delete leaves in the row. -/
theorem delete_own {w : World} {base b c i : Nat} {l : List File} (hi : i < l.length) (HO : OwnF w base (.slice (some ⟨b, 0, none⟩) l.length c) l) :
    OwnF ((w.drew.setCells b (i * 2) (cellsF (l.drop (i + 1)))).setCells b ((l.length - 1) * 2) [.string ⟨#[]⟩, .string ⟨#[]⟩]) base (.slice (some ⟨b, 0, none⟩) (l.length - 1) c) (l.take i ++ l.drop (i + 1)) := by
  obtain ⟨h1, h2⟩ := HO
  rcases h2 with ⟨h2, _⟩ | ⟨g, cap, cur, hv, hb, hh, hnc, hmax, hsz, htk⟩
  · cases h2
  · injection hv with hv1 hv2 hv3
    injection hv1 with hv1
    injection hv1 with hv1 _ _
    subst hv1 hv3
    have hlen : (l.take i ++ l.drop (i + 1)).length = l.length - 1 := by rw [List.length_append, List.length_take, List.length_drop]; omega
    obtain ⟨cur1, k1, k2, k3⟩ := setCells_row (cellsF (l.drop (i + 1))) (i * 2) w.drew cur hh (by rw [cellsF_length, List.length_drop]; omega)
    obtain ⟨cur2, m1, m2, m3⟩ := setCells_row [.string ⟨#[]⟩, .string ⟨#[]⟩] ((l.length - 1) * 2) _ cur1 k1 (by rw [k2]; simp only [List.length_cons, List.length_nil]; omega)
    refine ⟨by rw [cellsF_length], .inr ⟨b, c, cur2, by rw [hlen], hb, m1, by omega, hmax, by rw [m2, k2, hsz], ?_⟩⟩
    have hla : (cellsF (l.take i)).length = i * 2 := by rw [cellsF_length, List.length_take]; omega
    have hlb : (cellsF (l.drop (i + 1))).length = (l.length - (i + 1)) * 2 := by rw [cellsF_length, List.length_drop]
    have hta : cur.toList.take (i * 2) = cellsF (l.take i) := by
      rw [← cellsF_take, ← htk, List.take_take, Nat.min_eq_left (by omega)]
    have hle : (cellsF (l.take i) ++ cellsF (l.drop (i + 1))).length = (l.length - 1) * 2 := by rw [List.length_append, hla, hlb]; omega
    have hcur1 : cur1.toList.take ((l.length - 1) * 2) = cellsF (l.take i) ++ cellsF (l.drop (i + 1)) := by
      rw [k3, hta, ← hle, List.take_append_of_le_length (Nat.le_refl _), List.take_length]
    rw [hlen, m3, hcur1, cellsF_append, List.append_assoc, List.take_append_of_le_length (by rw [hle]; exact Nat.le_refl _), ← hle, List.take_length]
set_option maxHeartbeats 4000000 in
set_option maxRecDepth 100000 in
theorem delete_calls (b c i : Nat) (l : List File) (base : Nat) (w : World) (HO : OwnF w base (.slice (some ⟨b, 0, none⟩) l.length c) l) (hi : i < l.length) (hl : l.length ≤ 1048577) :
    Calls Try.prog 79 #[.slice (some ⟨b, 0, none⟩) l.length c, .int .i64 (i : Int), .int .i64 ((i : Int) + 1)] w fun e w' => ∃ v', e = .returned v' ∧ InsPost w w' base (.slice (some ⟨b, 0, none⟩) l.length c) v' (l.take i ++ l.drop (i + 1)) := by
  obtain ⟨hbb, cur, hh, hsz, hnc, hmax, hcs⟩ := ownF_cells HO
  have hmax' : c ≤ 9223372036854775807 := by unfold maxLen at hmax; omega
  obtain ⟨i0, hi0, hz0, hz1, hz2⟩ := info_parts info29
  have hut := Try.underlying22
  have hlen : (cellsF (l.drop (i + 1))).length = (l.length - (i + 1)) * 2 := by rw [cellsF_length, List.length_drop]
  obtain ⟨A, hA, hsrc⟩ : ∃ A : Addr, (if c = i + 1 then (some ⟨b, 0, none⟩ : Option Addr) else some ⟨b, (i + 1) * 2, none⟩) = some A ∧ Hid (∀ t u, (cellsF (l.drop (i + 1)))[t]? = some u → w.drew.cell? (A.add t) = some u) := by
    by_cases h : c = i + 1
    · refine ⟨⟨b, 0, none⟩, by simp [h], fun t u hu => ?_⟩
      have h0 : (cellsF (l.drop (i + 1))).length = 0 := by rw [hlen]; omega
      rw [List.length_eq_zero_iff.1 h0] at hu
      simp at hu
    · refine ⟨⟨b, (i + 1) * 2, none⟩, by simp [h], fun t u hu => ?_⟩
      rw [Addr.add_lit]
      refine hcs _ _ ?_
      rw [← cellsF_drop, List.getElem?_drop] at hu
      exact hu
  have hc1 : ∀ W : World, (Instr.slice 22 (.slice (some ⟨b, 0, none⟩) l.length c) (some (.int .i64 ((i : Int) + 1))) none none).run Try.prog W = .ok (.slice (some A) (l.length - (i + 1)) (c - (i + 1))) W := fun W => by
    have := cut_from (P := Try.prog) 22 29 .i64 hut hi0 2 hz1 (some ⟨b, 0, none⟩) l.length c ((i : Int) + 1) (by omega) (by omega) W
    rw [this, show ((i : Int) + 1).toNat = i + 1 from by omega]
    simp only [Option.map_some, add_plain]
    rw [hA]
  have hc2 : ∀ W : World, (Instr.slice 22 (.slice (some ⟨b, 0, none⟩) l.length c) none (some (.int .i64 (i : Int))) none).run Try.prog W = .ok (.slice (some ⟨b, 0, none⟩) i c) W := fun W => by
    have := cut_to (P := Try.prog) 22 29 .i64 hut hi0 (some ⟨b, 0, none⟩) l.length c (i : Int) (by omega) (by omega) (by omega) W
    rw [this, Int.toNat_natCast]
  have s1 : Hid ((cellsF (l.drop (i + 1))).length = (l.length - (i + 1)) * 2) := hlen
  have s2 : Hid (∀ u ∈ cellsF (l.drop (i + 1)), u.oneCell' = true) := cellsF_one _
  have s3 : Hid (∀ t, t < (cellsF (l.drop (i + 1))).length → (w.drew.cell? ⟨b, 0 + i * 2 + t, none⟩).isSome = true ∧ w.drew.frozen? ⟨b, 0 + i * 2 + t, none⟩ = false) := by
    intro t ht
    rw [hlen] at ht
    refine ⟨?_, blk_frozen (w := w) hh _⟩
    show (w.cell? _).isSome = true
    rw [blk_cell hh, Array.getElem?_eq_getElem (by omega)]; rfl
  obtain ⟨W1, hW1⟩ : ∃ W1, W1 = w.drew.setCells b (0 + i * 2) (cellsF (l.drop (i + 1))) := ⟨_, rfl⟩
  obtain ⟨cur1, g1, g2, g3⟩ := setCells_row (cellsF (l.drop (i + 1))) (0 + i * 2) w.drew cur hh (by rw [hlen]; omega)
  rw [← hW1] at g1
  have hfin := delete_own (c := c) hi HO
  rw [show i * 2 = 0 + i * 2 from by omega, ← hW1] at hfin
  have hcl : ∀ ty, (Builtin.clear_ #[22] ty #[.slice (some ⟨b, (l.length - 1) * 2, none⟩) 1 (c - (l.length - 1))]).run Try.prog W1 = .ok (.tuple #[]) (W1.setCells b ((l.length - 1) * 2) [.string ⟨#[]⟩, .string ⟨#[]⟩]) := fun ty =>
    run_clear_two W1 _ _ ty _ _ hut (fun w => by kernel_rfl) rfl rfl rfl b ((l.length - 1) * 2) _ (fun j hj => by rw [blk_cell g1, Array.getElem?_eq_getElem (by omega)]; rfl) (fun j hj => blk_frozen g1 _)
  have hgr : w.grownBy (W1.setCells b ((l.length - 1) * 2) [.string ⟨#[]⟩, .string ⟨#[]⟩]) (some b) := by
    have h1 : w.grownBy W1 (some b) := by
      rw [hW1]
      have := setCells_grownBy w.drew b (cellsF (l.drop (i + 1))) (0 + i * 2)
      exact ⟨this.os, this.tape, this.output, this.size, this.block⟩
    have h2 := setCells_grownBy W1 b [.string ⟨#[]⟩, .string ⟨#[]⟩] ((l.length - 1) * 2)
    exact ⟨h2.os.trans h1.os, h2.tape.trans h1.tape, h2.output.trans h1.output, Nat.le_trans h1.size h2.size, fun k hk hkb => (h2.block k (Nat.lt_of_lt_of_le hk h1.size) hkb).trans (h1.block k hk hkb)⟩
  have hW : Hid (W1 = w.drew.setCells b (0 + i * 2) (cellsF (l.drop (i + 1)))) := hW1
  have HFIN := Lib.hid hfin
  have HGR := Lib.hid hgr
  have e1 : i + (l.length - (i + 1)) = l.length - 1 := by omega
  have HE := Lib.hid e1
  replace hcl : ∀ ty, (Builtin.clear_ #[22] ty #[.slice (some ⟨b, (i + (l.length - (i + 1))) * 2, none⟩) (l.length - (i + (l.length - (i + 1)))) (c - (i + (l.length - (i + 1))))]).run Try.prog W1 = .ok (.tuple #[]) (W1.setCells b ((l.length - 1) * 2) [.string ⟨#[]⟩, .string ⟨#[]⟩]) := fun ty => by
    rw [HE.out, show l.length - (l.length - 1) = 1 from by omega]; exact hcl ty
  have hic : i ≤ c := by omega
  have hb1 : (0 : Int) ≤ (i : Int) + 1 := by omega
  have hb2 : (i : Int) + 1 ≤ (l.length : Int) := by omega
  have hb3 : ¬ ((i : Int) = (i : Int) + 1) := by omega
  clear hW1 hfin hgr hlen hcs hh g1 g2 g3 hz0 hz2 hA HO e1 hsz
  have mixed : Try.prog.follows .mixedOrders = true := by kernel_rfl
  go_enter Try.func79, Try.ntmps79
  go_wp2_with fail
  go_region_law_o (refine step_append_room rfl (.tmp 22) (.tmp 25) 22 rfl 29 i0 2 hut hi0 hz1 b 0 i c (by simp [Act.eval, Act.put]) A (l.length - (i + 1)) (c - (i + 1)) (cellsF (l.drop (i + 1))) (by simp [Act.eval, Act.put]) s1.out hsrc.out s2.out (by omega) s3.out ?_; rw [← hW.out])
  go_wp2
  go_ret
  exact ⟨_, rfl, by rw [HE.out]; exact HFIN.out, HGR.out, .inl rfl⟩
/-- A file dropped. -/
def dropF (l : List File) (k : ByteArray) : List File := if atF l k then l.take (atI l k) ++ l.drop (atI l k + 1) else l
set_option maxHeartbeats 4000000 in
set_option maxRecDepth 100000 in
theorem sorted_drop_calls (A : Option Addr) (c : Nat) (l : List File) (k : ByteArray) (g base : Nat) (w : World) (hS : SortedOwn w base g (.slice A l.length c) l) (hsh : shortAll l = true) (hk : k.size ≤ 1048576) (hb : base ≤ w.heap.size) :
    Calls Try.prog 60 #[.pointer (some ⟨g, 0, none⟩), .string k] w fun e w' => ∃ v', e = .returned (.bool (atF l k)) ∧ SortedOwn w' base g v' (dropF l k) ∧ Below base w w' := by
  obtain ⟨hbg, hg, hR⟩ := hS
  have hlen : l.length ≤ 1048576 := by unfold shortAll at hsh; simp only [Bool.and_eq_true, decide_eq_true_eq] at hsh; exact hsh.1
  have hglt : g < w.heap.size := (Array.getElem?_eq_some_iff.1 hg).1
  have hC := (Kd.R_reads' hR).2.2
  have HR := Lib.hid hR
  have HG := Lib.hid hg
  have HC := Lib.hid hC
  have HSH := Lib.hid hsh
  clear hR hg hC hsh
  cases hf : atF l k with
  | false =>
    have HF := Lib.hid hf
    clear hf
    go_enter Try.func60, Try.ntmps60
    go_wp2_with (go_at_call 40; refine (sorted_at_calls A c l k g _ HC.out HSH.out HG.out hk).mono ?_; rintro e w' ⟨rfl, hbq⟩; rw [HF.out])
    go_ret
    refine ⟨.slice A l.length c, rfl, ?_, hbq.mono hb⟩
    have hd : dropF l k = l := by unfold dropF; rw [HF.out]; rfl
    rw [hd]
    exact sortedOwn_below ⟨hbg, HG.out, HR.out⟩ hbq
  | true =>
    have hi := atF_lt hf
    have hd : dropF l k = l.take (atI l k) ++ l.drop (atI l k + 1) := by unfold dropF; rw [hf]; rfl
    have HD := Lib.hid hd
    have HF := Lib.hid hf
    clear hf hd
    obtain ⟨b, rfl, hbb⟩ : ∃ b, A = some ⟨b, 0, none⟩ ∧ base ≤ b := by
      rcases (own_of_R HR.out).2 with ⟨h2, h0⟩ | ⟨b, cap, cur, hv, hgb, _⟩
      · omega
      · injection hv with hv1 hv2 hv3
        exact ⟨b, hv1, hgb⟩
    have hmixed : Try.prog.follows .mixedOrders = true := by kernel_rfl
    have hgo : some g ≠ (Value.slice (some ⟨b, 0, none⟩) l.length c).ownBlock := fun e => HR.out.1 g e.symm rfl
    have hi0 : (0 : Int) ≤ (atI l k : Int) := by omega
    have hil : atI l k ≤ 1048576 := by omega
    go_enter Try.func60, Try.ntmps60
    go_wp2_with (first
      | (go_at_call 40; refine (sorted_at_calls _ c l k g _ HC.out HSH.out HG.out hk).mono ?_; rintro e w1 ⟨rfl, hbq⟩; rw [HF.out]; have hd1 := sortedAt_cell (sortedAt_below HG.out hbq); have HG1 := Lib.hid (sortedAt_below HG.out hbq); have HR1 := Lib.hid (Kd.R_below HR.out hbq))
      | (go_at_call 79; refine (delete_calls b c (atI l k) l base _ (own_of_R HR1.out) hi (by omega)).mono ?_; rintro e w3 ⟨v3, rfl, hP⟩; obtain ⟨A3, n3, c3, rfl⟩ := ins_slice hP; have hg3 := ins_sorted hP hgo HG1.out; have hc3 := sortedAt_cell hg3; have hz3 := sortedAt_frozen hg3))
    go_ret
    refine ⟨.slice A3 n3 c3, rfl, ?_, ?_⟩
    · rw [HD.out]
      exact ins_store hbg hg3 hP hgo
    · exact ins_below hbg hb hbq hP (R_base HR1.out)
def tree_Drop.f (l0 : List File) (a1 : ByteArray) : Option (List File × Int) :=
  if shortAll l0 = true then if a1.size ≤ 1048576 then (if atF l0 a1 = true then some (dropF l0 a1, 0) else some ([], 3)) else none else none
set_option maxHeartbeats 4000000 in
set_option maxRecDepth 100000 in
theorem tree_Drop.calls (A0 : Option Addr) (c0 : Nat) (l0 : List File) (a1 : ByteArray) (r1 : List File) (r2 : Int) (w : World) (hr0 : Kd.C k29 w A0 l0.length l0) (hc0 : l0.length ≤ c0) (h : tree_Drop.f l0 a1 = some (r1, r2)) :
    Calls Try.prog 32 #[.slice A0 l0.length c0, .string a1] w fun e w' => ∃ v0_ : Value, e = .returned (.tuple #[v0_, .int .i64 r2]) ∧ Kd.R k29 29 w' w.heap.size (fun _ => True) v0_ r1 ∧ Below w.heap.size w w' := by
  unfold tree_Drop.f at h
  split at h
  case isFalse => cases h
  rename_i hsh
  split at h
  case isFalse => cases h
  rename_i hk
  have hlen : l0.length ≤ 1048576 := by unfold shortAll at hsh; simp only [Bool.and_eq_true, decide_eq_true_eq] at hsh; exact hsh.1
  have HSH := Lib.hid hsh
  have HR := Lib.hid hr0
  clear hsh hr0
  cases hf : atF l0 a1 with
  | false =>
    rw [hf] at h
    simp only [Bool.false_eq_true, if_false] at h
    injection h with h; injection h with h1 h2
    subst h1 h2
    have HF := Lib.hid hf
    clear hf
    go_enter Try.func32, Try.ntmps32
    go_wp2_with (first
      | (go_at_call 39; refine (files_calls A0 c0 l0 _ HR.out hlen).mono ?_; rintro e w2 ⟨v, g, rfl, hS, hbf⟩; obtain ⟨Av, cv, rfl⟩ := Kd.R_slice hS.2.2)
      | (go_at_call 60; refine (sorted_drop_calls Av cv l0 a1 g _ _ hS HSH.out hk hbf.size).mono ?_; rintro e w3 ⟨v', rfl, hS3, hb3⟩; rw [HF.out]))
    go_ret2
    exact ⟨_, rfl, Kd.R_nil _ _ _ _ _, hbf.trans hb3⟩
  | true =>
    rw [hf] at h
    simp only [if_true] at h
    injection h with h; injection h with h1 h2
    subst h1 h2
    have HF := Lib.hid hf
    clear hf
    go_enter Try.func32, Try.ntmps32
    go_wp2_with (first
      | (go_at_call 39; refine (files_calls A0 c0 l0 _ HR.out hlen).mono ?_; rintro e w2 ⟨v, g, rfl, hS, hbf⟩; obtain ⟨Av, cv, rfl⟩ := Kd.R_slice hS.2.2)
      | (go_at_call 60; refine (sorted_drop_calls Av cv l0 a1 g _ _ hS HSH.out hk hbf.size).mono ?_; rintro e w3 ⟨v', rfl, hS3, hb3⟩; rw [HF.out]; obtain ⟨A4, c4, rfl⟩ := Kd.R_slice hS3.2.2; have hd4 := sortedAt_cell hS3.2.1))
    go_ret2
    exact ⟨_, rfl, Kd.R_mono hS3.2.2 (fun _ _ => trivial), hbf.trans hb3⟩
end Go.Proofs.Ytbbhmjokiejnmaa

