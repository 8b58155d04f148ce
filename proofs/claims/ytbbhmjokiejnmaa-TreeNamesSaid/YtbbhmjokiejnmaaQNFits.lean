/- tree.fits: may a path stand beside those that are there? -/
import Derived.Test.YtbbhmjokiejnmaaQNAt
namespace Go.Proofs.Ytbbhmjokiejnmaa
open Go Go.RowKit Go.Proofs.Ytbbhmjokiejnmaa.Hy Go.Proofs.YtbbhmjokiejnmaaW.PrintWords
set_option linter.unusedVariables false
theorem dirB_size (p : ByteArray) : (dirB p).size ≤ p.size ∧ (p.data.toList ≠ [] → (dirB p).size < p.size) := by
  have hl := lastIx_lt 47 p.data.toList
  rw [← Lib.size_eq] at hl
  unfold dirB
  split
  · rw [ByteArray.size_extract]
    exact ⟨by omega, fun _ => by omega⟩
  · refine ⟨Nat.zero_le _, fun h => ?_⟩
    have : p.data.toList.length ≠ 0 := fun e => h (List.eq_nil_of_length_eq_zero e)
    rw [← Lib.size_eq] at this
    show 0 < p.size
    omega
theorem aboveF_step (l : List File) (n : Nat) (d : ByteArray) (h : ¬ d.toList = []) : aboveF l (n + 1) d = if atF l d then true else aboveF l n (dirB d) := by
  rw [Lib.toList_data] at h
  show (if d.data.toList = [] then false else _) = _
  rw [if_neg h]
theorem bsL_le (l : List File) (k : ByteArray) : ∀ (n i j : Nat), i ≤ j → bsL l k n i j ≤ j := by
  intro n
  induction n with
  | zero => intro i j h; exact h
  | succ n ih =>
    intro i j h
    unfold bsL
    split
    · split
      · exact ih _ _ (by omega)
      · exact Nat.le_trans (ih _ _ (by omega)) (by omega)
    · exact h
theorem atI_le (l : List File) (k : ByteArray) : atI l k ≤ l.length := bsL_le l k _ _ _ (Nat.zero_le _)
set_option maxHeartbeats 4000000 in
set_option maxRecDepth 100000 in
theorem fits_calls (A : Option Addr) (c : Nat) (l : List File) (p : ByteArray) (g : Nat) (w : World) (hr : Kd.C k29 w A l.length l) (hsh : shortAll l = true) (hg : SortedAt w g (.slice A l.length c)) (hp : p.size ≤ 1048576) :
    Calls Try.prog 41 #[.pointer (some ⟨g, 0, none⟩), .string p] w fun e w' => e = .returned (.bool (fitsF l p)) ∧ Below w.heap.size w w' := by
  have hlen : l.length ≤ 1048576 := by unfold shortAll at hsh; simp only [Bool.and_eq_true, decide_eq_true_eq] at hsh; exact hsh.1
  have hat : ∀ (W : World) (d : ByteArray), d.size ≤ 1048576 → Below w.heap.size w W → Calls Try.prog 40 #[.pointer (some ⟨g, 0, none⟩), .string d] W fun e w' => e = .returned (.tuple #[.int .i64 (atI l d), .bool (atF l d)]) ∧ Below W.heap.size W w' := fun W d hd hb =>
    sorted_at_calls A c l d g W (Kd.C_below hr hb) hsh ((hb.block g (Array.getElem?_eq_some_iff.1 hg).1).trans hg) hd
  have HAT := Lib.hid hat
  have HR := Lib.hid hr
  have HS := Lib.hid hsh
  have hg0 : w.cell? ⟨g, 0, none⟩ = some (.slice A l.length c) := by simp [World.cell?, show w.heap[g]? = _ from hg]
  have HG0 := Lib.hid hg0
  have hfit : fitsF l p = (!(decide ((if atF l p then atI l p + 1 else atI l p) < l.length) && insideB (fileAt l (if atF l p then atI l p + 1 else atI l p)).f0 p) && !aboveF l (p.size + 1) (dirB p)) := rfl
  have hds := (dirB_size p).1
  clear hat hr hsh hg hg0
  cases ha : atF l p with
  | true =>
    rw [ha] at hfit
    simp only [if_true] at hfit
    have HF := Lib.hid hfit
    have HA := Lib.hid ha
    clear hfit ha
    have hi64 : (atI l p : Int) ≤ 1048576 := by have := atI_le l p; omega
    have hloop : ∀ (W : World), Below w.heap.size w W → True := fun _ _ => trivial
    clear hloop
    by_cases hlt : atI l p + 1 < l.length
    · have p0 : (0 : Int) ≤ ((atI l p : Int) + 1) := by omega
      have q0 : ((atI l p : Int) + 1) < (l.length : Int) := by omega
      obtain ⟨ad, rfl, hx0, _⟩ := at_T29 HR.out ((atI l p : Int) + 1) p0 q0
      rw [show rd_T29 l ((atI l p : Int) + 1) = fileAt l (atI l p + 1) from by unfold rd_T29 fileAt; rw [show ((atI l p : Int) + 1).toNat = atI l p + 1 from by omega], show ((atI l p : Int) + 1).toNat = atI l p + 1 from by omega] at hx0
      have HX0 := Lib.hid hx0
      have hfsz : (fileAt l (atI l p + 1)).f0.size ≤ 1048576 := by
        have := short_at HS.out ((atI l p : Int) + 1) p0 q0
        rwa [show rd_T29 l ((atI l p : Int) + 1) = fileAt l (atI l p + 1) from by unfold rd_T29 fileAt; rw [show ((atI l p : Int) + 1).toNat = atI l p + 1 from by omega]] at this
      replace p0 := eq_true p0
      replace q0 := eq_true q0
      have hin := inside_some (fileAt l (atI l p + 1)).f0 p (by omega)
      cases hb : insideB (fileAt l (atI l p + 1)).f0 p with
      | true =>
        have hfin : fitsF l p = false := by rw [HF.out, decide_eq_true hlt, hb]; rfl
        have HFIN := Lib.hid hfin
        rw [hb] at hin
        have HIN := Lib.hid hin
        clear hx0 hin hb hfin
        go_enter Try.func41, Try.ntmps41
        go_wp2_with (first
          | (go_at_call 40; refine (HAT.out _ p hp (Below.refl _ _)).mono ?_; rintro e w1 ⟨rfl, hb1⟩; have hx0 := pw_cell_below hb1 HX0.out; have hg0 := pw_cell_below hb1 HG0.out; rw [HA.out])
          | (go_at_call 47; refine (tree_inside.calls _ _ _ _ HIN.out).mono ?_; rintro e w2 ⟨rfl, ⟨⟨nd, rfl⟩⟩⟩))
        go_ret
        exact ⟨by rw [HFIN.out]; rfl, pw_below_drewN hb1 _⟩
      | false =>
        have hfin : fitsF l p = !aboveF l (p.size + 1) (dirB p) := by rw [HF.out, hb]; simp
        have HFIN := Lib.hid hfin
        rw [hb] at hin
        have HIN := Lib.hid hin
        clear hx0 hin hb hfin
        go_enter Try.func41, Try.ntmps41
        go_wp2_with (first
          | (go_at_call 40; refine (HAT.out _ p hp (Below.refl _ _)).mono ?_; rintro e w1 ⟨rfl, hb1⟩; have hx0 := pw_cell_below hb1 HX0.out; have hg0 := pw_cell_below hb1 HG0.out; rw [HA.out])
          | (go_at_call 47; refine (tree_inside.calls _ _ _ _ HIN.out).mono ?_; rintro e w2 ⟨rfl, ⟨⟨nd, rfl⟩⟩⟩)
          | (go_at_call 67; refine (split_calls p (by omega) _).mono ?_; rintro e w3 ⟨rfl, ⟨⟨nd2, rfl⟩⟩⟩))
        have hB0 := pw_below_drewN hb1 (nd + nd2)
        go_loopw [7] (fun vd wr => ∃ (d : ByteArray) (n : Nat), vd = .string d ∧ d.size < n ∧ d.size ≤ p.size ∧ Hid (aboveF l (p.size + 1) (dirB p) = aboveF l n d) ∧ Below w.heap.size w wr) (fun vd _ => match vd with | .string d => d.size | _ => 0)
        case atStart => exact ⟨dirB p, p.size + 1, rfl, by omega, hds, Lib.hid rfl, hB0⟩
        case round =>
          obtain ⟨d, n, rfl, hdn, hdp, HD, hbe⟩ := hrel
          obtain ⟨m, rfl⟩ : ∃ m, n = m + 1 := ⟨n - 1, by omega⟩
          have hd1 := (dirB_size d)
          obtain ⟨hd2, hd3⟩ := hd1
          have HD3 := Lib.hid hd3
          clear hd3
          by_cases he : d.toList = []
          · have he' : d.toList.isEmpty = true := by rw [he]; rfl
            have hz : aboveF l (m + 1) d = false := by rw [Lib.toList_data] at he; unfold aboveF; rw [if_pos he]
            have hzz : fitsF l p = true := by rw [HFIN.out, HD.out, hz]; rfl
            have HZ := Lib.hid hzz
            clear hz hzz he
            go_wp2
            go_ret
            exact ⟨by rw [HZ.out]; rfl, hbe⟩
          · have he' : d.toList.isEmpty = false := by simpa using he
            have hst := aboveF_step l m d he
            have hne : d.data.toList ≠ [] := by rw [← Lib.toList_data]; exact he
            have HNE := Lib.hid hne
            clear he hne
            cases hq : atF l d with
            | true =>
              rw [hq, if_pos rfl] at hst
              have hzz : fitsF l p = false := by rw [HFIN.out, HD.out, hst]; rfl
              have HZ := Lib.hid hzz
              have HQ := Lib.hid hq
              clear hst hzz hq
              go_wp2_with (go_at_call 40; refine (HAT.out _ d (by omega) hbe).mono ?_; rintro e w4 ⟨rfl, hb4⟩; rw [HQ.out])
              go_ret
              exact ⟨by rw [HZ.out]; rfl, hbe.trans (hb4.mono hbe.size)⟩
            | false =>
              rw [hq] at hst
              simp only [Bool.false_eq_true, if_false] at hst
              have HST := Lib.hid hst
              have HQ := Lib.hid hq
              clear hst hq
              go_wp2_with (first
                | (go_at_call 40; refine (HAT.out _ d (by omega) hbe).mono ?_; rintro e w4 ⟨rfl, hb4⟩; rw [HQ.out])
                | (go_at_call 67; refine (split_calls d (by omega) _).mono ?_; rintro e w5 ⟨rfl, ⟨⟨nd5, rfl⟩⟩⟩))
              go_roundw
              case rel => exact ⟨dirB d, m, rfl, by have := HD3.out HNE.out; omega, by omega, Lib.hid (by rw [HD.out, HST.out]), pw_below_drewN (hbe.trans (hb4.mono hbe.size)) _⟩
              case measure => exact HD3.out HNE.out
    · have q0 : decide (((atI l p : Int) + 1) < (l.length : Int)) = false := by simp; omega
      have hfin : fitsF l p = !aboveF l (p.size + 1) (dirB p) := by rw [HF.out, decide_eq_false hlt]; simp
      have HFIN := Lib.hid hfin
      clear hfin
      go_enter Try.func41, Try.ntmps41
      go_wp2_with (first
        | (go_at_call 40; refine (HAT.out _ p hp (Below.refl _ _)).mono ?_; rintro e w1 ⟨rfl, hb1⟩; have hg0 := pw_cell_below hb1 HG0.out; rw [HA.out])
        | (go_at_call 67; refine (split_calls p (by omega) _).mono ?_; rintro e w3 ⟨rfl, ⟨⟨nd2, rfl⟩⟩⟩))
      have hB0 := pw_below_drewN hb1 nd2
      go_loopw [7] (fun vd wr => ∃ (d : ByteArray) (n : Nat), vd = .string d ∧ d.size < n ∧ d.size ≤ p.size ∧ Hid (aboveF l (p.size + 1) (dirB p) = aboveF l n d) ∧ Below w.heap.size w wr) (fun vd _ => match vd with | .string d => d.size | _ => 0)
      case atStart => exact ⟨dirB p, p.size + 1, rfl, by omega, hds, Lib.hid rfl, hB0⟩
      case round =>
        obtain ⟨d, n, rfl, hdn, hdp, HD, hbe⟩ := hrel
        obtain ⟨m, rfl⟩ : ∃ m, n = m + 1 := ⟨n - 1, by omega⟩
        have hd1 := (dirB_size d)
        obtain ⟨hd2, hd3⟩ := hd1
        have HD3 := Lib.hid hd3
        clear hd3
        by_cases he : d.toList = []
        · have he' : d.toList.isEmpty = true := by rw [he]; rfl
          have hz : aboveF l (m + 1) d = false := by rw [Lib.toList_data] at he; unfold aboveF; rw [if_pos he]
          have hzz : fitsF l p = true := by rw [HFIN.out, HD.out, hz]; rfl
          have HZ := Lib.hid hzz
          clear hz hzz he
          go_wp2
          go_ret
          exact ⟨by rw [HZ.out]; rfl, hbe⟩
        · have he' : d.toList.isEmpty = false := by simpa using he
          have hst := aboveF_step l m d he
          have hne : d.data.toList ≠ [] := by rw [← Lib.toList_data]; exact he
          have HNE := Lib.hid hne
          clear he hne
          cases hq : atF l d with
          | true =>
            rw [hq, if_pos rfl] at hst
            have hzz : fitsF l p = false := by rw [HFIN.out, HD.out, hst]; rfl
            have HZ := Lib.hid hzz
            have HQ := Lib.hid hq
            clear hst hzz hq
            go_wp2_with (go_at_call 40; refine (HAT.out _ d (by omega) hbe).mono ?_; rintro e w4 ⟨rfl, hb4⟩; rw [HQ.out])
            go_ret
            exact ⟨by rw [HZ.out]; rfl, hbe.trans (hb4.mono hbe.size)⟩
          | false =>
            rw [hq] at hst
            simp only [Bool.false_eq_true, if_false] at hst
            have HST := Lib.hid hst
            have HQ := Lib.hid hq
            clear hst hq
            go_wp2_with (first
              | (go_at_call 40; refine (HAT.out _ d (by omega) hbe).mono ?_; rintro e w4 ⟨rfl, hb4⟩; rw [HQ.out])
              | (go_at_call 67; refine (split_calls d (by omega) _).mono ?_; rintro e w5 ⟨rfl, ⟨⟨nd5, rfl⟩⟩⟩))
            go_roundw
            case rel => exact ⟨dirB d, m, rfl, by have := HD3.out HNE.out; omega, by omega, Lib.hid (by rw [HD.out, HST.out]), pw_below_drewN (hbe.trans (hb4.mono hbe.size)) _⟩
            case measure => exact HD3.out HNE.out
  | false =>
    rw [ha] at hfit
    simp only [Bool.false_eq_true, if_false] at hfit
    have HF := Lib.hid hfit
    have HA := Lib.hid ha
    clear hfit ha
    have hi64 : (atI l p : Int) ≤ 1048576 := by have := atI_le l p; omega
    have hloop : ∀ (W : World), Below w.heap.size w W → True := fun _ _ => trivial
    clear hloop
    by_cases hlt : atI l p < l.length
    · have p0 : (0 : Int) ≤ (atI l p : Int) := by omega
      have q0 : (atI l p : Int) < (l.length : Int) := by omega
      obtain ⟨ad, rfl, hx0, _⟩ := at_T29 HR.out (atI l p : Int) p0 q0
      rw [show rd_T29 l (atI l p : Int) = fileAt l (atI l p) from rfl, Int.toNat_natCast] at hx0
      have HX0 := Lib.hid hx0
      have hfsz : (fileAt l (atI l p)).f0.size ≤ 1048576 := by
        have := short_at HS.out (atI l p : Int) p0 q0
        rwa [show rd_T29 l (atI l p : Int) = fileAt l (atI l p) from rfl] at this
      replace p0 := eq_true p0
      replace q0 := eq_true q0
      have hin := inside_some (fileAt l (atI l p)).f0 p (by omega)
      cases hb : insideB (fileAt l (atI l p)).f0 p with
      | true =>
        have hfin : fitsF l p = false := by rw [HF.out, decide_eq_true hlt, hb]; rfl
        have HFIN := Lib.hid hfin
        rw [hb] at hin
        have HIN := Lib.hid hin
        clear hx0 hin hb hfin
        go_enter Try.func41, Try.ntmps41
        go_wp2_with (first
          | (go_at_call 40; refine (HAT.out _ p hp (Below.refl _ _)).mono ?_; rintro e w1 ⟨rfl, hb1⟩; have hx0 := pw_cell_below hb1 HX0.out; have hg0 := pw_cell_below hb1 HG0.out; rw [HA.out])
          | (go_at_call 47; refine (tree_inside.calls _ _ _ _ HIN.out).mono ?_; rintro e w2 ⟨rfl, ⟨⟨nd, rfl⟩⟩⟩))
        go_ret
        exact ⟨by rw [HFIN.out]; rfl, pw_below_drewN hb1 _⟩
      | false =>
        have hfin : fitsF l p = !aboveF l (p.size + 1) (dirB p) := by rw [HF.out, hb]; simp
        have HFIN := Lib.hid hfin
        rw [hb] at hin
        have HIN := Lib.hid hin
        clear hx0 hin hb hfin
        go_enter Try.func41, Try.ntmps41
        go_wp2_with (first
          | (go_at_call 40; refine (HAT.out _ p hp (Below.refl _ _)).mono ?_; rintro e w1 ⟨rfl, hb1⟩; have hx0 := pw_cell_below hb1 HX0.out; have hg0 := pw_cell_below hb1 HG0.out; rw [HA.out])
          | (go_at_call 47; refine (tree_inside.calls _ _ _ _ HIN.out).mono ?_; rintro e w2 ⟨rfl, ⟨⟨nd, rfl⟩⟩⟩)
          | (go_at_call 67; refine (split_calls p (by omega) _).mono ?_; rintro e w3 ⟨rfl, ⟨⟨nd2, rfl⟩⟩⟩))
        have hB0 := pw_below_drewN hb1 (nd + nd2)
        go_loopw [7] (fun vd wr => ∃ (d : ByteArray) (n : Nat), vd = .string d ∧ d.size < n ∧ d.size ≤ p.size ∧ Hid (aboveF l (p.size + 1) (dirB p) = aboveF l n d) ∧ Below w.heap.size w wr) (fun vd _ => match vd with | .string d => d.size | _ => 0)
        case atStart => exact ⟨dirB p, p.size + 1, rfl, by omega, hds, Lib.hid rfl, hB0⟩
        case round =>
          obtain ⟨d, n, rfl, hdn, hdp, HD, hbe⟩ := hrel
          obtain ⟨m, rfl⟩ : ∃ m, n = m + 1 := ⟨n - 1, by omega⟩
          have hd1 := (dirB_size d)
          obtain ⟨hd2, hd3⟩ := hd1
          have HD3 := Lib.hid hd3
          clear hd3
          by_cases he : d.toList = []
          · have he' : d.toList.isEmpty = true := by rw [he]; rfl
            have hz : aboveF l (m + 1) d = false := by rw [Lib.toList_data] at he; unfold aboveF; rw [if_pos he]
            have hzz : fitsF l p = true := by rw [HFIN.out, HD.out, hz]; rfl
            have HZ := Lib.hid hzz
            clear hz hzz he
            go_wp2
            go_ret
            exact ⟨by rw [HZ.out]; rfl, hbe⟩
          · have he' : d.toList.isEmpty = false := by simpa using he
            have hst := aboveF_step l m d he
            have hne : d.data.toList ≠ [] := by rw [← Lib.toList_data]; exact he
            have HNE := Lib.hid hne
            clear he hne
            cases hq : atF l d with
            | true =>
              rw [hq, if_pos rfl] at hst
              have hzz : fitsF l p = false := by rw [HFIN.out, HD.out, hst]; rfl
              have HZ := Lib.hid hzz
              have HQ := Lib.hid hq
              clear hst hzz hq
              go_wp2_with (go_at_call 40; refine (HAT.out _ d (by omega) hbe).mono ?_; rintro e w4 ⟨rfl, hb4⟩; rw [HQ.out])
              go_ret
              exact ⟨by rw [HZ.out]; rfl, hbe.trans (hb4.mono hbe.size)⟩
            | false =>
              rw [hq] at hst
              simp only [Bool.false_eq_true, if_false] at hst
              have HST := Lib.hid hst
              have HQ := Lib.hid hq
              clear hst hq
              go_wp2_with (first
                | (go_at_call 40; refine (HAT.out _ d (by omega) hbe).mono ?_; rintro e w4 ⟨rfl, hb4⟩; rw [HQ.out])
                | (go_at_call 67; refine (split_calls d (by omega) _).mono ?_; rintro e w5 ⟨rfl, ⟨⟨nd5, rfl⟩⟩⟩))
              go_roundw
              case rel => exact ⟨dirB d, m, rfl, by have := HD3.out HNE.out; omega, by omega, Lib.hid (by rw [HD.out, HST.out]), pw_below_drewN (hbe.trans (hb4.mono hbe.size)) _⟩
              case measure => exact HD3.out HNE.out
    · have q0 : decide ((atI l p : Int) < (l.length : Int)) = false := by simp; omega
      have hfin : fitsF l p = !aboveF l (p.size + 1) (dirB p) := by rw [HF.out, decide_eq_false hlt]; simp
      have HFIN := Lib.hid hfin
      clear hfin
      go_enter Try.func41, Try.ntmps41
      go_wp2_with (first
        | (go_at_call 40; refine (HAT.out _ p hp (Below.refl _ _)).mono ?_; rintro e w1 ⟨rfl, hb1⟩; have hg0 := pw_cell_below hb1 HG0.out; rw [HA.out])
        | (go_at_call 67; refine (split_calls p (by omega) _).mono ?_; rintro e w3 ⟨rfl, ⟨⟨nd2, rfl⟩⟩⟩))
      have hB0 := pw_below_drewN hb1 nd2
      go_loopw [7] (fun vd wr => ∃ (d : ByteArray) (n : Nat), vd = .string d ∧ d.size < n ∧ d.size ≤ p.size ∧ Hid (aboveF l (p.size + 1) (dirB p) = aboveF l n d) ∧ Below w.heap.size w wr) (fun vd _ => match vd with | .string d => d.size | _ => 0)
      case atStart => exact ⟨dirB p, p.size + 1, rfl, by omega, hds, Lib.hid rfl, hB0⟩
      case round =>
        obtain ⟨d, n, rfl, hdn, hdp, HD, hbe⟩ := hrel
        obtain ⟨m, rfl⟩ : ∃ m, n = m + 1 := ⟨n - 1, by omega⟩
        have hd1 := (dirB_size d)
        obtain ⟨hd2, hd3⟩ := hd1
        have HD3 := Lib.hid hd3
        clear hd3
        by_cases he : d.toList = []
        · have he' : d.toList.isEmpty = true := by rw [he]; rfl
          have hz : aboveF l (m + 1) d = false := by rw [Lib.toList_data] at he; unfold aboveF; rw [if_pos he]
          have hzz : fitsF l p = true := by rw [HFIN.out, HD.out, hz]; rfl
          have HZ := Lib.hid hzz
          clear hz hzz he
          go_wp2
          go_ret
          exact ⟨by rw [HZ.out]; rfl, hbe⟩
        · have he' : d.toList.isEmpty = false := by simpa using he
          have hst := aboveF_step l m d he
          have hne : d.data.toList ≠ [] := by rw [← Lib.toList_data]; exact he
          have HNE := Lib.hid hne
          clear he hne
          cases hq : atF l d with
          | true =>
            rw [hq, if_pos rfl] at hst
            have hzz : fitsF l p = false := by rw [HFIN.out, HD.out, hst]; rfl
            have HZ := Lib.hid hzz
            have HQ := Lib.hid hq
            clear hst hzz hq
            go_wp2_with (go_at_call 40; refine (HAT.out _ d (by omega) hbe).mono ?_; rintro e w4 ⟨rfl, hb4⟩; rw [HQ.out])
            go_ret
            exact ⟨by rw [HZ.out]; rfl, hbe.trans (hb4.mono hbe.size)⟩
          | false =>
            rw [hq] at hst
            simp only [Bool.false_eq_true, if_false] at hst
            have HST := Lib.hid hst
            have HQ := Lib.hid hq
            clear hst hq
            go_wp2_with (first
              | (go_at_call 40; refine (HAT.out _ d (by omega) hbe).mono ?_; rintro e w4 ⟨rfl, hb4⟩; rw [HQ.out])
              | (go_at_call 67; refine (split_calls d (by omega) _).mono ?_; rintro e w5 ⟨rfl, ⟨⟨nd5, rfl⟩⟩⟩))
            go_roundw
            case rel => exact ⟨dirB d, m, rfl, by have := HD3.out HNE.out; omega, by omega, Lib.hid (by rw [HD.out, HST.out]), pw_below_drewN (hbe.trans (hb4.mono hbe.size)) _⟩
            case measure => exact HD3.out HNE.out
end Go.Proofs.Ytbbhmjokiejnmaa

