/- slices.CompactFunc at items by leaf.isTwin. -/
import Derived.Test.YtjpakldnejpleaaGreatRow
import Derived.Test.YtjpakldnejpleaaGreatFar
namespace Go.Proofs.YtjpakldnejpleaaGreat
open Go.RowKit

set_option maxHeartbeats 400000 in
theorem leaf_isTwin (a b c d : ByteArray) (w : World) :
    Calls Tryz.prog 85 #[.agg #[.string a, .string b], .agg #[.string c, .string d]] w fun e w' => e = .returned (.bool (decide (a = c))) ∧ Below w.heap.size w w' := by
  go_enter Tryz.func85, Tryz.ntmps85
  go_wp2
  go_ret
  refine ⟨?_, ((Below.refl _ _).alloc (Nat.le_refl _) _).alloc (by simp) _⟩
  have : (a.toList == c.toList) = decide (a = c) := by rw [Bool.eq_iff_iff]; simp [toList_inj]
  rw [← this]; rfl

theorem enters_of_isTwin : ∀ args w, (callFunc 85 args).run Tryz.prog w = .ok (.enter 85 args) w :=
  enters_of Tryz.func85 (by kernel_rfl) rfl

/-- No two neighbours have one key. -/
def It.apart (ys : List It) : Prop := ∀ (i : Nat) (h : i + 1 < ys.length), ys[i + 1].k ≠ ys[i].k

set_option maxHeartbeats 2000000 in
/-- No two neighbours are twins: nothing turns. -/
theorem sl_CompactFunc_apart (g cap : Nat) (xs : List It) (w : World) (h : RowI w g cap xs) (ha : It.apart xs) :
    Calls Tryz.prog 84 #[.slice (some ⟨g, 0, none⟩) xs.length cap, .func (.func 85) #[] #[]] w fun e w' => e = .returned (.slice (some ⟨g, 0, none⟩) xs.length cap) ∧ Below w.heap.size w w' := by
  have hl := h.len
  have hcap := h.capLe
  unfold maxLen at hcap
  have HA := Lib.hid ha
  clear ha
  by_cases h2 : xs.length < 2
  · go_enter Tryz.func84, Tryz.ntmps84
    have e := enters_of_isTwin
    go_wp2
    go_ret
    exact ⟨rfl, Below.refl _ _⟩
  · go_enter Tryz.func84, Tryz.ntmps84
    have e := enters_of_isTwin
    go_wp2
    go_loopw [5] (fun i wr => ∃ k : Nat, 1 ≤ k ∧ k ≤ xs.length ∧ i = .int .i64 k ∧ Below w.heap.size w wr) (fun i _ => xs.length - (intOf i).toNat)
    case atStart => exact ⟨1, Nat.le_refl _, by omega, rfl, Below.refl _ _⟩
    case round =>
      obtain ⟨k, hk1, hk, rfl, hb⟩ := hrel
      by_cases hlt : k < xs.length
      · obtain ⟨j, rfl⟩ : ∃ j, k = j + 1 := ⟨k - 1, by omega⟩
        obtain ⟨h1, h1'⟩ := (h.below hb h.lt).at_ (List.getElem?_eq_getElem hlt)
        obtain ⟨h0, h0'⟩ := (h.below hb h.lt).at_ (List.getElem?_eq_getElem (show j < xs.length by omega))
        have HB := Lib.hid hb
        clear hb
        have q1 := far_cell h1
        have q1' := far_cell h1'
        have q0 := far_cell h0
        have q0' := far_cell h0'
        have wr_j : IntKind.i64.wrap ((j : Nat) : Int) = j := IntWalk.i64_in _ (by omega)
        have nn_j : (0 : Int) ≤ ((j : Nat) : Int) + 1 := by omega
        have lti_j : ((j : Nat) : Int) < ((xs.length : Nat) : Int) := by omega
        have hne := Lib.hid (decide_eq_false (HA.out j hlt))
        go_wp2
        refine wp_region_quiet_far mixed_ (by kernel_rfl) ?_
        repeat (go_big_quiet_step ((go_at_call 85; exact calls_far (leaf_isTwin _ _ _ _ _))))
        refine wpQuiet_nil ?_
        intro _ hw'
        obtain ⟨⟨nq, osq⟩, hw''⟩ := hw'
        subst hw''
        have hb2 := below_step HB.out (below_far wr nq osq)
        generalize far wr nq osq = w2 at *
        have HB2 := Lib.hid hb2
        clear hb2
        rw [hne.out]
        go_wp2
        go_roundw
        case rel => exact ⟨j + 1 + 1, by omega, by omega, by go_num, HB2.out⟩
        case measure => simp [intOf]; omega
      · have HB := Lib.hid hb
        clear hb
        go_wp2
        go_ret
        exact ⟨rfl, HB.out⟩

theorem not_apart {xs : List It} (h : ¬ It.apart xs) : ∃ (i : Nat) (h : i + 1 < xs.length), xs[i + 1].k = xs[i].k := by
  unfold It.apart at h
  simp only [Classical.not_forall, ne_eq, Classical.not_not] at h
  exact h

set_option maxHeartbeats 2000000 in
/-- Two neighbours are twins: what comes back is shorter; nothing but the row has turned. -/
theorem sl_CompactFunc_twin (g cap : Nat) (xs : List It) (w : World) (h : RowI w g cap xs) (i0 : Nat) (hi0 : i0 + 1 < xs.length) (ha : xs[i0 + 1].k = xs[i0].k) :
    Calls Tryz.prog 84 #[.slice (some ⟨g, 0, none⟩) xs.length cap, .func (.func 85) #[] #[]] w fun e w' => (∃ (A : Option Addr) (m c : Nat), e = .returned (.slice A m c) ∧ m < xs.length) ∧ (∀ B, B ≤ g → Below B w w') := by
  have hl := h.len
  have hcap := h.capLe
  unfold maxLen at hcap
  have HA := Lib.hid ha
  clear ha
  have h2 : ¬ xs.length < 2 := by omega
  have hbl := h.lt
  go_enter Tryz.func84, Tryz.ntmps84
  have e := enters_of_isTwin
  go_wp2
  go_loopw [5] (fun i wr => ∃ k : Nat, 1 ≤ k ∧ k ≤ i0 + 1 ∧ i = .int .i64 k ∧ Below w.heap.size w wr) (fun i _ => xs.length - (intOf i).toNat)
  case atStart => exact ⟨1, Nat.le_refl _, by omega, rfl, Below.refl _ _⟩
  case round =>
    obtain ⟨k, hk1, hk, rfl, hb⟩ := hrel
    have hlt : k < xs.length := by omega
    obtain ⟨j, rfl⟩ : ∃ j, k = j + 1 := ⟨k - 1, by omega⟩
    have R := Lib.hid (h.below hb h.lt)
    obtain ⟨h1, h1'⟩ := R.out.at_ (List.getElem?_eq_getElem hlt)
    obtain ⟨h0, h0'⟩ := R.out.at_ (List.getElem?_eq_getElem (show j < xs.length by omega))
    have HB := Lib.hid hb
    clear hb
    have q1 := far_cell h1
    have q1' := far_cell h1'
    have q0 := far_cell h0
    have q0' := far_cell h0'
    have wr_j : IntKind.i64.wrap ((j : Nat) : Int) = j := IntWalk.i64_in _ (by omega)
    have nn_j : (0 : Int) ≤ ((j : Nat) : Int) + 1 := by omega
    have lti_j : ((j : Nat) : Int) < ((xs.length : Nat) : Int) := by omega
    go_wp2
    refine wp_region_quiet_far mixed_ (by kernel_rfl) ?_
    repeat (go_big_quiet_step ((go_at_call 85; exact calls_far (leaf_isTwin _ _ _ _ _))))
    refine wpQuiet_nil ?_
    intro _ hw'
    obtain ⟨⟨nq, osq⟩, hw''⟩ := hw'
    subst hw''
    have hb2 := below_step HB.out (below_far wr nq osq)
    have R2 := Lib.hid (h.below hb2 h.lt)
    generalize far wr nq osq = w2 at *
    have HB2 := Lib.hid hb2
    clear hb2
    cases hne : decide (xs[j + 1].k = xs[j].k)
    · have hj : j ≠ i0 := by rintro rfl; simp [HA.out] at hne
      have HN := Lib.hid hne
      clear hne
      go_wp2
      go_roundw
      case rel => exact ⟨j + 1 + 1, by omega, by omega, by go_num, HB2.out⟩
      case measure => simp [intOf]; omega
    · have HN := Lib.hid hne
      clear hne q1 q1' q0 q0' h1 h1' h0 h0'
      have hcj : ¬ cap = j + 1 := by omega
      go_wp2
      go_loopw [5, 7] (fun i i2 wr => ∃ (k k2 : Nat) (zs : List It), 1 ≤ k ∧ 1 ≤ k2 ∧ k ≤ j + k2 ∧ k2 ≤ xs.length - (j + 1) ∧ zs.length = xs.length ∧ i = .int .i64 k ∧ i2 = .int .i64 k2 ∧ RowI wr g cap zs ∧ ∀ B, B ≤ g → Below B w wr) (fun _ i2 _ => xs.length - (intOf i2).toNat)
      case atStart => exact ⟨j + 1, 1, xs, by omega, Nat.le_refl _, by omega, by omega, rfl, by go_num, rfl, R2.out, fun B hB => HB2.out.mono (by omega)⟩
      case round =>
        obtain ⟨k, k2, zs, hk, hk2, hkk, hkm, hzl, rfl, rfl, RR, BB⟩ := hrel
        have HZ := Lib.hid hzl
        have HRR := Lib.hid RR
        have HBB := Lib.hid BB
        by_cases hlt2 : k2 < xs.length - (j + 1)
        · obtain ⟨i2, rfl⟩ : ∃ i2, k2 = i2 + 1 := ⟨k2 - 1, by omega⟩
          have hz1 : j + 1 + (i2 + 1) < zs.length := by omega
          have hz0 : j + 1 + i2 < zs.length := by omega
          obtain ⟨h1, h1'⟩ := RR.at_ (List.getElem?_eq_getElem hz1)
          obtain ⟨h0, h0'⟩ := RR.at_ (List.getElem?_eq_getElem hz0)
          rw [show (j + 1 + (i2 + 1)) * 2 = (j + 1) * 2 + (i2 + 1) * 2 from by omega] at h1 h1'
          rw [show (j + 1 + i2) * 2 = (j + 1) * 2 + i2 * 2 from by omega] at h0 h0'
          clear hzl RR BB
          have HX1 := Lib.hid (List.getElem?_eq_getElem hz1)
          generalize zs[j + 1 + (i2 + 1)] = x1 at *
          generalize zs[j + 1 + i2] = x0 at *
          have q1 := far_cell h1
          have q1' := far_cell h1'
          have q0 := far_cell h0
          have q0' := far_cell h0'
          have wr_i2 : IntKind.i64.wrap ((i2 : Nat) : Int) = i2 := IntWalk.i64_in _ (by omega)
          have nn_i2 : (0 : Int) ≤ ((i2 : Nat) : Int) + 1 := by omega
          have lt1 : ((i2 : Nat) : Int) + 1 < ((xs.length - (j + 1) : Nat) : Int) := by omega
          have lt0 : ((i2 : Nat) : Int) < ((xs.length - (j + 1) : Nat) : Int) := by omega
          go_wp2
          refine wp_region_quiet_far mixed_ (by kernel_rfl) ?_
          repeat (go_big_quiet_step ((go_at_call 85; exact calls_far (leaf_isTwin _ _ _ _ _))))
          refine wpQuiet_nil ?_
          intro _ hw'
          obtain ⟨⟨nq, osq⟩, hw''⟩ := hw'
          subst hw''
          have hb3 := below_far wr nq osq
          have R3 := Lib.hid (HRR.out.below hb3 HRR.out.lt)
          generalize far wr nq osq = w3 at *
          have HB3 : Hid (∀ B, B ≤ g → Below B w w3) := fun B hB => (HBB.out B hB).trans (hb3.mono (by have := HRR.out.lt; omega))
          clear hb3 q1 q1' q0 q0' h1 h1' h0 h0'
          have hkz : k < zs.length := by rw [HZ.out]; omega
          have hkx : (k : Int) < (xs.length : Int) := by rw [HZ.out] at hkz; omega
          obtain ⟨s1, s2⟩ := R3.out.at_ HX1.out
          rw [show (j + 1 + (i2 + 1)) * 2 = (j + 1) * 2 + (i2 + 1) * 2 from by omega] at s1 s2
          obtain ⟨t1, t2⟩ := R3.out.at_ (List.getElem?_eq_getElem hkz)
          have f1 := R3.out.frozen (k * 2)
          have f2 := R3.out.frozen (k * 2 + 1)
          have RS := Lib.hid (R3.out.set x1 hkz)
          have HBS : Hid (∀ B, B ≤ g → Below B w ((w3.setCell ⟨g, k * 2, none⟩ (.string x1.k)).setCell ⟨g, k * 2 + 1, none⟩ (.string x1.v))) := fun B hB => setCells_below (HB3.out B hB) hB _ _
          have ZS : Hid ((zs.set k x1).length = xs.length) := by simpa [Hid] using HZ.out
          cases hne2 : decide (x1.k = x0.k)
          · have HN2 := Lib.hid hne2
            clear hne2
            go_wp2
            go_roundw
            case rel => exact ⟨k + 1, i2 + 1 + 1, zs.set k x1, by omega, by omega, by omega, by omega, ZS.out, by go_num, by go_num, RS.out, HBS.out⟩
            case measure => simp [intOf]; omega
          · have HN2 := Lib.hid hne2
            clear hne2
            go_wp2
            go_roundw
            case rel => exact ⟨k, i2 + 1 + 1, zs, by omega, by omega, by omega, by omega, HZ.out, by go_num, by go_num, R3.out, HB3.out⟩
            case measure => simp [intOf]; omega
        · clear hzl BB
          obtain ⟨cur, hcur, hcs, _⟩ := RR.blk
          clear RR
          have hkl : k < xs.length := by omega
          have hkc : ¬ cap = k := by omega
          have hlk : (k : Int) ≤ (xs.length : Int) := by omega
          obtain ⟨w4, hclr, hb4⟩ := run_clear_items wr 0 g (k * 2) (xs.length - k) (cap - k) cur hcur (by omega) (some ⟨g, k * 2, none⟩) (fun _ => rfl)
          have HB4 : Hid (∀ B, B ≤ g → Below B w w4) := fun B hB => hb4 B w hB (HBB.out B hB)
          clear hb4 hcur hcs
          go_wp2
          go_ret
          exact ⟨⟨_, _, _, rfl, hkl⟩, HB4.out⟩

end Go.Proofs.YtjpakldnejpleaaGreat
