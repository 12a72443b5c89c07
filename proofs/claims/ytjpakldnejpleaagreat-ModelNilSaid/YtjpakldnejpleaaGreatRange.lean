/- key.Range: isTurned, Is, Has. -/
import Derived.Test.YtjpakldnejpleaaGreatWith
namespace Go.Proofs.YtjpakldnejpleaaGreat
open Go.RowKit

def rangeTurned (lo hi : ByteArray) : Bool := !(hi.size == 0) && blt hi lo
def rangeIs (lo hi : ByteArray) : Bool := decide (lo.size ≤ 8) && decide (hi.size ≤ 8) && !rangeTurned lo hi
def rangeHas (lo hi k : ByteArray) : Bool := keyIs k && !blt k lo && (hi.size == 0 || blt k hi)

theorem gt_spell (a b : ByteArray) : Op.bytesLess b.toList a.toList = (!Op.bytesLess a.toList b.toList && !(a.toList == b.toList)) := by
  have h1 : Op.bytesLess b.toList a.toList = blt b a := rfl
  have h2 : Op.bytesLess a.toList b.toList = blt a b := rfl
  rw [h1, h2]
  cases hb : blt b a with
  | true =>
    rw [blt_asymm hb]
    have : a.toList ≠ b.toList := by
      intro e
      have : a = b := by
        have h3 := e
        rw [ByteArray.toList_eq, ByteArray.toList_eq] at h3
        exact ByteArray.ext (Array.toList_inj.1 h3)
      rw [this, blt_irrefl] at hb; cases hb
    simp [this]
  | false =>
    cases ha : blt a b with
    | true => rfl
    | false => rw [blt_total ha hb]; simp

set_option maxHeartbeats 1000000 in
theorem key_isTurned (lo hi : ByteArray) (w : World) : Calls Tryz.prog 107 #[.agg #[.string lo, .string hi]] w fun e w' => e = .returned (.bool (rangeTurned lo hi)) ∧ Below w.heap.size w w' := by
  have hE := isEmpty_size hi
  have hT : rangeTurned lo hi = (!(hi.size == 0) && blt hi lo) := rfl
  unfold blt at hT
  generalize rangeTurned lo hi = r at *
  generalize hse : (hi.size == 0) = se at *
  have HX := Lib.hid (heap_alloc_new w (.cells #[.string lo, .string hi] 95))
  have HB := Lib.hid (below_alloc1 w (.cells #[.string lo, .string hi] 95))
  have c0 := Lib.cell_of_heap HX.out 0
  have c1 := Lib.cell_of_heap HX.out 1
  rw [gt_spell] at hT
  cases se
  all_goals
    go_enter Tryz.func107, Tryz.ntmps107
    go_wp2
    go_ret
    refine ⟨?_, HB.out⟩
    rw [hT]
    try rfl

set_option maxHeartbeats 1000000 in
theorem key_RangeIs (lo hi : ByteArray) (w : World) : Calls Tryz.prog 77 #[.agg #[.string lo, .string hi]] w fun e w' => e = .returned (.bool (rangeIs lo hi)) ∧ Below w.heap.size w w' := by
  have HK := Lib.hid (fun W => key_isTurned lo hi W)
  have HX := Lib.hid (heap_alloc_new w (.cells #[.string lo, .string hi] 95))
  have HB := Lib.hid (below_alloc1 w (.cells #[.string lo, .string hi] 95))
  have c0 := Lib.cell_of_heap HX.out 0
  have c1 := Lib.cell_of_heap HX.out 1
  by_cases h1 : lo.size ≤ 8
  · have d1 : decide ((lo.size : Int) ≤ 8) = true := by simp; omega
    by_cases h2 : hi.size ≤ 8
    · have d2 : decide ((hi.size : Int) ≤ 8) = true := by simp; omega
      have hr : rangeIs lo hi = !rangeTurned lo hi := by simp [rangeIs, h1, h2]
      rw [hr]
      have H1 := Lib.hid h1
      have H2 := Lib.hid h2
      clear h1 h2 hr
      go_enter Tryz.func77, Tryz.ntmps77
      go_wp2_with fail
      refine (HK.out _).mono ?_
      rintro e w1 ⟨rfl, hb1⟩
      have HB1 := Lib.hid (HB.out.trans (hb1.mono HB.out.size))
      clear hb1 HK
      go_wp2
      go_ret
      exact ⟨rfl, HB1.out⟩
    · have d2 : decide ((hi.size : Int) ≤ 8) = false := by simp; omega
      have hr : rangeIs lo hi = false := by simp [rangeIs, h2]
      rw [hr]
      clear h1 h2 hr
      go_enter Tryz.func77, Tryz.ntmps77
      go_wp2
      go_ret
      exact ⟨rfl, HB.out⟩
  · have d1 : decide ((lo.size : Int) ≤ 8) = false := by simp; omega
    have hr : rangeIs lo hi = false := by simp [rangeIs, h1]
    rw [hr]
    clear h1 hr
    go_enter Tryz.func77, Tryz.ntmps77
    go_wp2
    go_ret
    exact ⟨rfl, HB.out⟩

set_option maxHeartbeats 1000000 in
theorem key_Has (lo hi k : ByteArray) (w : World) : Calls Tryz.prog 108 #[.agg #[.string lo, .string hi], .string k] w fun e w' => e = .returned (.bool (rangeHas lo hi k)) ∧ Below w.heap.size w w' := by
  have HK := Lib.hid (fun W => key_Is k W)
  have HX := Lib.hid (heap_alloc_new w (.cells #[.string lo, .string hi] 95))
  have HB := Lib.hid (below_alloc1 w (.cells #[.string lo, .string hi] 95))
  have c0 := Lib.cell_of_heap HX.out 0
  have c1 := Lib.cell_of_heap HX.out 1
  have hE := isEmpty_size hi
  have HR : Hid (rangeHas lo hi k = (keyIs k && !blt k lo && (hi.size == 0 || blt k hi))) := rfl
  have b1 : Op.bytesLess k.toList lo.toList = blt k lo := rfl
  have b2 : Op.bytesLess k.toList hi.toList = blt k hi := rfl
  generalize rangeHas lo hi k = r at *
  generalize hse : (hi.size == 0) = se at *
  generalize keyIs k = ki at *
  generalize blt k lo = x1 at *
  generalize blt k hi = x2 at *
  cases ki <;> cases x1 <;> cases se
  all_goals
    go_enter Tryz.func108, Tryz.ntmps108
    go_wp2_with fail
    refine (HK.out _).mono ?_
    rintro e w1 ⟨rfl, rfl⟩
    clear HK
    go_wp2
    go_ret
    refine ⟨?_, HB.out⟩
    rw [HR.out]
    try rfl

end Go.Proofs.YtjpakldnejpleaaGreat
