/- grangerlaw26.ModelNil. -/
import Derived.Test.YtjpakldnejpleaaGreatAns
namespace Go.Proofs.YtjpakldnejpleaaGreat
open Go.RowKit

set_option maxHeartbeats 4000000 in
set_option maxRecDepth 100000 in
theorem model_See_nil (o : Od) (a : Ans) (A : Option Addr) (c : Nat) (w : World) :
    Calls Tryz.prog 30 #[.pointer none, o.agg, a.agg A c] w fun e w' => e = .returned (.bool false) ∧ Below w.heap.size w w' := by
  obtain ⟨kind, ok, ov, on, olo, ohi⟩ := o
  unfold Od.agg Ans.agg
  go_enter Tryz.func30, Tryz.ntmps30
  go_wp2
  go_ret
  exact ⟨rfl, (below_alloc_1 w _).alloc (by simp) _⟩

theorem eql_plan (a0 a1 a2 a3 a4 a5 a6 b0 b1 b2 b3 b4 b5 b6 : Int) (w : World) :
    (binOp .eql 26 (.agg #[.int .i64 a0, .int .i64 a1, .int .i64 a2, .int .i64 a3, .int .i64 a4, .int .i64 a5, .int .i64 a6]) (.agg #[.int .i64 b0, .int .i64 b1, .int .i64 b2, .int .i64 b3, .int .i64 b4, .int .i64 b5, .int .i64 b6])).run Tryz.prog w =
      .ok (.bool (a0 == b0 && a1 == b1 && a2 == b2 && a3 == b3 && a4 == b4 && a5 == b5 && a6 == b6)) w := by
  rw [run_eql_struct, equalIn_plan 9998]; rfl

def ansNil : Ans := ⟨2, false, ⟨#[]⟩, [], 0, 0, 0, 0, 0, 0, 0, 0, 0⟩
def ansZero : Ans := ⟨0, false, ⟨#[]⟩, [], 0, 0, 0, 0, 0, 0, 0, 0, 0⟩

theorem slIt_nil (w : World) : SlIt w none 0 [] := ⟨Nat.le_refl _, Nat.zero_le _, fun h => absurd rfl h⟩

set_option maxHeartbeats 8000000 in
set_option maxRecDepth 100000 in
theorem law_ModelNil (a0 a1 a2 a3 a4 a5 a6 : Int) (o : Od) (w : World) :
    Calls Tryz.prog 7 #[pl7 a0 a1 a2 a3 a4 a5 a6, o.agg] w fun e w' => e = .returned (.bool true) ∧ Below w.heap.size w w' := by
  obtain ⟨kind, ok, ov, on, olo, ohi⟩ := o
  have hlong := fun W => law_long ⟨kind, ok, ov, on, olo, ohi⟩ W
  have hdo := fun W => model_Do_nil ⟨kind, ok, ov, on, olo, ohi⟩ W
  have hse := fun W => model_See_nil ⟨kind, ok, ov, on, olo, ohi⟩ ansZero none 0 W
  have hlo := fun W => model_Lost_nil none 0 [] W (slIt_nil W) (by simp)
  have hsame : ∀ W : World, Calls Tryz.prog 31 #[ansNil.agg none 0, ansNil.agg none 0] W fun e w' => e = .returned (.bool true) ∧ Below W.heap.size W w' := fun W => by
    have := order_Same ansNil ansNil none none 0 0 W (slIt_nil W) (slIt_nil W)
    rwa [decide_eq_true rfl] at this
  have HA := Lib.hid (law_awake)
  unfold Ans.agg ansNil at hsame
  unfold Ans.agg ansZero at hse
  unfold ansV at hdo
  unfold Od.agg pl7 at *
  have HIt := Lib.hid (fun W => model_Items_nil W)
  have HWt := Lib.hid (fun W => model_Weight_nil W)
  have HLt := Lib.hid (fun W => model_Late_nil W)
  have HDo := Lib.hid hdo
  have HSe := Lib.hid hse
  have HLo := Lib.hid hlo
  have HSame := Lib.hid hsame
  clear hdo hse hlo hsame
  have hgp := noGuard_plan
  obtain ⟨w2, hw2⟩ : ∃ w2, (w.alloc (.cells #[.int .i64 a0, .int .i64 a1, .int .i64 a2, .int .i64 a3, .int .i64 a4, .int .i64 a5, .int .i64 a6] 26)).alloc (.cells #[.int .i64 kind, .string ok, .string ov, .int .u64 on, .string olo, .string ohi] 39) = w2 := ⟨_, rfl⟩
  have hB2 : Below w.heap.size w w2 := by rw [← hw2]; exact (below_alloc_1 w _).alloc (by simp) _
  have hP : w2.heap[w.heap.size]? = some (.cells #[.int .i64 a0, .int .i64 a1, .int .i64 a2, .int .i64 a3, .int .i64 a4, .int .i64 a5, .int .i64 a6] 26 (0, 0)) := by
    rw [← hw2, heap_alloc_old _ _ (by simp)]
    exact heap_alloc_new w _
  have hX : w2.heap[w.heap.size + 1]? = some (.cells #[.int .i64 kind, .string ok, .string ov, .int .u64 on, .string olo, .string ohi] 39 (0, 0)) := by
    rw [← hw2]
    have := heap_alloc_new (w.alloc (.cells #[.int .i64 a0, .int .i64 a1, .int .i64 a2, .int .i64 a3, .int .i64 a4, .int .i64 a5, .int .i64 a6] 26)) (.cells #[.int .i64 kind, .string ok, .string ov, .int .u64 on, .string olo, .string ohi] 39)
    simpa using this
  have HW := Lib.hid hw2
  have HB2 := Lib.hid hB2
  have HP := Lib.hid hP
  have HX := Lib.hid hX
  clear hw2 hB2 hP hX
  cases hlv : longB ⟨kind, ok, ov, on, olo, ohi⟩ with
  | true =>
    rw [hlv] at hlong
    have HLong := Lib.hid hlong
    clear hlong hlv
    go_enter Tryz.func7, Tryz.ntmps7
    go_wp2_with (first | (rw [HW.out]) | fail)
    refine (HA.out _).mono ?_
    rintro e w3 ⟨rfl, hb3⟩
    have HX3 := Lib.hid ((hb3.block _ (Array.getElem?_eq_some_iff.1 HX.out).1).trans HX.out)
    have HB3 := Lib.hid (HB2.out.trans (hb3.mono HB2.out.size))
    have cx := Lib.cell_of_heap HX3.out
    clear hb3
    go_wp2_with fail
    refine (HLong.out _).mono ?_
    rintro e w4 ⟨rfl, hb4⟩
    have HB4 := Lib.hid (HB3.out.trans (hb4.mono HB3.out.size))
    clear hb4
    go_wp2
    go_ret
    exact ⟨rfl, HB4.out⟩
  | false =>
    rw [hlv] at hlong
    have HLong := Lib.hid hlong
    clear hlong hlv
    by_cases hin : a0 < 64 ∨ 512 < a0
    · have hc := fun W => capa_Of_bad a0 hin W
      unfold planZ at hc
      have hnw := fun W => model_New_out a0 a1 a2 a3 a4 a5 a6 hin W
      unfold pl7 at hnw
      have HC := Lib.hid hc
      have HNw := Lib.hid hnw
      clear hc hnw hin
      go_enter Tryz.func7, Tryz.ntmps7
      go_wp2_with (first | (rw [HW.out]) | fail)
      refine (HA.out _).mono ?_
      rintro e w3 ⟨rfl, hb3⟩
      have HX3 := Lib.hid ((hb3.block _ (Array.getElem?_eq_some_iff.1 HX.out).1).trans HX.out)
      have HP3 := Lib.hid ((hb3.block _ (Array.getElem?_eq_some_iff.1 HP.out).1).trans HP.out)
      have HB3 := Lib.hid (HB2.out.trans (hb3.mono HB2.out.size))
      have cx := Lib.cell_of_heap HX3.out
      clear hb3
      go_wp2_with fail
      refine (HLong.out _).mono ?_
      rintro e w4 ⟨rfl, hb4⟩
      have HX4 := Lib.hid ((hb4.block _ (Array.getElem?_eq_some_iff.1 HX3.out).1).trans HX3.out)
      have HP4 := Lib.hid ((hb4.block _ (Array.getElem?_eq_some_iff.1 HP3.out).1).trans HP3.out)
      have HB4 := Lib.hid (HB3.out.trans (hb4.mono HB3.out.size))
      have cp := Lib.cell_of_heap HP4.out
      clear hb4 cx HX3 HP3 HB3 HLong HX HP HB2 HW
      go_wp2_with fail
      refine (HC.out _).mono ?_
      rintro e w5 ⟨rfl, hb5⟩
      obtain ⟨w6, hw6⟩ : ∃ w6, w5.alloc (.cells #[.int .i64 0, .int .i64 0, .int .i64 0, .int .i64 0, .int .i64 0, .int .i64 0, .int .i64 0] 26) = w6 := ⟨_, rfl⟩
      have hb6 : Below w4.heap.size w4 w6 := by rw [← hw6]; exact hb5.alloc hb5.size _
      have HQ6 : Hid (w6.heap[w5.heap.size]? = some (.cells #[.int .i64 0, .int .i64 0, .int .i64 0, .int .i64 0, .int .i64 0, .int .i64 0, .int .i64 0] 26 (0, 0))) := by rw [← hw6]; exact heap_alloc_new _ _
      have HX6 := Lib.hid ((hb6.block _ (Array.getElem?_eq_some_iff.1 HX4.out).1).trans HX4.out)
      have HP6 := Lib.hid ((hb6.block _ (Array.getElem?_eq_some_iff.1 HP4.out).1).trans HP4.out)
      have HB6 := Lib.hid (HB4.out.trans (hb6.mono HB4.out.size))
      have HP5 := Lib.hid ((hb5.block _ (Array.getElem?_eq_some_iff.1 HP4.out).1).trans HP4.out)
      have hpl := (Array.getElem?_eq_some_iff.1 HP5.out).1
      have HW6 := Lib.hid hw6
      have cp := Lib.cell_of_heap HP5.out
      clear hb5 hb6 hw6 HC
      go_wp2_with fail
      rw [HW6.out]
      refine (HNw.out _).mono ?_
      rintro e w7 ⟨rfl, hb7⟩
      have HX7 := Lib.hid ((hb7.block _ (Array.getElem?_eq_some_iff.1 HX6.out).1).trans HX6.out)
      have HP7 := Lib.hid ((hb7.block _ (Array.getElem?_eq_some_iff.1 HP6.out).1).trans HP6.out)
      have HQ7 := Lib.hid ((hb7.block _ (Array.getElem?_eq_some_iff.1 HQ6.out).1).trans HQ6.out)
      have HB7 := Lib.hid (HB6.out.trans (hb7.mono HB6.out.size))
      have cp := Lib.cell_of_heap HP7.out
      have cq := Lib.cell_of_heap HQ7.out
      have cx := Lib.cell_of_heap HX7.out
      clear hb7 HNw hpl HX4 HP4 HB4 HX6 HP6 HB6 HQ6 HP5
      go_wp2_with fail
      refine (HDo.out _).mono ?_
      rintro e w8 ⟨rfl, hb5⟩
      have HX5 := Lib.hid ((hb5.block _ (Array.getElem?_eq_some_iff.1 HX7.out).1).trans HX7.out)
      have HB5 := Lib.hid (HB7.out.trans (hb5.mono HB7.out.size))
      have cx := Lib.cell_of_heap HX5.out
      have hxl := (Array.getElem?_eq_some_iff.1 HX5.out).1
      have HSm := Lib.hid (HSame.out w8)
      clear hb5
      go_wp2_with fail
      refine HSm.out.mono ?_
      rintro e w9 ⟨rfl, hb6⟩
      have HX6 := Lib.hid ((hb6.block _ hxl).trans HX5.out)
      have HB6 := Lib.hid (HB5.out.trans (hb6.mono HB5.out.size))
      have cx := Lib.cell_of_heap HX6.out
      have hxl := (Array.getElem?_eq_some_iff.1 HX6.out).1
      clear hb6 HSm HX5 HB5
      go_wp2_with fail
      refine (HSe.out _).mono ?_
      rintro e w10 ⟨rfl, hb7⟩
      have HB7 := Lib.hid (HB6.out.trans (hb7.mono HB6.out.size))
      clear hb7 HX6 HB6
      go_wp2_with fail
      refine (HLo.out _).mono ?_
      rintro e w11 ⟨rfl, hb8⟩
      have HB8 := Lib.hid (HB7.out.trans (hb8.mono HB7.out.size))
      clear hb8 HB7
      go_wp2_with (first | (go_at_call 13; refine (HIt.out _).mono ?_; rintro e w' ⟨rfl, rfl⟩) | (go_at_call 15; refine (HWt.out _).mono ?_; rintro e w' ⟨rfl, rfl⟩) | (go_at_call 11; refine (HLt.out _).mono ?_; rintro e w' ⟨rfl, rfl⟩) | fail)
      go_ret
      exact ⟨rfl, HB8.out⟩
    · obtain ⟨n, rfl⟩ := Int.eq_ofNat_of_zero_le (show 0 ≤ a0 by omega)
      have hc := fun W => capa_Of n (by omega) (by omega) W
      obtain ⟨p1, p2, p3, p4, p5, p6, hp⟩ : ∃ p1 p2 p3 p4 p5 p6 : Int, planV n = .agg #[.int .i64 n, .int .i64 p1, .int .i64 p2, .int .i64 p3, .int .i64 p4, .int .i64 p5, .int .i64 p6] := ⟨_, _, _, _, _, _, rfl⟩
      by_cases hm : planV n = pl7 n a1 a2 a3 a4 a5 a6
      · have hnw := fun W => model_New_ok n (by omega) (by omega) W
        rw [hm] at hc hnw
        unfold pl7 at hc hnw
        have hnw' : ∀ W, Calls Tryz.prog 38 #[.agg #[.int .i64 n, .int .i64 a1, .int .i64 a2, .int .i64 a3, .int .i64 a4, .int .i64 a5, .int .i64 a6]] W fun e w' => ∃ b, e = .returned (.pointer (some ⟨b, 0, none⟩)) ∧ Below W.heap.size W w' := fun W =>
          (hnw W).mono fun e w' ⟨b, g, h1, _, _, _, h2⟩ => ⟨b, h1, h2⟩
        have HC := Lib.hid hc
        have HNw := Lib.hid hnw'
        have heq := fun W => eql_plan n a1 a2 a3 a4 a5 a6 n a1 a2 a3 a4 a5 a6 W
        simp only [beq_self_eq_true, Bool.and_self] at heq
        clear hc hnw hnw' hin hm hp
        go_enter Tryz.func7, Tryz.ntmps7
        go_wp2_with (first | (rw [HW.out]) | fail)
        refine (HA.out _).mono ?_
        rintro e w3 ⟨rfl, hb3⟩
        have HX3 := Lib.hid ((hb3.block _ (Array.getElem?_eq_some_iff.1 HX.out).1).trans HX.out)
        have HP3 := Lib.hid ((hb3.block _ (Array.getElem?_eq_some_iff.1 HP.out).1).trans HP.out)
        have HB3 := Lib.hid (HB2.out.trans (hb3.mono HB2.out.size))
        have cx := Lib.cell_of_heap HX3.out
        clear hb3
        go_wp2_with fail
        refine (HLong.out _).mono ?_
        rintro e w4 ⟨rfl, hb4⟩
        have HX4 := Lib.hid ((hb4.block _ (Array.getElem?_eq_some_iff.1 HX3.out).1).trans HX3.out)
        have HP4 := Lib.hid ((hb4.block _ (Array.getElem?_eq_some_iff.1 HP3.out).1).trans HP3.out)
        have HB4 := Lib.hid (HB3.out.trans (hb4.mono HB3.out.size))
        have cp := Lib.cell_of_heap HP4.out
        clear hb4 cx HX3 HP3 HB3 HLong HX HP HB2 HW
        go_wp2_with fail
        refine (HC.out _).mono ?_
        rintro e w5 ⟨rfl, hb5⟩
        obtain ⟨w6, hw6⟩ : ∃ w6, w5.alloc (.cells #[.int .i64 n, .int .i64 a1, .int .i64 a2, .int .i64 a3, .int .i64 a4, .int .i64 a5, .int .i64 a6] 26) = w6 := ⟨_, rfl⟩
        have hb6 : Below w4.heap.size w4 w6 := by rw [← hw6]; exact hb5.alloc hb5.size _
        have HQ6 : Hid (w6.heap[w5.heap.size]? = some (.cells #[.int .i64 n, .int .i64 a1, .int .i64 a2, .int .i64 a3, .int .i64 a4, .int .i64 a5, .int .i64 a6] 26 (0, 0))) := by rw [← hw6]; exact heap_alloc_new _ _
        have HX6 := Lib.hid ((hb6.block _ (Array.getElem?_eq_some_iff.1 HX4.out).1).trans HX4.out)
        have HP6 := Lib.hid ((hb6.block _ (Array.getElem?_eq_some_iff.1 HP4.out).1).trans HP4.out)
        have HB6 := Lib.hid (HB4.out.trans (hb6.mono HB4.out.size))
        have HP5 := Lib.hid ((hb5.block _ (Array.getElem?_eq_some_iff.1 HP4.out).1).trans HP4.out)
        have hpl := (Array.getElem?_eq_some_iff.1 HP5.out).1
        have HW6 := Lib.hid hw6
        have cp := Lib.cell_of_heap HP5.out
        clear hb5 hb6 hw6 HC
        go_wp2_with fail
        rw [HW6.out]
        refine (HNw.out _).mono ?_
        rintro e w7 ⟨bb, rfl, hb7⟩
        have HX7 := Lib.hid ((hb7.block _ (Array.getElem?_eq_some_iff.1 HX6.out).1).trans HX6.out)
        have HP7 := Lib.hid ((hb7.block _ (Array.getElem?_eq_some_iff.1 HP6.out).1).trans HP6.out)
        have HQ7 := Lib.hid ((hb7.block _ (Array.getElem?_eq_some_iff.1 HQ6.out).1).trans HQ6.out)
        have HB7 := Lib.hid (HB6.out.trans (hb7.mono HB6.out.size))
        have cp := Lib.cell_of_heap HP7.out
        have cq := Lib.cell_of_heap HQ7.out
        have cx := Lib.cell_of_heap HX7.out
        clear hb7 HNw hpl HX4 HP4 HB4 HX6 HP6 HB6 HQ6 HP5
        go_wp2_with fail
        refine (HDo.out _).mono ?_
        rintro e w8 ⟨rfl, hb5⟩
        have HX5 := Lib.hid ((hb5.block _ (Array.getElem?_eq_some_iff.1 HX7.out).1).trans HX7.out)
        have HB5 := Lib.hid (HB7.out.trans (hb5.mono HB7.out.size))
        have cx := Lib.cell_of_heap HX5.out
        have hxl := (Array.getElem?_eq_some_iff.1 HX5.out).1
        have HSm := Lib.hid (HSame.out w8)
        clear hb5
        go_wp2_with fail
        refine HSm.out.mono ?_
        rintro e w9 ⟨rfl, hb6⟩
        have HX6 := Lib.hid ((hb6.block _ hxl).trans HX5.out)
        have HB6 := Lib.hid (HB5.out.trans (hb6.mono HB5.out.size))
        have cx := Lib.cell_of_heap HX6.out
        have hxl := (Array.getElem?_eq_some_iff.1 HX6.out).1
        clear hb6 HSm HX5 HB5
        go_wp2_with fail
        refine (HSe.out _).mono ?_
        rintro e w10 ⟨rfl, hb7⟩
        have HB7 := Lib.hid (HB6.out.trans (hb7.mono HB6.out.size))
        clear hb7 HX6 HB6
        go_wp2_with fail
        refine (HLo.out _).mono ?_
        rintro e w11 ⟨rfl, hb8⟩
        have HB8 := Lib.hid (HB7.out.trans (hb8.mono HB7.out.size))
        clear hb8 HB7
        go_wp2_with (first | (go_at_call 13; refine (HIt.out _).mono ?_; rintro e w' ⟨rfl, rfl⟩) | (go_at_call 15; refine (HWt.out _).mono ?_; rintro e w' ⟨rfl, rfl⟩) | (go_at_call 11; refine (HLt.out _).mono ?_; rintro e w' ⟨rfl, rfl⟩) | fail)
        go_ret
        exact ⟨rfl, HB8.out⟩
      · have hnw := fun W => model_New_other n a1 a2 a3 a4 a5 a6 (by omega) (by omega) hm W
        unfold pl7 at hnw
        rw [hp] at hc hm
        have heq := fun W => eql_plan n a1 a2 a3 a4 a5 a6 n p1 p2 p3 p4 p5 p6 W
        have hb : ((n : Int) == n && a1 == p1 && a2 == p2 && a3 == p3 && a4 == p4 && a5 == p5 && a6 == p6) = false := by
          rw [Bool.eq_false_iff]
          intro h
          simp only [Bool.and_eq_true, beq_iff_eq] at h
          obtain ⟨⟨⟨⟨⟨⟨_, rfl⟩, rfl⟩, rfl⟩, rfl⟩, rfl⟩, rfl⟩ := h
          exact hm rfl
        rw [hb] at heq
        have HC := Lib.hid hc
        have HNw := Lib.hid hnw
        clear hc hnw hin hm hp hb
        go_enter Tryz.func7, Tryz.ntmps7
        go_wp2_with (first | (rw [HW.out]) | fail)
        refine (HA.out _).mono ?_
        rintro e w3 ⟨rfl, hb3⟩
        have HX3 := Lib.hid ((hb3.block _ (Array.getElem?_eq_some_iff.1 HX.out).1).trans HX.out)
        have HP3 := Lib.hid ((hb3.block _ (Array.getElem?_eq_some_iff.1 HP.out).1).trans HP.out)
        have HB3 := Lib.hid (HB2.out.trans (hb3.mono HB2.out.size))
        have cx := Lib.cell_of_heap HX3.out
        clear hb3
        go_wp2_with fail
        refine (HLong.out _).mono ?_
        rintro e w4 ⟨rfl, hb4⟩
        have HX4 := Lib.hid ((hb4.block _ (Array.getElem?_eq_some_iff.1 HX3.out).1).trans HX3.out)
        have HP4 := Lib.hid ((hb4.block _ (Array.getElem?_eq_some_iff.1 HP3.out).1).trans HP3.out)
        have HB4 := Lib.hid (HB3.out.trans (hb4.mono HB3.out.size))
        have cp := Lib.cell_of_heap HP4.out
        clear hb4 cx HX3 HP3 HB3 HLong HX HP HB2 HW
        go_wp2_with fail
        refine (HC.out _).mono ?_
        rintro e w5 ⟨rfl, hb5⟩
        obtain ⟨w6, hw6⟩ : ∃ w6, w5.alloc (.cells #[.int .i64 n, .int .i64 p1, .int .i64 p2, .int .i64 p3, .int .i64 p4, .int .i64 p5, .int .i64 p6] 26) = w6 := ⟨_, rfl⟩
        have hb6 : Below w4.heap.size w4 w6 := by rw [← hw6]; exact hb5.alloc hb5.size _
        have HQ6 : Hid (w6.heap[w5.heap.size]? = some (.cells #[.int .i64 n, .int .i64 p1, .int .i64 p2, .int .i64 p3, .int .i64 p4, .int .i64 p5, .int .i64 p6] 26 (0, 0))) := by rw [← hw6]; exact heap_alloc_new _ _
        have HX6 := Lib.hid ((hb6.block _ (Array.getElem?_eq_some_iff.1 HX4.out).1).trans HX4.out)
        have HP6 := Lib.hid ((hb6.block _ (Array.getElem?_eq_some_iff.1 HP4.out).1).trans HP4.out)
        have HB6 := Lib.hid (HB4.out.trans (hb6.mono HB4.out.size))
        have HP5 := Lib.hid ((hb5.block _ (Array.getElem?_eq_some_iff.1 HP4.out).1).trans HP4.out)
        have hpl := (Array.getElem?_eq_some_iff.1 HP5.out).1
        have HW6 := Lib.hid hw6
        have cp := Lib.cell_of_heap HP5.out
        clear hb5 hb6 hw6 HC
        go_wp2_with fail
        rw [HW6.out]
        refine (HNw.out _).mono ?_
        rintro e w7 ⟨rfl, hb7⟩
        have HX7 := Lib.hid ((hb7.block _ (Array.getElem?_eq_some_iff.1 HX6.out).1).trans HX6.out)
        have HP7 := Lib.hid ((hb7.block _ (Array.getElem?_eq_some_iff.1 HP6.out).1).trans HP6.out)
        have HQ7 := Lib.hid ((hb7.block _ (Array.getElem?_eq_some_iff.1 HQ6.out).1).trans HQ6.out)
        have HB7 := Lib.hid (HB6.out.trans (hb7.mono HB6.out.size))
        have cp := Lib.cell_of_heap HP7.out
        have cq := Lib.cell_of_heap HQ7.out
        have cx := Lib.cell_of_heap HX7.out
        clear hb7 HNw hpl HX4 HP4 HB4 HX6 HP6 HB6 HQ6 HP5
        go_wp2_with fail
        refine (HDo.out _).mono ?_
        rintro e w8 ⟨rfl, hb5⟩
        have HX5 := Lib.hid ((hb5.block _ (Array.getElem?_eq_some_iff.1 HX7.out).1).trans HX7.out)
        have HB5 := Lib.hid (HB7.out.trans (hb5.mono HB7.out.size))
        have cx := Lib.cell_of_heap HX5.out
        have hxl := (Array.getElem?_eq_some_iff.1 HX5.out).1
        have HSm := Lib.hid (HSame.out w8)
        clear hb5
        go_wp2_with fail
        refine HSm.out.mono ?_
        rintro e w9 ⟨rfl, hb6⟩
        have HX6 := Lib.hid ((hb6.block _ hxl).trans HX5.out)
        have HB6 := Lib.hid (HB5.out.trans (hb6.mono HB5.out.size))
        have cx := Lib.cell_of_heap HX6.out
        have hxl := (Array.getElem?_eq_some_iff.1 HX6.out).1
        clear hb6 HSm HX5 HB5
        go_wp2_with fail
        refine (HSe.out _).mono ?_
        rintro e w10 ⟨rfl, hb7⟩
        have HB7 := Lib.hid (HB6.out.trans (hb7.mono HB6.out.size))
        clear hb7 HX6 HB6
        go_wp2_with fail
        refine (HLo.out _).mono ?_
        rintro e w11 ⟨rfl, hb8⟩
        have HB8 := Lib.hid (HB7.out.trans (hb8.mono HB7.out.size))
        clear hb8 HB7
        go_wp2_with (first | (go_at_call 13; refine (HIt.out _).mono ?_; rintro e w' ⟨rfl, rfl⟩) | (go_at_call 15; refine (HWt.out _).mono ?_; rintro e w' ⟨rfl, rfl⟩) | (go_at_call 11; refine (HLt.out _).mono ?_; rintro e w' ⟨rfl, rfl⟩) | fail)
        go_ret
        exact ⟨rfl, HB8.out⟩

end Go.Proofs.YtjpakldnejpleaaGreat
