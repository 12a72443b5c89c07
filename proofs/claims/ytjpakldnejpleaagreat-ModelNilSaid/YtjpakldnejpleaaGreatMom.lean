/- model.message and prune.message (one text): what an order does. -/
import Derived.Test.YtjpakldnejpleaaGreatMod
namespace Go.Proofs.YtjpakldnejpleaaGreat
open Go.RowKit

/-- What an update does. -/
def msgOf (o : Od) : Ms × Bool :=
  if o.kind = 1 then (⟨1, o.k, o.v⟩, true) else if o.kind = 2 then (⟨2, o.k, ⟨#[]⟩⟩, true) else if o.kind = 3 then (⟨3, o.k, valOf o.n⟩, true) else (⟨0, ⟨#[]⟩, ⟨#[]⟩⟩, false)

set_option maxHeartbeats 2000000 in
set_option maxRecDepth 100000 in
theorem model_message (o : Od) (w : World) (hn : o.n < 18446744073709551616) : Calls Tryz.prog 40 #[o.agg] w fun e w' => e = .returned (.tuple #[(msgOf o).1.agg, .bool (msgOf o).2]) ∧ Below w.heap.size w w' := by
  obtain ⟨kind, k, v, n, lo, hi⟩ := o
  simp only at hn
  obtain ⟨r, hr⟩ : ∃ r, r = msgOf ⟨kind, k, v, n, lo, hi⟩ := ⟨_, rfl⟩
  rw [← hr]
  unfold msgOf at hr
  simp only at hr
  have HR := Lib.hid hr
  clear hr
  have HP := Lib.hid (fun W => msg_OfPut k v W)
  have HDl := Lib.hid (fun W => msg_OfDel k W)
  have HA := Lib.hid (fun W => msg_OfAdd k n W hn)
  unfold Ms.agg Od.agg at *
  obtain ⟨w1, hw1⟩ : ∃ w1, w1 = (w.alloc (.cells #[.int .i64 kind, .string k, .string v, .int .u64 n, .string lo, .string hi] 39)) := ⟨_, rfl⟩
  have hB1 : Below w.heap.size w w1 := by rw [hw1]; exact below_alloc1 _ _
  have hX1 : w1.heap[w.heap.size]? = some (.cells #[.int .i64 kind, .string k, .string v, .int .u64 n, .string lo, .string hi] 39 (0, 0)) := by rw [hw1]; exact heap_alloc_new _ _
  have hs1 : w1.heap.size = w.heap.size + 1 := by rw [hw1]; simp
  obtain ⟨w2, hw2⟩ : ∃ w2, w2 = w1.alloc (.cells #[.int .i64 0, .string ⟨#[]⟩, .string ⟨#[]⟩] 88) := ⟨_, rfl⟩
  have hB2 : Below w1.heap.size w1 w2 := by rw [hw2]; exact below_alloc1 _ _
  have hY2 : w2.heap[w1.heap.size]? = some (.cells #[.int .i64 0, .string ⟨#[]⟩, .string ⟨#[]⟩] 88 (0, 0)) := by rw [hw2]; exact heap_alloc_new _ _
  have hX2 := (hB2.block _ (Array.getElem?_eq_some_iff.1 hX1).1).trans hX1
  rw [hs1] at hY2
  have c0 := Lib.cell_of_heap hX2 0
  have c1 := Lib.cell_of_heap hX2 1
  have c2 := Lib.cell_of_heap hX2 2
  have c3 := Lib.cell_of_heap hX2 3
  have hyl := (Array.getElem?_eq_some_iff.1 hY2).1
  have HB2 := Lib.hid (hB1.trans (hB2.mono hB1.size))
  have HY2 := Lib.hid hY2
  have HW1 := Lib.hid hw1
  have HW2 := Lib.hid hw2
  have hwe : (w.alloc (.cells #[.int .i64 kind, .string k, .string v, .int .u64 n, .string lo, .string hi] 39)).alloc (.cells #[.int .i64 0, .string ⟨#[]⟩, .string ⟨#[]⟩] 88) = w2 := by rw [hw2, hw1]
  have HWE := Lib.hid hwe
  clear hB1 hX1 hs1 hB2 hY2 hX2 hw1 hw2 hwe
  by_cases h : kind = 1 ∨ kind = 2 ∨ kind = 3
  · rcases h with rfl | rfl | rfl
    all_goals
      have hr := HR.out
      simp at hr
      subst hr
      clear HR
      go_enter Tryz.func40, Tryz.ntmps40
      go_wp2_with (first | (rw [HWE.out]) | fail)
      first
      | refine (HP.out _).mono ?_
      | refine (HDl.out _).mono ?_
      | refine (HA.out _).mono ?_
      rintro e w3 ⟨rfl, hb3⟩
      have HY3 := Lib.hid ((hb3.block _ hyl).trans HY2.out)
      have HB3 := Lib.hid (HB2.out.trans (hb3.mono HB2.out.size))
      clear hb3 c0 c1 c2 c3
      have f0 := Lib.frozen_of_heap HY3.out 0
      have f1 := Lib.frozen_of_heap HY3.out 1
      have f2 := Lib.frozen_of_heap HY3.out 2
      have c0 : w3.cell? ⟨w.heap.size + 1, 0, none⟩ = some (.int .i64 0) := by rw [Lib.cell_of_heap HY3.out]; rfl
      have c1 : w3.cell? ⟨w.heap.size + 1, 1, none⟩ = some (.string ⟨#[]⟩) := by rw [Lib.cell_of_heap HY3.out]; rfl
      have c2 : w3.cell? ⟨w.heap.size + 1, 2, none⟩ = some (.string ⟨#[]⟩) := by rw [Lib.cell_of_heap HY3.out]; rfl
      go_wp2
      refine bodyPost_ret ?_ rfl ⟨rfl, ((HB3.out.setCell (p := ⟨w.heap.size + 1, 0, none⟩) (Nat.le_succ _) _).setCell (p := ⟨w.heap.size + 1, 1, none⟩) (Nat.le_succ _) _).setCell (p := ⟨w.heap.size + 1, 2, none⟩) (Nat.le_succ _) _⟩
      simp [results, Tryz.results40, go_sem, c0, c1, c2]
  · have hr := HR.out
    rw [if_neg (by omega), if_neg (by omega), if_neg (by omega)] at hr
    subst hr
    have g1 : (kind == 1) = false := by simp; omega
    have g2 : (kind == 2) = false := by simp; omega
    have g3 : (kind == 3) = false := by simp; omega
    clear HR h c0 c1 c2 c3 HP HDl HA HWE HW1 HW2 HY2 hyl HB2
    go_enter Tryz.func40, Tryz.ntmps40
    go_wp2
    refine bodyPost_ret ?_ rfl ⟨rfl, ((below_alloc_1 w _).alloc (by simp) _)⟩
    simp [results, Tryz.results40, go_sem]

set_option maxHeartbeats 2000000 in
set_option maxRecDepth 100000 in
theorem prune_message (o : Od) (w : World) (hn : o.n < 18446744073709551616) : Calls Tryz.prog 53 #[o.agg] w fun e w' => e = .returned (.tuple #[(msgOf o).1.agg, .bool (msgOf o).2]) ∧ Below w.heap.size w w' := by
  obtain ⟨kind, k, v, n, lo, hi⟩ := o
  simp only at hn
  obtain ⟨r, hr⟩ : ∃ r, r = msgOf ⟨kind, k, v, n, lo, hi⟩ := ⟨_, rfl⟩
  rw [← hr]
  unfold msgOf at hr
  simp only at hr
  have HR := Lib.hid hr
  clear hr
  have HP := Lib.hid (fun W => msg_OfPut k v W)
  have HDl := Lib.hid (fun W => msg_OfDel k W)
  have HA := Lib.hid (fun W => msg_OfAdd k n W hn)
  unfold Ms.agg Od.agg at *
  obtain ⟨w1, hw1⟩ : ∃ w1, w1 = (w.alloc (.cells #[.int .i64 kind, .string k, .string v, .int .u64 n, .string lo, .string hi] 39)) := ⟨_, rfl⟩
  have hB1 : Below w.heap.size w w1 := by rw [hw1]; exact below_alloc1 _ _
  have hX1 : w1.heap[w.heap.size]? = some (.cells #[.int .i64 kind, .string k, .string v, .int .u64 n, .string lo, .string hi] 39 (0, 0)) := by rw [hw1]; exact heap_alloc_new _ _
  have hs1 : w1.heap.size = w.heap.size + 1 := by rw [hw1]; simp
  obtain ⟨w2, hw2⟩ : ∃ w2, w2 = w1.alloc (.cells #[.int .i64 0, .string ⟨#[]⟩, .string ⟨#[]⟩] 88) := ⟨_, rfl⟩
  have hB2 : Below w1.heap.size w1 w2 := by rw [hw2]; exact below_alloc1 _ _
  have hY2 : w2.heap[w1.heap.size]? = some (.cells #[.int .i64 0, .string ⟨#[]⟩, .string ⟨#[]⟩] 88 (0, 0)) := by rw [hw2]; exact heap_alloc_new _ _
  have hX2 := (hB2.block _ (Array.getElem?_eq_some_iff.1 hX1).1).trans hX1
  rw [hs1] at hY2
  have c0 := Lib.cell_of_heap hX2 0
  have c1 := Lib.cell_of_heap hX2 1
  have c2 := Lib.cell_of_heap hX2 2
  have c3 := Lib.cell_of_heap hX2 3
  have hyl := (Array.getElem?_eq_some_iff.1 hY2).1
  have HB2 := Lib.hid (hB1.trans (hB2.mono hB1.size))
  have HY2 := Lib.hid hY2
  have HW1 := Lib.hid hw1
  have HW2 := Lib.hid hw2
  have hwe : (w.alloc (.cells #[.int .i64 kind, .string k, .string v, .int .u64 n, .string lo, .string hi] 39)).alloc (.cells #[.int .i64 0, .string ⟨#[]⟩, .string ⟨#[]⟩] 88) = w2 := by rw [hw2, hw1]
  have HWE := Lib.hid hwe
  clear hB1 hX1 hs1 hB2 hY2 hX2 hw1 hw2 hwe
  by_cases h : kind = 1 ∨ kind = 2 ∨ kind = 3
  · rcases h with rfl | rfl | rfl
    all_goals
      have hr := HR.out
      simp at hr
      subst hr
      clear HR
      go_enter Tryz.func53, Tryz.ntmps53
      go_wp2_with (first | (rw [HWE.out]) | fail)
      first
      | refine (HP.out _).mono ?_
      | refine (HDl.out _).mono ?_
      | refine (HA.out _).mono ?_
      rintro e w3 ⟨rfl, hb3⟩
      have HY3 := Lib.hid ((hb3.block _ hyl).trans HY2.out)
      have HB3 := Lib.hid (HB2.out.trans (hb3.mono HB2.out.size))
      clear hb3 c0 c1 c2 c3
      have f0 := Lib.frozen_of_heap HY3.out 0
      have f1 := Lib.frozen_of_heap HY3.out 1
      have f2 := Lib.frozen_of_heap HY3.out 2
      have c0 : w3.cell? ⟨w.heap.size + 1, 0, none⟩ = some (.int .i64 0) := by rw [Lib.cell_of_heap HY3.out]; rfl
      have c1 : w3.cell? ⟨w.heap.size + 1, 1, none⟩ = some (.string ⟨#[]⟩) := by rw [Lib.cell_of_heap HY3.out]; rfl
      have c2 : w3.cell? ⟨w.heap.size + 1, 2, none⟩ = some (.string ⟨#[]⟩) := by rw [Lib.cell_of_heap HY3.out]; rfl
      go_wp2
      refine bodyPost_ret ?_ rfl ⟨rfl, ((HB3.out.setCell (p := ⟨w.heap.size + 1, 0, none⟩) (Nat.le_succ _) _).setCell (p := ⟨w.heap.size + 1, 1, none⟩) (Nat.le_succ _) _).setCell (p := ⟨w.heap.size + 1, 2, none⟩) (Nat.le_succ _) _⟩
      simp [results, Tryz.results53, go_sem, c0, c1, c2]
  · have hr := HR.out
    rw [if_neg (by omega), if_neg (by omega), if_neg (by omega)] at hr
    subst hr
    have g1 : (kind == 1) = false := by simp; omega
    have g2 : (kind == 2) = false := by simp; omega
    have g3 : (kind == 3) = false := by simp; omega
    clear HR h c0 c1 c2 c3 HP HDl HA HWE HW1 HW2 HY2 hyl HB2
    go_enter Tryz.func53, Tryz.ntmps53
    go_wp2
    refine bodyPost_ret ?_ rfl ⟨rfl, ((below_alloc_1 w _).alloc (by simp) _)⟩
    simp [results, Tryz.results53, go_sem]

end Go.Proofs.YtjpakldnejpleaaGreat
