/- model.New of what is no plan; the functions of nil; grangerlaw26.begun. -/
import Derived.Test.YtjpakldnejpleaaGreatLost
namespace Go.Proofs.YtjpakldnejpleaaGreat
open Go.RowKit

/-- Seven numbers of a plan. -/
def pl7 (a0 a1 a2 a3 a4 a5 a6 : Int) : Value := .agg #[.int .i64 a0, .int .i64 a1, .int .i64 a2, .int .i64 a3, .int .i64 a4, .int .i64 a5, .int .i64 a6]

set_option maxHeartbeats 4000000 in
set_option maxRecDepth 100000 in
theorem model_New_out (a0 a1 a2 a3 a4 a5 a6 : Int) (h : a0 < 64 ∨ 512 < a0) (w : World) :
    Calls Tryz.prog 38 #[pl7 a0 a1 a2 a3 a4 a5 a6] w fun e w' => e = .returned (.pointer none) ∧ Below w.heap.size w w' := by
  have HC := fun W => capa_Of_bad a0 h W
  unfold planZ at HC
  have HC := Lib.hid HC
  have hgu := noGuard_plan
  clear h
  unfold pl7
  go_enter Tryz.func38, Tryz.ntmps38
  go_wp2_with fail
  refine (HC.out _).mono ?_
  rintro e w1 ⟨rfl, hb1⟩
  have HB1 := Lib.hid ((below_alloc1 w (.cells #[.int .i64 a0, .int .i64 a1, .int .i64 a2, .int .i64 a3, .int .i64 a4, .int .i64 a5, .int .i64 a6] 26)).trans (hb1.mono (by simp)))
  clear hb1 HC
  go_wp2
  go_ret
  exact ⟨rfl, HB1.out.alloc HB1.out.size _⟩

set_option maxHeartbeats 4000000 in
set_option maxRecDepth 100000 in
theorem model_New_other (n : Nat) (a1 a2 a3 a4 a5 a6 : Int) (h1 : 64 ≤ n) (h2 : n ≤ 512) (hne : planV n ≠ pl7 n a1 a2 a3 a4 a5 a6) (w : World) :
    Calls Tryz.prog 38 #[pl7 n a1 a2 a3 a4 a5 a6] w fun e w' => e = .returned (.pointer none) ∧ Below w.heap.size w w' := by
  have HC := fun W => capa_Of n h1 h2 W
  have hgu := noGuard_plan
  obtain ⟨p1, p2, p3, p4, p5, p6, hp⟩ : ∃ p1 p2 p3 p4 p5 p6 : Int, planV n = .agg #[.int .i64 n, .int .i64 p1, .int .i64 p2, .int .i64 p3, .int .i64 p4, .int .i64 p5, .int .i64 p6] := ⟨_, _, _, _, _, _, rfl⟩
  rw [hp] at HC hne
  unfold pl7 at hne ⊢
  have hnq : ∀ w : World, (binOp .neq 26 (.agg #[.int .i64 n, .int .i64 p1, .int .i64 p2, .int .i64 p3, .int .i64 p4, .int .i64 p5, .int .i64 p6]) (.agg #[.int .i64 n, .int .i64 a1, .int .i64 a2, .int .i64 a3, .int .i64 a4, .int .i64 a5, .int .i64 a6])).run Tryz.prog w = .ok (.bool true) w := by
    intro w
    rw [run_neq_struct, equalIn_plan 9998]
    have : ((n : Int) == n && p1 == a1 && p2 == a2 && p3 == a3 && p4 == a4 && p5 == a5 && p6 == a6) = false := by
      rw [Bool.eq_false_iff]
      intro h
      simp only [Bool.and_eq_true, beq_iff_eq] at h
      obtain ⟨⟨⟨⟨⟨⟨_, rfl⟩, rfl⟩, rfl⟩, rfl⟩, rfl⟩, rfl⟩ := h
      exact hne rfl
    rw [this]
    simp [Result.andThen]
  have HC := Lib.hid HC
  clear h1 h2 hp hne
  go_enter Tryz.func38, Tryz.ntmps38
  go_wp2_with fail
  refine (HC.out _).mono ?_
  rintro e w1 ⟨rfl, hb1⟩
  have hX := (hb1.block w.heap.size (by simp)).trans (heap_alloc_new w (.cells #[.int .i64 n, .int .i64 a1, .int .i64 a2, .int .i64 a3, .int .i64 a4, .int .i64 a5, .int .i64 a6] 26))
  have HB1 := Lib.hid ((below_alloc1 w (.cells #[.int .i64 n, .int .i64 a1, .int .i64 a2, .int .i64 a3, .int .i64 a4, .int .i64 a5, .int .i64 a6] 26)).trans (hb1.mono (by simp)))
  have cc := Lib.cell_of_heap hX
  have hxl := (Array.getElem?_eq_some_iff.1 hX).1
  clear hb1 hX HC
  go_wp2
  go_ret
  exact ⟨rfl, HB1.out.alloc HB1.out.size _⟩

set_option maxHeartbeats 1000000 in
theorem model_Items_nil (w : World) : Calls Tryz.prog 13 #[.pointer none] w fun e w' => e = .returned (.slice none 0 0) ∧ w = w' := by
  go_enter Tryz.func13, Tryz.ntmps13
  go_wp2
  go_ret
  exact ⟨rfl, rfl⟩

set_option maxHeartbeats 1000000 in
theorem model_Weight_nil (w : World) : Calls Tryz.prog 15 #[.pointer none] w fun e w' => e = .returned (.int .i64 0) ∧ w = w' := by
  go_enter Tryz.func15, Tryz.ntmps15
  go_wp2
  go_ret
  exact ⟨rfl, rfl⟩

set_option maxHeartbeats 1000000 in
theorem model_Late_nil (w : World) : Calls Tryz.prog 11 #[.pointer none] w fun e w' => e = .returned (.int .i64 0) ∧ w = w' := by
  go_enter Tryz.func11, Tryz.ntmps11
  go_wp2
  go_ret
  exact ⟨rfl, rfl⟩

set_option maxHeartbeats 4000000 in
set_option maxRecDepth 100000 in
theorem model_Do_nil (o : Od) (w : World) :
    Calls Tryz.prog 10 #[.pointer none, o.agg] w fun e w' => e = .returned (ansV 2 false ⟨#[]⟩ (.slice none 0 0) 0 0) ∧ Below w.heap.size w w' := by
  obtain ⟨kind, k, v, on, lo, hi⟩ := o
  unfold Od.agg
  go_enter Tryz.func10, Tryz.ntmps10
  go_wp2
  refine bodyPost_ret ?_ rfl ⟨rfl, (below_alloc_1 w _).alloc (by simp) _⟩
  simp [results, Tryz.results10, go_sem, ansV]

theorem ModAt.off_blk {w w' : World} {b g n : Nat} {rows : List (List It)} (h : ModAt w b g n rows) {a : Nat} {T : TypeId} {cs : Array Value} {fr : Nat × Nat} (hX : w.heap[a]? = some (.cells cs T fr)) (h1 : T ≠ 100) (h2 : T ≠ 96) (h3 : T ≠ 138)
    (hs : ∀ p x y, cs[p]? = some (.string x) → cs[p + 1]? = some (.string y) → False) (ho : Off (fun k => k = a) w w') : ModAt w' b g n rows := by
  obtain ⟨o, c, cur, bs, h⟩ := h
  have hb : b ≠ a := by
    rintro rfl
    have := h.box
    rw [hX] at this
    injection this with this
    injection this with _ this
    exact h1 this
  have hg : g ≠ a := by
    rintro rfl
    have := h.row
    rw [hX] at this
    injection this with this
    injection this with _ this
    exact h2 this
  refine ⟨o, c, cur, bs, { h with box := (ho.block b (Array.getElem?_eq_some_iff.1 h.box).1 hb).trans h.box, row := (ho.block g (Array.getElem?_eq_some_iff.1 h.row).1 hg).trans h.row, leaf := fun i l xs hi hx => ?_ }⟩
  have hl := h.leaf i l xs hi hx
  refine hl.off2 ho ?_ ?_
  · rintro rfl
    obtain ⟨A, c, hb, _⟩ := hl
    rw [hX] at hb
    injection hb with this
    injection this with _ this
    exact h3 this
  · rintro bb p x y h1 h2 rfl
    simp only [World.cell?, hX] at h1 h2
    exact hs p x y h1 h2

set_option maxHeartbeats 4000000 in
set_option maxRecDepth 100000 in
theorem law_begun (n : Nat) (h1 : 64 ≤ n) (h2 : n ≤ 512) (w : World) :
    Calls Tryz.prog 9 #[.int .i64 n] w fun e w' => ∃ b g, e = .returned (.tuple #[.pointer (some ⟨b, 0, none⟩), planV n]) ∧ w.heap.size ≤ b ∧ w.heap.size ≤ g ∧ ModAt w' b g n [[]] ∧ Below w.heap.size w w' := by
  have HC := fun W => capa_Of n h1 h2 W
  have HN := fun W => model_New_ok n h1 h2 W
  obtain ⟨p1, p2, p3, p4, p5, p6, hp⟩ : ∃ p1 p2 p3 p4 p5 p6 : Int, planV n = .agg #[.int .i64 n, .int .i64 p1, .int .i64 p2, .int .i64 p3, .int .i64 p4, .int .i64 p5, .int .i64 p6] := ⟨_, _, _, _, _, _, rfl⟩
  rw [hp] at HC HN ⊢
  have HC := Lib.hid HC
  have HN := Lib.hid HN
  clear hp h1 h2
  obtain ⟨w0, hw0⟩ : ∃ w0, w.alloc (.cells #[.int .i64 0, .int .i64 0, .int .i64 0, .int .i64 0, .int .i64 0, .int .i64 0, .int .i64 0] 26) = w0 := ⟨_, rfl⟩
  have hB0 : Below w.heap.size w w0 := by rw [← hw0]; exact below_alloc1 _ _
  have hX0 : w0.heap[w.heap.size]? = some (.cells #[.int .i64 0, .int .i64 0, .int .i64 0, .int .i64 0, .int .i64 0, .int .i64 0, .int .i64 0] 26 (0, 0)) := by rw [← hw0]; exact heap_alloc_new _ _
  have HW0 := Lib.hid hw0
  have HB0 := Lib.hid hB0
  have HX0 := Lib.hid hX0
  clear hw0 hB0 hX0
  go_enter Tryz.func9, Tryz.ntmps9
  go_wp2_with (first | (rw [HW0.out]) | fail)
  refine (HC.out _).mono ?_
  rintro e w1 ⟨rfl, hb1⟩
  obtain ⟨w2, hw2⟩ : ∃ w2, w1.alloc (.cells #[.int .i64 n, .int .i64 p1, .int .i64 p2, .int .i64 p3, .int .i64 p4, .int .i64 p5, .int .i64 p6] 26) = w2 := ⟨_, rfl⟩
  have hb2 : Below w0.heap.size w0 w2 := by rw [← hw2]; exact hb1.alloc hb1.size _
  have HX2 := Lib.hid ((hb2.block _ (Array.getElem?_eq_some_iff.1 HX0.out).1).trans HX0.out)
  have hP2 : w2.heap[w1.heap.size]? = some (.cells #[.int .i64 n, .int .i64 p1, .int .i64 p2, .int .i64 p3, .int .i64 p4, .int .i64 p5, .int .i64 p6] 26 (0, 0)) := by rw [← hw2]; exact heap_alloc_new _ _
  have HP2 := Lib.hid hP2
  have HB2 := Lib.hid (HB0.out.trans (hb2.mono HB0.out.size))
  have HW2 := Lib.hid hw2
  clear hb1 hb2 hw2 hP2 HX0 HB0 HW0 HC
  go_wp2
  rw [HW2.out]
  have hn : ∀ W, Below w2.heap.size w2 W → Calls Tryz.prog 38 #[.agg #[.int .i64 n, .int .i64 p1, .int .i64 p2, .int .i64 p3, .int .i64 p4, .int .i64 p5, .int .i64 p6]] W fun e w' => ∃ b, e = .returned (.pointer (some ⟨b, 0, none⟩)) ∧ (∃ g, w.heap.size ≤ b ∧ w.heap.size ≤ g ∧ ModAt w' b g n [[]]) ∧ Below w2.heap.size w2 w' ∧ (∀ o, w'.cell? ⟨w1.heap.size, o, none⟩ = w2.cell? ⟨w1.heap.size, o, none⟩) ∧ (∀ o, w'.cell? ⟨w.heap.size, o, none⟩ = w2.cell? ⟨w.heap.size, o, none⟩) ∧ (∀ o, w'.frozen? ⟨w.heap.size, o, none⟩ = w2.frozen? ⟨w.heap.size, o, none⟩) := fun W hW =>
    (HN.out W).mono fun e w' ⟨b, g, he, hb, hg, hM, hB⟩ => by
      have hB2 := hW.trans (hB.mono hW.size)
      have hs := Nat.le_trans HB2.out.size hW.size
      have hl1 := (Array.getElem?_eq_some_iff.1 HP2.out).1
      have hl2 := (Array.getElem?_eq_some_iff.1 HX2.out).1
      exact ⟨b, he, ⟨g, Nat.le_trans hs hb, Nat.le_trans hs hg, hM⟩, hB2, fun o => hB2.cell (p := ⟨w1.heap.size, o, none⟩) hl1, fun o => hB2.cell (p := ⟨w.heap.size, o, none⟩) hl2, fun o => hB2.frozen (p := ⟨w.heap.size, o, none⟩) hl2⟩
  have HN2 := Lib.hid hn
  have cp := Lib.cell_of_heap HP2.out
  have cx := Lib.cell_of_heap HX2.out
  have fx := Lib.frozen_of_heap HX2.out
  clear hn HN
  go_region_with
    (go_at_call 38; refine (HN2.out _ ((Below.refl _ _).drew)).mono ?_; rintro e w' ⟨b, rfl, hM, hB, k1, k2, k3⟩)
  all_goals
    go_wp2
    have hX' := (hB.block _ (Array.getElem?_eq_some_iff.1 HX2.out).1).trans HX2.out
    have hBw := HB2.out.trans (hB.mono HB2.out.size)
    generalize hW : World.setCell _ _ _ = W
    have HXf : ∃ cs, W.heap[w.heap.size]? = some (.cells cs 26 (0, 0)) ∧ cs = #[.int .i64 n, .int .i64 p1, .int .i64 p2, .int .i64 p3, .int .i64 p4, .int .i64 p5, .int .i64 p6] := by
      refine ⟨_, ?_, rfl⟩
      rw [← hW]
      simp only [heap_setCell_map, hX', Option.map_some, objSet]
      simp
    have HOf : Off (fun k => k = w.heap.size) w' W := by
      rw [← hW]
      repeat with_reducible apply off_set_step
      with_reducible exact Off.refl _ _
    clear hW
    obtain ⟨cs, HXf, rfl⟩ := HXf
    have cc := Lib.cell_of_heap HXf
    obtain ⟨g, g1, g2, hM⟩ := hM
    refine bodyPost_ret ?_ rfl ⟨b, g, rfl, g1, g2, hM.off_blk hX' (by decide) (by decide) (by decide) ?_ HOf, Off.below hBw HOf hBw.size (fun k hk => by omega)⟩
    · simp [results, Tryz.results9, go_sem, cc]
    · intro p x y h1 _
      match p, h1 with
      | 0, h1 => cases h1
      | 1, h1 => cases h1
      | 2, h1 => cases h1
      | 3, h1 => cases h1
      | 4, h1 => cases h1
      | 5, h1 => cases h1
      | 6, h1 => cases h1
      | (q + 7), h1 => simp at h1

end Go.Proofs.YtjpakldnejpleaaGreat
