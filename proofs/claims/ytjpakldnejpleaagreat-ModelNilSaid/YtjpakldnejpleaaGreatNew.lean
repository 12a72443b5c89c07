/- model.New. -/
import Derived.Test.YtjpakldnejpleaaGreatSafe
namespace Go.Proofs.YtjpakldnejpleaaGreat
open Go.RowKit

theorem noGuard_plan : Tryz.prog.eqGuardType Tryz.prog.depth 26 = false := by kernel_rfl

/-- A plan: seven numbers. -/
def plV (l : Fin 7 → Int) : Value := .agg #[.int .i64 (l 0), .int .i64 (l 1), .int .i64 (l 2), .int .i64 (l 3), .int .i64 (l 4), .int .i64 (l 5), .int .i64 (l 6)]

theorem equalIn_plan (d : Nat) (a0 a1 a2 a3 a4 a5 a6 b0 b1 b2 b3 b4 b5 b6 : Int) (w : World) :
    (Op.equalIn (d + 2) 26 (.agg #[.int .i64 a0, .int .i64 a1, .int .i64 a2, .int .i64 a3, .int .i64 a4, .int .i64 a5, .int .i64 a6]) (.agg #[.int .i64 b0, .int .i64 b1, .int .i64 b2, .int .i64 b3, .int .i64 b4, .int .i64 b5, .int .i64 b6])).run Tryz.prog w =
      .ok (a0 == b0 && a1 == b1 && a2 == b2 && a3 == b3 && a4 == b4 && a5 == b5 && a6 == b6) w := by
  rw [run_equalIn_struct (P := Tryz.prog) w (d + 1) 26 _ _ (by kernel_rfl) (by kernel_rfl)]
  have hf : (Tryz.prog.fieldsOf 26).toList.map (fun f => (f.name, f.type, f.offset)) = [("Blocks", 3, 0), ("Log", 3, 1), ("First", 3, 2), ("Data", 3, 3), ("Half", 3, 4), ("Leaves", 3, 5), ("Cap", 3, 6)] := by kernel_rfl
  generalize (Tryz.prog.fieldsOf 26).toList = fs at hf
  obtain ⟨f1, t1, rfl, e1, hf⟩ := List.map_eq_cons_iff.1 hf
  obtain ⟨f2, t2, rfl, e2, hf⟩ := List.map_eq_cons_iff.1 hf
  obtain ⟨f3, t3, rfl, e3, hf⟩ := List.map_eq_cons_iff.1 hf
  obtain ⟨f4, t4, rfl, e4, hf⟩ := List.map_eq_cons_iff.1 hf
  obtain ⟨f5, t5, rfl, e5, hf⟩ := List.map_eq_cons_iff.1 hf
  obtain ⟨f6, t6, rfl, e6, hf⟩ := List.map_eq_cons_iff.1 hf
  obtain ⟨f7, t7, rfl, e7, hf⟩ := List.map_eq_cons_iff.1 hf
  obtain rfl := List.map_eq_nil_iff.1 hf
  simp only [Prod.mk.injEq] at e1 e2 e3 e4 e5 e6 e7
  obtain ⟨x1, x2, x3⟩ := e1
  obtain ⟨b1', b2', b3'⟩ := e2
  obtain ⟨c1, c2, c3⟩ := e3
  obtain ⟨d1, d2, d3⟩ := e4
  obtain ⟨i1, i2, i3⟩ := e5
  obtain ⟨j1, j2, j3⟩ := e6
  obtain ⟨l1, l2, l3⟩ := e7
  simp [Op.eqFields, x1, x2, x3, b1', b2', b3', c1, c2, c3, d1, d2, d3, i1, i2, i3, j1, j2, j3, l1, l2, l3, go_sem, run_equalIn_int _ _ _ _ _ _ _ Tryz.underlying3]
  repeat' split
  all_goals simp_all

theorem neq_plan_same (n : Nat) (w : World) : (binOp .neq 26 (planV n) (planV n)).run Tryz.prog w = .ok (.bool false) w := by
  unfold planV
  rw [run_neq_struct, equalIn_plan 9998]
  simp [Result.andThen]

set_option maxHeartbeats 4000000 in
set_option maxRecDepth 100000 in
theorem model_New_ok (n : Nat) (h1 : 64 ≤ n) (h2 : n ≤ 512) (w : World) :
    Calls Tryz.prog 38 #[planV n] w fun e w' => ∃ b g, e = .returned (.pointer (some ⟨b, 0, none⟩)) ∧ w.heap.size ≤ b ∧ w.heap.size ≤ g ∧ ModAt w' b g n [[]] ∧ Below w.heap.size w w' := by
  have HC := fun W => capa_Of n h1 h2 W
  have HO := Lib.hid (fun W => leaf_Of none 0 [] W ⟨Nat.le_refl _, Nat.zero_le _, fun h => absurd rfl h⟩ (by simp))
  have hgu := noGuard_plan
  have hnq := neq_plan_same n
  obtain ⟨p1, p2, p3, p4, p5, p6, hp⟩ : ∃ p1 p2 p3 p4 p5 p6 : Int, planV n = .agg #[.int .i64 n, .int .i64 p1, .int .i64 p2, .int .i64 p3, .int .i64 p4, .int .i64 p5, .int .i64 p6] := ⟨_, _, _, _, _, _, rfl⟩
  rw [hp] at HC hnq ⊢
  have HC := Lib.hid HC
  have HP := Lib.hid hp
  have hle : leafErr [] = 0 := rfl
  rw [hle] at HO
  clear h1 h2 hp hle
  go_enter Tryz.func38, Tryz.ntmps38
  go_wp2_with fail
  refine (HC.out _).mono ?_
  rintro e w1 ⟨rfl, hb1⟩
  have hX := (hb1.block w.heap.size (by simp)).trans (heap_alloc_new w (.cells #[.int .i64 n, .int .i64 p1, .int .i64 p2, .int .i64 p3, .int .i64 p4, .int .i64 p5, .int .i64 p6] 26))
  have HX := Lib.hid hX
  have HB1 := Lib.hid ((below_alloc1 w (.cells #[.int .i64 n, .int .i64 p1, .int .i64 p2, .int .i64 p3, .int .i64 p4, .int .i64 p5, .int .i64 p6] 26)).trans (hb1.mono (by simp)))
  have cc := Lib.cell_of_heap hX
  have hxl := (Array.getElem?_eq_some_iff.1 hX).1
  clear hb1 hX HC
  go_wp2_with fail
  refine (HO.out _).mono ?_
  rintro e w2 ⟨⟨p, rfl, hl, _⟩, hb2⟩
  obtain ⟨lb, rfl, _, hL⟩ := hl trivial
  have hb3 : Below w1.heap.size w1 w2 := (below_alloc1 w1 _).trans (hb2.mono (by simp))
  have HX2 := Lib.hid ((hb3.block _ hxl).trans HX.out)
  have HB2 := Lib.hid (HB1.out.trans (hb3.mono HB1.out.size))
  have cc := Lib.cell_of_heap HX2.out
  have HL := Lib.hid hL
  clear hb2 hb3 hL hl HO
  go_wp2_with fail
  go_ret
  obtain ⟨W1, hW1⟩ : ∃ W1, w2.alloc (.cells #[.pointer (some ⟨lb, 0, none⟩)] 96) = W1 := ⟨_, rfl⟩
  rw [hW1]
  have k1 : Below w2.heap.size w2 W1 := by rw [← hW1]; exact below_alloc1 _ _
  have k2 : W1.heap[w2.heap.size]? = some (.cells #[.pointer (some ⟨lb, 0, none⟩)] 96 (0, 0)) := by rw [← hW1]; exact heap_alloc_new _ _
  have k3 : W1.heap.size = w2.heap.size + 1 := by rw [← hW1]; simp
  have hm : ∀ s, modCells n s = #[.int .i64 n, .int .i64 p1, .int .i64 p2, .int .i64 p3, .int .i64 p4, .int .i64 p5, .int .i64 p6, s] := by
    intro s
    have h0 := HP.out
    unfold planV at h0
    injection h0 with h0
    simp only [Array.mk.injEq, List.cons.injEq, Value.int.injEq, true_and, and_true] at h0
    obtain ⟨e1, e2, e3, e4, e5, e6⟩ := h0
    unfold modCells
    rw [e1, e2, e3, e4, e5, e6]
  have hbl := HL.out.below (k1.trans ((below_alloc1 W1 (.cells #[.int .i64 n, .int .i64 p1, .int .i64 p2, .int .i64 p3, .int .i64 p4, .int .i64 p5, .int .i64 p6, .slice (some ⟨w2.heap.size, 0, none⟩) 1 1] 100)).mono k1.size))
  refine ⟨w2.heap.size + 1, w2.heap.size, rfl, by have := HB2.out.size; omega, HB2.out.size, ⟨0, 1, #[.pointer (some ⟨lb, 0, none⟩)], [lb], ?_⟩, ?_⟩
  · refine ⟨?_, ?_, ?_, by simp, by simp, by unfold maxLen; simp, rfl, ?_, ?_, by simp⟩
    · rw [← k3, hm]
      exact heap_alloc_new W1 _
    · rw [heap_alloc_old _ _ (by omega)]
      exact k2
    · intro u hu
      simp at hu
      exact ⟨_, hu⟩
    · intro i l hi
      match i, hi with
      | 0, hi => cases hi; rfl
    · intro i l xs hi hx
      match i, hi, hx with
      | 0, hi, hx =>
        cases hi
        cases hx
        have hs0 : It.srt [] = [] := by simp [It.srt]
        rw [hs0] at hbl
        exact hbl
  · exact (HB2.out.trans (k1.mono HB2.out.size)).alloc (by have := HB2.out.size; omega) _

end Go.Proofs.YtjpakldnejpleaaGreat
