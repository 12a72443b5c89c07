/- model.update. -/
import Derived.Test.YtjpakldnejpleaaGreatNew
namespace Go.Proofs.YtjpakldnejpleaaGreat
open Go.RowKit

/-- append of one pointer to the rows: the value, and the world. -/
theorem run_append_ptr_room (w : World) (ty : TypeId) (g o n c vb lb : Nat) (cur : Array Value) (hg : w.heap[g]? = some (.cells cur 96 (0, 0))) (hf : o + c ≤ cur.size) (hn : n + 1 ≤ c)
    (hv : w.heap[vb]? = some (.cells #[.pointer (some ⟨lb, 0, none⟩)] 96 (0, 0))) :
    (Builtin.append_ #[98, 98] ty #[.slice (some ⟨g, o, none⟩) n c, .slice (some ⟨vb, 0, none⟩) 1 1]).run Tryz.prog w = .ok (.slice (some ⟨g, o, none⟩) (n + 1) c) (w.setRow g (cur.toList.take (o + n) ++ [Value.pointer (some ⟨lb, 0, none⟩)] ++ cur.toList.drop (o + n + 1)).toArray) := by
  have hi : (Tryz.prog.info? 96).map (fun i => (i.zero, i.size, i.bytes)) = some (some (.pointer none), 1, 8) := by kernel_rfl
  obtain ⟨i0, hi0, hz0, hz1, hz2⟩ := info_parts hi
  have hc := Lib.cell_of_heap hv 0
  have hfc := run_firstCells_some (P := Tryz.prog) w 1 1 ⟨vb, 0, none⟩ 1 1 [.pointer (some ⟨lb, 0, none⟩)] rfl (fun j v hj => by
    match j, hj with
    | 0, hj => cases hj; rw [addr_add]; exact hc)
  have hst := run_storeCells_at Tryz.prog g (o + n) 96 [.pointer (some ⟨lb, 0, none⟩)] 0 cur w hg (by simp; omega) (by intro v hv; simp at hv; subst hv; rfl)
  simp [Builtin.append_, run_underlying Tryz.underlying98, sizeOf, typeInfo, hi0, hz1, Builtin.lenOf, hn, hfc, addr_add, hst]

theorem zeroCells_one (v : Value) (k : Nat) : Builtin.zeroCells #[v] k = (List.replicate k v).toArray := by
  apply Array.ext
  · simp [Builtin.zeroCells]
  · intro i h1 h2
    simp [Builtin.zeroCells]
    simp [Nat.mod_one]

/-- append of one pointer without room: a new block. -/
theorem run_append_ptr_grow (w : World) (ty : TypeId) (g o n c vb lb : Nat) (cur : Array Value) (hg : w.heap[g]? = some (.cells cur 96 (0, 0))) (hf : o + c ≤ cur.size) (hn : n ≤ c) (hr : ¬ n + 1 ≤ c) (hb : n + 1 ≤ 1000000)
    (hv : w.heap[vb]? = some (.cells #[.pointer (some ⟨lb, 0, none⟩)] 96 (0, 0))) :
    ∃ W c', (Builtin.append_ #[98, 98] ty #[.slice (some ⟨g, o, none⟩) n c, .slice (some ⟨vb, 0, none⟩) 1 1]).run Tryz.prog w = .ok (.slice (some ⟨w.heap.size, 0, none⟩) (n + 1) c') W ∧ n + 1 ≤ c' ∧ c' ≤ maxLen ∧ Below w.heap.size w W ∧
      W.heap[w.heap.size]? = some (.cells ((cur.toList.drop o).take n ++ [Value.pointer (some ⟨lb, 0, none⟩)] ++ List.replicate (c' - (n + 1)) (Value.pointer none)).toArray 96 (0, 0)) := by
  have hi : (Tryz.prog.info? 96).map (fun i => (i.zero, i.size, i.bytes)) = some (some (.pointer none), 1, 8) := by kernel_rfl
  obtain ⟨i0, hi0, hz0, hz1, hz2⟩ := info_parts hi
  have hc := Lib.cell_of_heap hv 0
  have hfc := run_firstCells_some (P := Tryz.prog) w.drew 1 1 ⟨vb, 0, none⟩ 1 1 [.pointer (some ⟨lb, 0, none⟩)] rfl (fun j v hj => by
    match j, hj with
    | 0, hj => cases hj; rw [addr_add]; exact hc)
  have hfo := run_firstCells_some (P := Tryz.prog) w.drew 1 n ⟨g, o, none⟩ n c ((cur.toList.drop o).take n) (by simp; omega) (fun j v hj => by
    rw [addr_add]
    show w.cell? _ = _
    rw [Lib.cell_of_heap hg]
    have hjl : j < n := by
      rcases Nat.lt_or_ge j n with h | h
      · exact h
      · rw [List.getElem?_eq_none (by simp; omega)] at hj; cases hj
    rw [List.getElem?_take_of_lt hjl, List.getElem?_drop] at hj
    rw [← hj, Array.getElem?_toList])
  have hns := nextslicecap_le (need := n + 1) (old := c) (by omega)
  have h48 : ¬ (281474976710656 < Builtin.nextslicecap (n + 1) c * 8) := by omega
  have h63 : ¬ (9223372036854775807 < (n : Int) + 1) := by omega
  have hgc := grownCap_ge w (n + 1) c 96
  have hgm := grownCap_le_maxLen w (n + 1) c 96 (by unfold maxLen; omega)
  refine ⟨w.drew.alloc (.cells ((cur.toList.drop o).take n ++ [Value.pointer (some ⟨lb, 0, none⟩)] ++ List.replicate (grownCap w (n + 1) c 96 - (n + 1)) (Value.pointer none)).toArray 96), grownCap w (n + 1) c 96, ?_, hgc, hgm, ⟨rfl, rfl, rfl, by simp, fun j hj => heap_alloc_old w.drew _ hj⟩, heap_alloc_new w.drew _⟩
  have hzv : i0.zero = some (.pointer none) := hz0
  simp [Builtin.append_, run_underlying Tryz.underlying98, sizeOf, typeInfo, zeroValue, hi0, hzv, hz1, hz2, Builtin.lenOf, hr, h48, h63, Question.forced, hfc, hfo, newRow, grownCap, Value.cells]
  rw [zeroCells_one]
  refine congrArg (fun cs => w.drew.alloc (Obj.cells cs 96)) ?_
  apply Array.ext'
  simp

end Go.Proofs.YtjpakldnejpleaaGreat
