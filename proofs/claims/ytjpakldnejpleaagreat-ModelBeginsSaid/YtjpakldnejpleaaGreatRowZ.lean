/- A row of items whose places behind are empty; appends to it while a model is alive. -/
import Derived.Test.YtjpakldnejpleaaGreatBegP
import Derived.Deep.AppendLies
namespace Go.Proofs.YtjpakldnejpleaaGreat
open Go.RowKit

def emp : Value := .string ⟨#[]⟩

structure RowZ (w : World) (g cap : Nat) (zs : List It) : Prop where
  len : zs.length ≤ cap
  capLe : cap ≤ maxLen
  blk : w.heap[g]? = some (.cells (It.cells zs ++ List.replicate ((cap - zs.length) * 2) emp).toArray 41 (0, 0))

theorem RowZ.lt {w : World} {g cap : Nat} {zs : List It} (h : RowZ w g cap zs) : g < w.heap.size := (Array.getElem?_eq_some_iff.1 h.blk).1

theorem RowZ.own {w : World} {g cap base : Nat} {zs : List It} (h : RowZ w g cap zs) (hb : base ≤ g) : w.ownsRow base 41 2 (.slice (some ⟨g, 0, none⟩) zs.length cap) zs.length (It.cells zs) := by
  have hl := h.len
  refine ⟨It.cells_length _, .inr ⟨g, cap, _, rfl, hb, h.blk, h.len, h.capLe, ?_, ?_⟩⟩
  · simp [It.cells_length]; omega
  · rw [List.toList_toArray, List.take_left' (It.cells_length _)]

theorem RowZ.frm {w w' : World} {g cap : Nat} {zs : List It} (h : RowZ w g cap zs) (hf : Frm w w') : RowZ w' g cap zs := ⟨h.len, h.capLe, hf.blk h.blk (by decide) (by decide)⟩
theorem RowZ.below {w w' : World} {g cap : Nat} {zs : List It} (h : RowZ w g cap zs) (hb : Below w.heap.size w w') : RowZ w' g cap zs := ⟨h.len, h.capLe, (hb.block _ h.lt).trans h.blk⟩

theorem zeroCells_two (u v : Value) (k : Nat) (h : u = v) : Builtin.zeroCells #[u, v] k = (List.replicate (k * 2) u).toArray := by
  subst h
  apply Array.ext
  · simp [Builtin.zeroCells]
  · intro i h1 h2
    simp [Builtin.zeroCells]
    rcases Nat.mod_two_eq_zero_or_one i with h | h <;> simp [h]

/-- One item more: in place, or in a new row. -/
theorem rowZ_append (w : World) (ty : TypeId) (g cap vb : Nat) (zs : List It) (x : It) (h : RowZ w g cap zs) (hv : w.heap[vb]? = some (.cells #[.string x.k, .string x.v] 41 (0, 0))) (hb : zs.length + 1 ≤ 1000000) :
    ∃ g' c' W, (Builtin.append_ #[29, 29] ty #[.slice (some ⟨g, 0, none⟩) zs.length cap, .slice (some ⟨vb, 0, none⟩) 1 1]).run Tryz.prog w = .ok (.slice (some ⟨g', 0, none⟩) (zs.length + 1) c') W ∧ RowZ W g' c' (zs ++ [x]) ∧
      ((g' = w.heap.size ∧ Below w.heap.size w W) ∨ (g' = g ∧ Off (fun k => k = g) w W ∧ ∀ p, p < zs.length * 2 → W.cell? ⟨g, p, none⟩ = w.cell? ⟨g, p, none⟩)) := by
  obtain ⟨i0, hi0, hz0, hz1, hz2⟩ := info_parts item_info
  have hc := Lib.cell_of_heap hv
  have hnews : ∀ j v, [Value.string x.k, Value.string x.v][j]? = some v → w.cell? ((⟨vb, 0, none⟩ : Addr).add j) = some v := by
    intro j v hj
    rw [addr_add]
    match j, hj with
    | 0, hj => cases hj; rw [hc]; rfl
    | 1, hj => cases hj; rw [hc]; rfl
  have hlen := h.len
  by_cases hroom : zs.length + 1 ≤ cap
  · have hfc := run_firstCells_some (P := Tryz.prog) w 2 1 ⟨vb, 0, none⟩ 1 1 [.string x.k, .string x.v] rfl hnews
    have hst := run_storeCells_at Tryz.prog g (zs.length * 2) 41 [.string x.k, .string x.v] 0 _ w h.blk (by simp [It.cells_length]; omega) (by intro v hv; simp at hv; rcases hv with rfl | rfl <;> rfl)
    have hcur : (It.cells zs ++ List.replicate ((cap - zs.length) * 2) emp).toArray.toList.take (zs.length * 2 + 0) ++ [Value.string x.k, Value.string x.v] ++ (It.cells zs ++ List.replicate ((cap - zs.length) * 2) emp).toArray.toList.drop (zs.length * 2 + 0 + [Value.string x.k, Value.string x.v].length) = It.cells (zs ++ [x]) ++ List.replicate ((cap - (zs ++ [x]).length) * 2) emp := by
      have hl := It.cells_length zs
      have h1 : (It.cells zs ++ List.replicate ((cap - zs.length) * 2) emp).take (zs.length * 2) = It.cells zs := List.take_left' hl
      have h2 : (It.cells zs ++ List.replicate ((cap - zs.length) * 2) emp).drop (zs.length * 2 + 2) = List.replicate ((cap - (zs ++ [x]).length) * 2) emp := by
        rw [← hl, ← List.drop_drop, List.drop_left, List.drop_replicate]
        rw [List.length_append, List.length_singleton, show (cap - zs.length) * 2 - 2 = (cap - (zs.length + 1)) * 2 by omega]
      show (It.cells zs ++ List.replicate ((cap - zs.length) * 2) emp).take (zs.length * 2) ++ _ ++ (It.cells zs ++ List.replicate ((cap - zs.length) * 2) emp).drop (zs.length * 2 + 2) = _
      rw [h1, h2, It.cells_append]
      rfl
    rw [hcur] at hst
    refine ⟨g, cap, w.setRow g (It.cells (zs ++ [x]) ++ List.replicate ((cap - (zs ++ [x]).length) * 2) emp).toArray, ?_, ⟨by simpa using hroom, h.capLe, setRow_heap _ _ _ _ _ _ h.blk⟩, .inr ⟨rfl, off_setRow w g _, fun p hp => ?_⟩⟩
    · simp [Builtin.append_, run_underlying Tryz.underlying29, sizeOf, typeInfo, hi0, hz1, Builtin.lenOf, hroom, hfc, addr_add, hst]
    · rw [Lib.cell_of_heap h.blk, Lib.cell_of_heap (setRow_heap w g _ _ _ _ h.blk)]
      simp only [List.getElem?_toArray]
      rw [It.cells_append, List.append_assoc, List.getElem?_append_left (by rw [It.cells_length]; exact hp), List.getElem?_append_left (by rw [It.cells_length]; exact hp)]
  · have hcs : cap = zs.length := by omega
    have hgrow := run_append_grow (P := Tryz.prog) w 29 ty 41 i0 (.agg #[.string ⟨#[]⟩, .string ⟨#[]⟩]) Tryz.underlying29 hi0 hz0 ⟨g, 0, none⟩ zs.length cap (It.cells zs) (by rw [hz1]; exact It.cells_length _)
      (fun j v hj => by
        have hjl : j < (It.cells zs).length := (List.getElem?_eq_some_iff.1 hj).1
        rw [addr_add, Nat.zero_add, Lib.cell_of_heap h.blk]
        simp only [List.getElem?_toArray]
        rw [List.getElem?_append_left hjl]
        exact hj) ⟨vb, 0, none⟩ 1 1 [.string x.k, .string x.v] (by rw [hz1]; rfl) hnews (by omega) (by omega) (by
        have hns := nextslicecap_le (need := zs.length + 1) (old := cap) (by omega)
        rw [hz2]
        omega)
    have hgc := grownCap_ge w (zs.length + 1) cap 41
    have hgm := grownCap_le_maxLen w (zs.length + 1) cap 41 (by unfold maxLen; omega)
    have he : (It.cells zs).toArray ++ [Value.string x.k, Value.string x.v].toArray ++ Builtin.zeroCells (Value.cells (.agg #[.string ⟨#[]⟩, .string ⟨#[]⟩])) (grownCap w (zs.length + 1) cap 41 - (zs.length + 1)) = (It.cells (zs ++ [x]) ++ List.replicate ((grownCap w (zs.length + 1) cap 41 - (zs ++ [x]).length) * 2) emp).toArray := by
      have : Value.cells (.agg #[.string ⟨#[]⟩, .string ⟨#[]⟩]) = #[emp, emp] := rfl
      rw [this, zeroCells_two emp emp _ rfl, It.cells_append]
      simp [It.cells]
    rw [he] at hgrow
    exact ⟨w.heap.size, grownCap w (zs.length + 1) cap 41, _, hgrow, ⟨by simpa using hgc, hgm, heap_alloc_new w.drew _⟩, .inl ⟨rfl, ⟨rfl, rfl, rfl, by simp, fun j hj => heap_alloc_old w.drew _ hj⟩⟩⟩

/-- A model stays where a place behind a row is filled. -/
theorem MOwn.spare {w0 w W : World} {b n g cap : Nat} {rows : List (List It)} {zs : List It} (h : MOwn w0 w b n rows) (hk : RowsOk n rows) (hz : RowZ w g cap zs) (hv : ∀ x ∈ zs, x.v = ⟨#[]⟩) (hW : Off (fun k => k = g) w W)
    (hc : ∀ p, p < zs.length * 2 → W.cell? ⟨g, p, none⟩ = w.cell? ⟨g, p, none⟩) (hg : w0.heap.size ≤ g) : MOwn w0 W b n rows := by
  obtain ⟨gg, h1, h2, ⟨o, c, cur, bs, h3⟩, h4⟩ := h
  refine ⟨gg, h1, h2, ⟨o, c, cur, bs, ?_⟩, Off.below h4 hW h4.size (fun k hk => by omega)⟩
  have hb : b ≠ g := by
    rintro rfl
    have := h3.box
    rw [hz.blk] at this
    injection this with this
    injection this with _ e
    exact absurd e (by decide)
  have hgg : gg ≠ g := by
    rintro rfl
    have := h3.row
    rw [hz.blk] at this
    injection this with this
    injection this with _ e
    exact absurd e (by decide)
  refine { h3 with box := (hW.block b (Array.getElem?_eq_some_iff.1 h3.box).1 hb).trans h3.box, row := (hW.block gg (Array.getElem?_eq_some_iff.1 h3.row).1 hgg).trans h3.row, leaf := fun i l xs hi hx => ?_ }
  have hok := (hk.all xs (List.mem_of_getElem? hx)).2.1
  obtain ⟨A, c', hbx, hs⟩ := h3.leaf i l xs hi hx
  have hl : l ≠ g := by
    rintro rfl
    rw [hz.blk] at hbx
    injection hbx with this
    injection this with _ e
    exact absurd e (by decide)
  refine ⟨A, c', (hW.block l (Array.getElem?_eq_some_iff.1 hbx).1 hl).trans hbx, hs.len, hs.cap, fun hn => ?_⟩
  obtain ⟨bb, q, e, hlt, hcs⟩ := hs.at_ hn
  refine ⟨bb, q, e, Nat.lt_of_lt_of_le hlt hW.size, fun i x hx => ?_⟩
  obtain ⟨k1, k2⟩ := hcs i x hx
  by_cases hbg : bb = g
  · subst hbg
    have hxk := hok x (List.mem_of_getElem? hx)
    have hks : 1 ≤ x.k.size := by
      simp only [It.ok, keyIs, Bool.and_eq_true, decide_eq_true_eq] at hxk
      exact hxk.1.1
    have hne : ∀ y : ByteArray, y = ⟨#[]⟩ → y ≠ x.k := by
      intro y e1 e2
      rw [← e2, e1] at hks
      exact absurd hks (by decide)
    have hp : ∃ t, q + i * 2 = t * 2 ∧ t < zs.length := by
      rw [Lib.cell_of_heap hz.blk] at k1
      simp only [List.getElem?_toArray] at k1
      rcases Nat.lt_or_ge (q + i * 2) (It.cells zs).length with hlt | hge
      · rw [List.getElem?_append_left hlt] at k1
        obtain ⟨t, y, hy, ⟨e1, e2⟩ | ⟨e1, e2⟩⟩ := cells_get_inv zs _ _ k1
        · exact ⟨t, e1, (List.getElem?_eq_some_iff.1 hy).1⟩
        · injection e2 with e2
          exact absurd e2.symm (hne _ (hv y (List.mem_of_getElem? hy)))
      · rw [List.getElem?_append_right hge, List.getElem?_replicate] at k1
        split at k1
        · injection k1 with k1
          unfold emp at k1
          injection k1 with k1
          exact absurd k1 (hne _ rfl)
        · cases k1
    obtain ⟨t, ht, htl⟩ := hp
    exact ⟨(hc _ (by omega)).trans k1, (hc _ (by omega)).trans k2⟩
  · have hbk := hW.block bb hlt hbg
    exact ⟨(World.cell?_of_block (w := w) (a := ⟨bb, q + i * 2, none⟩) hbk).trans k1, (World.cell?_of_block (w := w) (a := ⟨bb, q + i * 2 + 1, none⟩) hbk).trans k2⟩

end Go.Proofs.YtjpakldnejpleaaGreat
