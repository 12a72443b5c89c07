/- Rows of items that a call owns: words. -/
import Derived.Test.YtjpakldnejpleaaGreatSort
import Derived.Laws.CopyOwn
namespace Go.Proofs.YtjpakldnejpleaaGreat
open Go.RowKit

theorem addr0 (g : Nat) : (⟨g, 0, none⟩ : Addr).add 0 = ⟨g, 0, none⟩ := rfl

/-- Block g is a row of so many items' places, whose first ones hold zs. -/
structure RowI (w : World) (g cap : Nat) (zs : List It) : Prop where
  len : zs.length ≤ cap
  capLe : cap ≤ maxLen
  blk : ∃ cur, w.heap[g]? = some (.cells cur 41 (0, 0)) ∧ cur.size = cap * 2 ∧ cur.toList.take (zs.length * 2) = It.cells zs

theorem RowI.of_own {w : World} {base : Nat} {v : Value} {zs : List It} (h : w.ownsRow base 41 2 v zs.length (It.cells zs)) (hv : v ≠ .slice none 0 0) : ∃ g cap, v = .slice (some ⟨g, 0, none⟩) zs.length cap ∧ base ≤ g ∧ RowI w g cap zs := by
  rcases h.2 with ⟨e0, _⟩ | ⟨g, cap, cur, e0, hb, hg, hn, hm, hs, ht⟩
  · exact absurd e0 hv
  · exact ⟨g, cap, e0, hb, hn, hm, cur, hg, hs, ht⟩

theorem RowI.own {w : World} {base g cap : Nat} {zs : List It} (h : RowI w g cap zs) (hb : base ≤ g) : w.ownsRow base 41 2 (.slice (some ⟨g, 0, none⟩) zs.length cap) zs.length (It.cells zs) := by
  obtain ⟨cur, hg, hs, ht⟩ := h.blk
  exact ⟨It.cells_length _, .inr ⟨g, cap, cur, rfl, hb, hg, h.len, h.capLe, hs, ht⟩⟩

theorem RowI.lt {w : World} {g cap : Nat} {zs : List It} (h : RowI w g cap zs) : g < w.heap.size := by
  obtain ⟨cur, hg, _⟩ := h.blk
  exact (Array.getElem?_eq_some_iff.1 hg).1

theorem RowI.frozen {w : World} {g cap : Nat} {zs : List It} (h : RowI w g cap zs) (o : Nat) : w.frozen? ⟨g, o, none⟩ = false := by
  obtain ⟨cur, hg, _⟩ := h.blk
  simp [World.frozen?, hg]

theorem RowI.at_ {w : World} {g cap : Nat} {zs : List It} (h : RowI w g cap zs) {i : Nat} {x : It} (hx : zs[i]? = some x) : w.cell? ⟨g, i * 2, none⟩ = some (.string x.k) ∧ w.cell? ⟨g, i * 2 + 1, none⟩ = some (.string x.v) := by
  obtain ⟨cur, hg, hs, ht⟩ := h.blk
  obtain ⟨h1, h2⟩ := cells_get zs i x hx
  have hi : i < zs.length := by
    rcases Nat.lt_or_ge i zs.length with h' | h'
    · exact h'
    · rw [List.getElem?_eq_none h'] at hx; cases hx
  rw [← ht, List.getElem?_take, if_pos (by omega), Array.getElem?_toList] at h1 h2
  simp [World.cell?, hg, h1, h2]

theorem RowI.slIt {w : World} {g cap : Nat} {zs : List It} (h : RowI w g cap zs) : SlIt w (some ⟨g, 0, none⟩) cap zs :=
  ⟨h.len, h.capLe, fun _ => ⟨g, 0, rfl, h.lt, fun i x hx => by simpa using h.at_ hx⟩⟩

theorem RowI.below {w w' : World} {B g cap : Nat} {zs : List It} (h : RowI w g cap zs) (hb : Below B w w') (hg : g < B) : RowI w' g cap zs := by
  obtain ⟨cur, hg', hs, ht⟩ := h.blk
  exact ⟨h.len, h.capLe, cur, (hb.block g hg).trans hg', hs, ht⟩

theorem It.cells_set (zs : List It) : ∀ (k : Nat) (x : It), k < zs.length → It.cells (zs.set k x) = ((It.cells zs).set (k * 2) (.string x.k)).set (k * 2 + 1) (.string x.v) := by
  induction zs with
  | nil => intro k x h; simp at h
  | cons y ys ih =>
    intro k x h
    cases k with
    | zero => rfl
    | succ k =>
      have e1 : (k + 1) * 2 = k * 2 + 1 + 1 := by omega
      rw [e1]
      have := ih k x (by simpa using h)
      simp only [It.cells, List.set_cons_succ, List.flatMap_cons] at *
      rw [this]
      rfl

theorem heap_setCell_same {w : World} {g o : Nat} {cur : Array Value} {e : TypeId} {fr : Nat × Nat} (h : w.heap[g]? = some (.cells cur e fr)) (u : Value) : (w.setCell ⟨g, o, none⟩ u).heap[g]? = some (.cells (cur.setIfInBounds o u) e fr) := by
  simp [World.setCell, Array.getElem?_modify, h]

theorem RowI.set {w : World} {g cap k : Nat} {zs : List It} (h : RowI w g cap zs) (x : It) (hk : k < zs.length) : RowI ((w.setCell ⟨g, k * 2, none⟩ (.string x.k)).setCell ⟨g, k * 2 + 1, none⟩ (.string x.v)) g cap (zs.set k x) := by
  obtain ⟨cur, hg, hs, ht⟩ := h.blk
  refine ⟨by simpa using h.len, h.capLe, _, heap_setCell_same (heap_setCell_same hg _) _, by simpa using hs, ?_⟩
  rw [It.cells_set zs k x hk, ← ht]
  simp [List.take_set]

theorem setCells_below {w0 w : World} {B g o o' : Nat} (h : Below B w0 w) (hg : B ≤ g) (u u' : Value) : Below B w0 ((w.setCell ⟨g, o, none⟩ u).setCell ⟨g, o', none⟩ u') := (h.setCell (p := ⟨g, o, none⟩) hg u).setCell (p := ⟨g, o', none⟩) hg u'

/-- clear(l[k:]) over a row of items: it goes through; that block alone has turned. -/
theorem run_clear_items (w : World) (ty : TypeId) (g o n c : Nat) (cur : Array Value) (hg : w.heap[g]? = some (.cells cur 41 (0, 0))) (hs : o + n * 2 ≤ cur.size) (A : Option Addr) (hA : 0 < n → A = some ⟨g, o, none⟩) :
    ∃ w', (Builtin.clear_ #[29] ty #[.slice A n c]).run Tryz.prog w = .ok (.tuple #[]) w' ∧ ∀ B w0, B ≤ g → Below B w0 w → Below B w0 w' := by
  by_cases hn : n = 0
  · subst hn
    refine ⟨w, ?_, fun _ _ _ h => h⟩
    cases A <;> simp [Builtin.clear_, run_underlying Tryz.underlying29]
  · obtain ⟨m, rfl⟩ : ∃ m, n = m + 1 := ⟨n - 1, by omega⟩
    rw [hA (by omega)]
    have hl : (Builtin.zeroCells #[Value.string ⟨#[]⟩, .string ⟨#[]⟩] (m + 1)).toList.length = (m + 1) * 2 := by simp [Builtin.zeroCells]
    have h1 : ∀ v ∈ (Builtin.zeroCells #[Value.string ⟨#[]⟩, .string ⟨#[]⟩] (m + 1)).toList, v.oneCell' = true := by
      intro v hv
      simp [Builtin.zeroCells] at hv
      obtain ⟨i, _, hi⟩ := hv
      rcases Nat.mod_two_eq_zero_or_one i with h | h <;> simp [h] at hi <;> subst hi <;> rfl
    have hst := run_storeCells_at Tryz.prog g o 41 _ 0 cur w hg (by rw [hl]; omega) h1
    obtain ⟨R, hR⟩ : ∃ R, (storeCells ⟨g, o, none⟩ (Builtin.zeroCells #[Value.string ⟨#[]⟩, .string ⟨#[]⟩] (m + 1)).toList 0).run Tryz.prog w = .ok () (w.setRow g R) := ⟨_, hst⟩
    refine ⟨w.setRow g R, ?_, fun B w0 hB h => below_setRow h hB _⟩
    simp [Builtin.clear_, run_underlying Tryz.underlying29, Tryz.zeroValue41, Value.cells, hR]

end Go.Proofs.YtjpakldnejpleaaGreat
