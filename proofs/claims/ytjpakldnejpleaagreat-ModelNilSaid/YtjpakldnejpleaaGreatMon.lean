/- model: Items, Weight, Late, get, scan. -/
import Derived.Test.YtjpakldnejpleaaGreatMom
namespace Go.Proofs.YtjpakldnejpleaaGreat
open Go.RowKit

/-- What a row of a model is: rising, of items that can be, not too many. -/
structure RowOk (xs : List It) : Prop where
  up : It.up xs
  ok : ∀ x ∈ xs, x.ok = true
  len : xs.length ≤ 1000000

set_option maxHeartbeats 1000000 in
theorem model_Items (b g n : Nat) (rows : List (List It)) (w : World) (h : ModAt w b g n rows) (hk : RowOk (lastRow rows)) :
    Calls Tryz.prog 13 #[.pointer (some ⟨b, 0, none⟩)] w fun e w' => (∃ v, e = .returned v ∧ w'.ownsRow w.heap.size 41 2 v (lastRow rows).length (It.cells (lastRow rows))) ∧ Below w.heap.size w w' := by
  have HN := Lib.hid (model_now b g n rows w h)
  have hl := hk.len
  go_enter Tryz.func13, Tryz.ntmps13
  go_wp2_with fail
  refine HN.out.mono ?_
  rintro e w1 ⟨⟨lb, rfl, hL⟩, hb1⟩
  have HI := Lib.hid (leaf_Items lb _ w1 (hL.below hb1) (by omega))
  have HB1 := Lib.hid hb1
  clear HN hL hb1
  go_wp2_with fail
  refine HI.out.mono ?_
  rintro e w2 ⟨⟨v, rfl, ho⟩, hb2⟩
  have HO := Lib.hid (own_mono ho HB1.out.size)
  have HB2 := Lib.hid (HB1.out.trans (hb2.mono HB1.out.size))
  clear HI ho hb2
  go_wp2
  go_ret
  exact ⟨⟨v, rfl, HO.out⟩, HB2.out⟩

set_option maxHeartbeats 1000000 in
theorem model_Weight (b g n : Nat) (rows : List (List It)) (w : World) (h : ModAt w b g n rows) :
    Calls Tryz.prog 15 #[.pointer (some ⟨b, 0, none⟩)] w fun e w' => e = .returned (.int .i64 (wt (lastRow rows))) ∧ Below w.heap.size w w' := by
  have HN := Lib.hid (model_now b g n rows w h)
  go_enter Tryz.func15, Tryz.ntmps15
  go_wp2_with fail
  refine HN.out.mono ?_
  rintro e w1 ⟨⟨lb, rfl, hL⟩, hb1⟩
  have HI := Lib.hid (leaf_Weight lb _ w1 (hL.below hb1))
  have HB1 := Lib.hid hb1
  clear HN hL hb1
  go_wp2_with fail
  refine HI.out.mono ?_
  rintro e w2 ⟨rfl, rfl⟩
  clear HI
  go_wp2
  go_ret
  exact ⟨rfl, HB1.out⟩

set_option maxHeartbeats 1000000 in
theorem model_Late (b g n : Nat) (rows : List (List It)) (w : World) (h : ModAt w b g n rows) :
    Calls Tryz.prog 11 #[.pointer (some ⟨b, 0, none⟩)] w fun e w' => e = .returned (.int .i64 ((rows.length - 1 : Nat) : Int)) ∧ w = w' := by
  obtain ⟨o, c, cur, bs, h⟩ := h
  have hr : 0 < rows.length := List.length_pos_iff.2 h.ne
  have hlen := h.len
  have hcap := h.cap
  unfold maxLen at hcap
  have c0 : w.cell? ⟨b, 7, none⟩ = some (.slice (some ⟨g, o, none⟩) rows.length c) := by rw [Lib.cell_of_heap h.box]; rfl
  have hk1 : (rows.length : Int) - 1 = ((rows.length - 1 : Nat) : Int) := by omega
  have HK := Lib.hid hk1
  clear hk1 h
  go_enter Tryz.func11, Tryz.ntmps11
  go_wp2
  go_ret
  exact ⟨by rw [← HK.out]; rfl, rfl⟩

def objSet (o : Nat) (u : Value) : Obj → Obj
  | .cells cs t f => .cells (cs.setIfInBounds o u) t f
  | x => x
theorem heap_setCell_map (w : World) (g o : Nat) (u : Value) : (w.setCell ⟨g, o, none⟩ u).heap[g]? = (w.heap[g]?).map (objSet o u) := by
  simp only [World.setCell, Array.getElem?_modify, if_pos rfl]
  cases w.heap[g]? with
  | none => rfl
  | some x => cases x <;> rfl
theorem below_set_self {w0 w1 : World} (o : Nat) (u : Value) (h : Below w0.heap.size w0 w1) : Below w0.heap.size w0 (w1.setCell ⟨w0.heap.size, o, none⟩ u) := h.setCell (p := ⟨w0.heap.size, o, none⟩) (Nat.le_refl _) u
theorem heap_setCell_any {w : World} {g o : Nat} {cur : Array Value} {e : TypeId} {fr : Nat × Nat} (h : w.heap[g]? = some (.cells cur e fr)) (u : Value) : (w.setCell ⟨g, o, none⟩ u).heap[g]? = some (.cells (cur.setIfInBounds o u) e fr) := heap_setCell_same h u

/-- An answer: error, has, value, items (a slice), stats. -/
def ansV (err : Int) (has : Bool) (val : ByteArray) (items : Value) (si sw : Int) : Value :=
  .agg #[.int .i64 err, .bool has, .string val, items, .int .i64 si, .int .i64 sw, .int .i64 0, .int .i64 0, .int .i64 0, .int .i64 0, .int .i64 0, .int .i64 0, .int .i64 0]

set_option maxHeartbeats 1000000 in
theorem model_get (b g n : Nat) (rows : List (List It)) (k : ByteArray) (w : World) (h : ModAt w b g n rows) (hk : RowOk (lastRow rows)) :
    Calls Tryz.prog 42 #[.pointer (some ⟨b, 0, none⟩), .string k] w fun e w' => e = .returned (if keyIs k then ansV 0 (It.has (lastRow rows) k) (It.was (lastRow rows) k) (.slice none 0 0) 0 0 else ansV 1 false ⟨#[]⟩ (.slice none 0 0) 0 0) ∧ Below w.heap.size w w' := by
  obtain ⟨w1, hw1⟩ : ∃ w1, w.alloc (.cells #[.int .i64 0, .bool false, .string ⟨#[]⟩, .slice none 0 0, .int .i64 0, .int .i64 0, .int .i64 0, .int .i64 0, .int .i64 0, .int .i64 0, .int .i64 0, .int .i64 0, .int .i64 0] 35) = w1 := ⟨_, rfl⟩
  have hB1 : Below w.heap.size w w1 := by rw [← hw1]; exact below_alloc1 _ _
  have hX1 : w1.heap[w.heap.size]? = some (.cells #[.int .i64 0, .bool false, .string ⟨#[]⟩, .slice none 0 0, .int .i64 0, .int .i64 0, .int .i64 0, .int .i64 0, .int .i64 0, .int .i64 0, .int .i64 0, .int .i64 0, .int .i64 0] 35 (0, 0)) := by rw [← hw1]; exact heap_alloc_new _ _
  have h1 := h.below hB1
  have hxl := (Array.getElem?_eq_some_iff.1 hX1).1
  have HW := Lib.hid hw1
  have HB1 := Lib.hid hB1
  have HX1 := Lib.hid hX1
  have hle := hk.len
  clear hw1 hB1 hX1
  cases hki : keyIs k with
  | false =>
    rw [if_neg (by decide)]
    have HI := Lib.hid (key_Is k)
    rw [hki] at HI
    clear hki h1 hxl HX1 HW
    go_enter Tryz.func42, Tryz.ntmps42
    go_wp2_with fail
    refine (HI.out _).mono ?_
    rintro e w2 ⟨rfl, rfl⟩
    clear HI
    go_wp2
    refine bodyPost_ret ?_ rfl ⟨rfl, below_alloc_1 w _⟩
    simp [results, Tryz.results42, go_sem, ansV]
  | true =>
    rw [if_pos rfl]
    have HI := Lib.hid (key_Is k)
    rw [hki] at HI
    have HN := Lib.hid (model_now b g n rows w1 h1)
    obtain ⟨rh, hrh⟩ : ∃ rh, rh = It.has (lastRow rows) k := ⟨_, rfl⟩
    obtain ⟨rv, hrv⟩ : ∃ rv, rv = It.was (lastRow rows) k := ⟨_, rfl⟩
    rw [← hrh, ← hrv]
    have HRH := Lib.hid hrh
    have HRV := Lib.hid hrv
    clear hki h1 hrh hrv
    go_enter Tryz.func42, Tryz.ntmps42
    go_wp2_with (first | (rw [HW.out]) | fail)
    refine (HI.out _).mono ?_
    rintro e w2 ⟨rfl, rfl⟩
    clear HI
    go_wp2_with fail
    refine HN.out.mono ?_
    rintro e w2 ⟨⟨lb, rfl, hL⟩, hb2⟩
    have hF := leaf_Find lb _ k w2 (hL.below hb2) (by omega) hk.up
    rw [← HRH.out, ← HRV.out] at hF
    have HF := Lib.hid hF
    have HX2 := Lib.hid ((hb2.block _ hxl).trans HX1.out)
    have hxl2 := (Array.getElem?_eq_some_iff.1 HX2.out).1
    have HB2 := Lib.hid (HB1.out.trans (hb2.mono HB1.out.size))
    clear HN hF hL hb2
    go_wp2_with fail
    refine HF.out.mono ?_
    rintro e w3 ⟨rfl, hb3⟩
    have HX3 := Lib.hid ((hb3.block _ hxl2).trans HX2.out)
    have HB3 := Lib.hid (HB2.out.trans (hb3.mono HB2.out.size))
    have cc := Lib.cell_of_heap HX3.out
    have ff := Lib.frozen_of_heap HX3.out
    clear HF hb3
    go_wp2
    generalize hW : World.setCell _ _ _ = W
    have HX4 : ∃ cs, W.heap[w.heap.size]? = some (.cells cs 35 (0, 0)) ∧ cs = #[.int .i64 0, .bool rh, .string rv, .slice none 0 0, .int .i64 0, .int .i64 0, .int .i64 0, .int .i64 0, .int .i64 0, .int .i64 0, .int .i64 0, .int .i64 0, .int .i64 0] := by
      refine ⟨_, ?_, rfl⟩
      rw [← hW]
      simp only [heap_setCell_map, HX3.out, Option.map_some, objSet]
      simp
    have HB4 : Below w.heap.size w W := by
      rw [← hW]
      repeat with_reducible apply below_set_self
      with_reducible exact HB3.out
    clear hW
    obtain ⟨cs, HX4, rfl⟩ := HX4
    have cc := Lib.cell_of_heap HX4
    refine bodyPost_ret ?_ rfl ⟨rfl, HB4⟩
    simp [results, Tryz.results42, go_sem, ansV, cc]

end Go.Proofs.YtjpakldnejpleaaGreat
