/- model: now at a known place, scan. -/
import Derived.Test.YtjpakldnejpleaaGreatMon
namespace Go.Proofs.YtjpakldnejpleaaGreat
open Go.RowKit

/-- Where the last row's leaf lies. -/
def LastAt (w : World) (b g n : Nat) (rows : List (List It)) (lb : Nat) : Prop :=
  ∃ o c cur bs, ModIn w b g o c cur bs n rows ∧ w.cell? ⟨g, o + (rows.length - 1), none⟩ = some (.pointer (some ⟨lb, 0, none⟩)) ∧ LeafAt w lb (lastRow rows)

theorem ModAt.last {w : World} {b g n : Nat} {rows : List (List It)} (h : ModAt w b g n rows) : ∃ lb, LastAt w b g n rows lb := by
  obtain ⟨o, c, cur, bs, h⟩ := h
  obtain ⟨lb, h1, h2, _⟩ := h.last
  exact ⟨lb, o, c, cur, bs, h, h1, h2⟩
theorem LastAt.below {w w' : World} {b g n : Nat} {rows : List (List It)} {lb : Nat} (h : LastAt w b g n rows lb) (hb : Below w.heap.size w w') : LastAt w' b g n rows lb := by
  obtain ⟨o, c, cur, bs, h1, h2, h3⟩ := h
  exact ⟨o, c, cur, bs, h1.below hb, hb.cell_ h2, h3.below hb⟩
theorem LastAt.leaf {w : World} {b g n : Nat} {rows : List (List It)} {lb : Nat} (h : LastAt w b g n rows lb) : LeafAt w lb (lastRow rows) := by
  obtain ⟨_, _, _, _, _, _, h3⟩ := h
  exact h3

set_option maxHeartbeats 2000000 in
theorem model_now_at (b g n lb : Nat) (rows : List (List It)) (w : World) (h : LastAt w b g n rows lb) :
    Calls Tryz.prog 44 #[.pointer (some ⟨b, 0, none⟩)] w fun e w' => e = .returned (.pointer (some ⟨lb, 0, none⟩)) ∧ Below w.heap.size w w' := by
  obtain ⟨o, c, cur, bs, h, hlb, _⟩ := h
  have hr : 0 < rows.length := List.length_pos_iff.2 h.ne
  have hlen := h.len
  have hcap := h.cap
  unfold maxLen at hcap
  have q1 := far_cell hlb
  have q2 := far_cell (show w.cell? ⟨b, 7, none⟩ = some (.slice (some ⟨g, o, none⟩) rows.length c) by rw [Lib.cell_of_heap h.box]; rfl)
  clear hlb
  obtain ⟨k, hk⟩ : ∃ k, k = rows.length - 1 := ⟨_, rfl⟩
  rw [← hk] at q1
  have hk1 : (rows.length : Int) - 1 = (k : Int) := by omega
  have hk2 : (k : Int) < (rows.length : Int) := by omega
  have hwr : IntKind.i64.wrap ((rows.length : Int) - 1) = (k : Int) := by rw [hk1]; exact IntWalk.i64_in _ (by omega)
  have HK := Lib.hid hk
  clear hk h hr
  go_enter Tryz.func44, Tryz.ntmps44
  go_wp2
  refine wp_region_quiet_far mixed_ (by kernel_rfl) ?_
  repeat (go_big_quiet_step ((fail)))
  refine wpQuiet_nil ?_
  intro _ hw'
  obtain ⟨⟨nq, osq⟩, hw''⟩ := hw'
  subst hw''
  go_wp2
  go_ret
  exact ⟨rfl, below_far w nq osq⟩

theorem below_set_next {w0 w1 : World} (o : Nat) (u : Value) (h : Below w0.heap.size w0 w1) : Below w0.heap.size w0 (w1.setCell ⟨w0.heap.size + 1, o, none⟩ u) := h.setCell (p := ⟨w0.heap.size + 1, o, none⟩) (Nat.le_succ _) u

set_option maxHeartbeats 2000000 in
set_option maxRecDepth 100000 in
theorem model_scan_bad (b : Nat) (lo hi : ByteArray) (w : World) (hr : rangeIs lo hi = false) :
    Calls Tryz.prog 43 #[.pointer (some ⟨b, 0, none⟩), .agg #[.string lo, .string hi]] w fun e w' => e = .returned (ansV 1 false ⟨#[]⟩ (.slice none 0 0) 0 0) ∧ Below w.heap.size w w' := by
  have HI := Lib.hid (fun W => key_RangeIs lo hi W)
  rw [hr] at HI
  clear hr
  obtain ⟨w2, hw2⟩ : ∃ w2, (w.alloc (.cells #[.string lo, .string hi] 95)).alloc (.cells #[.int .i64 0, .bool false, .string ⟨#[]⟩, .slice none 0 0, .int .i64 0, .int .i64 0, .int .i64 0, .int .i64 0, .int .i64 0, .int .i64 0, .int .i64 0, .int .i64 0, .int .i64 0] 35) = w2 := ⟨_, rfl⟩
  have hB2 : Below w.heap.size w w2 := by rw [← hw2]; exact (below_alloc_1 w _).alloc (by simp) _
  have hX2 : w2.heap[w.heap.size + 1]? = some (.cells #[.int .i64 0, .bool false, .string ⟨#[]⟩, .slice none 0 0, .int .i64 0, .int .i64 0, .int .i64 0, .int .i64 0, .int .i64 0, .int .i64 0, .int .i64 0, .int .i64 0, .int .i64 0] 35 (0, 0)) := by
    rw [← hw2]
    have := heap_alloc_new (w.alloc (.cells #[.string lo, .string hi] 95)) (.cells #[.int .i64 0, .bool false, .string ⟨#[]⟩, .slice none 0 0, .int .i64 0, .int .i64 0, .int .i64 0, .int .i64 0, .int .i64 0, .int .i64 0, .int .i64 0, .int .i64 0, .int .i64 0] 35)
    simpa using this
  have hxl := (Array.getElem?_eq_some_iff.1 hX2).1
  have hR2 : w2.heap[w.heap.size]? = some (.cells #[.string lo, .string hi] 95 (0, 0)) := by
    rw [← hw2, heap_alloc_old _ _ (by simp)]
    exact heap_alloc_new w _
  have r0 : w2.cell? ⟨w.heap.size, 0, none⟩ = some (.string lo) := by rw [Lib.cell_of_heap hR2]; rfl
  have r1 : w2.cell? ⟨w.heap.size, 1, none⟩ = some (.string hi) := by rw [Lib.cell_of_heap hR2]; rfl
  clear hR2
  have HW := Lib.hid hw2
  have HB2 := Lib.hid hB2
  have HX2 := Lib.hid hX2
  clear hw2 hB2 hX2
  go_enter Tryz.func43, Tryz.ntmps43
  go_wp2_with (first | (rw [HW.out]) | fail)
  refine (HI.out _).mono ?_
  rintro e w3 ⟨rfl, hb3⟩
  have HX3 := Lib.hid ((hb3.block _ hxl).trans HX2.out)
  have HB3 := Lib.hid (HB2.out.trans (hb3.mono HB2.out.size))
  have cc := Lib.cell_of_heap HX3.out
  have ff := Lib.frozen_of_heap HX3.out
  clear HI hb3
  go_wp2
  generalize hW : World.setCell _ _ _ = W
  have HX4 : ∃ cs, W.heap[w.heap.size + 1]? = some (.cells cs 35 (0, 0)) ∧ cs = #[.int .i64 1, .bool false, .string ⟨#[]⟩, .slice none 0 0, .int .i64 0, .int .i64 0, .int .i64 0, .int .i64 0, .int .i64 0, .int .i64 0, .int .i64 0, .int .i64 0, .int .i64 0] := by
    refine ⟨_, ?_, rfl⟩
    rw [← hW]
    simp only [heap_setCell_map, HX3.out, Option.map_some, objSet]
    simp
  have HB4 : Below w.heap.size w W := by
    rw [← hW]
    repeat with_reducible apply below_set_next
    with_reducible exact HB3.out
  clear hW
  obtain ⟨cs, HX4, rfl⟩ := HX4
  have cc := Lib.cell_of_heap HX4
  refine bodyPost_ret ?_ rfl ⟨rfl, HB4⟩
  simp [results, Tryz.results43, go_sem, ansV, cc]

set_option maxHeartbeats 2000000 in
set_option maxRecDepth 100000 in
theorem model_scan_ok (b g n : Nat) (rows : List (List It)) (lo hi : ByteArray) (w : World) (h : ModAt w b g n rows) (hk : RowOk (lastRow rows)) (hr : rangeIs lo hi = true) :
    Calls Tryz.prog 43 #[.pointer (some ⟨b, 0, none⟩), .agg #[.string lo, .string hi]] w fun e w' => (∃ A c, e = .returned (ansV 0 false ⟨#[]⟩ (.slice A ((lastRow rows).filter fun x => rangeHas lo hi x.k).length c) 0 0) ∧ w'.ownsRow w.heap.size 41 2 (.slice A ((lastRow rows).filter fun x => rangeHas lo hi x.k).length c) ((lastRow rows).filter fun x => rangeHas lo hi x.k).length (It.cells ((lastRow rows).filter fun x => rangeHas lo hi x.k))) ∧ Below w.heap.size w w' := by
  have HI := Lib.hid (fun W => key_RangeIs lo hi W)
  rw [hr] at HI
  have hle := hk.len
  have hok := hk.ok
  clear hr hk
  obtain ⟨lb, hL⟩ := h.last
  obtain ⟨fs, hfs⟩ : ∃ fs, fs = (lastRow rows).filter fun x => rangeHas lo hi x.k := ⟨_, rfl⟩
  have hfl : fs.length ≤ (lastRow rows).length := by rw [hfs]; exact List.length_filter_le _ _
  rw [← hfs]
  have HFS := Lib.hid hfs
  clear hfs
  obtain ⟨w2, hw2⟩ : ∃ w2, (w.alloc (.cells #[.string lo, .string hi] 95)).alloc (.cells #[.int .i64 0, .bool false, .string ⟨#[]⟩, .slice none 0 0, .int .i64 0, .int .i64 0, .int .i64 0, .int .i64 0, .int .i64 0, .int .i64 0, .int .i64 0, .int .i64 0, .int .i64 0] 35) = w2 := ⟨_, rfl⟩
  have hB2 : Below w.heap.size w w2 := by rw [← hw2]; exact (below_alloc_1 w _).alloc (by simp) _
  have hX2 : w2.heap[w.heap.size + 1]? = some (.cells #[.int .i64 0, .bool false, .string ⟨#[]⟩, .slice none 0 0, .int .i64 0, .int .i64 0, .int .i64 0, .int .i64 0, .int .i64 0, .int .i64 0, .int .i64 0, .int .i64 0, .int .i64 0] 35 (0, 0)) := by
    rw [← hw2]
    have := heap_alloc_new (w.alloc (.cells #[.string lo, .string hi] 95)) (.cells #[.int .i64 0, .bool false, .string ⟨#[]⟩, .slice none 0 0, .int .i64 0, .int .i64 0, .int .i64 0, .int .i64 0, .int .i64 0, .int .i64 0, .int .i64 0, .int .i64 0, .int .i64 0] 35)
    simpa using this
  have hxl := (Array.getElem?_eq_some_iff.1 hX2).1
  have hR2 : w2.heap[w.heap.size]? = some (.cells #[.string lo, .string hi] 95 (0, 0)) := by
    rw [← hw2, heap_alloc_old _ _ (by simp)]
    exact heap_alloc_new w _
  have r0 : w2.cell? ⟨w.heap.size, 0, none⟩ = some (.string lo) := by rw [Lib.cell_of_heap hR2]; rfl
  have r1 : w2.cell? ⟨w.heap.size, 1, none⟩ = some (.string hi) := by rw [Lib.cell_of_heap hR2]; rfl
  clear hR2
  have hL2 := hL.below hB2
  have HL2 := Lib.hid hL2
  clear hL hL2 h
  have HW := Lib.hid hw2
  have HB2 := Lib.hid hB2
  have HX2 := Lib.hid hX2
  clear hw2 hB2 hX2
  go_enter Tryz.func43, Tryz.ntmps43
  go_wp2_with (first | (rw [HW.out]) | fail)
  refine (HI.out _).mono ?_
  rintro e w3 ⟨rfl, hb3⟩
  have HX3 := Lib.hid ((hb3.block _ hxl).trans HX2.out)
  have HB3 := Lib.hid (HB2.out.trans (hb3.mono HB2.out.size))
  have HL3 := Lib.hid (HL2.out.below hb3)
  have hxl3 := (Array.getElem?_eq_some_iff.1 HX3.out).1
  have q0 := far_cell (hb3.cell_ r0)
  have q1 := far_cell (hb3.cell_ r1)
  have HN := Lib.hid (fun nn os => model_now_at b g n lb rows (far w3 nn os) (HL3.out.below (below_far w3 nn os)))
  clear HI hb3 r0 r1 HL2 HX2 HB2 hxl HW
  go_wp2_with fail
  refine wp_region_far_tail 3 mixed_ (by kernel_rfl) ?_
  simp only [List.take_succ_cons, List.take_zero, List.drop_succ_cons, List.drop_zero]
  repeat (go_big_quiet_step ((go_at_call 44; exact calls_far (HN.out _ _))))
  refine wpQuiet_nil ?_
  intro _ hw'
  obtain ⟨⟨nq, osq⟩, hw''⟩ := hw'
  subst hw''
  have hb5 := below_far w3 nq osq
  have HX4 := Lib.hid ((hb5.block _ hxl3).trans HX3.out)
  have HB4 := Lib.hid (HB3.out.trans (hb5.mono HB3.out.size))
  have HL4 := Lib.hid (HL3.out.below hb5)
  have hxl4 := (Array.getElem?_eq_some_iff.1 HX4.out).1
  generalize far w3 nq osq = w4 at *
  clear hb5 q0 q1 HN HX3 HB3 HL3 hxl3
  have HWi := Lib.hid (leaf_Within lb (lastRow rows) lo hi w4 HL4.out.leaf (by omega) hok)
  rw [← HFS.out] at HWi
  clear hok
  go_wp2_with fail
  refine HWi.out.mono ?_
  rintro e w5 ⟨b5, rfl, hge5, hL5, hb5⟩
  have HX5 := Lib.hid ((hb5.block _ hxl4).trans HX4.out)
  have HB5 := Lib.hid (HB4.out.trans (hb5.mono HB4.out.size))
  have hxl5 := (Array.getElem?_eq_some_iff.1 HX5.out).1
  have HIt := Lib.hid (leaf_Items b5 fs w5 hL5 (by omega))
  clear hge5 hL5 hb5 HWi HX4 HB4 HL4 hxl4
  go_wp2_with fail
  refine HIt.out.mono ?_
  rintro e w6 ⟨⟨v, rfl, ho⟩, hb6⟩
  obtain ⟨A6, c6, rfl, _⟩ := own_slice ho
  have HX6 := Lib.hid ((hb6.block _ hxl5).trans HX5.out)
  have HB6 := Lib.hid (HB5.out.trans (hb6.mono HB5.out.size))
  have HO6 := Lib.hid (own_mono ho HB5.out.size)
  have hno := own_other ho HX6.out (by decide)
  have cc := Lib.cell_of_heap HX6.out
  have ff := Lib.frozen_of_heap HX6.out
  have HNO := Lib.hid hno
  clear HIt hb6 ho HX5 HB5 hno
  go_wp2
  generalize hW : World.setCell _ _ _ = W
  have HX7 : ∃ cs, W.heap[w.heap.size + 1]? = some (.cells cs 35 (0, 0)) ∧ cs = #[.int .i64 0, .bool false, .string ⟨#[]⟩, .slice A6 fs.length c6, .int .i64 0, .int .i64 0, .int .i64 0, .int .i64 0, .int .i64 0, .int .i64 0, .int .i64 0, .int .i64 0, .int .i64 0] := by
    refine ⟨_, ?_, rfl⟩
    rw [← hW]
    simp only [heap_setCell_map, HX6.out, Option.map_some, objSet]
    simp
  have HB7 : Below w.heap.size w W := by
    rw [← hW]
    repeat with_reducible apply below_set_next
    with_reducible exact HB6.out
  have HG7 : w6.grownBy W (some (w.heap.size + 1)) := by
    rw [← hW]
    repeat with_reducible apply grown_setCell
    exact grown_refl _ _
  have HO7 := HO6.out.kept HG7 (.inr (fun e => HNO.out e.symm))
  clear hW
  obtain ⟨cs, HX7, rfl⟩ := HX7
  have cc := Lib.cell_of_heap HX7
  refine bodyPost_ret ?_ rfl ⟨⟨A6, c6, rfl, HO7⟩, HB7⟩
  simp [results, Tryz.results43, go_sem, ansV, cc]

end Go.Proofs.YtjpakldnejpleaaGreat
