/- slices.Equal over items, leaf.Same. -/
import Derived.Test.YtjpakldnejpleaaGreatApp
namespace Go.Proofs.YtjpakldnejpleaaGreat
open Go.RowKit

theorem bytes_toList_inj {a b : ByteArray} : a.toList = b.toList ↔ a = b := by
  constructor
  · intro h
    rw [ByteArray.toList_eq, ByteArray.toList_eq] at h
    exact ByteArray.ext (Array.toList_inj.1 h)
  · rintro rfl; rfl

theorem It.eq_dec (x y : It) : (x.k.toList == y.k.toList && x.v.toList == y.v.toList) = decide (x = y) := by
  cases x; cases y
  rw [Bool.eq_iff_iff]
  simp [bytes_toList_inj]

theorem noGuard_item : Tryz.prog.eqGuardType Tryz.prog.depth 41 = false := by kernel_rfl
theorem equalIn_item (d : Nat) (x y : It) (w : World) : (Op.equalIn (d + 2) 41 (.agg #[.string x.k, .string x.v]) (.agg #[.string y.k, .string y.v])).run Tryz.prog w = .ok (decide (x = y)) w := by
  rw [run_equalIn_struct (P := Tryz.prog) w (d + 1) 41 _ _ (by kernel_rfl) (by kernel_rfl)]
  have hf : (Tryz.prog.fieldsOf 41).toList.map (fun f => (f.name, f.type, f.offset)) = [("Key", 9, 0), ("Val", 9, 1)] := by kernel_rfl
  rw [← It.eq_dec]
  generalize (Tryz.prog.fieldsOf 41).toList = fs at hf
  obtain ⟨f1, t1, rfl, e1, hf⟩ := List.map_eq_cons_iff.1 hf
  obtain ⟨f2, t2, rfl, e2, hf⟩ := List.map_eq_cons_iff.1 hf
  obtain rfl := List.map_eq_nil_iff.1 hf
  simp only [Prod.mk.injEq] at e1 e2
  obtain ⟨h1, h2, h3⟩ := e1
  obtain ⟨h4, h5, h6⟩ := e2
  simp [Op.eqFields, h1, h2, h3, h4, h5, h6, go_sem, run_equalIn_string _ _ _ _ _ Tryz.underlying9]
  split
  · split <;> simp_all
  · simp_all
theorem neq_item (x y : It) (w : World) : (binOp .neq 41 (.agg #[.string x.k, .string x.v]) (.agg #[.string y.k, .string y.v])).run Tryz.prog w = .ok (.bool (!decide (x = y))) w := by
  rw [run_neq_struct, equalIn_item 9998]; rfl
theorem eql_item (x y : It) (w : World) : (binOp .eql 41 (.agg #[.string x.k, .string x.v]) (.agg #[.string y.k, .string y.v])).run Tryz.prog w = .ok (.bool (decide (x = y))) w := by
  rw [run_eql_struct, equalIn_item 9998]; rfl

set_option maxHeartbeats 2000000 in
set_option maxRecDepth 100000 in
theorem sl_Equal_it (A A' : Option Addr) (c c' : Nat) (xs ys : List It) (w : World) (hs : SlIt w A c xs) (hs' : SlIt w A' c' ys) :
    Calls Tryz.prog 59 #[.slice A xs.length c, .slice A' ys.length c'] w fun e w' => e = .returned (.bool (decide (xs = ys))) ∧ Below w.heap.size w w' := by
  obtain ⟨r, hr⟩ : ∃ r, r = decide (xs = ys) := ⟨_, rfl⟩
  rw [← hr]
  have HR := Lib.hid hr
  clear hr
  have hlen := hs.len
  have hcap := hs.cap
  have hlen' := hs'.len
  have hcap' := hs'.cap
  unfold maxLen at hcap hcap'
  by_cases hl : xs.length = ys.length
  · have hl' : ((xs.length : Int) == (ys.length : Int)) = true := by simp [hl]
    have HL := Lib.hid hl
    clear hl
    go_enter Tryz.func59, Tryz.ntmps59
    go_wp2
    go_loopw [5, 13] (fun _ i wr => ∃ k : Nat, k ≤ xs.length ∧ i = .int .i64 k ∧ xs.take k = ys.take k ∧ Below w.heap.size w wr) (fun _ i _ => xs.length - (intOf i).toNat)
    case atStart => exact ⟨0, Nat.zero_le _, rfl, rfl, Below.refl _ _⟩
    case round =>
      obtain ⟨k, hk, rfl, hte, hb⟩ := hrel
      have HT := Lib.hid hte
      have HB := Lib.hid hb
      clear hte
      by_cases hlt : k < xs.length
      · have hlt' : k < ys.length := by rw [← HL.out]; exact hlt
        have hne : xs ≠ [] := by intro h; simp [h] at hlt
        have hne' : ys ≠ [] := by intro h; simp [h] at hlt'
        obtain ⟨b1, o1, rfl, hbl1, hc1⟩ := hs.at_ hne
        obtain ⟨b2, o2, rfl, hbl2, hc2⟩ := hs'.at_ hne'
        obtain ⟨h1, h2⟩ := hc1 k xs[k] (List.getElem?_eq_getElem hlt)
        obtain ⟨h3, h4⟩ := hc2 k ys[k] (List.getElem?_eq_getElem hlt')
        replace h1 := far_cell ((hb.cell (p := ⟨b1, o1 + k * 2, none⟩) hbl1).trans h1)
        replace h2 := far_cell ((hb.cell (p := ⟨b1, o1 + k * 2 + 1, none⟩) hbl1).trans h2)
        replace h3 := far_cell ((hb.cell (p := ⟨b2, o2 + k * 2, none⟩) hbl2).trans h3)
        replace h4 := far_cell ((hb.cell (p := ⟨b2, o2 + k * 2 + 1, none⟩) hbl2).trans h4)
        have hkl : (k : Int) < (xs.length : Int) := by omega
        have hkl' : (k : Int) < (ys.length : Int) := by omega
        have HTT := Lib.hid (show xs.take (k + 1) = ys.take (k + 1) ↔ xs[k] = ys[k] by
          rw [List.take_succ_eq_append_getElem hlt, List.take_succ_eq_append_getElem hlt', HT.out, List.append_cancel_left_eq]
          simp)
        have HNE := Lib.hid (show xs = ys → xs[k] = ys[k] by rintro rfl; rfl)
        clear hb hc1 hc2
        generalize xs[k] = x at *
        generalize ys[k] = y at *
        have hgu := noGuard_item
        have hnq := neq_item x y
        obtain ⟨d, hd⟩ : ∃ d, d = decide (x = y) := ⟨_, rfl⟩
        rw [← hd] at hnq
        have HD := Lib.hid hd
        clear hd
        go_wp2
        refine wp_region_quiet_far mixed_ (by kernel_rfl) ?_
        repeat (go_big_quiet_step ((fail)))
        refine wpQuiet_nil ?_
        intro _ hw'
        obtain ⟨⟨nq, osq⟩, hw''⟩ := hw'
        subst hw''
        have hb2 := below_far wr nq osq
        have HB2 := Lib.hid (HB.out.trans (hb2.mono HB.out.size))
        generalize far wr nq osq = w2 at *
        clear hb2 h1 h2 h3 h4 hnq
        cases d with
        | true =>
          have HXY := Lib.hid (of_decide_eq_true HD.out.symm)
          clear HD
          go_wp2
          go_roundw
          case rel => exact ⟨k + 1, hlt, by go_num, HTT.out.2 HXY.out, HB2.out⟩
          case measure => simp [intOf]; omega
        | false =>
          have HXY := Lib.hid (of_decide_eq_false HD.out.symm)
          clear HD
          go_wp2
          go_ret
          refine ⟨?_, HB2.out⟩
          rw [HR.out, decide_eq_false (fun e => HXY.out (HNE.out e))]
          rfl
      · have hkl : ¬ (k : Int) < (xs.length : Int) := by omega
        have hxy : xs = ys := by
          have h1 : xs.take k = xs := List.take_of_length_le (by omega)
          have h2 : ys.take k = ys := List.take_of_length_le (by rw [← HL.out]; omega)
          rw [← h1, ← h2]; exact HT.out
        have HXY := Lib.hid hxy
        clear hxy hb
        go_wp2
        go_ret
        refine ⟨?_, HB.out⟩
        rw [HR.out, decide_eq_true HXY.out]
        rfl
  · have hl' : ((xs.length : Int) == (ys.length : Int)) = false := by simp; omega
    have HL := Lib.hid hl
    clear hl
    go_enter Tryz.func59, Tryz.ntmps59
    go_wp2
    go_ret
    refine ⟨?_, Below.refl _ _⟩
    rw [HR.out, decide_eq_false (fun e => HL.out (by rw [e]))]
    rfl

set_option maxHeartbeats 1000000 in
theorem leaf_Same (b b' : Nat) (xs ys : List It) (w : World) (h : LeafAt w b xs) (h' : LeafAt w b' ys) :
    Calls Tryz.prog 49 #[.pointer (some ⟨b, 0, none⟩), .pointer (some ⟨b', 0, none⟩)] w fun e w' => e = .returned (.bool (decide (xs = ys))) ∧ Below w.heap.size w w' := by
  obtain ⟨A, c, hb, hs⟩ := h
  obtain ⟨A', c', hb', hs'⟩ := h'
  have q1 := far_cell (show w.cell? ⟨b, 0, none⟩ = some (.slice A xs.length c) by rw [Lib.cell_of_heap hb]; rfl)
  have q2 := far_cell (show w.cell? ⟨b', 0, none⟩ = some (.slice A' ys.length c') by rw [Lib.cell_of_heap hb']; rfl)
  have HE := Lib.hid (fun n os => sl_Equal_it A A' c c' xs ys (far w n os) (hs.below (below_far w n os)) (hs'.below (below_far w n os)))
  clear hb hb' hs hs'
  go_enter Tryz.func49, Tryz.ntmps49
  go_wp2
  refine wp_region_quiet_far mixed_ (by kernel_rfl) ?_
  repeat (go_big_quiet_step ((go_at_call 59; exact calls_far (HE.out _ _))))
  refine wpQuiet_nil ?_
  intro _ hw'
  obtain ⟨⟨nq, osq⟩, hw''⟩ := hw'
  subst hw''
  go_wp2
  go_ret
  exact ⟨rfl, below_far w nq osq⟩

end Go.Proofs.YtjpakldnejpleaaGreat
