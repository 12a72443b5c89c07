/- slices.Delete of one place, and slices.Insert in one contract, on a row of items that the call owns. -/
import Derived.Test.YtjpakldnejpleaaGreatIns
namespace Go.Proofs.YtjpakldnejpleaaGreat
open Go.RowKit

/-- clear(l[k:]) over a row of items, of which there are some: exact. -/
theorem run_clear_some (w : World) (g o m : Nat) (cur : Array Value) (hg : w.heap[g]? = some (.cells cur 41 (0, 0))) (hs : o + (m + 1) * 2 ≤ cur.size) :
    ∃ R, (∀ ty c, (Builtin.clear_ #[29] ty #[.slice (some ⟨g, o, none⟩) (m + 1) c]).run Tryz.prog w = .ok (.tuple #[]) (w.setRow g R)) ∧ R.size = cur.size ∧ R.toList.take o = cur.toList.take o := by
  have hl : (Builtin.zeroCells #[Value.string ⟨#[]⟩, .string ⟨#[]⟩] (m + 1)).toList.length = (m + 1) * 2 := by simp [Builtin.zeroCells]
  have h1 : ∀ v ∈ (Builtin.zeroCells #[Value.string ⟨#[]⟩, .string ⟨#[]⟩] (m + 1)).toList, v.oneCell' = true := by
    intro v hv
    simp [Builtin.zeroCells] at hv
    obtain ⟨i, _, hi⟩ := hv
    rcases Nat.mod_two_eq_zero_or_one i with h | h <;> simp [h] at hi <;> subst hi <;> rfl
  have hst := run_storeCells_at Tryz.prog g o 41 _ 0 cur w hg (by rw [hl]; omega) h1
  obtain ⟨R, hR, h2, h3⟩ : ∃ R, (storeCells ⟨g, o, none⟩ (Builtin.zeroCells #[Value.string ⟨#[]⟩, .string ⟨#[]⟩] (m + 1)).toList 0).run Tryz.prog w = .ok () (w.setRow g R) ∧ R.size = cur.size ∧ R.toList.take o = cur.toList.take o :=
    ⟨_, hst, by simp [Builtin.zeroCells]; omega, by simp [Nat.min_eq_left (show o ≤ cur.size by omega)]⟩
  refine ⟨R, fun ty c => ?_, h2, h3⟩
  simp [Builtin.clear_, run_underlying Tryz.underlying29, Tryz.zeroValue41, Value.cells, hR]

theorem RowI.take {w : World} {g cap : Nat} {zs : List It} (h : RowI w g cap zs) {i : Nat} (hi : i ≤ zs.length) : RowI w g cap (zs.take i) := by
  obtain ⟨cur, h1, h2, h3⟩ := h.blk
  have hl := h.len
  refine ⟨by rw [List.length_take]; omega, h.capLe, cur, h1, h2, ?_⟩
  rw [List.length_take, Nat.min_eq_left hi]
  exact RowI.cells_take h3 hi

set_option maxHeartbeats 2000000 in
set_option maxRecDepth 100000 in
theorem sl_Delete_it (g cap i : Nat) (xs : List It) (w : World) (h : RowI w g cap xs) (hi : i < xs.length) :
    Calls Tryz.prog 117 #[.slice (some ⟨g, 0, none⟩) xs.length cap, .int .i64 i, .int .i64 ((i + 1 : Nat) : Int)] w fun e w' =>
      e = .returned (.slice (some ⟨g, 0, none⟩) (xs.length - 1) cap) ∧ RowI w' g cap (xs.eraseIdx i) ∧ w.grownBy w' (some g) := by
  obtain ⟨i0, hi0, hz0, hz1, hz2⟩ := info_parts item_info
  have hcap := h.capLe
  have hlc := h.len
  unfold maxLen at hcap
  have HH := Lib.hid h
  clear h
  have hni : ¬ (i : Int) = (i : Int) + 1 := by omega
  have hb1 : (i : Int) + 1 ≤ (xs.length : Int) := by omega
  have hb2 : (xs.length : Int) ≤ (cap : Int) := by omega
  have hb3 : (i : Int) ≤ (cap : Int) := by omega
  have hb4 : (i : Int) ≤ (i : Int) + 1 := by omega
  go_enter Tryz.func117, Tryz.ntmps117
  go_wp2_with fail
  refine wp_region_far_tail 6 mixed_ (by kernel_rfl) ?_
  simp only [List.take_succ_cons, List.take_zero, List.drop_succ_cons, List.drop_zero]
  repeat (go_big_quiet_step ((fail)))
  refine wpQuiet_nil ?_
  intro _ hw'
  obtain ⟨⟨nq, osq⟩, hw''⟩ := hw'
  subst hw''
  have hb5 := below_far w nq osq
  have HH2 := Lib.hid (HH.out.below hb5 HH.out.lt)
  have HB2 := Lib.hid hb5
  generalize far w nq osq = w2 at *
  clear hb5
  refine wpList_append_fits_any _ rfl _ _ 29 rfl 0 41 i0 2 Tryz.underlying29 hi0 hz1 g i cap (It.cells (xs.take i)) rfl ?_ _ _ _ (It.cells (xs.drop (i + 1))) rfl ?_ ?_ ?_ ?_ ?_ ?_
  · have := (HH2.out.take (Nat.le_of_lt hi)).own (Nat.zero_le g)
    rw [List.length_take, Nat.min_eq_left (Nat.le_of_lt hi)] at this
    exact this
  · rw [It.cells_length, List.length_drop]
  · intro e; split at e <;> cases e
  · intro ad e j u hu
    split at e
    · have : xs.drop (i + 1) = [] := List.drop_eq_nil_of_le (by omega)
      rw [this] at hu; cases hu
    · obtain rfl := (Option.some.inj e).symm
      rw [addr_add]
      have := HH2.out.slIt.cells rfl ((i + 1) * 2 + j) u (cells_sub xs (i + 1) j u hu)
      rw [addr_add, Nat.zero_add] at this
      exact this
  · exact It.cells_one _
  · omega
  intro w3 hown hg3
  have hlen : i + (xs.length - (i + 1)) = xs.length - 1 := by omega
  have her : It.cells (xs.take i) ++ It.cells (xs.drop (i + 1)) = It.cells (xs.eraseIdx i) := by rw [← It.cells_append, List.eraseIdx_eq_take_drop_succ]
  have hel : (xs.eraseIdx i).length = xs.length - 1 := List.length_eraseIdx_of_lt hi
  rw [hlen, her] at hown
  rw [hlen]
  have HR3 : Hid (RowI w3 g cap (xs.eraseIdx i)) := by
    rw [← hel] at hown
    obtain ⟨g2, cap2, e, _, hr⟩ := RowI.of_own hown (by intro e; cases e)
    cases e
    exact hr
  obtain ⟨cur3, hc3, hs3, ht3⟩ := HR3.out.blk
  have hb6 : ((xs.length - 1 : Nat) : Int) ≤ (xs.length : Int) := by omega
  have hb7 : ((xs.length - 1 : Nat) : Int) = (xs.length : Int) - 1 := by omega
  have hb8 : xs.length - (xs.length - 1) = 0 + 1 := by omega
  have hc9 : ¬ cap = xs.length - 1 := by omega
  obtain ⟨R, hclr, hRs, hRt⟩ : ∃ R, (∀ ty c, (Builtin.clear_ #[29] ty #[.slice (some ⟨g, (xs.length - 1) * 2, none⟩) (xs.length - (xs.length - 1)) c]).run Tryz.prog w3 = .ok (.tuple #[]) (w3.setRow g R)) ∧ R.size = cur3.size ∧ R.toList.take ((xs.length - 1) * 2) = cur3.toList.take ((xs.length - 1) * 2) := by
    rw [hb8]
    exact run_clear_some w3 g ((xs.length - 1) * 2) 0 cur3 hc3 (by omega)
  have HF : Hid (RowI (w3.setRow g R) g cap (xs.eraseIdx i)) := by
    refine ⟨by rw [hel]; omega, HR3.out.capLe, R, setRow_heap w3 g cur3 R 41 (0, 0) hc3, by rw [hRs]; exact hs3, ?_⟩
    rw [hel] at ht3 ⊢
    rw [hRt, ht3]
  have hgr : w.grownBy (w3.setRow g R) (some g) := by
    have h1 := grown_setRow hg3 R
    have HB := HB2.out
    exact ⟨h1.os.trans HB.os, h1.tape.trans HB.tape, h1.output.trans HB.output, Nat.le_trans HB.size h1.size, fun k hk hne => (h1.block k (Nat.lt_of_lt_of_le hk HB.size) hne).trans (HB.block k hk)⟩
  have HGR := Lib.hid hgr
  clear hgr hown hg3 hc3 hs3 ht3 hRs hRt HR3 hel her hb8
  generalize w3.setRow g R = w4 at *
  go_wp2_with (simp only [hclr])
  all_goals
    first
    | (have hcc : cap = i + 1 := by assumption
       subst hcc
       go_ret
       exact ⟨rfl, HF.out, HGR.out⟩)
    | (go_ret
       exact ⟨rfl, HF.out, HGR.out⟩)

theorem below_grown {w w' : World} {row : Option Nat} (h : Below w.heap.size w w') : w.grownBy w' row := ⟨h.os, h.tape, h.output, h.size, fun k hk _ => h.block k hk⟩

/-- slices.Insert of one item: the row, longer by one. -/
theorem sl_Insert_it (base vb i : Nat) (v : Value) (x : It) (xs : List It) (w : World) (h : w.ownsRow base 41 2 v xs.length (It.cells xs)) (hB : base ≤ w.heap.size) (hi : i ≤ xs.length) (hv : w.heap[vb]? = some (.cells #[.string x.k, .string x.v] 41 (0, 0))) (hne : some vb ≠ v.ownBlock) (hbig : (xs.length + 1) * 32 ≤ 140737488355328) :
    Calls Tryz.prog 116 #[v, .int .i64 i, .slice (some ⟨vb, 0, none⟩) 1 1] w fun e w' =>
      ∃ v', e = .returned v' ∧ w'.ownsRow base 41 2 v' (xs.length + 1) (It.cells (It.ins xs i x)) ∧ w.grownBy w' v.ownBlock := by
  rcases Nat.lt_or_eq_of_le hi with hlt | rfl
  · have hnn : v ≠ .slice none 0 0 := by
      rintro rfl
      rcases h.2 with ⟨_, h0⟩ | ⟨_, _, _, e, _⟩
      · omega
      · cases e
    obtain ⟨g, cap, rfl, hg, hR⟩ := RowI.of_own h hnn
    have hil := It.ins_length x hi
    by_cases hc : xs.length + 1 ≤ cap
    · refine (sl_Insert_shift g cap i vb x xs w hR hlt hc hv (by intro e; exact hne (by rw [e]; rfl))).mono ?_
      rintro e w' ⟨rfl, hr, hgr⟩
      refine ⟨_, rfl, ?_, hgr⟩
      have := hr.own hg
      rw [hil] at this
      exact this
    · refine (sl_Insert_grow g cap i vb x xs w hR hlt (by omega) hv hbig).mono ?_
      rintro e w' ⟨g', c', rfl, hg', hr, hb⟩
      refine ⟨_, rfl, ?_, below_grown hb⟩
      have := hr.own (Nat.le_trans hB hg')
      rw [hil] at this
      exact this
  · exact sl_Insert_end base vb v x xs w h hB hv hbig

end Go.Proofs.YtjpakldnejpleaaGreat
