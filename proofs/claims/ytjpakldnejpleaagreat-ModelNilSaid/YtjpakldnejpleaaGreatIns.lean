/- slices.Insert and slices.Delete on a row of items that the call owns. -/
import Derived.Test.YtjpakldnejpleaaGreatLeafB
import Derived.Lib.AppendZeros
import Derived.Lib.Overlaps
import Derived.Laws.Externs
namespace Go.Proofs.YtjpakldnejpleaaGreat
open Go.RowKit

theorem run_copy_items (w : World) (ty : TypeId) (g o dLen dCap : Nat) (a : Addr) (sLen sCap : Nat) (cur : Array Value) (xs : List It) (hg : w.heap[g]? = some (.cells cur 41 (0, 0))) (hn : xs.length = Nat.min sLen dLen)
    (hsrc : ∀ j v, (It.cells xs)[j]? = some v → w.cell? (a.add j) = some v) (hfit : o + xs.length * 2 ≤ cur.size) :
    (Builtin.copy_ #[29, 29] ty #[.slice (some ⟨g, o, none⟩) dLen dCap, .slice (some a) sLen sCap]).run Tryz.prog w =
      .ok (goInt xs.length) (w.setRow g (cur.toList.take o ++ It.cells xs ++ cur.toList.drop (o + xs.length * 2)).toArray) := by
  obtain ⟨i0, hi, hz0, hz1, hz2⟩ := info_parts item_info
  have hl := run_firstCells_some (P := Tryz.prog) w 2 xs.length a sLen sCap (It.cells xs) (It.cells_length xs) hsrc
  have hst := run_storeCells_at Tryz.prog g o 41 (It.cells xs) 0 cur w hg (by rw [It.cells_length]; omega) (It.cells_one xs)
  rw [It.cells_length] at hst
  simp [Builtin.copy_, run_underlying Tryz.underlying29, Builtin.lenOf, sizeOf, typeInfo, hi, hz1, ← hn, hl, hst]

def zeroIt : It := ⟨⟨#[]⟩, ⟨#[]⟩⟩
theorem zeroCells_items (n : Nat) : (Builtin.zeroCells #[Value.string ⟨#[]⟩, .string ⟨#[]⟩] n).toList = It.cells (List.replicate n zeroIt) := by
  apply List.ext_getElem?
  intro t
  by_cases ht : t < n * 2
  · have hd : t / 2 < n := by omega
    obtain ⟨h1, h2⟩ := cells_get (List.replicate n zeroIt) (t / 2) zeroIt (by simp [hd])
    have e0 : (Builtin.zeroCells #[Value.string ⟨#[]⟩, .string ⟨#[]⟩] n).toList[t]? = some (.string ⟨#[]⟩) := by
      simp [Builtin.zeroCells, ht]
      rcases Nat.mod_two_eq_zero_or_one t with h | h <;> simp [h]
    rw [e0]
    rcases Nat.mod_two_eq_zero_or_one t with hm | hm
    · have e : t = t / 2 * 2 := by omega
      rw [e, h1]; rfl
    · have e : t = t / 2 * 2 + 1 := by omega
      rw [e, h2]; rfl
  · rw [List.getElem?_eq_none (by simp [Builtin.zeroCells]; omega), List.getElem?_eq_none (by rw [It.cells_length]; simp; omega)]

theorem zeroCells_size (n : Nat) : (Builtin.zeroCells #[Value.string ⟨#[]⟩, .string ⟨#[]⟩] n).size = n * 2 := by simp [Builtin.zeroCells]

/-- append(s[:i], make([]api.Item, k)...) without room. -/
theorem run_append_zeros (w : World) (ty : TypeId) (g i cap k : Nat) (xs : List It) (h : RowI w g cap xs) (hi : i ≤ xs.length) (hk : 0 < k) (hgr : cap < i + k) (hb : (i + k) * 32 ≤ 140737488355328) :
    ∃ W c, (Builtin.append_ #[29, 3] ty #[.slice (some ⟨g, 0, none⟩) i cap, .int .i64 k]).run Tryz.prog w = .ok (.slice (some ⟨w.heap.size, 0, none⟩) (i + k) c) W ∧ RowI W w.heap.size c (xs.take i ++ List.replicate k zeroIt) ∧ Below w.heap.size w W := by
  obtain ⟨i0, hi0, hz0, hz1, hz2⟩ := info_parts item_info
  have hw : IntKind.i64.wrap (k : Int) = k := IntWalk.i64_in _ (by omega)
  have hneg : ¬ ((k : Int) < 0) := by omega
  have hk0 : ¬ (k * 2 = 0) := by omega
  have h48i : ¬ (281474976710656 < (k : Int) * 32) := by omega
  have h63 : ¬ (9223372036854775807 < (i : Int) + (k : Int)) := by omega
  have hns := nextslicecap_le (need := i + k) (old := cap) hgr
  have h48 : ¬ (281474976710656 < Builtin.nextslicecap (i + k) cap * 32) := by omega
  have hlc : ¬ (i + k ≤ cap) := by omega
  have hfc : (Builtin.firstCells 2 i (.slice (some ⟨g, 0, none⟩) i cap)).run Tryz.prog w.drew = .ok (It.cells (xs.take i)).toArray w.drew := by
    refine run_firstCells_some (P := Tryz.prog) w.drew 2 i ⟨g, 0, none⟩ i cap (It.cells (xs.take i)) (by rw [It.cells_length, List.length_take, Nat.min_eq_left hi]) (fun j u hu => ?_)
    have := h.slIt.cells rfl j u
    have h2 : (It.cells xs)[j]? = some u := by
      have e : It.cells xs = It.cells (xs.take i) ++ It.cells (xs.drop i) := by rw [← It.cells_append, List.take_append_drop]
      rw [e, List.getElem?_append_left]
      · exact hu
      · rcases Nat.lt_or_ge j (It.cells (xs.take i)).length with h' | h'
        · exact h'
        · rw [List.getElem?_eq_none h'] at hu; cases hu
    exact this h2
  have hgc := grownCap_ge w (i + k) cap 41
  have hgm := grownCap_le_maxLen w (i + k) cap 41 (by unfold maxLen; omega)
  refine ⟨w.drew.alloc (.cells ((It.cells (xs.take i)).toArray ++ Builtin.zeroCells #[.string ⟨#[]⟩, .string ⟨#[]⟩] k ++ Builtin.zeroCells #[.string ⟨#[]⟩, .string ⟨#[]⟩] (grownCap w (i + k) cap 41 - (i + k))) 41), grownCap w (i + k) cap 41, ?_, ?_, ?_⟩
  · have hzv : i0.zero = some (.agg #[.string ⟨#[]⟩, .string ⟨#[]⟩]) := hz0
    simp [Builtin.append_, run_underlying Tryz.underlying29, run_underlying Tryz.underlying3, sizeOf, typeInfo, zeroValue, hi0, hzv, hz1, hz2, asInt, asIntOf, hw, hk0, hneg, hlc, h48, h48i, h63, Question.forced, hfc, newRow, grownCap, Value.cells]
  · have hlen : (xs.take i ++ List.replicate k zeroIt).length = i + k := by simp; omega
    have hil : (xs.take i).length = i := by simp; omega
    refine ⟨by rw [hlen]; omega, hgm, _, heap_alloc_new w.drew _, ?_, ?_⟩
    · simp only [Array.size_append, List.size_toArray, It.cells_length, zeroCells_size, hil]
      omega
    · rw [hlen]
      simp only [Array.toList_append, zeroCells_items]
      rw [← It.cells_append, List.take_append_of_le_length (by rw [It.cells_length, hlen]; exact Nat.le_refl _), List.take_of_length_le (by rw [It.cells_length, hlen]; exact Nat.le_refl _)]
  · exact ⟨rfl, rfl, rfl, by simp, fun j hj => heap_alloc_old w.drew _ hj⟩

theorem wp_copy_run (w : World) {o : Oper} {a : Act} {K : Act → World → Prop} {Q : Exit → Act → World → Prop} (d s : Operand) (t t' : TypeId)
    (ho : o.op = .call { callee := .builtin .copy, args := #[d, s], argTypes := #[t, t'] }) (v u : Value) (hd : a.eval d = v) (hs : a.eval s = u) {v' : Value} {w' : World}
    (hr : (Builtin.copy_ #[t, t'] o.type #[v, u]).run Tryz.prog w = .ok v' w') (h : K (a.put o.dst v') w') : o.wp Tryz.prog a w K Q := by
  unfold Oper.wp execOp
  simp only [ho, resolve, invoke, builtin, Sem.run_bind, Sem.run_pure, Result.andThen_ok, List.map_toArray, List.map_cons, List.map_nil, hd, hs, hr]
  exact h

theorem wpList_copy_run (w : World) {ops : Array Oper} {rest : List Oper} {o : Oper} {a : Act} {Q : Exit → Act → World → Prop} (hgd : o.guard = none) (d s : Operand) (t t' : TypeId)
    (ho : o.op = .call { callee := .builtin .copy, args := #[d, s], argTypes := #[t, t'] }) (v u : Value) (hd : a.eval d = v) (hs : a.eval s = u) {v' : Value} {w' : World}
    (hr : (Builtin.copy_ #[t, t'] o.type #[v, u]).run Tryz.prog w = .ok v' w') (h : wpList Tryz.prog ops Q rest (a.put o.dst v') w') : wpList Tryz.prog ops Q (o :: rest) a w :=
  wpList_plain hgd fun _ hK => wp_copy_run w d s t t' ho v u hd hs hr (hK _ _ h)

/-- x at place i. -/
def It.ins (xs : List It) (i : Nat) (x : It) : List It := xs.take i ++ x :: xs.drop i
theorem It.ins_length {xs : List It} {i : Nat} (x : It) (h : i ≤ xs.length) : (It.ins xs i x).length = xs.length + 1 := by simp [It.ins]; omega

theorem RowI.cells_take {xs : List It} {cur : List Value} {n : Nat} (ht : cur.take (xs.length * 2) = It.cells xs) (hn : n ≤ xs.length) : cur.take (n * 2) = It.cells (xs.take n) := by
  have e : It.cells xs = It.cells (xs.take n) ++ It.cells (xs.drop n) := by rw [← It.cells_append, List.take_append_drop]
  have h2 : cur.take (n * 2) = (cur.take (xs.length * 2)).take (n * 2) := by rw [List.take_take, Nat.min_eq_left (by omega)]
  rw [h2, ht, e, List.take_append_of_le_length (by rw [It.cells_length]; simp; omega), List.take_of_length_le (by rw [It.cells_length]; simp; omega)]

theorem cells_sub (xs : List It) (i j : Nat) (u : Value) (h : (It.cells (xs.drop i))[j]? = some u) : (It.cells xs)[i * 2 + j]? = some u := by
  by_cases hi : i ≤ xs.length
  · have e : It.cells xs = It.cells (xs.take i) ++ It.cells (xs.drop i) := by rw [← It.cells_append, List.take_append_drop]
    have hl : (It.cells (xs.take i)).length = i * 2 := by rw [It.cells_length]; simp; omega
    rw [e, List.getElem?_append_right (by omega), hl]
    rw [show i * 2 + j - i * 2 = j by omega]
    exact h
  · rw [List.drop_eq_nil_of_le (by omega)] at h
    simp [It.cells] at h

theorem overlaps_apart (w : World) (vb g o : Nat) (lb cb : Nat) (hne : vb ≠ g) (x : It) (cur : Array Value) (hv : w.heap[vb]? = some (.cells #[.string x.k, .string x.v] 41 (0, 0))) (hg : w.heap[g]? = some (.cells cur 41 (0, 0))) (hs : cur.size ≠ 0) :
    (callFunc 134 #[.slice (some ⟨vb, 0, none⟩) 1 1, .slice (some ⟨g, o, none⟩) lb cb]).run Tryz.prog w = .ok (.value (.bool false)) w := by
  rw [run_callFunc_extern Tryz.func134 (by kernel_rfl) (by kernel_rfl) (by kernel_rfl) (e := Extern.SlicesOverlaps.overlaps #[29, 29] #[4]) (by kernel_rfl),
    Lib.run_overlaps_apart w 29 4 41 Tryz.underlying29 2 sizeOf_item ⟨vb, 0, none⟩ ⟨g, o, none⟩ 1 1 lb cb hne 41 41 2 cur.size (by simp [World.shape?, hv]) (by simp [World.shape?, hg]) hs (by simp [World.frozen?, hv]) (by simp [World.frozen?, hv])]
  rfl

theorem grown_setRow {w w1 : World} {g : Nat} (h : w.grownBy w1 (some g)) (cs : Array Value) : w.grownBy (w1.setRow g cs) (some g) :=
  ⟨h.os, h.tape, h.output, by rw [setRow_size]; exact h.size, fun k hk hne => by rw [setRow_other w1 g k cs (by intro e; exact hne (by rw [e]))]; exact h.block k hk hne⟩

theorem shift_lists (C D X R : List Value) (a m : Nat) (hC : a + 2 ≤ C.length) (hX : X.length = 2) (hm : m = a + 2 + D.length) :
    (((C.take (a + 2) ++ D ++ R).take a ++ X ++ (C.take (a + 2) ++ D ++ R).drop (a + 2)).take m) = C.take a ++ X ++ D := by
  have h1 : (C.take (a + 2)).length = a + 2 := by simp; omega
  have e1 : (C.take (a + 2) ++ D ++ R).take a = C.take a := by
    rw [List.append_assoc, List.take_append_of_le_length (by omega), List.take_take, Nat.min_eq_left (by omega)]
  have e2 : (C.take (a + 2) ++ D ++ R).drop (a + 2) = D ++ R := by
    rw [List.append_assoc, List.drop_append_of_le_length (by omega), List.drop_of_length_le (by omega), List.nil_append]
  have h2 : (C.take a).length = a := by simp; omega
  rw [e1, e2, ← List.append_assoc, List.take_append_of_le_length (by simp only [List.length_append, h2, hX]; omega), List.take_of_length_le (by simp only [List.length_append, h2, hX]; omega)]

set_option maxHeartbeats 2000000 in
set_option maxRecDepth 100000 in
/-- There is room, ahead of the end: in place. -/
theorem sl_Insert_shift (g cap i vb : Nat) (x : It) (xs : List It) (w : World) (h : RowI w g cap xs) (hi : i < xs.length) (hroom : xs.length + 1 ≤ cap) (hv : w.heap[vb]? = some (.cells #[.string x.k, .string x.v] 41 (0, 0))) (hne : vb ≠ g) :
    Calls Tryz.prog 116 #[.slice (some ⟨g, 0, none⟩) xs.length cap, .int .i64 i, .slice (some ⟨vb, 0, none⟩) 1 1] w fun e w' =>
      e = .returned (.slice (some ⟨g, 0, none⟩) (xs.length + 1) cap) ∧ RowI w' g cap (It.ins xs i x) ∧ w.grownBy w' (some g) := by
  have hcap := h.capLe
  unfold maxLen at hcap
  obtain ⟨cur, hg, hs, ht⟩ := h.blk
  have hov := fun lb cb => overlaps_apart w vb g ((i + 1) * 2) lb cb hne x cur hv hg (by omega)
  have HH := Lib.hid h
  have HT := Lib.hid ht
  have HG := Lib.hid hg
  have HV := Lib.hid hv
  have HS := Lib.hid hs
  clear h ht hg hv hs
  have hni : (i : Int) ≠ (xs.length : Int) := by omega
  have hb1 : (i : Int) ≤ (xs.length : Int) := by omega
  have hb2 : (xs.length : Int) + 1 ≤ (cap : Int) := by omega
  have hb3 : (i : Int) + 1 ≤ (xs.length : Int) + 1 := by omega
  have hb4 : (i : Int) ≤ (xs.length : Int) + 1 := by omega
  have hc1 : ¬ cap = i := by omega
  have hc2 : ¬ cap = i + 1 := by omega
  go_enter Tryz.func116, Tryz.ntmps116
  go_wp2_with (simp only [hov])
  refine wp_region_far_tail 8 mixed_ (by kernel_rfl) ?_
  simp only [List.take_succ_cons, List.take_zero, List.drop_succ_cons, List.drop_zero]
  repeat (go_big_quiet_step ((fail)))
  refine wpQuiet_nil ?_
  intro _ hw'
  obtain ⟨⟨nq, osq⟩, hw''⟩ := hw'
  subst hw''
  have hb5 := below_far w nq osq
  have HH2 := Lib.hid (HH.out.below hb5 HH.out.lt)
  have HG2 := Lib.hid ((hb5.block g HH.out.lt).trans HG.out)
  have HV2 := Lib.hid ((hb5.block vb (Array.getElem?_eq_some_iff.1 HV.out).1).trans HV.out)
  have HB2 := Lib.hid hb5
  generalize far w nq osq = w2 at *
  clear hb5 hov
  have hdl : (xs.drop i).length = xs.length - i := List.length_drop
  have hcp : ∀ ty dc sc, (Builtin.copy_ #[29, 29] ty #[.slice (some ⟨g, (i + 1) * 2, none⟩) (xs.length - i) dc, .slice (some ⟨g, i * 2, none⟩) (xs.length + 1 - i) sc]).run Tryz.prog w2 = .ok (goInt (xs.drop i).length) (w2.setRow g (cur.toList.take (i * 2 + 2) ++ It.cells (xs.drop i) ++ cur.toList.drop ((i + 1) * 2 + (xs.drop i).length * 2)).toArray) := fun ty dc sc => by
    rw [show i * 2 + 2 = (i + 1) * 2 by omega]
    exact run_copy_items w2 ty g ((i + 1) * 2) (xs.length - i) dc ⟨g, i * 2, none⟩ (xs.length + 1 - i) sc cur (xs.drop i) HG2.out (by rw [hdl]; simp only [Nat.min_def]; split <;> omega)
      (fun j u hu => by rw [addr_add]; have := HH2.out.slIt.cells rfl (i * 2 + j) u (cells_sub xs i j u hu); rw [addr_add, Nat.zero_add] at this; exact this) (by rw [hdl, HS.out]; omega)
  obtain ⟨cur1, hc1e⟩ : ∃ cur1 : Array Value, cur1 = (cur.toList.take (i * 2 + 2) ++ It.cells (xs.drop i) ++ cur.toList.drop ((i + 1) * 2 + (xs.drop i).length * 2)).toArray := ⟨_, rfl⟩
  rw [← hc1e] at hcp
  rw [hdl] at hcp
  have hl1 : cur1.size = cap * 2 := by rw [hc1e]; simp [It.cells_length, HS.out]; omega
  have HC1 := Lib.hid hc1e
  have HL1 := Lib.hid hl1
  have hg3 := setRow_heap w2 g cur cur1 41 (0, 0) HG2.out
  have hv3 : (w2.setRow g cur1).heap[vb]? = _ := (setRow_other w2 g vb cur1 hne).trans HV2.out
  have hgr3 := grown_setRow (grown_refl w2 g) cur1
  have HB3 : Hid (w.grownBy (w2.setRow g cur1) (some g)) := ⟨hgr3.os.trans HB2.out.os, hgr3.tape.trans HB2.out.tape, hgr3.output.trans HB2.out.output, Nat.le_trans HB2.out.size hgr3.size, fun k hk hne => (hgr3.block k (Nat.lt_of_lt_of_le hk HB2.out.size) hne).trans (HB2.out.block k hk)⟩
  clear hc1e hl1 hdl
  generalize w2.setRow g cur1 = w3 at *
  have HG3 := Lib.hid hg3
  have HV3 := Lib.hid hv3
  clear hg3 hv3 hgr3
  refine wpList_copy_run _ rfl _ _ 29 29 rfl _ _ rfl rfl (hcp _ _ _) ?_
  have hcp2 : ∀ ty dc, (Builtin.copy_ #[29, 29] ty #[.slice (some ⟨g, i * 2, none⟩) (xs.length + 1 - i) dc, .slice (some ⟨vb, 0, none⟩) 1 1]).run Tryz.prog w3 = .ok (goInt [x].length) (w3.setRow g (cur1.toList.take (i * 2) ++ It.cells [x] ++ cur1.toList.drop (i * 2 + 2)).toArray) := fun ty dc =>
    run_copy_items w3 ty g (i * 2) (xs.length + 1 - i) dc ⟨vb, 0, none⟩ 1 1 cur1 [x] HG3.out (by simp only [List.length_singleton, Nat.min_def]; split <;> omega)
      (fun j u hu => by
        rw [addr_add]
        match j, hu with
        | 0, hu => simp [It.cells] at hu; subst hu; rw [Lib.cell_of_heap HV3.out]; rfl
        | 1, hu => simp [It.cells] at hu; subst hu; rw [Lib.cell_of_heap HV3.out]; rfl) (by simp [HL1.out]; omega)
  obtain ⟨cur2, hc2e⟩ : ∃ cur2 : Array Value, cur2 = (cur1.toList.take (i * 2) ++ It.cells [x] ++ cur1.toList.drop (i * 2 + 2)).toArray := ⟨_, rfl⟩
  rw [← hc2e] at hcp2
  have HC2 := Lib.hid hc2e
  have hg4 := setRow_heap w3 g cur1 cur2 41 (0, 0) HG3.out
  have HB4 := Lib.hid (grown_setRow HB3.out cur2)
  have HR : Hid (RowI (w3.setRow g cur2) g cap (It.ins xs i x)) := by
    have hil := It.ins_length x (Nat.le_of_lt hi)
    refine ⟨by rw [hil]; exact hroom, HH.out.capLe, cur2, hg4, ?_, ?_⟩
    · rw [hc2e]; simp [It.cells_length, HL1.out]; omega
    · rw [hil, hc2e, HC1.out]
      have hct := RowI.cells_take (cur := cur.toList) HT.out (n := i) (Nat.le_of_lt hi)
      have hcl : cur.toList.length = cap * 2 := by rw [Array.length_toList]; exact HS.out
      show (((cur.toList.take (i * 2 + 2) ++ It.cells (xs.drop i) ++ _).take (i * 2) ++ It.cells [x] ++ (cur.toList.take (i * 2 + 2) ++ It.cells (xs.drop i) ++ _).drop (i * 2 + 2)).take _) = _
      rw [shift_lists cur.toList (It.cells (xs.drop i)) (It.cells [x]) _ (i * 2) ((xs.length + 1) * 2) (by omega) rfl (by rw [It.cells_length]; simp; omega), hct, ← It.cells_append, ← It.cells_append]
      simp [It.ins]
  clear hc2e hg4
  generalize w3.setRow g cur2 = w4 at *
  go_wp2_with (refine wpList_copy_run _ rfl _ _ 29 29 rfl _ _ rfl rfl (hcp2 _ _) ?_)
  go_ret
  exact ⟨rfl, HR.out, HB4.out⟩

theorem fill_lists (C X D E R : List Value) (a m : Nat) (hX : X.length = 2) (hC : a ≤ C.length) (hm : m = a + 2 + D.length) :
    (((C.take a ++ X ++ E).take (a + 2) ++ D ++ R).take m) = C.take a ++ X ++ D := by
  have h2 : (C.take a).length = a := by simp; omega
  have h3 : (C.take a ++ X).length = a + 2 := by simp only [List.length_append, h2, hX]
  have e1 : (C.take a ++ X ++ E).take (a + 2) = C.take a ++ X := by
    rw [List.take_append_of_le_length (by omega), List.take_of_length_le (by omega)]
  rw [e1, List.take_append_of_le_length (by simp only [List.length_append, h2, hX]; omega), List.take_of_length_le (by simp only [List.length_append, h2, hX]; omega)]

set_option maxHeartbeats 2000000 in
set_option maxRecDepth 100000 in
/-- There is no room, ahead of the end: a new row. -/
theorem sl_Insert_grow (g cap i vb : Nat) (x : It) (xs : List It) (w : World) (h : RowI w g cap xs) (hi : i < xs.length) (hroom : cap < xs.length + 1) (hv : w.heap[vb]? = some (.cells #[.string x.k, .string x.v] 41 (0, 0))) (hbig : (xs.length + 1) * 32 ≤ 140737488355328) :
    Calls Tryz.prog 116 #[.slice (some ⟨g, 0, none⟩) xs.length cap, .int .i64 i, .slice (some ⟨vb, 0, none⟩) 1 1] w fun e w' =>
      ∃ g' c', e = .returned (.slice (some ⟨g', 0, none⟩) (xs.length + 1) c') ∧ w.heap.size ≤ g' ∧ RowI w' g' c' (It.ins xs i x) ∧ Below w.heap.size w w' := by
  have hcap := h.capLe
  have hlc := h.len
  unfold maxLen at hcap
  obtain ⟨W, c, hrun, hRW, hbW⟩ := run_append_zeros w 29 g i cap (xs.length + 1 - i) xs h (Nat.le_of_lt hi) (by omega) (by omega) (by omega)
  rw [show i + (xs.length + 1 - i) = xs.length + 1 by omega, show (((xs.length + 1 - i : Nat)) : Int) = (xs.length : Int) + 1 - (i : Int) by omega] at hrun
  obtain ⟨cur, hg, hs, ht⟩ := hRW.blk
  have hRl : (xs.take i ++ List.replicate (xs.length + 1 - i) zeroIt).length = xs.length + 1 := by simp; omega
  have hcl := hRW.len
  rw [hRl] at ht hcl
  have hcm := hRW.capLe
  have hvl := (Array.getElem?_eq_some_iff.1 hv).1
  have hgl := h.lt
  have HV := Lib.hid ((hbW.block vb hvl).trans hv)
  have HH := Lib.hid (h.below hbW hgl)
  have HB := Lib.hid hbW
  have HG := Lib.hid hg
  have HS := Lib.hid hs
  have HCM := Lib.hid hcm
  have hTi : cur.toList.take (i * 2) = It.cells (xs.take i) := by
    have e : cur.toList.take (i * 2) = (cur.toList.take ((xs.length + 1) * 2)).take (i * 2) := by rw [List.take_take, Nat.min_eq_left (by omega)]
    have hil : (It.cells (xs.take i)).length = i * 2 := by rw [It.cells_length]; simp; omega
    rw [e, ht, It.cells_append, List.take_append_of_le_length (by omega), List.take_of_length_le (by omega)]
  have HT := Lib.hid hTi
  clear hg hs ht hRW hbW hv h hTi hcm
  have hcp1 : ∀ ty dc, (Builtin.copy_ #[29, 29] ty #[.slice (some ⟨w.heap.size, i * 2, none⟩) (xs.length + 1 - i) dc, .slice (some ⟨vb, 0, none⟩) 1 1]).run Tryz.prog W = .ok (goInt [x].length) (W.setRow w.heap.size (cur.toList.take (i * 2) ++ It.cells [x] ++ cur.toList.drop (i * 2 + 2)).toArray) := fun ty dc =>
    run_copy_items W ty w.heap.size (i * 2) (xs.length + 1 - i) dc ⟨vb, 0, none⟩ 1 1 cur [x] HG.out (by simp only [List.length_singleton, Nat.min_def]; split <;> omega)
      (fun j u hu => by
        rw [addr_add]
        match j, hu with
        | 0, hu => simp [It.cells] at hu; subst hu; rw [Lib.cell_of_heap HV.out]; rfl
        | 1, hu => simp [It.cells] at hu; subst hu; rw [Lib.cell_of_heap HV.out]; rfl) (by simp [HS.out]; omega)
  obtain ⟨cur1, hc1e⟩ : ∃ cur1 : Array Value, cur1 = (cur.toList.take (i * 2) ++ It.cells [x] ++ cur.toList.drop (i * 2 + 2)).toArray := ⟨_, rfl⟩
  rw [← hc1e] at hcp1
  have hl1 : cur1.size = c * 2 := by rw [hc1e]; simp [It.cells_length, HS.out]; omega
  have hg1 := setRow_heap W w.heap.size cur cur1 41 (0, 0) HG.out
  have hb1 := below_setRow HB.out (Nat.le_refl _) cur1
  have hH1 : RowI (W.setRow w.heap.size cur1) g cap xs := HH.out.below (below_setRow (Below.refl w.heap.size W) (Nat.le_refl _) cur1) hgl
  generalize W.setRow w.heap.size cur1 = W1 at *
  have HC1 := Lib.hid hc1e
  have HL1 := Lib.hid hl1
  have HG1 := Lib.hid hg1
  have HB1 := Lib.hid hb1
  have HH1 := Lib.hid hH1
  clear hc1e hl1 hg1 hb1 hH1
  have hni : (i : Int) ≠ (xs.length : Int) := by omega
  have hb1 : (i : Int) ≤ (xs.length : Int) := by omega
  have hb2 : (cap : Int) < (xs.length : Int) + 1 := by omega
  have hb4 : (i : Int) ≤ (xs.length : Int) + 1 := by omega
  have hc1 : ¬ cap = i := by omega
  have hc2 : ¬ c = i := by omega
  go_enter Tryz.func116, Tryz.ntmps116
  go_wp2_with (first | (at_builtin; refine Lib.wpList_append_run _ rfl _ _ 29 3 rfl _ _ rfl rfl _ _ hrun ?_) | (refine wpList_copy_run _ rfl _ _ 29 29 rfl _ _ rfl rfl (hcp1 _ _) ?_))
  go_frame
  have hb3 : (i : Int) + 1 ≤ (xs.length : Int) + 1 := by omega
  refine wp_region_far_tail 8 mixed_ (by kernel_rfl) ?_
  simp only [List.take_succ_cons, List.take_zero, List.drop_succ_cons, List.drop_zero]
  repeat (go_big_quiet_step ((fail)))
  refine wpQuiet_nil ?_
  intro _ hw'
  obtain ⟨⟨nq, osq⟩, hw''⟩ := hw'
  subst hw''
  have hb5 := below_far W1 nq osq
  have hgW : w.heap.size < W1.heap.size := (Array.getElem?_eq_some_iff.1 HG1.out).1
  have HH2 := Lib.hid (HH1.out.below hb5 HH1.out.lt)
  have HG2 := Lib.hid ((hb5.block _ hgW).trans HG1.out)
  have HB2 := Lib.hid (HB1.out.trans (hb5.mono (by omega)))
  generalize far W1 nq osq = w2 at *
  clear hb5 hcp1 hrun
  have hdl : (xs.drop i).length = xs.length - i := List.length_drop
  have hcp : ∀ ty A dc sc, (0 < xs.length - i → A = some ⟨w.heap.size, i * 2 + 2, none⟩) → (Builtin.copy_ #[29, 29] ty #[.slice A (xs.length - i) dc, .slice (some ⟨g, i * 2, none⟩) (xs.length - i) sc]).run Tryz.prog w2 = .ok (goInt (xs.drop i).length) (w2.setRow w.heap.size (cur1.toList.take (i * 2 + 2) ++ It.cells (xs.drop i) ++ cur1.toList.drop (i * 2 + 2 + (xs.drop i).length * 2)).toArray) := fun ty A dc sc hA => by
    rw [hA (by omega)]
    exact run_copy_items w2 ty w.heap.size (i * 2 + 2) (xs.length - i) dc ⟨g, i * 2, none⟩ (xs.length - i) sc cur1 (xs.drop i) HG2.out (by rw [hdl]; simp only [Nat.min_def]; split <;> omega)
      (fun j u hu => by rw [addr_add]; have := HH2.out.slIt.cells rfl (i * 2 + j) u (cells_sub xs i j u hu); rw [addr_add, Nat.zero_add] at this; exact this) (by rw [hdl, HL1.out]; omega)
  refine wpList_copy_run _ rfl _ _ 29 29 rfl _ _ rfl rfl (hcp _ _ _ _ ?_) ?_
  · intro _
    simp [Nat.add_mul]
  have HR : Hid (RowI (w2.setRow w.heap.size (cur1.toList.take (i * 2 + 2) ++ It.cells (xs.drop i) ++ cur1.toList.drop (i * 2 + 2 + (xs.drop i).length * 2)).toArray) w.heap.size c (It.ins xs i x)) := by
    have hil := It.ins_length x (Nat.le_of_lt hi)
    refine ⟨by rw [hil]; exact hcl, HCM.out, _, setRow_heap w2 w.heap.size cur1 _ 41 (0, 0) HG2.out, ?_, ?_⟩
    · simp [It.cells_length, HL1.out]; omega
    · rw [hil, HC1.out]
      have hCl : cur.toList.length = c * 2 := by rw [Array.length_toList]; exact HS.out
      show (((cur.toList.take (i * 2) ++ It.cells [x] ++ _).take (i * 2 + 2) ++ It.cells (xs.drop i) ++ _).take _) = _
      rw [fill_lists cur.toList (It.cells [x]) (It.cells (xs.drop i)) _ _ (i * 2) ((xs.length + 1) * 2) rfl (by omega) (by rw [It.cells_length]; simp; omega), HT.out, ← It.cells_append, ← It.cells_append]
      simp [It.ins]
  have HB4 := Lib.hid (below_setRow HB2.out (Nat.le_refl _) (cur1.toList.take (i * 2 + 2) ++ It.cells (xs.drop i) ++ cur1.toList.drop (i * 2 + 2 + (xs.drop i).length * 2)).toArray)
  generalize w2.setRow w.heap.size (cur1.toList.take (i * 2 + 2) ++ It.cells (xs.drop i) ++ cur1.toList.drop (i * 2 + 2 + (xs.drop i).length * 2)).toArray = w4 at *
  clear hcp
  go_wp2
  go_ret
  exact ⟨w.heap.size, c, rfl, Nat.le_refl _, HR.out, HB4.out⟩

set_option maxHeartbeats 2000000 in
set_option maxRecDepth 100000 in
/-- At the end. -/
theorem sl_Insert_end (base vb : Nat) (v : Value) (x : It) (xs : List It) (w : World) (h : w.ownsRow base 41 2 v xs.length (It.cells xs)) (hB : base ≤ w.heap.size) (hv : w.heap[vb]? = some (.cells #[.string x.k, .string x.v] 41 (0, 0))) (hbig : (xs.length + 1) * 32 ≤ 140737488355328) :
    Calls Tryz.prog 116 #[v, .int .i64 xs.length, .slice (some ⟨vb, 0, none⟩) 1 1] w fun e w' =>
      ∃ v', e = .returned v' ∧ w'.ownsRow base 41 2 v' (xs.length + 1) (It.cells (It.ins xs xs.length x)) ∧ w.grownBy w' v.ownBlock := by
  obtain ⟨i0, hi, hz0, hz1, hz2⟩ := info_parts item_info
  have hcx : It.cells (It.ins xs xs.length x) = It.cells xs ++ [.string x.k, .string x.v] := by
    have : It.ins xs xs.length x = xs ++ [x] := by simp [It.ins]
    rw [this, It.cells_append]; rfl
  obtain ⟨A, c, rfl, hsl⟩ := own_slice h
  have hlen := hsl.len
  have hcap := hsl.cap
  unfold maxLen at hcap
  have HX := Lib.hid hcx
  have HV := Lib.hid hv
  have HO := Lib.hid h
  clear hcx hv h
  have hA0 : A = none → xs.length = 0 ∧ c = 0 := by
    intro e
    rcases HO.out.2 with ⟨e0, h0⟩ | ⟨g, cap, cur, e0, _⟩
    · injection e0 with _ _ e3; exact ⟨h0, e3⟩
    · rw [e] at e0; cases e0
  have hirr : ((xs.length : Int) == (xs.length : Int)) = true := by simp
  rcases A with _ | a
  · obtain ⟨h0, hc0⟩ := hA0 rfl
    rw [hc0, h0] at HO ⊢
    clear hA0 hsl
    go_enter Tryz.func116, Tryz.ntmps116
    go_wp2_with (at_builtin; refine wpList_append_own _ rfl _ _ 29 rfl base 41 i0 (.agg #[.string ⟨#[]⟩, .string ⟨#[]⟩]) 2 32 Tryz.underlying29 hi hz0 hz1 hz2 rfl (by decide) _ _ _ rfl HO.out ⟨vb, 0, none⟩ 1 1 [.string x.k, .string x.v] rfl rfl ?c1 ?c2 ?c3 ?c4 ?c5 ?_)
    case c1 =>
      intro j u hj
      match j, hj with
      | 0, hj => simp at hj; subst hj; rw [addr_add, Lib.cell_of_heap HV.out]; rfl
      | 1, hj => simp at hj; subst hj; rw [addr_add, Lib.cell_of_heap HV.out]; rfl
    case c2 => intro u hu; simp at hu; rcases hu with rfl | rfl <;> rfl
    case c3 => unfold maxLen; omega
    case c4 => omega
    case c5 => exact hB
    intro v' w1 hown hg _
    go_wp2
    go_ret
    have HX' := HX.out
    rw [h0] at HX'
    exact ⟨v', rfl, by rw [HX']; exact hown, hg⟩
  · have hcs : ¬ c = xs.length ∨ c = xs.length := by omega
    rcases hcs with hcs | hcs
    all_goals
      go_enter Tryz.func116, Tryz.ntmps116
      go_wp2_with (at_builtin; refine wpList_append_own _ rfl _ _ 29 rfl base 41 i0 (.agg #[.string ⟨#[]⟩, .string ⟨#[]⟩]) 2 32 Tryz.underlying29 hi hz0 hz1 hz2 rfl (by decide) _ _ _ rfl HO.out ⟨vb, 0, none⟩ 1 1 [.string x.k, .string x.v] rfl rfl ?d1 ?d2 ?d3 ?d4 ?d5 ?_)
      case d1 =>
        intro j u hj
        match j, hj with
        | 0, hj => simp at hj; subst hj; rw [addr_add, Lib.cell_of_heap HV.out]; rfl
        | 1, hj => simp at hj; subst hj; rw [addr_add, Lib.cell_of_heap HV.out]; rfl
      case d2 => intro u hu; simp at hu; rcases hu with rfl | rfl <;> rfl
      case d3 => unfold maxLen; omega
      case d4 => omega
      case d5 => exact hB
      intro v' w1 hown hg _
      go_wp2
      go_ret
      exact ⟨v', rfl, by rw [HX.out]; exact hown, hg⟩

end Go.Proofs.YtjpakldnejpleaaGreat
