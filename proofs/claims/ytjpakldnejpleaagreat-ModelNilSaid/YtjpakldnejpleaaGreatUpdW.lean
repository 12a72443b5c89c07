/- model.update. -/
import Derived.Test.YtjpakldnejpleaaGreatPush
import Derived.Deep.DeepCutAuto
namespace Go.Proofs.YtjpakldnejpleaaGreat
open Go.RowKit

/-- What an update answers. -/
def updErr (n : Nat) (xs : List It) (m : Ms) : Nat :=
  if msgIs m = false then 1
  else if m.kind = 2 ∧ It.has xs m.k = false then 0
  else if m.kind = 3 ∧ It.has xs m.k = true ∧ (It.was xs m.k).size ≠ 8 then 10
  else if planCap n < wt (It.put xs m) then 9 else 0

/-- The rows behind an update. -/
def updRows (n : Nat) (rows : List (List It)) (m : Ms) : List (List It) :=
  if msgIs m = true ∧ ¬ (m.kind = 2 ∧ It.has (lastRow rows) m.k = false) ∧ updErr n (lastRow rows) m = 0 then rows ++ [It.put (lastRow rows) m] else rows

/-- What With has left. -/
def WithRes (w : World) (m : Ms) (ys : List It) (p er : Value) : Prop :=
  (msgIs m = true ∧ er = .int .i64 0 ∧ ∃ lb, p = .pointer (some ⟨lb, 0, none⟩) ∧ LeafAt w lb ys) ∨ (msgIs m = false ∧ er = .int .i64 1 ∧ p = .pointer none)

theorem leaf_With_one (b xb : Nat) (xs : List It) (m : Ms) (W0 W : World) (h : LeafAt W b xs) (hx : W.heap[xb]? = some (.cells #[.int .i64 m.kind, .string m.k, .string m.v] 88 (0, 0))) (hB : Below W0.heap.size W0 W) (hu : It.up xs) (hok : ∀ x ∈ xs, x.ok = true) (hl : xs.length ≤ 1000000) :
    Calls Tryz.prog 54 #[.pointer (some ⟨b, 0, none⟩), .slice (some ⟨xb, 0, none⟩) 1 1] W fun e w' => ∃ p er, e = .returned (.tuple #[p, er]) ∧ WithRes w' m (It.put xs m) p er ∧ Below W0.heap.size W0 w' := by
  have hs : SlMs W (some ⟨xb, 0, none⟩) 1 [m] := ⟨Nat.le_refl _, by unfold maxLen; omega, fun _ => ⟨xb, 0, rfl, (Array.getElem?_eq_some_iff.1 hx).1, fun i x hi => by
    match i, hi with
    | 0, hi =>
      cases hi
      have c := Lib.cell_of_heap hx
      exact ⟨by rw [c]; rfl, by rw [c]; rfl, by rw [c]; rfl⟩⟩⟩
  cases hm : msgIs m with
  | true =>
    refine (leaf_With_ok b _ 1 xs [m] W h hs (by simp [hm]) hu hok (by simp; omega)).mono ?_
    rintro e w' ⟨b', rfl, _, hL, hb⟩
    exact ⟨_, _, rfl, .inl ⟨hm, rfl, b', rfl, hL⟩, hB.trans (hb.mono hB.size)⟩
  | false =>
    refine (leaf_With_bad b _ 1 xs [m] W h hs (by simp [hm])).mono ?_
    rintro e w' ⟨rfl, hb⟩
    exact ⟨_, _, rfl, .inr ⟨hm, rfl, rfl⟩, hB.trans (hb.mono hB.size)⟩

theorem key_Number_any (v : ByteArray) (w : World) :
    Calls Tryz.prog 74 #[.string v] w fun e w' => ∃ nv : Int, e = .returned (.tuple #[.int .u64 nv, .bool (decide (v.size = 8))]) ∧ Below w.heap.size w w' := by
  by_cases h : v.size = 8
  · refine (key_Number_ok v w h).mono ?_
    rintro e w' ⟨rfl, hb⟩
    exact ⟨_, by rw [decide_eq_true h], hb⟩
  · refine (key_Number_none v w h).mono ?_
    rintro e w' ⟨rfl, rfl⟩
    exact ⟨_, by rw [decide_eq_false h], Below.refl _ _⟩

theorem wpList_append_run {P : Program} {w : World} {ops : Array Oper} {rest : List Oper} {o : Oper} {a : Act} {Q : Exit → Act → World → Prop} (hgd : o.guard = none) (s x : Operand) (t : TypeId)
    (ho : o.op = .call { callee := .builtin .append, args := #[s, x], argTypes := #[t, t] }) (v xv : Value) (hs : a.eval s = v) (hx : a.eval x = xv) (r : Value) (W : World)
    (hr : (Builtin.append_ #[t, t] o.type #[v, xv]).run P w = .ok r W) (h : wpList P ops Q rest (a.put o.dst r) W) : wpList P ops Q (o :: rest) a w :=
  wpList_plain hgd fun _ hK => by
    unfold Oper.wp execOp
    simp only [ho, resolve, invoke, builtin, Sem.run_bind, Sem.run_pure, Result.andThen_ok, List.map_toArray, List.map_cons, List.map_nil, hs, hx, hr]
    exact hK _ _ h

theorem leaf_Weight_far (b : Nat) (xs : List It) (w : World) (h : LeafAt w b xs) :
    Calls Tryz.prog 46 #[.pointer (some ⟨b, 0, none⟩)] w fun e w' => e = .returned (.int .i64 (wt xs)) ∧ Below w.heap.size w w' :=
  (leaf_Weight b xs w h).mono fun e w' ⟨he, hw⟩ => ⟨he, by rw [← hw]; exact Below.refl _ _⟩

theorem LastAt.modAt {w : World} {b g n : Nat} {rows : List (List It)} {lb : Nat} (h : LastAt w b g n rows lb) : ModAt w b g n rows := by
  obtain ⟨o, c, cur, bs, h, _⟩ := h
  exact ⟨o, c, cur, bs, h⟩

set_option maxHeartbeats 8000000 in
set_option maxRecDepth 100000 in
theorem model_update (b g n : Nat) (rows : List (List It)) (m : Ms) (w : World) (h : ModAt w b g n rows) (hk : RowOk (lastRow rows)) (hrl : rows.length ≤ 1000) :
    Calls Tryz.prog 41 #[.pointer (some ⟨b, 0, none⟩), m.agg] w fun e w' => e = .returned (.int .i64 (updErr n (lastRow rows) m)) ∧ (∃ g', ModAt w' b g' n (updRows n rows m) ∧ (g' = g ∨ w.heap.size ≤ g')) ∧ Off (fun k => k = b ∨ k = g) w w' := by
  obtain ⟨er, her⟩ : ∃ er, er = updErr n (lastRow rows) m := ⟨_, rfl⟩
  obtain ⟨rs, hrs⟩ : ∃ rs, rs = updRows n rows m := ⟨_, rfl⟩
  rw [← her, ← hrs]
  have HER := Lib.hid her
  have HRS := Lib.hid hrs
  have HK := Lib.hid hk
  have hle := hk.len
  clear her hrs
  obtain ⟨lb, hL⟩ := h.last
  obtain ⟨has, hhas⟩ : ∃ r, r = It.has (lastRow rows) m.k := ⟨_, rfl⟩
  obtain ⟨was, hwas⟩ : ∃ r, r = It.was (lastRow rows) m.k := ⟨_, rfl⟩
  obtain ⟨w1, hw1⟩ : ∃ w1, w.alloc (.cells #[.int .i64 m.kind, .string m.k, .string m.v] 88) = w1 := ⟨_, rfl⟩
  have hB1 : Below w.heap.size w w1 := by rw [← hw1]; exact below_alloc1 _ _
  have hX1 : w1.heap[w.heap.size]? = some (.cells #[.int .i64 m.kind, .string m.k, .string m.v] 88 (0, 0)) := by rw [← hw1]; exact heap_alloc_new _ _
  have hxl := (Array.getElem?_eq_some_iff.1 hX1).1
  have hL1 := hL.below hB1
  have HN := Lib.hid (fun nn os => model_now_at b g n lb rows (far w1 nn os) (hL1.below (below_far w1 nn os)))
  have hF := fun nn os => leaf_Find lb (lastRow rows) m.k (far w1 nn os) (hL1.below (below_far w1 nn os)).leaf (by omega) hk.up
  rw [← hhas, ← hwas] at hF
  have HF := Lib.hid hF
  have HL1 := Lib.hid hL1
  have HHAS := Lib.hid hhas
  have HWAS := Lib.hid hwas
  have HW := Lib.hid hw1
  have HB1 := Lib.hid hB1
  have HX1 := Lib.hid hX1
  have q0 := far_cell (show w1.cell? ⟨w.heap.size, 0, none⟩ = some (.int .i64 m.kind) by rw [Lib.cell_of_heap hX1]; rfl)
  have q1 := far_cell (show w1.cell? ⟨w.heap.size, 1, none⟩ = some (.string m.k) by rw [Lib.cell_of_heap hX1]; rfl)
  clear hhas hwas hw1 hB1 hX1 hL1 hF hL h hk
  unfold Ms.agg
  go_enter Tryz.func41, Tryz.ntmps41
  go_wp2_with (first | (rw [HW.out]) | fail)
  refine wp_region_quiet_far mixed_ (by kernel_rfl) ?_
  repeat (go_big_quiet_step (((first | (go_at_call 44; exact calls_far (HN.out _ _)) | (go_at_call 73; exact calls_far (HF.out _ _))))))
  refine wpQuiet_nil ?_
  intro _ hw'
  obtain ⟨⟨nq, osq⟩, hw''⟩ := hw'
  subst hw''
  have hb5 := below_far w1 nq osq
  have HX2 := Lib.hid ((hb5.block _ hxl).trans HX1.out)
  have HB2 := Lib.hid (HB1.out.trans (hb5.mono HB1.out.size))
  have HL2 := Lib.hid (HL1.out.below hb5)
  have hxl2 := (Array.getElem?_eq_some_iff.1 HX2.out).1
  generalize far w1 nq osq = w2 at *
  clear hb5 q0 q1 HN HF HX1 HB1 HL1 hxl HW
  go_upto_region 2 with fail
  go_cut [7, 8] (fun s7 s8 wx => WithRes wx m (It.put (lastRow rows) m) s7 s8 ∧ Below w2.heap.size w2 wx)
  case first =>
    have hn : ∀ W, Below w2.heap.size w2 W → Calls Tryz.prog 44 #[.pointer (some ⟨b, 0, none⟩)] W fun e w' => e = .returned (.pointer (some ⟨lb, 0, none⟩)) ∧ Below W.heap.size W w' ∧ Below w2.heap.size w2 w' ∧ w'.cell? ⟨w.heap.size, 0, none⟩ = some (.int .i64 m.kind) ∧ w'.cell? ⟨w.heap.size, 1, none⟩ = some (.string m.k) ∧ w'.cell? ⟨w.heap.size, 2, none⟩ = some (.string m.v) := fun W hW =>
      (model_now_at b g n lb rows W (HL2.out.below hW)).mono fun e w' ⟨he, hb⟩ => by
        have hb2 := hW.trans (hb.mono hW.size)
        have c := Lib.cell_of_heap ((hb2.block _ hxl2).trans HX2.out)
        exact ⟨he, hb, hb2, by rw [c]; rfl, by rw [c]; rfl, by rw [c]; rfl⟩
    have HN2 := Lib.hid hn
    have HWI := Lib.hid (fun xb W (hB : Below w2.heap.size w2 W) hx => leaf_With_one lb xb (lastRow rows) m w2 W (HL2.out.below hB).leaf hx hB HK.out.up HK.out.ok HK.out.len)
    have c := Lib.cell_of_heap HX2.out
    have q0 : w2.cell? ⟨w.heap.size, 0, none⟩ = some (.int .i64 m.kind) := by rw [c]; rfl
    have q1 : w2.cell? ⟨w.heap.size, 1, none⟩ = some (.string m.k) := by rw [c]; rfl
    have q2 : w2.cell? ⟨w.heap.size, 2, none⟩ = some (.string m.v) := by rw [c]; rfl
    have a0 := fun o => (below_alloc1 w2 o).cell_ q0
    have a1 := fun o => (below_alloc1 w2 o).cell_ q1
    have a2 := fun o => (below_alloc1 w2 o).cell_ q2
    clear hn c
    go_region_with
      (first
        | (go_at_call 44; refine (HN2.out _ (by first | exact (Below.refl _ _).drew | exact (below_alloc1 _ _).drew)).mono ?_; rintro e w' ⟨rfl, hb', hb2', k0, k1, k2⟩)
        | (go_at_call 54; refine (HWI.out _ _ (by first | exact hb2' | exact hb2'.alloc hb2'.size _) (by first | exact heap_alloc_new _ _ | exact (hb'.block _ (by simp)).trans (heap_alloc_new _ _))).mono ?_; rintro e w' ⟨p, er, rfl, hres, hb3⟩))
    all_goals (go_wp2_with fail; go_meet; exact ⟨hres, hb3⟩)
  case rest =>
    obtain ⟨hres, hb⟩ := hcut
    have HX3 := Lib.hid ((hb.block _ hxl2).trans HX2.out)
    have HB3 := Lib.hid (HB2.out.trans (hb.mono HB2.out.size))
    have HL3 := Lib.hid (HL2.out.below hb)
    have hxl3 := (Array.getElem?_eq_some_iff.1 HX3.out).1
    have c := Lib.cell_of_heap HX3.out
    have q0 : wc.cell? ⟨w.heap.size, 0, none⟩ = some (.int .i64 m.kind) := by rw [c]; rfl
    clear c hb HX2 HB2 HL2 hxl2
    rcases hres with ⟨hm, rfl, lb', rfl, hL'⟩ | ⟨hm, rfl, rfl⟩
    · obtain ⟨ys, hys⟩ : ∃ ys, ys = It.put (lastRow rows) m := ⟨_, rfl⟩
      rw [← hys] at hL'
      have HYS := Lib.hid hys
      have HL' := Lib.hid hL'
      have HM := Lib.hid hm
      clear hys hL' hm
      by_cases h2 : m.kind = 2 ∧ has = false
      · obtain ⟨k2, rfl⟩ := h2
        have e1 : er = 0 := by rw [HER.out]; unfold updErr; rw [if_neg (by rw [HM.out]; decide), if_pos ⟨k2, HHAS.out.symm⟩]
        have e2 : rs = rows := by rw [HRS.out]; unfold updRows; rw [if_neg]; rintro ⟨_, h, _⟩; exact h ⟨k2, HHAS.out.symm⟩
        subst e1
        subst e2
        have g2 : (m.kind == 2) = true := by simp [k2]
        clear k2
        go_wp2
        go_ret
        exact ⟨rfl, ⟨g, HL3.out.modAt, .inl rfl⟩, Off.of_below HB3.out⟩
      · by_cases h3 : m.kind = 3 ∧ has = true ∧ was.size ≠ 8
        · obtain ⟨k3, rfl, h8⟩ := h3
          have e1 : er = 10 := by rw [HER.out]; unfold updErr; rw [if_neg (by rw [HM.out]; decide), if_neg (by omega), if_pos ⟨k3, HHAS.out.symm, by rw [← HWAS.out]; exact h8⟩]
          have e2 : rs = rows := by
            rw [HRS.out]; unfold updRows; rw [if_neg]
            rintro ⟨_, _, h⟩
            rw [← HER.out, e1] at h
            cases h
          subst e1
          subst e2
          have g2 : (m.kind == 2) = false := by simp; omega
          have g3 : (m.kind == 3) = true := by simp [k3]
          have HNu := Lib.hid (fun W => key_Number_any was W)
          rw [decide_eq_false h8] at HNu
          clear k3 h8 h2
          go_wp2_with fail
          refine (HNu.out _).mono ?_
          rintro e w4 ⟨nv, rfl, hb4⟩
          have HL4 := Lib.hid (HL3.out.below hb4)
          have HB4 := Lib.hid (HB3.out.trans (hb4.mono HB3.out.size))
          have q0 := hb4.cell_ q0
          clear hb4
          go_wp2
          go_ret
          exact ⟨rfl, ⟨g, HL4.out.modAt, .inl rfl⟩, Off.of_below HB4.out⟩
        · have e1 : er = if planCap n < wt ys then 9 else 0 := by rw [HER.out, HYS.out]; unfold updErr; rw [if_neg (by rw [HM.out]; decide), if_neg (by rw [← HHAS.out]; exact h2), if_neg (by rw [← HHAS.out, ← HWAS.out]; exact h3)]
          have e2 : rs = if planCap n < wt ys then rows else rows ++ [ys] := by
            rw [HRS.out, HYS.out]; unfold updRows
            rw [← HER.out, e1, HYS.out]
            split
            · rw [if_neg]; rintro ⟨_, _, h⟩; cases h
            · rw [if_pos ⟨HM.out, by rw [← HHAS.out]; exact h2, rfl⟩]
          have HE1 := Lib.hid e1
          have HE2 := Lib.hid e2
          clear e1 e2 HER HRS
          obtain ⟨is, his⟩ : ∃ is, is = decide (was.size = 8) := ⟨_, rfl⟩
          have key : ((m.kind == 2) = true ∧ (m.kind == 3) = false ∧ has = true) ∨ ((m.kind == 2) = false ∧ (m.kind == 3) = true ∧ has = false) ∨ ((m.kind == 2) = false ∧ (m.kind == 3) = true ∧ has = true ∧ is = true) ∨ ((m.kind == 2) = false ∧ (m.kind == 3) = false) := by
            rw [his]
            simp only [beq_iff_eq, beq_eq_false_iff_ne, decide_eq_true_eq]
            by_cases k2 : m.kind = 2
            · left; refine ⟨k2, by omega, ?_⟩
              cases has with
              | true => rfl
              | false => exact absurd ⟨k2, rfl⟩ h2
            · right
              by_cases k3 : m.kind = 3
              · cases has with
                | false => left; exact ⟨k2, k3, rfl⟩
                | true => right; left; exact ⟨k2, k3, rfl, by rcases Nat.decEq was.size 8 with h | h; exact absurd ⟨k3, rfl, h⟩ h3; exact h⟩
              · right; right; exact ⟨k2, k3⟩
          have HNu := Lib.hid (fun W => key_Number_any was W)
          rw [← his] at HNu
          clear his h2 h3
          obtain ⟨p1, p2, p3, p4, p5, p6, hp⟩ : ∃ p1 p2 p3 p4 p5 p6 : Int, planV n = .agg #[.int .i64 n, .int .i64 p1, .int .i64 p2, .int .i64 p3, .int .i64 p4, .int .i64 p5, .int .i64 p6] := ⟨_, _, _, _, _, _, rfl⟩
          have hmc : ∀ s, modCells n s = #[.int .i64 n, .int .i64 p1, .int .i64 p2, .int .i64 p3, .int .i64 p4, .int .i64 p5, .int .i64 p6, s] := by
            intro s
            have h0 := hp
            unfold planV at h0
            injection h0 with h0
            simp only [Array.mk.injEq, List.cons.injEq, Value.int.injEq, true_and, and_true] at h0
            obtain ⟨e1, e2, e3, e4, e5, e6⟩ := h0
            unfold modCells
            rw [e1, e2, e3, e4, e5, e6]
          have HMC := Lib.hid hmc
          obtain ⟨hd, hhd⟩ : ∃ hd, hd = decide (wt ys ≤ planCap n) := ⟨_, rfl⟩
          have hHo := fun W => capa_Holds n (wt ys) W
          rw [hp, ← hhd] at hHo
          have HHo := Lib.hid hHo
          have HHD := Lib.hid hhd
          clear hp hmc hHo hhd
          rcases key with ⟨g2, g3, rfl⟩ | ⟨g2, g3, rfl⟩ | ⟨g2, g3, rfl, rfl⟩ | ⟨g2, g3⟩
          all_goals
            go_wp2_with fail
            refine (HNu.out _).mono ?_
            rintro e w4 ⟨nv, rfl, hb4⟩
            have HL4 := Lib.hid (HL3.out.below hb4)
            have HB4 := Lib.hid (HB3.out.trans (hb4.mono HB3.out.size))
            have HLf4 := Lib.hid (HL'.out.below hb4)
            have q0 := hb4.cell_ q0
            clear hb4 HNu HL3 HB3 HL' hxl3
            obtain ⟨o, c, cur, bs, hM, _, _⟩ := HL4.out
            have hbx := hM.box
            rw [HMC.out] at hbx
            have c := Lib.cell_of_heap hbx
            have r0 := far_cell (show w4.cell? ⟨b, 0, none⟩ = some (.int .i64 n) by rw [c]; rfl)
            have r1 := far_cell (show w4.cell? ⟨b, 1, none⟩ = some (.int .i64 p1) by rw [c]; rfl)
            have r2 := far_cell (show w4.cell? ⟨b, 2, none⟩ = some (.int .i64 p2) by rw [c]; rfl)
            have r3 := far_cell (show w4.cell? ⟨b, 3, none⟩ = some (.int .i64 p3) by rw [c]; rfl)
            have r4 := far_cell (show w4.cell? ⟨b, 4, none⟩ = some (.int .i64 p4) by rw [c]; rfl)
            have r5 := far_cell (show w4.cell? ⟨b, 5, none⟩ = some (.int .i64 p5) by rw [c]; rfl)
            have r6 := far_cell (show w4.cell? ⟨b, 6, none⟩ = some (.int .i64 p6) by rw [c]; rfl)
            have HWt := Lib.hid (fun nn os => leaf_Weight_far lb' ys (far w4 nn os) (HLf4.out.below (below_far w4 nn os)))
            clear c hbx hM
            go_wp2
            refine wp_region_quiet_far mixed_ (by kernel_rfl) ?_
            repeat (go_big_quiet_step (((first | (go_at_call 46; exact calls_far (HWt.out _ _)) | (go_at_call 75; exact calls_far (HHo.out _))))))
            refine wpQuiet_nil ?_
            intro _ hw'
            obtain ⟨⟨nq, osq⟩, hw''⟩ := hw'
            subst hw''
            have hb5 := below_far w4 nq osq
            have HL5 := Lib.hid (HL4.out.below hb5)
            have HB5 := Lib.hid (HB4.out.trans (hb5.mono HB4.out.size))
            have HLf5 := Lib.hid (HLf4.out.below hb5)
            generalize far w4 nq osq = w5 at *
            clear hb5 r0 r1 r2 r3 r4 r5 r6 HWt HHo q0 HL4 HB4 HLf4
            cases hd with
            | false =>
              have hlt : planCap n < wt ys := by have := of_decide_eq_false HHD.out.symm; omega
              have e1 : er = 9 := by rw [HE1.out, if_pos hlt]
              have e2 : rs = rows := by rw [HE2.out, if_pos hlt]
              subst e1
              subst e2
              clear hlt
              go_wp2
              go_ret
              exact ⟨rfl, ⟨g, HL5.out.modAt, .inl rfl⟩, Off.of_below HB5.out⟩
            | true =>
              have hlt : ¬ planCap n < wt ys := by have := of_decide_eq_true HHD.out.symm; omega
              have e1 : er = 0 := by rw [HE1.out, if_neg hlt]
              have e2 : rs = rows ++ [ys] := by rw [HE2.out, if_neg hlt]
              subst e1
              subst e2
              clear hlt
              obtain ⟨o, c, cur, bs, hM, _, _⟩ := HL5.out
              have hlen := hM.len
              have hcap := hM.cap
              unfold maxLen at hcap
              have cs : w5.cell? ⟨b, 7, none⟩ = some (.slice (some ⟨g, o, none⟩) rows.length c) := by rw [Lib.cell_of_heap hM.box]; rfl
              obtain ⟨w6, hw6⟩ : ∃ w6, w5.alloc (.cells #[.pointer (some ⟨lb', 0, none⟩)] 96) = w6 := ⟨_, rfl⟩
              have hB6 : Below w5.heap.size w5 w6 := by rw [← hw6]; exact below_alloc1 _ _
              have hv6 : w6.heap[w5.heap.size]? = some (.cells #[.pointer (some ⟨lb', 0, none⟩)] 96 (0, 0)) := by rw [← hw6]; exact heap_alloc_new _ _
              have hM6 := hM.below hB6
              have hLf6 := HLf5.out.below hB6
              have HB6 := Lib.hid (HB5.out.trans (hB6.mono HB5.out.size))
              have HW6 := Lib.hid hw6
              clear hM hw6 hB6
              by_cases hroom : rows.length + 1 ≤ c
              · have hap : (Builtin.append_ #[98, 98] 98 #[.slice (some ⟨g, o, none⟩) rows.length c, .slice (some ⟨w5.heap.size, 0, none⟩) 1 1]).run Tryz.prog w6 = .ok (.slice (some ⟨g, o, none⟩) (rows.length + 1) c) (w6.setRow g (roomCur cur (o + rows.length) lb')) := run_append_ptr_room w6 98 g o rows.length c w5.heap.size lb' cur hM6.row hM6.fits hroom hv6
                have hp := hM6.push_room hLf6 hroom
                have ho := hM6.off_row lb' hroom
                have hof := off_setRow w6 g (roomCur cur (o + rows.length) lb')
                generalize w6.setRow g (roomCur cur (o + rows.length) lb') = w7 at *
                have c7 := Lib.cell_of_heap ho.box 7
                have f7 := Lib.frozen_of_heap ho.box 7
                have HP := Lib.hid hp
                have HOF := Lib.hid hof
                have HAP := Lib.hid hap
                clear hp ho hof hap hM6 hLf6 hv6
                go_wp2_with (first | (rw [HW6.out]) | (at_builtin; refine wpList_append_run rfl _ _ _ rfl _ _ rfl rfl _ _ HAP.out ?_))
                go_ret
                exact ⟨rfl, ⟨g, ⟨_, _, _, _, HP.out⟩, .inl rfl⟩, ((Off.of_below HB6.out).trans HOF.out (fun k _ e => .inr e)).trans (off_setCell _ _ _ _) (fun k _ e => .inl e)⟩
              · obtain ⟨w7, c', hap, hc1, hc2, hb7, hr7⟩ := run_append_ptr_grow w6 98 g o rows.length c w5.heap.size lb' cur hM6.row hM6.fits hM6.len hroom (by omega) hv6
                obtain ⟨cur', hp⟩ := hM6.push_grow hLf6 hb7 hc1 hc2 hr7
                have c7 := Lib.cell_of_heap (hM6.below hb7).box 7
                have f7 := Lib.frozen_of_heap (hM6.below hb7).box 7
                have HP := Lib.hid hp
                have HB7 := Lib.hid (HB6.out.trans (hb7.mono HB6.out.size))
                have HAP := Lib.hid hap
                have HS := Lib.hid HB6.out.size
                clear hp hap hM6 hLf6 hv6 hc1 hc2 hb7 hr7
                go_wp2_with (first | (rw [HW6.out]) | (at_builtin; refine wpList_append_run rfl _ _ _ rfl _ _ rfl rfl _ _ HAP.out ?_))
                go_ret
                exact ⟨rfl, ⟨w6.heap.size, ⟨_, _, _, _, HP.out⟩, .inr HS.out⟩, (Off.of_below HB7.out).trans (off_setCell _ _ _ _) (fun k _ e => .inl e)⟩
    · have e1 : er = 1 := by rw [HER.out]; unfold updErr; rw [if_pos hm]
      have e2 : rs = rows := by rw [HRS.out]; unfold updRows; rw [if_neg]; rintro ⟨h, _⟩; rw [hm] at h; cases h
      subst e1
      subst e2
      have HM := Lib.hid hm
      clear hm
      go_wp2
      go_ret
      exact ⟨rfl, ⟨g, HL3.out.modAt, .inl rfl⟩, Off.of_below HB3.out⟩

end Go.Proofs.YtjpakldnejpleaaGreat
