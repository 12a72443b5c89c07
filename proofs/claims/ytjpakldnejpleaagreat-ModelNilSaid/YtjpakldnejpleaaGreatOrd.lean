/- order: fields, bare, isLong, Is. -/
import Derived.Test.YtjpakldnejpleaaGreatCapa
import Derived.Test.YtjpakldnejpleaaGreatIdx
import Derived.Laws.EntriesVeiled
namespace Go.Proofs.YtjpakldnejpleaaGreat
open Go.RowKit

/-- An order. -/
structure Od where
  kind : Int
  k : ByteArray
  v : ByteArray
  n : Nat
  lo : ByteArray
  hi : ByteArray
deriving Inhabited, DecidableEq

def Od.cells (o : Od) : Array Value := #[.int .i64 o.kind, .string o.k, .string o.v, .int .u64 o.n, .string o.lo, .string o.hi]
def Od.agg (o : Od) : Value := .agg #[.int .i64 o.kind, .string o.k, .string o.v, .int .u64 o.n, .string o.lo, .string o.hi]

def Od.bare (o : Od) : Od :=
  if o.kind = 1 then ⟨o.kind, o.k, o.v, 0, ⟨#[]⟩, ⟨#[]⟩⟩
  else if o.kind = 2 ∨ o.kind = 4 then ⟨o.kind, o.k, ⟨#[]⟩, 0, ⟨#[]⟩, ⟨#[]⟩⟩
  else if o.kind = 3 then ⟨o.kind, o.k, ⟨#[]⟩, o.n, ⟨#[]⟩, ⟨#[]⟩⟩
  else if o.kind = 5 then ⟨o.kind, ⟨#[]⟩, ⟨#[]⟩, 0, o.lo, o.hi⟩
  else ⟨o.kind, ⟨#[]⟩, ⟨#[]⟩, 0, ⟨#[]⟩, ⟨#[]⟩⟩

def kindIs (kind : Int) : Bool := decide (1 ≤ kind) && decide (kind ≤ 8)
def odIs (o : Od) : Bool := kindIs o.kind && decide (o.bare = o) && !([o.k, o.v, o.lo, o.hi].any fun s => decide (255 < s.size))

set_option maxHeartbeats 1000000 in
theorem order_isLong (s : ByteArray) (w : World) : Calls Tryz.prog 69 #[.string s] w fun e w' => e = .returned (.bool (decide (255 < s.size))) ∧ Below w.heap.size w w' := by
  obtain ⟨r, hr⟩ : ∃ r, r = decide (255 < s.size) := ⟨_, rfl⟩
  rw [← hr]
  have HR := Lib.hid hr
  clear hr
  go_enter Tryz.func69, Tryz.ntmps69
  go_wp2
  go_ret
  refine ⟨?_, Below.refl _ _⟩
  rw [HR.out]
  simp
  omega

set_option maxHeartbeats 2000000 in
theorem order_fields (kind : Int) (w : World) : Calls Tryz.prog 66 #[.int .i64 kind] w fun e w' => (∃ v, e = .returned (.tuple #[v, .bool (kindIs kind)])) ∧ Below w.heap.size w w' := by
  obtain ⟨r, hr⟩ : ∃ r, r = kindIs kind := ⟨_, rfl⟩
  rw [← hr]
  unfold kindIs at hr
  have HR := Lib.hid hr
  clear hr
  have b1 := below_alloc_1 w (.cells #[.func (.func 92) #[] #[], .func (.func 93) #[] #[]] 158)
  have HB := Lib.hid b1
  clear b1
  by_cases h : kind = 1 ∨ kind = 2 ∨ kind = 3 ∨ kind = 4 ∨ kind = 5
  · rcases h with rfl | rfl | rfl | rfl | rfl
    all_goals
      go_enter Tryz.func66, Tryz.ntmps66
      go_wp2
      go_ret2
      refine ⟨⟨_, by rw [HR.out]; rfl⟩, ((HB.out.alloc (by simp) _))⟩
  · have g1 : (kind == 1) = false := by simp; omega
    have g2 : (kind == 2) = false := by simp; omega
    have g3 : (kind == 3) = false := by simp; omega
    have g4 : (kind == 4) = false := by simp; omega
    have g5 : (kind == 5) = false := by simp; omega
    by_cases h6 : 6 ≤ kind
    · have hr : r = decide (kind ≤ 8) := by rw [HR.out, decide_eq_true (by omega : 1 ≤ kind)]; rfl
      have HR2 := Lib.hid hr
      have g6 : decide (6 ≤ kind) = true := by simpa using h6
      clear h h6 hr
      go_enter Tryz.func66, Tryz.ntmps66
      go_wp2
      go_ret2
      exact ⟨⟨_, by rw [HR2.out]; rfl⟩, HB.out⟩
    · have hr : r = false := by rw [HR.out, decide_eq_false (by omega : ¬ 1 ≤ kind)]; rfl
      have HR2 := Lib.hid hr
      have g6 : decide (6 ≤ kind) = false := by simp; omega
      clear h h6 hr
      go_enter Tryz.func66, Tryz.ntmps66
      go_wp2
      go_ret2
      exact ⟨⟨_, by rw [HR2.out]; rfl⟩, HB.out⟩

set_option maxHeartbeats 4000000 in
set_option maxRecDepth 100000 in
theorem order_bare (o : Od) (w : World) : Calls Tryz.prog 67 #[o.agg] w fun e w' => e = .returned o.bare.agg ∧ Below w.heap.size w w' := by
  obtain ⟨r, hr⟩ : ∃ r, r = o.bare := ⟨_, rfl⟩
  rw [← hr]
  unfold Od.bare at hr
  unfold Od.agg
  have HR := Lib.hid hr
  clear hr
  obtain ⟨kind, k, v, n, lo, hi⟩ := o
  simp only at HR ⊢
  by_cases h1 : kind = 1
  · subst h1
    obtain rfl : r = ⟨1, k, v, 0, ⟨#[]⟩, ⟨#[]⟩⟩ := by rw [HR.out]; rfl
    clear HR
    go_enter Tryz.func67, Tryz.ntmps67
    go_wp2
    try (go_region; go_wp2)
    exact bodyPost_ret (v := (⟨1, k, v, 0, ⟨#[]⟩, ⟨#[]⟩⟩ : Od).agg) (by simp [results, Tryz.results67, go_sem, Od.agg]) rfl ⟨rfl, by first | exact (((below_alloc_1 w _).alloc (by simp) _).alloc (by simp; omega) _).drew | exact (((below_alloc_1 w _).alloc (by simp) _).alloc (by simp; omega) _)⟩
  by_cases h2 : kind = 2
  · subst h2
    obtain rfl : r = ⟨2, k, ⟨#[]⟩, 0, ⟨#[]⟩, ⟨#[]⟩⟩ := by rw [HR.out]; rfl
    clear HR
    go_enter Tryz.func67, Tryz.ntmps67
    go_wp2
    try (go_region; go_wp2)
    exact bodyPost_ret (v := (⟨2, k, ⟨#[]⟩, 0, ⟨#[]⟩, ⟨#[]⟩⟩ : Od).agg) (by simp [results, Tryz.results67, go_sem, Od.agg]) rfl ⟨rfl, by first | exact (((below_alloc_1 w _).alloc (by simp) _).alloc (by simp; omega) _).drew | exact (((below_alloc_1 w _).alloc (by simp) _).alloc (by simp; omega) _)⟩
  by_cases h4 : kind = 4
  · subst h4
    obtain rfl : r = ⟨4, k, ⟨#[]⟩, 0, ⟨#[]⟩, ⟨#[]⟩⟩ := by rw [HR.out]; rfl
    clear HR
    go_enter Tryz.func67, Tryz.ntmps67
    go_wp2
    try (go_region; go_wp2)
    exact bodyPost_ret (v := (⟨4, k, ⟨#[]⟩, 0, ⟨#[]⟩, ⟨#[]⟩⟩ : Od).agg) (by simp [results, Tryz.results67, go_sem, Od.agg]) rfl ⟨rfl, by first | exact (((below_alloc_1 w _).alloc (by simp) _).alloc (by simp; omega) _).drew | exact (((below_alloc_1 w _).alloc (by simp) _).alloc (by simp; omega) _)⟩
  by_cases h3 : kind = 3
  · subst h3
    obtain rfl : r = ⟨3, k, ⟨#[]⟩, n, ⟨#[]⟩, ⟨#[]⟩⟩ := by rw [HR.out]; rfl
    clear HR
    go_enter Tryz.func67, Tryz.ntmps67
    go_wp2
    try (go_region; go_wp2)
    exact bodyPost_ret (v := (⟨3, k, ⟨#[]⟩, n, ⟨#[]⟩, ⟨#[]⟩⟩ : Od).agg) (by simp [results, Tryz.results67, go_sem, Od.agg]) rfl ⟨rfl, by first | exact (((below_alloc_1 w _).alloc (by simp) _).alloc (by simp; omega) _).drew | exact (((below_alloc_1 w _).alloc (by simp) _).alloc (by simp; omega) _)⟩
  by_cases h5 : kind = 5
  · subst h5
    obtain rfl : r = ⟨5, ⟨#[]⟩, ⟨#[]⟩, 0, lo, hi⟩ := by rw [HR.out]; rfl
    clear HR
    go_enter Tryz.func67, Tryz.ntmps67
    go_wp2
    try (go_region; go_wp2)
    exact bodyPost_ret (v := (⟨5, ⟨#[]⟩, ⟨#[]⟩, 0, lo, hi⟩ : Od).agg) (by simp [results, Tryz.results67, go_sem, Od.agg]) rfl ⟨rfl, by first | exact (((below_alloc_1 w _).alloc (by simp) _).alloc (by simp; omega) _).drew | exact (((below_alloc_1 w _).alloc (by simp) _).alloc (by simp; omega) _)⟩
  · obtain rfl : r = ⟨kind, ⟨#[]⟩, ⟨#[]⟩, 0, ⟨#[]⟩, ⟨#[]⟩⟩ := by rw [HR.out]; simp [h1, h2, h3, h4, h5]
    have g1 : (kind == 1) = false := by simpa using h1
    have g2 : (kind == 2) = false := by simpa using h2
    have g3 : (kind == 3) = false := by simpa using h3
    have g4 : (kind == 4) = false := by simpa using h4
    have g5 : (kind == 5) = false := by simpa using h5
    clear HR h1 h2 h3 h4 h5
    go_enter Tryz.func67, Tryz.ntmps67
    go_wp2
    try (go_region; go_wp2)
    exact bodyPost_ret (v := (⟨kind, ⟨#[]⟩, ⟨#[]⟩, 0, ⟨#[]⟩, ⟨#[]⟩⟩ : Od).agg) (by simp [results, Tryz.results67, go_sem, Od.agg]) rfl ⟨rfl, by first | exact (((below_alloc_1 w _).alloc (by simp) _).alloc (by simp; omega) _).drew | exact (((below_alloc_1 w _).alloc (by simp) _).alloc (by simp; omega) _)⟩

theorem noGuard_order : Tryz.prog.eqGuardType Tryz.prog.depth 39 = false := by kernel_rfl
theorem equalIn_order (d : Nat) (x y : Od) (w : World) : (Op.equalIn (d + 2) 39 x.agg y.agg).run Tryz.prog w = .ok (decide (x = y)) w := by
  unfold Od.agg
  rw [run_equalIn_struct (P := Tryz.prog) w (d + 1) 39 _ _ (by kernel_rfl) (by kernel_rfl)]
  have hf : (Tryz.prog.fieldsOf 39).toList.map (fun f => (f.name, f.type, f.offset)) = [("Kind", 3, 0), ("Key", 9, 1), ("Val", 9, 2), ("N", 37, 3), ("Lo", 9, 4), ("Hi", 9, 5)] := by kernel_rfl
  have hd : decide (x = y) = (x.kind == y.kind && x.k.toList == y.k.toList && x.v.toList == y.v.toList && (x.n : Int) == (y.n : Int) && x.lo.toList == y.lo.toList && x.hi.toList == y.hi.toList) := by
    cases x; cases y
    rw [Bool.eq_iff_iff]
    simp [bytes_toList_inj, and_assoc]
    omega
  rw [hd]
  generalize (Tryz.prog.fieldsOf 39).toList = fs at hf
  obtain ⟨f1, t1, rfl, e1, hf⟩ := List.map_eq_cons_iff.1 hf
  obtain ⟨f2, t2, rfl, e2, hf⟩ := List.map_eq_cons_iff.1 hf
  obtain ⟨f3, t3, rfl, e3, hf⟩ := List.map_eq_cons_iff.1 hf
  obtain ⟨f4, t4, rfl, e4, hf⟩ := List.map_eq_cons_iff.1 hf
  obtain ⟨f5, t5, rfl, e5, hf⟩ := List.map_eq_cons_iff.1 hf
  obtain ⟨f6, t6, rfl, e6, hf⟩ := List.map_eq_cons_iff.1 hf
  obtain rfl := List.map_eq_nil_iff.1 hf
  simp only [Prod.mk.injEq] at e1 e2 e3 e4 e5 e6
  obtain ⟨a1, a2, a3⟩ := e1
  obtain ⟨b1, b2, b3⟩ := e2
  obtain ⟨c1, c2, c3⟩ := e3
  obtain ⟨d1, d2, d3⟩ := e4
  obtain ⟨i1, i2, i3⟩ := e5
  obtain ⟨j1, j2, j3⟩ := e6
  simp [Op.eqFields, a1, a2, a3, b1, b2, b3, c1, c2, c3, d1, d2, d3, i1, i2, i3, j1, j2, j3, go_sem, run_equalIn_string _ _ _ _ _ Tryz.underlying9, run_equalIn_int _ _ _ _ _ _ _ Tryz.underlying3, run_equalIn_int _ _ _ _ _ _ _ Tryz.underlying37]
  repeat' split
  all_goals simp_all
theorem eql_order (x y : Od) (w : World) : (binOp .eql 39 x.agg y.agg).run Tryz.prog w = .ok (.bool (decide (x = y))) w := by
  have := equalIn_order 9998 x y w
  unfold Od.agg at *
  rw [run_eql_struct, this]; rfl

theorem enters_of_isLong : ∀ args w, (callFunc 69 args).run Tryz.prog w = .ok (.enter 69 args) w :=
  enters_of Tryz.func69 (by kernel_rfl) rfl

set_option maxHeartbeats 4000000 in
set_option maxRecDepth 100000 in
theorem order_Is (o : Od) (w : World) : Calls Tryz.prog 39 #[o.agg] w fun e w' => e = .returned (.bool (odIs o)) ∧ Below w.heap.size w w' := by
  obtain ⟨r, hr⟩ : ∃ r, r = odIs o := ⟨_, rfl⟩
  rw [← hr]
  have HR := Lib.hid hr
  have HX := Lib.hid (heap_alloc_new w (.cells #[.int .i64 o.kind, .string o.k, .string o.v, .int .u64 o.n, .string o.lo, .string o.hi] 39))
  have HB := Lib.hid (below_alloc1 w (.cells #[.int .i64 o.kind, .string o.k, .string o.v, .int .u64 o.n, .string o.lo, .string o.hi] 39))
  have HF := Lib.hid (order_fields o.kind (w.alloc (.cells #[.int .i64 o.kind, .string o.k, .string o.v, .int .u64 o.n, .string o.lo, .string o.hi] 39)))
  have HBR := Lib.hid (fun W => order_bare o W)
  clear hr
  have heq := eql_order o.bare o
  have hgu := noGuard_order
  obtain ⟨d, hd⟩ : ∃ d, d = decide (o.bare = o) := ⟨_, rfl⟩
  rw [← hd] at heq
  have HD := Lib.hid hd
  clear hd
  obtain ⟨br, hbr⟩ : ∃ br, br = o.bare := ⟨_, rfl⟩
  rw [← hbr] at heq
  have HBE := Lib.hid hbr
  rw [← hbr] at HBR
  clear hbr
  unfold Od.agg at *
  obtain ⟨ki, hki⟩ : ∃ ki, ki = kindIs o.kind := ⟨_, rfl⟩
  rw [← hki] at HF
  have HKI := Lib.hid hki
  clear hki
  have hw0 : w.heap.size < (w.alloc (.cells #[.int .i64 o.kind, .string o.k, .string o.v, .int .u64 o.n, .string o.lo, .string o.hi] 39)).heap.size := by simp
  cases ki with
  | false =>
    have hrf : r = false := by rw [HR.out]; unfold odIs; rw [← HKI.out]; rfl
    subst hrf
    go_enter Tryz.func39, Tryz.ntmps39
    go_wp2_with fail
    refine HF.out.mono ?_
    rintro e w1 ⟨⟨fv, rfl⟩, hb1⟩
    have HX1 := Lib.hid ((hb1.block _ hw0).trans HX.out)
    have HB1 := Lib.hid (HB.out.trans (hb1.mono HB.out.size))
    have cc := Lib.cell_of_heap HX1.out
    have q0 := far_cell (show w1.cell? ⟨w.heap.size, 0, none⟩ = some (.int .i64 o.kind) by rw [cc]; rfl)
    have q1 := far_cell (show w1.cell? ⟨w.heap.size, 1, none⟩ = some (.string o.k) by rw [cc]; rfl)
    have q2 := far_cell (show w1.cell? ⟨w.heap.size, 2, none⟩ = some (.string o.v) by rw [cc]; rfl)
    have q3 := far_cell (show w1.cell? ⟨w.heap.size, 3, none⟩ = some (.int .u64 o.n) by rw [cc]; rfl)
    have q4 := far_cell (show w1.cell? ⟨w.heap.size, 4, none⟩ = some (.string o.lo) by rw [cc]; rfl)
    have q5 := far_cell (show w1.cell? ⟨w.heap.size, 5, none⟩ = some (.string o.hi) by rw [cc]; rfl)
    clear hb1 HF cc hw0
    go_wp2_with fail
    refine wp_region_far_tail 16 mixed_ (by kernel_rfl) ?_
    simp only [List.take_succ_cons, List.take_zero, List.drop_succ_cons, List.drop_zero]
    repeat (go_big_quiet_step ((fail)))
    refine wpQuiet_nil ?_
    intro _ hw'
    obtain ⟨⟨nq, osq⟩, hw''⟩ := hw'
    subst hw''
    have hb5 := below_far w1 nq osq
    have HB5 := Lib.hid (HB1.out.trans (hb5.mono HB1.out.size))
    generalize far w1 nq osq = w2 at *
    clear hb5 q0 q1 q2 q3 q4 q5
    go_wp2
    go_ret
    exact ⟨rfl, HB5.out⟩
  | true =>
    cases d with
    | false =>
      have hrf : r = false := by rw [HR.out]; unfold odIs; rw [← HKI.out, ← HD.out]; rfl
      subst hrf
      go_enter Tryz.func39, Tryz.ntmps39
      go_wp2_with fail
      refine HF.out.mono ?_
      rintro e w1 ⟨⟨fv, rfl⟩, hb1⟩
      have HX1 := Lib.hid ((hb1.block _ hw0).trans HX.out)
      have HB1 := Lib.hid (HB.out.trans (hb1.mono HB.out.size))
      have cc := Lib.cell_of_heap HX1.out
      have q0 := far_cell (show w1.cell? ⟨w.heap.size, 0, none⟩ = some (.int .i64 o.kind) by rw [cc]; rfl)
      have q1 := far_cell (show w1.cell? ⟨w.heap.size, 1, none⟩ = some (.string o.k) by rw [cc]; rfl)
      have q2 := far_cell (show w1.cell? ⟨w.heap.size, 2, none⟩ = some (.string o.v) by rw [cc]; rfl)
      have q3 := far_cell (show w1.cell? ⟨w.heap.size, 3, none⟩ = some (.int .u64 o.n) by rw [cc]; rfl)
      have q4 := far_cell (show w1.cell? ⟨w.heap.size, 4, none⟩ = some (.string o.lo) by rw [cc]; rfl)
      have q5 := far_cell (show w1.cell? ⟨w.heap.size, 5, none⟩ = some (.string o.hi) by rw [cc]; rfl)
      clear hb1 HF cc hw0
      go_wp2_with fail
      refine wp_region_far_tail 16 mixed_ (by kernel_rfl) ?_
      simp only [List.take_succ_cons, List.take_zero, List.drop_succ_cons, List.drop_zero]
      repeat (go_big_quiet_step ((go_at_call 67; exact calls_far (HBR.out _))))
      refine wpQuiet_nil ?_
      intro _ hw'
      obtain ⟨⟨nq, osq⟩, hw''⟩ := hw'
      subst hw''
      have hb5 := below_far w1 nq osq
      have HB5 := Lib.hid (HB1.out.trans (hb5.mono HB1.out.size))
      generalize far w1 nq osq = w2 at *
      clear hb5 q0 q1 q2 q3 q4 q5
      go_wp2
      go_ret
      exact ⟨rfl, HB5.out⟩
    | true =>
      have hrf : r = !([o.k, o.v, o.lo, o.hi].any fun s => decide (255 < s.size)) := by rw [HR.out]; unfold odIs; rw [← HKI.out, ← HD.out]; rfl
      have HRF := Lib.hid hrf
      clear hrf
      go_enter Tryz.func39, Tryz.ntmps39
      go_wp2_with fail
      refine HF.out.mono ?_
      rintro e w1 ⟨⟨fv, rfl⟩, hb1⟩
      have HX1 := Lib.hid ((hb1.block _ hw0).trans HX.out)
      have HB1 := Lib.hid (HB.out.trans (hb1.mono HB.out.size))
      have cc := Lib.cell_of_heap HX1.out
      have q0 := far_cell (show w1.cell? ⟨w.heap.size, 0, none⟩ = some (.int .i64 o.kind) by rw [cc]; rfl)
      have q1 := far_cell (show w1.cell? ⟨w.heap.size, 1, none⟩ = some (.string o.k) by rw [cc]; rfl)
      have q2 := far_cell (show w1.cell? ⟨w.heap.size, 2, none⟩ = some (.string o.v) by rw [cc]; rfl)
      have q3 := far_cell (show w1.cell? ⟨w.heap.size, 3, none⟩ = some (.int .u64 o.n) by rw [cc]; rfl)
      have q4 := far_cell (show w1.cell? ⟨w.heap.size, 4, none⟩ = some (.string o.lo) by rw [cc]; rfl)
      have q5 := far_cell (show w1.cell? ⟨w.heap.size, 5, none⟩ = some (.string o.hi) by rw [cc]; rfl)
      clear hb1 HF cc hw0
      go_wp2_with fail
      refine wp_region_far_tail 16 mixed_ (by kernel_rfl) ?_
      simp only [List.take_succ_cons, List.take_zero, List.drop_succ_cons, List.drop_zero]
      repeat (go_big_quiet_step ((go_at_call 67; exact calls_far (HBR.out _))))
      refine wpQuiet_nil ?_
      intro _ hw'
      obtain ⟨⟨nq, osq⟩, hw''⟩ := hw'
      subst hw''
      have hb5 := below_far w1 nq osq
      have HB5 := Lib.hid (HB1.out.trans (hb5.mono HB1.out.size))
      generalize far w1 nq osq = w2 at *
      clear hb5 q0 q1 q2 q3 q4 q5
      have hbn := below_alloc1 w2 (.cells #[.string o.k, .string o.v, .string o.lo, .string o.hi] 9)
      have hn := heap_alloc_new w2 (.cells #[.string o.k, .string o.v, .string o.lo, .string o.hi] 9)
      have hnl := (Array.getElem?_eq_some_iff.1 hn).1
      have HC := Lib.hid (sl_ContainsFunc_str 69 #[] (fun s => decide (255 < s.size)) (some ⟨w2.heap.size, 0, none⟩) 4 [o.k, o.v, o.lo, o.hi] (w2.alloc (.cells #[.string o.k, .string o.v, .string o.lo, .string o.hi] 9))
        ⟨Nat.le_refl _, by unfold maxLen; simp, fun _ => ⟨_, 0, rfl, hnl, fun i x hx => by
          rw [Lib.cell_of_heap hn]
          match i, hx with
          | 0, hx => cases hx; rfl
          | 1, hx => cases hx; rfl
          | 2, hx => cases hx; rfl
          | 3, hx => cases hx; rfl⟩⟩ enters_of_isLong (fun W x _ => order_isLong x W))
      have HBN := Lib.hid hbn
      obtain ⟨lg, hlg⟩ : ∃ lg, lg = ([o.k, o.v, o.lo, o.hi].any fun s => decide (255 < s.size)) := ⟨_, rfl⟩
      rw [← hlg] at HC HRF
      clear hbn hn hnl hlg
      go_wp2_with fail
      refine HC.out.mono ?_
      rintro e w3 ⟨rfl, hb3⟩
      have HB3 := Lib.hid (HB5.out.trans ((HBN.out.trans (hb3.mono HBN.out.size)).mono HB5.out.size))
      clear hb3 HC
      go_wp2
      go_ret
      exact ⟨by rw [HRF.out]; rfl, HB3.out⟩

end Go.Proofs.YtjpakldnejpleaaGreat
