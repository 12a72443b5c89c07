/- order.Same and model.See. -/
import Derived.Test.YtjpakldnejpleaaGreatBegP
import Derived.Deep.DeepCutAuto
namespace Go.Proofs.YtjpakldnejpleaaGreat
open Go.RowKit

theorem noGuard_stats : Tryz.prog.eqGuardType Tryz.prog.depth 33 = false := by kernel_rfl

theorem equalIn_stats (d : Nat) (a0 a1 a2 a3 a4 a5 a6 a7 a8 b0 b1 b2 b3 b4 b5 b6 b7 b8 : Int) (w : World) :
    (Op.equalIn (d + 2) 33 (.agg #[.int .i64 a0, .int .i64 a1, .int .i64 a2, .int .i64 a3, .int .i64 a4, .int .i64 a5, .int .i64 a6, .int .i64 a7, .int .i64 a8]) (.agg #[.int .i64 b0, .int .i64 b1, .int .i64 b2, .int .i64 b3, .int .i64 b4, .int .i64 b5, .int .i64 b6, .int .i64 b7, .int .i64 b8])).run Tryz.prog w =
      .ok (a0 == b0 && a1 == b1 && a2 == b2 && a3 == b3 && a4 == b4 && a5 == b5 && a6 == b6 && a7 == b7 && a8 == b8) w := by
  rw [run_equalIn_struct (P := Tryz.prog) w (d + 1) 33 _ _ (by kernel_rfl) (by kernel_rfl)]
  have hf : (Tryz.prog.fieldsOf 33).toList.map (fun f => (f.name, f.type, f.offset)) = [("Items", 3, 0), ("Weight", 3, 1), ("Nodes", 3, 2), ("Epoch", 3, 3), ("Pending", 3, 4), ("Logged", 3, 5), ("Free", 3, 6), ("Held", 3, 7), ("Late", 3, 8)] := by kernel_rfl
  generalize (Tryz.prog.fieldsOf 33).toList = fs at hf
  obtain ⟨f0, t0, rfl, e0, hf⟩ := List.map_eq_cons_iff.1 hf
  obtain ⟨f1, t1, rfl, e1, hf⟩ := List.map_eq_cons_iff.1 hf
  obtain ⟨f2, t2, rfl, e2, hf⟩ := List.map_eq_cons_iff.1 hf
  obtain ⟨f3, t3, rfl, e3, hf⟩ := List.map_eq_cons_iff.1 hf
  obtain ⟨f4, t4, rfl, e4, hf⟩ := List.map_eq_cons_iff.1 hf
  obtain ⟨f5, t5, rfl, e5, hf⟩ := List.map_eq_cons_iff.1 hf
  obtain ⟨f6, t6, rfl, e6, hf⟩ := List.map_eq_cons_iff.1 hf
  obtain ⟨f7, t7, rfl, e7, hf⟩ := List.map_eq_cons_iff.1 hf
  obtain ⟨f8, t8, rfl, e8, hf⟩ := List.map_eq_cons_iff.1 hf
  obtain rfl := List.map_eq_nil_iff.1 hf
  simp only [Prod.mk.injEq] at e0 e1 e2 e3 e4 e5 e6 e7 e8
  obtain ⟨x0, y0, z0⟩ := e0
  obtain ⟨x1, y1, z1⟩ := e1
  obtain ⟨x2, y2, z2⟩ := e2
  obtain ⟨x3, y3, z3⟩ := e3
  obtain ⟨x4, y4, z4⟩ := e4
  obtain ⟨x5, y5, z5⟩ := e5
  obtain ⟨x6, y6, z6⟩ := e6
  obtain ⟨x7, y7, z7⟩ := e7
  obtain ⟨x8, y8, z8⟩ := e8
  simp [Op.eqFields, x0, y0, z0, x1, y1, z1, x2, y2, z2, x3, y3, z3, x4, y4, z4, x5, y5, z5, x6, y6, z6, x7, y7, z7, x8, y8, z8, go_sem, run_equalIn_int _ _ _ _ _ _ _ Tryz.underlying3]
  repeat' split
  all_goals simp_all

/-- An answer, all of it. -/
structure Ans where
  err : Int
  has : Bool
  val : ByteArray
  items : List It
  s0 : Int
  s1 : Int
  s2 : Int
  s3 : Int
  s4 : Int
  s5 : Int
  s6 : Int
  s7 : Int
  s8 : Int
deriving DecidableEq

def Ans.stats (a : Ans) : List Int := [a.s0, a.s1, a.s2, a.s3, a.s4, a.s5, a.s6, a.s7, a.s8]
def Ans.agg (a : Ans) (A : Option Addr) (c : Nat) : Value := .agg #[.int .i64 a.err, .bool a.has, .string a.val, .slice A a.items.length c, .int .i64 a.s0, .int .i64 a.s1, .int .i64 a.s2, .int .i64 a.s3, .int .i64 a.s4, .int .i64 a.s5, .int .i64 a.s6, .int .i64 a.s7, .int .i64 a.s8]
def An.ans (a : An) : Ans := ⟨a.err, a.has, a.val, a.items, a.si, a.sw, 0, 0, 0, 0, 0, 0, 0⟩

theorem eql_stats (x y : Ans) (w : World) : (binOp .eql 33 (.agg #[.int .i64 x.s0, .int .i64 x.s1, .int .i64 x.s2, .int .i64 x.s3, .int .i64 x.s4, .int .i64 x.s5, .int .i64 x.s6, .int .i64 x.s7, .int .i64 x.s8]) (.agg #[.int .i64 y.s0, .int .i64 y.s1, .int .i64 y.s2, .int .i64 y.s3, .int .i64 y.s4, .int .i64 y.s5, .int .i64 y.s6, .int .i64 y.s7, .int .i64 y.s8])).run Tryz.prog w = .ok (.bool (decide (x.stats = y.stats))) w := by
  rw [run_eql_struct, equalIn_stats 9998]
  have : (x.s0 == y.s0 && x.s1 == y.s1 && x.s2 == y.s2 && x.s3 == y.s3 && x.s4 == y.s4 && x.s5 == y.s5 && x.s6 == y.s6 && x.s7 == y.s7 && x.s8 == y.s8) = decide (x.stats = y.stats) := by
    rw [Bool.eq_iff_iff]
    simp [Ans.stats, and_assoc]
  rw [this]
  rfl

theorem Ans.eq_iff (a b : Ans) : a = b ↔ a.err = b.err ∧ a.has = b.has ∧ a.val = b.val ∧ a.items = b.items ∧ a.stats = b.stats := by
  cases a; cases b
  simp [Ans.stats]

set_option maxHeartbeats 4000000 in
set_option maxRecDepth 100000 in
theorem order_Same (a b : Ans) (A A' : Option Addr) (c c' : Nat) (w : World) (hs : SlIt w A c a.items) (hs' : SlIt w A' c' b.items) :
    Calls Tryz.prog 31 #[a.agg A c, b.agg A' c'] w fun e w' => e = .returned (.bool (decide (a = b))) ∧ Below w.heap.size w w' := by
  obtain ⟨r, hr⟩ : ∃ r, r = decide (a = b) := ⟨_, rfl⟩
  rw [← hr]
  have hst := eql_stats a b
  have hgs := noGuard_stats
  obtain ⟨st, hstd⟩ : ∃ st, st = decide (a.stats = b.stats) := ⟨_, rfl⟩
  rw [← hstd] at hst
  have HSTD := Lib.hid hstd
  have hr2 : r = (decide (a.err = b.err) && decide (a.has = b.has) && decide (a.val = b.val) && decide (a.items = b.items) && st) := by
    rw [hr, hstd, Bool.eq_iff_iff]
    simp only [Bool.and_eq_true, decide_eq_true_eq, Ans.eq_iff, and_assoc]
  clear hr hstd
  unfold Ans.agg
  obtain ⟨aerr, ahas, aval, aits, as0, as1, as2, as3, as4, as5, as6, as7, as8⟩ := a
  obtain ⟨berr, bhas, bval, bits, bs0, bs1, bs2, bs3, bs4, bs5, bs6, bs7, bs8⟩ := b
  simp only at hst hr2 hs hs' ⊢
  obtain ⟨w2, hw2⟩ : ∃ w2, (w.alloc (.cells #[.int .i64 aerr, .bool ahas, .string aval, .slice A aits.length c, .int .i64 as0, .int .i64 as1, .int .i64 as2, .int .i64 as3, .int .i64 as4, .int .i64 as5, .int .i64 as6, .int .i64 as7, .int .i64 as8] 35)).alloc (.cells #[.int .i64 berr, .bool bhas, .string bval, .slice A' bits.length c', .int .i64 bs0, .int .i64 bs1, .int .i64 bs2, .int .i64 bs3, .int .i64 bs4, .int .i64 bs5, .int .i64 bs6, .int .i64 bs7, .int .i64 bs8] 35) = w2 := ⟨_, rfl⟩
  have hB2 : Below w.heap.size w w2 := by rw [← hw2]; exact (below_alloc_1 w _).alloc (by simp) _
  have hX : w2.heap[w.heap.size]? = some (.cells #[.int .i64 aerr, .bool ahas, .string aval, .slice A aits.length c, .int .i64 as0, .int .i64 as1, .int .i64 as2, .int .i64 as3, .int .i64 as4, .int .i64 as5, .int .i64 as6, .int .i64 as7, .int .i64 as8] 35 (0, 0)) := by
    rw [← hw2, heap_alloc_old _ _ (by simp)]
    exact heap_alloc_new w _
  have hY : w2.heap[w.heap.size + 1]? = some (.cells #[.int .i64 berr, .bool bhas, .string bval, .slice A' bits.length c', .int .i64 bs0, .int .i64 bs1, .int .i64 bs2, .int .i64 bs3, .int .i64 bs4, .int .i64 bs5, .int .i64 bs6, .int .i64 bs7, .int .i64 bs8] 35 (0, 0)) := by
    rw [← hw2]
    have := heap_alloc_new (w.alloc (.cells #[.int .i64 aerr, .bool ahas, .string aval, .slice A aits.length c, .int .i64 as0, .int .i64 as1, .int .i64 as2, .int .i64 as3, .int .i64 as4, .int .i64 as5, .int .i64 as6, .int .i64 as7, .int .i64 as8] 35)) (.cells #[.int .i64 berr, .bool bhas, .string bval, .slice A' bits.length c', .int .i64 bs0, .int .i64 bs1, .int .i64 bs2, .int .i64 bs3, .int .i64 bs4, .int .i64 bs5, .int .i64 bs6, .int .i64 bs7, .int .i64 bs8] 35)
    simpa using this
  have cx := Lib.cell_of_heap hX
  have cy := Lib.cell_of_heap hY
  have HW := Lib.hid hw2
  have HB2 := Lib.hid hB2
  have HX := Lib.hid hX
  have HY := Lib.hid hY
  have HE := Lib.hid (sl_Equal_it A A' c c' aits bits w2 (hs.below_ hB2) (hs'.below_ hB2))
  have HR := Lib.hid hr2
  clear hw2 hB2 hX hY hs hs' hr2
  have eb : ∀ x y : ByteArray, x ≠ y → (x.toList == y.toList) = false := fun x y h => beq_eq_false_iff_ne.2 (fun e => h (bytes_toList_inj.1 e))
  have et : ∀ x y : ByteArray, x = y → (x.toList == y.toList) = true := fun x y h => beq_iff_eq.2 (by rw [h])
  have EB := Lib.hid eb
  have ET := Lib.hid et
  clear eb et
  by_cases h1 : aerr = berr
  · have g1 : (aerr == berr) = true := by simp [h1]
    have H1 := Lib.hid h1
    clear h1
    by_cases h2 : ahas = bhas
    · have g2 : (ahas == bhas) = true := by simp [h2]
      have H2 := Lib.hid h2
      clear h2
      by_cases h3 : aval = bval
      · have g3 := ET.out aval bval h3
        have H3 := Lib.hid h3
        clear h3
        by_cases h4 : aits = bits
        · have HE' := HE.out
          rw [decide_eq_true h4] at HE'
          have HE' := Lib.hid HE'
          have e1 : r = st := by rw [HR.out]; simp [H1.out, H2.out, H3.out, h4]
          subst e1
          clear h4 HE
          go_enter Tryz.func31, Tryz.ntmps31
          go_wp2_with (first | (rw [HW.out]) | fail)
          refine HE'.out.mono ?_
          rintro e w3 ⟨rfl, hb3⟩
          have cx := Lib.cell_of_heap ((hb3.block _ (Array.getElem?_eq_some_iff.1 HX.out).1).trans HX.out)
          have cy := Lib.cell_of_heap ((hb3.block _ (Array.getElem?_eq_some_iff.1 HY.out).1).trans HY.out)
          have HB3 := Lib.hid (HB2.out.trans (hb3.mono HB2.out.size))
          clear hb3
          go_wp2
          go_ret
          exact ⟨rfl, HB3.out⟩
        · have HE' := HE.out
          rw [decide_eq_false h4] at HE'
          have HE' := Lib.hid HE'
          have e1 : r = false := by rw [HR.out]; simp [h4]
          subst e1
          clear h4 HE
          go_enter Tryz.func31, Tryz.ntmps31
          go_wp2_with (first | (rw [HW.out]) | fail)
          refine HE'.out.mono ?_
          rintro e w3 ⟨rfl, hb3⟩
          have HB3 := Lib.hid (HB2.out.trans (hb3.mono HB2.out.size))
          clear hb3
          go_wp2
          go_ret
          exact ⟨rfl, HB3.out⟩
      · have g3 := EB.out aval bval h3
        have e1 : r = false := by rw [HR.out]; simp [h3]
        subst e1
        clear h3
        go_enter Tryz.func31, Tryz.ntmps31
        go_wp2_with (first | (rw [HW.out]) | fail)
        go_ret
        exact ⟨rfl, HB2.out⟩
    · have g2 : (ahas == bhas) = false := by simpa using h2
      have e1 : r = false := by rw [HR.out]; simp [h2]
      subst e1
      clear h2
      go_enter Tryz.func31, Tryz.ntmps31
      go_wp2_with (first | (rw [HW.out]) | fail)
      go_ret
      exact ⟨rfl, HB2.out⟩
  · have g1 : (aerr == berr) = false := by simpa using h1
    have e1 : r = false := by rw [HR.out]; simp [h1]
    subst e1
    clear h1
    go_enter Tryz.func31, Tryz.ntmps31
    go_wp2_with (first | (rw [HW.out]) | fail)
    go_ret
    exact ⟨rfl, HB2.out⟩

end Go.Proofs.YtjpakldnejpleaaGreat
