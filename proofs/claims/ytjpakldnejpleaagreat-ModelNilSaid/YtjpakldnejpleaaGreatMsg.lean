/- Layer 8 (msg): OfPut, OfDel, OfAdd, Is, Apply. -/
import Derived.Test.YtjpakldnejpleaaGreatKeyVal
import Derived.Test.YtjpakldnejpleaaGreatLeaf
namespace Go.Proofs.YtjpakldnejpleaaGreat
open Go.RowKit

structure Ms where
  kind : Int
  k : ByteArray
  v : ByteArray
deriving DecidableEq

def Ms.agg (m : Ms) : Value := .agg #[.int .i64 m.kind, .string m.k, .string m.v]

def valIs (kind : Int) (n : Nat) : Bool := (kind == 1 && decide (n ≤ 16)) || (kind == 2 && n == 0) || (kind == 3 && n == 8)
def msgIs (m : Ms) : Bool := keyIs m.k && valIs m.kind m.v.size
def msgSum (a b : ByteArray) : ByteArray := if a.size = 8 ∧ b.size = 8 then valOf ((numOf a + numOf b) % 18446744073709551616) else a
def msgApply (m : Ms) (val : ByteArray) (has : Bool) : ByteArray × Bool :=
  if msgIs m = false then (if has then val else ⟨#[]⟩, has)
  else if m.kind = 2 then (⟨#[]⟩, false)
  else if m.kind = 1 ∨ has = false then (m.v, true)
  else (msgSum val m.v, true)

theorem isEmpty_size (v : ByteArray) : v.toList.isEmpty = (v.size == 0) := by
  rw [ByteArray.toList_eq]
  cases v with
  | mk d =>
    cases d with
    | mk l => cases l <;> rfl

theorem numOf_lt (v : ByteArray) (h : v.size = 8) : numOf v < 18446744073709551616 := by
  have := beNat_lt v.data.toList
  rwa [show v.data.toList.length = 8 from h] at this

set_option maxHeartbeats 400000 in
theorem msg_OfPut (k v : ByteArray) (w : World) : Calls Tryz.prog 70 #[.string k, .string v] w fun e w' => e = .returned (Ms.agg ⟨1, k, v⟩) ∧ Below w.heap.size w w' := by
  unfold Ms.agg
  go_enter Tryz.func70, Tryz.ntmps70
  go_wp2
  exact bodyPost_ret (v := .agg #[.int .i64 1, .string k, .string v]) (by simp [results, Tryz.results70, go_sem]) rfl ⟨rfl, below_alloc_1 _ _⟩

set_option maxHeartbeats 400000 in
theorem msg_OfDel (k : ByteArray) (w : World) : Calls Tryz.prog 71 #[.string k] w fun e w' => e = .returned (Ms.agg ⟨2, k, ⟨#[]⟩⟩) ∧ Below w.heap.size w w' := by
  unfold Ms.agg
  go_enter Tryz.func71, Tryz.ntmps71
  go_wp2
  exact bodyPost_ret (v := .agg #[.int .i64 2, .string k, .string ⟨#[]⟩]) (by simp [results, Tryz.results71, go_sem]) rfl ⟨rfl, below_alloc_1 _ _⟩

set_option maxHeartbeats 400000 in
theorem msg_OfAdd (k : ByteArray) (n : Nat) (w : World) (hn : n < 18446744073709551616) : Calls Tryz.prog 72 #[.string k, .int .u64 n] w fun e w' => e = .returned (Ms.agg ⟨3, k, valOf n⟩) ∧ Below w.heap.size w w' := by
  unfold Ms.agg
  go_enter Tryz.func72, Tryz.ntmps72
  go_wp2_with fail
  obtain ⟨W, hW⟩ : ∃ W, w.alloc (.cells #[.int .i64 0, .string ⟨#[]⟩, .string ⟨#[]⟩] 88) = W := ⟨_, rfl⟩
  rw [hW]
  have hbW : Below w.heap.size w W := by rw [← hW]; exact below_alloc_1 _ _
  have hbx : W.heap[w.heap.size]? = some (.cells #[.int .i64 0, .string ⟨#[]⟩, .string ⟨#[]⟩] 88 (0, 0)) := by rw [← hW]; exact heap_alloc_new _ _
  clear hW
  refine (key_Value n W hn).mono ?_
  rintro e w1 ⟨rfl, hb⟩
  have hbx1 := (hb.block w.heap.size (Array.getElem?_eq_some_iff.1 hbx).1).trans hbx
  have HX := Lib.hid hbx1
  have HB := Lib.hid (hbW.trans (hb.mono hbW.size))
  clear hb hbx hbW hbx1
  have f0 := Lib.frozen_of_heap HX.out 0
  have f1 := Lib.frozen_of_heap HX.out 1
  have f2 := Lib.frozen_of_heap HX.out 2
  have c0 : w1.cell? ⟨w.heap.size, 0, none⟩ = some (.int .i64 0) := by rw [Lib.cell_of_heap HX.out]; rfl
  have c1 : w1.cell? ⟨w.heap.size, 1, none⟩ = some (.string ⟨#[]⟩) := by rw [Lib.cell_of_heap HX.out]; rfl
  have c2 : w1.cell? ⟨w.heap.size, 2, none⟩ = some (.string ⟨#[]⟩) := by rw [Lib.cell_of_heap HX.out]; rfl
  go_wp2
  exact bodyPost_ret (v := .agg #[.int .i64 3, .string k, .string (valOf n)]) (by simp [results, Tryz.results72, go_sem, c0, c1, c2]) rfl ⟨rfl, ((HB.out.setCell (p := ⟨w.heap.size, 0, none⟩) (Nat.le_refl _) _).setCell (p := ⟨w.heap.size, 1, none⟩) (Nat.le_refl _) _).setCell (p := ⟨w.heap.size, 2, none⟩) (Nat.le_refl _) _⟩

set_option maxHeartbeats 1000000 in
set_option maxRecDepth 100000 in
theorem msg_Is (m : Ms) (w : World) : Calls Tryz.prog 88 #[m.agg] w fun e w' => e = .returned (.bool (msgIs m)) ∧ Below w.heap.size w w' := by
  unfold Ms.agg
  cases hk : keyIs m.k
  · go_enter Tryz.func88, Tryz.ntmps88
    go_wp2_with (go_at_call 76; refine (key_Is _ _).mono ?_; rintro e w' ⟨rfl, rfl⟩; rw [hk])
    go_ret
    exact ⟨by simp [msgIs, hk], below_alloc_1 _ _⟩
  · by_cases h1 : m.kind = 1
    · have h1' : (m.kind == 1) = true := by rw [h1]; rfl
      go_enter Tryz.func88, Tryz.ntmps88
      go_wp2_with (first | (go_at_call 76; refine (key_Is _ _).mono ?_; rintro e w' ⟨rfl, rfl⟩; rw [hk]) | (go_at_call 110; refine (key_IsVal _ _).mono ?_; rintro e w' ⟨rfl, rfl⟩))
      go_ret
      exact ⟨by simp [msgIs, valIs, hk, h1], below_alloc_1 _ _⟩
    · have h1' : (m.kind == 1) = false := by simp [h1]
      by_cases h2 : m.kind = 2
      · have h2' : (m.kind == 2) = true := by rw [h2]; rfl
        go_enter Tryz.func88, Tryz.ntmps88
        go_wp2_with (go_at_call 76; refine (key_Is _ _).mono ?_; rintro e w' ⟨rfl, rfl⟩; rw [hk])
        go_ret
        refine ⟨?_, below_alloc_1 _ _⟩
        have : m.v.toList.isEmpty = msgIs m := by
          simp only [msgIs, valIs, hk, h1', h2', Bool.false_and, Bool.true_and, Bool.false_or]
          rw [show (m.kind == 3) = false by rw [h2]; rfl]
          simp only [Bool.false_and, Bool.or_false]
          exact isEmpty_size _
        rw [← this]; rfl
      · have h2' : (m.kind == 2) = false := by simp [h2]
        by_cases h3 : m.kind = 3
        · have h3' : (m.kind == 3) = true := by rw [h3]; rfl
          go_enter Tryz.func88, Tryz.ntmps88
          go_wp2_with (go_at_call 76; refine (key_Is _ _).mono ?_; rintro e w' ⟨rfl, rfl⟩; rw [hk])
          go_ret
          refine ⟨?_, below_alloc_1 _ _⟩
          have : ((m.v.size : Int) == 8) = msgIs m := by
            simp only [msgIs, valIs, hk, h1', h2', h3', Bool.false_and, Bool.true_and, Bool.false_or]
            rw [Bool.eq_iff_iff]; simp; omega
          rw [← this]; rfl
        · have h3' : (m.kind == 3) = false := by simp [h3]
          go_enter Tryz.func88, Tryz.ntmps88
          go_wp2_with (go_at_call 76; refine (key_Is _ _).mono ?_; rintro e w' ⟨rfl, rfl⟩; rw [hk])
          go_ret
          exact ⟨by simp [msgIs, valIs, hk, h1, h2, h3], below_alloc_1 _ _⟩

set_option maxHeartbeats 400000 in
theorem msg_isNot (m : Ms) (w : World) : Calls Tryz.prog 132 #[m.agg] w fun e w' => e = .returned (.bool (!msgIs m)) ∧ Below w.heap.size w w' := by
  have H := Lib.hid (fun W => msg_Is m W)
  unfold Ms.agg at *
  go_enter Tryz.func132, Tryz.ntmps132
  go_wp2_with fail
  refine (H.out _).mono ?_
  rintro e w1 ⟨rfl, hb⟩
  have HB := Lib.hid (below_step1 (below_alloc_1 w _) hb)
  clear hb
  go_wp2
  go_ret
  exact ⟨rfl, HB.out⟩

set_option maxHeartbeats 1000000 in
set_option maxRecDepth 100000 in
theorem msg_sum (a b : ByteArray) (w : World) : Calls Tryz.prog 133 #[.string a, .string b] w fun e w' => e = .returned (.string (msgSum a b)) ∧ Below w.heap.size w w' := by
  by_cases ha : a.size = 8
  · have Ha := Lib.hid (fun w => key_Number_ok a w ha)
    by_cases hb : b.size = 8
    · have Hb := Lib.hid (fun w => key_Number_ok b w hb)
      have h1 := numOf_lt a ha
      have h2 := numOf_lt b hb
      have hS : Hid (msgSum a b = valOf ((numOf a + numOf b) % 18446744073709551616)) := by unfold Hid msgSum; rw [if_pos ⟨ha, hb⟩]
      clear ha hb
      have hw : Hid (IntKind.u64.wrap ((numOf a : Int) + numOf b) = (((numOf a + numOf b) % 18446744073709551616 : Nat) : Int)) := by unfold Hid; rw [IntKind.wrap_u64]; omega
      generalize hx : numOf a = x at *
      generalize hy : numOf b = y at *
      clear hx hy
      go_enter Tryz.func133, Tryz.ntmps133
      go_wp2_with fail
      refine (Ha.out _).mono ?_
      rintro e w1 ⟨rfl, hb1⟩
      have HB1 := Lib.hid hb1
      clear hb1
      go_wp2_with fail
      refine (Hb.out _).mono ?_
      rintro e w2 ⟨rfl, hb2⟩
      have HB2 := Lib.hid (below_step1 HB1.out hb2)
      clear hb2
      go_wp2_with fail
      rw [hw.out]
      refine (key_Value _ _ (Nat.mod_lt _ (by omega))).mono ?_
      rintro e w3 ⟨rfl, hb3⟩
      have HB3 := Lib.hid (below_step1 HB2.out hb3)
      clear hb3
      go_wp2
      go_ret
      exact ⟨by rw [hS.out]; rfl, HB3.out⟩
    · have Hb := Lib.hid (fun w => key_Number_none b w hb)
      have hS : Hid (msgSum a b = a) := by unfold Hid msgSum; rw [if_neg (fun h => hb h.2)]
      clear ha hb
      go_enter Tryz.func133, Tryz.ntmps133
      go_wp2_with fail
      refine (Ha.out _).mono ?_
      rintro e w1 ⟨rfl, hb1⟩
      have HB1 := Lib.hid hb1
      clear hb1
      go_wp2_with fail
      refine (Hb.out _).mono ?_
      rintro e w2 ⟨rfl, rfl⟩
      go_wp2
      go_ret
      exact ⟨by rw [hS.out]; rfl, HB1.out⟩
  · have Ha := Lib.hid (fun w => key_Number_none a w ha)
    have hS : Hid (msgSum a b = a) := by unfold Hid msgSum; rw [if_neg (fun h => ha h.1)]
    clear ha
    by_cases hb : b.size = 8
    · have Hb := Lib.hid (fun w => key_Number_ok b w hb)
      clear hb
      go_enter Tryz.func133, Tryz.ntmps133
      go_wp2_with fail
      refine (Ha.out _).mono ?_
      rintro e w1 ⟨rfl, rfl⟩
      go_wp2_with fail
      refine (Hb.out _).mono ?_
      rintro e w2 ⟨rfl, hb2⟩
      have HB2 := Lib.hid hb2
      clear hb2
      go_wp2
      go_ret
      exact ⟨by rw [hS.out]; rfl, HB2.out⟩
    · have Hb := Lib.hid (fun w => key_Number_none b w hb)
      clear hb
      go_enter Tryz.func133, Tryz.ntmps133
      go_wp2_with fail
      refine (Ha.out _).mono ?_
      rintro e w1 ⟨rfl, rfl⟩
      go_wp2_with fail
      refine (Hb.out _).mono ?_
      rintro e w2 ⟨rfl, rfl⟩
      go_wp2
      go_ret
      exact ⟨by rw [hS.out]; rfl, Below.refl _ _⟩

set_option maxHeartbeats 1000000 in
set_option maxRecDepth 100000 in
theorem msg_Apply (m : Ms) (val : ByteArray) (has : Bool) (w : World) : Calls Tryz.prog 115 #[m.agg, .string val, .bool has] w fun e w' => e = .returned (.tuple #[.string (msgApply m val has).1, .bool (msgApply m val has).2]) ∧ Below w.heap.size w w' := by
  have HN := Lib.hid (fun W => msg_isNot m W)
  unfold Ms.agg at *
  have finish : ∀ (r : ByteArray × Bool), msgApply m val has = r → Hid (msgApply m val has = r) := fun _ h => h
  by_cases hm : msgIs m = false
  · have hA := finish (if has then val else ⟨#[]⟩, has) (by unfold msgApply; rw [if_pos hm])
    have HM := Lib.hid hm
    clear hm finish
    cases has
    all_goals
      go_enter Tryz.func115, Tryz.ntmps115
      go_wp2_with fail
      refine (HN.out _).mono ?_
      rintro e w1 ⟨rfl, hb1⟩
      rw [HM.out]
      have HB1 := Lib.hid (below_step1 (below_alloc_1 w _) hb1)
      clear hb1
      go_wp2
      go_ret2
      exact ⟨by rw [hA.out]; rfl, HB1.out⟩
  · have hm' : msgIs m = true := by simpa using hm
    by_cases h2 : m.kind = 2
    · have hA := finish (⟨#[]⟩, false) (by unfold msgApply; rw [if_neg hm, if_pos h2])
      have HM := Lib.hid hm'
      have h2' : (m.kind == 2) = true := by rw [h2]; rfl
      clear hm hm' finish h2
      cases has
      all_goals
        go_enter Tryz.func115, Tryz.ntmps115
        go_wp2_with fail
        refine (HN.out _).mono ?_
        rintro e w1 ⟨rfl, hb1⟩
        rw [HM.out]
        have HX := Lib.hid ((hb1.block w.heap.size (by simp)).trans (heap_alloc_new w _))
        have HB1 := Lib.hid (below_step1 (below_alloc_1 w _) hb1)
        have cc := Lib.cell_of_heap HX.out
        clear hb1
        go_wp2
        go_ret2
        exact ⟨by rw [hA.out]; rfl, HB1.out⟩
    · have h2' : (m.kind == 2) = false := by simp [h2]
      by_cases h1 : m.kind = 1 ∨ has = false
      · have hA := finish (m.v, true) (by unfold msgApply; rw [if_neg hm, if_neg h2, if_pos h1])
        have HM := Lib.hid hm'
        have HK := Lib.hid h2
        clear hm hm' finish h2
        have hc : (m.kind == 1) = true ∨ ((m.kind == 1) = false ∧ has = false) := by
          by_cases h : m.kind = 1
          · exact .inl (by rw [h]; rfl)
          · exact .inr ⟨by simp [h], by rcases h1 with h' | h'; exact absurd h' h; exact h'⟩
        clear h1
        rcases hc with h1' | ⟨h1', rfl⟩
        · cases has
          all_goals
            go_enter Tryz.func115, Tryz.ntmps115
            go_wp2_with fail
            refine (HN.out _).mono ?_
            rintro e w1 ⟨rfl, hb1⟩
            rw [HM.out]
            have HX := Lib.hid ((hb1.block w.heap.size (by simp)).trans (heap_alloc_new w _))
            have HB1 := Lib.hid (below_step1 (below_alloc_1 w _) hb1)
            have cc := Lib.cell_of_heap HX.out
            clear hb1
            go_wp2
            go_ret2
            exact ⟨by rw [hA.out]; rfl, HB1.out⟩
        · go_enter Tryz.func115, Tryz.ntmps115
          go_wp2_with fail
          refine (HN.out _).mono ?_
          rintro e w1 ⟨rfl, hb1⟩
          rw [HM.out]
          have HX := Lib.hid ((hb1.block w.heap.size (by simp)).trans (heap_alloc_new w _))
          have HB1 := Lib.hid (below_step1 (below_alloc_1 w _) hb1)
          have cc := Lib.cell_of_heap HX.out
          clear hb1
          go_wp2
          go_ret2
          exact ⟨by rw [hA.out]; rfl, HB1.out⟩
      · have hh : has = true := by cases has with | true => rfl | false => exact absurd (.inr rfl) h1
        subst hh
        have hk1 : (m.kind == 1) = false := by
          have : ¬ m.kind = 1 := fun h => h1 (.inl h)
          simp [this]
        have hA := finish (msgSum val m.v, true) (by unfold msgApply; rw [if_neg hm, if_neg h2, if_neg h1])
        have HM := Lib.hid hm'
        clear hm hm' finish h2 h1
        go_enter Tryz.func115, Tryz.ntmps115
        go_wp2_with fail
        refine (HN.out _).mono ?_
        rintro e w1 ⟨rfl, hb1⟩
        rw [HM.out]
        have HX := Lib.hid ((hb1.block w.heap.size (by simp)).trans (heap_alloc_new w _))
        have HB1 := Lib.hid (below_step1 (below_alloc_1 w _) hb1)
        have cc := Lib.cell_of_heap HX.out
        clear hb1
        go_wp2_with fail
        refine (msg_sum _ _ _).mono ?_
        rintro e w2 ⟨rfl, hb2⟩
        have HB2 := Lib.hid (below_step1 HB1.out hb2)
        clear hb2
        go_wp2
        go_ret2
        exact ⟨by rw [hA.out]; rfl, HB2.out⟩

end Go.Proofs.YtjpakldnejpleaaGreat
