/- (*leaf.Leaf).place, Find, do: a leaf whose items the call owns. -/
import Derived.Test.YtjpakldnejpleaaGreatDel
import Derived.Test.YtjpakldnejpleaaGreatMsg
import Derived.Deep.RegionHeld3
namespace Go.Proofs.YtjpakldnejpleaaGreat
open Go.RowKit

/-- What lies behind a key: its value, or none. -/
def It.was (xs : List It) (k : ByteArray) : ByteArray := if It.has xs k then (xs.getD (It.pos xs k) zeroIt).v else ⟨#[]⟩

def It.put (xs : List It) (m : Ms) : List It :=
  if (msgApply m (It.was xs m.k) (It.has xs m.k)).2 then
    if It.has xs m.k then xs.set (It.pos xs m.k) ⟨m.k, (msgApply m (It.was xs m.k) (It.has xs m.k)).1⟩
    else It.ins xs (It.pos xs m.k) ⟨m.k, (msgApply m (It.was xs m.k) (It.has xs m.k)).1⟩
  else if It.has xs m.k then xs.eraseIdx (It.pos xs m.k) else xs

theorem has_lt {xs : List It} {k : ByteArray} (hu : It.up xs) (h : It.has xs k = true) : It.pos xs k < xs.length := by
  rcases Nat.lt_or_ge (It.pos xs k) xs.length with h' | h'
  · exact h'
  · rw [has_none hu (by omega)] at h; cases h

set_option maxHeartbeats 1000000 in
theorem leaf_place (b : Nat) (A : Option Addr) (c : Nat) (xs : List It) (k : ByteArray) (w : World) (c0 : w.cell? ⟨b, 0, none⟩ = some (.slice A xs.length c)) (hs : SlIt w A c xs) (hx : xs.length ≤ 4398046511104) (hu : It.up xs) :
    Calls Tryz.prog 104 #[.pointer (some ⟨b, 0, none⟩), .string k] w fun e w' => e = .returned (.tuple #[.int .i64 (It.pos xs k), .bool (It.has xs k)]) ∧ Below w.heap.size w w' := by
  have H := Lib.hid (sl_Search_it A c xs k ⟨#[]⟩ w hs hx hu)
  go_enter Tryz.func104, Tryz.ntmps104
  go_wp2_with fail
  refine H.out.mono ?_
  rintro e w1 ⟨rfl, hb⟩
  have HB := Lib.hid hb
  clear hb H
  go_wp2
  go_ret2
  exact ⟨rfl, HB.out⟩

set_option maxHeartbeats 1000000 in
theorem leaf_Find (b : Nat) (xs : List It) (k : ByteArray) (w : World) (h : LeafAt w b xs) (hx : xs.length ≤ 4398046511104) (hu : It.up xs) :
    Calls Tryz.prog 73 #[.pointer (some ⟨b, 0, none⟩), .string k] w fun e w' => e = .returned (.tuple #[.string (It.was xs k), .bool (It.has xs k)]) ∧ Below w.heap.size w w' := by
  obtain ⟨A, c, hb, hs⟩ := h
  have hbl := (Array.getElem?_eq_some_iff.1 hb).1
  have c0 : w.cell? ⟨b, 0, none⟩ = some (.slice A xs.length c) := by rw [Lib.cell_of_heap hb]; rfl
  have H := Lib.hid (leaf_place b A c xs k w c0 hs hx hu)
  have HC := Lib.hid c0
  have HS := Lib.hid hs
  have hlen := hs.len
  have hcap := hs.cap
  unfold maxLen at hcap
  clear hb hs c0
  cases hh : It.has xs k with
  | false =>
    have hw : It.was xs k = ⟨#[]⟩ := by unfold It.was; rw [hh]; rfl
    rw [hw]
    rw [hh] at H
    go_enter Tryz.func73, Tryz.ntmps73
    go_wp2_with fail
    refine H.out.mono ?_
    rintro e w1 ⟨rfl, hb⟩
    have HB := Lib.hid hb
    clear hb H
    go_wp2
    go_ret2
    exact ⟨rfl, HB.out⟩
  | true =>
    have hlt := has_lt hu hh
    have hw : It.was xs k = (xs[It.pos xs k]'hlt).v := by simp [It.was, hh, List.getElem?_eq_getElem hlt]
    have hne : xs ≠ [] := by intro h; rw [h] at hlt; simp at hlt
    obtain ⟨bb, o, rfl, hbbl, hc⟩ := HS.out.at_ hne
    obtain ⟨h1, h2⟩ := hc _ _ (List.getElem?_eq_getElem hlt)
    rw [← hw] at h2
    rw [hh] at H
    generalize It.was xs k = v at *
    have H2 := Lib.hid h2
    clear h1 h2 hc hw hh HS hne
    generalize It.pos xs k = p at *
    have hp1 : (p : Int) < (xs.length : Int) := by omega
    go_enter Tryz.func73, Tryz.ntmps73
    go_wp2_with fail
    refine H.out.mono ?_
    rintro e w1 ⟨rfl, hb⟩
    have HB := Lib.hid hb
    have c0 := (hb.cell (p := ⟨b, 0, none⟩) hbl).trans HC.out
    have c1 := (hb.cell (p := ⟨bb, o + p * 2 + 1, none⟩) hbbl).trans H2.out
    clear hb H
    go_wp2
    go_ret2
    exact ⟨rfl, HB.out⟩

/-- A leaf that is still made: its items lie in a row of the call's own. -/
structure LeafM (w : World) (b B : Nat) (v : Value) (xs : List It) : Prop where
  ge : B ≤ b
  size : B ≤ w.heap.size
  box : w.heap[b]? = some (.cells #[v, .int .i64 0] 138 (0, 0))
  row : w.ownsRow B 41 2 v xs.length (It.cells xs)
  ne : some b ≠ v.ownBlock

theorem own_other {w : World} {base b : Nat} {v : Value} {xs : List It} {T : TypeId} {cs : Array Value} (h : w.ownsRow base 41 2 v xs.length (It.cells xs)) (hb : w.heap[b]? = some (.cells cs T (0, 0))) (hT : T ≠ 41) : some b ≠ v.ownBlock := by
  rcases h.2 with ⟨rfl, _⟩ | ⟨g, cap, cur, rfl, _, hg, _⟩
  · intro e; cases e
  · intro e
    cases e
    rw [hb] at hg
    cases hg
    exact hT rfl

theorem LeafM.below {w w' : World} {b B : Nat} {v : Value} {xs : List It} (h : LeafM w b B v xs) (hb : Below w.heap.size w w') : LeafM w' b B v xs :=
  ⟨h.ge, Nat.le_trans h.size hb.size, (hb.block b (Array.getElem?_eq_some_iff.1 h.box).1).trans h.box, h.row.kept (row := none) (below_grown hb) (by cases v.ownBlock with | none => exact .inl rfl | some k => exact .inr (by simp)), h.ne⟩

theorem LeafM.sl {w : World} {b B : Nat} {v : Value} {xs : List It} (h : LeafM w b B v xs) : ∃ A c, v = .slice A xs.length c ∧ SlIt w A c xs := own_slice h.row

/-- A new row in the box. -/
theorem LeafM.set {w w1 : World} {b B : Nat} {v v' : Value} {xs ys : List It} (h : LeafM w b B v xs) (hg : w.grownBy w1 v.ownBlock) (ho : w1.ownsRow B 41 2 v' ys.length (It.cells ys)) : LeafM (w1.setCell ⟨b, 0, none⟩ v') b B v' ys ∧ Below B w (w1.setCell ⟨b, 0, none⟩ v') := by
  have hbl := (Array.getElem?_eq_some_iff.1 h.box).1
  have hb1 : w1.heap[b]? = _ := (hg.block b hbl h.ne).trans h.box
  have hne := own_other ho hb1 (by decide)
  refine ⟨⟨h.ge, ?_, ?_, ?_, hne⟩, ?_⟩
  · simp [World.setCell]; exact Nat.le_trans h.size hg.size
  · rw [heap_setCell_same hb1]; rfl
  · exact ho.kept (grown_setCell (grown_refl w1 b) v') (.inr (fun e => hne e.symm))
  · refine (((Below.refl B w).grown hg h.size fun k hk => (h.row.lt k hk).1)).setCell (p := ⟨b, 0, none⟩) h.ge v'

theorem frozen0 {w : World} {b : Nat} {cs : Array Value} {T : TypeId} (h : w.heap[b]? = some (.cells cs T (0, 0))) (o : Nat) : w.frozen? ⟨b, o, none⟩ = false := by
  simp [World.frozen?, h]

theorem LeafM.rowI {w : World} {b B g c : Nat} {xs : List It} (h : LeafM w b B (.slice (some ⟨g, 0, none⟩) xs.length c) xs) : RowI w g c xs := by
  obtain ⟨g', c', e, _, hr⟩ := RowI.of_own h.row (by intro e; cases e)
  injection e with e1 _ e3
  cases e1
  cases e3
  exact hr

theorem LeafM.setAt {w : World} {b B g c p : Nat} {xs : List It} (h : LeafM w b B (.slice (some ⟨g, 0, none⟩) xs.length c) xs) (x : It) (hp : p < xs.length) :
    LeafM ((w.setCell ⟨g, p * 2, none⟩ (.string x.k)).setCell ⟨g, p * 2 + 1, none⟩ (.string x.v)) b B (.slice (some ⟨g, 0, none⟩) xs.length c) (xs.set p x) ∧ Below B w ((w.setCell ⟨g, p * 2, none⟩ (.string x.k)).setCell ⟨g, p * 2 + 1, none⟩ (.string x.v)) := by
  have hg := (h.row.lt g rfl).1
  have hr := (h.rowI.set x hp).own hg
  rw [List.length_set] at hr
  have hbg : b ≠ g := fun e => h.ne (by rw [e]; rfl)
  refine ⟨⟨h.ge, by simp [World.setCell]; exact h.size, ?_, by rw [List.length_set]; exact hr, h.ne⟩, setCells_below (Below.refl _ _) hg _ _⟩
  rw [Below.heap_setCell _ _ _ _ hbg, Below.heap_setCell _ _ _ _ hbg]
  exact h.box

theorem ins_arm (xb b B : Nat) (v : Value) (xs : List It) (x : It) (i : Nat) (w0 w : World) (h : LeafM w b B v xs) (hx : w.heap[xb]? = some (.cells #[.string x.k, .string x.v] 41 (0, 0))) (hxb : some xb ≠ v.ownBlock) (hb0 : Below B w0 w) (hi : i ≤ xs.length) (hxl : xs.length < 4398046511104) (W : World) (vb : Nat) (hvb : w.heap.size ≤ vb) (hV : W.heap[vb]? = some (.cells #[.string x.k, .string x.v] 41 (0, 0))) (hW : Below w.heap.size w W) :
    Calls Tryz.prog 116 #[v, .int .i64 i, .slice (some ⟨vb, 0, none⟩) 1 1] W fun e w' =>
      ∃ A' c', e = .returned (.slice A' (xs.length + 1) c') ∧ (w'.cell? ⟨b, 0, none⟩ = some v ∧ w'.cell? ⟨xb, 0, none⟩ = some (.string x.k) ∧ w'.cell? ⟨xb, 1, none⟩ = some (.string x.v)) ∧ w'.frozen? ⟨b, 0, none⟩ = false ∧ LeafM (w'.setCell ⟨b, 0, none⟩ (.slice A' (xs.length + 1) c')) b B (.slice A' (xs.length + 1) c') (It.ins xs i x) ∧ Below B w0 (w'.setCell ⟨b, 0, none⟩ (.slice A' (xs.length + 1) c')) := by
  have hL := h.below hW
  have hxW := (hW.block xb (Array.getElem?_eq_some_iff.1 hx).1).trans hx
  refine (sl_Insert_it B vb i v x xs W hL.row hL.size hi hV ?_ (by omega)).mono ?_
  · intro e
    have := (h.row.lt vb e.symm).2
    omega
  · rintro e w' ⟨v', rfl, ho, hg⟩
    have hil := It.ins_length x hi
    rw [← hil] at ho
    obtain ⟨A', c', rfl, _⟩ := own_slice ho
    obtain ⟨h1, h2⟩ := hL.set hg ho
    rw [hil] at h1 h2 ⊢
    have hb' := (hg.block b (Array.getElem?_eq_some_iff.1 hL.box).1 hL.ne).trans hL.box
    have hx' := (hg.block xb (Array.getElem?_eq_some_iff.1 hxW).1 hxb).trans hxW
    exact ⟨A', c', rfl, ⟨by rw [Lib.cell_of_heap hb']; rfl, by rw [Lib.cell_of_heap hx']; rfl, by rw [Lib.cell_of_heap hx']; rfl⟩, frozen0 hb' 0, h1, (hb0.trans (hW.mono h.size)).trans h2⟩

set_option maxHeartbeats 2000000 in
set_option maxRecDepth 100000 in
theorem leaf_do (b B : Nat) (v : Value) (xs : List It) (m : Ms) (w : World) (h : LeafM w b B v xs) (hx : xs.length < 4398046511104) (hu : It.up xs) :
    Calls Tryz.prog 89 #[.pointer (some ⟨b, 0, none⟩), m.agg] w fun e w' => ∃ v', e = .returned (.tuple #[]) ∧ LeafM w' b B v' (It.put xs m) ∧ Below B w w' := by
  obtain ⟨A, c, rfl, hs⟩ := h.sl
  have hBs := h.size
  have hbl := (Array.getElem?_eq_some_iff.1 h.box).1
  have hlen := hs.len
  have hcap := hs.cap
  unfold maxLen at hcap
  obtain ⟨w1, hw1⟩ : ∃ w1, w1 = w.alloc (.cells #[.int .i64 m.kind, .string m.k, .string m.v] 88) := ⟨_, rfl⟩
  have hb1 := below_alloc1 w (.cells #[.int .i64 m.kind, .string m.k, .string m.v] 88)
  have hm1 := heap_alloc_new w (.cells #[.int .i64 m.kind, .string m.k, .string m.v] 88)
  rw [← hw1] at hb1 hm1
  have H1 := h.below hb1
  have hs1 := hs.below hb1
  have c0 : w1.cell? ⟨b, 0, none⟩ = some (.slice A xs.length c) := by rw [Lib.cell_of_heap H1.box]; rfl
  have HP := Lib.hid (leaf_place b A c xs m.k w1 c0 hs1 (Nat.le_of_lt hx) hu)
  have HA := Lib.hid (fun val has W => msg_Apply m val has W)
  have hml : w.heap.size < w1.heap.size := (Array.getElem?_eq_some_iff.1 hm1).1
  have HM := Lib.hid hm1
  have HB1 := Lib.hid hb1
  have HL := Lib.hid H1
  clear c0 hm1 hb1 H1 h
  have q1 : w1.cell? ⟨w.heap.size, 1, none⟩ = some (.string m.k) := by rw [Lib.cell_of_heap HM.out]; rfl
  unfold Ms.agg at *
  cases hh : It.has xs m.k with
  | false =>
    have hw : It.was xs m.k = ⟨#[]⟩ := by unfold It.was; rw [hh]; rfl
    rw [hh] at HP
    obtain ⟨r1, r2, hr⟩ : ∃ r1 r2, msgApply m ⟨#[]⟩ false = (r1, r2) := ⟨_, _, rfl⟩
    have HAr := HA.out ⟨#[]⟩ false
    rw [hr] at HAr
    have HA2 := Lib.hid HAr
    have hput : It.put xs m = if r2 then It.ins xs (It.pos xs m.k) ⟨m.k, r1⟩ else xs := by
      unfold It.put; rw [hw, hh, hr]; rfl
    rw [hput]
    have hple := pos_le xs m.k
    generalize It.pos xs m.k = p at *
    have HPL := Lib.hid hple
    clear hput hw hh HAr HA hr hple
    cases r2 with
    | false =>
      rw [if_neg (by decide)]
      go_enter Tryz.func89, Tryz.ntmps89
      go_wp2_with (first | (rw [← hw1]) | fail)
      refine HP.out.mono ?_
      rintro e w2 ⟨rfl, hb2⟩
      have HL2 := Lib.hid (HL.out.below hb2)
      have HM2 := Lib.hid ((hb2.block _ hml).trans HM.out)
      have HB2 := Lib.hid (HB1.out.trans (hb2.mono HB1.out.size))
      have c0 : w2.cell? ⟨w.heap.size, 0, none⟩ = some (.int .i64 m.kind) := by rw [Lib.cell_of_heap HM2.out]; rfl
      have c1 : w2.cell? ⟨w.heap.size, 1, none⟩ = some (.string m.k) := by rw [Lib.cell_of_heap HM2.out]; rfl
      have c2 : w2.cell? ⟨w.heap.size, 2, none⟩ = some (.string m.v) := by rw [Lib.cell_of_heap HM2.out]; rfl
      have hml2 : w.heap.size < w2.heap.size := (Array.getElem?_eq_some_iff.1 HM2.out).1
      skip
      clear hb2 HP hml
      go_wp2_with fail
      refine (HA2.out _).mono ?_
      rintro e w3 ⟨rfl, hb3⟩
      have HL3 := Lib.hid (HL2.out.below hb3)
      have HM3 := Lib.hid ((hb3.block _ hml2).trans HM2.out)
      have HB3 := Lib.hid (HB2.out.trans (hb3.mono HB2.out.size))
      clear c0 c1 c2
      have c1 : w3.cell? ⟨w.heap.size, 1, none⟩ = some (.string m.k) := by rw [Lib.cell_of_heap HM3.out]; rfl
      have HN4 := Lib.hid (heap_alloc_new w3 (.cells #[.string m.k, .string r1] 41))
      have HL4 := Lib.hid (HL3.out.below (below_alloc1 w3 (.cells #[.string m.k, .string r1] 41)))
      have HB4 := Lib.hid (HB3.out.alloc HB3.out.size (.cells #[.string m.k, .string r1] 41))
      clear hb3
      go_wp2
      go_end0
      exact ⟨_, rfl, HL4.out, HB4.out.mono hBs⟩
    | true =>
      rw [if_pos rfl]
      go_enter Tryz.func89, Tryz.ntmps89
      go_wp2_with (first | (rw [← hw1]) | fail)
      refine HP.out.mono ?_
      rintro e w2 ⟨rfl, hb2⟩
      have HL2 := Lib.hid (HL.out.below hb2)
      have HM2 := Lib.hid ((hb2.block _ hml).trans HM.out)
      have HB2 := Lib.hid (HB1.out.trans (hb2.mono HB1.out.size))
      have c0 : w2.cell? ⟨w.heap.size, 0, none⟩ = some (.int .i64 m.kind) := by rw [Lib.cell_of_heap HM2.out]; rfl
      have c1 : w2.cell? ⟨w.heap.size, 1, none⟩ = some (.string m.k) := by rw [Lib.cell_of_heap HM2.out]; rfl
      have c2 : w2.cell? ⟨w.heap.size, 2, none⟩ = some (.string m.v) := by rw [Lib.cell_of_heap HM2.out]; rfl
      have hml2 : w.heap.size < w2.heap.size := (Array.getElem?_eq_some_iff.1 HM2.out).1
      skip
      clear hb2 HP hml
      go_wp2_with fail
      refine (HA2.out _).mono ?_
      rintro e w3 ⟨rfl, hb3⟩
      have HL3 := Lib.hid (HL2.out.below hb3)
      have HM3 := Lib.hid ((hb3.block _ hml2).trans HM2.out)
      have HB3 := Lib.hid (HB2.out.trans (hb3.mono HB2.out.size))
      clear c0 c1 c2
      have c1 : w3.cell? ⟨w.heap.size, 1, none⟩ = some (.string m.k) := by rw [Lib.cell_of_heap HM3.out]; rfl
      have HN4 := Lib.hid (heap_alloc_new w3 (.cells #[.string m.k, .string r1] 41))
      have HL4 := Lib.hid (HL3.out.below (below_alloc1 w3 (.cells #[.string m.k, .string r1] 41)))
      have HB4 := Lib.hid (HB3.out.alloc HB3.out.size (.cells #[.string m.k, .string r1] 41))
      clear hb3
      go_wp2_with fail
      have hxl : w3.heap.size < (w3.alloc (.cells #[.string m.k, .string r1] 41)).heap.size := by simp
      generalize w3.alloc (.cells #[.string m.k, .string r1] 41) = w4 at *
      clear c1
      obtain ⟨xb, hxb⟩ : ∃ xb, xb = w3.heap.size := ⟨_, rfl⟩
      rw [← hxb] at HN4 hxl ⊢
      have hb0 : w4.cell? ⟨b, 0, none⟩ = some (.slice A xs.length c) := by rw [Lib.cell_of_heap HL4.out.box]; rfl
      have hx0 : w4.cell? ⟨xb, 0, none⟩ = some (.string m.k) := by rw [Lib.cell_of_heap HN4.out]; rfl
      have hx1 : w4.cell? ⟨xb, 1, none⟩ = some (.string r1) := by rw [Lib.cell_of_heap HN4.out]; rfl
      have HI := ins_arm xb b B (.slice A xs.length c) xs ⟨m.k, r1⟩ p w w4 HL4.out HN4.out (by intro e; have := (HL3.out.row.lt xb e.symm).2; omega) (HB4.out.mono hBs) HPL.out hx
      have HXB := Lib.hid hxb
      clear hxb
      have e1 : (w4.alloc (.cells #[.string m.k, .string r1] 41)).drew.heap[w4.heap.size]? = some (.cells #[.string m.k, .string r1] 41 (0, 0)) := heap_alloc_new w4 _
      have HI2 := Lib.hid (HI _ _ (Nat.le_refl _) e1 ((below_alloc1 w4 _).drew))
      clear HI e1
      have n1 := World.new_ne w4 _ hb0
      have n2 := World.new_ne w4 _ hx0
      have n3 := World.new_ne w4 _ hx1
      have a1 := fun o => (below_alloc1 w4 o).cell_ hb0
      have a2 := fun o => (below_alloc1 w4 o).cell_ hx0
      have a3 := fun o => (below_alloc1 w4 o).cell_ hx1
      go_region_with
        (first | (go_at_call 116; refine HI2.out.mono ?_; rintro e w' ⟨A', c', rfl, ⟨k1, k2, k3⟩, k4, k5, k6⟩))
      all_goals
        go_wp2
        go_end0
        exact ⟨_, rfl, k5, k6⟩
  | true =>
    have hlt := has_lt hu hh
    have hw : It.was xs m.k = (xs[It.pos xs m.k]'hlt).v := by simp [It.was, hh, List.getElem?_eq_getElem hlt]
    rw [hh] at HP
    obtain ⟨r1, r2, hr⟩ : ∃ r1 r2, msgApply m (It.was xs m.k) true = (r1, r2) := ⟨_, _, rfl⟩
    have HAr := HA.out (It.was xs m.k) true
    rw [hr] at HAr
    have HA2 := Lib.hid HAr
    have hput : It.put xs m = if r2 then xs.set (It.pos xs m.k) ⟨m.k, r1⟩ else xs.eraseIdx (It.pos xs m.k) := by
      unfold It.put; rw [hh, hr]; rfl
    rw [hput]
    have hnn : (.slice A xs.length c : Value) ≠ .slice none 0 0 := by intro e; injection e with _ e2 _; omega
    obtain ⟨g, c', hvv, hBg, hR1⟩ := RowI.of_own HL.out.row hnn
    obtain ⟨rfl, rfl⟩ : A = some ⟨g, 0, none⟩ ∧ c = c' := by injection hvv with e1 _ e3; exact ⟨e1, e3⟩
    have HR1 := Lib.hid hR1
    have hgl := hR1.lt
    have hat := (hR1.at_ (List.getElem?_eq_getElem hlt)).2
    rw [← hw] at hat
    clear hput hw hh HAr HA hr hvv hnn hR1
    generalize It.was xs m.k = wv at *
    generalize It.pos xs m.k = p at *
    have HAT := Lib.hid hat
    have hpl : (p : Int) < (xs.length : Int) := by omega
    have hpl2 : (p : Int) + 1 ≤ (xs.length : Int) := by omega
    clear hat q1
    have q1 : w1.cell? ⟨w.heap.size, 1, none⟩ = some (.string m.k) := by rw [Lib.cell_of_heap HM.out]; rfl
    cases r2 with
    | false =>
      rw [if_neg (by decide)]
      go_enter Tryz.func89, Tryz.ntmps89
      go_wp2_with (first | (rw [← hw1]) | fail)
      refine HP.out.mono ?_
      rintro e w2 ⟨rfl, hb2⟩
      have HL2 := Lib.hid (HL.out.below hb2)
      have HM2 := Lib.hid ((hb2.block _ hml).trans HM.out)
      have HB2 := Lib.hid (HB1.out.trans (hb2.mono HB1.out.size))
      have c0 : w2.cell? ⟨w.heap.size, 0, none⟩ = some (.int .i64 m.kind) := by rw [Lib.cell_of_heap HM2.out]; rfl
      have c1 : w2.cell? ⟨w.heap.size, 1, none⟩ = some (.string m.k) := by rw [Lib.cell_of_heap HM2.out]; rfl
      have c2 : w2.cell? ⟨w.heap.size, 2, none⟩ = some (.string m.v) := by rw [Lib.cell_of_heap HM2.out]; rfl
      have hml2 : w.heap.size < w2.heap.size := (Array.getElem?_eq_some_iff.1 HM2.out).1
      have cb := Lib.cell_of_heap HL2.out.box; have cg := (hb2.cell (p := ⟨g, p * 2 + 1, none⟩) hgl).trans HAT.out
      clear hb2 HP hml
      go_wp2_with fail
      refine (HA2.out _).mono ?_
      rintro e w3 ⟨rfl, hb3⟩
      have HL3 := Lib.hid (HL2.out.below hb3)
      have HM3 := Lib.hid ((hb3.block _ hml2).trans HM2.out)
      have HB3 := Lib.hid (HB2.out.trans (hb3.mono HB2.out.size))
      clear c0 c1 c2
      have c1 : w3.cell? ⟨w.heap.size, 1, none⟩ = some (.string m.k) := by rw [Lib.cell_of_heap HM3.out]; rfl
      have HN4 := Lib.hid (heap_alloc_new w3 (.cells #[.string m.k, .string r1] 41))
      have HL4 := Lib.hid (HL3.out.below (below_alloc1 w3 (.cells #[.string m.k, .string r1] 41)))
      have HB4 := Lib.hid (HB3.out.alloc HB3.out.size (.cells #[.string m.k, .string r1] 41))
      clear hb3
      clear cb cg
      have HD := Lib.hid (sl_Delete_it g c p xs _ HL4.out.rowI hlt)
      have hb0 : (w3.alloc (.cells #[.string m.k, .string r1] 41)).cell? ⟨b, 0, none⟩ = some (.slice (some ⟨g, 0, none⟩) xs.length c) := by rw [Lib.cell_of_heap HL4.out.box]; rfl
      go_wp2_with fail
      generalize w3.alloc (.cells #[.string m.k, .string r1] 41) = w4 at *
      refine HD.out.mono ?_
      rintro e w5 ⟨rfl, hr5, hg5⟩
      have hel : (xs.eraseIdx p).length = xs.length - 1 := List.length_eraseIdx_of_lt hlt
      have ho5 := hr5.own hBg
      rw [hel] at ho5
      rw [← hel] at ho5
      have HS := HL4.out.set hg5 ho5
      rw [hel] at HS
      have HS5 := Lib.hid HS
      have hbx := (hg5.block b (Array.getElem?_eq_some_iff.1 HL4.out.box).1 HL4.out.ne).trans HL4.out.box
      have cb5 := Lib.cell_of_heap hbx 0
      have fb5 := frozen0 hbx 0
      clear HS hr5 hg5 ho5 hel HD hb0 hbx
      go_wp2
      go_end0
      exact ⟨_, rfl, HS5.out.1, (HB4.out.mono hBs).trans HS5.out.2⟩
    | true =>
      rw [if_pos rfl]
      go_enter Tryz.func89, Tryz.ntmps89
      go_wp2_with (first | (rw [← hw1]) | fail)
      refine HP.out.mono ?_
      rintro e w2 ⟨rfl, hb2⟩
      have HL2 := Lib.hid (HL.out.below hb2)
      have HM2 := Lib.hid ((hb2.block _ hml).trans HM.out)
      have HB2 := Lib.hid (HB1.out.trans (hb2.mono HB1.out.size))
      have c0 : w2.cell? ⟨w.heap.size, 0, none⟩ = some (.int .i64 m.kind) := by rw [Lib.cell_of_heap HM2.out]; rfl
      have c1 : w2.cell? ⟨w.heap.size, 1, none⟩ = some (.string m.k) := by rw [Lib.cell_of_heap HM2.out]; rfl
      have c2 : w2.cell? ⟨w.heap.size, 2, none⟩ = some (.string m.v) := by rw [Lib.cell_of_heap HM2.out]; rfl
      have hml2 : w.heap.size < w2.heap.size := (Array.getElem?_eq_some_iff.1 HM2.out).1
      have cb := Lib.cell_of_heap HL2.out.box; have cg := (hb2.cell (p := ⟨g, p * 2 + 1, none⟩) hgl).trans HAT.out
      clear hb2 HP hml
      go_wp2_with fail
      refine (HA2.out _).mono ?_
      rintro e w3 ⟨rfl, hb3⟩
      have HL3 := Lib.hid (HL2.out.below hb3)
      have HM3 := Lib.hid ((hb3.block _ hml2).trans HM2.out)
      have HB3 := Lib.hid (HB2.out.trans (hb3.mono HB2.out.size))
      clear c0 c1 c2
      have c1 : w3.cell? ⟨w.heap.size, 1, none⟩ = some (.string m.k) := by rw [Lib.cell_of_heap HM3.out]; rfl
      have HN4 := Lib.hid (heap_alloc_new w3 (.cells #[.string m.k, .string r1] 41))
      have HL4 := Lib.hid (HL3.out.below (below_alloc1 w3 (.cells #[.string m.k, .string r1] 41)))
      have HB4 := Lib.hid (HB3.out.alloc HB3.out.size (.cells #[.string m.k, .string r1] 41))
      clear hb3
      clear cb cg
      go_wp2_with fail
      have hgw := HL4.out.rowI.lt
      generalize w3.alloc (.cells #[.string m.k, .string r1] 41) = w4 at *
      clear c1
      obtain ⟨xb, hxb⟩ : ∃ xb, xb = w3.heap.size := ⟨_, rfl⟩
      rw [← hxb] at HN4 ⊢
      clear hxb
      have q2 := far_cell (show w4.cell? ⟨b, 0, none⟩ = some (.slice (some ⟨g, 0, none⟩) xs.length c) by rw [Lib.cell_of_heap HL4.out.box]; rfl)
      have q3 := far_cell (show w4.cell? ⟨xb, 0, none⟩ = some (.string m.k) by rw [Lib.cell_of_heap HN4.out]; rfl)
      have q4 := far_cell (show w4.cell? ⟨xb, 1, none⟩ = some (.string r1) by rw [Lib.cell_of_heap HN4.out]; rfl)
      refine wp_region_far_tail 7 mixed_ (by kernel_rfl) ?_
      simp only [List.take_succ_cons, List.take_zero, List.drop_succ_cons, List.drop_zero]
      repeat (go_big_quiet_step ((fail)))
      refine wpQuiet_nil ?_
      intro _ hw'
      obtain ⟨⟨nq, osq⟩, hw''⟩ := hw'
      subst hw''
      have hb5 := below_far w4 nq osq
      have HL5 := Lib.hid (HL4.out.below hb5)
      have HB5 := Lib.hid (HB4.out.trans (hb5.mono HB4.out.size))
      have hfr := HL5.out.rowI.frozen
      obtain ⟨ca0, ca1⟩ := HL5.out.rowI.at_ (List.getElem?_eq_getElem hlt)
      generalize far w4 nq osq = w5 at *
      clear q2 q3 q4 hb5
      go_wp2
      go_end0
      have HS := HL5.out.setAt ⟨m.k, r1⟩ hlt
      exact ⟨_, rfl, HS.1, (HB5.out.mono hBs).trans HS.2⟩

end Go.Proofs.YtjpakldnejpleaaGreat
