/- model.Do. -/
import Derived.Test.YtjpakldnejpleaaGreatUpdW
namespace Go.Proofs.YtjpakldnejpleaaGreat
open Go.RowKit

/-- An answer. -/
structure An where
  err : Nat
  has : Bool
  val : ByteArray
  items : List It
  si : Nat
  sw : Nat
deriving DecidableEq

def An.no (e : Nat) : An := ⟨e, false, ⟨#[]⟩, [], 0, 0⟩

/-- A value is an answer; its items lie behind base. -/
def An.lies (w : World) (base : Nat) (a : An) (v : Value) : Prop := ∃ A c, v = ansV a.err a.has a.val (.slice A a.items.length c) a.si a.sw ∧ w.ownsRow base 41 2 (.slice A a.items.length c) a.items.length (It.cells a.items)

/-- What a model answers, and its rows then. -/
def modDo (n : Nat) (rows : List (List It)) (o : Od) : An × List (List It) :=
  if odIs o = false then (An.no 1, rows)
  else if (msgOf o).2 = true then (An.no (updErr n (lastRow rows) (msgOf o).1), updRows n rows (msgOf o).1)
  else if o.kind = 4 then (if keyIs o.k then ⟨0, It.has (lastRow rows) o.k, It.was (lastRow rows) o.k, [], 0, 0⟩ else An.no 1, rows)
  else if o.kind = 5 then (if rangeIs o.lo o.hi then ⟨0, false, ⟨#[]⟩, (lastRow rows).filter fun x => rangeHas o.lo o.hi x.k, 0, 0⟩ else An.no 1, rows)
  else if o.kind = 8 then (⟨0, false, ⟨#[]⟩, [], (lastRow rows).length, wt (lastRow rows)⟩, rows)
  else (An.no 0, [lastRow rows])

theorem off_set_step {a : Nat} {w0 w1 : World} (o : Nat) (u : Value) (h : Off (fun k => k = a) w0 w1) : Off (fun k => k = a) w0 (w1.setCell ⟨a, o, none⟩ u) := h.trans (off_setCell w1 a o u) (fun _ _ e => e)

theorem LeafAt.off2 {w w' : World} {lb : Nat} {xs : List It} {S : Nat → Prop} (h : LeafAt w lb xs) (ho : Off S w w') (h1 : ¬ S lb) (h2 : ∀ bb o x y, w.cell? ⟨bb, o, none⟩ = some (.string x) → w.cell? ⟨bb, o + 1, none⟩ = some (.string y) → ¬ S bb) : LeafAt w' lb xs := by
  obtain ⟨A, c, hb, hs⟩ := h
  refine ⟨A, c, (ho.block lb (Array.getElem?_eq_some_iff.1 hb).1 h1).trans hb, hs.len, hs.cap, fun hn => ?_⟩
  obtain ⟨bb, o, e, hlt, hc⟩ := hs.at_ hn
  refine ⟨bb, o, e, Nat.lt_of_lt_of_le hlt ho.size, fun i x hx => ?_⟩
  obtain ⟨k1, k2⟩ := hc i x hx
  have hS := h2 bb _ _ _ k1 k2
  have hbk := ho.block bb hlt hS
  exact ⟨(World.cell?_of_block (w := w) (a := ⟨bb, o + i * 2, none⟩) hbk).trans k1, (World.cell?_of_block (w := w) (a := ⟨bb, o + i * 2 + 1, none⟩) hbk).trans k2⟩

def zAns : Array Value := #[.int .i64 0, .bool false, .string ⟨#[]⟩, .slice none 0 0, .int .i64 0, .int .i64 0, .int .i64 0, .int .i64 0, .int .i64 0, .int .i64 0, .int .i64 0, .int .i64 0, .int .i64 0]

theorem ModIn.ans {w w' : World} {b g o c : Nat} {cur : Array Value} {bs : List Nat} {n : Nat} {rows : List (List It)} (h : ModIn w b g o c cur bs n rows) {a : Nat} (hX : w.heap[a]? = some (.cells zAns 35 (0, 0))) (ho : Off (fun k => k = a) w w') : ModIn w' b g o c cur bs n rows := by
  have hb : b ≠ a := by
    rintro rfl
    have := h.box
    rw [hX] at this; cases this
  have hg : g ≠ a := by
    rintro rfl
    have := h.row
    rw [hX] at this; cases this
  refine { h with box := (ho.block b (Array.getElem?_eq_some_iff.1 h.box).1 hb).trans h.box, row := (ho.block g (Array.getElem?_eq_some_iff.1 h.row).1 hg).trans h.row, leaf := fun i l xs hi hx => ?_ }
  have hl := h.leaf i l xs hi hx
  refine hl.off2 ho ?_ ?_
  · rintro rfl
    obtain ⟨A, c, hb, _⟩ := hl
    rw [hX] at hb; cases hb
  · rintro bb p x y h1 h2 rfl
    rw [Lib.cell_of_heap hX] at h1 h2
    unfold zAns at h1 h2
    match p, h1, h2 with
    | 0, h1, h2 => cases h1
    | 1, h1, h2 => cases h1
    | 2, h1, h2 => cases h2
    | 3, h1, h2 => cases h1
    | 4, h1, h2 => cases h1
    | 5, h1, h2 => cases h1
    | 6, h1, h2 => cases h1
    | 7, h1, h2 => cases h1
    | 8, h1, h2 => cases h1
    | 9, h1, h2 => cases h1
    | 10, h1, h2 => cases h1
    | 11, h1, h2 => cases h1
    | 12, h1, h2 => cases h1
    | (q + 13), h1, h2 => simp at h1

theorem ModAt.ans {w w' : World} {b g n : Nat} {rows : List (List It)} (h : ModAt w b g n rows) {a : Nat} (hX : w.heap[a]? = some (.cells zAns 35 (0, 0))) (ho : Off (fun k => k = a) w w') : ModAt w' b g n rows := by
  obtain ⟨o, c, cur, bs, h⟩ := h
  exact ⟨o, c, cur, bs, h.ans hX ho⟩

theorem Off.ans {S : Nat → Prop} {w w3 W : World} {a : Nat} (h : Off S w w3) (ho : Off (fun k => k = a) w3 W) (ha : w.heap.size ≤ a) : Off S w W :=
  h.trans ho (fun k hk e => by omega)

theorem own_off {w w' : World} {B a : Nat} {v : Value} {n : Nat} {cs : List Value} (h : w.ownsRow B 41 2 v n cs) (ho : Off (fun k => k = a) w w') (hne : some a ≠ v.ownBlock) : w'.ownsRow B 41 2 v n cs :=
  h.kept (row := some a) ⟨ho.os, ho.tape, ho.output, ho.size, fun k hk hne => ho.block k hk (fun e => hne (by rw [e]))⟩ (.inr (fun e => hne e.symm))

/-- What Do gives. -/
def DoPost (w : World) (b g n : Nat) (r : An × List (List It)) (e : Ending) (w' : World) : Prop :=
  (∃ v, e = .returned v ∧ r.1.lies w' w.heap.size v) ∧ (∃ g', ModAt w' b g' n r.2 ∧ (g' = g ∨ w.heap.size ≤ g')) ∧ Off (fun k => k = b ∨ k = g) w w'

theorem doPost_mk {w w3 W : World} {b g g' n a : Nat} {an : An} {rows' : List (List It)} {A : Option Addr} {c : Nat} {v : Value} (hv : v = ansV an.err an.has an.val (.slice A an.items.length c) an.si an.sw) (hO : w3.ownsRow w.heap.size 41 2 (.slice A an.items.length c) an.items.length (It.cells an.items))
    (hM : ModAt w3 b g' n rows') (hg : g' = g ∨ w.heap.size ≤ g') (hX : w3.heap[a]? = some (.cells zAns 35 (0, 0))) (h3 : Off (fun k => k = b ∨ k = g) w w3) (hW : Off (fun k => k = a) w3 W) (ha : w.heap.size ≤ a) : DoPost w b g n (an, rows') (.returned v) W :=
  ⟨⟨v, rfl, A, c, hv, own_off hO hW (own_other hO hX (by decide))⟩, ⟨g', hM.ans hX hW, hg⟩, h3.ans hW ha⟩

theorem own_nil (w : World) (B : Nat) : w.ownsRow B 41 2 (.slice none 0 0) 0 (It.cells []) := World.ownsRow_nil _ _ _ _

set_option maxHeartbeats 4000000 in
set_option maxRecDepth 100000 in
theorem model_Do_bad (b g n : Nat) (rows : List (List It)) (o : Od) (w : World) (h : ModAt w b g n rows) (hok : odIs o = false) :
    Calls Tryz.prog 10 #[.pointer (some ⟨b, 0, none⟩), o.agg] w (DoPost w b g n (An.no 1, rows)) := by
  obtain ⟨kind, k, v, on, lo, hi⟩ := o
  skip
  obtain ⟨w2, hw2⟩ : ∃ w2, (w.alloc (.cells #[.int .i64 kind, .string k, .string v, .int .u64 on, .string lo, .string hi] 39)).alloc (.cells zAns 35) = w2 := ⟨_, rfl⟩
  have hB2 : Below w.heap.size w w2 := by rw [← hw2]; exact (below_alloc_1 w _).alloc (by simp) _
  have hX2 : w2.heap[w.heap.size + 1]? = some (.cells zAns 35 (0, 0)) := by
    rw [← hw2]
    have := heap_alloc_new (w.alloc (.cells #[.int .i64 kind, .string k, .string v, .int .u64 on, .string lo, .string hi] 39)) (.cells zAns 35)
    simpa using this
  have hxl := (Array.getElem?_eq_some_iff.1 hX2).1
  have hR2 : w2.heap[w.heap.size]? = some (.cells #[.int .i64 kind, .string k, .string v, .int .u64 on, .string lo, .string hi] 39 (0, 0)) := by
    rw [← hw2, heap_alloc_old _ _ (by simp)]
    exact heap_alloc_new w _
  have hrl := (Array.getElem?_eq_some_iff.1 hR2).1
  have HIs := fun W => order_Is ⟨kind, k, v, on, lo, hi⟩ W
  rw [hok] at HIs
  unfold Od.agg at *
  unfold zAns at *
  have HIs := Lib.hid HIs
  have HW := Lib.hid hw2
  have HB2 := Lib.hid hB2
  have HX2 := Lib.hid hX2
  have HR2 := Lib.hid hR2
  have HM2 := Lib.hid (h.below hB2)
  have c := Lib.cell_of_heap hR2
  have r0 : w2.cell? ⟨w.heap.size, 0, none⟩ = some (.int .i64 kind) := by rw [c]; rfl
  have r1 : w2.cell? ⟨w.heap.size, 1, none⟩ = some (.string k) := by rw [c]; rfl
  have r2 : w2.cell? ⟨w.heap.size, 2, none⟩ = some (.string v) := by rw [c]; rfl
  have r3 : w2.cell? ⟨w.heap.size, 3, none⟩ = some (.int .u64 on) := by rw [c]; rfl
  have r4 : w2.cell? ⟨w.heap.size, 4, none⟩ = some (.string lo) := by rw [c]; rfl
  have r5 : w2.cell? ⟨w.heap.size, 5, none⟩ = some (.string hi) := by rw [c]; rfl
  clear hw2 hB2 hX2 hR2 c
  go_enter Tryz.func10, Tryz.ntmps10
  go_wp2_with (first | (rw [HW.out]) | fail)
  refine (HIs.out _).mono ?_
  rintro e w3 ⟨rfl, hb3⟩
  have HX3 := Lib.hid ((hb3.block _ hxl).trans HX2.out)
  have HR3 := Lib.hid ((hb3.block _ hrl).trans HR2.out)
  have HB3 := Lib.hid (HB2.out.trans (hb3.mono HB2.out.size))
  have HM3 := Lib.hid (HM2.out.below hb3)
  clear hb3 r0 r1 r2 r3 r4 r5 HIs HX2 HR2 HB2 HM2 hxl hrl HW
  have cc := Lib.cell_of_heap HX3.out
  have ff := Lib.frozen_of_heap HX3.out
  have c := Lib.cell_of_heap HR3.out
  have r0 : w3.cell? ⟨w.heap.size, 0, none⟩ = some (.int .i64 kind) := by rw [c]; rfl
  have r1 : w3.cell? ⟨w.heap.size, 1, none⟩ = some (.string k) := by rw [c]; rfl
  have r2 : w3.cell? ⟨w.heap.size, 2, none⟩ = some (.string v) := by rw [c]; rfl
  have r3 : w3.cell? ⟨w.heap.size, 3, none⟩ = some (.int .u64 on) := by rw [c]; rfl
  have r4 : w3.cell? ⟨w.heap.size, 4, none⟩ = some (.string lo) := by rw [c]; rfl
  have r5 : w3.cell? ⟨w.heap.size, 5, none⟩ = some (.string hi) := by rw [c]; rfl
  clear c
  go_wp2
  generalize hW : World.setCell _ _ _ = W
  have HXf : ∃ cs, W.heap[w.heap.size + 1]? = some (.cells cs 35 (0, 0)) ∧ cs = #[.int .i64 1, .bool false, .string ⟨#[]⟩, .slice none 0 0, .int .i64 0, .int .i64 0, .int .i64 0, .int .i64 0, .int .i64 0, .int .i64 0, .int .i64 0, .int .i64 0, .int .i64 0] := by
    refine ⟨_, ?_, rfl⟩
    rw [← hW]
    simp only [heap_setCell_map, HX3.out, Option.map_some, objSet]
    simp
  have HOf : Off (fun k => k = w.heap.size + 1) w3 W := by
    rw [← hW]
    repeat with_reducible apply off_set_step
    with_reducible exact Off.refl _ _
  clear hW
  obtain ⟨cs, HXf, rfl⟩ := HXf
  have cc := Lib.cell_of_heap HXf
  refine bodyPost_ret ?_ rfl (doPost_mk (an := An.no 1) rfl (own_nil w3 _) HM3.out (.inl rfl) HX3.out (Off.of_below HB3.out) HOf (by omega))
  simp [results, Tryz.results10, go_sem, ansV, An.no, cc]

set_option maxHeartbeats 4000000 in
set_option maxRecDepth 100000 in
theorem model_Do_get (b g n : Nat) (rows : List (List It)) (o : Od) (w : World) (h : ModAt w b g n rows) (hr : RowOk (lastRow rows)) (hn : o.n < 18446744073709551616) (hok : odIs o = true) (hk : o.kind = 4) :
    Calls Tryz.prog 10 #[.pointer (some ⟨b, 0, none⟩), o.agg] w (DoPost w b g n (if keyIs o.k then ⟨0, It.has (lastRow rows) o.k, It.was (lastRow rows) o.k, [], 0, 0⟩ else An.no 1, rows)) := by
  obtain ⟨an, han⟩ : ∃ an, an = if keyIs o.k then ⟨0, It.has (lastRow rows) o.k, It.was (lastRow rows) o.k, [], 0, 0⟩ else An.no 1 := ⟨_, rfl⟩
  rw [← han]
  have HAN := Lib.hid han
  clear han
  obtain ⟨kind, k, v, on, lo, hi⟩ := o
  change kind = 4 at hk; subst hk; change odIs ⟨4, k, v, on, lo, hi⟩ = true at hok; change on < _ at hn
  obtain ⟨w2, hw2⟩ : ∃ w2, (w.alloc (.cells #[.int .i64 4, .string k, .string v, .int .u64 on, .string lo, .string hi] 39)).alloc (.cells zAns 35) = w2 := ⟨_, rfl⟩
  have hB2 : Below w.heap.size w w2 := by rw [← hw2]; exact (below_alloc_1 w _).alloc (by simp) _
  have hX2 : w2.heap[w.heap.size + 1]? = some (.cells zAns 35 (0, 0)) := by
    rw [← hw2]
    have := heap_alloc_new (w.alloc (.cells #[.int .i64 4, .string k, .string v, .int .u64 on, .string lo, .string hi] 39)) (.cells zAns 35)
    simpa using this
  have hxl := (Array.getElem?_eq_some_iff.1 hX2).1
  have hR2 : w2.heap[w.heap.size]? = some (.cells #[.int .i64 4, .string k, .string v, .int .u64 on, .string lo, .string hi] 39 (0, 0)) := by
    rw [← hw2, heap_alloc_old _ _ (by simp)]
    exact heap_alloc_new w _
  have hrl := (Array.getElem?_eq_some_iff.1 hR2).1
  have HIs := fun W => order_Is ⟨4, k, v, on, lo, hi⟩ W
  rw [hok] at HIs
  unfold Od.agg at *
  unfold zAns at *
  have HIs := Lib.hid HIs
  have HW := Lib.hid hw2
  have HB2 := Lib.hid hB2
  have HX2 := Lib.hid hX2
  have HR2 := Lib.hid hR2
  have HM2 := Lib.hid (h.below hB2)
  have c := Lib.cell_of_heap hR2
  have r0 : w2.cell? ⟨w.heap.size, 0, none⟩ = some (.int .i64 4) := by rw [c]; rfl
  have r1 : w2.cell? ⟨w.heap.size, 1, none⟩ = some (.string k) := by rw [c]; rfl
  have r2 : w2.cell? ⟨w.heap.size, 2, none⟩ = some (.string v) := by rw [c]; rfl
  have r3 : w2.cell? ⟨w.heap.size, 3, none⟩ = some (.int .u64 on) := by rw [c]; rfl
  have r4 : w2.cell? ⟨w.heap.size, 4, none⟩ = some (.string lo) := by rw [c]; rfl
  have r5 : w2.cell? ⟨w.heap.size, 5, none⟩ = some (.string hi) := by rw [c]; rfl
  clear hw2 hB2 hX2 hR2 c
  go_enter Tryz.func10, Tryz.ntmps10
  go_wp2_with (first | (rw [HW.out]) | fail)
  refine (HIs.out _).mono ?_
  rintro e w3 ⟨rfl, hb3⟩
  have HX3 := Lib.hid ((hb3.block _ hxl).trans HX2.out)
  have HR3 := Lib.hid ((hb3.block _ hrl).trans HR2.out)
  have HB3 := Lib.hid (HB2.out.trans (hb3.mono HB2.out.size))
  have HM3 := Lib.hid (HM2.out.below hb3)
  clear hb3 r0 r1 r2 r3 r4 r5 HIs HX2 HR2 HB2 HM2 hxl hrl HW
  have cc := Lib.cell_of_heap HX3.out
  have ff := Lib.frozen_of_heap HX3.out
  have c := Lib.cell_of_heap HR3.out
  have r0 : w3.cell? ⟨w.heap.size, 0, none⟩ = some (.int .i64 4) := by rw [c]; rfl
  have r1 : w3.cell? ⟨w.heap.size, 1, none⟩ = some (.string k) := by rw [c]; rfl
  have r2 : w3.cell? ⟨w.heap.size, 2, none⟩ = some (.string v) := by rw [c]; rfl
  have r3 : w3.cell? ⟨w.heap.size, 3, none⟩ = some (.int .u64 on) := by rw [c]; rfl
  have r4 : w3.cell? ⟨w.heap.size, 4, none⟩ = some (.string lo) := by rw [c]; rfl
  have r5 : w3.cell? ⟨w.heap.size, 5, none⟩ = some (.string hi) := by rw [c]; rfl
  clear c
  have hmo : msgOf ⟨4, k, v, on, lo, hi⟩ = (⟨0, ⟨#[]⟩, ⟨#[]⟩⟩, false) := rfl
  have HMs := fun W => model_message ⟨4, k, v, on, lo, hi⟩ W hn
  rw [hmo] at HMs
  clear hmo
  unfold Od.agg Ms.agg at HMs
  have HMs := Lib.hid HMs
  have hxl := (Array.getElem?_eq_some_iff.1 HX3.out).1
  have hrl := (Array.getElem?_eq_some_iff.1 HR3.out).1
  go_wp2_with fail
  refine (HMs.out _).mono ?_
  rintro e w4 ⟨rfl, hb4⟩
  have HX4 := Lib.hid ((hb4.block _ hxl).trans HX3.out)
  have HR4 := Lib.hid ((hb4.block _ hrl).trans HR3.out)
  obtain ⟨w5, hw5⟩ : ∃ w5, w4.alloc (.cells #[.int .i64 0, .string ⟨#[]⟩, .string ⟨#[]⟩] 88) = w5 := ⟨_, rfl⟩
  have hb5 : Below w3.heap.size w3 w5 := by rw [← hw5]; exact hb4.alloc hb4.size _
  have HX5 := Lib.hid ((hb5.block _ hxl).trans HX3.out)
  have HR5 := Lib.hid ((hb5.block _ hrl).trans HR3.out)
  have HB5 := Lib.hid (HB3.out.trans (hb5.mono HB3.out.size))
  have HM5 := Lib.hid (HM3.out.below hb5)
  have HW5 := Lib.hid hw5
  clear hb4 hb5 hw5 cc ff r0 r1 r2 r3 r4 r5 HMs HX3 HR3 HB3 HM3 hxl hrl
  have hxl := (Array.getElem?_eq_some_iff.1 HX5.out).1
  have hrl := (Array.getElem?_eq_some_iff.1 HR5.out).1
  have cc := Lib.cell_of_heap HX4.out
  have ff := Lib.frozen_of_heap HX4.out
  have c := Lib.cell_of_heap HR4.out
  have r0 : w4.cell? ⟨w.heap.size, 0, none⟩ = some (.int .i64 4) := by rw [c]; rfl
  have r1 : w4.cell? ⟨w.heap.size, 1, none⟩ = some (.string k) := by rw [c]; rfl
  have r2 : w4.cell? ⟨w.heap.size, 2, none⟩ = some (.string v) := by rw [c]; rfl
  have r3 : w4.cell? ⟨w.heap.size, 3, none⟩ = some (.int .u64 on) := by rw [c]; rfl
  have r4 : w4.cell? ⟨w.heap.size, 4, none⟩ = some (.string lo) := by rw [c]; rfl
  have r5 : w4.cell? ⟨w.heap.size, 5, none⟩ = some (.string hi) := by rw [c]; rfl
  clear c
  have b0 := fun o => (below_alloc1 w4 o).cell_ r0
  have b1 := fun o => (below_alloc1 w4 o).cell_ r1
  have b2 := fun o => (below_alloc1 w4 o).cell_ r2
  have b3 := fun o => (below_alloc1 w4 o).cell_ r3
  have b4 := fun o => (below_alloc1 w4 o).cell_ r4
  have b5 := fun o => (below_alloc1 w4 o).cell_ r5
  have HG := model_get b g n rows k w5 HM5.out hr
  cases hki : keyIs k with
  | false =>
    rw [hki, if_neg (by decide)] at HG
    unfold ansV at HG
    have HG := Lib.hid HG
    have HA := Lib.hid (show an = An.no 1 by rw [HAN.out, if_neg (by simp [hki])])
    clear hki HAN
    go_wp2_with fail
    rw [HW5.out]
    refine HG.out.mono ?_
    rintro e w6 ⟨rfl, hb6⟩
    clear cc ff r0 r1 r2 r3 r4 r5 b0 b1 b2 b3 b4 b5 HG
    have HX6 := Lib.hid ((hb6.block _ hxl).trans HX5.out)
    have HB6 := Lib.hid (HB5.out.trans (hb6.mono HB5.out.size))
    have HM6 := Lib.hid (HM5.out.below hb6)
    have cc := Lib.cell_of_heap HX6.out
    have ff := Lib.frozen_of_heap HX6.out
    clear hb6
    go_wp2
    generalize hW : World.setCell _ _ _ = W
    have HXf : ∃ cs, W.heap[w.heap.size + 1]? = some (.cells cs 35 (0, 0)) ∧ cs = #[.int .i64 1, .bool false, .string ⟨#[]⟩, .slice none 0 0, .int .i64 0, .int .i64 0, .int .i64 0, .int .i64 0, .int .i64 0, .int .i64 0, .int .i64 0, .int .i64 0, .int .i64 0] := by
      refine ⟨_, ?_, rfl⟩
      rw [← hW]
      simp only [heap_setCell_map, HX6.out, Option.map_some, objSet]
      simp
    have HOf : Off (fun k => k = w.heap.size + 1) w6 W := by
      rw [← hW]
      repeat with_reducible apply off_set_step
      with_reducible exact Off.refl _ _
    clear hW
    obtain ⟨cs, HXf, rfl⟩ := HXf
    have cc := Lib.cell_of_heap HXf
    rw [HA.out]
    refine bodyPost_ret ?_ rfl (doPost_mk (an := An.no 1) rfl (own_nil w6 _) HM6.out (.inl rfl) HX6.out (Off.of_below HB6.out) HOf (by omega))
    simp [results, Tryz.results10, go_sem, ansV, An.no, cc]
  | true =>
    rw [hki, if_pos rfl] at HG
    unfold ansV at HG
    have HG := Lib.hid HG
    have han := show an = ⟨0, It.has (lastRow rows) k, It.was (lastRow rows) k, [], 0, 0⟩ by rw [HAN.out, if_pos (by exact hki)]
    generalize It.has (lastRow rows) k = rh at *
    generalize It.was (lastRow rows) k = rv at *
    have HA := Lib.hid han
    clear hki HAN han
    go_wp2_with fail
    rw [HW5.out]
    refine HG.out.mono ?_
    rintro e w6 ⟨rfl, hb6⟩
    clear cc ff r0 r1 r2 r3 r4 r5 b0 b1 b2 b3 b4 b5 HG
    have HX6 := Lib.hid ((hb6.block _ hxl).trans HX5.out)
    have HB6 := Lib.hid (HB5.out.trans (hb6.mono HB5.out.size))
    have HM6 := Lib.hid (HM5.out.below hb6)
    have cc := Lib.cell_of_heap HX6.out
    have ff := Lib.frozen_of_heap HX6.out
    clear hb6
    go_wp2
    generalize hW : World.setCell _ _ _ = W
    have HXf : ∃ cs, W.heap[w.heap.size + 1]? = some (.cells cs 35 (0, 0)) ∧ cs = #[.int .i64 0, .bool rh, .string rv, .slice none 0 0, .int .i64 0, .int .i64 0, .int .i64 0, .int .i64 0, .int .i64 0, .int .i64 0, .int .i64 0, .int .i64 0, .int .i64 0] := by
      refine ⟨_, ?_, rfl⟩
      rw [← hW]
      simp only [heap_setCell_map, HX6.out, Option.map_some, objSet]
      simp
    have HOf : Off (fun k => k = w.heap.size + 1) w6 W := by
      rw [← hW]
      repeat with_reducible apply off_set_step
      with_reducible exact Off.refl _ _
    clear hW
    obtain ⟨cs, HXf, rfl⟩ := HXf
    have cc := Lib.cell_of_heap HXf
    rw [HA.out]
    refine bodyPost_ret ?_ rfl (doPost_mk (an := ⟨0, rh, rv, [], 0, 0⟩) rfl (own_nil w6 _) HM6.out (.inl rfl) HX6.out (Off.of_below HB6.out) HOf (by omega))
    simp [results, Tryz.results10, go_sem, ansV, cc]

theorem ModAt.ne_ans {w : World} {b g n a : Nat} {rows : List (List It)} (h : ModAt w b g n rows) (hX : w.heap[a]? = some (.cells zAns 35 (0, 0))) : ¬ (a = b ∨ a = g) := by
  obtain ⟨o, c, cur, bs, h⟩ := h
  rintro (rfl | rfl)
  · have := h.box
    rw [hX] at this; cases this
  · have := h.row
    rw [hX] at this; cases this

set_option maxHeartbeats 4000000 in
set_option maxRecDepth 100000 in
theorem model_Do_scan (b g n : Nat) (rows : List (List It)) (o : Od) (w : World) (h : ModAt w b g n rows) (hr : RowOk (lastRow rows)) (hn : o.n < 18446744073709551616) (hok : odIs o = true) (hk : o.kind = 5) :
    Calls Tryz.prog 10 #[.pointer (some ⟨b, 0, none⟩), o.agg] w (DoPost w b g n (if rangeIs o.lo o.hi then ⟨0, false, ⟨#[]⟩, (lastRow rows).filter fun x => rangeHas o.lo o.hi x.k, 0, 0⟩ else An.no 1, rows)) := by
  obtain ⟨an, han⟩ : ∃ an, an = if rangeIs o.lo o.hi then ⟨0, false, ⟨#[]⟩, (lastRow rows).filter fun x => rangeHas o.lo o.hi x.k, 0, 0⟩ else An.no 1 := ⟨_, rfl⟩
  rw [← han]
  have HAN := Lib.hid han
  clear han
  obtain ⟨kind, k, v, on, lo, hi⟩ := o
  change kind = 5 at hk; subst hk; change odIs ⟨5, k, v, on, lo, hi⟩ = true at hok; change on < _ at hn
  obtain ⟨w2, hw2⟩ : ∃ w2, (w.alloc (.cells #[.int .i64 5, .string k, .string v, .int .u64 on, .string lo, .string hi] 39)).alloc (.cells zAns 35) = w2 := ⟨_, rfl⟩
  have hB2 : Below w.heap.size w w2 := by rw [← hw2]; exact (below_alloc_1 w _).alloc (by simp) _
  have hX2 : w2.heap[w.heap.size + 1]? = some (.cells zAns 35 (0, 0)) := by
    rw [← hw2]
    have := heap_alloc_new (w.alloc (.cells #[.int .i64 5, .string k, .string v, .int .u64 on, .string lo, .string hi] 39)) (.cells zAns 35)
    simpa using this
  have hxl := (Array.getElem?_eq_some_iff.1 hX2).1
  have hR2 : w2.heap[w.heap.size]? = some (.cells #[.int .i64 5, .string k, .string v, .int .u64 on, .string lo, .string hi] 39 (0, 0)) := by
    rw [← hw2, heap_alloc_old _ _ (by simp)]
    exact heap_alloc_new w _
  have hrl := (Array.getElem?_eq_some_iff.1 hR2).1
  have HIs := fun W => order_Is ⟨5, k, v, on, lo, hi⟩ W
  rw [hok] at HIs
  unfold Od.agg at *
  unfold zAns at *
  have HIs := Lib.hid HIs
  have HW := Lib.hid hw2
  have HB2 := Lib.hid hB2
  have HX2 := Lib.hid hX2
  have HR2 := Lib.hid hR2
  have HM2 := Lib.hid (h.below hB2)
  have c := Lib.cell_of_heap hR2
  have r0 : w2.cell? ⟨w.heap.size, 0, none⟩ = some (.int .i64 5) := by rw [c]; rfl
  have r1 : w2.cell? ⟨w.heap.size, 1, none⟩ = some (.string k) := by rw [c]; rfl
  have r2 : w2.cell? ⟨w.heap.size, 2, none⟩ = some (.string v) := by rw [c]; rfl
  have r3 : w2.cell? ⟨w.heap.size, 3, none⟩ = some (.int .u64 on) := by rw [c]; rfl
  have r4 : w2.cell? ⟨w.heap.size, 4, none⟩ = some (.string lo) := by rw [c]; rfl
  have r5 : w2.cell? ⟨w.heap.size, 5, none⟩ = some (.string hi) := by rw [c]; rfl
  clear hw2 hB2 hX2 hR2 c
  go_enter Tryz.func10, Tryz.ntmps10
  go_wp2_with (first | (rw [HW.out]) | fail)
  refine (HIs.out _).mono ?_
  rintro e w3 ⟨rfl, hb3⟩
  have HX3 := Lib.hid ((hb3.block _ hxl).trans HX2.out)
  have HR3 := Lib.hid ((hb3.block _ hrl).trans HR2.out)
  have HB3 := Lib.hid (HB2.out.trans (hb3.mono HB2.out.size))
  have HM3 := Lib.hid (HM2.out.below hb3)
  clear hb3 r0 r1 r2 r3 r4 r5 HIs HX2 HR2 HB2 HM2 hxl hrl HW
  have cc := Lib.cell_of_heap HX3.out
  have ff := Lib.frozen_of_heap HX3.out
  have c := Lib.cell_of_heap HR3.out
  have r0 : w3.cell? ⟨w.heap.size, 0, none⟩ = some (.int .i64 5) := by rw [c]; rfl
  have r1 : w3.cell? ⟨w.heap.size, 1, none⟩ = some (.string k) := by rw [c]; rfl
  have r2 : w3.cell? ⟨w.heap.size, 2, none⟩ = some (.string v) := by rw [c]; rfl
  have r3 : w3.cell? ⟨w.heap.size, 3, none⟩ = some (.int .u64 on) := by rw [c]; rfl
  have r4 : w3.cell? ⟨w.heap.size, 4, none⟩ = some (.string lo) := by rw [c]; rfl
  have r5 : w3.cell? ⟨w.heap.size, 5, none⟩ = some (.string hi) := by rw [c]; rfl
  clear c
  have hmo : msgOf ⟨5, k, v, on, lo, hi⟩ = (⟨0, ⟨#[]⟩, ⟨#[]⟩⟩, false) := rfl
  have HMs := fun W => model_message ⟨5, k, v, on, lo, hi⟩ W hn
  rw [hmo] at HMs
  clear hmo
  unfold Od.agg Ms.agg at HMs
  have HMs := Lib.hid HMs
  have hxl := (Array.getElem?_eq_some_iff.1 HX3.out).1
  have hrl := (Array.getElem?_eq_some_iff.1 HR3.out).1
  go_wp2_with fail
  refine (HMs.out _).mono ?_
  rintro e w4 ⟨rfl, hb4⟩
  have HX4 := Lib.hid ((hb4.block _ hxl).trans HX3.out)
  have HR4 := Lib.hid ((hb4.block _ hrl).trans HR3.out)
  obtain ⟨w5, hw5⟩ : ∃ w5, w4.alloc (.cells #[.int .i64 0, .string ⟨#[]⟩, .string ⟨#[]⟩] 88) = w5 := ⟨_, rfl⟩
  have hb5 : Below w3.heap.size w3 w5 := by rw [← hw5]; exact hb4.alloc hb4.size _
  have HX5 := Lib.hid ((hb5.block _ hxl).trans HX3.out)
  have HR5 := Lib.hid ((hb5.block _ hrl).trans HR3.out)
  have HB5 := Lib.hid (HB3.out.trans (hb5.mono HB3.out.size))
  have HM5 := Lib.hid (HM3.out.below hb5)
  have HW5 := Lib.hid hw5
  clear hb4 hb5 hw5 cc ff r0 r1 r2 r3 r4 r5 HMs HX3 HR3 HB3 HM3 hxl hrl
  have hxl := (Array.getElem?_eq_some_iff.1 HX5.out).1
  have hrl := (Array.getElem?_eq_some_iff.1 HR5.out).1
  have cc := Lib.cell_of_heap HX4.out
  have ff := Lib.frozen_of_heap HX4.out
  have c := Lib.cell_of_heap HR4.out
  have r0 : w4.cell? ⟨w.heap.size, 0, none⟩ = some (.int .i64 5) := by rw [c]; rfl
  have r1 : w4.cell? ⟨w.heap.size, 1, none⟩ = some (.string k) := by rw [c]; rfl
  have r2 : w4.cell? ⟨w.heap.size, 2, none⟩ = some (.string v) := by rw [c]; rfl
  have r3 : w4.cell? ⟨w.heap.size, 3, none⟩ = some (.int .u64 on) := by rw [c]; rfl
  have r4 : w4.cell? ⟨w.heap.size, 4, none⟩ = some (.string lo) := by rw [c]; rfl
  have r5 : w4.cell? ⟨w.heap.size, 5, none⟩ = some (.string hi) := by rw [c]; rfl
  clear c
  have b0 := fun o => (below_alloc1 w4 o).cell_ r0
  have b1 := fun o => (below_alloc1 w4 o).cell_ r1
  have b2 := fun o => (below_alloc1 w4 o).cell_ r2
  have b3 := fun o => (below_alloc1 w4 o).cell_ r3
  have b4 := fun o => (below_alloc1 w4 o).cell_ r4
  have b5 := fun o => (below_alloc1 w4 o).cell_ r5
  cases hki : rangeIs lo hi with
  | false =>
    have HG := model_scan_bad b lo hi w5 hki
    unfold ansV at HG
    have HG := Lib.hid HG
    have HA := Lib.hid (show an = An.no 1 by rw [HAN.out, if_neg (by simp [hki])])
    clear hki HAN
    go_wp2_with fail
    rw [HW5.out]
    refine HG.out.mono ?_
    rintro e w6 ⟨rfl, hb6⟩
    clear cc ff r0 r1 r2 r3 r4 r5 b0 b1 b2 b3 b4 b5 HG
    have HX6 := Lib.hid ((hb6.block _ hxl).trans HX5.out)
    have HB6 := Lib.hid (HB5.out.trans (hb6.mono HB5.out.size))
    have HM6 := Lib.hid (HM5.out.below hb6)
    have cc := Lib.cell_of_heap HX6.out
    have ff := Lib.frozen_of_heap HX6.out
    clear hb6
    go_wp2
    generalize hW : World.setCell _ _ _ = W
    have HXf : ∃ cs, W.heap[w.heap.size + 1]? = some (.cells cs 35 (0, 0)) ∧ cs = #[.int .i64 1, .bool false, .string ⟨#[]⟩, .slice none 0 0, .int .i64 0, .int .i64 0, .int .i64 0, .int .i64 0, .int .i64 0, .int .i64 0, .int .i64 0, .int .i64 0, .int .i64 0] := by
      refine ⟨_, ?_, rfl⟩
      rw [← hW]
      simp only [heap_setCell_map, HX6.out, Option.map_some, objSet]
      simp
    have HOf : Off (fun k => k = w.heap.size + 1) w6 W := by
      rw [← hW]
      repeat with_reducible apply off_set_step
      with_reducible exact Off.refl _ _
    clear hW
    obtain ⟨cs, HXf, rfl⟩ := HXf
    have cc := Lib.cell_of_heap HXf
    rw [HA.out]
    refine bodyPost_ret ?_ rfl (doPost_mk (an := An.no 1) rfl (own_nil w6 _) HM6.out (.inl rfl) HX6.out (Off.of_below HB6.out) HOf (by omega))
    simp [results, Tryz.results10, go_sem, ansV, An.no, cc]
  | true =>
    have HG := model_scan_ok b g n rows lo hi w5 HM5.out hr hki
    have han := show an = ⟨0, false, ⟨#[]⟩, (lastRow rows).filter fun x => rangeHas lo hi x.k, 0, 0⟩ by rw [HAN.out, if_pos (by exact hki)]
    generalize (lastRow rows).filter (fun x => rangeHas lo hi x.k) = ys at *
    unfold ansV at HG
    have HG := Lib.hid HG
    have HA := Lib.hid han
    clear hki HAN han
    go_wp2_with fail
    rw [HW5.out]
    refine HG.out.mono ?_
    rintro e w6 ⟨⟨A6, c6, rfl, ho6⟩, hb6⟩
    have HO6 := Lib.hid (own_mono ho6 HB5.out.size)
    clear cc ff r0 r1 r2 r3 r4 r5 b0 b1 b2 b3 b4 b5 HG ho6
    have HX6 := Lib.hid ((hb6.block _ hxl).trans HX5.out)
    have HB6 := Lib.hid (HB5.out.trans (hb6.mono HB5.out.size))
    have HM6 := Lib.hid (HM5.out.below hb6)
    have cc := Lib.cell_of_heap HX6.out
    have ff := Lib.frozen_of_heap HX6.out
    clear hb6
    go_wp2
    generalize hW : World.setCell _ _ _ = W
    have HXf : ∃ cs, W.heap[w.heap.size + 1]? = some (.cells cs 35 (0, 0)) ∧ cs = #[.int .i64 0, .bool false, .string ⟨#[]⟩, .slice A6 ys.length c6, .int .i64 0, .int .i64 0, .int .i64 0, .int .i64 0, .int .i64 0, .int .i64 0, .int .i64 0, .int .i64 0, .int .i64 0] := by
      refine ⟨_, ?_, rfl⟩
      rw [← hW]
      simp only [heap_setCell_map, HX6.out, Option.map_some, objSet]
      simp
    have HOf : Off (fun k => k = w.heap.size + 1) w6 W := by
      rw [← hW]
      repeat with_reducible apply off_set_step
      with_reducible exact Off.refl _ _
    clear hW
    obtain ⟨cs, HXf, rfl⟩ := HXf
    have cc := Lib.cell_of_heap HXf
    rw [HA.out]
    refine bodyPost_ret ?_ rfl (doPost_mk (an := ⟨0, false, ⟨#[]⟩, ys, 0, 0⟩) rfl HO6.out HM6.out (.inl rfl) HX6.out (Off.of_below HB6.out) HOf (by omega))
    simp [results, Tryz.results10, go_sem, ansV, cc]

set_option maxHeartbeats 4000000 in
set_option maxRecDepth 100000 in
theorem model_Do_status (b g n : Nat) (rows : List (List It)) (o : Od) (w : World) (h : ModAt w b g n rows) (hn : o.n < 18446744073709551616) (hok : odIs o = true) (hk : o.kind = 8) :
    Calls Tryz.prog 10 #[.pointer (some ⟨b, 0, none⟩), o.agg] w (DoPost w b g n (⟨0, false, ⟨#[]⟩, [], (lastRow rows).length, wt (lastRow rows)⟩, rows)) := by
  obtain ⟨kind, k, v, on, lo, hi⟩ := o
  change kind = 8 at hk; subst hk; change odIs ⟨8, k, v, on, lo, hi⟩ = true at hok; change on < _ at hn
  obtain ⟨w2, hw2⟩ : ∃ w2, (w.alloc (.cells #[.int .i64 8, .string k, .string v, .int .u64 on, .string lo, .string hi] 39)).alloc (.cells zAns 35) = w2 := ⟨_, rfl⟩
  have hB2 : Below w.heap.size w w2 := by rw [← hw2]; exact (below_alloc_1 w _).alloc (by simp) _
  have hX2 : w2.heap[w.heap.size + 1]? = some (.cells zAns 35 (0, 0)) := by
    rw [← hw2]
    have := heap_alloc_new (w.alloc (.cells #[.int .i64 8, .string k, .string v, .int .u64 on, .string lo, .string hi] 39)) (.cells zAns 35)
    simpa using this
  have hxl := (Array.getElem?_eq_some_iff.1 hX2).1
  have hR2 : w2.heap[w.heap.size]? = some (.cells #[.int .i64 8, .string k, .string v, .int .u64 on, .string lo, .string hi] 39 (0, 0)) := by
    rw [← hw2, heap_alloc_old _ _ (by simp)]
    exact heap_alloc_new w _
  have hrl := (Array.getElem?_eq_some_iff.1 hR2).1
  have HIs := fun W => order_Is ⟨8, k, v, on, lo, hi⟩ W
  rw [hok] at HIs
  unfold Od.agg at *
  unfold zAns at *
  have HIs := Lib.hid HIs
  have HW := Lib.hid hw2
  have HB2 := Lib.hid hB2
  have HX2 := Lib.hid hX2
  have HR2 := Lib.hid hR2
  have HM2 := Lib.hid (h.below hB2)
  have c := Lib.cell_of_heap hR2
  have r0 : w2.cell? ⟨w.heap.size, 0, none⟩ = some (.int .i64 8) := by rw [c]; rfl
  have r1 : w2.cell? ⟨w.heap.size, 1, none⟩ = some (.string k) := by rw [c]; rfl
  have r2 : w2.cell? ⟨w.heap.size, 2, none⟩ = some (.string v) := by rw [c]; rfl
  have r3 : w2.cell? ⟨w.heap.size, 3, none⟩ = some (.int .u64 on) := by rw [c]; rfl
  have r4 : w2.cell? ⟨w.heap.size, 4, none⟩ = some (.string lo) := by rw [c]; rfl
  have r5 : w2.cell? ⟨w.heap.size, 5, none⟩ = some (.string hi) := by rw [c]; rfl
  clear hw2 hB2 hX2 hR2 c
  go_enter Tryz.func10, Tryz.ntmps10
  go_wp2_with (first | (rw [HW.out]) | fail)
  refine (HIs.out _).mono ?_
  rintro e w3 ⟨rfl, hb3⟩
  have HX3 := Lib.hid ((hb3.block _ hxl).trans HX2.out)
  have HR3 := Lib.hid ((hb3.block _ hrl).trans HR2.out)
  have HB3 := Lib.hid (HB2.out.trans (hb3.mono HB2.out.size))
  have HM3 := Lib.hid (HM2.out.below hb3)
  clear hb3 r0 r1 r2 r3 r4 r5 HIs HX2 HR2 HB2 HM2 hxl hrl HW
  have cc := Lib.cell_of_heap HX3.out
  have ff := Lib.frozen_of_heap HX3.out
  have c := Lib.cell_of_heap HR3.out
  have r0 : w3.cell? ⟨w.heap.size, 0, none⟩ = some (.int .i64 8) := by rw [c]; rfl
  have r1 : w3.cell? ⟨w.heap.size, 1, none⟩ = some (.string k) := by rw [c]; rfl
  have r2 : w3.cell? ⟨w.heap.size, 2, none⟩ = some (.string v) := by rw [c]; rfl
  have r3 : w3.cell? ⟨w.heap.size, 3, none⟩ = some (.int .u64 on) := by rw [c]; rfl
  have r4 : w3.cell? ⟨w.heap.size, 4, none⟩ = some (.string lo) := by rw [c]; rfl
  have r5 : w3.cell? ⟨w.heap.size, 5, none⟩ = some (.string hi) := by rw [c]; rfl
  clear c
  have hmo : msgOf ⟨8, k, v, on, lo, hi⟩ = (⟨0, ⟨#[]⟩, ⟨#[]⟩⟩, false) := rfl
  have HMs := fun W => model_message ⟨8, k, v, on, lo, hi⟩ W hn
  rw [hmo] at HMs
  clear hmo
  unfold Od.agg Ms.agg at HMs
  have HMs := Lib.hid HMs
  have hxl := (Array.getElem?_eq_some_iff.1 HX3.out).1
  have hrl := (Array.getElem?_eq_some_iff.1 HR3.out).1
  go_wp2_with fail
  refine (HMs.out _).mono ?_
  rintro e w4 ⟨rfl, hb4⟩
  have HX4 := Lib.hid ((hb4.block _ hxl).trans HX3.out)
  have HR4 := Lib.hid ((hb4.block _ hrl).trans HR3.out)
  obtain ⟨w5, hw5⟩ : ∃ w5, w4.alloc (.cells #[.int .i64 0, .string ⟨#[]⟩, .string ⟨#[]⟩] 88) = w5 := ⟨_, rfl⟩
  have hb5 : Below w3.heap.size w3 w5 := by rw [← hw5]; exact hb4.alloc hb4.size _
  have HX5 := Lib.hid ((hb5.block _ hxl).trans HX3.out)
  have HR5 := Lib.hid ((hb5.block _ hrl).trans HR3.out)
  have HB5 := Lib.hid (HB3.out.trans (hb5.mono HB3.out.size))
  have HM5 := Lib.hid (HM3.out.below hb5)
  have HW5 := Lib.hid hw5
  clear hb4 hb5 hw5 cc ff r0 r1 r2 r3 r4 r5 HMs HX3 HR3 HB3 HM3 hxl hrl
  have hxl := (Array.getElem?_eq_some_iff.1 HX5.out).1
  have hrl := (Array.getElem?_eq_some_iff.1 HR5.out).1
  have cc := Lib.cell_of_heap HX4.out
  have ff := Lib.frozen_of_heap HX4.out
  have c := Lib.cell_of_heap HR4.out
  have r0 : w4.cell? ⟨w.heap.size, 0, none⟩ = some (.int .i64 8) := by rw [c]; rfl
  have r1 : w4.cell? ⟨w.heap.size, 1, none⟩ = some (.string k) := by rw [c]; rfl
  have r2 : w4.cell? ⟨w.heap.size, 2, none⟩ = some (.string v) := by rw [c]; rfl
  have r3 : w4.cell? ⟨w.heap.size, 3, none⟩ = some (.int .u64 on) := by rw [c]; rfl
  have r4 : w4.cell? ⟨w.heap.size, 4, none⟩ = some (.string lo) := by rw [c]; rfl
  have r5 : w4.cell? ⟨w.heap.size, 5, none⟩ = some (.string hi) := by rw [c]; rfl
  clear c
  have b0 := fun o => (below_alloc1 w4 o).cell_ r0
  have b1 := fun o => (below_alloc1 w4 o).cell_ r1
  have b2 := fun o => (below_alloc1 w4 o).cell_ r2
  have b3 := fun o => (below_alloc1 w4 o).cell_ r3
  have b4 := fun o => (below_alloc1 w4 o).cell_ r4
  have b5 := fun o => (below_alloc1 w4 o).cell_ r5
  obtain ⟨lb, hL⟩ := HM5.out.last
  have HL := Lib.hid hL
  clear hL
  go_wp2_with fail
  rw [HW5.out]
  refine (model_now_at b g n lb rows w5 HL.out).mono ?_
  rintro e w6 ⟨rfl, hb6⟩
  clear cc ff r0 r1 r2 r3 r4 r5 b0 b1 b2 b3 b4 b5
  have HX6 := Lib.hid ((hb6.block _ hxl).trans HX5.out)
  have HB6 := Lib.hid (HB5.out.trans (hb6.mono HB5.out.size))
  have HM6 := Lib.hid (HM5.out.below hb6)
  have cc := Lib.cell_of_heap HX6.out
  have ff := Lib.frozen_of_heap HX6.out
  have HL6 := Lib.hid (HL.out.below hb6)
  clear hb6
  have HLe := Lib.hid (leaf_Len lb _ w6 HL6.out.leaf)
  go_wp2_with fail
  refine HLe.out.mono ?_
  rintro e w7 ⟨rfl, rfl⟩
  clear HLe
  go_wp2_with fail
  refine (model_now_at b g n lb rows w6 HL6.out).mono ?_
  rintro e w7 ⟨rfl, hb7⟩
  have HL7 := Lib.hid (HL6.out.below hb7)
  have HX7 := Lib.hid ((hb7.block _ (Array.getElem?_eq_some_iff.1 HX6.out).1).trans HX6.out)
  have HB7 := Lib.hid (HB6.out.trans (hb7.mono HB6.out.size))
  have HM7 := Lib.hid (HM6.out.below hb7)
  clear hb7 cc ff
  have HWt := Lib.hid (leaf_Weight lb _ w7 HL7.out.leaf)
  go_wp2_with fail
  refine HWt.out.mono ?_
  rintro e w8 ⟨rfl, rfl⟩
  clear HWt
  have cc := Lib.cell_of_heap HX7.out
  have ff := Lib.frozen_of_heap HX7.out
  go_wp2
  generalize (lastRow rows).length = m1 at *
  generalize wt (lastRow rows) = m2 at *
  generalize hW : World.setCell _ _ _ = W
  have HXf : ∃ cs, W.heap[w.heap.size + 1]? = some (.cells cs 35 (0, 0)) ∧ cs = #[.int .i64 0, .bool false, .string ⟨#[]⟩, .slice none 0 0, .int .i64 m1, .int .i64 m2, .int .i64 0, .int .i64 0, .int .i64 0, .int .i64 0, .int .i64 0, .int .i64 0, .int .i64 0] := by
    refine ⟨_, ?_, rfl⟩
    rw [← hW]
    simp only [heap_setCell_map, HX7.out, Option.map_some, objSet]
    simp
  have HOf : Off (fun k => k = w.heap.size + 1) w7 W := by
    rw [← hW]
    repeat with_reducible apply off_set_step
    with_reducible exact Off.refl _ _
  clear hW
  obtain ⟨cs, HXf, rfl⟩ := HXf
  have cc := Lib.cell_of_heap HXf
  refine bodyPost_ret ?_ rfl (doPost_mk (an := ⟨0, false, ⟨#[]⟩, [], m1, m2⟩) rfl (own_nil w7 _) HM7.out (.inl rfl) HX7.out (Off.of_below HB7.out) HOf (by omega))
  simp [results, Tryz.results10, go_sem, ansV, cc]

set_option maxHeartbeats 4000000 in
set_option maxRecDepth 100000 in
theorem model_Do_sync (b g n : Nat) (rows : List (List It)) (o : Od) (w : World) (h : ModAt w b g n rows) (hn : o.n < 18446744073709551616) (hok : odIs o = true) (hk : o.kind = 6 ∨ o.kind = 7) :
    Calls Tryz.prog 10 #[.pointer (some ⟨b, 0, none⟩), o.agg] w (DoPost w b g n (An.no 0, [lastRow rows])) := by
  rcases hk with hk | hk
  · obtain ⟨kind, k, v, on, lo, hi⟩ := o
    change kind = 6 at hk; subst hk; change odIs ⟨6, k, v, on, lo, hi⟩ = true at hok; change on < _ at hn
    obtain ⟨w2, hw2⟩ : ∃ w2, (w.alloc (.cells #[.int .i64 6, .string k, .string v, .int .u64 on, .string lo, .string hi] 39)).alloc (.cells zAns 35) = w2 := ⟨_, rfl⟩
    have hB2 : Below w.heap.size w w2 := by rw [← hw2]; exact (below_alloc_1 w _).alloc (by simp) _
    have hX2 : w2.heap[w.heap.size + 1]? = some (.cells zAns 35 (0, 0)) := by
      rw [← hw2]
      have := heap_alloc_new (w.alloc (.cells #[.int .i64 6, .string k, .string v, .int .u64 on, .string lo, .string hi] 39)) (.cells zAns 35)
      simpa using this
    have hxl := (Array.getElem?_eq_some_iff.1 hX2).1
    have hR2 : w2.heap[w.heap.size]? = some (.cells #[.int .i64 6, .string k, .string v, .int .u64 on, .string lo, .string hi] 39 (0, 0)) := by
      rw [← hw2, heap_alloc_old _ _ (by simp)]
      exact heap_alloc_new w _
    have hrl := (Array.getElem?_eq_some_iff.1 hR2).1
    have HIs := fun W => order_Is ⟨6, k, v, on, lo, hi⟩ W
    rw [hok] at HIs
    unfold Od.agg at *
    unfold zAns at *
    have HIs := Lib.hid HIs
    have HW := Lib.hid hw2
    have HB2 := Lib.hid hB2
    have HX2 := Lib.hid hX2
    have HR2 := Lib.hid hR2
    have HM2 := Lib.hid (h.below hB2)
    have c := Lib.cell_of_heap hR2
    have r0 : w2.cell? ⟨w.heap.size, 0, none⟩ = some (.int .i64 6) := by rw [c]; rfl
    have r1 : w2.cell? ⟨w.heap.size, 1, none⟩ = some (.string k) := by rw [c]; rfl
    have r2 : w2.cell? ⟨w.heap.size, 2, none⟩ = some (.string v) := by rw [c]; rfl
    have r3 : w2.cell? ⟨w.heap.size, 3, none⟩ = some (.int .u64 on) := by rw [c]; rfl
    have r4 : w2.cell? ⟨w.heap.size, 4, none⟩ = some (.string lo) := by rw [c]; rfl
    have r5 : w2.cell? ⟨w.heap.size, 5, none⟩ = some (.string hi) := by rw [c]; rfl
    clear hw2 hB2 hX2 hR2 c
    go_enter Tryz.func10, Tryz.ntmps10
    go_wp2_with (first | (rw [HW.out]) | fail)
    refine (HIs.out _).mono ?_
    rintro e w3 ⟨rfl, hb3⟩
    have HX3 := Lib.hid ((hb3.block _ hxl).trans HX2.out)
    have HR3 := Lib.hid ((hb3.block _ hrl).trans HR2.out)
    have HB3 := Lib.hid (HB2.out.trans (hb3.mono HB2.out.size))
    have HM3 := Lib.hid (HM2.out.below hb3)
    clear hb3 r0 r1 r2 r3 r4 r5 HIs HX2 HR2 HB2 HM2 hxl hrl HW
    have cc := Lib.cell_of_heap HX3.out
    have ff := Lib.frozen_of_heap HX3.out
    have c := Lib.cell_of_heap HR3.out
    have r0 : w3.cell? ⟨w.heap.size, 0, none⟩ = some (.int .i64 6) := by rw [c]; rfl
    have r1 : w3.cell? ⟨w.heap.size, 1, none⟩ = some (.string k) := by rw [c]; rfl
    have r2 : w3.cell? ⟨w.heap.size, 2, none⟩ = some (.string v) := by rw [c]; rfl
    have r3 : w3.cell? ⟨w.heap.size, 3, none⟩ = some (.int .u64 on) := by rw [c]; rfl
    have r4 : w3.cell? ⟨w.heap.size, 4, none⟩ = some (.string lo) := by rw [c]; rfl
    have r5 : w3.cell? ⟨w.heap.size, 5, none⟩ = some (.string hi) := by rw [c]; rfl
    clear c
    have hmo : msgOf ⟨6, k, v, on, lo, hi⟩ = (⟨0, ⟨#[]⟩, ⟨#[]⟩⟩, false) := rfl
    have HMs := fun W => model_message ⟨6, k, v, on, lo, hi⟩ W hn
    rw [hmo] at HMs
    clear hmo
    unfold Od.agg Ms.agg at HMs
    have HMs := Lib.hid HMs
    have hxl := (Array.getElem?_eq_some_iff.1 HX3.out).1
    have hrl := (Array.getElem?_eq_some_iff.1 HR3.out).1
    go_wp2_with fail
    refine (HMs.out _).mono ?_
    rintro e w4 ⟨rfl, hb4⟩
    have HX4 := Lib.hid ((hb4.block _ hxl).trans HX3.out)
    have HR4 := Lib.hid ((hb4.block _ hrl).trans HR3.out)
    obtain ⟨w5, hw5⟩ : ∃ w5, w4.alloc (.cells #[.int .i64 0, .string ⟨#[]⟩, .string ⟨#[]⟩] 88) = w5 := ⟨_, rfl⟩
    have hb5 : Below w3.heap.size w3 w5 := by rw [← hw5]; exact hb4.alloc hb4.size _
    have HX5 := Lib.hid ((hb5.block _ hxl).trans HX3.out)
    have HR5 := Lib.hid ((hb5.block _ hrl).trans HR3.out)
    have HB5 := Lib.hid (HB3.out.trans (hb5.mono HB3.out.size))
    have HM5 := Lib.hid (HM3.out.below hb5)
    have HW5 := Lib.hid hw5
    clear hb4 hb5 hw5 cc ff r0 r1 r2 r3 r4 r5 HMs HX3 HR3 HB3 HM3 hxl hrl
    have hxl := (Array.getElem?_eq_some_iff.1 HX5.out).1
    have hrl := (Array.getElem?_eq_some_iff.1 HR5.out).1
    have cc := Lib.cell_of_heap HX4.out
    have ff := Lib.frozen_of_heap HX4.out
    have c := Lib.cell_of_heap HR4.out
    have r0 : w4.cell? ⟨w.heap.size, 0, none⟩ = some (.int .i64 6) := by rw [c]; rfl
    have r1 : w4.cell? ⟨w.heap.size, 1, none⟩ = some (.string k) := by rw [c]; rfl
    have r2 : w4.cell? ⟨w.heap.size, 2, none⟩ = some (.string v) := by rw [c]; rfl
    have r3 : w4.cell? ⟨w.heap.size, 3, none⟩ = some (.int .u64 on) := by rw [c]; rfl
    have r4 : w4.cell? ⟨w.heap.size, 4, none⟩ = some (.string lo) := by rw [c]; rfl
    have r5 : w4.cell? ⟨w.heap.size, 5, none⟩ = some (.string hi) := by rw [c]; rfl
    clear c
    have b0 := fun o => (below_alloc1 w4 o).cell_ r0
    have b1 := fun o => (below_alloc1 w4 o).cell_ r1
    have b2 := fun o => (below_alloc1 w4 o).cell_ r2
    have b3 := fun o => (below_alloc1 w4 o).cell_ r3
    have b4 := fun o => (below_alloc1 w4 o).cell_ r4
    have b5 := fun o => (below_alloc1 w4 o).cell_ r5
    go_wp2_with fail
    rw [HW5.out]
    refine (model_safe b g n rows w5 HM5.out).mono ?_
    rintro e w6 ⟨rfl, hM6, hO6⟩
    clear cc ff r0 r1 r2 r3 r4 r5 b0 b1 b2 b3 b4 b5
    have hX6 := (hO6.block _ (Array.getElem?_eq_some_iff.1 HX5.out).1 (HM5.out.ne_ans HX5.out)).trans HX5.out
    have HX6 := Lib.hid hX6
    have HM6 := Lib.hid hM6
    have HO6 := Lib.hid ((Off.of_below HB5.out).trans hO6 (fun _ _ e => e))
    have cc := Lib.cell_of_heap HX6.out
    have ff := Lib.frozen_of_heap HX6.out
    clear hM6 hO6 hX6
    go_wp2
    generalize hW : World.setCell _ _ _ = W
    have HXf : ∃ cs, W.heap[w.heap.size + 1]? = some (.cells cs 35 (0, 0)) ∧ cs = #[.int .i64 0, .bool false, .string ⟨#[]⟩, .slice none 0 0, .int .i64 0, .int .i64 0, .int .i64 0, .int .i64 0, .int .i64 0, .int .i64 0, .int .i64 0, .int .i64 0, .int .i64 0] := by
      refine ⟨_, ?_, rfl⟩
      rw [← hW]
      simp only [heap_setCell_map, HX6.out, Option.map_some, objSet]
      simp
    have HOf : Off (fun k => k = w.heap.size + 1) w6 W := by
      rw [← hW]
      repeat with_reducible apply off_set_step
      with_reducible exact Off.refl _ _
    clear hW
    obtain ⟨cs, HXf, rfl⟩ := HXf
    have cc := Lib.cell_of_heap HXf
    refine bodyPost_ret ?_ rfl (doPost_mk (an := An.no 0) rfl (own_nil w6 _) HM6.out (.inl rfl) HX6.out HO6.out HOf (by omega))
    simp [results, Tryz.results10, go_sem, ansV, An.no, cc]
  · obtain ⟨kind, k, v, on, lo, hi⟩ := o
    change kind = 7 at hk; subst hk; change odIs ⟨7, k, v, on, lo, hi⟩ = true at hok; change on < _ at hn
    obtain ⟨w2, hw2⟩ : ∃ w2, (w.alloc (.cells #[.int .i64 7, .string k, .string v, .int .u64 on, .string lo, .string hi] 39)).alloc (.cells zAns 35) = w2 := ⟨_, rfl⟩
    have hB2 : Below w.heap.size w w2 := by rw [← hw2]; exact (below_alloc_1 w _).alloc (by simp) _
    have hX2 : w2.heap[w.heap.size + 1]? = some (.cells zAns 35 (0, 0)) := by
      rw [← hw2]
      have := heap_alloc_new (w.alloc (.cells #[.int .i64 7, .string k, .string v, .int .u64 on, .string lo, .string hi] 39)) (.cells zAns 35)
      simpa using this
    have hxl := (Array.getElem?_eq_some_iff.1 hX2).1
    have hR2 : w2.heap[w.heap.size]? = some (.cells #[.int .i64 7, .string k, .string v, .int .u64 on, .string lo, .string hi] 39 (0, 0)) := by
      rw [← hw2, heap_alloc_old _ _ (by simp)]
      exact heap_alloc_new w _
    have hrl := (Array.getElem?_eq_some_iff.1 hR2).1
    have HIs := fun W => order_Is ⟨7, k, v, on, lo, hi⟩ W
    rw [hok] at HIs
    unfold Od.agg at *
    unfold zAns at *
    have HIs := Lib.hid HIs
    have HW := Lib.hid hw2
    have HB2 := Lib.hid hB2
    have HX2 := Lib.hid hX2
    have HR2 := Lib.hid hR2
    have HM2 := Lib.hid (h.below hB2)
    have c := Lib.cell_of_heap hR2
    have r0 : w2.cell? ⟨w.heap.size, 0, none⟩ = some (.int .i64 7) := by rw [c]; rfl
    have r1 : w2.cell? ⟨w.heap.size, 1, none⟩ = some (.string k) := by rw [c]; rfl
    have r2 : w2.cell? ⟨w.heap.size, 2, none⟩ = some (.string v) := by rw [c]; rfl
    have r3 : w2.cell? ⟨w.heap.size, 3, none⟩ = some (.int .u64 on) := by rw [c]; rfl
    have r4 : w2.cell? ⟨w.heap.size, 4, none⟩ = some (.string lo) := by rw [c]; rfl
    have r5 : w2.cell? ⟨w.heap.size, 5, none⟩ = some (.string hi) := by rw [c]; rfl
    clear hw2 hB2 hX2 hR2 c
    go_enter Tryz.func10, Tryz.ntmps10
    go_wp2_with (first | (rw [HW.out]) | fail)
    refine (HIs.out _).mono ?_
    rintro e w3 ⟨rfl, hb3⟩
    have HX3 := Lib.hid ((hb3.block _ hxl).trans HX2.out)
    have HR3 := Lib.hid ((hb3.block _ hrl).trans HR2.out)
    have HB3 := Lib.hid (HB2.out.trans (hb3.mono HB2.out.size))
    have HM3 := Lib.hid (HM2.out.below hb3)
    clear hb3 r0 r1 r2 r3 r4 r5 HIs HX2 HR2 HB2 HM2 hxl hrl HW
    have cc := Lib.cell_of_heap HX3.out
    have ff := Lib.frozen_of_heap HX3.out
    have c := Lib.cell_of_heap HR3.out
    have r0 : w3.cell? ⟨w.heap.size, 0, none⟩ = some (.int .i64 7) := by rw [c]; rfl
    have r1 : w3.cell? ⟨w.heap.size, 1, none⟩ = some (.string k) := by rw [c]; rfl
    have r2 : w3.cell? ⟨w.heap.size, 2, none⟩ = some (.string v) := by rw [c]; rfl
    have r3 : w3.cell? ⟨w.heap.size, 3, none⟩ = some (.int .u64 on) := by rw [c]; rfl
    have r4 : w3.cell? ⟨w.heap.size, 4, none⟩ = some (.string lo) := by rw [c]; rfl
    have r5 : w3.cell? ⟨w.heap.size, 5, none⟩ = some (.string hi) := by rw [c]; rfl
    clear c
    have hmo : msgOf ⟨7, k, v, on, lo, hi⟩ = (⟨0, ⟨#[]⟩, ⟨#[]⟩⟩, false) := rfl
    have HMs := fun W => model_message ⟨7, k, v, on, lo, hi⟩ W hn
    rw [hmo] at HMs
    clear hmo
    unfold Od.agg Ms.agg at HMs
    have HMs := Lib.hid HMs
    have hxl := (Array.getElem?_eq_some_iff.1 HX3.out).1
    have hrl := (Array.getElem?_eq_some_iff.1 HR3.out).1
    go_wp2_with fail
    refine (HMs.out _).mono ?_
    rintro e w4 ⟨rfl, hb4⟩
    have HX4 := Lib.hid ((hb4.block _ hxl).trans HX3.out)
    have HR4 := Lib.hid ((hb4.block _ hrl).trans HR3.out)
    obtain ⟨w5, hw5⟩ : ∃ w5, w4.alloc (.cells #[.int .i64 0, .string ⟨#[]⟩, .string ⟨#[]⟩] 88) = w5 := ⟨_, rfl⟩
    have hb5 : Below w3.heap.size w3 w5 := by rw [← hw5]; exact hb4.alloc hb4.size _
    have HX5 := Lib.hid ((hb5.block _ hxl).trans HX3.out)
    have HR5 := Lib.hid ((hb5.block _ hrl).trans HR3.out)
    have HB5 := Lib.hid (HB3.out.trans (hb5.mono HB3.out.size))
    have HM5 := Lib.hid (HM3.out.below hb5)
    have HW5 := Lib.hid hw5
    clear hb4 hb5 hw5 cc ff r0 r1 r2 r3 r4 r5 HMs HX3 HR3 HB3 HM3 hxl hrl
    have hxl := (Array.getElem?_eq_some_iff.1 HX5.out).1
    have hrl := (Array.getElem?_eq_some_iff.1 HR5.out).1
    have cc := Lib.cell_of_heap HX4.out
    have ff := Lib.frozen_of_heap HX4.out
    have c := Lib.cell_of_heap HR4.out
    have r0 : w4.cell? ⟨w.heap.size, 0, none⟩ = some (.int .i64 7) := by rw [c]; rfl
    have r1 : w4.cell? ⟨w.heap.size, 1, none⟩ = some (.string k) := by rw [c]; rfl
    have r2 : w4.cell? ⟨w.heap.size, 2, none⟩ = some (.string v) := by rw [c]; rfl
    have r3 : w4.cell? ⟨w.heap.size, 3, none⟩ = some (.int .u64 on) := by rw [c]; rfl
    have r4 : w4.cell? ⟨w.heap.size, 4, none⟩ = some (.string lo) := by rw [c]; rfl
    have r5 : w4.cell? ⟨w.heap.size, 5, none⟩ = some (.string hi) := by rw [c]; rfl
    clear c
    have b0 := fun o => (below_alloc1 w4 o).cell_ r0
    have b1 := fun o => (below_alloc1 w4 o).cell_ r1
    have b2 := fun o => (below_alloc1 w4 o).cell_ r2
    have b3 := fun o => (below_alloc1 w4 o).cell_ r3
    have b4 := fun o => (below_alloc1 w4 o).cell_ r4
    have b5 := fun o => (below_alloc1 w4 o).cell_ r5
    go_wp2_with fail
    rw [HW5.out]
    refine (model_safe b g n rows w5 HM5.out).mono ?_
    rintro e w6 ⟨rfl, hM6, hO6⟩
    clear cc ff r0 r1 r2 r3 r4 r5 b0 b1 b2 b3 b4 b5
    have hX6 := (hO6.block _ (Array.getElem?_eq_some_iff.1 HX5.out).1 (HM5.out.ne_ans HX5.out)).trans HX5.out
    have HX6 := Lib.hid hX6
    have HM6 := Lib.hid hM6
    have HO6 := Lib.hid ((Off.of_below HB5.out).trans hO6 (fun _ _ e => e))
    have cc := Lib.cell_of_heap HX6.out
    have ff := Lib.frozen_of_heap HX6.out
    clear hM6 hO6 hX6
    go_wp2
    generalize hW : World.setCell _ _ _ = W
    have HXf : ∃ cs, W.heap[w.heap.size + 1]? = some (.cells cs 35 (0, 0)) ∧ cs = #[.int .i64 0, .bool false, .string ⟨#[]⟩, .slice none 0 0, .int .i64 0, .int .i64 0, .int .i64 0, .int .i64 0, .int .i64 0, .int .i64 0, .int .i64 0, .int .i64 0, .int .i64 0] := by
      refine ⟨_, ?_, rfl⟩
      rw [← hW]
      simp only [heap_setCell_map, HX6.out, Option.map_some, objSet]
      simp
    have HOf : Off (fun k => k = w.heap.size + 1) w6 W := by
      rw [← hW]
      repeat with_reducible apply off_set_step
      with_reducible exact Off.refl _ _
    clear hW
    obtain ⟨cs, HXf, rfl⟩ := HXf
    have cc := Lib.cell_of_heap HXf
    refine bodyPost_ret ?_ rfl (doPost_mk (an := An.no 0) rfl (own_nil w6 _) HM6.out (.inl rfl) HX6.out HO6.out HOf (by omega))
    simp [results, Tryz.results10, go_sem, ansV, An.no, cc]

set_option maxHeartbeats 4000000 in
set_option maxRecDepth 100000 in
theorem model_Do_upd (b g n : Nat) (rows : List (List It)) (o : Od) (w : World) (h : ModAt w b g n rows) (hr : RowOk (lastRow rows)) (hrl : rows.length ≤ 1000) (hn : o.n < 18446744073709551616) (hok : odIs o = true) (hk : (msgOf o).2 = true) :
    Calls Tryz.prog 10 #[.pointer (some ⟨b, 0, none⟩), o.agg] w (DoPost w b g n (An.no (updErr n (lastRow rows) (msgOf o).1), updRows n rows (msgOf o).1)) := by
  obtain ⟨m, tt, hmo⟩ : ∃ m tt, msgOf o = (m, tt) := ⟨_, _, rfl⟩
  rw [hmo] at hk ⊢
  change tt = true at hk
  subst hk
  change Calls _ _ _ _ (DoPost w b g n (An.no (updErr n (lastRow rows) m), updRows n rows m))
  obtain ⟨ue, hue⟩ : ∃ ue, ue = updErr n (lastRow rows) m := ⟨_, rfl⟩
  obtain ⟨ur, hur⟩ : ∃ ur, ur = updRows n rows m := ⟨_, rfl⟩
  have HU := fun W hW => model_update b g n rows m W hW hr hrl
  rw [← hue, ← hur] at HU ⊢
  have HU := Lib.hid HU
  obtain ⟨mk, mm, mv⟩ := m
  clear hue hur
  obtain ⟨kind, k, v, on, lo, hi⟩ := o
  skip
  obtain ⟨w2, hw2⟩ : ∃ w2, (w.alloc (.cells #[.int .i64 kind, .string k, .string v, .int .u64 on, .string lo, .string hi] 39)).alloc (.cells zAns 35) = w2 := ⟨_, rfl⟩
  have hB2 : Below w.heap.size w w2 := by rw [← hw2]; exact (below_alloc_1 w _).alloc (by simp) _
  have hX2 : w2.heap[w.heap.size + 1]? = some (.cells zAns 35 (0, 0)) := by
    rw [← hw2]
    have := heap_alloc_new (w.alloc (.cells #[.int .i64 kind, .string k, .string v, .int .u64 on, .string lo, .string hi] 39)) (.cells zAns 35)
    simpa using this
  have hxl := (Array.getElem?_eq_some_iff.1 hX2).1
  have hR2 : w2.heap[w.heap.size]? = some (.cells #[.int .i64 kind, .string k, .string v, .int .u64 on, .string lo, .string hi] 39 (0, 0)) := by
    rw [← hw2, heap_alloc_old _ _ (by simp)]
    exact heap_alloc_new w _
  have hrl := (Array.getElem?_eq_some_iff.1 hR2).1
  have HIs := fun W => order_Is ⟨kind, k, v, on, lo, hi⟩ W
  rw [hok] at HIs
  unfold Od.agg at *
  unfold zAns at *
  have HIs := Lib.hid HIs
  have HW := Lib.hid hw2
  have HB2 := Lib.hid hB2
  have HX2 := Lib.hid hX2
  have HR2 := Lib.hid hR2
  have HM2 := Lib.hid (h.below hB2)
  have c := Lib.cell_of_heap hR2
  have r0 : w2.cell? ⟨w.heap.size, 0, none⟩ = some (.int .i64 kind) := by rw [c]; rfl
  have r1 : w2.cell? ⟨w.heap.size, 1, none⟩ = some (.string k) := by rw [c]; rfl
  have r2 : w2.cell? ⟨w.heap.size, 2, none⟩ = some (.string v) := by rw [c]; rfl
  have r3 : w2.cell? ⟨w.heap.size, 3, none⟩ = some (.int .u64 on) := by rw [c]; rfl
  have r4 : w2.cell? ⟨w.heap.size, 4, none⟩ = some (.string lo) := by rw [c]; rfl
  have r5 : w2.cell? ⟨w.heap.size, 5, none⟩ = some (.string hi) := by rw [c]; rfl
  clear hw2 hB2 hX2 hR2 c
  go_enter Tryz.func10, Tryz.ntmps10
  go_wp2_with (first | (rw [HW.out]) | fail)
  refine (HIs.out _).mono ?_
  rintro e w3 ⟨rfl, hb3⟩
  have HX3 := Lib.hid ((hb3.block _ hxl).trans HX2.out)
  have HR3 := Lib.hid ((hb3.block _ hrl).trans HR2.out)
  have HB3 := Lib.hid (HB2.out.trans (hb3.mono HB2.out.size))
  have HM3 := Lib.hid (HM2.out.below hb3)
  clear hb3 r0 r1 r2 r3 r4 r5 HIs HX2 HR2 HB2 HM2 hxl hrl HW
  have cc := Lib.cell_of_heap HX3.out
  have ff := Lib.frozen_of_heap HX3.out
  have c := Lib.cell_of_heap HR3.out
  have r0 : w3.cell? ⟨w.heap.size, 0, none⟩ = some (.int .i64 kind) := by rw [c]; rfl
  have r1 : w3.cell? ⟨w.heap.size, 1, none⟩ = some (.string k) := by rw [c]; rfl
  have r2 : w3.cell? ⟨w.heap.size, 2, none⟩ = some (.string v) := by rw [c]; rfl
  have r3 : w3.cell? ⟨w.heap.size, 3, none⟩ = some (.int .u64 on) := by rw [c]; rfl
  have r4 : w3.cell? ⟨w.heap.size, 4, none⟩ = some (.string lo) := by rw [c]; rfl
  have r5 : w3.cell? ⟨w.heap.size, 5, none⟩ = some (.string hi) := by rw [c]; rfl
  clear c
  have HMs := fun W => model_message ⟨kind, k, v, on, lo, hi⟩ W hn
  rw [hmo] at HMs
  clear hmo
  unfold Od.agg Ms.agg at HMs
  have HMs := Lib.hid HMs
  have hxl := (Array.getElem?_eq_some_iff.1 HX3.out).1
  go_wp2_with fail
  refine (HMs.out _).mono ?_
  rintro e w4 ⟨rfl, hb4⟩
  have hX4 := (hb4.block _ hxl).trans HX3.out
  obtain ⟨w5, hw5⟩ : ∃ w5, w4.alloc (.cells #[.int .i64 mk, .string mm, .string mv] 88) = w5 := ⟨_, rfl⟩
  have hb5 : Below w3.heap.size w3 w5 := by rw [← hw5]; exact hb4.alloc hb4.size _
  have HX5 := Lib.hid ((hb5.block _ hxl).trans HX3.out)
  have HB5 := Lib.hid (HB3.out.trans (hb5.mono HB3.out.size))
  have HM5 := Lib.hid (HM3.out.below hb5)
  have HW5 := Lib.hid hw5
  clear hb4 hb5 hw5 cc ff r0 r1 r2 r3 r4 r5 HMs HX3 HR3 HB3 HM3 hxl hX4
  have HUn := HU.out w5 HM5.out
  unfold Ms.agg at HUn
  have HUn := Lib.hid HUn
  clear HU
  go_wp2_with fail
  rw [HW5.out]
  refine HUn.out.mono ?_
  rintro e w6 ⟨rfl, ⟨g', hM6, hg'⟩, hO6⟩
  have hX6 := (hO6.block _ (Array.getElem?_eq_some_iff.1 HX5.out).1 (HM5.out.ne_ans HX5.out)).trans HX5.out
  have HX6 := Lib.hid hX6
  have HM6 := Lib.hid hM6
  have HO6 := Lib.hid ((Off.of_below HB5.out).trans hO6 (fun _ _ e => e))
  have HG6 : Hid (g' = g ∨ w.heap.size ≤ g') := hg'.imp id (fun h => Nat.le_trans HB5.out.size h)
  have cc := Lib.cell_of_heap HX6.out
  have ff := Lib.frozen_of_heap HX6.out
  clear hM6 hg' hO6 hX6 HUn
  go_wp2
  generalize hW : World.setCell _ _ _ = W
  have HXf : ∃ cs, W.heap[w.heap.size + 1]? = some (.cells cs 35 (0, 0)) ∧ cs = #[.int .i64 ue, .bool false, .string ⟨#[]⟩, .slice none 0 0, .int .i64 0, .int .i64 0, .int .i64 0, .int .i64 0, .int .i64 0, .int .i64 0, .int .i64 0, .int .i64 0, .int .i64 0] := by
    refine ⟨_, ?_, rfl⟩
    rw [← hW]
    simp only [heap_setCell_map, HX6.out, Option.map_some, objSet]
    simp
  have HOf : Off (fun k => k = w.heap.size + 1) w6 W := by
    rw [← hW]
    repeat with_reducible apply off_set_step
    with_reducible exact Off.refl _ _
  clear hW
  obtain ⟨cs, HXf, rfl⟩ := HXf
  have cc := Lib.cell_of_heap HXf
  refine bodyPost_ret ?_ rfl (doPost_mk (an := An.no ue) rfl (own_nil w6 _) HM6.out HG6.out HX6.out HO6.out HOf (by omega))
  simp [results, Tryz.results10, go_sem, ansV, An.no, cc]

end Go.Proofs.YtjpakldnejpleaaGreat
