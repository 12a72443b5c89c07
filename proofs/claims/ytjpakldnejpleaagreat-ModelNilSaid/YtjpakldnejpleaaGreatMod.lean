/- model: how a Model lies in memory; now, message, Late, Items, Weight. -/
import Derived.Test.YtjpakldnejpleaaGreatOrd
namespace Go.Proofs.YtjpakldnejpleaaGreat
open Go.RowKit

/-- Nothing that was there has turned, but for the blocks in S. -/
structure Off (S : Nat → Prop) (w w' : World) : Prop where
  os : w'.os = w.os
  tape : w'.tape = w.tape
  output : w'.output = w.output
  size : w.heap.size ≤ w'.heap.size
  block : ∀ k, k < w.heap.size → ¬ S k → w'.heap[k]? = w.heap[k]?

theorem Off.refl (S : Nat → Prop) (w : World) : Off S w w := ⟨rfl, rfl, rfl, Nat.le_refl _, fun _ _ _ => rfl⟩
theorem Off.of_below {S : Nat → Prop} {w w' : World} (h : Below w.heap.size w w') : Off S w w' := ⟨h.os, h.tape, h.output, h.size, fun k hk _ => h.block k hk⟩
theorem Off.trans {S T : Nat → Prop} {w w1 w2 : World} (h : Off S w w1) (h2 : Off T w1 w2) (hT : ∀ k, k < w.heap.size → T k → S k) : Off S w w2 :=
  ⟨h2.os.trans h.os, h2.tape.trans h.tape, h2.output.trans h.output, Nat.le_trans h.size h2.size, fun k hk hs => (h2.block k (Nat.lt_of_lt_of_le hk h.size) (fun ht => hs (hT k hk ht))).trans (h.block k hk hs)⟩
theorem Off.below {S : Nat → Prop} {B : Nat} {w0 w w' : World} (hb : Below B w0 w) (h : Off S w w') (hB : B ≤ w.heap.size) (hS : ∀ k, S k → B ≤ k) : Below B w0 w' :=
  hb.trans ⟨h.os, h.tape, h.output, h.size, fun k hk => h.block k (Nat.lt_of_lt_of_le hk hB) (fun hs => by have := hS k hs; omega)⟩

def modCells (n : Nat) (s : Value) : Array Value := #[.int .i64 n, .int .i64 ((n / 8 : Nat) : Int), .int .i64 ((2 + n / 8 : Nat) : Int), .int .i64 ((n - (2 + n / 8) : Nat) : Int), .int .i64 (((n - (2 + n / 8) - 2) / 2 : Nat) : Int), .int .i64 ((5 * ((n - (2 + n / 8) - 2) / 2 - 3) / 6 : Nat) : Int), .int .i64 (planCap n : Int), s]

/-- A model in block b; its rows are a part of block g. -/
structure ModIn (w : World) (b g o c : Nat) (cur : Array Value) (bs : List Nat) (n : Nat) (rows : List (List It)) : Prop where
  box : w.heap[b]? = some (.cells (modCells n (.slice (some ⟨g, o, none⟩) rows.length c)) 100 (0, 0))
  row : w.heap[g]? = some (.cells cur 96 (0, 0))
  ptrs : ∀ u ∈ cur.toList, ∃ p, u = .pointer p
  fits : o + c ≤ cur.size
  len : rows.length ≤ c
  cap : c ≤ maxLen
  bsl : bs.length = rows.length
  at_ : ∀ (i lb : Nat), bs[i]? = some lb → cur[o + i]? = some (.pointer (some ⟨lb, 0, none⟩))
  leaf : ∀ (i lb : Nat) (xs : List It), bs[i]? = some lb → rows[i]? = some xs → LeafAt w lb xs
  ne : rows ≠ []

def ModAt (w : World) (b g n : Nat) (rows : List (List It)) : Prop := ∃ o c cur bs, ModIn w b g o c cur bs n rows

theorem ModIn.below {w w' : World} {b g o c : Nat} {cur : Array Value} {bs : List Nat} {n : Nat} {rows : List (List It)} (h : ModIn w b g o c cur bs n rows) (hb : Below w.heap.size w w') : ModIn w' b g o c cur bs n rows :=
  { h with
    box := (hb.block b (Array.getElem?_eq_some_iff.1 h.box).1).trans h.box
    row := (hb.block g (Array.getElem?_eq_some_iff.1 h.row).1).trans h.row
    leaf := fun i lb xs h1 h2 => (h.leaf i lb xs h1 h2).below hb }
theorem ModAt.below {w w' : World} {b g n : Nat} {rows : List (List It)} (h : ModAt w b g n rows) (hb : Below w.heap.size w w') : ModAt w' b g n rows := by
  obtain ⟨o, c, cur, bs, h⟩ := h
  exact ⟨o, c, cur, bs, h.below hb⟩

/-- The last of the rows. -/
def lastRow (rows : List (List It)) : List It := rows.getLastD []

theorem ModIn.last {w : World} {b g o c : Nat} {cur : Array Value} {bs : List Nat} {n : Nat} {rows : List (List It)} (h : ModIn w b g o c cur bs n rows) :
    ∃ lb, w.cell? ⟨g, o + (rows.length - 1), none⟩ = some (.pointer (some ⟨lb, 0, none⟩)) ∧ LeafAt w lb (lastRow rows) ∧ bs[rows.length - 1]? = some lb := by
  have hr : 0 < rows.length := List.length_pos_iff.2 h.ne
  have hl : rows.length - 1 < bs.length := by rw [h.bsl]; omega
  have h1 := List.getElem?_eq_getElem hl
  refine ⟨_, ?_, h.leaf _ _ _ h1 ?_, h1⟩
  · rw [Lib.cell_of_heap h.row]
    exact h.at_ _ _ h1
  · unfold lastRow
    rw [List.getLastD_eq_getLast?, List.getLast?_eq_getElem?, List.getElem?_eq_getElem (by omega)]
    rfl

set_option maxHeartbeats 2000000 in
theorem model_now (b g n : Nat) (rows : List (List It)) (w : World) (h : ModAt w b g n rows) :
    Calls Tryz.prog 44 #[.pointer (some ⟨b, 0, none⟩)] w fun e w' => (∃ lb, e = .returned (.pointer (some ⟨lb, 0, none⟩)) ∧ LeafAt w lb (lastRow rows)) ∧ Below w.heap.size w w' := by
  obtain ⟨o, c, cur, bs, h⟩ := h
  obtain ⟨lb, hlb, hL, _⟩ := h.last
  have hr : 0 < rows.length := List.length_pos_iff.2 h.ne
  have hlen := h.len
  have hcap := h.cap
  unfold maxLen at hcap
  have q1 := far_cell hlb
  have q2 := far_cell (show w.cell? ⟨b, 7, none⟩ = some (.slice (some ⟨g, o, none⟩) rows.length c) by rw [Lib.cell_of_heap h.box]; rfl)
  have HL := Lib.hid hL
  clear hL hlb
  obtain ⟨k, hk⟩ : ∃ k, k = rows.length - 1 := ⟨_, rfl⟩
  rw [← hk] at q1
  have hk1 : (rows.length : Int) - 1 = (k : Int) := by omega
  have hk2 : (k : Int) < (rows.length : Int) := by omega
  have hwr : IntKind.i64.wrap ((rows.length : Int) - 1) = (k : Int) := by rw [hk1]; exact IntWalk.i64_in _ (by omega)
  have HK := Lib.hid hk
  clear hk h hr
  go_enter Tryz.func44, Tryz.ntmps44
  go_wp2
  refine wp_region_quiet_far mixed_ (by kernel_rfl) ?_
  repeat (go_big_quiet_step ((fail)))
  refine wpQuiet_nil ?_
  intro _ hw'
  obtain ⟨⟨nq, osq⟩, hw''⟩ := hw'
  subst hw''
  go_wp2
  go_ret
  exact ⟨⟨lb, rfl, HL.out⟩, below_far w nq osq⟩

end Go.Proofs.YtjpakldnejpleaaGreat
