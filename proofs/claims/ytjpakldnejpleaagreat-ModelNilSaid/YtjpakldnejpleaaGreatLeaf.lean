/- Layer 9 (leaf), its beginning: made, Of. -/
import Derived.Test.YtjpakldnejpleaaGreatCpt
import Derived.Test.YtjpakldnejpleaaGreatTail
namespace Go.Proofs.YtjpakldnejpleaaGreat
open Go.RowKit

def keyIs (k : ByteArray) : Bool := decide (1 ≤ k.size) && decide (k.size ≤ 8)
def It.ok (x : It) : Bool := keyIs x.k && decide (x.v.size ≤ 16)
def It.w (x : It) : Nat := 2 + x.k.size + x.v.size
def wt (xs : List It) : Nat := (xs.map It.w).sum
theorem wt_append (xs ys : List It) : wt (xs ++ ys) = wt xs + wt ys := by simp [wt]
theorem It.w_le {x : It} (h : x.ok = true) : x.w ≤ 26 := by simp [It.ok, keyIs] at h; unfold It.w; omega
theorem wt_le {xs : List It} (h : ∀ x ∈ xs, x.ok = true) : wt xs ≤ 26 * xs.length := by
  induction xs with
  | nil => simp [wt]
  | cons x xs ih =>
    have h1 := It.w_le (h x (by simp))
    have h2 := ih (fun y hy => h y (by simp [hy]))
    simp only [wt, List.map_cons, List.sum_cons, List.length_cons] at *
    omega

set_option maxHeartbeats 400000 in
theorem key_Is (k : ByteArray) (w : World) :
    Calls Tryz.prog 76 #[.string k] w fun e w' => e = .returned (.bool (keyIs k)) ∧ w = w' := by
  go_enter Tryz.func76, Tryz.ntmps76
  go_wp2
  all_goals
    go_ret
    refine ⟨?_, rfl⟩
    simp [keyIs]
    have : (1 : Int) ≤ k.size ∨ (k.size : Int) < 1 := by omega
    try (have h1 : 1 ≤ k.size := by omega)
    try simp [h1]
    first | (rw [Bool.eq_iff_iff]; simp; omega) | omega

set_option maxHeartbeats 400000 in
theorem key_IsVal (k : ByteArray) (w : World) :
    Calls Tryz.prog 110 #[.string k] w fun e w' => e = .returned (.bool (decide (k.size ≤ 16))) ∧ w = w' := by
  go_enter Tryz.func110, Tryz.ntmps110
  go_wp2
  go_ret
  refine ⟨?_, rfl⟩
  have : decide ((k.size : Int) ≤ 16) = decide (k.size ≤ 16) := by rw [Bool.eq_iff_iff]; simp; omega
  rw [← this]; rfl

set_option maxHeartbeats 400000 in
theorem leaf_isBad (x : It) (w : World) :
    Calls Tryz.prog 80 #[x.agg] w fun e w' => e = .returned (.bool (!x.ok)) ∧ Below w.heap.size w w' := by
  unfold It.agg
  go_enter Tryz.func80, Tryz.ntmps80
  cases hk : keyIs x.k
  all_goals
    go_wp2_with (first | (go_at_call 76; refine (key_Is _ _).mono ?_; rintro e w' ⟨rfl, rfl⟩; rw [hk]) | (go_at_call 110; refine (key_IsVal _ _).mono ?_; rintro e w' ⟨rfl, rfl⟩))
    go_ret
    refine ⟨?_, (Below.refl _ _).alloc (Nat.le_refl _) _⟩
    simp [It.ok, hk]

theorem enters_of_isBad : ∀ args w, (callFunc 80 args).run Tryz.prog w = .ok (.enter 80 args) w :=
  enters_of Tryz.func80 (by kernel_rfl) rfl

set_option maxHeartbeats 400000 in
theorem key_Weight (x : It) (w : World) (h : x.k.size + x.v.size ≤ 9223372036854775000) :
    Calls Tryz.prog 52 #[x.agg] w fun e w' => e = .returned (.int .i64 x.w) ∧ Below w.heap.size w w' := by
  unfold It.agg
  go_enter Tryz.func52, Tryz.ntmps52
  go_wp2
  go_ret
  refine ⟨?_, (Below.refl _ _).alloc (Nat.le_refl _) _⟩
  have : (2 : Int) + x.k.size + x.v.size = (x.w : Int) := by unfold It.w; omega
  rw [← this]; rfl

/-- A leaf in block b: its items, and their weight. -/
def LeafAt (w : World) (b : Nat) (xs : List It) : Prop :=
  ∃ A c, w.heap[b]? = some (.cells #[.slice A xs.length c, .int .i64 (wt xs)] 138 (0, 0)) ∧ SlIt w A c xs

theorem LeafAt.lt {w : World} {b : Nat} {xs : List It} (h : LeafAt w b xs) : b < w.heap.size := by
  obtain ⟨A, c, h1, _⟩ := h
  exact (Array.getElem?_eq_some_iff.1 h1).1

theorem SlIt.of_below {w w' : World} {B : Nat} {A : Option Addr} {c : Nat} {xs : List It} (h : SlIt w A c xs) (hb : Below B w w') (hB : ∀ a, A = some a → xs ≠ [] → a.block < B) : SlIt w' A c xs :=
  ⟨h.len, h.cap, fun hn => by
    obtain ⟨b, o, rfl, hlt, hc⟩ := h.at_ hn
    have := hB _ rfl hn
    exact ⟨b, o, rfl, Nat.lt_of_lt_of_le hlt hb.size, fun i x hx => ⟨(hb.cell (p := ⟨b, o + i * 2, none⟩) this).trans (hc i x hx).1, (hb.cell (p := ⟨b, o + i * 2 + 1, none⟩) this).trans (hc i x hx).2⟩⟩⟩

theorem LeafAt.below {w w' : World} {b : Nat} {xs : List It} (h : LeafAt w b xs) (hb : Below w.heap.size w w') : LeafAt w' b xs := by
  have := h.lt
  obtain ⟨A, c, h1, h2⟩ := h
  exact ⟨A, c, (hb.block b this).trans h1, h2.below hb⟩

theorem wt_take_succ {xs : List It} {k : Nat} (h : k < xs.length) : wt (xs.take (k + 1)) = wt (xs.take k) + xs[k].w := by
  rw [List.take_succ_eq_append_getElem h, wt_append]; simp [wt]

set_option maxHeartbeats 2000000 in
theorem leaf_made (A : Option Addr) (c : Nat) (xs : List It) (w : World) (hs : SlIt w A c xs) (hok : ∀ x ∈ xs, x.ok = true) (hx : xs.length ≤ 4398046511104) :
    Calls Tryz.prog 86 #[.slice A xs.length c] w fun e w' => ∃ b, e = .returned (.pointer (some ⟨b, 0, none⟩)) ∧ w.heap.size ≤ b ∧ LeafAt w' b xs ∧ Below w.heap.size w w' := by
  have hlen := hs.len
  have hcap := hs.cap
  unfold maxLen at hcap
  go_enter Tryz.func86, Tryz.ntmps86
  go_wp2
  go_loopw [5, 11] (fun _ i wr => ∃ k : Nat, k ≤ xs.length ∧ i = .int .i64 k ∧ wr.heap[w.heap.size]? = some (.cells #[.slice A xs.length c, .int .i64 (wt (xs.take k))] 138 (0, 0)) ∧ Below w.heap.size w wr) (fun _ i _ => xs.length - (intOf i).toNat)
  case atStart => exact ⟨0, Nat.zero_le _, rfl, heap_alloc_new w _, (Below.refl _ _).alloc (Nat.le_refl _) _⟩
  case round =>
    obtain ⟨k, hk, rfl, hbk, hb⟩ := hrel
    have HK := Lib.hid hbk
    have HB := Lib.hid hb
    by_cases hlt : k < xs.length
    · have hne : xs ≠ [] := by intro h; simp [h] at hlt
      obtain ⟨b, o, rfl, hbl, hc⟩ := hs.at_ hne
      obtain ⟨h1, h2⟩ := hc k xs[k] (List.getElem?_eq_getElem hlt)
      replace h1 := (hb.cell (p := ⟨b, o + k * 2, none⟩) hbl).trans h1
      replace h2 := (hb.cell (p := ⟨b, o + k * 2 + 1, none⟩) hbl).trans h2
      have HS := Lib.hid (wt_take_succ hlt)
      have hw1 := wt_le (xs := xs.take k) (fun x hx => hok x (List.mem_of_mem_take hx))
      have hw2 := It.w_le (hok _ (List.getElem_mem hlt))
      rw [List.length_take, Nat.min_eq_left hk] at hw1
      have hw3 : xs[k].k.size + xs[k].v.size ≤ 9223372036854775000 := by unfold It.w at hw2; omega
      have hgl : w.heap.size < wr.heap.size := (Array.getElem?_eq_some_iff.1 hbk).1
      clear hbk hb hc
      generalize xs[k] = x at *
      go_wp2
      obtain ⟨W1, hW1⟩ : ∃ W, W = wr.alloc (.cells #[.string x.k, .string x.v] 41) := ⟨_, rfl⟩
      rw [← hW1]
      have hb1 : Below wr.heap.size wr W1 := by rw [hW1]; exact (Below.refl _ _).alloc (Nat.le_refl _) _
      have hbk1 : W1.heap[w.heap.size]? = _ := (hb1.block _ hgl).trans HK.out
      have hcw : W1.cell? ⟨w.heap.size, 1, none⟩ = some (.int .i64 (wt (xs.take k))) := by rw [Lib.cell_of_heap hbk1]; rfl
      have hn1 : W1.heap[wr.heap.size]? = some (.cells #[.string x.k, .string x.v] 41 (0, 0)) := by rw [hW1]; exact heap_alloc_new _ _
      have q1 := far_cell (show W1.cell? ⟨wr.heap.size, 0, none⟩ = some (.string x.k) by rw [Lib.cell_of_heap hn1]; rfl)
      have q2 := far_cell (show W1.cell? ⟨wr.heap.size, 1, none⟩ = some (.string x.v) by rw [Lib.cell_of_heap hn1]; rfl)
      have qw := far_cell hcw
      have HK1 := Lib.hid hbk1
      have HB1 := Lib.hid hb1
      clear hbk1 hn1 hW1 hb1 hcw
      have hsum : IntKind.i64.wrap ((wt (xs.take k) : Int) + x.w) = (wt (xs.take k) : Int) + x.w := IntWalk.i64_in _ (by omega)
      have hkw := fun W => key_Weight x W hw3
      unfold It.agg at hkw
      have HKW := Lib.hid hkw
      clear hkw
      refine wp_region_far_tail 7 mixed_ (by kernel_rfl) ?_
      simp only [List.take_succ_cons, List.take_zero, List.drop_succ_cons, List.drop_zero]
      repeat (go_big_quiet_step ((go_at_call 52; exact calls_far (HKW.out _))))
      refine wpQuiet_nil ?_
      intro _ hw'
      obtain ⟨⟨nq, osq⟩, hw''⟩ := hw'
      subst hw''
      have hb2 := below_far W1 nq osq
      have hlt1 : w.heap.size < W1.heap.size := Nat.lt_of_lt_of_le hgl HB1.out.size
      have HK2 := Lib.hid ((hb2.block _ hlt1).trans HK1.out)
      generalize far W1 nq osq = w2 at *
      have HB2 := Lib.hid hb2
      clear hb2 q1 q2 qw
      have hc2 : w2.cell? ⟨w.heap.size, 1, none⟩ = some (.int .i64 (wt (xs.take k))) := by rw [Lib.cell_of_heap HK2.out]; rfl
      have hf2 : w2.frozen? ⟨w.heap.size, 1, none⟩ = false := Lib.frozen_of_heap HK2.out 1
      go_wp2
      go_roundw
      case rel =>
        refine ⟨k + 1, by omega, by go_num, ?_, ?_⟩
        · rw [heap_setCell_same HK2.out, HS.out]
          simp
        · exact ((HB.out.trans (HB1.out.mono (by omega))).trans (HB2.out.mono (by omega))).setCell (p := ⟨w.heap.size, 1, none⟩) (Nat.le_refl _) _
      case measure => simp [intOf]; omega
    · obtain rfl : k = xs.length := by omega
      clear hbk hb
      go_wp2
      go_ret
      have h1 := HK.out
      rw [List.take_length] at h1
      exact ⟨w.heap.size, rfl, Nat.le_refl _, ⟨A, c, h1, hs.below HB.out⟩, HB.out⟩

end Go.Proofs.YtjpakldnejpleaaGreat
