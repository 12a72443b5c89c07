/- Layer 9 (leaf): Len, Weight, Items, place, Find. -/
import Derived.Test.YtjpakldnejpleaaGreatLeafOf
namespace Go.Proofs.YtjpakldnejpleaaGreat
open Go.RowKit

theorem below_alloc1 (w : World) (o : Obj) : Below w.heap.size w (w.alloc o) := (Below.refl _ w).alloc (Nat.le_refl _) o
theorem _root_.Go.RowKit.Below.cell_ {w w' : World} (h : Below w.heap.size w w') {a : Addr} {v : Value} (hc : w.cell? a = some v) : w'.cell? a = some v := (h.cell (World.block_lt_of_cell? w a hc)).trans hc

theorem It.cells_one (xs : List It) : ∀ u ∈ It.cells xs, u.oneCell' = true := by
  intro u hu
  simp only [It.cells, List.mem_flatMap] at hu
  obtain ⟨x, _, hx⟩ := hu
  simp at hx
  rcases hx with rfl | rfl <;> rfl

theorem cells_get_inv (xs : List It) (j : Nat) (u : Value) (h : (It.cells xs)[j]? = some u) : ∃ i x, xs[i]? = some x ∧ ((j = i * 2 ∧ u = .string x.k) ∨ (j = i * 2 + 1 ∧ u = .string x.v)) := by
  have hj : j < xs.length * 2 := by
    rcases Nat.lt_or_ge j (xs.length * 2) with h' | h'
    · exact h'
    · rw [List.getElem?_eq_none (by rw [It.cells_length]; exact h')] at h; cases h
  have hi : j / 2 < xs.length := by omega
  obtain ⟨h1, h2⟩ := cells_get xs (j / 2) xs[j / 2] (List.getElem?_eq_getElem hi)
  refine ⟨j / 2, xs[j / 2], List.getElem?_eq_getElem hi, ?_⟩
  rcases Nat.mod_two_eq_zero_or_one j with hm | hm
  · have e : j = j / 2 * 2 := by omega
    rw [← e, h] at h1
    exact .inl ⟨e, by injection h1⟩
  · have e : j = j / 2 * 2 + 1 := by omega
    rw [← e, h] at h2
    exact .inr ⟨e, by injection h2⟩

theorem SlIt.cells {w : World} {A : Option Addr} {c : Nat} {xs : List It} (h : SlIt w A c xs) {a : Addr} (ha : A = some a) : ∀ j u, (It.cells xs)[j]? = some u → w.cell? (a.add j) = some u := by
  intro j u hu
  obtain ⟨i, x, hx, hj⟩ := cells_get_inv xs j u hu
  have hne : xs ≠ [] := by intro e; simp [e] at hx
  obtain ⟨b, o, e, _, hc⟩ := h.at_ hne
  rw [ha] at e
  cases e
  rw [addr_add]
  rcases hj with ⟨rfl, rfl⟩ | ⟨rfl, rfl⟩
  · exact (hc i x hx).1
  · exact (hc i x hx).2

set_option maxHeartbeats 1000000 in
theorem sl_Clone_it (A : Option Addr) (c : Nat) (xs : List It) (w : World) (hs : SlIt w A c xs) (hx : xs.length ≤ 4398046511104) :
    Calls Tryz.prog 87 #[.slice A xs.length c] w fun e w' => (∃ v, e = .returned v ∧ w'.ownsRow w.heap.size 41 2 v xs.length (It.cells xs)) ∧ Below w.heap.size w w' := by
  obtain ⟨i0, hi, hz0, hz1, hz2⟩ := info_parts item_info
  cases A with
  | none =>
    have hn : xs = [] := by
      by_cases h : xs = []
      · exact h
      · obtain ⟨b, o, h1, _⟩ := hs.at_ h
        cases h1
    subst hn
    have heq_nil := fun w => Lib.run_eql_slice_nil (P := Tryz.prog) w 29 41 (none) (0) (c) 0 0 Tryz.underlying29
    try simp only [Option.isNone] at heq_nil
    go_enter Tryz.func87, Tryz.ntmps87
    go_wp2
    go_ret
    exact ⟨⟨_, rfl, World.ownsRow_nil _ _ _ _⟩, Below.refl _ _⟩
  | some a =>
    have heq_nil := fun w => Lib.run_eql_slice_nil (P := Tryz.prog) w 29 41 (some a) (xs.length) (c) 0 0 Tryz.underlying29
    try simp only [Option.isNone] at heq_nil
    have hnew : (w.alloc (.cells #[] 41)).ownsRow w.heap.size 41 2 (.slice (some ⟨w.heap.size, 0, none⟩) 0 0) 0 [] := World.ownsRow_made w #[] 0 (Nat.le_refl _) (by unfold maxLen; omega) rfl
    have hcells : ∀ j u, (It.cells xs)[j]? = some u → (w.alloc (.cells #[] 41)).cell? (a.add j) = some u := fun j u hu => (below_alloc1 w _).cell_ (hs.cells rfl j u hu)
    go_enter Tryz.func87, Tryz.ntmps87
    go_wp2_with (at_builtin; refine wpList_append_own _ rfl _ _ 29 rfl w.heap.size 41 i0 (.agg #[.string ⟨#[]⟩, .string ⟨#[]⟩]) 2 32 Tryz.underlying29 hi hz0 hz1 hz2 rfl (by decide) _ _ _ rfl hnew a xs.length c (It.cells xs) rfl (It.cells_length xs) hcells ?c2 ?c3 ?c4 ?c5 ?_)
    case c2 => exact It.cells_one xs
    case c3 => unfold maxLen; omega
    case c4 => omega
    case c5 => simp
    intro v' w1 hown hg _
    go_wp2
    go_ret
    refine ⟨⟨v', rfl, by simpa using hown⟩, ((Below.refl _ w).alloc (Nat.le_refl _) _).grown hg (by simp) ?_⟩
    intro k hk
    simp [Value.ownBlock] at hk
    omega

set_option maxHeartbeats 1000000 in
theorem leaf_Items (b : Nat) (xs : List It) (w : World) (h : LeafAt w b xs) (hx : xs.length ≤ 4398046511104) :
    Calls Tryz.prog 50 #[.pointer (some ⟨b, 0, none⟩)] w fun e w' => (∃ v, e = .returned v ∧ w'.ownsRow w.heap.size 41 2 v xs.length (It.cells xs)) ∧ Below w.heap.size w w' := by
  obtain ⟨A, c, hb, hs⟩ := h
  have H := Lib.hid (sl_Clone_it A c xs w hs hx)
  have c0 : w.cell? ⟨b, 0, none⟩ = some (.slice A xs.length c) := by rw [Lib.cell_of_heap hb]; rfl
  clear hb
  go_enter Tryz.func50, Tryz.ntmps50
  go_wp2_with fail
  refine H.out.mono ?_
  rintro e w1 ⟨⟨v, rfl, ho⟩, hb1⟩
  clear H
  go_wp2
  go_ret
  exact ⟨⟨v, rfl, ho⟩, hb1⟩

set_option maxHeartbeats 1000000 in
theorem leaf_Len (b : Nat) (xs : List It) (w : World) (h : LeafAt w b xs) :
    Calls Tryz.prog 45 #[.pointer (some ⟨b, 0, none⟩)] w fun e w' => e = .returned (.int .i64 xs.length) ∧ w = w' := by
  obtain ⟨A, c, hb, hs⟩ := h
  have c0 : w.cell? ⟨b, 0, none⟩ = some (.slice A xs.length c) := by rw [Lib.cell_of_heap hb]; rfl
  clear hb
  go_enter Tryz.func45, Tryz.ntmps45
  go_wp2
  go_ret
  exact ⟨rfl, rfl⟩

set_option maxHeartbeats 1000000 in
theorem leaf_Weight (b : Nat) (xs : List It) (w : World) (h : LeafAt w b xs) :
    Calls Tryz.prog 46 #[.pointer (some ⟨b, 0, none⟩)] w fun e w' => e = .returned (.int .i64 (wt xs)) ∧ w = w' := by
  obtain ⟨A, c, hb, hs⟩ := h
  have c0 : w.cell? ⟨b, 1, none⟩ = some (.int .i64 (wt xs)) := by rw [Lib.cell_of_heap hb]; rfl
  clear hb
  go_enter Tryz.func46, Tryz.ntmps46
  go_wp2
  go_ret
  exact ⟨rfl, rfl⟩

theorem kcmp_lt (a b : ByteArray) : kcmp a b < 0 ↔ blt a b = true := by
  unfold kcmp
  split
  · simp [*]
  · split <;> simp [*]
theorem kcmp_eq (a b : ByteArray) : kcmp a b = 0 ↔ a = b := by
  unfold kcmp
  split
  · next h =>
    constructor
    · intro h; cases h
    · rintro rfl; rw [blt_irrefl] at h; cases h
  · split
    · next h => simp [toList_inj.1 h]
    · next h => constructor
                · intro h; cases h
                · rintro rfl; exact absurd rfl h

theorem kcmp_far (x : It) (k v : ByteArray) (w : World) : Calls Tryz.prog 83 #[.agg #[.string x.k, .string x.v], .agg #[.string k, .string v]] w fun e w' => e = .returned (.int .i64 (kcmp x.k k)) ∧ Below w.heap.size w w' :=
  (key_Compare x.k x.v k v w).mono fun _ _ ⟨he, hw⟩ => ⟨he, by rw [hw]; exact ((Below.refl _ _).alloc (Nat.le_refl _) _).alloc (by simp) _⟩

/-- Where a key's item is, or would be. -/
def It.pos (xs : List It) (k : ByteArray) : Nat := (xs.takeWhile fun x => blt x.k k).length
def It.has (xs : List It) (k : ByteArray) : Bool := xs.any fun x => decide (x.k = k)

theorem pos_le (xs : List It) (k : ByteArray) : It.pos xs k ≤ xs.length := (List.takeWhile_prefix _).length_le

theorem pos_lt (xs : List It) (k : ByteArray) : ∀ (i : Nat) (h : i < It.pos xs k), blt (xs[i]'(Nat.lt_of_lt_of_le h (pos_le _ _))).k k = true := by
  induction xs with
  | nil => intro i h; simp [It.pos] at h
  | cons x xs ih =>
    intro i h
    cases hb : blt x.k k with
    | false => simp [It.pos, hb] at h
    | true =>
      cases i with
      | zero => simpa using hb
      | succ i => exact ih i (by simp [It.pos, hb] at h ⊢; exact h)

theorem pos_at {xs : List It} {k : ByteArray} (h : It.pos xs k < xs.length) : blt (xs[It.pos xs k]'h).k k = false := by
  induction xs with
  | nil => simp at h
  | cons x xs ih =>
    unfold It.pos at *
    cases hb : blt x.k k with
    | true => simp [hb] at h ⊢; exact ih h
    | false => simp [hb]

theorem pos_unique {xs : List It} {k : ByteArray} {n : Nat} (hn : n ≤ xs.length) (h1 : ∀ i (h : i < n), blt (xs[i]'(by omega)).k k = true) (h2 : ∀ (h : n < xs.length), blt (xs[n]'h).k k = false) : n = It.pos xs k := by
  rcases Nat.lt_trichotomy n (It.pos xs k) with h | h | h
  · have := pos_lt xs k n h
    rw [h2 (Nat.lt_of_lt_of_le h (pos_le _ _))] at this
    cases this
  · exact h
  · have := pos_at (k := k) (xs := xs) (by omega)
    rw [h1 _ h] at this
    cases this

theorem has_none {xs : List It} {k : ByteArray} (_hu : It.up xs) (hp : ¬ It.pos xs k < xs.length) : It.has xs k = false := by
  unfold It.has
  rw [List.any_eq_false]
  intro x hx
  obtain ⟨i, hi, rfl⟩ := List.mem_iff_getElem.1 hx
  have := pos_lt xs k i (by omega)
  simp
  intro e
  rw [e, blt_irrefl] at this
  cases this

theorem has_at {xs : List It} {k : ByteArray} (hu : It.up xs) (hp : It.pos xs k < xs.length) : It.has xs k = decide (xs[It.pos xs k].k = k) := by
  rw [Bool.eq_iff_iff]
  unfold It.has
  simp only [List.any_eq_true, decide_eq_true_eq]
  constructor
  · rintro ⟨x, hx, hk⟩
    obtain ⟨i, hi, rfl⟩ := List.mem_iff_getElem.1 hx
    have : i = It.pos xs k := by
      rcases Nat.lt_trichotomy i (It.pos xs k) with h | h | h
      · have := pos_lt xs k i h
        rw [hk, blt_irrefl] at this; cases this
      · exact h
      · have h1 := List.pairwise_iff_getElem.1 hu (It.pos xs k) i hp hi h
        rw [hk, pos_at hp] at h1; cases h1
    subst this
    exact hk
  · intro h
    exact ⟨_, List.getElem_mem hp, h⟩

theorem pos_facts (xs : List It) (k : ByteArray) (hu : It.up xs) : ∃ p, p = It.pos xs k ∧ p ≤ xs.length ∧ (∀ i (h : i < xs.length), (blt (xs[i]'h).k k = true → i < p) ∧ (blt (xs[i]'h).k k = false → p ≤ i)) ∧
    (∀ h : p < xs.length, It.has xs k = decide ((xs[p]'h).k = k)) ∧ (¬ p < xs.length → It.has xs k = false) := by
  refine ⟨_, rfl, pos_le _ _, fun i hi => ⟨fun hbt => ?_, fun hbt => ?_⟩, fun h => has_at hu h, fun h => has_none hu h⟩
  · rcases Nat.lt_or_ge i (It.pos xs k) with h' | h'
    · exact h'
    · exfalso
      have hp : It.pos xs k < xs.length := by omega
      have h0 := pos_at hp
      rcases Nat.lt_or_ge (It.pos xs k) i with h3 | h3
      · have := List.pairwise_iff_getElem.1 hu (It.pos xs k) i hp hi h3
        rw [blt_trans this hbt] at h0
        cases h0
      · have : i = It.pos xs k := by omega
        subst this
        rw [hbt] at h0; cases h0
  · rcases Nat.lt_or_ge i (It.pos xs k) with h' | h'
    · have := pos_lt xs k i h'
      rw [hbt] at this; cases this
    · exact h'

set_option maxHeartbeats 2000000 in
theorem sl_Search_it (A : Option Addr) (c : Nat) (xs : List It) (k v : ByteArray) (w : World) (hs : SlIt w A c xs) (hx : xs.length ≤ 4398046511104) (hu : It.up xs) :
    Calls Tryz.prog 125 #[.slice A xs.length c, .agg #[.string k, .string v], .func (.func 83) #[] #[]] w fun e w' => e = .returned (.tuple #[.int .i64 (It.pos xs k), .bool (It.has xs k)]) ∧ Below w.heap.size w w' := by
  have hlen := hs.len
  have hcap := hs.cap
  unfold maxLen at hcap
  obtain ⟨p, hpp, hple, hpos, hhas, hnone⟩ := pos_facts xs k hu
  rw [← hpp]
  have HPS := Lib.hid hpos
  have HHA := Lib.hid hhas
  have HNO := Lib.hid hnone
  clear hpp hpos hhas hnone
  have e := enters_of_key_Compare
  go_enter Tryz.func125, Tryz.ntmps125
  go_wp2
  go_loopw [9, 10, 11] (fun i j _ wr => ∃ a b : Nat, a ≤ p ∧ p ≤ b ∧ b ≤ xs.length ∧ i = .int .i64 a ∧ j = .int .i64 b ∧ Below w.heap.size w wr ∧ wr.heap[w.heap.size]? = some (.cells #[.string k, .string v] 41 (0, 0))) (fun i j _ _ => (intOf j).toNat - (intOf i).toNat)
  case atStart => exact ⟨0, xs.length, Nat.zero_le _, hple, Nat.le_refl _, rfl, rfl, below_alloc1 _ _, heap_alloc_new _ _⟩
  case round =>
    obtain ⟨a, b, ha, hb, hbl, rfl, rfl, hbw, hbox⟩ := hrel
    have HB := Lib.hid hbw
    have HX := Lib.hid hbox
    have hgl : w.heap.size < wr.heap.size := (Array.getElem?_eq_some_iff.1 hbox).1
    have q1 := far_cell (show wr.cell? ⟨w.heap.size, 0, none⟩ = some (.string k) by rw [Lib.cell_of_heap hbox]; rfl)
    have q2 := far_cell (show wr.cell? ⟨w.heap.size, 1, none⟩ = some (.string v) by rw [Lib.cell_of_heap hbox]; rfl)
    clear hbox hbw
    by_cases hlt : a < b
    · go_wp2
      obtain ⟨h, hh⟩ : ∃ h : Nat, h = (a + b) / 2 := ⟨_, rfl⟩
      rw [show ((a : Int) + b) / 2 = (h : Int) from by omega]
      have hh1 : a ≤ h := by omega
      have hh2 : h < b := by omega
      clear hh
      have hhx : h < xs.length := by omega
      have hne : xs ≠ [] := by intro h; simp [h] at hhx
      obtain ⟨bb, o, rfl, hbbl, hc⟩ := hs.at_ hne
      obtain ⟨h1, h2⟩ := hc h xs[h] (List.getElem?_eq_getElem hhx)
      have q3 := far_cell ((HB.out.cell (p := ⟨bb, o + h * 2, none⟩) hbbl).trans h1)
      have q4 := far_cell ((HB.out.cell (p := ⟨bb, o + h * 2 + 1, none⟩) hbbl).trans h2)
      clear hc h1 h2
      have hlx : (h : Int) < (xs.length : Int) := by omega
      have HPL := Lib.hid (HPS.out h hhx).1
      have HPG := Lib.hid (HPS.out h hhx).2
      generalize xs[h] = x at *
      have HKC := Lib.hid (kcmp_far x k v)
      have HR := Lib.hid (kcmp_lt x.k k)
      generalize kcmp x.k k = r at *
      refine wp_region_quiet_far mixed_ (by kernel_rfl) ?_
      repeat (go_big_quiet_step ((go_at_call 83; exact calls_far (HKC.out _))))
      refine wpQuiet_nil ?_
      intro _ hw'
      obtain ⟨⟨nq, osq⟩, hw''⟩ := hw'
      subst hw''
      have hb2 := below_far wr nq osq
      have HX2 := Lib.hid ((hb2.block _ hgl).trans HX.out)
      have HB2 := Lib.hid (HB.out.trans (hb2.mono (by omega)))
      generalize far wr nq osq = w2 at *
      clear hb2 q1 q2 q3 q4
      by_cases hr : r < 0
      · have hpl := HPL.out (HR.out.1 hr)
        go_wp2
        go_roundw
        case rel => exact ⟨h + 1, b, by omega, hb, hbl, by go_num, rfl, HB2.out, HX2.out⟩
        case measure => simp [intOf]; omega
      · have hpg := HPG.out (by cases hbt : blt x.k k with | false => rfl | true => exact absurd (HR.out.2 hbt) hr)
        go_wp2
        go_roundw
        case rel => exact ⟨a, h, ha, hpg, by omega, rfl, rfl, HB2.out, HX2.out⟩
        case measure => simp [intOf]; omega
    · obtain rfl : a = p := by omega
      obtain rfl : b = a := by omega
      by_cases hp : b < xs.length
      · have hne : xs ≠ [] := by intro h; simp [h] at hp
        obtain ⟨bb, o, rfl, hbbl, hc⟩ := hs.at_ hne
        obtain ⟨h1, h2⟩ := hc _ _ (List.getElem?_eq_getElem hp)
        have q3 := far_cell ((HB.out.cell (p := ⟨bb, o + b * 2, none⟩) hbbl).trans h1)
        have q4 := far_cell ((HB.out.cell (p := ⟨bb, o + b * 2 + 1, none⟩) hbbl).trans h2)
        clear hc h1 h2
        have hp1 : decide ((b : Int) < (xs.length : Int)) = true := by simp; omega
        have hp2 : (b : Int) < (xs.length : Int) := by omega
        have HH := Lib.hid (HHA.out hp)
        clear HHA HNO
        generalize xs[b] = x at *
        have HKC := Lib.hid (kcmp_far x k v)
        have HR := Lib.hid (kcmp_eq x.k k)
        generalize kcmp x.k k = r at *
        go_wp2
        refine wp_region_quiet_far mixed_ (by kernel_rfl) ?_
        repeat (go_big_quiet_step ((go_at_call 83; exact calls_far (HKC.out _))))
        refine wpQuiet_nil ?_
        intro _ hw'
        obtain ⟨⟨nq, osq⟩, hw''⟩ := hw'
        subst hw''
        go_wp2
        go_ret2
        refine ⟨?_, HB.out.trans ((below_far wr nq osq).mono (by omega))⟩
        have : (r == 0) = It.has xs k := by rw [HH.out, Bool.eq_iff_iff]; simp [HR.out]
        rw [← this]; rfl
      · have hp1 : decide ((b : Int) < (xs.length : Int)) = false := by simp; omega
        have HH := Lib.hid (HNO.out hp)
        go_wp2
        refine wp_region_quiet_far mixed_ (by kernel_rfl) ?_
        repeat (go_big_quiet_step ((fail)))
        refine wpQuiet_nil ?_
        intro _ hw'
        obtain ⟨⟨nq, osq⟩, hw''⟩ := hw'
        subst hw''
        go_wp2
        go_ret2
        exact ⟨by rw [HH.out]; rfl, HB.out.trans ((below_far wr nq osq).mono (by omega))⟩

end Go.Proofs.YtjpakldnejpleaaGreat
