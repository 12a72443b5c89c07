/- Plain laws of ModelRefuses; slices of orders; long. -/
import Derived.Test.YtjpakldnejpleaaGreatAwk
namespace Go.Proofs.YtjpakldnejpleaaGreat
open Go.RowKit

theorem modDo_ways (n : Nat) (rows : List (List It)) (o : Od) :
    ((modDo n rows o).2 = rows) ∨ (∃ x, (modDo n rows o).2 = rows ++ [x] ∧ (modDo n rows o).1.err = 0 ∧ o.kind < 4) ∨ ((modDo n rows o).2 = [lastRow rows] ∧ (modDo n rows o).1.err = 0 ∧ (o.kind = 6 ∨ o.kind = 7)) := by
  unfold modDo
  split
  · exact .inl rfl
  · next hok =>
    split
    · next hm =>
      show updRows n rows (msgOf o).1 = rows ∨ _
      have hk : o.kind < 4 := by
        unfold msgOf at hm
        split at hm
        · omega
        · split at hm
          · omega
          · split at hm
            · omega
            · cases hm
      by_cases hc : msgIs (msgOf o).1 = true ∧ ¬ ((msgOf o).1.kind = 2 ∧ It.has (lastRow rows) (msgOf o).1.k = false) ∧ updErr n (lastRow rows) (msgOf o).1 = 0
      · exact .inr (.inl ⟨_, by show updRows n rows (msgOf o).1 = _; unfold updRows; rw [if_pos hc], hc.2.2, hk⟩)
      · exact .inl (by unfold updRows; rw [if_neg hc])
    · next hm =>
      split
      · exact .inl rfl
      · split
        · exact .inl rfl
        · split
          · exact .inl rfl
          · rcases kind_cases (by simpa using hok) (by simpa using hm) with h | h | h | h
            · omega
            · omega
            · omega
            · exact .inr (.inr ⟨rfl, rfl, h⟩)

/-- A slice of orders. -/
structure SlOd (w : World) (A : Option Addr) (c : Nat) (os : List Od) : Prop where
  len : os.length ≤ c
  cap : c ≤ maxLen
  at_ : os ≠ [] → ∃ b o, A = some ⟨b, o, none⟩ ∧ b < w.heap.size ∧ ∀ i x, os[i]? = some x → w.cell? ⟨b, o + i * 6, none⟩ = some (.int .i64 x.kind) ∧ w.cell? ⟨b, o + i * 6 + 1, none⟩ = some (.string x.k) ∧ w.cell? ⟨b, o + i * 6 + 2, none⟩ = some (.string x.v) ∧
    w.cell? ⟨b, o + i * 6 + 3, none⟩ = some (.int .u64 x.n) ∧ w.cell? ⟨b, o + i * 6 + 4, none⟩ = some (.string x.lo) ∧ w.cell? ⟨b, o + i * 6 + 5, none⟩ = some (.string x.hi)

theorem SlOd.below {w w' : World} {A : Option Addr} {c : Nat} {os : List Od} (h : SlOd w A c os) (hb : Below w.heap.size w w') : SlOd w' A c os :=
  ⟨h.len, h.cap, fun hn => by
    obtain ⟨b, o, e, hlt, hc⟩ := h.at_ hn
    exact ⟨b, o, e, Nat.lt_of_lt_of_le hlt hb.size, fun i m hm => ⟨hb.cell_ (hc i m hm).1, hb.cell_ (hc i m hm).2.1, hb.cell_ (hc i m hm).2.2.1, hb.cell_ (hc i m hm).2.2.2.1, hb.cell_ (hc i m hm).2.2.2.2.1, hb.cell_ (hc i m hm).2.2.2.2.2⟩⟩⟩

/-- More than is asked. -/
def longB (o : Od) : Bool := decide (512 < o.k.size) || decide (512 < o.v.size) || decide (512 < o.lo.size) || decide (512 < o.hi.size)

set_option maxHeartbeats 2000000 in
theorem law_long (o : Od) (w : World) : Calls Tryz.prog 14 #[o.agg] w fun e w' => e = .returned (.bool (longB o)) ∧ Below w.heap.size w w' := by
  obtain ⟨kind, k, v, n, lo, hi⟩ := o
  obtain ⟨r, hr⟩ : ∃ r, r = longB ⟨kind, k, v, n, lo, hi⟩ := ⟨_, rfl⟩
  rw [← hr]
  unfold longB at hr
  have HR := Lib.hid hr
  clear hr
  unfold Od.agg
  by_cases h1 : 512 < k.size
  · have e1 : r = true := by rw [HR.out]; simp [h1]
    subst e1
    have g1 : (512 : Int) < (k.size : Int) := by omega
    go_enter Tryz.func14, Tryz.ntmps14
    go_wp2
    go_ret
    exact ⟨rfl, below_alloc1 _ _⟩
  · have g1 : ¬ (512 : Int) < (k.size : Int) := by omega
    by_cases h2 : 512 < v.size
    · have e1 : r = true := by rw [HR.out]; simp [h2]
      subst e1
      have g2 : (512 : Int) < (v.size : Int) := by omega
      go_enter Tryz.func14, Tryz.ntmps14
      go_wp2
      go_ret
      exact ⟨rfl, below_alloc1 _ _⟩
    · have g2 : ¬ (512 : Int) < (v.size : Int) := by omega
      by_cases h3 : 512 < lo.size
      · have e1 : r = true := by rw [HR.out]; simp [h3]
        subst e1
        have g3 : (512 : Int) < (lo.size : Int) := by omega
        go_enter Tryz.func14, Tryz.ntmps14
        go_wp2
        go_ret
        exact ⟨rfl, below_alloc1 _ _⟩
      · have g3 : ¬ (512 : Int) < (lo.size : Int) := by omega
        by_cases h4 : 512 < hi.size
        · have e1 : r = true := by rw [HR.out]; simp [h4]
          subst e1
          have g4 : (512 : Int) < (hi.size : Int) := by omega
          go_enter Tryz.func14, Tryz.ntmps14
          go_wp2
          go_ret
          exact ⟨rfl, below_alloc1 _ _⟩
        · have e1 : r = false := by rw [HR.out]; simp [h1, h2, h3, h4]
          subst e1
          have g4 : ¬ (512 : Int) < (hi.size : Int) := by omega
          go_enter Tryz.func14, Tryz.ntmps14
          go_wp2
          go_ret
          exact ⟨rfl, below_alloc1 _ _⟩

/-- How many blocks are meant. -/
def blocksOf (b : Int) : Nat := 64 + ((IntKind.u64.wrap b) % 449).toNat
theorem blocksOf_lo (b : Int) : 64 ≤ blocksOf b := by unfold blocksOf; omega
theorem blocksOf_hi (b : Int) : blocksOf b ≤ 512 := by unfold blocksOf; omega

end Go.Proofs.YtjpakldnejpleaaGreat
