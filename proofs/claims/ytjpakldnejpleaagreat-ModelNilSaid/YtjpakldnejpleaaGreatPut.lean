/- Plain laws of a leaf that a message turned. -/
import Derived.Test.YtjpakldnejpleaaGreatDo
namespace Go.Proofs.YtjpakldnejpleaaGreat
open Go.RowKit

theorem up_of_keys {xs ys : List It} (h : It.up xs) (e : ys.map It.k = xs.map It.k) : It.up ys := by
  have h1 : (xs.map It.k).Pairwise fun a b => blt a b = true := List.pairwise_map.2 h
  rw [← e] at h1
  exact List.pairwise_map.1 h1

theorem up_ins {xs : List It} (h : It.up xs) (x : It) (hn : It.has xs x.k = false) : It.up (It.ins xs (It.pos xs x.k) x) := by
  have hk : ∀ y ∈ xs, y.k ≠ x.k := by
    intro y hy e
    unfold It.has at hn
    rw [List.any_eq_false] at hn
    exact absurd e (by simpa using hn y hy)
  have hlo : ∀ y ∈ xs.take (It.pos xs x.k), blt y.k x.k = true := by
    intro y hy
    obtain ⟨i, hi, rfl⟩ := List.mem_iff_getElem.1 hy
    rw [List.length_take] at hi
    rw [List.getElem_take]
    exact pos_lt xs x.k i (by omega)
  have hhi : ∀ y ∈ xs.drop (It.pos xs x.k), blt x.k y.k = true := by
    intro y hy
    obtain ⟨i, hi, rfl⟩ := List.mem_iff_getElem.1 hy
    rw [List.length_drop] at hi
    rw [List.getElem_drop]
    obtain ⟨p, hp, _, h3, _⟩ := pos_facts xs x.k h
    have h4 := (h3 (It.pos xs x.k + i) (by omega)).1
    have h5 : blt (xs[It.pos xs x.k + i]'(by omega)).k x.k = false := by
      cases hb : blt (xs[It.pos xs x.k + i]'(by omega)).k x.k with
      | false => rfl
      | true => exact absurd (h4 hb) (by omega)
    cases hb : blt x.k (xs[It.pos xs x.k + i]'(by omega)).k with
    | true => rfl
    | false => exact absurd (blt_total h5 hb) (hk _ (List.getElem_mem _))
  unfold It.ins It.up
  rw [List.pairwise_append, List.pairwise_cons]
  have hu : It.up (xs.take (It.pos xs x.k) ++ xs.drop (It.pos xs x.k)) := by rw [List.take_append_drop]; exact h
  unfold It.up at hu
  rw [List.pairwise_append] at hu
  refine ⟨hu.1, ⟨hhi, hu.2.1⟩, fun a ha b hb => ?_⟩
  rcases List.mem_cons.1 hb with rfl | hb
  · exact hlo a ha
  · exact hu.2.2 a ha b hb

theorem up_sub {xs ys : List It} (h : It.up xs) (hs : ys.Sublist xs) : It.up ys := List.Pairwise.sublist hs h

theorem has_key {xs : List It} {k : ByteArray} (hu : It.up xs) (h : It.has xs k = true) : (xs[It.pos xs k]'(has_lt hu h)).k = k := by
  have := has_at hu (has_lt hu h)
  rw [h] at this
  exact of_decide_eq_true this.symm

theorem put_up {xs : List It} (h : It.up xs) (m : Ms) : It.up (It.put xs m) := by
  unfold It.put
  cases hh : It.has xs m.k with
  | true =>
    have hl := has_lt h hh
    split
    · rw [if_pos rfl]
      refine up_of_keys h ?_
      rw [List.map_set]
      apply List.ext_getElem (by simp)
      intro i h1 h2
      rw [List.getElem_set]
      split
      · next e => subst e; simp; exact (has_key h hh).symm
      · rfl
    · rw [if_pos rfl]
      exact up_sub h (List.eraseIdx_sublist _ _)
  | false =>
    split
    · rw [if_neg (by decide)]
      exact up_ins h ⟨m.k, _⟩ hh
    · rw [if_neg (by decide)]
      exact h

theorem put_len (xs : List It) (m : Ms) : (It.put xs m).length ≤ xs.length + 1 := by
  unfold It.put
  split
  · split
    · simp
    · rw [It.ins_length _ (pos_le _ _)]; exact Nat.le_refl _
  · split
    · have := (List.eraseIdx_sublist xs (It.pos xs m.k)).length_le; omega
    · omega

theorem was_ok {xs : List It} (h : ∀ x ∈ xs, x.ok = true) (k : ByteArray) : (It.was xs k).size ≤ 16 := by
  unfold It.was
  split
  · next hh =>
    unfold List.getD
    cases e : xs[It.pos xs k]? with
    | none => exact Nat.zero_le _
    | some x =>
      have := h x (List.mem_of_getElem? e)
      simp [It.ok] at this
      simpa using this.2
  · exact Nat.zero_le _

theorem msgApply_size {m : Ms} (hm : msgIs m = true) {val : ByteArray} (hv : val.size ≤ 16) (has : Bool) : (msgApply m val has).1.size ≤ 16 := by
  unfold msgApply
  rw [if_neg (by rw [hm]; decide)]
  split
  · exact Nat.zero_le _
  · split
    · simp only [msgIs, valIs, Bool.and_eq_true, Bool.or_eq_true, decide_eq_true_eq, beq_iff_eq] at hm
      show m.v.size ≤ 16
      omega
    · show (msgSum val m.v).size ≤ 16
      unfold msgSum
      split
      · rw [valOf_size]; omega
      · exact hv

theorem msgIs_key {m : Ms} (hm : msgIs m = true) : keyIs m.k = true := by
  simp only [msgIs, Bool.and_eq_true] at hm
  exact hm.1

theorem put_ok {xs : List It} (h : ∀ x ∈ xs, x.ok = true) {m : Ms} (hm : msgIs m = true) : ∀ x ∈ It.put xs m, x.ok = true := by
  have hn : (⟨m.k, (msgApply m (It.was xs m.k) (It.has xs m.k)).1⟩ : It).ok = true := by
    simp only [It.ok, Bool.and_eq_true, decide_eq_true_eq]
    exact ⟨msgIs_key hm, msgApply_size hm (was_ok h _) _⟩
  intro x hx
  unfold It.put at hx
  split at hx
  · split at hx
    · rcases List.mem_or_eq_of_mem_set hx with h1 | rfl
      · exact h x h1
      · exact hn
    · unfold It.ins at hx
      rcases List.mem_append.1 hx with h1 | h1
      · exact h x (List.mem_of_mem_take h1)
      · rcases List.mem_cons.1 h1 with rfl | h1
        · exact hn
        · exact h x (List.mem_of_mem_drop h1)
  · split at hx
    · exact h x ((List.eraseIdx_sublist _ _).subset hx)
    · exact h x hx

/-- All messages, one behind the other. -/
def It.puts (xs : List It) (ms : List Ms) : List It := ms.foldl It.put xs

theorem puts_up {xs : List It} (h : It.up xs) (ms : List Ms) : It.up (It.puts xs ms) := by
  induction ms generalizing xs with
  | nil => exact h
  | cons m ms ih => exact ih (put_up h m)
theorem puts_len (xs : List It) (ms : List Ms) : (It.puts xs ms).length ≤ xs.length + ms.length := by
  induction ms generalizing xs with
  | nil => exact Nat.le_refl _
  | cons m ms ih => have := ih (xs := It.put xs m); have := put_len xs m; show (It.puts (It.put xs m) ms).length ≤ _; simp only [List.length_cons]; omega
theorem puts_ok {xs : List It} (h : ∀ x ∈ xs, x.ok = true) {ms : List Ms} (hm : ∀ m ∈ ms, msgIs m = true) : ∀ x ∈ It.puts xs ms, x.ok = true := by
  induction ms generalizing xs with
  | nil => exact h
  | cons m ms ih => exact ih (put_ok h (hm m (List.mem_cons_self))) (fun m' h' => hm m' (List.mem_cons_of_mem _ h'))
theorem puts_take {xs : List It} {ms : List Ms} {i : Nat} (hi : i < ms.length) : It.puts xs (ms.take (i + 1)) = It.put (It.puts xs (ms.take i)) ms[i] := by
  unfold It.puts
  rw [List.take_succ_eq_append_getElem hi, List.foldl_append]
  rfl

end Go.Proofs.YtjpakldnejpleaaGreat
