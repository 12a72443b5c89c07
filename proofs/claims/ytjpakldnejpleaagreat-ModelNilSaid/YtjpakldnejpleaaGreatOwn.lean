/- A model that the call made: what it may be, and what its functions leave. -/
import Derived.Test.YtjpakldnejpleaaGreatNewB
namespace Go.Proofs.YtjpakldnejpleaaGreat
open Go.RowKit

/-- All rows of a model. -/
structure RowsOk (n : Nat) (rows : List (List It)) : Prop where
  ne : rows ≠ []
  all : ∀ r ∈ rows, It.up r ∧ (∀ x ∈ r, x.ok = true) ∧ wt r ≤ planCap n

theorem lastRow_mem {rows : List (List It)} (h : rows ≠ []) : lastRow rows ∈ rows := by
  unfold lastRow
  rw [List.getLastD_eq_getLast?, List.getLast?_eq_some_getLast h]
  exact List.getLast_mem h
theorem lastRow_snoc (rows : List (List It)) (x : List It) : lastRow (rows ++ [x]) = x := by simp [lastRow]
theorem lastRow_one (x : List It) : lastRow [x] = x := rfl

theorem wt_len {xs : List It} (h : ∀ x ∈ xs, x.ok = true) : xs.length ≤ wt xs := by
  induction xs with
  | nil => exact Nat.zero_le _
  | cons x xs ih =>
    have h1 := ih (fun y hy => h y (List.mem_cons_of_mem _ hy))
    have h2 : 1 ≤ x.w := by unfold It.w; omega
    simp only [wt, List.map_cons, List.sum_cons, List.length_cons] at *
    omega

theorem RowsOk.row {n : Nat} {rows : List (List It)} (h : RowsOk n rows) (hc : planCap n ≤ 1000000) {r : List It} (hr : r ∈ rows) : RowOk r :=
  ⟨(h.all r hr).1, (h.all r hr).2.1, by have := wt_len (h.all r hr).2.1; have := (h.all r hr).2.2; omega⟩
theorem RowsOk.last {n : Nat} {rows : List (List It)} (h : RowsOk n rows) (hc : planCap n ≤ 1000000) : RowOk (lastRow rows) := h.row hc (lastRow_mem h.ne)

theorem planCap_le {n : Nat} (h : n ≤ 512) : planCap n ≤ 1000000 := by unfold planCap; omega

theorem rowsOk_begin (n : Nat) : RowsOk n [[]] := ⟨by simp, fun r hr => by
  simp at hr; subst hr
  exact ⟨List.Pairwise.nil, by simp, Nat.zero_le _⟩⟩

theorem updRows_ok {n : Nat} {rows : List (List It)} (h : RowsOk n rows) (m : Ms) : RowsOk n (updRows n rows m) := by
  unfold updRows
  split
  · next hc =>
    obtain ⟨h1, h2, h3⟩ := hc
    have hl := h.all _ (lastRow_mem h.ne)
    refine ⟨by simp, fun r hr => ?_⟩
    rcases List.mem_append.1 hr with hr | hr
    · exact h.all r hr
    · simp at hr
      subst hr
      refine ⟨put_up hl.1 m, put_ok hl.2.1 h1, ?_⟩
      unfold updErr at h3
      rw [if_neg (by rw [h1]; decide), if_neg h2] at h3
      split at h3
      · cases h3
      · split at h3
        · cases h3
        · omega
  · exact h

theorem updRows_len (n : Nat) (rows : List (List It)) (m : Ms) : (updRows n rows m).length ≤ rows.length + 1 := by
  unfold updRows; split <;> simp

theorem modDo_ok {n : Nat} {rows : List (List It)} (h : RowsOk n rows) (o : Od) : RowsOk n (modDo n rows o).2 := by
  unfold modDo
  split
  · exact h
  · split
    · exact updRows_ok h _
    · split
      · exact h
      · split
        · exact h
        · split
          · exact h
          · exact ⟨by simp, fun r hr => by simp at hr; subst hr; exact h.all _ (lastRow_mem h.ne)⟩

theorem modDo_len (n : Nat) (rows : List (List It)) (o : Od) : (modDo n rows o).2.length ≤ rows.length + 1 := by
  unfold modDo
  split
  · exact Nat.le_succ _
  · split
    · exact updRows_len _ _ _
    · split
      · exact Nat.le_succ _
      · split
        · exact Nat.le_succ _
        · split
          · exact Nat.le_succ _
          · exact Nat.succ_le_succ (Nat.zero_le _)

theorem lostRows_ok {n : Nat} {rows : List (List It)} (h : RowsOk n rows) (xs : List It) : RowsOk n (lostRows rows xs) := by
  unfold lostRows
  split
  · next hb =>
    refine ⟨by simp, fun r hr => ?_⟩
    simp at hr
    subst hr
    unfold lostB at hb
    rw [Bool.and_eq_true, List.any_eq_true] at hb
    obtain ⟨_, r, hr, he⟩ := hb
    rw [← of_decide_eq_true he]
    exact h.all r hr
  · exact h

theorem kind_cases {o : Od} (h : odIs o = true) (h2 : (msgOf o).2 = false) : o.kind = 4 ∨ o.kind = 5 ∨ o.kind = 8 ∨ (o.kind = 6 ∨ o.kind = 7) := by
  unfold odIs kindIs at h
  simp only [Bool.and_eq_true, decide_eq_true_eq] at h
  unfold msgOf at h2
  split at h2
  · cases h2
  · split at h2
    · cases h2
    · split at h2
      · cases h2
      · omega

theorem model_Do (b g n : Nat) (rows : List (List It)) (o : Od) (w : World) (h : ModAt w b g n rows) (hr : RowOk (lastRow rows)) (hrl : rows.length ≤ 1000) (hn : o.n < 18446744073709551616) :
    Calls Tryz.prog 10 #[.pointer (some ⟨b, 0, none⟩), o.agg] w (DoPost w b g n (modDo n rows o)) := by
  cases hok : odIs o with
  | false =>
    have : modDo n rows o = (An.no 1, rows) := by unfold modDo; rw [if_pos hok]
    rw [this]
    exact model_Do_bad b g n rows o w h hok
  | true =>
    cases hm : (msgOf o).2 with
    | true =>
      have : modDo n rows o = (An.no (updErr n (lastRow rows) (msgOf o).1), updRows n rows (msgOf o).1) := by unfold modDo; rw [if_neg (by simp [hok]), if_pos hm]
      rw [this]
      exact model_Do_upd b g n rows o w h hr hrl hn hok hm
    | false =>
      rcases kind_cases hok hm with hk | hk | hk | hk
      · have : modDo n rows o = (if keyIs o.k then ⟨0, It.has (lastRow rows) o.k, It.was (lastRow rows) o.k, [], 0, 0⟩ else An.no 1, rows) := by unfold modDo; rw [if_neg (by simp [hok]), if_neg (by simp [hm]), if_pos hk]
        rw [this]
        exact model_Do_get b g n rows o w h hr hn hok hk
      · have : modDo n rows o = (if rangeIs o.lo o.hi then ⟨0, false, ⟨#[]⟩, (lastRow rows).filter fun x => rangeHas o.lo o.hi x.k, 0, 0⟩ else An.no 1, rows) := by unfold modDo; rw [if_neg (by simp [hok]), if_neg (by simp [hm]), if_neg (by omega), if_pos hk]
        rw [this]
        exact model_Do_scan b g n rows o w h hr hn hok hk
      · have : modDo n rows o = (⟨0, false, ⟨#[]⟩, [], (lastRow rows).length, wt (lastRow rows)⟩, rows) := by unfold modDo; rw [if_neg (by simp [hok]), if_neg (by simp [hm]), if_neg (by omega), if_neg (by omega), if_pos hk]
        rw [this]
        exact model_Do_status b g n rows o w h hn hok hk
      · have : modDo n rows o = (An.no 0, [lastRow rows]) := by unfold modDo; rw [if_neg (by simp [hok]), if_neg (by simp [hm]), if_neg (by omega), if_neg (by omega), if_neg (by omega)]
        rw [this]
        exact model_Do_sync b g n rows o w h hn hok hk

/-- Blocks that are no model's stay as they are. -/
def Frm (w w' : World) : Prop := w.heap.size ≤ w'.heap.size ∧ ∀ (k : Nat) (cs : Array Value) (T : TypeId) (fr : Nat × Nat), w.heap[k]? = some (Obj.cells cs T fr) → T ≠ 100 → T ≠ 96 → w'.heap[k]? = w.heap[k]?

theorem Frm.of_below {w w' : World} (h : Below w.heap.size w w') : Frm w w' := ⟨h.size, fun k _ _ _ hk _ _ => h.block k (Array.getElem?_eq_some_iff.1 hk).1⟩
theorem Frm.refl (w : World) : Frm w w := ⟨Nat.le_refl _, fun _ _ _ _ _ _ _ => rfl⟩
theorem Frm.trans {w w1 w2 : World} (h : Frm w w1) (h2 : Frm w1 w2) : Frm w w2 :=
  ⟨Nat.le_trans h.1 h2.1, fun k cs T fr hk h3 h4 => by
    have h5 := h.2 k cs T fr hk h3 h4
    rw [← h5]
    exact h2.2 k cs T fr (h5.trans hk) h3 h4⟩
theorem Frm.of_off {w w' : World} {b g n : Nat} {rows : List (List It)} (h : ModAt w b g n rows) (ho : Off (fun k => k = b ∨ k = g) w w') : Frm w w' := by
  obtain ⟨o, c, cur, bs, h⟩ := h
  refine ⟨ho.size, fun k cs T fr hk h1 h2 => ho.block k (Array.getElem?_eq_some_iff.1 hk).1 ?_⟩
  rintro (rfl | rfl)
  · have := h.box
    rw [hk] at this
    injection this with this
    injection this with _ this
    exact h1 this
  · have := h.row
    rw [hk] at this
    injection this with this
    injection this with _ this
    exact h2 this

theorem Frm.blk {w w' : World} (h : Frm w w') {k : Nat} {cs : Array Value} {T : TypeId} {fr : Nat × Nat} (hk : w.heap[k]? = some (.cells cs T fr)) (h1 : T ≠ 100) (h2 : T ≠ 96) : w'.heap[k]? = some (.cells cs T fr) :=
  (h.2 k cs T fr hk h1 h2).trans hk

/-- A row of items of the call's own stays. -/
theorem own_frm {w w' : World} {B : Nat} {v : Value} {n : Nat} {cs : List Value} (h : w.ownsRow B 41 2 v n cs) (hf : Frm w w') : w'.ownsRow B 41 2 v n cs := by
  refine ⟨h.1, ?_⟩
  rcases h.2 with h1 | ⟨g, cap, cur, h1, h2, h3, h4⟩
  · exact .inl h1
  · exact .inr ⟨g, cap, cur, h1, h2, hf.blk h3 (by decide) (by decide), h4⟩

/-- A model of the call's own (that began in world w0). -/
def MOwn (w0 w : World) (b n : Nat) (rows : List (List It)) : Prop := ∃ g, w0.heap.size ≤ b ∧ w0.heap.size ≤ g ∧ ModAt w b g n rows ∧ Below w0.heap.size w0 w

theorem MOwn.below {w0 w w' : World} {b n : Nat} {rows : List (List It)} (h : MOwn w0 w b n rows) (hb : Below w.heap.size w w') : MOwn w0 w' b n rows := by
  obtain ⟨g, h1, h2, h3, h4⟩ := h
  exact ⟨g, h1, h2, h3.below hb, h4.trans (hb.mono h4.size)⟩
theorem MOwn.bel {w0 w : World} {b n : Nat} {rows : List (List It)} (h : MOwn w0 w b n rows) : Below w0.heap.size w0 w := by
  obtain ⟨g, h1, h2, h3, h4⟩ := h
  exact h4
theorem MOwn.ne {w0 w : World} {b n : Nat} {rows : List (List It)} (h : MOwn w0 w b n rows) : w0.heap.size ≤ b := by
  obtain ⟨g, h1, h2, h3, h4⟩ := h
  exact h1

theorem MOwn.off {w0 w w' : World} {b n : Nat} {rows' : List (List It)} {g g' : Nat} (h1 : w0.heap.size ≤ b) (h2 : w0.heap.size ≤ g) (h4 : Below w0.heap.size w0 w) (hM : ModAt w' b g' n rows') (hg : g' = g ∨ w.heap.size ≤ g') (ho : Off (fun k => k = b ∨ k = g) w w') : MOwn w0 w' b n rows' := by
  refine ⟨g', h1, ?_, hM, Off.below h4 ho h4.size (fun k hk => by rcases hk with rfl | rfl <;> assumption)⟩
  rcases hg with rfl | hg
  · exact h2
  · exact Nat.le_trans h4.size hg

theorem own_Do (w0 : World) (b n : Nat) (rows : List (List It)) (o : Od) (w : World) (h : MOwn w0 w b n rows) (hr : RowOk (lastRow rows)) (hrl : rows.length ≤ 1000) (hn : o.n < 18446744073709551616) :
    Calls Tryz.prog 10 #[.pointer (some ⟨b, 0, none⟩), o.agg] w fun e w' => (∃ A c, e = .returned (ansV (modDo n rows o).1.err (modDo n rows o).1.has (modDo n rows o).1.val (.slice A (modDo n rows o).1.items.length c) (modDo n rows o).1.si (modDo n rows o).1.sw) ∧
      w'.ownsRow w.heap.size 41 2 (.slice A (modDo n rows o).1.items.length c) (modDo n rows o).1.items.length (It.cells (modDo n rows o).1.items)) ∧ MOwn w0 w' b n (modDo n rows o).2 ∧ Frm w w' := by
  obtain ⟨g, h1, h2, h3, h4⟩ := h
  refine (model_Do b g n rows o w h3 hr hrl hn).mono ?_
  rintro e w' ⟨⟨v, rfl, A, c, rfl, ho⟩, ⟨g', hM, hg⟩, hO⟩
  exact ⟨⟨A, c, rfl, ho⟩, MOwn.off h1 h2 h4 hM hg hO, Frm.of_off h3 hO⟩

theorem own_Lost (w0 : World) (b n : Nat) (rows : List (List It)) (A : Option Addr) (c : Nat) (xs : List It) (w : World) (h : MOwn w0 w b n rows) (hs : SlIt w A c xs) (hx : xs.length ≤ 4398046511104) :
    Calls Tryz.prog 12 #[.pointer (some ⟨b, 0, none⟩), .slice A xs.length c] w fun e w' => e = .returned (.bool (lostB rows xs)) ∧ MOwn w0 w' b n (lostRows rows xs) ∧ Frm w w' := by
  obtain ⟨g, h1, h2, h3, h4⟩ := h
  by_cases he : leafErr xs = 0
  · refine (model_Lost_ok b g n rows A c xs w h3 hs hx he).mono ?_
    rintro e w' ⟨rfl, ⟨g', hM, hg⟩, hO⟩
    exact ⟨rfl, MOwn.off h1 h2 h4 hM hg hO, Frm.of_off h3 hO⟩
  · have e1 : lostB rows xs = false := by unfold lostB; simp [he]
    have e2 : lostRows rows xs = rows := by unfold lostRows; rw [e1]; rfl
    rw [e1, e2]
    refine (model_Lost_bad b g n rows A c xs w h3 hs hx he).mono ?_
    rintro e w' ⟨rfl, hM, hB⟩
    exact ⟨rfl, ⟨g, h1, h2, hM, h4.trans (hB.mono h4.size)⟩, Frm.of_below hB⟩

theorem own_Items (w0 : World) (b n : Nat) (rows : List (List It)) (w : World) (h : MOwn w0 w b n rows) (hr : RowOk (lastRow rows)) :
    Calls Tryz.prog 13 #[.pointer (some ⟨b, 0, none⟩)] w fun e w' => (∃ A c, e = .returned (.slice A (lastRow rows).length c) ∧ w'.ownsRow w.heap.size 41 2 (.slice A (lastRow rows).length c) (lastRow rows).length (It.cells (lastRow rows))) ∧ MOwn w0 w' b n rows ∧ Below w.heap.size w w' := by
  have h' := h
  obtain ⟨g, h1, h2, h3, h4⟩ := h
  refine (model_Items b g n rows w h3 hr).mono ?_
  rintro e w' ⟨⟨v, rfl, ho⟩, hB⟩
  obtain ⟨A, c, rfl, _⟩ := own_slice ho
  exact ⟨⟨A, c, rfl, ho⟩, h'.below hB, hB⟩

theorem own_Weight (w0 : World) (b n : Nat) (rows : List (List It)) (w : World) (h : MOwn w0 w b n rows) :
    Calls Tryz.prog 15 #[.pointer (some ⟨b, 0, none⟩)] w fun e w' => e = .returned (.int .i64 (wt (lastRow rows))) ∧ Below w.heap.size w w' := by
  obtain ⟨g, h1, h2, h3, h4⟩ := h
  exact model_Weight b g n rows w h3

theorem own_Late (w0 : World) (b n : Nat) (rows : List (List It)) (w : World) (h : MOwn w0 w b n rows) :
    Calls Tryz.prog 11 #[.pointer (some ⟨b, 0, none⟩)] w fun e w' => e = .returned (.int .i64 ((rows.length - 1 : Nat) : Int)) ∧ w = w' := by
  obtain ⟨g, h1, h2, h3, h4⟩ := h
  exact model_Late b g n rows w h3

end Go.Proofs.YtjpakldnejpleaaGreat
