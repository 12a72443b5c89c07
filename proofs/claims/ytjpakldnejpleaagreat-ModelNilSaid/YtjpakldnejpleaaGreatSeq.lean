/- slices.Values and slices.AppendSeq, slices.Collect at items. -/
import Derived.Test.YtjpakldnejpleaaGreatSl
import Derived.RangeFuncNested
import Derived.RangeFuncBox
import Derived.RangeFuncLeaves
import Derived.RangeFuncBound
import Derived.RangeFuncCalls
import Derived.Shelf.Abstract
import Derived.Shelf.RegionOpen
import Derived.OwnWalkIn
import Derived.TacticsInMore
import Derived.LoopNIn
import Derived.LoopIn
import Derived.Maps.AppendAt
namespace Go.Proofs.YtjpakldnejpleaaGreat
open Go.RowKit Go.Shelf
attribute [local go_sem] Oper.semAt_some

/-- The cells of items, one behind the other. -/
def It.cells (xs : List It) : List Value := xs.flatMap fun x => [.string x.k, .string x.v]
theorem It.cells_append (xs ys : List It) : It.cells (xs ++ ys) = It.cells xs ++ It.cells ys := by simp [It.cells]
theorem It.cells_length (xs : List It) : (It.cells xs).length = xs.length * 2 := by
  induction xs with
  | nil => rfl
  | cons x xs ih => simp [It.cells] at *; omega

theorem item_info : (Tryz.prog.info? 41).map (fun i => (i.zero, i.size, i.bytes)) = some (some (.agg #[.string ⟨#[]⟩, .string ⟨#[]⟩]), 2, 32) := by kernel_rfl

set_option maxRecDepth 100000 in
set_option maxHeartbeats 2000000 in
theorem values1_in (F : Fence) (n : Nat) (h7 : F.fn 113) (hro : F.round = none) (hn : 1 ≤ n) (l Bs n₀ c : Nat) (A : Option Addr) (xs : List It) (J Jx : List It → World → Prop)
    (hY : ∀ pre x W, J pre W → pre.length < xs.length → YieldAt F (n - 1) Tryz.prog l #[x.agg] W fun e W' =>
      (e = .returned (.bool true) ∧ J (pre ++ [x]) W' ∧ Below n₀ W W') ∨ (e = .returned (.bool false) ∧ Jx (pre ++ [x]) W'))
    (W : World) (hBs : W.cell? ⟨Bs, 0, none⟩ = some (.slice A xs.length c)) (hlen : xs.length ≤ c) (hcap : c ≤ maxLen)
    (hsl : xs ≠ [] → ∃ b o, A = some ⟨b, o, none⟩ ∧ b < n₀ ∧ ∀ i x, xs[i]? = some x → W.cell? ⟨b, o + i * 2, none⟩ = some (.string x.k) ∧ W.cell? ⟨b, o + i * 2 + 1, none⟩ = some (.string x.v)) (h0 : J [] W) (hn0 : n₀ ≤ W.heap.size)
    (hJa : AbidesFrom W.heap.size J) :
    CallsIn F n Tryz.prog 113 #[.func (.yield l) #[] #[], .pointer (some ⟨Bs, 0, none⟩)] W fun e W' => (∃ v, e = .returned v) ∧
      ((∃ ys, ys = xs ∧ J ys W') ∨ (∃ pre, pre <+: xs ∧ Jx pre W')) := by
  unfold maxLen at hcap
  refine callsIn_of_wp Tryz.func113 rfl h7 ?_ hro
  simp only [Tryz.ntmps113, List.size_toArray, List.length_cons, List.length_nil, Nat.reduceAdd, Nat.reduceSub, Array.replicate_succ, Array.replicate_zero, List.push_toArray, List.append_toArray, List.nil_append, List.cons_append]
  gi_wp2
  gi_loopw [4, 7] (fun _ i wr => ∃ k : Nat, k ≤ xs.length ∧ i = .int .i64 k ∧ J (xs.take k) wr ∧ Below n₀ W wr)
    (fun _ i _ => xs.length - (intOf i).toNat)
  case atStart => exact ⟨0, Nat.zero_le _, rfl, by simpa using h0, Below.refl _ _⟩
  case round =>
    obtain ⟨k, hk, rfl, hJs', hnx⟩ := hrel
    by_cases hlt : k < xs.length
    · have hne : xs ≠ [] := by intro h; simp [h] at hlt
      obtain ⟨b, o, rfl, hbl, hc⟩ := hsl hne
      obtain ⟨h1, h2⟩ := hc k xs[k] (List.getElem?_eq_getElem hlt)
      replace h1 := (hnx.cell (p := ⟨b, o + k * 2, none⟩) hbl).trans h1
      replace h2 := (hnx.cell (p := ⟨b, o + k * 2 + 1, none⟩) hbl).trans h2
      have hJ2 : J (xs.take k) (wr.alloc (.cells #[.string xs[k].k, .string xs[k].v] 41)) := hJa _ _ _ none hJs' (World.grownBy_alloc _ _ _) (fun r e => by cases e)
      obtain ⟨fn, tmps, assign, body, hy, hR⟩ := hY (xs.take k) xs[k] _ hJ2 (by rw [List.length_take]; omega)
      unfold It.agg at hy
      have HS := Lib.hid hsl
      clear hsl hc
      gi_wp2
      refine hR.mono ?_
      have htk : xs.take k ++ [xs[k]] = xs.take (k + 1) := by rw [List.take_succ_eq_append_getElem hlt]
      rintro e W3 (⟨rfl, hJ3, hk3⟩ | ⟨rfl, hJx3⟩)
      · rw [htk] at hJ3
        clear htk
        gi_wp2
        go_roundw
        case rel => exact ⟨k + 1, by omega, by go_num, hJ3, (hnx.alloc (Nat.le_trans hn0 hnx.size) _).trans hk3⟩
        case measure => simp [intOf]; omega
      · rw [htk] at hJx3
        clear htk
        gi_wp2
        refine bodyPost_ret (results_none rfl _ _ _) rfl ?_
        exact ⟨⟨_, rfl⟩, .inr ⟨_, List.take_prefix _ _, hJx3⟩⟩
    · obtain rfl : k = xs.length := by omega
      rw [List.take_length] at hJs'
      clear hsl
      gi_wp2
      go_end0
      exact ⟨⟨_, rfl⟩, .inl ⟨_, rfl, hJs'⟩⟩

set_option maxHeartbeats 1000000 in
theorem sl_Values_it (A : Option Addr) (len c : Nat) (w : World) :
    Calls Tryz.prog 82 #[.slice A len c] w fun e w' => e = .returned (.func (.func 113) #[] #[.pointer (some ⟨w.heap.size, 0, none⟩)]) ∧ w' = w.alloc (.cells #[.slice A len c] 29) := by
  go_enter Tryz.func82, Tryz.ntmps82
  go_wp2
  go_ret
  exact ⟨rfl, rfl⟩

/-- The iterator over a slice's items. -/
theorem values_stops (F : Fence) (n : Nat) (h7 : F.fn 113) (hro : F.round = none) (hn : 1 ≤ n) (Bs n₀ c : Nat) (A : Option Addr) (xs : List It) (w : World) (hBs : Bs < w.heap.size) (hn₀ : n₀ ≤ w.heap.size)
    (hc : w.cell? ⟨Bs, 0, none⟩ = some (.slice A xs.length c)) (hlen : xs.length ≤ c) (hcap : c ≤ maxLen)
    (hsl : xs ≠ [] → ∃ b o, A = some ⟨b, o, none⟩ ∧ b < n₀ ∧ ∀ i x, xs[i]? = some x → w.cell? ⟨b, o + i * 2, none⟩ = some (.string x.k) ∧ w.cell? ⟨b, o + i * 2 + 1, none⟩ = some (.string x.v)) :
    SeqStopsK F n Tryz.prog 113 #[.pointer (some ⟨Bs, 0, none⟩)] (fun x : It => #[x.agg]) (Below n₀) (fun ys => ys = xs) (fun pre => pre <+: xs) xs.length w := fun l J Jx W hW hJa _ hY h0 => by
  refine (values1_in F n h7 hro hn l Bs n₀ c A xs J Jx hY W ((hW.cell (p := ⟨Bs, 0, none⟩) hBs).trans hc) hlen hcap ?_ h0 (Nat.le_trans hn₀ hW.size) hJa)
  intro hne
  obtain ⟨b, o, rfl, hb, hcs⟩ := hsl hne
  exact ⟨b, o, rfl, hb, fun i x hx => ⟨(hW.cell (p := ⟨b, _, none⟩) (by show b < _; omega)).trans (hcs i x hx).1, (hW.cell (p := ⟨b, _, none⟩) (by show b < _; omega)).trans (hcs i x hx).2⟩⟩

set_option maxRecDepth 100000 in
set_option maxHeartbeats 4000000 in
/-- slices.AppendSeq(nil, seq), seq going over xs: a row of the call's own that holds xs. -/
theorem sl_AppendSeq_it (gf : FuncId) (lb : Array Value) (xs : List It) (w : World) (n₀ : Nat) (hn : n₀ ≤ w.heap.size) (hx : xs.length ≤ 4398046511104)
    (eg : ∀ args W, (callFunc gf args).run Tryz.prog W = .ok (.enter gf args) W)
    (hseq : SeqStopsK Fence.wide 5 Tryz.prog gf lb (fun x : It => #[x.agg]) (Below n₀) (fun ys => ys = xs) (fun pre => pre <+: xs) xs.length w) :
    Calls Tryz.prog 128 #[.slice none 0 0, .func (.func gf) #[] lb] w fun e w' => (∃ v, e = .returned v ∧ w'.ownsRow w.heap.size 41 2 v xs.length (It.cells xs) ∧ (v = .slice none 0 0 ↔ xs = [])) ∧ Below w.heap.size w w' := by
  obtain ⟨i0, hi, hz0, hz1, hz2⟩ := info_parts item_info
  refine (callsIn_wide (n := 6)).1 ?_
  refine callsIn_of_wp_marks Tryz.func128 rfl trivial ?_ rfl
  simp only [Tryz.ntmps128, List.size_toArray, List.length_cons, List.length_nil, Nat.reduceAdd, Nat.reduceSub, Array.replicate_succ, Array.replicate_zero, List.push_toArray, List.append_toArray, List.nil_append, List.cons_append]
  gi_wp2
  refine wpIn_rangeFunc_ownH rfl (by omega) (gf := gf) (lb := lb) rfl trivial eg hseq (belowK_t) (belowK_b (by simp; omega)) ((Below.refl _ w).alloc (Nat.le_refl _) _) (fun _ => rfl)
    (fun pre W => (∃ v, Boxed W w.heap.size 29 v ∧ W.ownsRow w.heap.size 41 2 v pre.length (It.cells pre) ∧ (v = .slice none 0 0 ↔ pre = [])) ∧ Below w.heap.size w W) (fun _ _ _ => False) ?hI (fun _ _ _ _ _ h => h.elim) ?h0
    (fun x a' W => ∃ Bx, w.heap.size < Bx ∧ W.heap[Bx]? = some (.cells #[.string x.k, .string x.v] 41 (0, 0)) ∧ a' = { tmps := #[.slice none 0 0, .func (.func gf) #[] lb, .pointer (some ⟨w.heap.size, 0, none⟩), undef, .slice none 0 0, .pointer (some ⟨Bx, 0, none⟩), .func (.func gf) #[] lb, x.agg, undef, undef, undef, undef, undef], defers := [] }) ?hAx ?assign ?body ?done (fun _ _ _ _ _ _ h => h.elim)
  case hI => exact OwnFrom.and (Own.from (holdsRow_own w.heap.size w.heap.size 29 41 2 (fun pre : List It => pre.length) (fun pre => It.cells pre) (fun pre v => v = .slice none 0 0 ↔ pre = [])) _) (ownFrom_below (Nat.le_refl _) (by simp))
  case h0 => exact ⟨⟨_, Boxed.new w _ _, World.ownsRow_nil _ _ _ _, by simp⟩, (Below.refl _ w).alloc (Nat.le_refl _) _⟩
  case hAx =>
    rintro x a' _ W W' row ⟨Bx, h1, h2, h3⟩ hg hr
    refine ⟨Bx, h1, (hg.block Bx (Array.getElem?_eq_some_iff.1 h2).1 ?_).trans h2, h3⟩
    intro e
    obtain ⟨_, o, ho, hc⟩ := hr Bx e.symm
    rw [h2] at ho
    cases ho
    cases hc
  case assign =>
    rintro l pre x W K ⟨⟨v, hv, hrow, hnil⟩, hB⟩ hK
    unfold It.agg at hK ⊢
    gi_wp2
    refine hK _ _ ((KeepsOthers.alloc _ _).from _) ((Below.refl _ W).alloc (Nat.le_trans hn hB.size) _) ⟨⟨v, hv.alloc _, hrow.alloc _, hnil⟩, hB.alloc hB.size _⟩ ⟨W.heap.size, hv.lt, heap_alloc_new W _, rfl⟩
  case body =>
    rintro l pre x a' W hl ⟨r, hr⟩ ⟨⟨v, hv, hrow, hnil⟩, hB⟩ ⟨Bx, hBx, bX, rfl⟩ hlt
    have hc0 := hv.cell
    have hx1 : W.cell? ⟨Bx, 0, none⟩ = some (.string x.k) := by simp [World.cell?, bX]
    have hx2 : W.cell? ⟨Bx, 1, none⟩ = some (.string x.v) := by simp [World.cell?, bX]
    gi_wp2_with (gi_at_builtin; refine wpListIn_append_own _ rfl _ _ 29 rfl w.heap.size 41 i0 (.agg #[.string ⟨#[]⟩, .string ⟨#[]⟩]) 2 32 Tryz.underlying29 hi hz0 hz1 hz2 rfl (by decide) _ _ _ rfl (hrow.alloc _) ⟨W.heap.size, 0, none⟩ 1 1 [.string x.k, .string x.v] rfl rfl ?c1 ?c2 ?c3 ?c4 ?c5 ?_)
    case c1 =>
      intro j u hj
      match j, hj with
      | 0, hj => simp at hj; subst hj; simp [Addr.add]
      | 1, hj => simp at hj; subst hj; simp [Addr.add]
    case c2 => intro u hu; simp at hu; rcases hu with rfl | rfl <;> rfl
    case c3 => unfold maxLen; omega
    case c4 => omega
    case c5 => have := hB.size; simp; omega
    intro v' w1 hown' hgrow _
    obtain ⟨g', cap', rfl⟩ := ownsRow_succ hown'
    obtain ⟨hv1, hv2, hr2, hk2, hb2⟩ := hv.appended (by decide) hrow hB.size (Nat.le_refl _) hown' hgrow
    have hc1 := hv1.cell
    have hf1 := hv1.frozen
    gi_wp2
    refine ⟨hk2.from _, hb2.mono hn, ⟨_, hv2, ?_, by simp⟩, hB.trans hb2⟩
    rw [It.cells_append, List.length_append]
    exact hr2
  case done =>
    rintro D ys W hD rfl ⟨⟨v, hv, hrow, hnil⟩, hB⟩ hK
    have hc0 := hv.cell
    gi_wp2
    refine ⟨by simp, .inl ⟨_, _, rfl, run_takeDeferred hK, ?_⟩⟩
    refine ⟨_, results_tmp rfl _ _ _, ⟨v, rfl, ownsRow_putObj hrow _ hK rfl, hnil⟩, hB.grown (grownBy_putObj' _ _ _) hB.size (fun k e => ?_)⟩
    cases e
    simp at hD
    omega

set_option maxHeartbeats 1000000 in
theorem sl_Collect_it (gf : FuncId) (lb : Array Value) (xs : List It) (w : World) (n₀ : Nat) (hn : n₀ ≤ w.heap.size) (hx : xs.length ≤ 4398046511104)
    (eg : ∀ args W, (callFunc gf args).run Tryz.prog W = .ok (.enter gf args) W)
    (hseq : SeqStopsK Fence.wide 5 Tryz.prog gf lb (fun x : It => #[x.agg]) (Below n₀) (fun ys => ys = xs) (fun pre => pre <+: xs) xs.length w) :
    Calls Tryz.prog 111 #[.func (.func gf) #[] lb] w fun e w' => (∃ v, e = .returned v ∧ w'.ownsRow w.heap.size 41 2 v xs.length (It.cells xs) ∧ (v = .slice none 0 0 ↔ xs = [])) ∧ Below w.heap.size w w' := by
  have H := sl_AppendSeq_it gf lb xs w n₀ hn hx eg hseq
  clear hseq eg
  go_enter Tryz.func111, Tryz.ntmps111
  go_wp2_with fail
  refine H.mono ?_
  rintro e w1 ⟨⟨v, rfl, h1, h2⟩, hb1⟩
  go_wp2
  go_ret
  exact ⟨⟨v, rfl, h1, h2⟩, hb1⟩

end Go.Proofs.YtjpakldnejpleaaGreat
