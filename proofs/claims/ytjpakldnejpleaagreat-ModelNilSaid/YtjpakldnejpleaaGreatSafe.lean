/- model.safe. -/
import Derived.Test.YtjpakldnejpleaaGreatScan
namespace Go.Proofs.YtjpakldnejpleaaGreat
open Go.RowKit

theorem LeafAt.off {w w' : World} {lb : Nat} {xs : List It} {S : Nat → Prop} (h : LeafAt w lb xs) (ho : Off S w w') (h1 : ¬ S lb) (h2 : ∀ bb o x, w.cell? ⟨bb, o, none⟩ = some (.string x) → ¬ S bb) : LeafAt w' lb xs := by
  obtain ⟨A, c, hb, hs⟩ := h
  refine ⟨A, c, (ho.block lb (Array.getElem?_eq_some_iff.1 hb).1 h1).trans hb, hs.len, hs.cap, fun hn => ?_⟩
  obtain ⟨bb, o, e, hlt, hc⟩ := hs.at_ hn
  refine ⟨bb, o, e, Nat.lt_of_lt_of_le hlt ho.size, fun i x hx => ?_⟩
  obtain ⟨k1, k2⟩ := hc i x hx
  have hS := h2 bb _ _ k1
  have hbk := ho.block bb hlt hS
  exact ⟨(World.cell?_of_block (w := w) (a := ⟨bb, o + i * 2, none⟩) hbk).trans k1, (World.cell?_of_block (w := w) (a := ⟨bb, o + i * 2 + 1, none⟩) hbk).trans k2⟩

/-- No string lies in the model's own block. -/
theorem ModIn.noStr {w : World} {b g o c : Nat} {cur : Array Value} {bs : List Nat} {n : Nat} {rows : List (List It)} (h : ModIn w b g o c cur bs n rows) : ∀ bb p x, w.cell? ⟨bb, p, none⟩ = some (.string x) → ¬ (bb = b ∨ bb = g) := by
  rintro bb p x hx (rfl | rfl)
  · rw [Lib.cell_of_heap h.box] at hx
    unfold modCells at hx
    match p, hx with
    | 0, hx => cases hx
    | 1, hx => cases hx
    | 2, hx => cases hx
    | 3, hx => cases hx
    | 4, hx => cases hx
    | 5, hx => cases hx
    | 6, hx => cases hx
    | 7, hx => cases hx
    | (q + 8), hx => simp at hx
  · rw [Lib.cell_of_heap h.row] at hx
    obtain ⟨u, hu⟩ := h.ptrs (.string x) (by
      rw [← Array.getElem?_toList] at hx
      exact List.mem_of_getElem? hx)
    cases hu

theorem ModIn.notLeaf {w : World} {b g o c : Nat} {cur : Array Value} {bs : List Nat} {n : Nat} {rows : List (List It)} (h : ModIn w b g o c cur bs n rows) {lb : Nat} {xs : List It} (hl : LeafAt w lb xs) : ¬ (lb = b ∨ lb = g) := by
  obtain ⟨A, c', hb, _⟩ := hl
  rintro (rfl | rfl)
  · rw [h.box] at hb; cases hb
  · rw [h.row] at hb; cases hb

theorem off_setCell (w : World) (b o : Nat) (v : Value) : Off (fun k => k = b) w (w.setCell ⟨b, o, none⟩ v) :=
  ⟨rfl, rfl, rfl, by simp [World.setCell], fun k _ hk => Below.heap_setCell _ _ _ _ hk⟩

theorem ModIn.setRows {w : World} {b g o c : Nat} {cur : Array Value} {bs : List Nat} {n : Nat} {rows : List (List It)} (h : ModIn w b g o c cur bs n rows) {g' o' c' : Nat} {cur' : Array Value} {bs' : List Nat} {rows' : List (List It)}
    (row : w.heap[g']? = some (.cells cur' 96 (0, 0))) (ptrs : ∀ u ∈ cur'.toList, ∃ p, u = .pointer p) (fits : o' + c' ≤ cur'.size) (len : rows'.length ≤ c') (cap : c' ≤ maxLen) (bsl : bs'.length = rows'.length)
    (at_ : ∀ (i lb : Nat), bs'[i]? = some lb → cur'[o' + i]? = some (.pointer (some ⟨lb, 0, none⟩))) (leaf : ∀ (i lb : Nat) (xs : List It), bs'[i]? = some lb → rows'[i]? = some xs → LeafAt w lb xs) (ne : rows' ≠ []) :
    ModIn (w.setCell ⟨b, 7, none⟩ (.slice (some ⟨g', o', none⟩) rows'.length c')) b g' o' c' cur' bs' n rows' := by
  have hgb : g' ≠ b := by
    rintro rfl
    rw [h.box] at row; cases row
  refine ⟨?_, ?_, ptrs, fits, len, cap, bsl, at_, fun i lb xs h1 h2 => ?_, ne⟩
  · rw [heap_setCell_same h.box]
    unfold modCells
    simp
  · rw [Below.heap_setCell _ _ _ _ hgb]; exact row
  · have hl := leaf i lb xs h1 h2
    exact hl.off (off_setCell w b 7 _) (fun e => h.notLeaf hl (.inl e)) (fun bb p x hx e => h.noStr bb p x hx (.inl e))

set_option maxHeartbeats 2000000 in
set_option maxRecDepth 100000 in
theorem model_safe (b g n : Nat) (rows : List (List It)) (w : World) (h : ModAt w b g n rows) :
    Calls Tryz.prog 47 #[.pointer (some ⟨b, 0, none⟩)] w fun e w' => e = .returned (.tuple #[]) ∧ ModAt w' b g n [lastRow rows] ∧ Off (fun k => k = b ∨ k = g) w w' := by
  obtain ⟨o, c, cur, bs, h⟩ := h
  obtain ⟨lb, hlb, hL, hbs⟩ := h.last
  have hr : 0 < rows.length := List.length_pos_iff.2 h.ne
  have hlen := h.len
  have hcap := h.cap
  unfold maxLen at hcap
  have q2 := far_cell (show w.cell? ⟨b, 7, none⟩ = some (.slice (some ⟨g, o, none⟩) rows.length c) by rw [Lib.cell_of_heap h.box]; rfl)
  obtain ⟨k, hk⟩ : ∃ k, k = rows.length - 1 := ⟨_, rfl⟩
  have hk1 : (rows.length : Int) - 1 = (k : Int) := by omega
  have hk2 : (k : Int) ≤ (rows.length : Int) := by omega
  have hk3 : ¬ c = k := by omega
  have hwr : IntKind.i64.wrap ((rows.length : Int) - 1) = (k : Int) := by rw [hk1]; exact IntWalk.i64_in _ (by omega)
  have hk4 : rows.length - k = 1 := by omega
  have HK := Lib.hid hk
  have HH := Lib.hid h
  have HLB := Lib.hid hlb
  have HL := Lib.hid hL
  have HBS := Lib.hid hbs
  clear hk h hr hlb hL hbs
  go_enter Tryz.func47, Tryz.ntmps47
  go_wp2
  refine wp_region_far_tail 12 mixed_ (by kernel_rfl) ?_
  simp only [List.take_succ_cons, List.take_zero, List.drop_succ_cons, List.drop_zero]
  repeat (go_big_quiet_step ((fail)))
  refine wpQuiet_nil ?_
  intro _ hw'
  obtain ⟨⟨nq, osq⟩, hw''⟩ := hw'
  subst hw''
  have hb5 := below_far w nq osq
  have HH5 := Lib.hid (HH.out.below hb5)
  have HL5 := Lib.hid (HL.out.below hb5)
  have HB5 := Lib.hid hb5
  generalize far w nq osq = w2 at *
  have cc := Lib.cell_of_heap HH5.out.box 7
  have ff := Lib.frozen_of_heap HH5.out.box 7
  clear hb5 q2
  go_wp2
  go_end0
  have hc := HH.out.cap
  have hl := HH.out.len
  have hf := HH.out.fits
  have hrl : 0 < rows.length := List.length_pos_iff.2 HH.out.ne
  have hk := HK.out
  refine ⟨rfl, ⟨o + k, c - k, cur, [lb], HH5.out.setRows (rows' := [lastRow rows]) HH5.out.row HH5.out.ptrs (by omega) (by simp; omega) (by omega) rfl ?_ ?_ (by simp)⟩, (Off.of_below HB5.out).trans (off_setCell _ _ _ _) (fun k _ e => .inl e)⟩
  · intro i lb' hi
    match i, hi with
    | 0, hi =>
      cases hi
      have := HH.out.at_ _ _ HBS.out
      rw [← hk] at this
      exact this
  · intro i lb' xs hi hx
    match i, hi, hx with
    | 0, hi, hx =>
      cases hi
      cases hx
      exact HL5.out

end Go.Proofs.YtjpakldnejpleaaGreat
