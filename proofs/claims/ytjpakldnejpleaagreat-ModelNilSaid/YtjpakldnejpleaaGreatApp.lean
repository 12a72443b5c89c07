/- append of one item to a row of the call's own, for the walk. -/
import Derived.Test.YtjpakldnejpleaaGreatRange
namespace Go.Proofs.YtjpakldnejpleaaGreat
open Go.RowKit

theorem wpList_append_it (w : World) {ops : Array Oper} {rest : List Oper} {o : Oper} {a : Act} {Q : Exit → Act → World → Prop} (hgd : o.guard = none) (s x : Operand)
    (ho : o.op = .call { callee := .builtin .append, args := #[s, x], argTypes := #[29, 29] })
    (base : Nat) (v : Value) (ys : List It) (hs : a.eval s = v) (hown : w.ownsRow base 41 2 v ys.length (It.cells ys)) (vb : Nat) (hx : a.eval x = .slice (some ⟨vb, 0, none⟩) 1 1) (y : It)
    (h0 : w.cell? ⟨vb, 0, none⟩ = some (.string y.k)) (h1 : w.cell? ⟨vb, 1, none⟩ = some (.string y.v)) (hbytes : (ys.length + 1) * 32 ≤ 140737488355328) (hbase : base ≤ w.heap.size)
    (h : ∀ A c w', w'.ownsRow base 41 2 (.slice A (ys.length + 1) c) (ys ++ [y]).length (It.cells (ys ++ [y])) → w.grownBy w' v.ownBlock → wpList Tryz.prog ops Q rest (a.put o.dst (.slice A (ys.length + 1) c)) w') : wpList Tryz.prog ops Q (o :: rest) a w := by
  obtain ⟨i0, hi, hz0, hz1, hz2⟩ := info_parts item_info
  refine wpList_append_own _ hgd s x 29 ho base 41 i0 (.agg #[.string ⟨#[]⟩, .string ⟨#[]⟩]) 2 32 Tryz.underlying29 hi hz0 hz1 hz2 rfl (by decide) v ys.length (It.cells ys) hs hown ⟨vb, 0, none⟩ 1 1 [.string y.k, .string y.v] hx rfl ?_ ?_ ?_ hbytes hbase ?_
  · intro j u hj
    match j, hj with
    | 0, hj => simp at hj; subst hj; exact h0
    | 1, hj => simp at hj; subst hj; exact h1
  · intro u hu; simp at hu; rcases hu with rfl | rfl <;> rfl
  · unfold maxLen; omega
  · intro v' w' hown' hg _
    have hl : (ys ++ [y]).length = ys.length + 1 := by simp
    have hc : It.cells ys ++ [.string y.k, .string y.v] = It.cells (ys ++ [y]) := by rw [It.cells_append]; rfl
    rw [hc, ← hl] at hown'
    obtain ⟨A, c, rfl, _⟩ := own_slice hown'
    rw [hl]
    refine h A c w' ?_ hg
    rw [hl] at hown' ⊢
    exact hown'

theorem own_kept {w w' : World} {B : Nat} {v : Value} {n : Nat} {cs : List Value} (h : w.ownsRow B 41 2 v n cs) (hb : Below w.heap.size w w') : w'.ownsRow B 41 2 v n cs :=
  h.kept (row := none) (below_grown hb) (by cases v.ownBlock with | none => exact .inl rfl | some k => exact .inr (by simp))

set_option maxHeartbeats 2000000 in
set_option maxRecDepth 100000 in
theorem leaf_Within (b : Nat) (xs : List It) (lo hi : ByteArray) (w : World) (h : LeafAt w b xs) (hx : xs.length ≤ 4398046511104) (hok : ∀ x ∈ xs, x.ok = true) :
    Calls Tryz.prog 78 #[.pointer (some ⟨b, 0, none⟩), .agg #[.string lo, .string hi]] w fun e w' => ∃ b', e = .returned (.pointer (some ⟨b', 0, none⟩)) ∧ w.heap.size ≤ b' ∧ LeafAt w' b' (xs.filter fun x => rangeHas lo hi x.k) ∧ Below w.heap.size w w' := by
  obtain ⟨A, c, hb, hs⟩ := h
  have hlen := hs.len
  have hcap := hs.cap
  unfold maxLen at hcap
  have HX := Lib.hid (heap_alloc_new w (.cells #[.string lo, .string hi] 95))
  have hB0 := below_alloc1 w (.cells #[.string lo, .string hi] 95)
  have HB0 := Lib.hid hB0
  have hbl := (Array.getElem?_eq_some_iff.1 hb).1
  have c0 : (w.alloc (.cells #[.string lo, .string hi] 95)).cell? ⟨b, 0, none⟩ = some (.slice A xs.length c) := by rw [Lib.cell_of_heap ((hB0.block b hbl).trans hb)]; rfl
  clear hb hB0
  have HH := Lib.hid (fun k W => key_Has lo hi k W)
  obtain ⟨g, hg⟩ : ∃ g : It → Bool, g = fun x => rangeHas lo hi x.k := ⟨_, rfl⟩
  rw [← hg]
  have HG := Lib.hid (fun x : It => congrFun hg x)
  clear hg
  go_enter Tryz.func78, Tryz.ntmps78
  go_wp2
  go_loopw [5, 15] (fun v i wr => ∃ k : Nat, k ≤ xs.length ∧ i = .int .i64 k ∧ (∃ A' c', v = .slice A' ((xs.take k).filter g).length c') ∧ wr.ownsRow w.heap.size 41 2 v ((xs.take k).filter g).length (It.cells ((xs.take k).filter g)) ∧ wr.heap[w.heap.size]? = some (.cells #[.string lo, .string hi] 95 (0, 0)) ∧ Below w.heap.size w wr) (fun _ i _ => xs.length - (intOf i).toNat)
  case atStart => exact ⟨0, Nat.zero_le _, rfl, ⟨none, 0, rfl⟩, ⟨rfl, .inl ⟨rfl, rfl⟩⟩, HX.out, HB0.out⟩
  case round =>
    obtain ⟨k, hk, rfl, ⟨A', c', rfl⟩, hown, hbx, hb⟩ := hrel
    have HO := Lib.hid hown
    have HBX := Lib.hid hbx
    have HB := Lib.hid hb
    by_cases hlt : k < xs.length
    · have hne : xs ≠ [] := by intro h; simp [h] at hlt
      obtain ⟨bb, o, rfl, hbbl, hc⟩ := hs.at_ hne
      obtain ⟨h1, h2⟩ := hc k xs[k] (List.getElem?_eq_getElem hlt)
      replace h1 := (hb.cell (p := ⟨bb, o + k * 2, none⟩) hbbl).trans h1
      replace h2 := (hb.cell (p := ⟨bb, o + k * 2 + 1, none⟩) hbbl).trans h2
      have hkl : (k : Int) < (xs.length : Int) := by omega
      have hfl : ((xs.take k).filter g).length ≤ k := Nat.le_trans (List.length_filter_le _ _) (by rw [List.length_take]; omega)
      have HF : Hid ((xs.take (k + 1)).filter g = (xs.take k).filter g ++ (if g xs[k] then [xs[k]] else [])) := by
        unfold Hid
        rw [List.take_succ_eq_append_getElem hlt, List.filter_append]
        congr 1
        simp [List.filter_cons]
      clear hb hc hown hbx
      generalize (xs.take k).filter g = ys at *
      generalize xs[k] = x at *
      have hbw := Lib.cell_of_heap HBX.out
      have hxl : w.heap.size < wr.heap.size := (Array.getElem?_eq_some_iff.1 HBX.out).1
      have HBa := Lib.hid (below_alloc1 wr (.cells #[.string x.k, .string x.v] 41))
      have HN := Lib.hid (heap_alloc_new wr (.cells #[.string x.k, .string x.v] 41))
      have hc0 := HBa.out.cell_ (show wr.cell? ⟨w.heap.size, 0, none⟩ = some (.string lo) by rw [hbw]; rfl)
      have hc1 := HBa.out.cell_ (show wr.cell? ⟨w.heap.size, 1, none⟩ = some (.string hi) by rw [hbw]; rfl)
      clear hbw
      have hgx := HH.out x.k
      rw [← HG.out x] at hgx
      have HGX := Lib.hid hgx
      clear hgx HH HG
      cases hgv : g x with
      | false =>
        rw [hgv] at HGX HF
        clear hgv
        go_wp2_with fail
        refine (HGX.out _).mono ?_
        rintro e w2 ⟨rfl, hb2⟩
        have hb3 := HBa.out.trans (hb2.mono HBa.out.size)
        have HBX2 := Lib.hid ((hb3.block _ hxl).trans HBX.out)
        have HO2 := Lib.hid (own_kept HO.out hb3)
        have HB2 := Lib.hid (HB.out.trans (hb3.mono HB.out.size))
        clear hb2 hb3 HGX
        go_wp2
        go_roundw
        case rel => exact ⟨k + 1, hlt, by go_num, ⟨A', c', by rw [HF.out]; simp⟩, by rw [HF.out]; simpa using HO2.out, HBX2.out, HB2.out⟩
        case measure => simp [intOf]; omega
      | true =>
        rw [hgv] at HGX HF
        clear hgv
        go_wp2_with fail
        refine (HGX.out _).mono ?_
        rintro e w2 ⟨rfl, hb2⟩
        have hb3 := HBa.out.trans (hb2.mono HBa.out.size)
        have HBX2 := Lib.hid ((hb3.block _ hxl).trans HBX.out)
        have HO2 := Lib.hid (own_kept HO.out hb3)
        have HB2 := Lib.hid (HB.out.trans (hb3.mono HB.out.size))
        have hn2 := (hb2.block wr.heap.size (by simp)).trans HN.out
        have d0 : w2.cell? ⟨wr.heap.size, 0, none⟩ = some (.string x.k) := by rw [Lib.cell_of_heap hn2]; rfl
        have d1 : w2.cell? ⟨wr.heap.size, 1, none⟩ = some (.string x.v) := by rw [Lib.cell_of_heap hn2]; rfl
        have HB3 := Lib.hid (below_alloc1 w2 (.cells #[.string x.k, .string x.v] 41))
        have HO3 := Lib.hid (own_kept HO2.out HB3.out)
        have hn3 := Lib.cell_of_heap (heap_alloc_new w2 (.cells #[.string x.k, .string x.v] 41))
        have HE0 := Lib.hid (hn3 0)
        have HE1 := Lib.hid (hn3 1)
        have HS := Lib.hid (Nat.le_trans HB2.out.size HB3.out.size)
        clear hb2 hb3 HGX hn2 hn3
        go_wp2_with (at_builtin; refine wpList_append_it _ rfl _ _ rfl w.heap.size _ ys rfl HO3.out w2.heap.size rfl x HE0.out HE1.out (by omega) HS.out ?_)
        intro A2 c2 w4 ho4 hg4
        have hb4 : Below w.heap.size w w4 := (HB2.out.trans (HB3.out.mono HB2.out.size)).grown hg4 HS.out (fun k hk => (HO3.out.lt k hk).1)
        have HBX3 := Lib.hid ((hg4.block _ (Nat.lt_of_lt_of_le (Array.getElem?_eq_some_iff.1 HBX2.out).1 HB3.out.size) (own_other HO3.out ((HB3.out.block _ (Array.getElem?_eq_some_iff.1 HBX2.out).1).trans HBX2.out) (by decide))).trans ((HB3.out.block _ (Array.getElem?_eq_some_iff.1 HBX2.out).1).trans HBX2.out))
        have HO4 := Lib.hid ho4
        have HB4 := Lib.hid hb4
        clear ho4 hg4 hb4 d0 d1
        go_wp2
        go_roundw
        case rel => exact ⟨k + 1, hlt, by go_num, ⟨A2, c2, by rw [HF.out]; simp⟩, by rw [HF.out]; simpa using HO4.out, HBX3.out, HB4.out⟩
        case measure => simp [intOf]; omega
    · have hkl : ¬ (k : Int) < (xs.length : Int) := by omega
      have hte : xs.take k = xs := List.take_of_length_le (by omega)
      rw [hte] at HO
      rw [hte]
      have hfl : (xs.filter g).length ≤ xs.length := List.length_filter_le _ _
      have hs2 : SlIt wr A' c' (xs.filter g) := by
        obtain ⟨A1, c1, e, h1⟩ := own_slice HO.out
        injection e with e1 _ e3
        subst e1; subst e3
        exact h1
      have HMD := Lib.hid (leaf_made A' c' _ _ hs2 (fun x hx => hok x ((List.mem_filter.1 hx).1)) (by omega))
      clear hs2 hte hb hown hbx
      go_wp2_with fail
      refine HMD.out.mono ?_
      rintro e w3 ⟨b3, rfl, hge, hL3, hb3⟩
      have HL3 := Lib.hid hL3
      have HB3 := Lib.hid (HB.out.trans (hb3.mono HB.out.size))
      have hge2 := Nat.le_trans HB.out.size hge
      clear hL3 hb3 HMD
      go_wp2
      go_ret
      exact ⟨b3, rfl, hge2, HL3.out, HB3.out⟩

end Go.Proofs.YtjpakldnejpleaaGreat
