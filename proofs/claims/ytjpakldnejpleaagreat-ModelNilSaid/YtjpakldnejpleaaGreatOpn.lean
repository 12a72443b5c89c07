/- Arguments opened: a slice of orders. -/
import Derived.Test.YtjpakldnejpleaaGreatRefP
import Derived.Deep.Slices
import Derived.Deep.Fields
import Derived.ChangeSame
import Derived.ProofKit
import Derived.OpenShut
import Derived.ShutString
import Derived.ChangeOld
import Derived.Below
import Derived.SizedLaws
import Derived.Carry
import Derived.Lib.SmallJoins
namespace Go.Proofs.YtjpakldnejpleaaGreat
open Go.RowKit Go.ChangeShapes Go.WideShapes Go.Deep

theorem laidOut : laidOutB Tryz.prog = true := by kernel_rfl
theorem ownKnob_ : ownKnob Tryz.prog.godebug = none := by kernel_rfl

section
variable {H : Type} {enc : TypeId × Value → H} {P : Program} {w : World} {base : Nat} {spare : Nat → Bool} {held : Bool}
theorem open_slice_fields {t e : TypeId} {fs : Array Field} {fuel : Nat} {cs : List Value} {x : DataW H × List MemPlace} (ht : P.underlying t = some (.slice e)) (he : P.underlying e = some (.struct fs))
    (hone : oneCellFields P fs = true) (hC : P.cellsOf e = fs.size) (h : DataW.trod enc P w base spare held fuel t cs = some x) :
    (cs = [.slice none 0 0] ∧ x = (.nil, [])) ∨
    ∃ (a : Addr) (len cap m : Nat) (D : Nat → DataW H) (Pl : Nat → List MemPlace), cs = [.slice (some a) len cap] ∧ base ≤ a.block ∧ len ≤ cap ∧ cap ≤ maxLen ∧ m = (if spare a.block then cap else len) ∧
      x = (.slice ((List.range len).map D) ((List.range (m - len)).map fun j => D (len + j)), MemPlace.row a (m * fs.size) ++ (List.range m).flatMap Pl) ∧
      ∀ i, i < m → ∃ (ys : List (DataW H × List MemPlace)) (n : Nat), D i = .agg (ys.map (·.1)) ∧ Pl i = ys.flatMap (·.2) ∧ ys.length = fs.size ∧
        ∀ (j : Nat) (f : Field), fs[j]? = some f → ∃ (v : Value) (y : DataW H × List MemPlace), w.cell? (a.add (i * fs.size + j)) = some v ∧ ys[j]? = some y ∧ DataW.trod enc P w base spare held n f.type [v] = some y := by
  rcases open_slice ht h with h0 | ⟨a, len, cap, m, n, D, Pl, hcs, hb, hl, hm, hmm, hx, hi⟩
  · exact .inl h0
  · refine .inr ⟨a, len, cap, m, D, Pl, hcs, hb, hl, hm, hmm, by rw [hC] at hx; exact hx, fun i him => ?_⟩
    obtain ⟨cs', hc, ht'⟩ := hi i him
    rw [hC] at hc
    obtain ⟨ys, n', hn', hy, hlen, hyl, hf⟩ := DataW.trod_struct he ht'
    obtain ⟨_, hcl, hat⟩ := World.cells?_some hc
    simp only [Prod.mk.injEq] at hy
    refine ⟨ys, n', hy.1, hy.2, hyl, fun j f hj => ?_⟩
    obtain ⟨ho, hk⟩ := hone_of hone j f hj
    have hjl : j < fs.size := (Array.getElem?_eq_some_iff.1 hj).1
    have hcell := hat j hjl
    have hv : cs'[j]? = some (cs'[j]'(by omega)) := List.getElem?_eq_getElem (by omega)
    have h1 := hf j f hj
    rw [ho, hk] at h1
    have hone' : (cs'.drop j).take 1 = [cs'[j]'(by omega)] := by
      rw [List.drop_eq_getElem_cons (by omega)]
      rfl
    rw [hone'] at h1
    have hys : ys[j]? = some (ys[j]'(by omega)) := List.getElem?_eq_getElem (by omega)
    refine ⟨_, _, ?_, hys, h1.trans hys⟩
    rw [← Go.Deep.add_add, hcell, hv]
end

theorem choose_list {α : Type} [Inhabited α] {p : Nat → α → Prop} (n : Nat) (h : ∀ i, i < n → ∃ x, p i x) : ∃ xs : List α, xs.length = n ∧ ∀ i x, xs[i]? = some x → p i x := by
  induction n with
  | zero => exact ⟨[], rfl, fun i x hx => by simp at hx⟩
  | succ n ih =>
    obtain ⟨xs, hl, hx⟩ := ih (fun i hi => h i (by omega))
    obtain ⟨y, hy⟩ := h n (Nat.lt_succ_self n)
    refine ⟨xs ++ [y], by simp [hl], fun i x hi => ?_⟩
    rcases Nat.lt_or_ge i n with h1 | h1
    · rw [List.getElem?_append_left (by omega)] at hi
      exact hx i x hi
    · rw [List.getElem?_append_right (by omega)] at hi
      match hk : i - xs.length, hi with
      | 0, hi =>
        cases hi
        have : i = n := by omega
        rw [this]; exact hy

section
variable {H : Type} {enc : TypeId × Value → H} {w : World} {held : Bool}
set_option maxRecDepth 100000 in
/-- A slice of orders that came in. -/
theorem open_orders {v : Value} {d : DataW H} {p : List MemPlace} (hv : Value.okWide Tryz.prog w .any 0 47 v) (h : DataW.Trod enc Tryz.prog w 0 (fun _ => true) held 47 v d p) :
    ∃ A c os, v = .slice A os.length c ∧ SlOd w A c os ∧ ∀ o ∈ os, o.n < 18446744073709551616 := by
  obtain ⟨a, len, cap, rfl⟩ := okWide_slice Tryz.underlying47 hv
  obtain ⟨fuel, hf⟩ := h
  rcases open_slice_fields Tryz.underlying47 Tryz.underlying39 (by kernel_rfl) (by kernel_rfl) hf with ⟨hcs, _⟩ | ⟨x, l, c, m, D, Pl, hcs, _, hl, hm, hmm, hx, hi⟩
  · simp [Value.cells] at hcs
    obtain ⟨rfl, rfl, rfl⟩ := hcs
    exact ⟨none, 0, [], rfl, ⟨Nat.le_refl _, Nat.zero_le _, fun h => absurd rfl h⟩, by simp⟩
  · simp [Value.cells] at hcs
    obtain ⟨rfl, rfl, rfl⟩ := hcs
    simp only [if_true] at hmm
    subst hmm
    have key : ∀ i, i < len → ∃ o : Od, (w.cell? (x.add (i * 6 + 0)) = some (.int .i64 o.kind) ∧ w.cell? (x.add (i * 6 + 1)) = some (.string o.k) ∧ w.cell? (x.add (i * 6 + 2)) = some (.string o.v) ∧ w.cell? (x.add (i * 6 + 3)) = some (.int .u64 o.n) ∧ w.cell? (x.add (i * 6 + 4)) = some (.string o.lo) ∧ w.cell? (x.add (i * 6 + 5)) = some (.string o.hi)) ∧ o.n < 18446744073709551616 := by
      intro i hil
      obtain ⟨ys, n, _, _, _, hf⟩ := hi i (by omega)
      obtain ⟨v0, y0, c0, _, t0⟩ := hf 0 _ rfl
      obtain ⟨v1, y1, c1, _, t1⟩ := hf 1 _ rfl
      obtain ⟨v2, y2, c2, _, t2⟩ := hf 2 _ rfl
      obtain ⟨v3, y3, c3, _, t3⟩ := hf 3 _ rfl
      obtain ⟨v4, y4, c4, _, t4⟩ := hf 4 _ rfl
      obtain ⟨v5, y5, c5, _, t5⟩ := hf 5 _ rfl
      obtain ⟨a0, e0, _, _⟩ := DataW.trod_int Tryz.underlying3 t0
      obtain ⟨a1, e1, _, _⟩ := DataW.trod_string Tryz.underlying9 t1
      obtain ⟨a2, e2, _, _⟩ := DataW.trod_string Tryz.underlying9 t2
      obtain ⟨a3, e3, _, w3⟩ := DataW.trod_int Tryz.underlying37 t3
      obtain ⟨a4, e4, _, _⟩ := DataW.trod_string Tryz.underlying9 t4
      obtain ⟨a5, e5, _, _⟩ := DataW.trod_string Tryz.underlying9 t5
      cases e0; cases e1; cases e2; cases e3; cases e4; cases e5
      have hw : 0 ≤ a3 ∧ a3 < 18446744073709551616 := by
        unfold Lit.wf at w3
        rw [Bool.and_eq_true] at w3
        have g1 : (0 : Int) ≤ a3 := of_decide_eq_true w3.1
        have g2 : a3 ≤ 18446744073709551615 := of_decide_eq_true w3.2
        omega
      obtain ⟨n3, rfl⟩ := Int.eq_ofNat_of_zero_le hw.1
      exact ⟨⟨a0, a1, a2, n3, a4, a5⟩, ⟨c0, c1, c2, c3, c4, c5⟩, by have := hw.2; show n3 < _; omega⟩
    obtain ⟨os, hol, ho⟩ := choose_list len key
    refine ⟨some x, _, os, by rw [hol], ⟨by rw [hol]; exact hl, hm, fun hne => ?_⟩, fun y hy => ?_⟩
    · have hpos : 0 < os.length := List.length_pos_iff.2 hne
      obtain ⟨⟨h0, _⟩, _⟩ := ho 0 os[0] (List.getElem?_eq_getElem hpos)
      have hblk := World.block_lt_of_cell? w _ h0
      obtain ⟨b, o, t⟩ := x
      have ht : t = none := by
        cases t with
        | none => rfl
        | some u =>
          simp only [Nat.zero_mul, Nat.zero_add, Addr.add, if_true, World.cell?] at h0
          split at h0 <;> simp at h0
      subst ht
      refine ⟨b, o, rfl, by simpa [Addr.add] using hblk, fun i y hy => ?_⟩
      obtain ⟨⟨h0, h1, h2, h3, h4, h5⟩, _⟩ := ho i y hy
      rw [addr_add] at h0 h1 h2 h3 h4 h5
      exact ⟨h0, h1, h2, h3, h4, h5⟩
    · obtain ⟨i, hi⟩ := List.mem_iff_getElem?.1 hy
      exact (ho i y hi).2
end

end Go.Proofs.YtjpakldnejpleaaGreat
