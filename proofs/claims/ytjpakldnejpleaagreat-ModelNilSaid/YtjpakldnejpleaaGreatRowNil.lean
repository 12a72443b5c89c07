/- The statement ModelNil is proved: for every plan (seven numbers) and every order the law returns true and leaves its arguments as they were. Conditions: none of its own. -/
import Derived.Test.YtjpakldnejpleaaGreatNil
import Derived.Test.YtjpakldnejpleaaGreatOpn
namespace Go.Proofs.YtjpakldnejpleaaGreat
open Go.ChangeShapes Go.WideShapes Go.ChangeAt Go.RowKit Go.Deep
open Go.ChangeMaps (open_string shut_string)

section
variable {H : Type} {enc : TypeId × Value → H} {P : Program} {w : World} {base : Nat} {spare : Nat → Bool} {held : Bool}
theorem open_agg6 {r : Reach} {b0 : Nat} {t : TypeId} {f0 f1 f2 f3 f4 f5 : Field} {v : Value} {d : DataW H} {p : List MemPlace} (hs : P.underlying t = some (.struct #[f0, f1, f2, f3, f4, f5])) (hone : oneCellFields P #[f0, f1, f2, f3, f4, f5] = true) (hC : P.cellsOf t = 6)
    (hv : Value.okWide P w r b0 t v) (h : DataW.Trod enc P w base spare held t v d p) :
    ∃ (v0 v1 v2 v3 v4 v5 : Value) (y0 y1 y2 y3 y4 y5 : DataW H × List MemPlace) (n : Nat), v = .agg #[v0, v1, v2, v3, v4, v5] ∧ DataW.trod enc P w base spare held n f0.type [v0] = some y0 ∧ DataW.trod enc P w base spare held n f1.type [v1] = some y1 ∧ DataW.trod enc P w base spare held n f2.type [v2] = some y2 ∧ DataW.trod enc P w base spare held n f3.type [v3] = some y3 ∧ DataW.trod enc P w base spare held n f4.type [v4] = some y4 ∧ DataW.trod enc P w base spare held n f5.type [v5] = some y5 := by
  obtain ⟨cs, rfl, hsz⟩ := okWide_struct hs hv
  obtain ⟨l⟩ := cs
  match l, hsz.trans hC with
  | [c0, c1, c2, c3, c4, c5], _ =>
    obtain ⟨fuel, hf⟩ := h
    obtain ⟨xs, n, _, hx, _, hlen, hg⟩ := DataW.trod_struct hs hf
    obtain ⟨o0, k0⟩ := hone_of hone 0 f0 rfl
    obtain ⟨o1, k1⟩ := hone_of hone 1 f1 rfl
    obtain ⟨o2, k2⟩ := hone_of hone 2 f2 rfl
    obtain ⟨o3, k3⟩ := hone_of hone 3 f3 rfl
    obtain ⟨o4, k4⟩ := hone_of hone 4 f4 rfl
    obtain ⟨o5, k5⟩ := hone_of hone 5 f5 rfl
    match xs, hlen with
    | [y0, y1, y2, y3, y4, y5], _ =>
      exact ⟨c0, c1, c2, c3, c4, c5, y0, y1, y2, y3, y4, y5, n, rfl, by simpa [Value.cells, o0, k0] using hg 0 f0 rfl, by simpa [Value.cells, o1, k1] using hg 1 f1 rfl, by simpa [Value.cells, o2, k2] using hg 2 f2 rfl, by simpa [Value.cells, o3, k3] using hg 3 f3 rfl, by simpa [Value.cells, o4, k4] using hg 4 f4 rfl, by simpa [Value.cells, o5, k5] using hg 5 f5 rfl⟩

theorem open_agg7 {r : Reach} {b0 : Nat} {t : TypeId} {f0 f1 f2 f3 f4 f5 f6 : Field} {v : Value} {d : DataW H} {p : List MemPlace} (hs : P.underlying t = some (.struct #[f0, f1, f2, f3, f4, f5, f6])) (hone : oneCellFields P #[f0, f1, f2, f3, f4, f5, f6] = true) (hC : P.cellsOf t = 7)
    (hv : Value.okWide P w r b0 t v) (h : DataW.Trod enc P w base spare held t v d p) :
    ∃ (v0 v1 v2 v3 v4 v5 v6 : Value) (y0 y1 y2 y3 y4 y5 y6 : DataW H × List MemPlace) (n : Nat), v = .agg #[v0, v1, v2, v3, v4, v5, v6] ∧ DataW.trod enc P w base spare held n f0.type [v0] = some y0 ∧ DataW.trod enc P w base spare held n f1.type [v1] = some y1 ∧ DataW.trod enc P w base spare held n f2.type [v2] = some y2 ∧ DataW.trod enc P w base spare held n f3.type [v3] = some y3 ∧ DataW.trod enc P w base spare held n f4.type [v4] = some y4 ∧ DataW.trod enc P w base spare held n f5.type [v5] = some y5 ∧ DataW.trod enc P w base spare held n f6.type [v6] = some y6 := by
  obtain ⟨cs, rfl, hsz⟩ := okWide_struct hs hv
  obtain ⟨l⟩ := cs
  match l, hsz.trans hC with
  | [c0, c1, c2, c3, c4, c5, c6], _ =>
    obtain ⟨fuel, hf⟩ := h
    obtain ⟨xs, n, _, hx, _, hlen, hg⟩ := DataW.trod_struct hs hf
    obtain ⟨o0, k0⟩ := hone_of hone 0 f0 rfl
    obtain ⟨o1, k1⟩ := hone_of hone 1 f1 rfl
    obtain ⟨o2, k2⟩ := hone_of hone 2 f2 rfl
    obtain ⟨o3, k3⟩ := hone_of hone 3 f3 rfl
    obtain ⟨o4, k4⟩ := hone_of hone 4 f4 rfl
    obtain ⟨o5, k5⟩ := hone_of hone 5 f5 rfl
    obtain ⟨o6, k6⟩ := hone_of hone 6 f6 rfl
    match xs, hlen with
    | [y0, y1, y2, y3, y4, y5, y6], _ =>
      exact ⟨c0, c1, c2, c3, c4, c5, c6, y0, y1, y2, y3, y4, y5, y6, n, rfl, by simpa [Value.cells, o0, k0] using hg 0 f0 rfl, by simpa [Value.cells, o1, k1] using hg 1 f1 rfl, by simpa [Value.cells, o2, k2] using hg 2 f2 rfl, by simpa [Value.cells, o3, k3] using hg 3 f3 rfl, by simpa [Value.cells, o4, k4] using hg 4 f4 rfl, by simpa [Value.cells, o5, k5] using hg 5 f5 rfl, by simpa [Value.cells, o6, k6] using hg 6 f6 rfl⟩

end

section
variable {H : Type} {enc : TypeId × Value → H} {w : World} {held : Bool}
set_option maxRecDepth 100000 in
theorem open_plan {v : Value} {d : DataW H} {p : List MemPlace} (hv : Value.okWide Tryz.prog w .any 0 26 v) (h : DataW.Trod enc Tryz.prog w 0 (fun _ => true) held 26 v d p) :
    ∃ a0 a1 a2 a3 a4 a5 a6, v = pl7 a0 a1 a2 a3 a4 a5 a6 := by
  obtain ⟨v0, v1, v2, v3, v4, v5, v6, y0, y1, y2, y3, y4, y5, y6, n, rfl, t0, t1, t2, t3, t4, t5, t6⟩ := open_agg7 Tryz.underlying26 (by kernel_rfl) (by kernel_rfl) hv h
  obtain ⟨a0, e0, _, _⟩ := DataW.trod_int Tryz.underlying3 t0
  obtain ⟨a1, e1, _, _⟩ := DataW.trod_int Tryz.underlying3 t1
  obtain ⟨a2, e2, _, _⟩ := DataW.trod_int Tryz.underlying3 t2
  obtain ⟨a3, e3, _, _⟩ := DataW.trod_int Tryz.underlying3 t3
  obtain ⟨a4, e4, _, _⟩ := DataW.trod_int Tryz.underlying3 t4
  obtain ⟨a5, e5, _, _⟩ := DataW.trod_int Tryz.underlying3 t5
  obtain ⟨a6, e6, _, _⟩ := DataW.trod_int Tryz.underlying3 t6
  cases e0; cases e1; cases e2; cases e3; cases e4; cases e5; cases e6
  exact ⟨a0, a1, a2, a3, a4, a5, a6, rfl⟩

set_option maxRecDepth 100000 in
theorem open_order {v : Value} {d : DataW H} {p : List MemPlace} (hv : Value.okWide Tryz.prog w .any 0 39 v) (h : DataW.Trod enc Tryz.prog w 0 (fun _ => true) held 39 v d p) :
    ∃ o : Od, v = o.agg ∧ o.n < 18446744073709551616 := by
  obtain ⟨v0, v1, v2, v3, v4, v5, y0, y1, y2, y3, y4, y5, n, rfl, t0, t1, t2, t3, t4, t5⟩ := open_agg6 Tryz.underlying39 (by kernel_rfl) (by kernel_rfl) hv h
  obtain ⟨a0, e0, _, _⟩ := DataW.trod_int Tryz.underlying3 t0
  obtain ⟨a1, e1, _, _⟩ := DataW.trod_string Tryz.underlying9 t1
  obtain ⟨a2, e2, _, _⟩ := DataW.trod_string Tryz.underlying9 t2
  obtain ⟨a3, e3, _, w3⟩ := DataW.trod_int Tryz.underlying37 t3
  obtain ⟨a4, e4, _, _⟩ := DataW.trod_string Tryz.underlying9 t4
  obtain ⟨a5, e5, _, _⟩ := DataW.trod_string Tryz.underlying9 t5
  cases e0; cases e1; cases e2; cases e3; cases e4; cases e5
  unfold Lit.wf at w3
  rw [Bool.and_eq_true] at w3
  have g1 : (0 : Int) ≤ a3 := of_decide_eq_true w3.1
  have g2 : a3 ≤ 18446744073709551615 := of_decide_eq_true w3.2
  obtain ⟨n3, rfl⟩ := Int.eq_ofNat_of_zero_le g1
  exact ⟨⟨a0, a1, a2, n3, a4, a5⟩, rfl, by show n3 < _; omega⟩
end

set_option maxRecDepth 100000 in
theorem modelNil_lifted (os : Os) (started : os.Started) (H : Type) (enc : TypeId × Value → H) :
    ReturnsInHanded {} Tryz.checked os 7 .any (Rows.modelNilSpec.pre6 enc Tryz.prog Tryz.f7 Rows.modelNilRow.domain false) (Rows.modelNilSpec.post enc Tryz.prog Tryz.f7 false true false false) := by
  refine returnsInHanded_of_change_sized (C := Tryz.checked) ownKnob_ started (by kernel_rfl) Tryz.func7
    (ChangeSpec.witness6 (enc := enc) (C := Tryz.checked) false ⟨#[], #[.agg #[.int .i64 0, .int .i64 0, .int .i64 0, .int .i64 0, .int .i64 0, .int .i64 0, .int .i64 0], .agg #[.int .i64 0, .string ByteArray.empty, .string ByteArray.empty, .int .u64 0, .string ByteArray.empty, .string ByteArray.empty]], []⟩ 8 (by kernel_rfl) (by kernel_rfl) (by kernel_rfl) (by kernel_rfl)) ?_
  intro W base args ds gs before hval0 hW hcnd hsz0 _
  have hsz : (DataW.weightsEach Tryz.prog (Tryz.f7.params.toList ++ Rows.modelNilSpec.plain.varTypes Tryz.prog) (ds ++ gs)).all (· ≤ reachBytes) = true := hsz0
  have hval : ∀ (j : Nat) t v, Tryz.f7.params[j]? = some t → args[j]? = some v → Value.okWide Tryz.prog W .any base t v := hval0
  have hW' := hW
  obtain ⟨p, q, hA0, hV, rfl, hfz, hnd⟩ := hW
  have hA : DataW.TrodAll enc Tryz.prog W 0 (fun _ => true) true Tryz.f7.params.toList args.toList ds p := hA0
  rw [Tryz.params7] at hA hval hsz
  obtain ⟨v0, vs0, d0, ds0, p0, q0, hargs, rfl, rfl, h0, r0⟩ := trodAll_cons hA
  obtain ⟨v1, vs1, d1, ds1, p1, q1, rfl, rfl, rfl, h1, r1⟩ := trodAll_cons r0
  obtain ⟨rfl, rfl, rfl⟩ := trodAll_nil r1
  obtain rfl : args = #[v0, v1] := by cases args; simp_all
  obtain ⟨rfl, rfl⟩ := trodVars_none hV
  have k0 := h0
  have k1 := h1
  have lt0 : ∀ x ∈ p0, x.block < W.heap.size := by obtain ⟨m, hm⟩ := k0; exact DataW.trod_lt m _ _ _ hm
  have lt1 : ∀ x ∈ p1, x.block < W.heap.size := by obtain ⟨m, hm⟩ := k1; exact DataW.trod_lt m _ _ _ hm
  obtain ⟨a0, a1, a2, a3, a4, a5, a6, rfl⟩ := open_plan (hval 0 26 v0 rfl rfl) h0
  obtain ⟨o, rfl, _⟩ := open_order (hval 1 39 v1 rfl rfl) h1
  clear hA0 hval0 hsz0 hsz
  refine (law_ModelNil a0 a1 a2 a3 a4 a5 a6 o W).mono fun e W' ⟨he, bel⟩ => ?_
  subst he
  exact ⟨_, rfl, _, _, _, [], _, [], hW', trodAll_mk1 (shut_bool Tryz.underlying4 _), (trodAll_cons_mk (Below.trod laidOut (by kernel_rfl) (of_decide_eq_true (by kernel_rfl)) k0 bel lt0) (trodAll_cons_mk (Below.trod laidOut (by kernel_rfl) (of_decide_eq_true (by kernel_rfl)) k1 bel lt1) trodAll_mk0)), rfl, bel.frame _, fun h => by cases h⟩

theorem modelNil_over : Rows.modelNilRow.holds Tryz.pinned (OpenSpec.ofChange Rows.modelNilSpec) :=
  OpenClaim.holds_of_wide 7 Tryz.f7 rfl rfl rfl rfl rfl rfl rfl ⟨rfl, rfl, rfl, rfl, rfl⟩ rfl rfl rfl rfl rfl (by kernel_rfl) Tryz.func7 (by kernel_rfl)
    (of_decide_eq_true (by kernel_rfl)) (by unfold Func.isWrapper; first | (rw [if_pos (by decide +kernel)]; kernel_rfl) | (rw [if_neg (by decide +kernel)]; exact ⟨rfl, rfl⟩))
    (fun os started H enc _ => modelNil_lifted os started H enc)

/-- The row. -/
theorem modelNil_holds : Rows.ModelNilSaid := modelNil_over

#print axioms modelNil_holds

end Go.Proofs.YtjpakldnejpleaaGreat
