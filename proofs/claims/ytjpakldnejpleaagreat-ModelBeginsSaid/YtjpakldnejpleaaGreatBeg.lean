/- grangerlaw26.ModelBegins. -/
import Derived.Test.YtjpakldnejpleaaGreatRowZ
import Derived.Deep.DeepCutAuto
import Derived.Deep.CutBlock
import Derived.Deep.AppendLies
import Derived.Deep.RegionHeld3
import Derived.Deep.Grids
import Derived.Laws.IdiomStrings
import Derived.Deep.DeepMust
namespace Go.Proofs.YtjpakldnejpleaaGreat
open Go.RowKit

/-- A slice of bools. -/
structure SlB (w : World) (A : Option Addr) (c : Nat) (bs : List Bool) : Prop where
  len : bs.length ≤ c
  cap : c ≤ maxLen
  at_ : bs ≠ [] → ∃ b o, A = some ⟨b, o, none⟩ ∧ b < w.heap.size ∧ ∀ i x, bs[i]? = some x → w.cell? ⟨b, o + i, none⟩ = some (.bool x)

/-- How many are meant. -/
def nOf (left : Int) (L : Nat) : Nat := ((IntKind.u64.wrap left) % ((L : Int) + 1)).toNat
theorem nOf_le (left : Int) (L : Nat) : nOf left L ≤ L := by
  unfold nOf
  have h1 := Int.emod_lt_of_pos (IntKind.u64.wrap left) (show (0 : Int) < (L : Int) + 1 by omega)
  omega
theorem nOf_wrap (left : Int) (L : Nat) (hL : L ≤ 60) : wrap64 ((IntKind.u64.wrap left).tmod ((L : Int) + 1)) = ((nOf left L : Nat) : Int) := by
  have h0 : 0 ≤ IntKind.u64.wrap left := by show 0 ≤ left % 18446744073709551616; omega
  rw [Int.tmod_eq_emod_of_nonneg h0]
  unfold nOf
  have h1 := Int.emod_lt_of_pos (IntKind.u64.wrap left) (show (0 : Int) < (L : Int) + 1 by omega)
  have h2 := Int.emod_nonneg (IntKind.u64.wrap left) (show (L : Int) + 1 ≠ 0 by omega)
  unfold wrap64
  omega

def kOf (out : Int) (n : Nat) : Nat := ((IntKind.u64.wrap out) % ((n : Int) - 1)).toNat
theorem kOf_lt (out : Int) (n : Nat) (hn : 1 < n) : kOf out n + 1 < n := by
  unfold kOf
  have h1 := Int.emod_lt_of_pos (IntKind.u64.wrap out) (show (0 : Int) < (n : Int) - 1 by omega)
  have h2 := Int.emod_nonneg (IntKind.u64.wrap out) (show (n : Int) - 1 ≠ 0 by omega)
  omega
theorem kOf_wrap (out : Int) (n : Nat) (hn : 1 < n) (hL : n ≤ 60) : wrap64 ((IntKind.u64.wrap out).tmod ((n : Int) - 1)) = ((kOf out n : Nat) : Int) := by
  have h0 : 0 ≤ IntKind.u64.wrap out := by show 0 ≤ out % 18446744073709551616; omega
  rw [Int.tmod_eq_emod_of_nonneg h0]
  unfold kOf
  have h1 := Int.emod_lt_of_pos (IntKind.u64.wrap out) (show (0 : Int) < (n : Int) - 1 by omega)
  have h2 := Int.emod_nonneg (IntKind.u64.wrap out) (show (n : Int) - 1 ≠ 0 by omega)
  unfold wrap64
  omega

theorem step_append_run {P : Program} {w : World} {ops : Array Oper} {o : Oper} {a : Act} {K : Act → World → Prop} {Q : Exit → Act → World → Prop} {E : Prop} (hgd : o.guard = none) (s x : Operand) (t : TypeId)
    (ho : o.op = .call { callee := .builtin .append, args := #[s, x], argTypes := #[t, t] }) (v xv : Value) (hs : a.eval s = v) (hx : a.eval x = xv) (R : Value → World → Prop)
    (hr : ∃ r W, (Builtin.append_ #[t, t] o.type #[v, xv]).run P w = .ok r W ∧ R r W) (h : ∀ r W, R r W → K (a.put o.dst r) W) :
    if Region.wanted o (yielded ops a.tmps) = true then Oper.wp P o a w K Q else E := by
  have hw : Region.wanted o (yielded ops a.tmps) = true := by simp [Region.wanted, hgd]
  rw [if_pos hw]
  obtain ⟨r, W, hr, hR⟩ := hr
  unfold Oper.wp execOp
  simp only [ho, resolve, invoke, builtin, Sem.run_bind, Sem.run_pure, Result.andThen_ok, List.map_toArray, List.map_cons, List.map_nil, hs, hx, hr]
  exact h r W hR

/-- A part of a row, appended to a row of the call's own. -/
theorem own_append_part {base g cap o k m c : Nat} {zs ys : List It} {W : World} {A : Option Addr} (hz : RowZ W g cap zs) (hown : W.ownsRow base 41 2 (.slice A ys.length k) ys.length (It.cells ys)) (hom : o + m ≤ zs.length) (hb : base ≤ W.heap.size) (hl : ys.length + m ≤ 1000000) (ty : TypeId) :
    ∃ r W', (Builtin.append_ #[29, 29] ty #[.slice A ys.length k, .slice (some ⟨g, o * 2, none⟩) m c]).run Tryz.prog W = .ok r W' ∧ (∃ A' c', r = .slice A' (ys.length + m) c' ∧ W'.ownsRow base 41 2 r (ys ++ (zs.drop o).take m).length (It.cells (ys ++ (zs.drop o).take m))) ∧ W.grownBy W' (Value.slice A ys.length k).ownBlock := by
  obtain ⟨i0, hi, hz0, hz1, hz2⟩ := info_parts item_info
  have hml : ((zs.drop o).take m).length = m := by rw [List.length_take, List.length_drop]; omega
  obtain ⟨r, W', hrun, ho, hg, _⟩ := run_append_own (P := Tryz.prog) W base 29 ty 41 i0 (.agg #[.string ⟨#[]⟩, .string ⟨#[]⟩]) 2 32 Tryz.underlying29 hi hz0 hz1 hz2 rfl (by decide) _ _ _ hown ⟨g, o * 2, none⟩ m c (It.cells ((zs.drop o).take m)) (by rw [It.cells_length, hml])
    (fun j u hj => by
      rw [addr_add, Lib.cell_of_heap hz.blk]
      simp only [List.getElem?_toArray]
      obtain ⟨i, x, hx, hj'⟩ := cells_get_inv _ _ _ hj
      have him : i < m := by
        have := (List.getElem?_eq_some_iff.1 hx).1
        rw [hml] at this
        exact this
      rw [List.getElem?_take_of_lt him, List.getElem?_drop] at hx
      obtain ⟨h1, h2⟩ := cells_get zs (o + i) x hx
      have hil : o + i < zs.length := (List.getElem?_eq_some_iff.1 hx).1
      rcases hj' with ⟨rfl, rfl⟩ | ⟨rfl, rfl⟩
      · rw [show o * 2 + i * 2 = (o + i) * 2 by omega, List.getElem?_append_left (by rw [It.cells_length]; omega)]
        exact h1
      · rw [show o * 2 + (i * 2 + 1) = (o + i) * 2 + 1 by omega, List.getElem?_append_left (by rw [It.cells_length]; omega)]
        exact h2)
    (It.cells_one _) (by unfold maxLen; omega) (by omega) hb
  have hlen : (ys ++ (zs.drop o).take m).length = ys.length + m := by rw [List.length_append, hml]
  rw [← It.cells_append] at ho
  rw [← hlen] at ho
  obtain ⟨A', c', rfl, _⟩ := own_slice ho
  exact ⟨_, W', hrun, ⟨A', c', by rw [hlen], ho⟩, hg⟩

theorem upItems_take {L k : Nat} (h : k ≤ L) : (upItems L).take k = upItems k := by
  unfold upItems
  rw [← List.map_take, List.take_range, Nat.min_eq_left h]
theorem upItems_drop_take {L n k : Nat} (h : n ≤ L) : ((upItems L).drop k).take (n - k) = (upItems n).drop k := by
  rw [← upItems_take h, List.drop_take]

theorem kk_conv (w : World) (j : Nat) (hj : j < 61) : (convert 30 9 (.slice (some ⟨w.heap.size, 0, none⟩) 1 1)).run Tryz.prog (w.alloc (.cells #[.int .u8 ((j : Int) + 1)] 5)) = .ok (.string (kk j)) (w.alloc (.cells #[.int .u8 ((j : Int) + 1)] 5)) := by
  refine run_convert_bytes_back (w.alloc (.cells #[.int .u8 ((j : Int) + 1)] 5)) 30 9 5 ⟨w.heap.size, 0, none⟩ 1 [UInt8.ofNat (j + 1)] Tryz.underlying30 Tryz.underlying5 Tryz.underlying9 ?_
  intro i hi
  have hi0 : i = 0 := by simp at hi; exact hi
  subst hi0
  have h1 : (UInt8.ofNat (j + 1)).toNat = j + 1 := by rw [UInt8.toNat_ofNat']; omega
  show World.cell? _ ((⟨w.heap.size, 0, none⟩ : Addr).add 0) = some (.int .u8 (((UInt8.ofNat (j + 1)).toNat : Nat) : Int))
  rw [addr0, Lib.cell_of_heap (heap_alloc_new w _), h1]
  rfl

/-- What the first append has left. -/
def GapOne (w W : World) (g' c' L k : Nat) (r : Value) : Prop := ∃ A1 c1, r = .slice A1 k c1 ∧ W.ownsRow w.heap.size 41 2 (.slice A1 k c1) k (It.cells ((upItems L).take k)) ∧ Below w.heap.size w W ∧ RowZ W g' c' (upItems L)
/-- What the second one has left. -/
def GapTwo (w W : World) (n k : Nat) (r : Value) : Prop := ∃ A2 c2, r = .slice A2 (n - 1) c2 ∧ W.ownsRow w.heap.size 41 2 (.slice A2 (n - 1) c2) (n - 1) (It.cells (gapItems n k)) ∧ Below w.heap.size w W

set_option maxHeartbeats 8000000 in
set_option maxRecDepth 100000 in
theorem law_ModelBegins (A : Option Addr) (c : Nat) (bs : List Bool) (left out : Int) (w : World) (hs : SlB w A c bs) :
    Calls Tryz.prog 3 #[.slice A bs.length c, .int .i64 left, .int .i64 out] w fun e w' => e = .returned (.bool true) ∧ Below w.heap.size w w' := by
  have hlen := hs.len
  have hcap := hs.cap
  unfold maxLen at hcap
  have HA := Lib.hid (law_awake w)
  by_cases hl : (60 : Int) < (bs.length : Int)
  · go_enter Tryz.func3, Tryz.ntmps3
    go_wp2_with fail
    refine HA.out.mono ?_
    rintro e w1 ⟨rfl, hb1⟩
    have HB1 := Lib.hid hb1
    clear hb1
    go_wp2
    go_ret
    exact ⟨rfl, HB1.out⟩
  · have hbg := fun W => law_begun 64 (by omega) (by omega) W
    unfold planV at hbg
    have HBg := Lib.hid hbg
    clear hbg
    go_enter Tryz.func3, Tryz.ntmps3
    go_wp2_with fail
    refine HA.out.mono ?_
    rintro e w1 ⟨rfl, hb1⟩
    have HB1 := Lib.hid hb1
    clear hb1
    go_wp2_with fail
    refine (HBg.out _).mono ?_
    rintro e w2 ⟨b, g, rfl, g1, g2, hM, hB⟩
    have HM2 : Hid (MOwn w w2 b 64 [[]]) := ⟨g, Nat.le_trans HB1.out.size g1, Nat.le_trans HB1.out.size g2, hM, HB1.out.trans (hB.mono HB1.out.size)⟩
    clear HA HBg hM hB g1 g2
    go_wp2_with fail
    have hrow : RowZ ((w2.alloc (.cells #[.int .i64 64, .int .i64 8, .int .i64 10, .int .i64 54, .int .i64 26, .int .i64 19, .int .i64 (planCap 64 : Int)] 26)).alloc (.cells #[] 41)) (w2.heap.size + 1) 0 (upItems 0) := by
      refine ⟨Nat.le_refl _, by unfold maxLen; omega, ?_⟩
      have := heap_alloc_new (w2.alloc (.cells #[.int .i64 64, .int .i64 8, .int .i64 10, .int .i64 54, .int .i64 26, .int .i64 19, .int .i64 (planCap 64 : Int)] 26)) (.cells #[] 41)
      have h2 := this
      rw [World.size_alloc] at h2
      exact h2
    have hrb : w.heap.size ≤ w2.heap.size + 1 := by have := HM2.out.bel.size; omega
    have hM3 := HM2.out.below ((below_alloc1 w2 (.cells #[.int .i64 64, .int .i64 8, .int .i64 10, .int .i64 54, .int .i64 26, .int .i64 19, .int .i64 (planCap 64 : Int)] 26)).trans ((below_alloc1 _ (.cells #[] 41)).mono (by simp)))
    have HR3 := Lib.hid hrow
    have HM3 := Lib.hid hM3
    generalize w2.heap.size + 1 = rb at *
    generalize (w2.alloc (.cells #[.int .i64 64, .int .i64 8, .int .i64 10, .int .i64 54, .int .i64 26, .int .i64 19, .int .i64 (planCap 64 : Int)] 26)).alloc (.cells #[] 41) = w3 at *
    have HS := Lib.hid hs
    clear hrow hM3 HM2 hs
    go_loopw [9, 10, 11] (fun v9 v10 v11 wr => ∃ (j s g' c' : Nat), j ≤ bs.length ∧ s ≤ j ∧ v9 = .slice (some ⟨g', 0, none⟩) j c' ∧ v10 = .int .i64 s ∧ v11 = .int .i64 j ∧ MOwn w wr b 64 (upRows s j) ∧ RowsOk 64 (upRows s j) ∧ RowZ wr g' c' (upItems j) ∧ w.heap.size ≤ g') (fun _ _ i _ => bs.length - (intOf i).toNat)
    case atStart => exact ⟨0, 0, rb, 0, Nat.zero_le _, Nat.le_refl _, rfl, rfl, rfl, HM3.out, rowsOk_begin 64, HR3.out, hrb⟩
    case round =>
      obtain ⟨j, s, g', c', hj, hsj, rfl, rfl, rfl, hM, hR, hO, hg'⟩ := hrel
      have HM := Lib.hid hM
      have HR := Lib.hid hR
      have HO := Lib.hid hO
      clear hM hR hO
      by_cases hlt : j < bs.length
      · have hkl : (j : Int) < (bs.length : Int) := by omega
        have hne : bs ≠ [] := by intro h; simp [h] at hlt
        obtain ⟨b0, o0, rfl, hbl, hc⟩ := HS.out.at_ hne
        have HC := Lib.hid (hc j bs[j] (List.getElem?_eq_getElem hlt))
        have HBL := Lib.hid hbl
        clear hne hbl hc
        generalize bs[j] = bj at *
        have hcv := kk_conv wr j (by omega)
        have hM4 := HM.out.below (below_alloc1 wr (.cells #[.int .u8 ((j : Int) + 1)] 5))
        have hO4 := HO.out.below (below_alloc1 wr (.cells #[.int .u8 ((j : Int) + 1)] 5))
        have hlr : (upRows s j).length ≤ 1000 := by rw [upRows_len]; omega
        have hdo := own_Do_eq w b 64 _ (putOd j) _ hM4 HR.out (by omega) hlr (by show (0 : Nat) < _; decide) _ _ (modDo_put hsj (by omega))
        unfold Od.agg ansV An.no putOd at hdo
        have HDo := Lib.hid hdo
        have HO4 := Lib.hid hO4
        clear hM4 hO4 hdo hlr
        go_wp2_with fail
        refine HDo.out.mono ?_
        rintro e w5 ⟨⟨A5, c5, rfl, _⟩, hM5, hR5, _, hf5⟩
        have HM5 := Lib.hid (hM5.below (below_alloc1 w5 (.cells #[.string (kk j), .string ⟨#[]⟩] 41)))
        have HR5 := Lib.hid hR5
        have hO5 := (HO4.out.frm hf5).below (below_alloc1 w5 (.cells #[.string (kk j), .string ⟨#[]⟩] 41))
        obtain ⟨g6, c6, w6, hrun, hz6, hw6⟩ := rowZ_append _ 29 g' c' w5.heap.size (upItems j) (kIt j) hO5 (heap_alloc_new w5 (.cells #[.string (kk j), .string ⟨#[]⟩] 41)) (by rw [upItems_len]; omega)
        rw [upItems_len] at hrun
        rw [← upItems_succ] at hz6
        have hM6 : MOwn w w6 b 64 (upRows s (j + 1)) ∧ w.heap.size ≤ g6 := by
          rcases hw6 with ⟨rfl, hb6⟩ | ⟨rfl, ho6, hc6⟩
          · exact ⟨HM5.out.below hb6, HM5.out.bel.size⟩
          · exact ⟨HM5.out.spare HR5.out hO5 (fun x hx => by obtain ⟨i, _, rfl⟩ := mem_upItems hx; rfl) ho6 hc6 hg', hg'⟩
        obtain ⟨hM6, hg6⟩ := hM6
        have HM6 := Lib.hid hM6
        have HZ6 := Lib.hid hz6
        have HRun := Lib.hid hrun
        have hfe := fun W => field_err 0 false ⟨#[]⟩ (.slice A5 0 c5) 0 0 W
        unfold ansV at hfe
        have cb := HM6.out.bel.cell (p := ⟨b0, o0 + j, none⟩) HBL.out |>.trans HC.out
        clear hM5 hR5 hf5 HDo hcv HO4 hO5 hrun hz6 hw6 hM6 HM5 HM HR HO
        cases bj with
        | false =>
          go_wp2_with (at_builtin; refine wpList_append_run rfl _ _ _ rfl _ _ rfl rfl _ _ HRun.out ?_)
          go_roundw
          case rel => exact ⟨j + 1, s, g6, c6, hlt, by omega, rfl, rfl, by go_num, HM6.out, HR5.out, HZ6.out, hg6⟩
          case measure => simp [intOf]; omega
        | true =>
          have hlr : (upRows s (j + 1)).length ≤ 1000 := by rw [upRows_len]; omega
          have hdo := own_Do_eq w b 64 _ syncOd w6 HM6.out HR5.out (by omega) hlr (by decide) _ _ (modDo_sync (by omega))
          unfold Od.agg ansV An.no syncOd at hdo
          have HDo := Lib.hid hdo
          clear hdo hlr
          go_wp2_with (at_builtin; refine wpList_append_run rfl _ _ _ rfl _ _ rfl rfl _ _ HRun.out ?_)
          refine HDo.out.mono ?_
          rintro e w7 ⟨⟨A7, c7, rfl, _⟩, hM7, hR7, _, hf7⟩
          have HM7 := Lib.hid hM7
          have HR7 := Lib.hid hR7
          have HZ7 := Lib.hid (HZ6.out.frm hf7)
          clear hM7 hR7 hf7 HDo HRun
          go_wp2
          go_roundw
          case rel => exact ⟨j + 1, j + 1, g6, c6, hlt, Nat.le_refl _, rfl, by go_num, by go_num, HM7.out, HR7.out, HZ7.out, hg6⟩
          case measure => simp [intOf]; omega
      · have hkl : ¬ (j : Int) < (bs.length : Int) := by omega
        obtain rfl : j = bs.length := by omega
        have hlt := own_Late w b 64 _ wr HM.out
        rw [upRows_len, show bs.length + 1 - s - 1 = bs.length - s by omega] at hlt
        have HLt := Lib.hid hlt
        have hsub : IntKind.i64.wrap ((bs.length : Int) - (s : Int)) = ((bs.length - s : Nat) : Int) := by rw [show (bs.length : Int) - (s : Int) = ((bs.length - s : Nat) : Int) by omega]; exact IntWalk.i64_in _ (by omega)
        have HSub := Lib.hid hsub
        clear hlt hsub
        go_wp2_with fail
        rw [nOf_wrap left bs.length (by omega)]
        have hn := nOf_le left bs.length
        generalize nOf left bs.length = n at *
        refine HLt.out.mono ?_
        rintro e w4 ⟨rfl, rfl⟩
        clear HLt
        have hsub := HSub.out
        have hsi : (s : Int) ≤ (bs.length : Int) := by omega
        go_upto_if 73 with fail
        go_cut [14] (fun _ wx => MOwn w wx b 64 (upRows s bs.length) ∧ RowZ wx g' c' (upItems bs.length))
        case first =>
          by_cases hn1 : (1 : Int) < (n : Int)
          · have hk := kOf_lt out n (by omega)
            have HKw := Lib.hid (kOf_wrap out n (by omega) (by omega))
            go_upto_region 23 with fail
            rw [HKw.out]
            generalize kOf out n = k at *
            clear HKw
            have hc' := HO.out.len
            have hc'' := HO.out.capLe
            rw [upItems_len] at hc'
            unfold maxLen at hc''
            have q1 : (0 : Int) ≤ (k : Int) := by omega
            have q2 : (k : Int) ≤ (c' : Int) := by omega
            have q3 : (k : Int) + 1 ≤ (n : Int) := by omega
            have q4 : (n : Int) ≤ (c' : Int) := by omega
            have q5 : IntKind.i64.wrap ((k : Int) + 1) = (k : Int) + 1 := IntWalk.i64_in _ (by omega)
            have q6 : ¬ c' = k + 1 := by omega
            have q7 : (0 : Int) ≤ (k : Int) + 1 := by omega
            have htk : ((upItems bs.length).take k).length = k := by rw [List.length_take, upItems_len]; omega
            have hr1 : ∀ W ty, Below wr.heap.size wr W → W.heap[wr.heap.size]? = some (.cells #[] 41 (0, 0)) → ∃ r W', (Builtin.append_ #[29, 29] ty #[.slice (some ⟨wr.heap.size, 0, none⟩) 0 0, .slice (some ⟨g', 0, none⟩) k c']).run Tryz.prog W = .ok r W' ∧ GapOne wr W' g' c' bs.length k r := by
              intro W ty hW hX
              have hz := HO.out.below hW
              have hown : W.ownsRow wr.heap.size 41 2 (.slice (some ⟨wr.heap.size, 0, none⟩) ([] : List It).length 0) ([] : List It).length (It.cells []) :=
                ⟨rfl, .inr ⟨wr.heap.size, 0, #[], rfl, Nat.le_refl _, hX, Nat.le_refl _, Nat.zero_le _, rfl, rfl⟩⟩
              obtain ⟨r, W', hrun, ⟨A1, c1, hre, ho⟩, hg⟩ := own_append_part (o := 0) (m := k) (c := c') hz hown (by rw [upItems_len]; omega) hW.size (by simp; omega) ty
              have hb' : Below wr.heap.size wr W' := hW.grown hg hW.size (fun q hq => by simp [Value.ownBlock] at hq; omega)
              refine ⟨r, W', by simpa using hrun, A1, c1, by simpa using hre, ?_, hb', HO.out.below hb'⟩
              rw [hre] at ho
              simp only [List.nil_append, List.drop_zero, List.length_nil, Nat.zero_add, htk] at ho
              exact ho
            have hr2 : ∀ W ty A1 c1, GapOne wr W g' c' bs.length k (.slice A1 k c1) → ∃ r W', (Builtin.append_ #[29, 29] ty #[.slice A1 k c1, .slice (some ⟨g', (k + 1) * 2, none⟩) (n - (k + 1)) (c' - (k + 1))]).run Tryz.prog W = .ok r W' ∧ GapTwo wr W' n k r := by
              intro W ty A1 c1 hW
              obtain ⟨A1', c1', e1, hown, hb1, hz⟩ := hW
              injection e1 with e1 _ e3
              subst e1
              subst e3
              have hown' : W.ownsRow wr.heap.size 41 2 (.slice A1 ((upItems bs.length).take k).length c1) ((upItems bs.length).take k).length (It.cells ((upItems bs.length).take k)) := by rw [htk]; exact hown
              obtain ⟨r, W', hrun, ⟨A2, c2, hre, ho⟩, hg⟩ := own_append_part (o := k + 1) (m := n - (k + 1)) (c := c' - (k + 1)) hz hown' (by rw [upItems_len]; omega) hb1.size (by rw [htk]; omega) ty
              have hb' : Below wr.heap.size wr W' := hb1.grown hg hb1.size (fun q hq => (hown'.lt q hq).1)
              have hgl : (upItems bs.length).take k ++ ((upItems bs.length).drop (k + 1)).take (n - (k + 1)) = gapItems n k := by
                unfold gapItems
                rw [upItems_take (by omega), upItems_take (by omega), upItems_drop_take (by omega)]
              have hgn : (gapItems n k).length = n - 1 := by rw [gap_erase, List.length_eraseIdx_of_lt (by rw [upItems_len]; omega), upItems_len]
              rw [hgl, hgn] at ho
              rw [htk] at hrun hre
              rw [show k + (n - (k + 1)) = n - 1 by omega] at hre
              rw [hre] at ho
              exact ⟨r, W', hrun, A2, c2, hre, ho, hb'⟩
            have HR1 := Lib.hid hr1
            have HR2 := Lib.hid hr2
            clear hr1 hr2 htk
            go_region_held3 (fun _ => True) (exact trivial)
              ((first
                | (refine step_append_run (by rfl) _ _ _ (by rfl) _ _ (by rfl) (by rfl) _ (HR1.out _ _ ((below_alloc1 _ _).drew) (heap_alloc_new _ _)) ?_; rintro r W1 ⟨A1, c1, rfl, hW1⟩)
                | (refine step_append_run (by rfl) _ _ _ (by rfl) _ _ (by rfl) (by rfl) _ (HR2.out _ _ _ _ ⟨A1, c1, rfl, hW1⟩) ?_; rintro r W2 ⟨A2, c2, rfl, hW2⟩)))
            obtain ⟨ho2, hb2⟩ := hW2
            have hgn : (gapItems n k).length = n - 1 := by rw [gap_erase, List.length_eraseIdx_of_lt (by rw [upItems_len]; omega), upItems_len]
            rw [← hgn] at ho2 ⊢
            obtain ⟨A3, c3, e1, hs3⟩ := own_slice ho2
            injection e1 with e1 _ e3
            subst e1
            subst e3
            have hlo := own_Lost w b 64 _ _ _ (gapItems n k) W2 (HM.out.below hb2) hs3 (by rw [hgn]; omega)
            unfold lostRows at hlo
            rw [lost_gap (by omega) hn (by omega), if_neg (by decide)] at hlo
            have HLo := Lib.hid hlo
            have HZ2 := Lib.hid (HO.out.below hb2)
            clear ho2 hb2 hs3 hlo hgn
            go_wp2_with fail
            refine HLo.out.mono ?_
            rintro e w5 ⟨rfl, hM5, hf5⟩
            have HM5 := Lib.hid hM5
            have HZ5 := Lib.hid (HZ2.out.frm hf5)
            clear HLo hM5 hf5
            go_wp2
            go_meet
            exact ⟨HM5.out, HZ5.out⟩
          · go_wp2
            go_meet
            exact ⟨HM.out, HO.out⟩
        case rest =>
          obtain ⟨hM, hZ⟩ := hcut
          have hs3 : SlIt wc (some ⟨g', 0, none⟩) c' (upItems n) := by
            refine ⟨by rw [upItems_len]; have := hZ.len; rw [upItems_len] at this; omega, hZ.capLe, fun _ => ⟨g', 0, rfl, hZ.lt, fun i x hx => ?_⟩⟩
            have hi : i < n := by
              have := (List.getElem?_eq_some_iff.1 hx).1
              rwa [upItems_len] at this
            rw [upItems_get _ _ hi] at hx
            cases hx
            obtain ⟨h1, h2⟩ := cells_get (upItems bs.length) i (kIt i) (upItems_get _ _ (by omega))
            rw [Nat.zero_add, Lib.cell_of_heap hZ.blk, Lib.cell_of_heap hZ.blk]
            simp only [List.getElem?_toArray]
            rw [List.getElem?_append_left (by rw [It.cells_length, upItems_len]; omega), List.getElem?_append_left (by rw [It.cells_length, upItems_len]; omega)]
            exact ⟨h1, h2⟩
          have hc' := hZ.len
          rw [upItems_len] at hc'
          have hlo := own_Lost w b 64 _ _ _ (upItems n) wc hM hs3 (by rw [upItems_len]; omega)
          unfold lostRows at hlo
          rw [lost_up (by omega) hn hsj, srt_up (upItems_up (by omega)), upItems_len] at hlo
          have q1 : (0 : Int) ≤ (n : Int) := by omega
          have q2 : (n : Int) ≤ (c' : Int) := by omega
          clear hM hZ hs3 HM HR HO
          by_cases hsn : s ≤ n
          · have hd := decide_eq_true hsn
            rw [hd, if_pos rfl] at hlo
            have q3 : (s : Int) ≤ (n : Int) := by omega
            have q4 := decide_eq_true q3
            have q5 : ¬ (n : Int) < (s : Int) := by omega
            have q6 := decide_eq_false q5
            have q7 : ¬ n < s := by omega
            have q8 := decide_eq_false q7
            have HLo := Lib.hid hlo
            clear hlo
            go_wp2_with fail
            refine HLo.out.mono ?_
            rintro e w5 ⟨rfl, hM5, hf5⟩
            have HM5 := Lib.hid hM5
            have hlt := own_Late w b 64 _ w5 hM5
            have HLt := Lib.hid hlt
            have hro : RowOk (lastRow [upItems n]) := ⟨upItems_up (by omega), upItems_ok n, by rw [lastRow_one, upItems_len]; omega⟩
            have hit := own_Items w b 64 _ w5 hM5 hro
            rw [lastRow_one, upItems_len] at hit
            have HIt := Lib.hid hit
            clear hM5 hf5 hlt hro hit HLo
            go_wp2_with fail
            refine HLt.out.mono ?_
            rintro e w6 ⟨rfl, rfl⟩
            clear HLt
            go_wp2_with fail
            refine HIt.out.mono ?_
            rintro e w6 ⟨⟨A6, c6, rfl, _⟩, hM6, _⟩
            have HM6 := Lib.hid hM6
            clear hM6 HIt
            go_wp2
            go_ret
            exact ⟨by simp, HM6.out.bel⟩
          · have hd := decide_eq_false hsn
            rw [hd, if_neg (by decide)] at hlo
            have q3 : ¬ (s : Int) ≤ (n : Int) := by omega
            have q4 := decide_eq_false q3
            have q5 : (n : Int) < (s : Int) := by omega
            have q6 := decide_eq_true q5
            have q7 : n < s := by omega
            have q8 := decide_eq_true q7
            have HLo := Lib.hid hlo
            clear hlo
            go_wp2_with fail
            refine HLo.out.mono ?_
            rintro e w5 ⟨rfl, hM5, hf5⟩
            have HM5 := Lib.hid hM5
            clear hM5 hf5 HLo
            go_wp2
            go_ret
            exact ⟨rfl, HM5.out.bel⟩

end Go.Proofs.YtjpakldnejpleaaGreat
