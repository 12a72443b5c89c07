/- grangerlaw26.ModelRefuses. -/
import Derived.Test.YtjpakldnejpleaaGreatRefP
import Derived.Deep.DeepCutAuto
import Derived.Deep.CutBlock
namespace Go.Proofs.YtjpakldnejpleaaGreat
open Go.RowKit

theorem blocks_wrap (bl : Int) : wrap64 (64 + wrap64 ((IntKind.u64.wrap bl).tmod 449)) = ((blocksOf bl : Nat) : Int) := by
  have h0 : 0 ≤ IntKind.u64.wrap bl := by show 0 ≤ bl % 18446744073709551616; omega
  rw [Int.tmod_eq_emod_of_nonneg h0]
  unfold blocksOf
  generalize IntKind.u64.wrap bl = u at *
  unfold wrap64
  omega

theorem take_eq_succ {X Y : List It} {j : Nat} (hx : j < X.length) (hy : j < Y.length) : (X.take (j + 1) = Y.take (j + 1)) ↔ (X.take j = Y.take j ∧ X[j] = Y[j]) := by
  rw [List.take_succ_eq_append_getElem hx, List.take_succ_eq_append_getElem hy]
  constructor
  · intro h
    have := List.append_inj h (by simp [List.length_take]; omega)
    exact ⟨this.1, by simpa using this.2⟩
  · rintro ⟨h1, h2⟩
    rw [h1, h2]

/-- Whether two rows are the same up to here. -/
def sameTo (X Y : List It) (j : Nat) : Bool := decide (X.length = Y.length) && decide (X.take j = Y.take j)
theorem sameTo_zero (X Y : List It) : (((X.length : Nat) : Int) == ((Y.length : Nat) : Int)) = sameTo X Y 0 := by
  unfold sameTo
  by_cases h : X.length = Y.length
  · simp [h]
  · rw [beq_eq_false_iff_ne.2 (by omega), decide_eq_false h, Bool.false_and]
theorem sameTo_all (X Y : List It) : sameTo X Y Y.length = decide (X = Y) := by
  unfold sameTo
  by_cases h : X.length = Y.length
  · rw [← h, List.take_length, h, List.take_length]; simp
  · have : X ≠ Y := fun e => h (by rw [e])
    simp [h, this]
theorem sameTo_false {X Y : List It} {j : Nat} (h : sameTo X Y j = false) : decide (X = Y) = false := by
  rw [decide_eq_false_iff_not]
  rintro rfl
  simp [sameTo] at h
theorem sameTo_len {X Y : List It} {j : Nat} (h : sameTo X Y j = true) : X.length = Y.length := by
  unfold sameTo at h
  rw [Bool.and_eq_true] at h
  exact of_decide_eq_true h.1
theorem sameTo_succ {X Y : List It} {j : Nat} (h : sameTo X Y j = true) (hx : j < X.length) (hy : j < Y.length) : decide (X[j] = Y[j]) = sameTo X Y (j + 1) := by
  unfold sameTo at *
  rw [Bool.and_eq_true] at h
  have h1 := of_decide_eq_true h.1
  have h2 := of_decide_eq_true h.2
  rw [decide_eq_true h1, Bool.true_and, Bool.eq_iff_iff, decide_eq_true_eq, decide_eq_true_eq, take_eq_succ hx hy]
  simp [h2]

set_option maxHeartbeats 8000000 in
set_option maxRecDepth 100000 in
theorem law_ModelRefuses (bl : Int) (A : Option Addr) (c : Nat) (os : List Od) (w : World) (hs : SlOd w A c os) (hn : ∀ o ∈ os, o.n < 18446744073709551616) :
    Calls Tryz.prog 4 #[.int .i64 bl, .slice A os.length c] w fun e w' => e = .returned (.bool true) ∧ Below w.heap.size w w' := by
  have hlen := hs.len
  have hcap := hs.cap
  unfold maxLen at hcap
  have HA := Lib.hid (law_awake w)
  by_cases hl : (120 : Int) < (os.length : Int)
  · go_enter Tryz.func4, Tryz.ntmps4
    go_wp2_with fail
    refine HA.out.mono ?_
    rintro e w1 ⟨rfl, hb1⟩
    have HB1 := Lib.hid hb1
    clear hb1
    go_wp2
    go_ret
    exact ⟨rfl, HB1.out⟩
  · go_enter Tryz.func4, Tryz.ntmps4
    go_wp2_with fail
    refine HA.out.mono ?_
    rintro e w1 ⟨rfl, hb1⟩
    have HB1 := Lib.hid hb1
    clear hb1
    go_wp2_with fail
    rw [blocks_wrap]
    have hn1 := blocksOf_lo bl
    have hn2 := blocksOf_hi bl
    generalize blocksOf bl = n at *
    have hbg := fun W => law_begun n hn1 hn2 W
    obtain ⟨p1, p2, p3, p4, p5, hp⟩ : ∃ p1 p2 p3 p4 p5 : Int, planV n = .agg #[.int .i64 n, .int .i64 p1, .int .i64 p2, .int .i64 p3, .int .i64 p4, .int .i64 p5, .int .i64 (planCap n : Int)] := ⟨_, _, _, _, _, rfl⟩
    rw [hp] at hbg
    have HBg := Lib.hid hbg
    have HPC := Lib.hid (planCap_le hn2)
    clear hbg hp hn1
    refine (HBg.out _).mono ?_
    rintro e w2 ⟨b, g, rfl, g1, g2, hM, hB⟩
    have hM2 : MOwn w w2 b n [[]] := ⟨g, Nat.le_trans HB1.out.size g1, Nat.le_trans HB1.out.size g2, hM, HB1.out.trans (hB.mono HB1.out.size)⟩
    obtain ⟨w3, hw3⟩ : ∃ w3, w2.alloc (.cells #[.int .i64 n, .int .i64 p1, .int .i64 p2, .int .i64 p3, .int .i64 p4, .int .i64 p5, .int .i64 (planCap n : Int)] 26) = w3 := ⟨_, rfl⟩
    have HM3 : Hid (MOwn w w3 b n [[]]) := by rw [← hw3]; exact hM2.below (below_alloc1 _ _)
    have HP3 : Hid (w3.heap[w2.heap.size]? = some (.cells #[.int .i64 n, .int .i64 p1, .int .i64 p2, .int .i64 p3, .int .i64 p4, .int .i64 p5, .int .i64 (planCap n : Int)] 26 (0, 0))) := by rw [← hw3]; exact heap_alloc_new _ _
    have HW3 := Lib.hid hw3
    clear HA HBg hM hB hM2 hw3 g1 g2
    go_wp2
    rw [HW3.out]
    generalize w2.heap.size = pb at *
    have HS := Lib.hid hs
    have HN := Lib.hid hn
    clear hs hn
    go_loopw [8] (fun i wr => ∃ (k : Nat) (rows : List (List It)), k ≤ os.length ∧ i = .int .i64 k ∧ RowsOk n rows ∧ rows.length ≤ k + 1 ∧ MOwn w wr b n rows ∧ wr.heap[pb]? = some (.cells #[.int .i64 n, .int .i64 p1, .int .i64 p2, .int .i64 p3, .int .i64 p4, .int .i64 p5, .int .i64 (planCap n : Int)] 26 (0, 0))) (fun i _ => os.length - (intOf i).toNat)
    case atStart => exact ⟨0, [[]], Nat.zero_le _, rfl, rowsOk_begin n, by simp, HM3.out, HP3.out⟩
    case round =>
      obtain ⟨k, rows, hk, rfl, hR, hrl, hM, hP⟩ := hrel
      have HR := Lib.hid hR
      have HM := Lib.hid hM
      have HP := Lib.hid hP
      clear hR hM hP
      by_cases hlt : k < os.length
      · have hkl : (k : Int) < (os.length : Int) := by omega
        have hne : os ≠ [] := by intro h; simp [h] at hlt
        obtain ⟨b0, o0, rfl, hbl, hc⟩ := HS.out.at_ hne
        have HC := Lib.hid (hc k os[k] (List.getElem?_eq_getElem hlt))
        have HNn := Lib.hid (HN.out _ (List.getElem_mem hlt))
        have HBL := Lib.hid hbl
        clear hne hbl hc
        generalize os[k] = o at *
        obtain ⟨kind, ok, ov, on, olo, ohi⟩ := o
        simp only at HC HNn
        have f0 := (HM.out.bel.cell (p := ⟨b0, o0 + k * 6, none⟩) HBL.out).trans HC.out.1
        have f1 := (HM.out.bel.cell (p := ⟨b0, o0 + k * 6 + 1, none⟩) HBL.out).trans HC.out.2.1
        have f2 := (HM.out.bel.cell (p := ⟨b0, o0 + k * 6 + 2, none⟩) HBL.out).trans HC.out.2.2.1
        have f3 := (HM.out.bel.cell (p := ⟨b0, o0 + k * 6 + 3, none⟩) HBL.out).trans HC.out.2.2.2.1
        have f4 := (HM.out.bel.cell (p := ⟨b0, o0 + k * 6 + 4, none⟩) HBL.out).trans HC.out.2.2.2.2.1
        have f5 := (HM.out.bel.cell (p := ⟨b0, o0 + k * 6 + 5, none⟩) HBL.out).trans HC.out.2.2.2.2.2
        have hlo := fun W => law_long ⟨kind, ok, ov, on, olo, ohi⟩ W
        unfold Od.agg at hlo
        cases hlv : longB ⟨kind, ok, ov, on, olo, ohi⟩ with
        | true =>
          rw [hlv] at hlo
          have HLo := Lib.hid hlo
          clear hlo hlv
          go_wp2_with fail
          refine (HLo.out _).mono ?_
          rintro e w4 ⟨rfl, hb4⟩
          have HM4 := Lib.hid (HM.out.below hb4)
          clear hb4
          go_wp2
          go_ret
          exact ⟨rfl, HM4.out.bel⟩
        | false =>
          rw [hlv] at hlo
          have HLo := Lib.hid hlo
          clear hlo hlv
          go_wp2_with fail
          refine (HLo.out _).mono ?_
          rintro e w4 ⟨rfl, hb4⟩
          have HM4 := Lib.hid (HM.out.below hb4)
          have HP4 := Lib.hid ((hb4.block _ (Array.getElem?_eq_some_iff.1 HP.out).1).trans HP.out)
          have HIt := Lib.hid (own_Items w b n rows w4 HM4.out (HR.out.last HPC.out))
          clear hb4 HLo f0 f1 f2 f3 f4 f5
          go_wp2_with fail
          refine HIt.out.mono ?_
          rintro e w5 ⟨⟨A1, c1, rfl, ho5⟩, hM5, hb5⟩
          have HM5 := Lib.hid hM5
          have HO5 := Lib.hid (own_mono ho5 (Nat.le_refl 0 |> fun _ => Nat.zero_le _))
          have HP5 := Lib.hid ((hb5.block _ (Array.getElem?_eq_some_iff.1 HP4.out).1).trans HP4.out)
          have HLt := Lib.hid (own_Late w b n rows w5 hM5)
          clear hM5 ho5 hb5 HIt HM4 HP4
          go_wp2_with fail
          refine HLt.out.mono ?_
          rintro e w6 ⟨rfl, rfl⟩
          have hdo := own_Do w b n rows ⟨kind, ok, ov, on, olo, ohi⟩ w5 HM5.out (HR.out.last HPC.out) (by omega) HNn.out
          have HR' := Lib.hid (modDo_ok HR.out ⟨kind, ok, ov, on, olo, ohi⟩)
          have hln := modDo_len n rows ⟨kind, ok, ov, on, olo, ohi⟩
          have HWy := Lib.hid (modDo_ways n rows ⟨kind, ok, ov, on, olo, ohi⟩)
          generalize modDo n rows ⟨kind, ok, ov, on, olo, ohi⟩ = r at *
          obtain ⟨an, rows'⟩ := r
          obtain ⟨aerr, ahas, aval, ait, asi, asw⟩ := an
          simp only at hdo HR' hln HWy
          unfold Od.agg ansV at hdo
          have HDo := Lib.hid hdo
          have f0 := (HM5.out.bel.cell (p := ⟨b0, o0 + k * 6, none⟩) HBL.out).trans HC.out.1
          have f1 := (HM5.out.bel.cell (p := ⟨b0, o0 + k * 6 + 1, none⟩) HBL.out).trans HC.out.2.1
          have f2 := (HM5.out.bel.cell (p := ⟨b0, o0 + k * 6 + 2, none⟩) HBL.out).trans HC.out.2.2.1
          have f3 := (HM5.out.bel.cell (p := ⟨b0, o0 + k * 6 + 3, none⟩) HBL.out).trans HC.out.2.2.2.1
          have f4 := (HM5.out.bel.cell (p := ⟨b0, o0 + k * 6 + 4, none⟩) HBL.out).trans HC.out.2.2.2.2.1
          have f5 := (HM5.out.bel.cell (p := ⟨b0, o0 + k * 6 + 5, none⟩) HBL.out).trans HC.out.2.2.2.2.2
          clear HLt hdo
          go_wp2_with fail
          refine HDo.out.mono ?_
          rintro e w6 ⟨⟨A2, c2, rfl, _⟩, hM6, hf6⟩
          obtain ⟨w7, hw7⟩ : ∃ w7, w6.alloc (.cells #[.int .i64 aerr, .bool ahas, .string aval, .slice A2 ait.length c2, .int .i64 asi, .int .i64 asw, .int .i64 0, .int .i64 0, .int .i64 0, .int .i64 0, .int .i64 0, .int .i64 0, .int .i64 0] 35) = w7 := ⟨_, rfl⟩
          have hb7 : Below w6.heap.size w6 w7 := by rw [← hw7]; exact below_alloc1 _ _
          have hX7 : w7.heap[w6.heap.size]? = some (.cells #[.int .i64 aerr, .bool ahas, .string aval, .slice A2 ait.length c2, .int .i64 asi, .int .i64 asw, .int .i64 0, .int .i64 0, .int .i64 0, .int .i64 0, .int .i64 0, .int .i64 0, .int .i64 0] 35 (0, 0)) := by rw [← hw7]; exact heap_alloc_new _ _
          have hf7 := hf6.trans (Frm.of_below hb7)
          have HM7 := Lib.hid (hM6.below hb7)
          have HX7 := Lib.hid hX7
          have HO7 := Lib.hid (own_frm HO5.out hf7)
          have HP7 := Lib.hid (hf7.blk HP5.out (by decide) (by decide))
          have HW7 := Lib.hid hw7
          have HIt := Lib.hid (own_Items w b n rows' w7 HM7.out (HR'.out.last HPC.out))
          clear hM6 hf6 hw7 hb7 hX7 hf7 HDo HM5 HO5 HP5 f0 f1 f2 f3 f4 f5
          obtain ⟨X, hX⟩ : ∃ X, X = lastRow rows := ⟨_, rfl⟩
          obtain ⟨Y, hY⟩ : ∃ Y, Y = lastRow rows' := ⟨_, rfl⟩
          rw [← hX] at HO7 ⊢
          rw [← hY] at HIt
          have HX := Lib.hid hX
          have HY := Lib.hid hY
          clear hX hY
          go_wp2_with (first | (rw [HW7.out]) | fail)
          refine HIt.out.mono ?_
          rintro e w8 ⟨⟨A3, c3, rfl, ho8⟩, hM8, hb8⟩
          have HM8 := Lib.hid hM8
          have HX8 := Lib.hid ((hb8.block _ (Array.getElem?_eq_some_iff.1 HX7.out).1).trans HX7.out)
          have HP8 := Lib.hid ((hb8.block _ (Array.getElem?_eq_some_iff.1 HP7.out).1).trans HP7.out)
          have HO8 := Lib.hid (own_frm HO7.out (Frm.of_below hb8))
          have HQ8 := Lib.hid ho8
          clear hM8 ho8 hb8 HIt HM7 HX7 HO7 HP7 HW7
          go_upto_block 2 with fail
          rw [sameTo_zero]
          go_cut [13] (fun s13 wx => s13 = .bool (decide (X = Y)) ∧ Below w8.heap.size w8 wx)
          case first =>
            obtain ⟨A1', c1', e1, hs1⟩ := own_slice HO8.out
            injection e1 with e1 _ e3
            subst e1
            subst e3
            obtain ⟨A3', c3', e1, hs3⟩ := own_slice HQ8.out
            injection e1 with e1 _ e3
            subst e1
            subst e3
            have hl1 := hs1.len
            have hl2 := hs1.cap
            have hl3 := hs3.len
            have hl4 := hs3.cap
            unfold maxLen at hl2 hl4
            go_wp2_with fail
            go_loopw [13, 14] (fun v13 i wr => ∃ (j : Nat) (sb : Bool), j ≤ Y.length ∧ i = .int .i64 j ∧ v13 = .bool sb ∧ sb = sameTo X Y j ∧ Below w8.heap.size w8 wr) (fun _ i _ => Y.length - (intOf i).toNat)
            case atStart => exact ⟨0, _, Nat.zero_le _, rfl, rfl, rfl, Below.refl _ _⟩
            case round =>
              obtain ⟨j, sb, hj, rfl, rfl, hsb, hb⟩ := hrel
              have HSB := Lib.hid hsb
              have HB := Lib.hid hb
              clear hsb hb
              cases sb with
              | false =>
                have HF := Lib.hid (sameTo_false HSB.out.symm)
                by_cases hjl : j < Y.length
                · have hjl' : (j : Int) < (Y.length : Int) := by omega
                  go_wp2
                  go_meet
                  exact ⟨by rw [HF.out], HB.out⟩
                · have hjl' : ¬ (j : Int) < (Y.length : Int) := by omega
                  go_wp2
                  go_meet
                  exact ⟨by rw [HF.out], HB.out⟩
              | true =>
                by_cases hjl : j < Y.length
                · have hxl := sameTo_len HSB.out.symm
                  have hjx : j < X.length := by omega
                  have hjl' : (j : Int) < (Y.length : Int) := by omega
                  have hjx' : (j : Int) < (X.length : Int) := by omega
                  have HE := Lib.hid (sameTo_succ HSB.out.symm hjx hjl)
                  have hnx : X ≠ [] := by intro h; simp [h] at hjx
                  have hny : Y ≠ [] := by intro h; simp [h] at hjl
                  obtain ⟨bx, ox, rfl, hbx, hcx⟩ := hs1.at_ hnx
                  obtain ⟨by', oy, rfl, hby, hcy⟩ := hs3.at_ hny
                  obtain ⟨x1, x2⟩ := hcx j X[j] (List.getElem?_eq_getElem hjx)
                  obtain ⟨y1, y2⟩ := hcy j Y[j] (List.getElem?_eq_getElem hjl)
                  replace x1 := far_cell (HB.out.cell_ x1)
                  replace x2 := far_cell (HB.out.cell_ x2)
                  replace y1 := far_cell (HB.out.cell_ y1)
                  replace y2 := far_cell (HB.out.cell_ y2)
                  have hgi := noGuard_item
                  have heq := eql_item X[j] Y[j]
                  clear hcx hcy hnx hny hxl
                  generalize X[j] = xj at *
                  generalize Y[j] = yj at *
                  go_wp2
                  refine wp_region_quiet_far mixed_ (by kernel_rfl) ?_
                  repeat (go_big_quiet_step ((fail)))
                  refine wpQuiet_nil ?_
                  intro _ hw'
                  obtain ⟨⟨nq, osq⟩, hw''⟩ := hw'
                  subst hw''
                  have hb5 := below_far wr nq osq
                  have HB5 := Lib.hid (HB.out.trans (hb5.mono HB.out.size))
                  clear hb5
                  go_wp2
                  go_roundw
                  case rel => exact ⟨j + 1, _, hjl, by go_num, rfl, HE.out, HB5.out⟩
                  case measure => simp [intOf]; omega
                · have hjl' : ¬ (j : Int) < (Y.length : Int) := by omega
                  obtain rfl : j = Y.length := by omega
                  have HE := Lib.hid (sameTo_all X Y)
                  go_wp2
                  go_meet
                  exact ⟨by rw [HSB.out, HE.out], HB.out⟩
          case rest =>
            obtain ⟨rfl, hb⟩ := hcut
            obtain ⟨A3', c3', e1, hs3⟩ := own_slice HQ8.out
            injection e1 with e1 _ e3
            subst e1
            subst e3
            have HS3 := Lib.hid (hs3.below_ hb)
            have HM9 := Lib.hid (HM8.out.below hb)
            have HX9 := Lib.hid ((hb.block _ (Array.getElem?_eq_some_iff.1 HX8.out).1).trans HX8.out)
            have HP9 := Lib.hid ((hb.block _ (Array.getElem?_eq_some_iff.1 HP8.out).1).trans HP8.out)
            have hro := HR'.out.last HPC.out
            rw [← HY.out] at hro
            have hwt := fun nn os' => own_Weight w b n rows' (far wc nn os') (HM9.out.below (below_far wc nn os'))
            rw [← HY.out] at hwt
            have HWt := Lib.hid hwt
            have HCw := Lib.hid (fun nn os' => capa_Weight A3 c3 Y (far wc nn os') (HS3.out.below_ (below_far wc nn os')) hro.ok (by have := hro.len; omega))
            have hcap' : ¬ ((planCap n : Nat) : Int) < ((wt Y : Nat) : Int) := by
              have := (HR'.out.all _ (lastRow_mem HR'.out.ne)).2.2
              rw [← HY.out] at this
              omega
            have hcapd := decide_eq_false hcap'
            have hcapn : ¬ planCap n < wt Y := by omega
            have hcapnd := decide_eq_false hcapn
            have hne2 : (((wt Y : Nat) : Int) != ((wt Y : Nat) : Int)) = false := by simp
            have x0 := far_cell (show wc.cell? ⟨w6.heap.size, 0, none⟩ = some (.int .i64 aerr) by rw [Lib.cell_of_heap HX9.out]; rfl)
            have pc := far_cell (show wc.cell? ⟨pb, 6, none⟩ = some (.int .i64 (planCap n : Int)) by rw [Lib.cell_of_heap HP9.out]; rfl)
            have f0 := far_cell ((HM9.out.bel.cell (p := ⟨b0, o0 + k * 6, none⟩) HBL.out).trans HC.out.1)
            generalize wt Y = wty at *
            clear hb hs3 hwt hro HM8 HX8 HP8 HO8 HQ8 HS3
            obtain ⟨sb, hsb⟩ : ∃ sb, sb = decide (X = Y) := ⟨_, rfl⟩
            rw [← hsb]
            have HSB := Lib.hid hsb
            clear hsb
            have HLn : Hid (rows'.length ≤ k + 1 + 1) := by unfold Hid; omega
            have hLt := fun nn os' => own_Late w b n rows' (far wc nn os') (HM9.out.below (below_far wc nn os'))
            rcases HWy.out with rfl | ⟨x, rfl, hae, hk4⟩ | ⟨rfl, hae, hk67⟩
            · have e1 : sb = true := by rw [HSB.out, HX.out, HY.out]; simp
              subst e1
              generalize rows'.length - 1 = L at *
              have HLt := Lib.hid hLt
              clear hLt
              by_cases hae : aerr = 0
              · subst hae
                by_cases hk4 : (4 : Int) ≤ kind
                · have hk4d := decide_eq_true hk4
                  go_wp2_with fail
                  refine wp_region_quiet_far mixed_ (by kernel_rfl) ?_
                  repeat (go_big_quiet_step (((first | (go_at_call 15; exact calls_far (HWt.out _ _)) | (go_at_call 16; exact calls_far (HCw.out _ _))))))
                  refine wpQuiet_nil ?_
                  intro _ hw'
                  obtain ⟨⟨nq, osq⟩, hw''⟩ := hw'
                  subst hw''
                  have hb10 := below_far wc nq osq
                  have HM10 := Lib.hid (HM9.out.below hb10)
                  have HP10 := Lib.hid ((hb10.block _ (Array.getElem?_eq_some_iff.1 HP9.out).1).trans HP9.out)
                  have HL10 := Lib.hid (HLt.out nq osq)
                  have f0' := f0 nq osq
                  generalize far wc nq osq = w10 at *
                  clear f0 x0 pc hb10
                  go_wp2_with (first | (go_at_call 11; refine HL10.out.mono ?_; rintro e w' ⟨rfl, rfl⟩) | fail)
                  go_roundw
                  case rel => exact ⟨k + 1, _, hlt, by go_num, HR'.out, HLn.out, HM10.out, HP10.out⟩
                  case measure => simp [intOf]; omega
                · have hk4d := decide_eq_false hk4
                  go_wp2_with fail
                  refine wp_region_quiet_far mixed_ (by kernel_rfl) ?_
                  repeat (go_big_quiet_step (((first | (go_at_call 15; exact calls_far (HWt.out _ _)) | (go_at_call 16; exact calls_far (HCw.out _ _))))))
                  refine wpQuiet_nil ?_
                  intro _ hw'
                  obtain ⟨⟨nq, osq⟩, hw''⟩ := hw'
                  subst hw''
                  have hb10 := below_far wc nq osq
                  have HM10 := Lib.hid (HM9.out.below hb10)
                  have HP10 := Lib.hid ((hb10.block _ (Array.getElem?_eq_some_iff.1 HP9.out).1).trans HP9.out)
                  have HL10 := Lib.hid (HLt.out nq osq)
                  have f0' := f0 nq osq
                  generalize far wc nq osq = w10 at *
                  clear f0 x0 pc hb10
                  go_wp2_with (first | (go_at_call 11; refine HL10.out.mono ?_; rintro e w' ⟨rfl, rfl⟩) | fail)
                  go_roundw
                  case rel => exact ⟨k + 1, _, hlt, by go_num, HR'.out, HLn.out, HM10.out, HP10.out⟩
                  case measure => simp [intOf]; omega
              · have h0 : (((aerr : Nat) : Int) != 0) = true := by rw [bne_iff_ne]; omega
                clear hae
                go_wp2_with fail
                refine wp_region_quiet_far mixed_ (by kernel_rfl) ?_
                repeat (go_big_quiet_step (((first | (go_at_call 15; exact calls_far (HWt.out _ _)) | (go_at_call 16; exact calls_far (HCw.out _ _))))))
                refine wpQuiet_nil ?_
                intro _ hw'
                obtain ⟨⟨nq, osq⟩, hw''⟩ := hw'
                subst hw''
                have hb10 := below_far wc nq osq
                have HM10 := Lib.hid (HM9.out.below hb10)
                have HP10 := Lib.hid ((hb10.block _ (Array.getElem?_eq_some_iff.1 HP9.out).1).trans HP9.out)
                have HL10 := Lib.hid (HLt.out nq osq)
                have f0' := f0 nq osq
                generalize far wc nq osq = w10 at *
                clear f0 x0 pc hb10
                go_wp2_with (first | (go_at_call 11; refine HL10.out.mono ?_; rintro e w' ⟨rfl, rfl⟩) | fail)
                go_roundw
                case rel => exact ⟨k + 1, _, hlt, by go_num, HR'.out, HLn.out, HM10.out, HP10.out⟩
                case measure => simp [intOf]; omega
            · change aerr = 0 at hae
              subst hae
              change kind < 4 at hk4
              have hk4n : ¬ (4 : Int) ≤ kind := by omega
              have hk4d := decide_eq_false hk4n
              have hLe : (((rows ++ [x]).length - 1 : Nat) : Int) = ((rows.length - 1 : Nat) : Int) + 1 := by
                have := List.length_pos_iff.2 HR.out.ne
                simp; omega
              rw [hLe] at hLt
              clear hLe
              have hLb : ((rows.length - 1 : Nat) : Int) ≤ 1000 := by omega
              generalize rows.length - 1 = L at *
              have HLt := Lib.hid hLt
              have hLw : IntKind.i64.wrap ((L : Int) + 1) = (L : Int) + 1 := IntWalk.i64_in _ (by omega)
              have hL1 : ((L : Int) + 1 != (L : Int)) = true := by rw [bne_iff_ne]; omega
              have hL2 : ((L : Int) + 1 != (L : Int) + 1) = false := by simp
              clear hLt
              cases sb with
              | true =>
                go_wp2_with fail
                refine wp_region_quiet_far mixed_ (by kernel_rfl) ?_
                repeat (go_big_quiet_step (((first | (go_at_call 15; exact calls_far (HWt.out _ _)) | (go_at_call 16; exact calls_far (HCw.out _ _))))))
                refine wpQuiet_nil ?_
                intro _ hw'
                obtain ⟨⟨nq, osq⟩, hw''⟩ := hw'
                subst hw''
                have hb10 := below_far wc nq osq
                have HM10 := Lib.hid (HM9.out.below hb10)
                have HP10 := Lib.hid ((hb10.block _ (Array.getElem?_eq_some_iff.1 HP9.out).1).trans HP9.out)
                have HL10 := Lib.hid (HLt.out nq osq)
                have f0' := f0 nq osq
                generalize far wc nq osq = w10 at *
                clear f0 x0 pc hb10
                go_wp2_with (first | (go_at_call 11; refine HL10.out.mono ?_; rintro e w' ⟨rfl, rfl⟩) | fail)
                go_roundw
                case rel => exact ⟨k + 1, _, hlt, by go_num, HR'.out, HLn.out, HM10.out, HP10.out⟩
                case measure => simp [intOf]; omega
              | false =>
                go_wp2_with fail
                refine wp_region_quiet_far mixed_ (by kernel_rfl) ?_
                repeat (go_big_quiet_step (((first | (go_at_call 15; exact calls_far (HWt.out _ _)) | (go_at_call 16; exact calls_far (HCw.out _ _))))))
                refine wpQuiet_nil ?_
                intro _ hw'
                obtain ⟨⟨nq, osq⟩, hw''⟩ := hw'
                subst hw''
                have hb10 := below_far wc nq osq
                have HM10 := Lib.hid (HM9.out.below hb10)
                have HP10 := Lib.hid ((hb10.block _ (Array.getElem?_eq_some_iff.1 HP9.out).1).trans HP9.out)
                have HL10 := Lib.hid (HLt.out nq osq)
                have f0' := f0 nq osq
                generalize far wc nq osq = w10 at *
                clear f0 x0 pc hb10
                go_wp2_with (first | (go_at_call 11; refine HL10.out.mono ?_; rintro e w' ⟨rfl, rfl⟩) | fail)
                go_roundw
                case rel => exact ⟨k + 1, _, hlt, by go_num, HR'.out, HLn.out, HM10.out, HP10.out⟩
                case measure => simp [intOf]; omega
            · change aerr = 0 at hae
              subst hae
              change kind = 6 ∨ kind = 7 at hk67
              have e1 : sb = true := by rw [HSB.out, HX.out, HY.out, lastRow_one]; simp
              subst e1
              have hk4n : (4 : Int) ≤ kind := by omega
              have hk4d := decide_eq_true hk4n
              have hLe : ((([lastRow rows].length - 1 : Nat)) : Int) = 0 := rfl
              rw [hLe] at hLt
              have HLt := Lib.hid hLt
              have hLb : ((rows.length - 1 : Nat) : Int) ≤ 1000 := by omega
              generalize rows.length - 1 = L at *
              have hLw : IntKind.i64.wrap ((L : Int) + 1) = (L : Int) + 1 := IntWalk.i64_in _ (by omega)
              clear hLt hLe
              by_cases hL0 : L = 0
              · subst hL0
                go_wp2_with fail
                refine wp_region_quiet_far mixed_ (by kernel_rfl) ?_
                repeat (go_big_quiet_step (((first | (go_at_call 15; exact calls_far (HWt.out _ _)) | (go_at_call 16; exact calls_far (HCw.out _ _))))))
                refine wpQuiet_nil ?_
                intro _ hw'
                obtain ⟨⟨nq, osq⟩, hw''⟩ := hw'
                subst hw''
                have hb10 := below_far wc nq osq
                have HM10 := Lib.hid (HM9.out.below hb10)
                have HP10 := Lib.hid ((hb10.block _ (Array.getElem?_eq_some_iff.1 HP9.out).1).trans HP9.out)
                have HL10 := Lib.hid (HLt.out nq osq)
                have f0' := f0 nq osq
                generalize far wc nq osq = w10 at *
                clear f0 x0 pc hb10
                go_wp2_with (first | (go_at_call 11; refine HL10.out.mono ?_; rintro e w' ⟨rfl, rfl⟩) | fail)
                go_roundw
                case rel => exact ⟨k + 1, _, hlt, by go_num, HR'.out, HLn.out, HM10.out, HP10.out⟩
                case measure => simp [intOf]; omega
              · have hL1 : ((0 : Int) != (L : Int)) = true := by rw [bne_iff_ne]; omega
                have hL2 : ((0 : Int) != (L : Int) + 1) = true := by rw [bne_iff_ne]; omega
                rcases hk67 with hk6 | hk7
                · have g6 : (kind != 6) = false := by simp [hk6]
                  clear hk6
                  go_wp2_with fail
                  refine wp_region_quiet_far mixed_ (by kernel_rfl) ?_
                  repeat (go_big_quiet_step (((first | (go_at_call 15; exact calls_far (HWt.out _ _)) | (go_at_call 16; exact calls_far (HCw.out _ _))))))
                  refine wpQuiet_nil ?_
                  intro _ hw'
                  obtain ⟨⟨nq, osq⟩, hw''⟩ := hw'
                  subst hw''
                  have hb10 := below_far wc nq osq
                  have HM10 := Lib.hid (HM9.out.below hb10)
                  have HP10 := Lib.hid ((hb10.block _ (Array.getElem?_eq_some_iff.1 HP9.out).1).trans HP9.out)
                  have HL10 := Lib.hid (HLt.out nq osq)
                  have f0' := f0 nq osq
                  generalize far wc nq osq = w10 at *
                  clear f0 x0 pc hb10
                  go_wp2_with (first | (go_at_call 11; refine HL10.out.mono ?_; rintro e w' ⟨rfl, rfl⟩) | fail)
                  go_roundw
                  case rel => exact ⟨k + 1, _, hlt, by go_num, HR'.out, HLn.out, HM10.out, HP10.out⟩
                  case measure => simp [intOf]; omega
                · have g6 : (kind != 6) = true := by simp [hk7]
                  have g7 : (kind != 7) = false := by simp [hk7]
                  clear hk7
                  go_wp2_with fail
                  refine wp_region_quiet_far mixed_ (by kernel_rfl) ?_
                  repeat (go_big_quiet_step (((first | (go_at_call 15; exact calls_far (HWt.out _ _)) | (go_at_call 16; exact calls_far (HCw.out _ _))))))
                  refine wpQuiet_nil ?_
                  intro _ hw'
                  obtain ⟨⟨nq, osq⟩, hw''⟩ := hw'
                  subst hw''
                  have hb10 := below_far wc nq osq
                  have HM10 := Lib.hid (HM9.out.below hb10)
                  have HP10 := Lib.hid ((hb10.block _ (Array.getElem?_eq_some_iff.1 HP9.out).1).trans HP9.out)
                  have HL10 := Lib.hid (HLt.out nq osq)
                  have f0' := f0 nq osq
                  generalize far wc nq osq = w10 at *
                  clear f0 x0 pc hb10
                  go_wp2_with (first | (go_at_call 11; refine HL10.out.mono ?_; rintro e w' ⟨rfl, rfl⟩) | fail)
                  go_roundw
                  case rel => exact ⟨k + 1, _, hlt, by go_num, HR'.out, HLn.out, HM10.out, HP10.out⟩
                  case measure => simp [intOf]; omega
      · have hkl : ¬ (k : Int) < (os.length : Int) := by omega
        go_wp2
        go_ret
        exact ⟨rfl, HM.out.bel⟩

end Go.Proofs.YtjpakldnejpleaaGreat
