/- grangerlaw26.awake. -/
import Derived.Test.YtjpakldnejpleaaGreatOwn
namespace Go.Proofs.YtjpakldnejpleaaGreat
open Go.RowKit

theorem own_Do_eq (w0 : World) (b n : Nat) (rows : List (List It)) (o : Od) (w : World) (h : MOwn w0 w b n rows) (hk : RowsOk n rows) (hn2 : n ≤ 512) (hrl : rows.length ≤ 1000) (hn : o.n < 18446744073709551616) (an : An) (rows' : List (List It)) (he : modDo n rows o = (an, rows')) :
    Calls Tryz.prog 10 #[.pointer (some ⟨b, 0, none⟩), o.agg] w fun e w' => (∃ A c, e = .returned (ansV an.err an.has an.val (.slice A an.items.length c) an.si an.sw) ∧
      w'.ownsRow w.heap.size 41 2 (.slice A an.items.length c) an.items.length (It.cells an.items)) ∧ MOwn w0 w' b n rows' ∧ RowsOk n rows' ∧ rows'.length ≤ rows.length + 1 ∧ Frm w w' := by
  have h1 := own_Do w0 b n rows o w h (hk.last (planCap_le hn2)) hrl hn
  have h2 := modDo_ok hk o
  have h3 := modDo_len n rows o
  rw [he] at h1 h2 h3
  refine h1.mono ?_
  rintro e w' ⟨h4, h5, h6⟩
  exact ⟨h4, h5, h2, h3, h6⟩

def bA : ByteArray := ⟨#[97]⟩
def bB : ByteArray := ⟨#[98]⟩

theorem do1 : modDo 64 [[]] ⟨1, bA, ⟨#[]⟩, 0, ⟨#[]⟩, ⟨#[]⟩⟩ = (An.no 0, [[], [⟨bA, ⟨#[]⟩⟩]]) := by decide +kernel
theorem do2 : modDo 64 [[], [⟨bA, ⟨#[]⟩⟩]] ⟨6, ⟨#[]⟩, ⟨#[]⟩, 0, ⟨#[]⟩, ⟨#[]⟩⟩ = (An.no 0, [[⟨bA, ⟨#[]⟩⟩]]) := by decide +kernel
theorem do3 : modDo 64 [[⟨bA, ⟨#[]⟩⟩]] ⟨1, bB, ⟨#[]⟩, 0, ⟨#[]⟩, ⟨#[]⟩⟩ = (An.no 0, [[⟨bA, ⟨#[]⟩⟩], [⟨bA, ⟨#[]⟩⟩, ⟨bB, ⟨#[]⟩⟩]]) := by decide +kernel
theorem do4 : modDo 64 [[⟨bA, ⟨#[]⟩⟩], [⟨bA, ⟨#[]⟩⟩, ⟨bB, ⟨#[]⟩⟩]] ⟨4, bB, ⟨#[]⟩, 0, ⟨#[]⟩, ⟨#[]⟩⟩ = (⟨0, true, ⟨#[]⟩, [], 0, 0⟩, [[⟨bA, ⟨#[]⟩⟩], [⟨bA, ⟨#[]⟩⟩, ⟨bB, ⟨#[]⟩⟩]]) := by decide +kernel
theorem wt1 : wt (lastRow [[⟨bA, ⟨#[]⟩⟩], [⟨bA, ⟨#[]⟩⟩, ⟨bB, ⟨#[]⟩⟩]]) = 6 := by decide +kernel
theorem srt_one (x : It) : It.srt [x] = [x] := by simp [It.srt]
theorem lost1 : lostB [[⟨bA, ⟨#[]⟩⟩], [⟨bA, ⟨#[]⟩⟩, ⟨bB, ⟨#[]⟩⟩]] [⟨bB, ⟨#[]⟩⟩] = false := by unfold lostB; rw [srt_one]; decide +kernel
theorem lost2 : lostB [[⟨bA, ⟨#[]⟩⟩], [⟨bA, ⟨#[]⟩⟩, ⟨bB, ⟨#[]⟩⟩]] [⟨bA, ⟨#[]⟩⟩] = true := by unfold lostB; rw [srt_one]; decide +kernel

theorem slIt_one {w : World} {k : Nat} {x : It} (h : w.heap[k]? = some (.cells #[.string x.k, .string x.v] 41 (0, 0))) : SlIt w (some ⟨k, 0, none⟩) 1 [x] :=
  ⟨Nat.le_refl _, by unfold maxLen; omega, fun _ => ⟨k, 0, rfl, (Array.getElem?_eq_some_iff.1 h).1, fun i y hy => by
    match i, hy with
    | 0, hy =>
      cases hy
      have c := Lib.cell_of_heap h
      exact ⟨by rw [c]; rfl, by rw [c]; rfl⟩⟩⟩

set_option maxHeartbeats 8000000 in
set_option maxRecDepth 100000 in
theorem law_awake (w : World) : Calls Tryz.prog 8 #[] w fun e w' => e = .returned (.bool true) ∧ Below w.heap.size w w' := by
  have hb := fun W => law_begun 64 (by omega) (by omega) W
  unfold planV at hb
  have HB := Lib.hid hb
  have hz := fun W => model_New_out 0 0 0 0 0 0 0 (by omega) W
  unfold pl7 at hz
  have HZ := Lib.hid hz
  clear hb hz
  go_enter Tryz.func8, Tryz.ntmps8
  go_wp2_with fail
  refine (HB.out _).mono ?_
  rintro e w1 ⟨b, g, rfl, g1, g2, hM, hB⟩
  have HM1 : Hid (MOwn w w1 b 64 [[]]) := ⟨g, g1, g2, hM, hB⟩
  clear hM hB g1 g2
  go_wp2_with fail
  refine (HZ.out _).mono ?_
  rintro e w2 ⟨rfl, hb2⟩
  have HM2 := Lib.hid (HM1.out.below ((below_alloc1 w1 _).trans (hb2.mono (by simp))))
  have h1 := own_Do_eq w b 64 _ _ w2 HM2.out (rowsOk_begin 64) (by omega) (by simp) (by decide) _ _ do1
  unfold Od.agg ansV An.no bA at h1
  have H1 := Lib.hid h1
  clear hb2 h1 HM1 HB HZ
  go_wp2_with fail
  refine H1.out.mono ?_
  rintro e w3 ⟨⟨A1, c1, rfl, _⟩, hM3, hk3, hl3, _⟩
  have hX3 := heap_alloc_new w3 (.cells #[.int .i64 0, .bool false, .string ⟨#[]⟩, .slice A1 0 c1, .int .i64 0, .int .i64 0, .int .i64 0, .int .i64 0, .int .i64 0, .int .i64 0, .int .i64 0, .int .i64 0, .int .i64 0] 35)
  have h2 := own_Do_eq w b 64 _ ⟨6, ⟨#[]⟩, ⟨#[]⟩, 0, ⟨#[]⟩, ⟨#[]⟩⟩ _ (hM3.below (below_alloc1 w3 (.cells #[.int .i64 0, .bool false, .string ⟨#[]⟩, .slice A1 0 c1, .int .i64 0, .int .i64 0, .int .i64 0, .int .i64 0, .int .i64 0, .int .i64 0, .int .i64 0, .int .i64 0, .int .i64 0] 35))) hk3 (by omega) (by simp) (by decide) _ _ do2
  unfold Od.agg ansV An.no at h2
  have H2 := Lib.hid h2
  have HX3 := Lib.hid hX3
  clear H1 hM3 hk3 hl3 hX3 h2
  go_wp2_with fail
  refine H2.out.mono ?_
  rintro e w4 ⟨⟨A2, c2, rfl, _⟩, hM4, hk4, hl4, hf4⟩
  have HX4 := Lib.hid (hf4.blk HX3.out (by decide) (by decide))
  have h3 := own_Do_eq w b 64 _ ⟨1, bB, ⟨#[]⟩, 0, ⟨#[]⟩, ⟨#[]⟩⟩ _ hM4 hk4 (by omega) (by simp) (by decide) _ _ do3
  unfold Od.agg ansV An.no at h3
  have H3 := Lib.hid h3
  clear H2 hM4 hk4 hl4 hf4 h3
  go_wp2_with fail
  refine H3.out.mono ?_
  rintro e w5 ⟨⟨A3, c3, rfl, _⟩, hM5, hk5, hl5, hf5⟩
  have hX5 := hf5.blk HX4.out (by decide) (by decide)
  have hY5 := heap_alloc_new w5 (.cells #[.int .i64 0, .bool false, .string ⟨#[]⟩, .slice A3 0 c3, .int .i64 0, .int .i64 0, .int .i64 0, .int .i64 0, .int .i64 0, .int .i64 0, .int .i64 0, .int .i64 0, .int .i64 0] 35)
  have hb5 := below_alloc1 w5 (.cells #[.int .i64 0, .bool false, .string ⟨#[]⟩, .slice A3 0 c3, .int .i64 0, .int .i64 0, .int .i64 0, .int .i64 0, .int .i64 0, .int .i64 0, .int .i64 0, .int .i64 0, .int .i64 0] 35)
  have HX5 := Lib.hid ((hb5.block _ (Array.getElem?_eq_some_iff.1 hX5).1).trans hX5)
  have HY5 := Lib.hid hY5
  have h4 := own_Do_eq w b 64 _ ⟨4, bB, ⟨#[]⟩, 0, ⟨#[]⟩, ⟨#[]⟩⟩ _ (hM5.below hb5) hk5 (by omega) (by simp) (by decide) _ _ do4
  unfold Od.agg ansV at h4
  have H4 := Lib.hid h4
  clear H3 hM5 hk5 hl5 hf5 h4 hX5 hY5 hb5
  go_wp2_with fail
  refine H4.out.mono ?_
  rintro e w6 ⟨⟨A4, c4, rfl, _⟩, hM6, hk6, hl6, hf6⟩
  have hX6 := hf6.blk HX5.out (by decide) (by decide)
  have hY6 := hf6.blk HY5.out (by decide) (by decide)
  obtain ⟨w7, hw7⟩ : ∃ w7, w6.alloc (.cells #[.int .i64 0, .bool true, .string ⟨#[]⟩, .slice A4 0 c4, .int .i64 0, .int .i64 0, .int .i64 0, .int .i64 0, .int .i64 0, .int .i64 0, .int .i64 0, .int .i64 0, .int .i64 0] 35) = w7 := ⟨_, rfl⟩
  have hb7 : Below w6.heap.size w6 w7 := by rw [← hw7]; exact below_alloc1 _ _
  have hZ7 : w7.heap[w6.heap.size]? = some (.cells #[.int .i64 0, .bool true, .string ⟨#[]⟩, .slice A4 0 c4, .int .i64 0, .int .i64 0, .int .i64 0, .int .i64 0, .int .i64 0, .int .i64 0, .int .i64 0, .int .i64 0, .int .i64 0] 35 (0, 0)) := by rw [← hw7]; exact heap_alloc_new _ _
  have HX7 := Lib.hid ((hb7.block _ (Array.getElem?_eq_some_iff.1 hX6).1).trans hX6)
  have HY7 := Lib.hid ((hb7.block _ (Array.getElem?_eq_some_iff.1 hY6).1).trans hY6)
  have HM7 := Lib.hid (hM6.below hb7)
  have x0 : w7.cell? ⟨w3.heap.size, 0, none⟩ = some (.int .i64 0) := by rw [Lib.cell_of_heap HX7.out]; rfl
  have y0 : w7.cell? ⟨w5.heap.size, 0, none⟩ = some (.int .i64 0) := by rw [Lib.cell_of_heap HY7.out]; rfl
  have z1 : w7.cell? ⟨w6.heap.size, 1, none⟩ = some (.bool true) := by rw [Lib.cell_of_heap hZ7]; rfl
  have HW7 := Lib.hid hw7
  have HK6 := Lib.hid hk6
  have HL := Lib.hid (own_Late w b 64 _ w7 HM7.out)
  clear H4 hM6 hk6 hl6 hf6 hX6 hY6 hw7 hb7 hZ7
  go_wp2_with (first | (rw [HW7.out]) | fail)
  refine HL.out.mono ?_
  rintro e w8 ⟨rfl, rfl⟩
  have hwt := own_Weight w b 64 _ w7 HM7.out
  rw [wt1] at hwt
  have HWt := Lib.hid hwt
  clear HL hwt
  go_wp2_with fail
  refine HWt.out.mono ?_
  rintro e w8 ⟨rfl, hb8⟩
  have hn8 := heap_alloc_new w8 (.cells #[.string bB, .string ⟨#[]⟩] 41)
  have hlo := own_Lost w b 64 _ _ 1 [⟨bB, ⟨#[]⟩⟩] _ ((HM7.out.below hb8).below (below_alloc1 w8 _)) (slIt_one hn8) (by simp)
  unfold lostRows at hlo
  rw [lost1, if_neg (by decide)] at hlo
  have HLo := Lib.hid hlo
  clear HWt hb8 hn8 hlo HM7
  go_wp2_with fail
  refine HLo.out.mono ?_
  rintro e w9 ⟨rfl, hM9, _⟩
  have hn9 := heap_alloc_new w9 (.cells #[.string bA, .string ⟨#[]⟩] 41)
  have hlo := own_Lost w b 64 _ _ 1 [⟨bA, ⟨#[]⟩⟩] _ (hM9.below (below_alloc1 w9 _)) (slIt_one hn9) (by simp)
  unfold lostRows at hlo
  rw [lost2, if_pos rfl, srt_one] at hlo
  have HLo := Lib.hid hlo
  clear hM9 hn9 hlo
  go_wp2_with fail
  refine HLo.out.mono ?_
  rintro e w10 ⟨rfl, hM10, _⟩
  have HM10 := Lib.hid hM10
  have HL := Lib.hid (own_Late w b 64 _ w10 hM10)
  clear hM10 HLo
  go_wp2_with fail
  refine HL.out.mono ?_
  rintro e w11 ⟨rfl, rfl⟩
  have HIt := Lib.hid (own_Items w b 64 _ w10 HM10.out ⟨by unfold lastRow; exact List.pairwise_singleton _ _, by decide +kernel, by decide +kernel⟩)
  clear HL
  go_wp2_with fail
  refine HIt.out.mono ?_
  rintro e w11 ⟨⟨A5, c5, rfl, _⟩, hM11, _⟩
  have HM11 := Lib.hid hM11
  clear HIt hM11
  go_wp2
  go_ret
  exact ⟨rfl, HM11.out.bel⟩

end Go.Proofs.YtjpakldnejpleaaGreat
