/- model.Lost; of nil. -/
import Derived.Test.YtjpakldnejpleaaGreatMdo
namespace Go.Proofs.YtjpakldnejpleaaGreat
open Go.RowKit

/-- Whether these may be left. -/
def lostB (rows : List (List It)) (xs : List It) : Bool := leafErr xs == 0 && rows.any fun r => decide (r = It.srt xs)
def lostRows (rows : List (List It)) (xs : List It) : List (List It) := if lostB rows xs then [It.srt xs] else rows

theorem SlIt.below_ {w w' : World} {A : Option Addr} {c : Nat} {xs : List It} (h : SlIt w A c xs) (hb : Below w.heap.size w w') : SlIt w' A c xs :=
  ⟨h.len, h.cap, fun hn => by
    obtain ⟨bb, o, e, hlt, hc⟩ := h.at_ hn
    exact ⟨bb, o, e, Nat.lt_of_lt_of_le hlt hb.size, fun i x hx => ⟨hb.cell_ (hc i x hx).1, hb.cell_ (hc i x hx).2⟩⟩⟩

set_option maxHeartbeats 4000000 in
set_option maxRecDepth 100000 in
theorem model_Lost_bad (b g n : Nat) (rows : List (List It)) (A : Option Addr) (c : Nat) (xs : List It) (w : World) (h : ModAt w b g n rows) (hs : SlIt w A c xs) (hx : xs.length ≤ 4398046511104) (he : leafErr xs ≠ 0) :
    Calls Tryz.prog 12 #[.pointer (some ⟨b, 0, none⟩), .slice A xs.length c] w fun e w' => e = .returned (.bool false) ∧ ModAt w' b g n rows ∧ Below w.heap.size w w' := by
  have HO := Lib.hid (leaf_Of A c xs w hs hx)
  have HM := Lib.hid h
  have HE := Lib.hid he
  have e1 : (((leafErr xs : Nat) : Int) != 0) = true := by rw [bne_iff_ne]; omega
  clear h hs he
  generalize leafErr xs = er at *
  go_enter Tryz.func12, Tryz.ntmps12
  go_wp2_with fail
  refine HO.out.mono ?_
  rintro e w1 ⟨⟨p, rfl, _, _⟩, hb1⟩
  have HB1 := Lib.hid hb1
  clear hb1 HO
  go_wp2
  go_ret
  exact ⟨rfl, HM.out.below HB1.out, HB1.out⟩

set_option maxHeartbeats 4000000 in
set_option maxRecDepth 100000 in
theorem model_Lost_nil (A : Option Addr) (c : Nat) (xs : List It) (w : World) (hs : SlIt w A c xs) (hx : xs.length ≤ 4398046511104) :
    Calls Tryz.prog 12 #[.pointer none, .slice A xs.length c] w fun e w' => e = .returned (.bool false) ∧ Below w.heap.size w w' := by
  have HO := Lib.hid (leaf_Of A c xs w hs hx)
  clear hs
  generalize leafErr xs = er at *
  go_enter Tryz.func12, Tryz.ntmps12
  go_wp2_with fail
  refine HO.out.mono ?_
  rintro e w1 ⟨⟨p, rfl, _, _⟩, hb1⟩
  have HB1 := Lib.hid hb1
  clear hb1 HO
  go_wp2
  go_ret
  exact ⟨rfl, HB1.out⟩

theorem rows_le_of {w : World} {b g n : Nat} {rows : List (List It)} (h : ModAt w b g n rows) : rows.length ≤ 9223372036854775807 := by
  obtain ⟨o, c, cur, bs, h⟩ := h
  have := h.len; have := h.cap; unfold maxLen at this; omega

set_option maxHeartbeats 4000000 in
set_option maxRecDepth 100000 in
theorem model_Lost_ok (b g n : Nat) (rows : List (List It)) (A : Option Addr) (c : Nat) (xs : List It) (w : World) (h : ModAt w b g n rows) (hs : SlIt w A c xs) (hx : xs.length ≤ 4398046511104) (he : leafErr xs = 0) :
    Calls Tryz.prog 12 #[.pointer (some ⟨b, 0, none⟩), .slice A xs.length c] w fun e w' => e = .returned (.bool (lostB rows xs)) ∧ (∃ g', ModAt w' b g' n (lostRows rows xs) ∧ (g' = g ∨ w.heap.size ≤ g')) ∧ Off (fun k => k = b ∨ k = g) w w' := by
  obtain ⟨r, hr⟩ : ∃ r, r = lostB rows xs := ⟨_, rfl⟩
  obtain ⟨rs, hrs⟩ : ∃ rs, rs = lostRows rows xs := ⟨_, rfl⟩
  rw [← hr, ← hrs]
  unfold lostRows at hrs
  rw [← hr] at hrs
  unfold lostB at hr
  rw [he] at hr
  have hO := leaf_Of A c xs w hs hx
  rw [he] at hO
  generalize It.srt xs = ss at *
  have HO := Lib.hid hO
  have HR := Lib.hid hr
  have HRS := Lib.hid hrs
  clear hr hrs hO hs he
  obtain ⟨o, cp, cur, bs, hM⟩ := h
  have hlen := hM.len
  have hcap := hM.cap
  unfold maxLen at hcap
  have c7 : w.cell? ⟨b, 7, none⟩ = some (.slice (some ⟨g, o, none⟩) rows.length cp) := by rw [Lib.cell_of_heap hM.box]; rfl
  have HM := Lib.hid hM
  have HC7 := Lib.hid c7
  clear hM c7
  go_enter Tryz.func12, Tryz.ntmps12
  go_wp2_with fail
  refine HO.out.mono ?_
  rintro e w1 ⟨⟨p, rfl, hp, _⟩, hb1⟩
  obtain ⟨lb, rfl, _, hL1⟩ := hp (by first | trivial | rfl)
  have HB1 := Lib.hid hb1
  have HL1 := Lib.hid hL1
  have HM1 := Lib.hid (HM.out.below hb1)
  have c7 := hb1.cell_ HC7.out
  clear hb1 hp hL1 HO HC7
  go_wp2
  go_loopw [25] (fun i wr => ∃ k : Nat, k ≤ rows.length ∧ i = .int .i64 k ∧ (∀ j r, j < k → rows[j]? = some r → r ≠ ss) ∧ Below w1.heap.size w1 wr) (fun i _ => rows.length - (intOf i).toNat)
  case atStart => exact ⟨0, Nat.zero_le _, rfl, fun j r hj => absurd hj (Nat.not_lt_zero _), Below.refl _ _⟩
  case round =>
    obtain ⟨k, hk, rfl, hno, hb⟩ := hrel
    have HNO := Lib.hid hno
    have HB := Lib.hid hb
    have HMr := Lib.hid (HM1.out.below hb)
    have HLr := Lib.hid (HL1.out.below hb)
    clear hno hb c7
    by_cases hlt : k < rows.length
    · have hkl : (k : Int) < (rows.length : Int) := by omega
      have hbl : k < bs.length := by rw [HM.out.bsl]; exact hlt
      have hat := HMr.out.at_ k bs[k] (List.getElem?_eq_getElem hbl)
      have hlf := HMr.out.leaf k bs[k] rows[k] (List.getElem?_eq_getElem hbl) (List.getElem?_eq_getElem hlt)
      have q := (Lib.cell_of_heap HMr.out.row (o + k)).trans hat
      have hrk : rows[k]? = some rows[k] := List.getElem?_eq_getElem hlt
      have HRK := Lib.hid hrk
      generalize bs[k] = lk at *
      generalize rows[k] = rk at *
      have HS := leaf_Same lk lb rk ss wr hlf HLr.out
      by_cases hd : rk = ss
      · rw [decide_eq_true hd] at HS
        have HS := Lib.hid HS
        have e1 : r = true := by
          rw [HR.out]
          simp only [beq_self_eq_true, Bool.true_and, List.any_eq_true, decide_eq_true_eq]
          exact ⟨rk, List.mem_of_getElem? HRK.out, hd⟩
        have e2 : rs = [ss] := by rw [HRS.out, if_pos e1]
        subst e1
        subst e2
        clear hrk hat hlf hd
        go_wp2_with fail
        refine HS.out.mono ?_
        rintro e w3 ⟨rfl, hb3⟩
        have hM3 := HMr.out.below hb3
        have hL3 := HLr.out.below hb3
        obtain ⟨w4, hw4⟩ : ∃ w4, w3.alloc (.cells #[.pointer (some ⟨lb, 0, none⟩)] 96) = w4 := ⟨_, rfl⟩
        have hB4 : Below w3.heap.size w3 w4 := by rw [← hw4]; exact below_alloc1 _ _
        have hv4 : w4.heap[w3.heap.size]? = some (.cells #[.pointer (some ⟨lb, 0, none⟩)] 96 (0, 0)) := by rw [← hw4]; exact heap_alloc_new _ _
        have hM4 := hM3.below hB4
        have hL4 := hL3.below hB4
        have hbb := HB1.out.trans ((HB.out.trans ((hb3.trans (hB4.mono hb3.size)).mono HB.out.size)).mono HB1.out.size)
        have HBB := Lib.hid hbb
        have hsz : w.heap.size ≤ w3.heap.size := Nat.le_trans HB1.out.size (Nat.le_trans HB.out.size hb3.size)
        have c7 := Lib.cell_of_heap hM4.box 7
        have f7 := Lib.frozen_of_heap hM4.box 7
        have HM4 := Lib.hid hM4
        have HL4 := Lib.hid hL4
        have HV4 := Lib.hid hv4
        have HW4 := Lib.hid hw4
        clear hb3 hM3 hL3 hw4 hB4 hv4 hM4 hL4 hbb HS q
        go_wp2_with (first | (rw [HW4.out]) | fail)
        go_ret
        refine ⟨rfl, ⟨w3.heap.size, ⟨0, 1, #[.pointer (some ⟨lb, 0, none⟩)], [lb], HM4.out.setRows (rows' := [ss]) HV4.out ?_ (by simp) (by simp) (by unfold maxLen; omega) rfl ?_ ?_ (by simp)⟩, .inr hsz⟩, (Off.of_below HBB.out).trans (off_setCell _ _ _ _) (fun k _ e => .inl e)⟩
        · intro u hu
          simp at hu
          exact ⟨_, hu⟩
        · intro i l hi
          match i, hi with
          | 0, hi => cases hi; rfl
        · intro i l ys hi hy
          match i, hi, hy with
          | 0, hi, hy => cases hi; cases hy; exact HL4.out
      · rw [decide_eq_false hd] at HS
        have HS := Lib.hid HS
        have HD := Lib.hid hd
        clear hrk hat hlf hd
        go_wp2_with fail
        refine HS.out.mono ?_
        rintro e w3 ⟨rfl, hb3⟩
        have HB3 := Lib.hid (HB.out.trans (hb3.mono HB.out.size))
        clear hb3 HS q
        go_wp2
        go_roundw
        case rel =>
          refine ⟨k + 1, hlt, by go_num, fun j r' hj hr' => ?_, HB3.out⟩
          rcases Nat.lt_or_ge j k with h1 | h1
          · exact HNO.out j r' h1 hr'
          · obtain rfl : j = k := by omega
            rw [HRK.out] at hr'
            cases hr'
            exact HD.out
        case measure => simp [intOf]; omega
    · have hkl : ¬ (k : Int) < (rows.length : Int) := by omega
      have e1 : r = false := by
        rw [HR.out]
        simp only [beq_self_eq_true, Bool.true_and]
        rw [List.any_eq_false]
        intro r' hr'
        obtain ⟨j, hj, rfl⟩ := List.mem_iff_getElem.1 hr'
        have := HNO.out j rows[j] (by omega) (List.getElem?_eq_getElem hj)
        simpa using this
      have e2 : rs = rows := by rw [HRS.out, e1]; rfl
      subst e1
      subst e2
      have hbb := HB1.out.trans (HB.out.mono HB1.out.size)
      have HBB := Lib.hid hbb
      clear hbb
      go_wp2
      go_ret
      exact ⟨rfl, ⟨g, ⟨_, _, _, _, HMr.out⟩, .inl rfl⟩, Off.of_below HBB.out⟩

end Go.Proofs.YtjpakldnejpleaaGreat
