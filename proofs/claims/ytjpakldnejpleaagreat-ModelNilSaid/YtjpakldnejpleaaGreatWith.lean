/- (*leaf.Leaf).With. -/
import Derived.Test.YtjpakldnejpleaaGreatPut
namespace Go.Proofs.YtjpakldnejpleaaGreat
open Go.RowKit

/-- A slice of messages. -/
structure SlMs (w : World) (A : Option Addr) (c : Nat) (ms : List Ms) : Prop where
  len : ms.length ≤ c
  cap : c ≤ maxLen
  at_ : ms ≠ [] → ∃ b o, A = some ⟨b, o, none⟩ ∧ b < w.heap.size ∧ ∀ i m, ms[i]? = some m → w.cell? ⟨b, o + i * 3, none⟩ = some (.int .i64 m.kind) ∧ w.cell? ⟨b, o + i * 3 + 1, none⟩ = some (.string m.k) ∧ w.cell? ⟨b, o + i * 3 + 2, none⟩ = some (.string m.v)

theorem SlMs.below {w w' : World} {A : Option Addr} {c : Nat} {ms : List Ms} (h : SlMs w A c ms) (hb : Below w.heap.size w w') : SlMs w' A c ms :=
  ⟨h.len, h.cap, fun hn => by
    obtain ⟨b, o, e, hlt, hc⟩ := h.at_ hn
    exact ⟨b, o, e, Nat.lt_of_lt_of_le hlt hb.size, fun i m hm => ⟨hb.cell_ (hc i m hm).1, hb.cell_ (hc i m hm).2.1, hb.cell_ (hc i m hm).2.2⟩⟩⟩

theorem own_mono {w : World} {base base' : Nat} {T : TypeId} {k : Nat} {v : Value} {n : Nat} {xs : List Value} (h : w.ownsRow base T k v n xs) (hb : base' ≤ base) : w.ownsRow base' T k v n xs := by
  refine ⟨h.1, ?_⟩
  rcases h.2 with h1 | ⟨g, cap, cur, h1, h2, h3⟩
  · exact .inl h1
  · exact .inr ⟨g, cap, cur, h1, Nat.le_trans hb h2, h3⟩

theorem enters_of_leaf_do : ∀ args w, (callFunc 89 args).run Tryz.prog w = .ok (.enter 89 args) w :=
  enters_of Tryz.func89 (by kernel_rfl) rfl

set_option maxHeartbeats 2000000 in
set_option maxRecDepth 100000 in
theorem leaf_With_bad (b : Nat) (A : Option Addr) (c : Nat) (xs : List It) (ms : List Ms) (w : World) (_h : LeafAt w b xs) (hs : SlMs w A c ms) (hbad : ms.all msgIs = false) :
    Calls Tryz.prog 54 #[.pointer (some ⟨b, 0, none⟩), .slice A ms.length c] w fun e w' => e = .returned (.tuple #[.pointer none, .int .i64 1]) ∧ Below w.heap.size w w' := by
  have hlen := hs.len
  have hcap := hs.cap
  unfold maxLen at hcap
  have HMI := Lib.hid (fun m W => msg_Is m W)
  unfold Ms.agg at HMI
  go_enter Tryz.func54, Tryz.ntmps54
  go_wp2
  go_loopw [16] (fun i wr => ∃ k : Nat, k ≤ ms.length ∧ i = .int .i64 k ∧ (ms.take k).all msgIs = true ∧ Below w.heap.size w wr) (fun i _ => ms.length - (intOf i).toNat)
  case atStart => exact ⟨0, Nat.zero_le _, rfl, rfl, Below.refl _ _⟩
  case round =>
    obtain ⟨k, hk, rfl, hall, hb⟩ := hrel
    have HB := Lib.hid hb
    have HALL := Lib.hid hall
    have HBAD := Lib.hid hbad
    by_cases hlt : k < ms.length
    · have hne : ms ≠ [] := by intro h; simp [h] at hlt
      obtain ⟨bb, o, rfl, hbl, hc⟩ := hs.at_ hne
      obtain ⟨h1, h2, h3⟩ := hc k ms[k] (List.getElem?_eq_getElem hlt)
      replace h1 := (hb.cell (p := ⟨bb, o + k * 3, none⟩) hbl).trans h1
      replace h2 := (hb.cell (p := ⟨bb, o + k * 3 + 1, none⟩) hbl).trans h2
      replace h3 := (hb.cell (p := ⟨bb, o + k * 3 + 2, none⟩) hbl).trans h3
      have HT := Lib.hid (List.take_succ_eq_append_getElem hlt)
      have hkl : (k : Int) < (ms.length : Int) := by omega
      clear hb hc hall hbad
      generalize ms[k] = m at *
      cases hmi : msgIs m with
      | false =>
        have HMF := HMI.out m
        rw [hmi] at HMF
        have HM2 := Lib.hid HMF
        clear HMF HMI hmi
        go_wp2_with fail
        refine (HM2.out _).mono ?_
        rintro e w1 ⟨rfl, hb1⟩
        have HB1 := Lib.hid (HB.out.trans (((below_alloc1 wr _).trans (hb1.mono (by simp))).mono HB.out.size))
        clear hb1
        go_wp2
        go_ret2
        exact ⟨rfl, HB1.out⟩
      | true =>
        have HMF := HMI.out m
        rw [hmi] at HMF
        have HM2 := Lib.hid HMF
        have hmi' := Lib.hid hmi
        clear HMF HMI hmi
        go_wp2_with fail
        refine (HM2.out _).mono ?_
        rintro e w1 ⟨rfl, hb1⟩
        have HB1 := Lib.hid (HB.out.trans (((below_alloc1 wr _).trans (hb1.mono (by simp))).mono HB.out.size))
        clear hb1
        go_wp2
        go_roundw
        case rel => exact ⟨k + 1, hlt, by go_num, by rw [HT.out, List.all_append, HALL.out]; simp [hmi'.out], HB1.out⟩
        case measure => simp [intOf]; omega
    · exfalso
      have : ms.take k = ms := List.take_of_length_le (by omega)
      rw [this, hbad] at hall
      cases hall

set_option maxHeartbeats 2000000 in
set_option maxRecDepth 100000 in
theorem leaf_With_ok (b : Nat) (A : Option Addr) (c : Nat) (xs : List It) (ms : List Ms) (w : World) (h : LeafAt w b xs) (hs : SlMs w A c ms) (hall : ms.all msgIs = true) (hu : It.up xs) (hok : ∀ x ∈ xs, x.ok = true) (hx : xs.length + ms.length < 4398046511104) :
    Calls Tryz.prog 54 #[.pointer (some ⟨b, 0, none⟩), .slice A ms.length c] w fun e w' => ∃ b', e = .returned (.tuple #[.pointer (some ⟨b', 0, none⟩), .int .i64 0]) ∧ w.heap.size ≤ b' ∧ LeafAt w' b' (It.puts xs ms) ∧ Below w.heap.size w w' := by
  have hlen := hs.len
  have hcap := hs.cap
  unfold maxLen at hcap
  have HMI := Lib.hid (fun m W => msg_Is m W)
  unfold Ms.agg at HMI
  have HLA := Lib.hid h
  have HAL := Lib.hid (List.all_eq_true.1 hall)
  clear hall h
  go_enter Tryz.func54, Tryz.ntmps54
  go_wp2
  go_loopw [16] (fun i wr => ∃ k : Nat, k ≤ ms.length ∧ i = .int .i64 k ∧ Below w.heap.size w wr) (fun i _ => ms.length - (intOf i).toNat)
  case atStart => exact ⟨0, Nat.zero_le _, rfl, Below.refl _ _⟩
  case round =>
    obtain ⟨k, hk, rfl, hb⟩ := hrel
    have HB := Lib.hid hb
    by_cases hlt : k < ms.length
    · have hne : ms ≠ [] := by intro h; simp [h] at hlt
      obtain ⟨bb, o, rfl, hbl, hc⟩ := hs.at_ hne
      obtain ⟨h1, h2, h3⟩ := hc k ms[k] (List.getElem?_eq_getElem hlt)
      replace h1 := (hb.cell (p := ⟨bb, o + k * 3, none⟩) hbl).trans h1
      replace h2 := (hb.cell (p := ⟨bb, o + k * 3 + 1, none⟩) hbl).trans h2
      replace h3 := (hb.cell (p := ⟨bb, o + k * 3 + 2, none⟩) hbl).trans h3
      have hkl : (k : Int) < (ms.length : Int) := by omega
      have hmi := HAL.out _ (List.getElem_mem hlt)
      clear hb hc
      generalize ms[k] = m at *
      have HMF := HMI.out m
      rw [hmi] at HMF
      have HM2 := Lib.hid HMF
      clear HMF HMI hmi
      go_wp2_with fail
      refine (HM2.out _).mono ?_
      rintro e w1 ⟨rfl, hb1⟩
      have HB1 := Lib.hid (HB.out.trans (((below_alloc1 wr _).trans (hb1.mono (by simp))).mono HB.out.size))
      clear hb1
      go_wp2
      go_roundw
      case rel => exact ⟨k + 1, hlt, by go_num, HB1.out⟩
      case measure => simp [intOf]; omega
    · have hkl : ¬ (k : Int) < (ms.length : Int) := by omega
      have HI := Lib.hid (leaf_Items b xs wr (HLA.out.below hb) (by omega))
      clear hb
      go_wp2_with fail
      refine HI.out.mono ?_
      rintro e w1 ⟨⟨v, rfl, hown⟩, hb1⟩
      have hbw : Below w.heap.size w w1 := HB.out.trans (hb1.mono HB.out.size)
      have hn := heap_alloc_new w1 (.cells #[v, .int .i64 0] 138)
      have hbn : Below w1.heap.size w1 (w1.alloc (.cells #[v, .int .i64 0] 138)) := below_alloc1 _ _
      have hM : LeafM (w1.alloc (.cells #[v, .int .i64 0] 138)) w1.heap.size w.heap.size v xs := by
        have ho := (own_mono hown HB.out.size).kept (row := none) (below_grown hbn) (by cases v.ownBlock with | none => exact .inl rfl | some k => exact .inr (by simp))
        exact ⟨hbw.size, Nat.le_trans hbw.size hbn.size, hn, ho, own_other ho hn (by decide)⟩
      have HM0 := Lib.hid hM
      have HBW := Lib.hid (hbw.trans (hbn.mono hbw.size))
      obtain ⟨A1, c1, rfl, _⟩ := own_slice hown
      clear hb1 hbw hn hbn hM hown HI
      have hee := enters_of_leaf_do
      go_wp2
      generalize w1.alloc (.cells #[.slice A1 xs.length c1, .int .i64 0] 138) = w2 at *
      generalize w1.heap.size = ob at *
      have hnil : It.puts xs (ms.take 0) = xs := rfl
      go_loopw [32] (fun i wr => ∃ k : Nat, ∃ v', k ≤ ms.length ∧ i = .int .i64 k ∧ LeafM wr ob w.heap.size v' (It.puts xs (ms.take k)) ∧ Below w.heap.size w wr) (fun i _ => ms.length - (intOf i).toNat)
      case atStart => exact ⟨0, _, Nat.zero_le _, rfl, HM0.out, HBW.out⟩
      case round =>
        rename_i wr2
        obtain ⟨k, v', hk, rfl, hMk, hb⟩ := hrel
        have HMk := Lib.hid hMk
        have HB := Lib.hid hb
        by_cases hlt : k < ms.length
        · have hne : ms ≠ [] := by intro h; simp [h] at hlt
          obtain ⟨bb, o, rfl, hbl, hc⟩ := hs.at_ hne
          obtain ⟨h1, h2, h3⟩ := hc k ms[k] (List.getElem?_eq_getElem hlt)
          replace h1 := (hb.cell (p := ⟨bb, o + k * 3, none⟩) hbl).trans h1
          replace h2 := (hb.cell (p := ⟨bb, o + k * 3 + 1, none⟩) hbl).trans h2
          replace h3 := (hb.cell (p := ⟨bb, o + k * 3 + 2, none⟩) hbl).trans h3
          have hkl : (k : Int) < (ms.length : Int) := by omega
          have HT := Lib.hid (puts_take (xs := xs) hlt)
          have hpl := puts_len xs (ms.take k)
          rw [List.length_take, Nat.min_eq_left hk] at hpl
          have HUP := Lib.hid (puts_up hu (ms.take k))
          clear hb hc hMk
          generalize ms[k] = m at *
          generalize It.puts xs (ms.take k) = ys at *
          have hMa := HMk.out.below (below_alloc1 _ (.cells #[.int .i64 m.kind, .string m.k, .string m.v] 88))
          have HD := Lib.hid (leaf_do ob w.heap.size v' ys m _ hMa (by omega) HUP.out)
          have HBa := Lib.hid (HB.out.alloc HB.out.size (.cells #[.int .i64 m.kind, .string m.k, .string m.v] 88))
          clear hMa
          unfold Ms.agg at HD
          go_wp2_with fail
          refine HD.out.mono ?_
          rintro e w3 ⟨v3, rfl, hM3, hb3⟩
          have HM3 := Lib.hid hM3
          have HB3 := Lib.hid (HBa.out.trans hb3)
          clear hM3 hb3 HD
          go_wp2
          go_roundw
          case rel => exact ⟨k + 1, v3, hlt, by go_num, by rw [HT.out]; exact HM3.out, HB3.out⟩
          case measure => simp [intOf]; omega
        · have hkl : ¬ (k : Int) < (ms.length : Int) := by omega
          have hte : ms.take k = ms := List.take_of_length_le (by omega)
          rw [hte] at HMk
          obtain ⟨A2, c2, rfl, hs2⟩ := HMk.out.sl
          have hpl := puts_len xs ms
          have HMD := Lib.hid (leaf_made A2 c2 _ _ hs2 (puts_ok hok (fun m hm => HAL.out m hm)) (by omega))
          have cb := Lib.cell_of_heap HMk.out.box 0
          clear hs2 hte hb hMk
          go_wp2_with fail
          refine HMD.out.mono ?_
          rintro e w3 ⟨b3, rfl, hge, hL3, hb3⟩
          have HL3 := Lib.hid hL3
          have HB3 := Lib.hid (HB.out.trans (hb3.mono HB.out.size))
          have hge2 := Nat.le_trans HB.out.size hge
          clear hL3 hb3 HMD
          go_wp2
          go_ret2
          exact ⟨b3, rfl, hge2, HL3.out, HB3.out⟩

end Go.Proofs.YtjpakldnejpleaaGreat
