/- Layer 9 (leaf): Of. -/
import Derived.Test.YtjpakldnejpleaaGreatLeaf
namespace Go.Proofs.YtjpakldnejpleaaGreat
open Go.RowKit

/-- Items that rise. -/
def It.up (ys : List It) : Prop := ys.Pairwise fun x y => blt x.k y.k = true
def It.srt (xs : List It) : List It := xs.mergeSort fun a b => !blt b.k a.k

theorem It.srt_perm (xs : List It) : (It.srt xs).Perm xs := List.mergeSort_perm _ _
theorem It.srt_rises (xs : List It) : It.rises (It.srt xs) := by
  unfold It.rises It.srt
  refine (List.pairwise_mergeSort (le := fun a b : It => !blt b.k a.k) ?_ ?_ xs).imp (fun {a b} h => by simpa using h)
  · intro a b c h1 h2
    simp at *
    exact blt_le_trans h1 h2
  · intro a b
    simp
    cases h : blt b.k a.k
    · exact .inl rfl
    · exact .inr (blt_asymm h)

theorem up_of_rises {ys : List It} (h : It.rises ys) (hn : (ys.map It.k).Nodup) : It.up ys := by
  induction ys with
  | nil => exact List.Pairwise.nil
  | cons y ys ih =>
    unfold It.rises It.up at *
    simp only [List.pairwise_cons, List.map_cons, List.nodup_cons, List.mem_map, not_exists, not_and] at *
    refine ⟨fun z hz => ?_, ih h.2 hn.2⟩
    have h1 := h.1 z hz
    have h2 := hn.1 z hz
    cases hb : blt y.k z.k with
    | true => rfl
    | false => exact absurd (blt_total h1 hb) h2

theorem up_nodup {ys : List It} (h : It.up ys) : (ys.map It.k).Nodup := by
  unfold It.up at h
  unfold List.Nodup
  rw [List.pairwise_map]
  refine h.imp ?_
  intro a b hab e
  rw [e, blt_irrefl] at hab
  cases hab

theorem up_unique {xs ys : List It} (h1 : It.up xs) (h2 : It.up ys) (hp : xs.Perm ys) : xs = ys :=
  List.Perm.eq_of_pairwise (fun a b _ _ h h' => by rw [blt_asymm h] at h'; cases h') h1 h2 hp

theorem apart_of_up {ys : List It} (h : It.up ys) : It.apart ys := by
  intro i hi e
  have := List.pairwise_iff_getElem.1 h i (i + 1) (by omega) hi (by omega)
  rw [e, blt_irrefl] at this
  cases this

theorem up_of_apart {ys : List It} (h : It.rises ys) (ha : It.apart ys) : It.up ys := by
  unfold It.up
  rw [List.pairwise_iff_getElem]
  have key : ∀ (d i : Nat) (hd : i + d + 1 < ys.length), blt (ys[i]'(by omega)).k (ys[i + d + 1]'hd).k = true := by
    intro d
    induction d with
    | zero =>
      intro i hd
      have h1 := List.pairwise_iff_getElem.1 h i (i + 1) (by omega) hd (by omega)
      cases hb : blt (ys[i]'(by omega)).k (ys[i + 0 + 1]'hd).k with
      | true => rfl
      | false => exact absurd (blt_total h1 hb) (ha i hd)
    | succ d ih =>
      intro i hd
      have h1 := ih i (by omega)
      have h2 := List.pairwise_iff_getElem.1 h (i + d + 1) (i + (d + 1) + 1) (by omega) hd (by omega)
      cases hb : blt (ys[i]'(by omega)).k (ys[i + (d + 1) + 1]'hd).k with
      | true => rfl
      | false =>
        have := blt_le_trans h2 hb
        rw [h1] at this; cases this
  intro i j hi hj hij
  obtain ⟨d, rfl⟩ : ∃ d, j = i + d + 1 := ⟨j - i - 1, by omega⟩
  exact key d i hj

def leafErr (xs : List It) : Nat := if xs.any (fun x => !x.ok) then 1 else if (xs.map It.k).Nodup then 0 else 11

theorem ok_of_any {xs : List It} (h : xs.any (fun x => !x.ok) = false) : ∀ x ∈ xs, x.ok = true := by
  intro x hx
  have := List.any_eq_false.1 h x hx
  simpa using this

set_option maxHeartbeats 400000 in
theorem sl_CompactFunc_short (A : Option Addr) (n c : Nat) (fv : Value) (w : World) (hn : n < 2) :
    Calls Tryz.prog 84 #[.slice A n c, fv] w fun e w' => e = .returned (.slice A n c) ∧ w = w' := by
  go_enter Tryz.func84, Tryz.ntmps84
  go_wp2
  go_ret
  exact ⟨rfl, rfl⟩

theorem below_to {w w1 w2 : World} (h : Below w.heap.size w w1) (h2 : ∀ B, B ≤ w1.heap.size → Below B w1 w2) : Below w.heap.size w w2 := h.trans (h2 _ h.size)

theorem leaf_len_eq {xs ys : List It} (h : ys.Perm xs) : ys.length = xs.length := h.length_eq

/-- CompactFunc on what the sort has left: as long as it was just if the keys are unlike. -/
theorem sl_CompactFunc_any (v : Value) (ys : List It) (base : Nat) (w : World) (h : w.ownsRow base 41 2 v ys.length (It.cells ys)) (hr : It.rises ys) :
    Calls Tryz.prog 84 #[v, .func (.func 85) #[] #[]] w fun e w' => (∃ (A : Option Addr) (m c : Nat), e = .returned (.slice A m c) ∧ ((ys.map It.k).Nodup → m = ys.length ∧ Below w.heap.size w w') ∧ (¬ (ys.map It.k).Nodup → m < ys.length)) ∧ Below base w w' := by
  by_cases hv : v = .slice none 0 0
  · subst hv
    have hn : ys = [] := by
      rcases h.2 with ⟨_, h0⟩ | ⟨g, cap, cur, e0, _⟩
      · exact List.eq_nil_of_length_eq_zero h0
      · cases e0
    subst hn
    refine (sl_CompactFunc_short none 0 0 _ w (by omega)).mono ?_
    rintro e w' ⟨rfl, rfl⟩
    exact ⟨⟨_, _, _, rfl, fun _ => ⟨rfl, Below.refl _ _⟩, fun h => by simp at h⟩, Below.refl _ _⟩
  · obtain ⟨g, cap, rfl, hb, R⟩ := RowI.of_own h hv
    by_cases ha : It.apart ys
    · have hnd := up_nodup (up_of_apart hr ha)
      refine (sl_CompactFunc_apart g cap ys w R ha).mono ?_
      rintro e w' ⟨rfl, hbw⟩
      exact ⟨⟨_, _, _, rfl, fun _ => ⟨rfl, hbw⟩, fun h => absurd hnd h⟩, hbw.mono (by have := R.lt; omega)⟩
    · obtain ⟨i, hi, he⟩ := not_apart ha
      have hnd : ¬ (ys.map It.k).Nodup := fun h => ha (apart_of_up (up_of_rises hr h))
      refine (sl_CompactFunc_twin g cap ys w R i hi he).mono ?_
      rintro e w' ⟨⟨A, m, c, rfl, hm⟩, hbw⟩
      exact ⟨⟨_, _, _, rfl, fun h => absurd h hnd, fun _ => hm⟩, hbw base hb⟩

theorem own_slice {w : World} {base : Nat} {v : Value} {ys : List It} (h : w.ownsRow base 41 2 v ys.length (It.cells ys)) : ∃ A c, v = .slice A ys.length c ∧ SlIt w A c ys := by
  by_cases hv : v = .slice none 0 0
  · have hn : ys = [] := by
      rcases h.2 with ⟨_, h0⟩ | ⟨g, cap, cur, e0, _⟩
      · exact List.eq_nil_of_length_eq_zero h0
      · exact absurd hv (by rw [e0]; simp)
    subst hn
    exact ⟨none, 0, hv, by simp, by unfold maxLen; omega, fun h => absurd rfl h⟩
  · obtain ⟨g, cap, rfl, hb, R⟩ := RowI.of_own h hv
    exact ⟨_, _, rfl, R.slIt⟩

set_option maxHeartbeats 2000000 in
theorem leaf_Of (A : Option Addr) (c : Nat) (xs : List It) (w : World) (hs : SlIt w A c xs) (hx : xs.length ≤ 4398046511104) :
    Calls Tryz.prog 48 #[.slice A xs.length c] w fun e w' => (∃ p, e = .returned (.tuple #[p, .int .i64 (leafErr xs)]) ∧ (leafErr xs = 0 → ∃ b, p = .pointer (some ⟨b, 0, none⟩) ∧ w.heap.size ≤ b ∧ LeafAt w' b (It.srt xs)) ∧ (leafErr xs ≠ 0 → p = .pointer none)) ∧ Below w.heap.size w w' := by
  have hlen := hs.len
  have hcap := hs.cap
  unfold maxLen at hcap
  have H1 := sl_ContainsFunc_it 80 #[] (fun x => !x.ok) A c xs w hs enters_of_isBad (fun W x _ => leaf_isBad x W)
  have Q1 := Lib.hid H1
  clear H1
  cases hbad : xs.any (fun x => !x.ok)
  · have HOK := Lib.hid (ok_of_any hbad)
    have HB := Lib.hid hbad
    clear hbad
    rw [HB.out] at Q1
    go_enter Tryz.func48, Tryz.ntmps48
    go_wp2_with fail
    refine Q1.out.mono ?_
    rintro e w1 ⟨rfl, hb1⟩
    have HB1 := Lib.hid hb1
    clear hb1
    go_wp2_with fail
    refine (sl_Values_it A xs.length c w1).mono ?_
    rintro e w2 ⟨rfl, rfl⟩
    have hb2 := (Below.refl w1.heap.size w1).alloc (Nat.le_refl _) (.cells #[.slice A xs.length c] 29)
    have hB2 : (w1.alloc (.cells #[.slice A xs.length c] 29)).cell? ⟨w1.heap.size, 0, none⟩ = some (.slice A xs.length c) := by rw [Lib.cell_of_heap (heap_alloc_new _ _)]; rfl
    have HS := sl_SortedFunc_it w1.heap.size c A xs (w1.alloc (.cells #[.slice A xs.length c] 29)) ((hs.below HB1.out).below hb2) hx hB2 (by simp)
    have HB2 := Lib.hid (below_step HB1.out hb2)
    clear hb2 hB2
    have QS := Lib.hid HS
    clear HS
    go_wp2_with fail
    refine QS.out.mono ?_
    rintro e w3 ⟨v, ys, rfl, hp, hr, ho, hvn, hb3⟩
    have HP := Lib.hid hp
    have HR := Lib.hid hr
    have HO := Lib.hid ho
    have HB3 := Lib.hid (below_step HB2.out hb3)
    have hbase := hb3.size
    have hsz := HB2.out.size
    clear hb3 hvn QS Q1 hp hr
    obtain ⟨A', c', rfl, hsl⟩ := own_slice ho
    clear ho
    have HL := Lib.hid HP.out.length_eq
    go_wp2_with fail
    refine (sl_CompactFunc_any _ ys _ w3 HO.out HR.out).mono ?_
    rintro e w4 ⟨⟨A4, m, c4, rfl, hm1, hm2⟩, hb4⟩
    have HB4 := Lib.hid (HB3.out.trans (hb4.mono hsz))
    clear hb4
    by_cases hnd : (xs.map It.k).Nodup
    · have hnd' : (ys.map It.k).Nodup := (HP.out.map It.k).nodup_iff.2 hnd
      obtain ⟨hm, hbw⟩ := hm1 hnd'
      have hsl4 := hsl.below hbw
      have hoky : ∀ y ∈ ys, y.ok = true := fun y hy => HOK.out y (HP.out.mem_iff.1 hy)
      have hy : ys = It.srt xs := up_unique (up_of_rises HR.out hnd') (up_of_rises (It.srt_rises xs) (((It.srt_perm xs).map It.k).nodup_iff.2 hnd)) (HP.out.trans (It.srt_perm xs).symm)
      have HY := Lib.hid hy
      have hml : m = xs.length := by rw [hm, HL.out]
      have hmade := leaf_made A' c' ys w4 hsl4 hoky (by rw [HL.out]; exact hx)
      have QM := Lib.hid hmade
      clear hmade hm1 hm2 hm hy hbw hsl hsl4 hoky
      subst hml
      have HND := Lib.hid hnd
      clear hnd hnd'
      have hirr : decide ((xs.length : Int) < xs.length) = false := by simp
      go_wp2_with fail
      refine QM.out.mono ?_
      rintro e w5 ⟨b, rfl, hbl, hleaf, hb5⟩
      rw [HY.out] at hleaf
      have HE : Hid (leafErr xs = 0) := by unfold Hid leafErr; rw [HB.out, if_neg (by simp), if_pos HND.out]
      have HB5 := Lib.hid (below_step HB4.out hb5)
      have h4 := HB4.out.size
      clear hb5
      go_wp2
      go_ret2
      exact ⟨⟨_, by rw [HE.out]; rfl, fun _ => ⟨b, rfl, by omega, hleaf⟩, fun h => absurd HE.out h⟩, HB5.out⟩
    · have hnd' : ¬ (ys.map It.k).Nodup := fun h => hnd ((HP.out.map It.k).nodup_iff.1 h)
      have hm := hm2 hnd'
      rw [HL.out] at hm
      have HE : Hid (leafErr xs = 11) := by unfold Hid leafErr; rw [HB.out, if_neg (by simp), if_neg hnd]
      clear hm1 hm2 hnd hnd' hsl
      go_wp2
      go_ret2
      exact ⟨⟨_, by rw [HE.out]; rfl, fun h => by rw [HE.out] at h; omega, fun _ => rfl⟩, HB4.out⟩
  · have HE : Hid (leafErr xs = 1) := by unfold Hid leafErr; rw [hbad]; rfl
    rw [hbad] at Q1
    clear hbad
    go_enter Tryz.func48, Tryz.ntmps48
    go_wp2_with fail
    refine Q1.out.mono ?_
    rintro e w1 ⟨rfl, hb1⟩
    have HB1 := Lib.hid hb1
    clear hb1
    go_wp2
    go_ret2
    exact ⟨⟨_, by rw [HE.out]; rfl, fun h => by rw [HE.out] at h; omega, fun _ => rfl⟩, HB1.out⟩

end Go.Proofs.YtjpakldnejpleaaGreat
