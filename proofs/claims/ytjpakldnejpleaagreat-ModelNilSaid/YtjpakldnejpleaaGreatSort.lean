/- slices.SortFunc and slices.SortedFunc at items, by key.Compare. -/
import Derived.Test.YtjpakldnejpleaaGreatSeq
import Derived.Test.YtjpakldnejpleaaGreatLay
import Derived.Lib.OwnBridge
namespace Go.Proofs.YtjpakldnejpleaaGreat
open Go.RowKit Go.Shelf Go.Sort Go.Lib

/-- The order of keys. -/
def blt (a b : ByteArray) : Bool := Op.bytesLess a.toList b.toList
def kcmp (a b : ByteArray) : Int := if blt a b then -1 else if a.toList = b.toList then 0 else 1

theorem toList_inj {a b : ByteArray} : a.toList = b.toList ↔ a = b := by
  constructor
  · intro h
    have h1 : a.data.toList = b.data.toList := by simpa [ByteArray.toList_eq] using h
    exact ByteArray.ext (Array.ext' h1)
  · rintro rfl; rfl

theorem blt_def (a b : ByteArray) : blt a b = decide (a.toList < b.toList) := by unfold blt; exact bytesLess_eq _ _
theorem blt_irrefl (a : ByteArray) : blt a a = false := by rw [blt_def]; simp [List.lt_irrefl]
theorem blt_trans {a b c : ByteArray} (h1 : blt a b = true) (h2 : blt b c = true) : blt a c = true := by
  rw [blt_def] at *
  simp at *
  exact List.lt_trans h1 h2
theorem blt_total {a b : ByteArray} (h1 : blt a b = false) (h2 : blt b a = false) : a = b := by
  rw [blt_def] at *
  simp at *
  exact toList_inj.1 (List.le_antisymm h2 h1)
theorem blt_asymm {a b : ByteArray} (h1 : blt a b = true) : blt b a = false := by
  cases h : blt b a with
  | false => rfl
  | true => have := blt_trans h1 h; rw [blt_irrefl] at this; cases this
theorem blt_le_trans {a b c : ByteArray} (h1 : blt b a = false) (h2 : blt c b = false) : blt c a = false := by
  cases h : blt c a with
  | false => rfl
  | true =>
    cases hb : blt a b with
    | true => have := blt_trans h hb; rw [h2] at this; cases this
    | false => have := blt_total hb h1; subst this; rw [h2] at h; cases h

set_option maxHeartbeats 400000 in
theorem cmp_isNaN_string (k : ByteArray) (w : World) :
    Calls Tryz.prog 131 #[.string k] w fun e w' => e = .returned (.bool false) ∧ w = w' := by
  go_enter Tryz.func131, Tryz.ntmps131
  go_wp2
  go_ret
  exact ⟨rfl, rfl⟩

set_option maxHeartbeats 400000 in
theorem cmp_Compare_string (a b : ByteArray) (w : World) :
    Calls Tryz.prog 114 #[.string a, .string b] w fun e w' => e = .returned (.int .i64 (kcmp a b)) ∧ w = w' := by
  go_enter Tryz.func114, Tryz.ntmps114
  go_wp2_with (go_at_call 131; refine (cmp_isNaN_string _ _).mono ?_; rintro e w' ⟨rfl, rfl⟩)
  all_goals
    go_ret
    refine ⟨?_, rfl⟩
    simp_all [kcmp, blt]

set_option maxHeartbeats 400000 in
theorem key_Compare (a b c d : ByteArray) (w : World) :
    Calls Tryz.prog 83 #[.agg #[.string a, .string b], .agg #[.string c, .string d]] w fun e w' => e = .returned (.int .i64 (kcmp a c)) ∧ w' = (w.alloc (.cells #[.string a, .string b] 41)).alloc (.cells #[.string c, .string d] 41) := by
  go_enter Tryz.func83, Tryz.ntmps83
  go_wp2_with (go_at_call 114; refine (cmp_Compare_string _ _ _).mono ?_; rintro e w' ⟨rfl, rfl⟩)
  go_ret
  exact ⟨rfl, rfl⟩

def It.enc (x : It) : List Value := [.string x.k, .string x.v]
def itCmp (x y : It) : Int := kcmp x.k y.k
theorem ltOf_itCmp (x y : It) : ltOf itCmp x y = blt x.k y.k := by
  unfold ltOf itCmp kcmp
  split
  · next h => rw [h]; rfl
  · next h => split <;> simp_all

theorem swo_itCmp : SWO (ltOf itCmp) where
  irrefl x := by rw [ltOf_itCmp]; exact blt_irrefl _
  trans x y z h1 h2 := by rw [ltOf_itCmp] at *; exact blt_trans h1 h2
  ntrans x y z h1 h2 := by rw [ltOf_itCmp] at *; exact blt_le_trans h2 h1

theorem enters_of_key_Compare : ∀ args w, (callFunc 83 args).run Tryz.prog w = .ok (.enter 83 args) w :=
  enters_of Tryz.func83 (by kernel_rfl) rfl

theorem cmpLays_items (blk off size : Nat) (w : World) : CmpLays Tryz.prog 83 #[] It.enc 2 itCmp blk off size w :=
  fun _ _ _ _ x y => (key_Compare x.k x.v y.k y.v _).mono fun _ _ ⟨he, hw⟩ => ⟨he, 0, #[.cells #[.string x.k, .string x.v] 41, .cells #[.string y.k, .string y.v] 41], by rw [hw, alloc_eq_grow, alloc_eq_grow, grow_grow]; rfl⟩

theorem cells_get (xs : List It) : ∀ (i : Nat) (x : It), xs[i]? = some x → (It.cells xs)[i * 2]? = some (.string x.k) ∧ (It.cells xs)[i * 2 + 1]? = some (.string x.v) := by
  induction xs with
  | nil => intro i x h; simp at h
  | cons y ys ih =>
    intro i x h
    cases i with
    | zero => simp at h; subst h; exact ⟨rfl, rfl⟩
    | succ i =>
      have := ih i x (by simpa using h)
      have e1 : (i + 1) * 2 = i * 2 + 1 + 1 := by omega
      rw [e1]
      exact this

theorem flatK_cells (d : Array It) : (flatK It.enc 2 d).toList = It.cells d.toList := by
  apply List.ext_getElem?
  intro t
  by_cases ht : t < d.size * 2
  · rw [List.getElem?_eq_getElem (by simp [size_flatK]; exact ht)]
    have h1 := get_flatK It.enc 2 d t ht
    have h2 : (flatK It.enc 2 d).toList[t]'(by simp [size_flatK]; exact ht) = (It.enc d[t / 2]!)[t % 2]! := by
      rw [← h1, getElem!_pos _ t (by simp [size_flatK]; exact ht)]
      simp
    rw [h2]
    have hd : t / 2 < d.size := by omega
    have h3 := cells_get d.toList (t / 2) d[t / 2]! (by simp [hd])
    rcases Nat.mod_two_eq_zero_or_one t with hm | hm
    · have e : t = t / 2 * 2 := by omega
      rw [hm]
      have := h3.1
      rw [← e] at this
      rw [this]; rfl
    · have e : t = t / 2 * 2 + 1 := by omega
      rw [hm]
      have := h3.2
      rw [← e] at this
      rw [this]; rfl
  · rw [List.getElem?_eq_none (by simp [size_flatK]; omega), List.getElem?_eq_none (by rw [It.cells_length]; simp; omega)]

/-- An owned row holds its items, as the sort says it. -/
theorem holdsK_of_own {w : World} {base : Nat} {g n cap : Nat} {xs : List It} (h : w.ownsRow base 41 2 (.slice (some ⟨g, 0, none⟩) n cap) n (It.cells xs)) : HoldsK It.enc 2 w g 0 xs.toArray := by
  have hl : xs.length = n := by have := h.1; rw [It.cells_length] at this; omega
  rcases h.2 with ⟨e0, _⟩ | ⟨g', cap', cur, e0, hb, hg, hn, hm, hs, ht⟩
  · cases e0
  · injection e0 with e1 _ e3
    injection e1 with e1
    injection e1 with e1
    subst e1; subst e3
    intro j hj
    rw [size_flatK] at hj
    refine ⟨?_, by simp [World.frozen?, hg]⟩
    have hj2 : j < n * 2 := by simp at hj; omega
    have e1 : (cur.toList.take (n * 2))[j]? = (It.cells xs)[j]? := by rw [ht]
    rw [List.getElem?_take, if_pos hj2, Array.getElem?_toList] at e1
    simp only [World.cell?, hg, Nat.zero_add, Option.isSome_none, Bool.false_eq_true, if_false]
    have e2 := congrArg (fun l => l[j]?) (flatK_cells xs.toArray)
    simp only [Array.getElem?_toList] at e2
    rw [e1, ← e2, Array.getElem?_eq_getElem (by simpa [size_flatK] using hj), getElem!_pos _ j (by simpa [size_flatK] using hj)]
    rfl

theorem own_of_sort {w : World} {base : Nat} {g n cap q : Nat} {xs ys : List It} {os : Array Obj} (h : w.ownsRow base 41 2 (.slice (some ⟨g, 0, none⟩) n cap) n (It.cells xs)) (hy : ys.length = n) :
    (sortWorldK It.enc 2 w g 0 q ys.toArray os).ownsRow base 41 2 (.slice (some ⟨g, 0, none⟩) n cap) n (It.cells ys) ∧ ∀ w0, base ≤ w0.heap.size → Below w0.heap.size w0 w → w0.heap.size ≤ g → Below w0.heap.size w0 (sortWorldK It.enc 2 w g 0 q ys.toArray os) := by
  rcases h.2 with ⟨e0, _⟩ | ⟨g', cap', cur, e0, hb, hg, hn, hm, hs, ht⟩
  · cases e0
  · injection e0 with e1 _ e3
    injection e1 with e1
    injection e1 with e1
    subst e1; subst e3
    have hlt : g < w.heap.size := (Array.getElem?_eq_some_iff.1 hg).1
    refine ⟨⟨by rw [It.cells_length, hy], .inr ⟨g, cap, putCells id 0 (flatK It.enc 2 ys.toArray) cur, rfl, hb, ?_, hn, hm, by simpa [putCells] using hs, ?_⟩⟩, ?_⟩
    · unfold sortWorldK putRowK
      rw [heap_grow_old _ _ (by simpa using hlt)]
      simp [putRow, mapBlock, Sort.ahead, Array.getElem?_modify, hg, onCells]
    · have hf : (flatK It.enc 2 ys.toArray).size = n * 2 := by rw [size_flatK]; simp [hy]
      rw [show It.cells ys = (flatK It.enc 2 ys.toArray).toList from (flatK_cells ys.toArray).symm]
      apply List.ext_getElem?
      intro j
      rw [List.getElem?_take, Array.getElem?_toList, Array.getElem?_toList]
      by_cases hj : j < n * 2
      · have hjc : j < cur.size := by omega
        simp only [if_pos hj, putCells, Array.getElem?_mapIdx, Array.getElem?_eq_getElem hjc, Option.map_some]
        rw [if_pos (by omega), Array.getElem?_eq_getElem (by omega), getElem!_pos _ _ (by omega)]
        simp
      · rw [if_neg hj, Array.getElem?_eq_none (by omega)]
    · intro w0 hb0 hbw hg0
      refine ⟨hbw.os, hbw.tape, hbw.output, ?_, fun k hk => ?_⟩
      · have := hbw.size
        unfold sortWorldK putRowK
        simp [Sort.ahead]
        omega
      · rw [← hbw.block k hk]
        unfold sortWorldK putRowK
        rw [heap_grow_old _ _ (by simp [Sort.ahead]; have := hbw.size; omega)]
        simp [putRow, mapBlock, Sort.ahead, Array.getElem?_modify, show g ≠ k by omega]

theorem isAgg_item : ∀ w, (isAgg 41).run Tryz.prog w = .ok true w := Tryz.isAgg41
theorem sizeOf_item : ∀ w, (Go.sizeOf 41).run Tryz.prog w = .ok 2 w := Tryz.sizeOf41

/-- Items that rise, equals let in. -/
def It.rises (ys : List It) : Prop := ys.Pairwise fun x y => blt y.k x.k = false

theorem rises_of_sortedIn {d : Array It} (h : SortedIn (ltOf itCmp) 0 d.size d) : It.rises d.toList := by
  unfold It.rises
  rw [List.pairwise_iff_getElem]
  intro i j hi hj hij
  have := h i j (Nat.zero_le _) hij (by simpa using hj)
  rw [ltOf_itCmp, getElem!_pos d i (by simpa using hi), getElem!_pos d j (by simpa using hj)] at this
  simpa using this

theorem perm_of_permIn {d d' : Array It} (h : PermIn 0 d.size d d') : d'.toList.Perm d.toList := by
  obtain ⟨hs, _, hp⟩ := h
  have e1 : d'.extract 0 d.size = d' := by rw [← hs]; simp
  have e2 : d.extract 0 d.size = d := by simp
  rw [e1, e2] at hp
  exact hp

/-- slices.SortFunc(l, key.Compare), l a row of the call's own. -/
theorem sl_SortFunc_it (base : Nat) (v : Value) (xs : List It) (w : World) (h : w.ownsRow base 41 2 v xs.length (It.cells xs)) (hv : v = .slice none 0 0 ↔ xs = []) (hx : xs.length ≤ 4398046511104) :
    Calls Tryz.prog 112 #[v, .func (.func 83) #[] #[]] w fun e w' => e = .returned (.tuple #[]) ∧ ∃ ys, ys.Perm xs ∧ It.rises ys ∧ w'.ownsRow base 41 2 v ys.length (It.cells ys) ∧
      ∀ w0, base ≤ w0.heap.size → w0.heap.size ≤ base → Below w0.heap.size w0 w → Below w0.heap.size w0 w' := by
  by_cases hn : xs = []
  · rw [hv.2 hn]
    subst hn
    refine (AnyF.slices_SortFunc_none Tryz.sortItems none 0 _ w).mono ?_
    rintro e w' ⟨rfl, rfl⟩
    exact ⟨rfl, [], List.Perm.refl _, List.Pairwise.nil, World.ownsRow_nil _ _ _ _, fun _ _ _ h => h⟩
  · have hne : v ≠ .slice none 0 0 := fun e => hn (hv.1 e)
    obtain ⟨g, cap, rfl⟩ : ∃ g cap, v = .slice (some ⟨g, 0, none⟩) xs.length cap := by
      rcases h.2 with ⟨e0, _⟩ | ⟨g, cap, cur, e0, _⟩
      · exact absurd e0 hne
      · exact ⟨g, cap, e0⟩
    obtain ⟨hbg, hgl⟩ := h.lt g rfl
    refine (AnyQ.slices_SortFunc Tryz.sortItems 2 isAgg_item sizeOf_item It.enc (fun _ => rfl) (fun x v hv => by simp [It.enc] at hv; rcases hv with rfl | rfl <;> rfl) itCmp swo_itCmp 83 #[] g 0 cap xs.toArray w enters_of_key_Compare (cmpLays_items _ _ _ _) (holdsK_of_own h) hgl (by simp; omega)).mono ?_
    rintro e w' ⟨rfl, d', n, os, hp, hs, rfl⟩
    have hpl := perm_of_permIn hp
    have hsz : d'.size = xs.toArray.size := hp.1
    have hl : d'.toList.length = xs.length := by simp at hsz ⊢; exact hsz
    obtain ⟨h1, h2⟩ := own_of_sort (q := n) (os := os) (ys := d'.toList) h hl
    simp only [Array.toArray_toList] at h1 h2
    refine ⟨rfl, d'.toList, by simpa using hpl, rises_of_sortedIn (by rw [hsz]; exact hs), by rw [hl]; exact h1, fun w0 hb0 hb1 hbw => h2 w0 hb0 hbw (by omega)⟩

set_option maxHeartbeats 1000000 in
/-- slices.SortedFunc(slices.Values(xs), key.Compare). -/
theorem sl_SortedFunc_it (Bs c : Nat) (A : Option Addr) (xs : List It) (w : World) (hs : SlIt w A c xs) (hx : xs.length ≤ 4398046511104) (hB : w.cell? ⟨Bs, 0, none⟩ = some (.slice A xs.length c)) (hBl : Bs < w.heap.size) :
    Calls Tryz.prog 81 #[.func (.func 113) #[] #[.pointer (some ⟨Bs, 0, none⟩)], .func (.func 83) #[] #[]] w fun e w' => ∃ v ys, e = .returned v ∧ ys.Perm xs ∧ It.rises ys ∧ w'.ownsRow w.heap.size 41 2 v ys.length (It.cells ys) ∧ (v = .slice none 0 0 ↔ xs = []) ∧ Below w.heap.size w w' := by
  have hc := sl_Collect_it 113 #[.pointer (some ⟨Bs, 0, none⟩)] xs w w.heap.size (Nat.le_refl _) hx (enters_of Tryz.func113 (by kernel_rfl) rfl)
    (values_stops Fence.wide 5 trivial rfl (by omega) Bs w.heap.size c A xs w hBl (Nat.le_refl _) hB hs.len hs.cap hs.at_)
  clear hB
  go_enter Tryz.func81, Tryz.ntmps81
  go_wp2_with fail
  refine hc.mono ?_
  rintro e w1 ⟨⟨v, rfl, h1, h2⟩, hb1⟩
  have hsort := sl_SortFunc_it w.heap.size v xs w1 h1 h2 hx
  have H2 := Lib.hid h2
  clear h2 hc
  go_wp2_with fail
  refine hsort.mono ?_
  rintro e w2 ⟨rfl, ys, hp, hr, ho, hb⟩
  clear hsort
  go_wp2
  go_ret
  exact ⟨v, ys, rfl, hp, hr, ho, H2.out, hb w (Nat.le_refl _) (Nat.le_refl _) hb1⟩

end Go.Proofs.YtjpakldnejpleaaGreat
