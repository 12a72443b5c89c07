/- What an append to a model's rows leaves. -/
import Derived.Test.YtjpakldnejpleaaGreatUpd
namespace Go.Proofs.YtjpakldnejpleaaGreat
open Go.RowKit

theorem off_setRow (w : World) (g : Nat) (cs : Array Value) : Off (fun k => k = g) w (w.setRow g cs) :=
  ⟨rfl, rfl, rfl, by simp, fun k _ hk => setRow_other w g k cs hk⟩

theorem ModIn.push {w : World} {b g o c : Nat} {cur : Array Value} {bs : List Nat} {n : Nat} {rows : List (List It)} (h : ModIn w b g o c cur bs n rows) {lb : Nat} {ys : List It} (hl : LeafAt w lb ys) {g' o' c' : Nat} {cur' : Array Value}
    (row : w.heap[g']? = some (.cells cur' 96 (0, 0))) (ptrs : ∀ u ∈ cur'.toList, ∃ p, u = .pointer p) (fits : o' + c' ≤ cur'.size) (len : rows.length + 1 ≤ c') (cap : c' ≤ maxLen)
    (hold : ∀ i, i < rows.length → cur'[o' + i]? = cur[o + i]?) (hnew : cur'[o' + rows.length]? = some (.pointer (some ⟨lb, 0, none⟩))) :
    ModIn (w.setCell ⟨b, 7, none⟩ (.slice (some ⟨g', o', none⟩) (rows.length + 1) c')) b g' o' c' cur' (bs ++ [lb]) n (rows ++ [ys]) := by
  have := h.setRows (g' := g') (o' := o') (c' := c') (cur' := cur') (bs' := bs ++ [lb]) (rows' := rows ++ [ys]) row ptrs fits (by simpa using len) cap (by simp [h.bsl]) ?_ ?_ (by simp)
  · simpa using this
  · intro i l hi
    rcases Nat.lt_or_ge i bs.length with hlt | hge
    · rw [List.getElem?_append_left hlt] at hi
      rw [hold i (by rw [← h.bsl]; exact hlt)]
      exact h.at_ i l hi
    · rw [List.getElem?_append_right hge] at hi
      match hk : i - bs.length, hi with
      | 0, hi =>
        cases hi
        have : i = rows.length := by have := h.bsl; omega
        rw [this]; exact hnew
  · intro i l xs hi hx
    rcases Nat.lt_or_ge i bs.length with hlt | hge
    · rw [List.getElem?_append_left hlt] at hi
      rw [List.getElem?_append_left (by rw [← h.bsl]; exact hlt)] at hx
      exact h.leaf i l xs hi hx
    · rw [List.getElem?_append_right hge] at hi
      rw [List.getElem?_append_right (by rw [← h.bsl]; exact hge)] at hx
      rw [← h.bsl] at hx
      match hk : i - bs.length, hi, hx with
      | 0, hi, hx =>
        cases hi; cases hx; exact hl

/-- What lies in the rows behind an append in place. -/
def roomCur (cur : Array Value) (k lb : Nat) : Array Value := (cur.toList.take k ++ [Value.pointer (some ⟨lb, 0, none⟩)] ++ cur.toList.drop (k + 1)).toArray

theorem roomCur_size (cur : Array Value) (k lb : Nat) (h : k < cur.size) : (roomCur cur k lb).size = cur.size := by
  simp [roomCur]; omega
theorem roomCur_old (cur : Array Value) (k lb j : Nat) (h : j < k) (hk : k ≤ cur.size) : (roomCur cur k lb)[j]? = cur[j]? := by
  unfold roomCur
  rw [← Array.getElem?_toList, List.toList_toArray, List.append_assoc, List.getElem?_append_left (by simp; omega), List.getElem?_take_of_lt h, Array.getElem?_toList]
theorem roomCur_new (cur : Array Value) (k lb : Nat) (hk : k ≤ cur.size) : (roomCur cur k lb)[k]? = some (.pointer (some ⟨lb, 0, none⟩)) := by
  unfold roomCur
  rw [← Array.getElem?_toList, List.toList_toArray, List.append_assoc, List.getElem?_append_right (by simp; omega)]
  simp [Nat.min_eq_left hk]
theorem roomCur_ptrs (cur : Array Value) (k lb : Nat) (h : ∀ u ∈ cur.toList, ∃ p, u = .pointer p) : ∀ u ∈ (roomCur cur k lb).toList, ∃ p, u = .pointer p := by
  intro u hu
  unfold roomCur at hu
  rw [List.toList_toArray] at hu
  rcases List.mem_append.1 hu with hu | hu
  · rcases List.mem_append.1 hu with hu | hu
    · exact h u (List.mem_of_mem_take hu)
    · simp at hu; exact ⟨_, hu⟩
  · exact h u (List.mem_of_mem_drop hu)

theorem ModIn.off_row {w : World} {b g o c : Nat} {cur : Array Value} {bs : List Nat} {n : Nat} {rows : List (List It)} (h : ModIn w b g o c cur bs n rows) (lb : Nat) (hr : rows.length + 1 ≤ c) :
    ModIn (w.setRow g (roomCur cur (o + rows.length) lb)) b g o c (roomCur cur (o + rows.length) lb) bs n rows := by
  have hf := h.fits
  have hbg : b ≠ g := by
    rintro rfl
    have := h.box
    rw [h.row] at this; cases this
  refine ⟨by rw [setRow_other _ _ _ _ hbg]; exact h.box, setRow_heap _ _ _ _ _ _ h.row, roomCur_ptrs _ _ _ h.ptrs, by rw [roomCur_size _ _ _ (by omega)]; exact hf, h.len, h.cap, h.bsl, fun i l hi => ?_, fun i l xs hi hx => ?_, h.ne⟩
  · have hlt : i < bs.length := by
      rcases Nat.lt_or_ge i bs.length with h1 | h1
      · exact h1
      · rw [List.getElem?_eq_none h1] at hi; cases hi
    rw [roomCur_old _ _ _ _ (by have := h.bsl; omega) (by omega)]
    exact h.at_ i l hi
  · have hl := h.leaf i l xs hi hx
    exact hl.off (off_setRow w g _) (fun e => h.notLeaf hl (.inr e)) (fun bb p x hx e => h.noStr bb p x hx (.inr e))

theorem ModIn.push_room {w : World} {b g o c : Nat} {cur : Array Value} {bs : List Nat} {n : Nat} {rows : List (List It)} (h : ModIn w b g o c cur bs n rows) {lb : Nat} {ys : List It} (hl : LeafAt w lb ys) (hr : rows.length + 1 ≤ c) :
    ModIn ((w.setRow g (roomCur cur (o + rows.length) lb)).setCell ⟨b, 7, none⟩ (.slice (some ⟨g, o, none⟩) (rows.length + 1) c)) b g o c (roomCur cur (o + rows.length) lb) (bs ++ [lb]) n (rows ++ [ys]) := by
  have h2 := h.off_row lb hr
  have hf := h.fits
  have hl2 : LeafAt (w.setRow g (roomCur cur (o + rows.length) lb)) lb ys := hl.off (off_setRow w g _) (fun e => h.notLeaf hl (.inr e)) (fun bb p x hx e => h.noStr bb p x hx (.inr e))
  exact h2.push hl2 h2.row h2.ptrs h2.fits hr h2.cap (fun _ _ => rfl) (roomCur_new _ _ _ (by omega))

theorem ModIn.push_grow {w W : World} {b g o c c' : Nat} {cur : Array Value} {bs : List Nat} {n : Nat} {rows : List (List It)} (h : ModIn w b g o c cur bs n rows) {lb : Nat} {ys : List It} (hl : LeafAt w lb ys) (hb : Below w.heap.size w W) (hn : rows.length + 1 ≤ c') (hm : c' ≤ maxLen)
    (hW : W.heap[w.heap.size]? = some (.cells ((cur.toList.drop o).take rows.length ++ [Value.pointer (some ⟨lb, 0, none⟩)] ++ List.replicate (c' - (rows.length + 1)) (Value.pointer none)).toArray 96 (0, 0))) :
    ∃ cur', ModIn (W.setCell ⟨b, 7, none⟩ (.slice (some ⟨w.heap.size, 0, none⟩) (rows.length + 1) c')) b w.heap.size 0 c' cur' (bs ++ [lb]) n (rows ++ [ys]) := by
  have hf := h.fits
  have hle := h.len
  have hlen : ((cur.toList.drop o).take rows.length).length = rows.length := by simp; omega
  refine ⟨_, (h.below hb).push (hl.below hb) hW ?_ (by simp; omega) hn hm ?_ ?_⟩
  · intro u hu
    rw [List.toList_toArray] at hu
    rcases List.mem_append.1 hu with hu | hu
    · rcases List.mem_append.1 hu with hu | hu
      · exact h.ptrs u (List.mem_of_mem_drop (List.mem_of_mem_take hu))
      · simp at hu; exact ⟨_, hu⟩
    · exact ⟨_, (List.mem_replicate.1 hu).2⟩
  · intro i hi
    rw [← Array.getElem?_toList, List.toList_toArray, List.append_assoc, List.getElem?_append_left (by omega), List.getElem?_take_of_lt (by omega), List.getElem?_drop, Array.getElem?_toList]
    simp
  · rw [← Array.getElem?_toList, List.toList_toArray, List.append_assoc, List.getElem?_append_right (by omega)]
    simp [hlen]

end Go.Proofs.YtjpakldnejpleaaGreat
