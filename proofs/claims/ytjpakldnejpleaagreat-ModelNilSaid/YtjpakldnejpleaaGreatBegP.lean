/- Plain laws of ModelBegins. -/
import Derived.Test.YtjpakldnejpleaaGreatRefP
namespace Go.Proofs.YtjpakldnejpleaaGreat
open Go.RowKit

/-- The i-th key. -/
def kk (i : Nat) : ByteArray := ⟨#[UInt8.ofNat (i + 1)]⟩
def kIt (i : Nat) : It := ⟨kk i, ⟨#[]⟩⟩
/-- The first j items. -/
def upItems (j : Nat) : List It := (List.range j).map kIt
theorem upItems_len (j : Nat) : (upItems j).length = j := by simp [upItems]
theorem upItems_succ (j : Nat) : upItems (j + 1) = upItems j ++ [kIt j] := by simp [upItems, List.range_succ]
theorem upItems_get (j i : Nat) (h : i < j) : (upItems j)[i]? = some (kIt i) := by
  unfold upItems
  rw [List.getElem?_map, List.getElem?_range h]
  rfl

theorem kk_lt : ∀ i : Fin 61, ∀ j : Fin 61, blt (kk i) (kk j) = decide (i < j) := by decide +kernel
theorem kk_blt {i j : Nat} (hi : i < 61) (hj : j < 61) : blt (kk i) (kk j) = decide (i < j) := by
  have := kk_lt ⟨i, hi⟩ ⟨j, hj⟩
  simpa using this
theorem kk_inj {i j : Nat} (hi : i < 61) (hj : j < 61) (h : kk i = kk j) : i = j := by
  have h1 := kk_blt hi hj
  have h2 := kk_blt hj hi
  rw [h] at h1
  rw [h] at h2
  rw [blt_irrefl] at h1 h2
  have := of_decide_eq_false h1.symm
  have := of_decide_eq_false h2.symm
  omega

theorem mem_upItems {j : Nat} {x : It} (h : x ∈ upItems j) : ∃ i, i < j ∧ x = kIt i := by
  unfold upItems at h
  obtain ⟨i, hi, rfl⟩ := List.mem_map.1 h
  exact ⟨i, List.mem_range.1 hi, rfl⟩

theorem upItems_up {j : Nat} (hj : j ≤ 60) : It.up (upItems j) := by
  unfold It.up upItems
  rw [List.pairwise_map]
  refine List.pairwise_lt_range.imp_of_mem ?_
  intro a b ha hb hab
  have := List.mem_range.1 ha
  have := List.mem_range.1 hb
  show blt (kk a) (kk b) = true
  rw [kk_blt (by omega) (by omega)]
  exact decide_eq_true hab

theorem upItems_has {j : Nat} (hj : j ≤ 60) : It.has (upItems j) (kk j) = false := by
  unfold It.has
  rw [List.any_eq_false]
  intro x hx
  obtain ⟨i, hi, rfl⟩ := mem_upItems hx
  simp only [decide_eq_true_eq]
  intro h
  have := kk_inj (i := i) (j := j) (by omega) (by omega) h
  omega

theorem takeWhile_all {α : Type} {p : α → Bool} {l : List α} (h : ∀ x ∈ l, p x = true) : l.takeWhile p = l := by
  induction l with
  | nil => rfl
  | cons x l ih => rw [List.takeWhile_cons, if_pos (h x List.mem_cons_self), ih (fun y hy => h y (List.mem_cons_of_mem _ hy))]

theorem upItems_pos {j : Nat} (hj : j ≤ 60) : It.pos (upItems j) (kk j) = j := by
  unfold It.pos
  rw [takeWhile_all, upItems_len]
  intro x hx
  obtain ⟨i, hi, rfl⟩ := mem_upItems hx
  show blt (kk i) (kk j) = true
  rw [kk_blt (by omega) (by omega)]
  exact decide_eq_true hi

theorem kk_size (i : Nat) : (kk i).size = 1 := rfl

theorem upItems_put {j : Nat} (hj : j ≤ 60) : It.put (upItems j) ⟨1, kk j, ⟨#[]⟩⟩ = upItems (j + 1) := by
  unfold It.put
  have hm : msgIs ⟨1, kk j, ⟨#[]⟩⟩ = true := rfl
  have ha : msgApply ⟨1, kk j, ⟨#[]⟩⟩ (It.was (upItems j) (kk j)) (It.has (upItems j) (kk j)) = (⟨#[]⟩, true) := by
    unfold msgApply
    rw [if_neg (by rw [hm]; decide), if_neg (by show ¬ (1 : Int) = 2; decide), if_pos (.inl rfl)]
  rw [ha, if_pos rfl, upItems_has hj, if_neg (by decide), upItems_pos hj, upItems_succ]
  unfold It.ins
  have h1 : (upItems j).take j = upItems j := List.take_of_length_le (by rw [upItems_len]; exact Nat.le_refl _)
  have h2 : (upItems j).drop j = [] := List.drop_of_length_le (by rw [upItems_len]; exact Nat.le_refl _)
  rw [h1, h2]
  rfl

theorem upItems_wt (j : Nat) : wt (upItems j) = 3 * j := by
  induction j with
  | zero => rfl
  | succ j ih =>
    rw [upItems_succ, wt_append, ih]
    show 3 * j + 3 = 3 * (j + 1)
    omega

theorem upItems_ok (j : Nat) : ∀ x ∈ upItems j, x.ok = true := by
  intro x hx
  obtain ⟨i, hi, rfl⟩ := mem_upItems hx
  rfl

/-- The rows behind j Puts, the s-th of them followed by the last Sync. -/
def upRows (s j : Nat) : List (List It) := (List.range (j + 1 - s)).map fun d => upItems (s + d)
theorem upRows_len (s j : Nat) : (upRows s j).length = j + 1 - s := by simp [upRows]
theorem upRows_succ {s j : Nat} (h : s ≤ j) : upRows s (j + 1) = upRows s j ++ [upItems (j + 1)] := by
  unfold upRows
  rw [show j + 1 + 1 - s = (j + 1 - s) + 1 by omega, List.range_succ, List.map_append]
  show _ ++ [upItems (s + (j + 1 - s))] = _
  rw [show s + (j + 1 - s) = j + 1 by omega]
theorem upRows_self (j : Nat) : upRows j j = [upItems j] := by
  unfold upRows
  rw [show j + 1 - j = 1 by omega]
  rfl
theorem upRows_last {s j : Nat} (h : s ≤ j) : lastRow (upRows s j) = upItems j := by
  unfold lastRow upRows
  rw [show j + 1 - s = (j - s) + 1 by omega, List.range_succ, List.map_append]
  show (_ ++ [upItems (s + (j - s))]).getLastD [] = _
  rw [show s + (j - s) = j by omega]
  simp

def putOd (i : Nat) : Od := ⟨1, kk i, ⟨#[]⟩, 0, ⟨#[]⟩, ⟨#[]⟩⟩
def syncOd : Od := ⟨6, ⟨#[]⟩, ⟨#[]⟩, 0, ⟨#[]⟩, ⟨#[]⟩⟩

theorem modDo_put {s j : Nat} (h : s ≤ j) (hj : j ≤ 59) : modDo 64 (upRows s j) (putOd j) = (An.no 0, upRows s (j + 1)) := by
  have hok : odIs (putOd j) = true := by
    unfold odIs
    simp only [Bool.and_eq_true, decide_eq_true_eq, Bool.not_eq_true']
    refine ⟨⟨rfl, rfl⟩, ?_⟩
    have h1 : decide (255 < (kk j).size) = false := rfl
    have h2 : decide (255 < (⟨#[]⟩ : ByteArray).size) = false := rfl
    show ([kk j, ⟨#[]⟩, ⟨#[]⟩, ⟨#[]⟩].any fun s => decide (255 < s.size)) = false
    simp only [List.any_cons, List.any_nil, h1, h2, Bool.or_false]
  have hm : msgOf (putOd j) = (⟨1, kk j, ⟨#[]⟩⟩, true) := rfl
  have hmi : msgIs ⟨1, kk j, ⟨#[]⟩⟩ = true := rfl
  unfold modDo
  rw [if_neg (by rw [hok]; decide), hm, if_pos rfl]
  have hcap : planCap 64 = 4084 := rfl
  have hu : updErr 64 (lastRow (upRows s j)) ⟨1, kk j, ⟨#[]⟩⟩ = 0 := by
    unfold updErr
    rw [if_neg (by rw [hmi]; decide), if_neg (by rintro ⟨h, _⟩; cases h), if_neg (by rintro ⟨h, _⟩; cases h), upRows_last h, upItems_put (by omega), upItems_wt, hcap, if_neg (by omega)]
  show (An.no (updErr 64 (lastRow (upRows s j)) ⟨1, kk j, ⟨#[]⟩⟩), updRows 64 (upRows s j) ⟨1, kk j, ⟨#[]⟩⟩) = _
  rw [hu]
  unfold updRows
  rw [if_pos ⟨hmi, (fun hh => by cases hh.1), hu⟩, upRows_last h, upItems_put (by omega), upRows_succ h]

theorem modDo_sync {s j : Nat} (h : s ≤ j) : modDo 64 (upRows s j) syncOd = (An.no 0, upRows j j) := by
  have hok : odIs syncOd = true := by decide +kernel
  unfold modDo
  rw [if_neg (by rw [hok]; decide)]
  have hm : msgOf syncOd = (⟨0, ⟨#[]⟩, ⟨#[]⟩⟩, false) := rfl
  rw [hm, if_neg (by decide), if_neg (by decide), if_neg (by decide), if_neg (by decide), upRows_last h, upRows_self]

theorem srt_up {xs : List It} (h : It.up xs) : It.srt xs = xs := by
  have h1 := It.srt_perm xs
  refine (up_unique ?_ h h1)
  refine up_of_rises (It.srt_rises xs) ?_
  exact (h1.map It.k).nodup_iff.2 (up_nodup h)

theorem leafErr_up {xs : List It} (h : It.up xs) (hok : ∀ x ∈ xs, x.ok = true) : leafErr xs = 0 := by
  unfold leafErr
  rw [if_neg, if_pos (up_nodup h)]
  rw [Bool.not_eq_true, List.any_eq_false]
  intro x hx
  simp [hok x hx]

theorem lost_up {s j n : Nat} (hj : j ≤ 60) (hn : n ≤ j) (hs : s ≤ j) : lostB (upRows s j) (upItems n) = decide (s ≤ n) := by
  unfold lostB
  rw [leafErr_up (upItems_up (by omega)) (upItems_ok n), srt_up (upItems_up (by omega))]
  simp only [beq_self_eq_true, Bool.true_and]
  rw [Bool.eq_iff_iff, List.any_eq_true, decide_eq_true_eq]
  constructor
  · rintro ⟨r, hr, he⟩
    obtain ⟨d, hd, rfl⟩ := List.mem_map.1 hr
    have := congrArg List.length (of_decide_eq_true he)
    rw [upItems_len, upItems_len] at this
    omega
  · intro h
    refine ⟨upItems n, List.mem_map.2 ⟨n - s, List.mem_range.2 (by omega), by rw [show s + (n - s) = n by omega]⟩, by simp⟩

/-- One that is not the last is missing. -/
def gapItems (n k : Nat) : List It := (upItems n).take k ++ (upItems n).drop (k + 1)
theorem gap_erase (n k : Nat) : gapItems n k = (upItems n).eraseIdx k := by
  unfold gapItems
  rw [List.eraseIdx_eq_take_drop_succ]
theorem gap_up {n k : Nat} (hn : n ≤ 60) : It.up (gapItems n k) := by
  rw [gap_erase]
  exact up_sub (upItems_up hn) (List.eraseIdx_sublist _ _)
theorem lost_gap {s j n k : Nat} (hj : j ≤ 60) (hn : n ≤ j) (hk : k + 1 < n) : lostB (upRows s j) (gapItems n k) = false := by
  unfold lostB
  rw [srt_up (gap_up (by omega))]
  rw [Bool.and_eq_false_iff]
  right
  rw [List.any_eq_false]
  intro r hr
  obtain ⟨d, hd, rfl⟩ := List.mem_map.1 hr
  simp only [decide_eq_true_eq]
  intro he
  have hd' := List.mem_range.1 hd
  have h1 : (gapItems n k)[k]? = some (kIt (k + 1)) := by
    unfold gapItems
    have hl : ((upItems n).take k).length = k := by rw [List.length_take, upItems_len]; omega
    rw [List.getElem?_append_right (by omega), hl, Nat.sub_self, List.getElem?_drop, Nat.add_zero]
    exact upItems_get _ _ (by omega)
  have hlen : (gapItems n k).length = n - 1 := by
    rw [gap_erase, List.length_eraseIdx_of_lt (by rw [upItems_len]; omega), upItems_len]
  rw [← he, upItems_len] at hlen
  rw [← he, upItems_get _ _ (by omega)] at h1
  have h2 : kIt k = kIt (k + 1) := by injection h1
  have h3 : kk k = kk (k + 1) := congrArg It.k h2
  have := kk_inj (by omega) (by omega) h3
  omega

/-- An answer's error, as a field. -/
theorem field_err (e : Int) (has : Bool) (val : ByteArray) (items : Value) (si sw : Int) (W : World) : (Instr.field 35 (ansV e has val items si sw) 0).run Tryz.prog W = .ok (.int .i64 e) W := by
  unfold ansV
  kernel_rfl

end Go.Proofs.YtjpakldnejpleaaGreat
