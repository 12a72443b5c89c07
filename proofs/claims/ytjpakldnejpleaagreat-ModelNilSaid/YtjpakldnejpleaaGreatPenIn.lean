/- Layer 1 (pen): In. -/
import Derived.Test.YtjpakldnejpleaaGreatTail
import Derived.Lib.Hide
import Derived.Lib.ConvBytes
namespace Go.Proofs.YtjpakldnejpleaaGreat
open Go.RowKit

def InAt (w : World) (b : Nat) (s : ByteArray) (bad : Bool) : Prop := w.heap[b]? = some (.cells #[.string s, .bool bad] 184 (0, 0))

theorem heap_setCell_s {w : World} {g o : Nat} {cur : Array Value} {e : TypeId} {fr : Nat × Nat} (h : w.heap[g]? = some (.cells cur e fr)) (u : Value) : (w.setCell ⟨g, o, none⟩ u).heap[g]? = some (.cells (cur.setIfInBounds o u) e fr) := by
  simp [World.setCell, Array.getElem?_modify, h]

set_option maxHeartbeats 400000 in
theorem pen_Of (s : ByteArray) (w : World) : Calls Tryz.prog 105 #[.string s] w fun e w' => e = .returned (.pointer (some ⟨w.heap.size, 0, none⟩)) ∧ w' = w.alloc (.cells #[.string s, .bool false] 184) := by
  go_enter Tryz.func105, Tryz.ntmps105
  go_wp2
  go_ret
  exact ⟨rfl, rfl⟩

set_option maxHeartbeats 400000 in
theorem In_fail (b : Nat) (s : ByteArray) (bad : Bool) (w : World) (h : InAt w b s bad) :
    Calls Tryz.prog 127 #[.pointer (some ⟨b, 0, none⟩)] w fun e w' => e = .returned (.tuple #[]) ∧ InAt w' b ⟨#[]⟩ true ∧ w.grownBy w' (some b) := by
  have h0 : w.cell? ⟨b, 0, none⟩ = some (.string s) := by rw [Lib.cell_of_heap h]; rfl
  have h1 : w.cell? ⟨b, 1, none⟩ = some (.bool bad) := by rw [Lib.cell_of_heap h]; rfl
  have f0 : w.frozen? ⟨b, 0, none⟩ = false := Lib.frozen_of_heap h 0
  have f1 : w.frozen? ⟨b, 1, none⟩ = false := Lib.frozen_of_heap h 1
  have H := Lib.hid h
  clear h
  go_enter Tryz.func127, Tryz.ntmps127
  go_wp2
  go_end0
  exact ⟨rfl, heap_setCell_s (heap_setCell_s H.out _) _, grown_setCell (grown_setCell (grown_refl _ _) _) _⟩

set_option maxHeartbeats 1000000 in
theorem In_Raw_ok (b : Nat) (s : ByteArray) (n : Int) (w : World) (h : InAt w b s false) (h0 : 0 ≤ n) (hn : n ≤ s.size) :
    Calls Tryz.prog 122 #[.pointer (some ⟨b, 0, none⟩), .int .i64 n] w fun e w' => e = .returned (.string (s.extract 0 n.toNat)) ∧ InAt w' b (s.extract n.toNat s.size) false ∧ w.grownBy w' (some b) := by
  have h0 : w.cell? ⟨b, 0, none⟩ = some (.string s) := by rw [Lib.cell_of_heap h]; rfl
  have h1 : w.cell? ⟨b, 1, none⟩ = some (.bool false) := by rw [Lib.cell_of_heap h]; rfl
  have f0 : w.frozen? ⟨b, 0, none⟩ = false := Lib.frozen_of_heap h 0
  have f1 : w.frozen? ⟨b, 1, none⟩ = false := Lib.frozen_of_heap h 1
  have H := Lib.hid h
  clear h
  go_enter Tryz.func122, Tryz.ntmps122
  go_wp2
  go_ret
  exact ⟨rfl, heap_setCell_s H.out _, grown_setCell (grown_refl _ _) _⟩

set_option maxHeartbeats 1000000 in
theorem In_Raw_bad (b : Nat) (s : ByteArray) (bad : Bool) (n : Int) (w : World) (h : InAt w b s bad) (hn : bad = true ∨ n < 0 ∨ (s.size : Int) < n) :
    Calls Tryz.prog 122 #[.pointer (some ⟨b, 0, none⟩), .int .i64 n] w fun e w' => e = .returned (.string ⟨#[]⟩) ∧ InAt w' b ⟨#[]⟩ true ∧ w.grownBy w' (some b) := by
  have h0 : w.cell? ⟨b, 0, none⟩ = some (.string s) := by rw [Lib.cell_of_heap h]; rfl
  have h1 : w.cell? ⟨b, 1, none⟩ = some (.bool bad) := by rw [Lib.cell_of_heap h]; rfl
  have HF := Lib.hid (In_fail b s bad w h)
  have H := Lib.hid h
  clear h
  have hc : bad = true ∨ (bad = false ∧ n < 0) ∨ (bad = false ∧ 0 ≤ n ∧ (s.size : Int) < n) := by
    cases bad with
    | true => exact .inl rfl
    | false =>
      rcases hn with h | h | h
      · cases h
      · exact .inr (.inl ⟨rfl, h⟩)
      · by_cases hz : n < 0
        · exact .inr (.inl ⟨rfl, hz⟩)
        · exact .inr (.inr ⟨rfl, by omega, h⟩)
  clear hn
  rcases hc with rfl | ⟨rfl, h2⟩ | ⟨rfl, h2, h3⟩
  all_goals
    go_enter Tryz.func122, Tryz.ntmps122
    go_wp2_with (go_at_call 127; refine HF.out.mono ?_)
    rintro e w1 ⟨rfl, hi, hg⟩
    have HI := Lib.hid hi
    clear hi
    go_wp2
    go_ret
    exact ⟨rfl, HI.out, hg⟩

theorem or_shift (a b i : Nat) (h : b < 2 ^ i) : a * 2 ^ i ||| b = a * 2 ^ i + b := by
  rw [← Nat.shiftLeft_eq, Nat.shiftLeft_add_eq_or_of_lt h]

theorem bits_or_byte (X d : Nat) (hX : X < 16777216 * 65536) (hd : d < 256) : bits .or .i64 ((X : Int) * 256) (d : Int) = ((X * 256 + d : Nat) : Int) := by
  have h1 : (BitVec.ofInt 64 ((X : Int) * 256)).toNat = X * 256 := by
    rw [show (X : Int) * 256 = ((X * 256 : Nat) : Int) by simp, BitVec.ofInt_natCast, BitVec.toNat_ofNat]; exact Nat.mod_eq_of_lt (by omega)
  have h2 : (BitVec.ofInt 64 (d : Int)).toNat = d := by
    rw [BitVec.ofInt_natCast, BitVec.toNat_ofNat]; exact Nat.mod_eq_of_lt (by omega)
  show IntKind.i64.wrap ((BitVec.ofInt 64 ((X : Int) * 256) ||| BitVec.ofInt 64 (d : Int)).toNat : Int) = _
  rw [BitVec.toNat_or, h1, h2, or_shift X d 8 hd]
  exact IntWalk.i64_in _ (by omega)

/-- '[]byte(s)'. -/
theorem conv_bytes (w : World) (s : ByteArray) (hs : s.size ≤ maxLen) : ∃ W c, (convert 9 30 (.string s)).run Tryz.prog w = .ok (.slice (some ⟨w.heap.size, 0, none⟩) s.size c) W ∧ Below w.heap.size w W ∧ s.size ≤ c ∧ c ≤ maxLen ∧
    ∀ j, j < s.size → W.cell? ⟨w.heap.size, j, none⟩ = some (.int .u8 (s.data.toList.getD j 0).toNat) := by
  refine ⟨_, _, Lib.run_convert_string_bytes w 9 30 5 s Tryz.underlying9 Tryz.underlying30 Tryz.underlying5, ⟨rfl, rfl, rfl, ?_, fun k hk => Lib.bytesWorld_at_old _ _ _ _ hk⟩, grownCap_ge _ _ _ _, grownCap_le_maxLen _ _ _ _ hs, fun j hj => Lib.bytesWorld_cell _ _ _ _ hj⟩
  rw [Lib.bytesWorld_size]
  omega

/-- Bytes as a number, the highest first. -/
def beNat (l : List UInt8) : Nat := l.foldl (fun n b => n * 256 + b.toNat) 0
theorem beNat_snoc (l : List UInt8) (b : UInt8) : beNat (l ++ [b]) = beNat l * 256 + b.toNat := by simp [beNat]
theorem beNat_lt (l : List UInt8) : beNat l < 256 ^ l.length := by
  suffices h : ∀ (l : List UInt8) (a : Nat), l.foldl (fun n b => n * 256 + b.toNat) a < (a + 1) * 256 ^ l.length by simpa [beNat] using h l 0
  intro l
  induction l with
  | nil => intro a; simp
  | cons b l ih =>
    intro a
    have h1 := ih (a * 256 + b.toNat)
    have hb := b.toNat_lt
    simp only [List.foldl_cons, List.length_cons, Nat.pow_succ]
    refine Nat.lt_of_lt_of_le h1 ?_
    rw [Nat.mul_comm (256 ^ l.length) 256, ← Nat.mul_assoc]
    exact Nat.mul_le_mul_right _ (by omega)

def isW (n : Int) : Bool := n == 1 || n == 2 || n == 4 || n == 8

set_option maxHeartbeats 1000000 in
theorem pen_isWidth (n : Int) (w : World) : Calls Tryz.prog 126 #[.int .i64 n] w fun e w' => e = .returned (.bool (isW n)) ∧ w = w' := by
  go_enter Tryz.func126, Tryz.ntmps126
  go_wp2
  all_goals
    go_ret
    refine ⟨?_, rfl⟩
    first
      | rfl
      | (subst_vars; rfl)

set_option maxHeartbeats 1000000 in
set_option maxRecDepth 100000 in
theorem In_Num_ok (b : Nat) (s : ByteArray) (n : Nat) (w : World) (h : InAt w b s false) (hn : n = 1 ∨ n = 2 ∨ n = 4) (hs : n ≤ s.size) :
    Calls Tryz.prog 106 #[.pointer (some ⟨b, 0, none⟩), .int .i64 n] w fun e w' => e = .returned (.int .i64 (beNat (s.data.toList.take n))) ∧ InAt w' b (s.extract n s.size) false ∧ w.grownBy w' (some b) := by
  have HR := Lib.hid (In_Raw_ok b s n w h (by omega) (by omega))
  clear h
  have h14 : isW n = true := by rcases hn with rfl | rfl | rfl <;> rfl
  go_enter Tryz.func106, Tryz.ntmps106
  go_wp2_with (go_at_call 126; refine (pen_isWidth _ _).mono ?_; rintro e w' ⟨rfl, rfl⟩; rw [h14])
  refine HR.out.mono ?_
  rintro e w1 ⟨rfl, hi, hg⟩
  have HI := Lib.hid hi
  have HG := Lib.hid hg
  clear hi hg HR
  have hsz : (s.extract 0 n).size = n := by simp; omega
  obtain ⟨W, c, hcv, hcb, hc1, hc2, hcell⟩ := conv_bytes w1 (s.extract 0 n) (by rw [hsz]; unfold maxLen; omega)
  have hdat : (s.extract 0 n).data.toList = s.data.toList.take n := by simp
  rw [hdat, hsz] at hcell
  rw [hsz] at hcv hc1
  rw [Int.toNat_natCast]
  generalize s.extract 0 n = S at *
  have HC := Lib.hid hcell
  have HB := Lib.hid hcb
  have hll : (s.data.toList.take n).length = n := by simp; omega
  generalize hleq : s.data.toList.take n = l at *
  have HLL := Lib.hid hleq
  clear hleq
  have HS := Lib.hid hsz
  have HL := Lib.hid hll
  unfold maxLen at hc2
  clear hcell hcb hdat hsz hll
  go_wp2
  go_loop [5, 7, 16] (fun v _ i => ∃ k : Nat, k ≤ n ∧ i = .int .i64 k ∧ v = .int .i64 (beNat (l.take k))) (fun _ _ i => n - (intOf i).toNat)
  case atStart => exact ⟨0, Nat.zero_le _, rfl, by simp [beNat]⟩
  case round =>
    obtain ⟨k, hk, rfl, rfl⟩ := hrel
    by_cases hlt : k < n
    · have hck := HC.out k hlt
      have hsn : l.take (k + 1) = l.take k ++ [l.getD k 0] := by
        rw [List.take_succ_eq_append_getElem (by rw [HL.out]; exact hlt)]
        simp [show k < l.length by rw [HL.out]; exact hlt]
      have HN := Lib.hid hsn
      have hbl := beNat_lt (l.take k)
      rw [List.length_take, Nat.min_eq_left (by rw [HL.out]; exact hk)] at hbl
      have hk3 : k ≤ 3 := by omega
      have hb24 : beNat (l.take k) < 16777216 := Nat.lt_of_lt_of_le hbl (Nat.pow_le_pow_right (by omega : 0 < 256) hk3)
      have hd := (l.getD k 0).toNat_lt
      clear hsn hbl
      generalize hX : beNat (l.take k) = X at *
      have HX := Lib.hid hX
      clear hX
      generalize hD : l.getD k 0 = d at *
      clear hD
      have HO := Lib.hid (bits_or_byte X d.toNat (by omega) hd)
      go_wp2
      rw [HO.out]
      go_round
      case rel => exact ⟨k + 1, by omega, by go_num, by rw [HN.out, beNat_snoc, HX.out]⟩
      case measure => simp [intOf]; omega
    · obtain rfl : k = n := by omega
      have hte : l.take k = l := by rw [← HL.out, List.take_length]
      rw [hte]
      have h0 : decide ((beNat l : Int) < 0) = false := by simp
      clear hte
      generalize hX : beNat l = X at *
      have HX := Lib.hid hX
      clear hX
      go_wp2
      go_ret
      have hlt : b < w1.heap.size := (Array.getElem?_eq_some_iff.1 HI.out).1
      refine ⟨by rw [HLL.out, HX.out]; rfl, (HB.out.block b hlt).trans HI.out, ⟨HB.out.os.trans HG.out.os, HB.out.tape.trans HG.out.tape, HB.out.output.trans HG.out.output, Nat.le_trans HG.out.size HB.out.size, fun j hj hne => (HB.out.block j (Nat.lt_of_lt_of_le hj HG.out.size)).trans (HG.out.block j hj hne)⟩⟩

end Go.Proofs.YtjpakldnejpleaaGreat
