/- Layer 7 (key): Number. -/
import Derived.Test.YtjpakldnejpleaaGreatPenIn
namespace Go.Proofs.YtjpakldnejpleaaGreat
open Go.RowKit

/-- A value's number. -/
def numOf (v : ByteArray) : Nat := beNat v.data.toList

theorem below_alloc_1 (w : World) (o : Obj) : Below w.heap.size w (w.alloc o) := (Below.refl _ w).alloc (Nat.le_refl _) o

theorem below_of_grown {w w1 w2 : World} {b : Nat} (h : Below w.heap.size w w1) (hg : w1.grownBy w2 (some b)) (hb : w.heap.size ≤ b) : Below w.heap.size w w2 :=
  h.trans ⟨hg.os, hg.tape, hg.output, hg.size, fun k hk => hg.block k (Nat.lt_of_lt_of_le hk h.size) (by simp; omega)⟩

theorem In_Num4 (b : Nat) (s : ByteArray) (w : World) (h : InAt w b s false) (hs : s.size = 4) :
    Calls Tryz.prog 106 #[.pointer (some ⟨b, 0, none⟩), .int .i64 4] w fun e w' => e = .returned (.int .i64 (numOf s)) ∧ w.grownBy w' (some b) := by
  unfold numOf
  have H := In_Num_ok b s 4 w h (by omega) (by omega)
  have : s.data.toList.take 4 = s.data.toList := List.take_of_length_le (by rw [Array.length_toList]; exact Nat.le_of_eq hs)
  rw [this] at H
  exact H.mono fun _ _ ⟨h1, _, h2⟩ => ⟨h1, h2⟩

theorem bits_or_half (X d : Nat) (hX : X < 4294967296) (hd : d < 4294967296) : bits .or .u64 ((X : Int) * 4294967296) (d : Int) = ((X * 4294967296 + d : Nat) : Int) := by
  rw [show (X : Int) * 4294967296 = ((X * 4294967296 : Nat) : Int) by simp, bits_or_u64_nat _ _ (by omega) (by omega), or_shift X d 32 (by omega)]

theorem numOf_split (v : ByteArray) (hv : v.size = 8) : numOf v = numOf (v.extract 0 4) * 4294967296 + numOf (v.extract 4 v.size) := by
  have h : ∀ (l m : List UInt8), beNat (l ++ m) = beNat l * 256 ^ m.length + beNat m := by
    intro l m
    have h2 : ∀ (m : List UInt8) (a : Nat), m.foldl (fun n b => n * 256 + b.toNat) a = a * 256 ^ m.length + beNat m := by
      intro m
      induction m with
      | nil => intro a; simp [beNat]
      | cons b m ih =>
        intro a
        have e1 := ih (a * 256 + b.toNat)
        have e2 : beNat (b :: m) = b.toNat * 256 ^ m.length + beNat m := by
          have := ih b.toNat
          simpa [beNat] using this
        rw [List.foldl_cons, e1, e2, List.length_cons, Nat.pow_succ, Nat.add_mul]
        rw [Nat.mul_comm (256 ^ m.length) 256, ← Nat.mul_assoc]
        omega
    have := h2 m (beNat l)
    simpa [beNat] using this
  have e : v.data.toList = (v.extract 0 4).data.toList ++ (v.extract 4 v.size).data.toList := by
    have h3 : (v.extract 0 4).data.toList = v.data.toList.take 4 := by simp
    have h4 : (v.extract 4 v.size).data.toList = v.data.toList.drop 4 := by
      simp
      rw [List.take_of_length_le]
      rw [List.length_drop]
      exact Nat.le_refl _
    rw [h3, h4, List.take_append_drop]
  have hl : (v.extract 4 v.size).data.toList.length = 4 := by simp [hv]
  unfold numOf
  rw [e, h, hl]

set_option maxHeartbeats 2000000 in
set_option maxRecDepth 100000 in
theorem key_Number_ok (v : ByteArray) (w : World) (hv : v.size = 8) :
    Calls Tryz.prog 74 #[.string v] w fun e w' => e = .returned (.tuple #[.int .u64 (numOf v), .bool true]) ∧ Below w.heap.size w w' := by
  have hne : ((v.size : Int) != 8) = false := by simp; omega
  have hs1 : (v.extract 0 4).size = 4 := by simp; omega
  have hs2 : (v.extract 4 v.size).size = 4 := by simp; omega
  have h4 : (4 : Int) ≤ (v.size : Int) := by omega
  have HV := Lib.hid hv
  clear hv
  have hb1 : numOf (v.extract 0 4) < 4294967296 := by have := beNat_lt (v.extract 0 4).data.toList; rwa [show (v.extract 0 4).data.toList.length = 4 from hs1] at this
  have hb2 : numOf (v.extract 4 v.size) < 4294967296 := by have := beNat_lt (v.extract 4 v.size).data.toList; rwa [show (v.extract 4 v.size).data.toList.length = 4 from hs2] at this
  have HN := Lib.hid (numOf_split v HV.out)
  have HS1 := Lib.hid hs1
  have HS2 := Lib.hid hs2
  clear hs1 hs2
  go_enter Tryz.func74, Tryz.ntmps74
  go_wp2
  go_region_with (first | (go_at_call 105; refine (pen_Of _ _).mono ?_; rintro e w' ⟨rfl, rfl⟩) | (go_at_call 106; refine (In_Num4 _ _ _ (by first | exact heap_alloc_new w _ | exact heap_alloc_new _ _) (by first | exact HS1.out | exact HS2.out)).mono ?_; rintro e w' ⟨rfl, hg⟩))
  rename_i w1 hg1
  have HG1 := Lib.hid hg1
  have HG := Lib.hid hg
  clear hg hg1
  go_wp2
  rw [bits_or_half _ _ hb1 hb2, ← HN.out]
  go_ret2
  refine ⟨rfl, ?_⟩
  have b1 : Below w.heap.size w w1 := below_of_grown ((below_alloc_1 w.drew _ : Below w.drew.heap.size w.drew _).trans (Below.refl _ _) |> fun h => ⟨h.os, h.tape, h.output, h.size, h.block⟩) HG1.out (Nat.le_refl _)
  exact below_of_grown (b1.trans ((below_alloc_1 w1 _).mono b1.size)) HG.out b1.size

set_option maxHeartbeats 400000 in
theorem key_Number_none (v : ByteArray) (w : World) (hv : v.size ≠ 8) :
    Calls Tryz.prog 74 #[.string v] w fun e w' => e = .returned (.tuple #[.int .u64 0, .bool false]) ∧ w = w' := by
  have hne : ((v.size : Int) != 8) = true := by simp; omega
  go_enter Tryz.func74, Tryz.ntmps74
  go_wp2
  go_ret2
  exact ⟨rfl, rfl⟩

end Go.Proofs.YtjpakldnejpleaaGreat
