/- Layer 7 (key): Value. -/
import Derived.Test.YtjpakldnejpleaaGreatPenOut
import Derived.Test.YtjpakldnejpleaaGreatKeyNum
namespace Go.Proofs.YtjpakldnejpleaaGreat
open Go.RowKit

/-- A number's value. -/
def valOf (n : Nat) : ByteArray := ⟨(beAll 4 [((n / 4294967296 : Nat) : Int), ((n % 4294967296 : Nat) : Int)]).toArray⟩
theorem valOf_size (n : Nat) : (valOf n).size = 8 := by
  show (beAll 4 _).toArray.size = 8
  rw [List.size_toArray, beAll_length]; rfl

theorem beNat_beOf4 (n : Nat) (h : n < 4294967296) : beNat (beOf 4 (n : Int)) = n := by
  have e : beOf 4 (n : Int) = [UInt8.ofNat (n / 2 ^ 24), UInt8.ofNat (n / 2 ^ 16), UInt8.ofNat (n / 2 ^ 8), UInt8.ofNat (n / 2 ^ 0)] := rfl
  rw [e]
  simp only [beNat, List.foldl_cons, List.foldl_nil, UInt8.toNat_ofNat']
  omega

theorem numOf_valOf (n : Nat) (h : n < 18446744073709551616) : numOf (valOf n) = n := by
  have h1 : ∀ l m : List UInt8, beNat (l ++ m) = beNat l * 256 ^ m.length + beNat m := by
    intro l m
    have h2 : ∀ (m : List UInt8) (a : Nat), m.foldl (fun n b => n * 256 + b.toNat) a = a * 256 ^ m.length + beNat m := by
      intro m
      induction m with
      | nil => intro a; simp [beNat]
      | cons b m ih =>
        intro a
        have e1 := ih (a * 256 + b.toNat)
        have e2 : beNat (b :: m) = b.toNat * 256 ^ m.length + beNat m := by
          have := ih b.toNat
          simpa [beNat] using this
        rw [List.foldl_cons, e1, e2, List.length_cons, Nat.pow_succ, Nat.add_mul]
        rw [Nat.mul_comm (256 ^ m.length) 256, ← Nat.mul_assoc]
        omega
    have := h2 m (beNat l)
    simpa [beNat] using this
  have e : (valOf n).data.toList = beOf 4 ((n / 4294967296 : Nat) : Int) ++ beOf 4 ((n % 4294967296 : Nat) : Int) := by simp [valOf, beAll]
  unfold numOf
  rw [e, h1, beNat_beOf4 _ (by omega), beNat_beOf4 _ (by omega), beOf_length]
  omega

set_option maxHeartbeats 1000000 in
set_option maxRecDepth 100000 in
theorem Out_Bytes (B b : Nat) (l : List UInt8) (w : World) (h : Lib.IsBuilder 179 5 B b (Lib.byteCells l) w) (h0 : l ≠ []) :
    Calls Tryz.prog 124 #[.pointer (some ⟨b, 0, none⟩)] w fun e w' => e = .returned (.string ⟨l.toArray⟩) ∧ Below B w w' := by
  have H := Lib.hid (bld_String (T := 179) B b l w h h0)
  clear h
  go_enter Tryz.func124, Tryz.ntmps124
  go_wp2_with (go_at_call 143; refine H.out.mono ?_)
  rintro e w1 ⟨rfl, hb⟩
  go_wp2
  go_ret
  exact ⟨rfl, hb⟩

set_option maxHeartbeats 2000000 in
set_option maxRecDepth 100000 in
theorem key_Value (n : Nat) (w : World) (hn : n < 18446744073709551616) :
    Calls Tryz.prog 103 #[.int .u64 n] w fun e w' => e = .returned (.string (valOf n)) ∧ Below w.heap.size w w' := by
  have hb : wrap64 (bits .and .u64 (n : Int) 4294967295) = ((n % 4294967296 : Nat) : Int) := by
    have h1 := bits_and_u64_nat n 4294967295 hn (by omega)
    have h2 : n &&& 4294967295 = n % 4294967296 := Nat.and_two_pow_sub_one_eq_mod n 32
    rw [h2] at h1
    rw [show ((4294967295 : Nat) : Int) = 4294967295 from rfl] at h1
    rw [h1]
    unfold wrap64
    omega
  have HBT := Lib.hid hb
  clear hb
  have hd : (n : Int) / 4294967296 = ((n / 4294967296 : Nat) : Int) := by omega
  have HD := Lib.hid hd
  clear hd
  go_enter Tryz.func103, Tryz.ntmps103
  go_wp2_with fail
  rw [HBT.out, HD.out]
  obtain ⟨ns, hns⟩ : ∃ ns : List Int, [((n / 4294967296 : Nat) : Int), ((n % 4294967296 : Nat) : Int)] = ns := ⟨_, rfl⟩
  obtain ⟨W, hW⟩ : ∃ W, (w.alloc (.cells #[.pointer none, .slice none 0 0] 179)).alloc (.cells #[.int .i64 ((n / 4294967296 : Nat) : Int), .int .i64 ((n % 4294967296 : Nat) : Int)] 3) = W := ⟨_, rfl⟩
  rw [hW]
  have hs0 : W.heap[w.heap.size]? = some (.cells #[.pointer none, .slice none 0 0] 179 (0, 0)) := by rw [← hW]; exact (Below.heap_alloc _ _ _ (by simp)).trans (heap_alloc_new w _)
  have hs1 : W.heap[w.heap.size + 1]? = some (.cells #[.int .i64 ((n / 4294967296 : Nat) : Int), .int .i64 ((n % 4294967296 : Nat) : Int)] 3 (0, 0)) := by rw [← hW]; have := heap_alloc_new (w.alloc (.cells #[.pointer none, .slice none 0 0] 179)) (.cells #[.int .i64 ((n / 4294967296 : Nat) : Int), .int .i64 ((n % 4294967296 : Nat) : Int)] 3); simpa using this
  have hbW : Below w.heap.size w W := by rw [← hW]; exact ((Below.refl _ w).alloc (Nat.le_refl _) _).alloc (by simp) _
  have hbu : Lib.IsBuilder 179 5 w.heap.size w.heap.size [] W := .inl ⟨Nat.le_refl _, _, hs0, World.ownsRow_nil _ _ _ _, by simp [Value.ownBlock]⟩
  have hsl : Sl1 (Value.int .i64) W (some ⟨w.heap.size + 1, 0, none⟩) 2 ns := by
    subst hns
    refine ⟨by simp, by unfold maxLen; omega, fun _ => ⟨_, _, rfl, (Array.getElem?_eq_some_iff.1 hs1).1, ?_⟩⟩
    intro i x hx
    match i, hx with
    | 0, hx => simp at hx; subst hx; rw [Lib.cell_of_heap hs1]; simp
    | 1, hx => simp at hx; subst hx; rw [Lib.cell_of_heap hs1]; simp
  have hnl : ns.length = 2 := by rw [← hns]; rfl
  have hfit : ns.all (fit 4) = true := by
    rw [← hns]
    have h1 : fit 4 ((n / 4294967296 : Nat) : Int) = true := by unfold fit; simp; omega
    have h2 : fit 4 ((n % 4294967296 : Nat) : Int) = true := by unfold fit; simp; omega
    simp only [List.all_cons, List.all_nil, h1, h2, Bool.and_self]
  have HN := Lib.hid (Out_Num w.heap.size w.heap.size [] 4 _ 2 ns W hbu hbW.size (.inr (.inr rfl)) hsl (fun a ha => by
    cases ha
    exact ⟨by show w.heap.size + 1 ≠ _; omega, fun cs fr e => by have h := hs1.symm.trans e; injection h with h; injection h with _ h2; exact absurd h2 (by decide)⟩) hfit (by rw [hnl]; simp))
  rw [hnl] at HN
  have HNS := Lib.hid hns
  clear hns hsl hbu hs0 hs1 hfit
  refine HN.out.mono ?_
  rintro e w1 ⟨rfl, hbu, hbf⟩
  have HBU := Lib.hid hbu
  have HBF := Lib.hid hbf
  clear hbu hbf HN
  rw [List.nil_append] at HBU
  go_wp2_with fail
  refine (Out_Bytes w.heap.size w.heap.size _ w1 HBU.out ?_).mono ?_
  · intro h0
    have := congrArg List.length h0
    rw [beAll_length, hnl] at this
    simp at this
  rintro e w2 ⟨rfl, hb2⟩
  have HB2 := Lib.hid (hbW.trans (HBF.out.below.trans hb2))
  clear hb2
  go_wp2
  go_ret
  exact ⟨by unfold valOf; rw [HNS.out]; rfl, HB2.out⟩

end Go.Proofs.YtjpakldnejpleaaGreat
