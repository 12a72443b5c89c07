/- Layer 1 (pen): Out.Num, Out.Bytes. -/
import Derived.Test.YtjpakldnejpleaaGreatIdx
import Derived.Test.YtjpakldnejpleaaGreatPenIn
namespace Go.Proofs.YtjpakldnejpleaaGreat
open Go.RowKit

/-- Whether a number has so many bytes at most. -/
def fit (wd n : Int) : Bool := decide (0 ≤ n) && decide (n < 256 ^ wd.toNat)

set_option maxHeartbeats 1000000 in
set_option maxRecDepth 100000 in
theorem pen_fits (wd n : Int) (w : World) (hw : wd = 1 ∨ wd = 2 ∨ wd = 4) : Calls Tryz.prog 142 #[.int .i64 wd, .int .i64 n] w fun e w' => e = .returned (.bool (fit wd n)) ∧ w = w' := by
  have h1 : ∀ n : Int, fit 1 n = (decide (0 ≤ n) && decide (n < 256)) := fun n => rfl
  have h2 : ∀ n : Int, fit 2 n = (decide (0 ≤ n) && decide (n < 65536)) := fun n => rfl
  have h4 : ∀ n : Int, fit 4 n = (decide (0 ≤ n) && decide (n < 4294967296)) := fun n => rfl
  have H1 := Lib.hid h1
  have H2 := Lib.hid h2
  have H4 := Lib.hid h4
  clear h1 h2 h4
  by_cases hn : 0 ≤ n
  · have hd : decide (0 ≤ n) = true := decide_eq_true hn
    have HD := Lib.hid hd
    clear hd
    rcases hw with rfl | rfl | rfl
    all_goals
      go_enter Tryz.func142, Tryz.ntmps142
      go_wp2
      go_ret
      refine ⟨?_, rfl⟩
      first
        | (rw [H1.out, HD.out]; rfl)
        | (rw [H2.out, HD.out]; rfl)
        | (rw [H4.out, HD.out]; rfl)
  · have hd : decide (0 ≤ n) = false := decide_eq_false hn
    have HD := Lib.hid hd
    clear hd
    rcases hw with rfl | rfl | rfl
    all_goals
      go_enter Tryz.func142, Tryz.ntmps142
      go_wp2
      go_ret
      refine ⟨?_, rfl⟩
      first
        | (rw [H1.out, HD.out]; rfl)
        | (rw [H2.out, HD.out]; rfl)
        | (rw [H4.out, HD.out]; rfl)

set_option maxHeartbeats 1000000 in
theorem Num_1 (wb : Nat) (wd n : Int) (w : World) (hw : wd = 1 ∨ wd = 2 ∨ wd = 4) (hc : w.cell? ⟨wb, 0, none⟩ = some (.int .i64 wd)) :
    Calls Tryz.prog 141 #[.int .i64 n, .pointer (some ⟨wb, 0, none⟩)] w fun e w' => e = .returned (.bool (!fit wd n)) ∧ w = w' := by
  have HW := Lib.hid hw
  clear hw
  go_enter Tryz.func141, Tryz.ntmps141
  go_wp2_with (go_at_call 142; refine (pen_fits _ _ _ HW.out).mono ?_; rintro e w' ⟨rfl, rfl⟩)
  go_ret
  exact ⟨rfl, rfl⟩

/-- A number's bytes, the highest first. -/
def beOf (wd : Nat) (n : Int) : List UInt8 := (List.range wd).map fun i => UInt8.ofNat (n.toNat / 2 ^ (8 * (wd - 1 - i)))
def beAll (wd : Nat) (ns : List Int) : List UInt8 := ns.flatMap (beOf wd)

theorem beOf_length (wd : Nat) (n : Int) : (beOf wd n).length = wd := by simp [beOf]
theorem beOf_snoc (wd : Nat) (n : Int) (j : Nat) (h : j < wd) : (beOf wd n).take (j + 1) = (beOf wd n).take j ++ [UInt8.ofNat (n.toNat / 2 ^ (8 * (wd - 1 - j)))] := by
  rw [List.take_succ_eq_append_getElem (by rw [beOf_length]; exact h)]
  simp [beOf]
theorem beOf_val (n : Int) (e : Nat) (h : 0 ≤ n) : (Value.int .u8 (n / 2 ^ e % 256)) = .int .u8 ((UInt8.ofNat (n.toNat / 2 ^ e)).toNat : Int) := by
  obtain ⟨k, rfl⟩ := Int.eq_ofNat_of_zero_le h
  have h1 : (UInt8.ofNat (k / 2 ^ e)).toNat = k / 2 ^ e % 256 := by simp
  rw [Int.toNat_natCast, h1]
  congr 1

theorem beAll_length (wd : Nat) (ns : List Int) : (beAll wd ns).length = ns.length * wd := by
  induction ns with
  | nil => simp [beAll]
  | cons n ns ih =>
    have : beAll wd (n :: ns) = beOf wd n ++ beAll wd ns := rfl
    rw [this, List.length_append, beOf_length, ih, List.length_cons, Nat.add_mul]
    omega

theorem enters_of_Num_1 : ∀ args w, (callFunc 141 args).run Tryz.prog w = .ok (.enter 141 args) w :=
  enters_of Tryz.func141 (by kernel_rfl) rfl

theorem IsBuilder.below {T e : TypeId} {B b : Nat} {bs : List Value} {w w' : World} (h : Lib.IsBuilder T e B b bs w) (hb : Below w.heap.size w w') : Lib.IsBuilder T e B b bs w' := by
  have key : ∀ p, Lib.BuilderAt T e B b p bs w → Lib.BuilderAt T e B b p bs w' := by
    rintro p ⟨h1, v, h2, h3, h4⟩
    refine ⟨h1, v, (hb.block b (Array.getElem?_eq_some_iff.1 h2).1).trans h2, h3.kept (row := none) ⟨hb.os, hb.tape, hb.output, hb.size, fun k hk _ => hb.block k hk⟩ ?_, h4⟩
    cases v.ownBlock with
    | none => exact .inl rfl
    | some b => exact .inr (by simp)
  rcases h with h | h
  · exact .inl (key _ h)
  · exact .inr (key _ h)

theorem BF.cell {B b : Nat} {w w' : World} (h : BF B b w w') {a : Addr} {v : Value} (hs : a.block ≠ b ∧ ∀ cs fr, w.heap[a.block]? ≠ some (.cells cs 5 fr)) (hc : w.cell? a = some v) : w'.cell? a = some v := by
  have hlt := World.block_lt_of_cell? w a hc
  have h1 := h.other a.block w.heap[a.block] hs.1 (Array.getElem?_eq_getElem hlt) (fun cs fr e => hs.2 cs fr (by rw [Array.getElem?_eq_getElem hlt, e]))
  rw [← hc]
  exact World.cell?_of_block (h1.trans (Array.getElem?_eq_getElem hlt).symm)

theorem BF.box {B b k : Nat} {w w' : World} {cs : Array Value} {T : TypeId} {fr : Nat × Nat} (h : BF B b w w') (hb : w.heap[k]? = some (.cells cs T fr)) (hk : k ≠ b) (hT : T ≠ 5) : w'.heap[k]? = some (.cells cs T fr) :=
  h.other k _ hk hb (fun cs' fr' e => by injection e with _ e2; exact hT e2)

theorem beAll_snoc (wd : Nat) (ns : List Int) (k : Nat) (h : k < ns.length) : beAll wd (ns.take (k + 1)) = beAll wd (ns.take k) ++ beOf wd ns[k] := by
  unfold beAll
  rw [List.take_succ_eq_append_getElem h, List.flatMap_append]
  simp only [List.flatMap_cons, List.flatMap_nil, List.append_nil]

set_option maxHeartbeats 2000000 in
set_option maxRecDepth 100000 in
theorem Out_Num (B b : Nat) (bs : List Value) (wd : Int) (A : Option Addr) (c : Nat) (ns : List Int) (w : World) (h : Lib.IsBuilder 179 5 B b bs w) (hB : B ≤ w.heap.size) (hw : wd = 1 ∨ wd = 2 ∨ wd = 4)
    (hs : Sl1 (Value.int .i64) w A c ns) (hsep : ∀ a, A = some a → a.block ≠ b ∧ ∀ cs fr, w.heap[a.block]? ≠ some (.cells cs 5 fr)) (hok : ns.all (fit wd) = true) (hlen : bs.length + ns.length * 4 ≤ 140737488355328) :
    Calls Tryz.prog 123 #[.pointer (some ⟨b, 0, none⟩), .int .i64 wd, .slice A ns.length c] w fun e w' => e = .returned (.int .i64 0) ∧ Lib.IsBuilder 179 5 B b (bs ++ Lib.byteCells (beAll wd.toNat ns)) w' ∧ BF B b w w' := by
  have hlc := hs.len
  have hcap := hs.cap
  unfold maxLen at hcap
  obtain ⟨m, rfl⟩ : ∃ m : Nat, wd = m := ⟨wd.toNat, by omega⟩
  rw [Int.toNat_natCast]
  have HW := Lib.hid hw
  have hm1 : 1 ≤ m := by omega
  have hm4 : m ≤ 4 := by omega
  have hW : isW (m : Int) = true := by rcases hw with h | h | h <;> rw [h] <;> rfl
  have hany : ns.any (fun n => !fit m n) = false := by
    rw [List.any_eq_false]; intro x hx; have := List.all_eq_true.1 hok x hx; simp [this]
  have HA := Lib.hid hany
  have e1 := enters_of_Num_1
  clear hw hany
  go_enter Tryz.func123, Tryz.ntmps123
  go_wp2_with (go_at_call 126; refine (pen_isWidth _ _).mono ?_; rintro e w' ⟨rfl, rfl⟩; rw [hW])
  refine (sl_ContainsFunc_int 141 #[.pointer (some ⟨w.heap.size, 0, none⟩)] (fun n => !fit m n) A c ns _ (hs.below ?_) enters_of_Num_1 (fun W x hW => ?_)).mono ?_
  · exact (Below.refl _ w).alloc (Nat.le_refl _) _
  · have hcb : W.cell? ⟨w.heap.size, 0, none⟩ = some (.int .i64 m) := (hW.cell (p := ⟨w.heap.size, 0, none⟩) (by simp)).trans (by rw [Lib.cell_of_heap (heap_alloc_new _ _)]; rfl)
    exact (Num_1 w.heap.size m x W HW.out hcb).mono fun _ _ ⟨h1, h2⟩ => ⟨h1, by rw [h2]; exact Below.refl _ _⟩
  rintro e w1 ⟨rfl, hb1⟩
  rw [HA.out]
  have hwb1 := (hb1.block w.heap.size (by simp)).trans (heap_alloc_new w _)
  have hb2 : BF B b w w1 := BF.of_below (((Below.refl _ w).alloc (Nat.le_refl _) _).trans (hb1.mono (by simp))) hB
  have h1 := IsBuilder.below h (((Below.refl _ w).alloc (Nat.le_refl _) _).trans (hb1.mono (by simp)))
  have HWB := Lib.hid hwb1
  have HB2 := Lib.hid hb2
  have HI := Lib.hid h1
  have hblt : b < w.heap.size := by rcases h with h | h <;> exact h.lt
  have hBb : B ≤ b := by rcases h with h | h <;> exact h.1
  clear hb1 hb2 hwb1 h1 h
  go_wp2
  go_loopw [8, 9, 24, 25, 26, 27, 28, 29, 30, 31, 32, 33, 34, 35, 36, 37, 38, 39, 40, 41, 42, 43] (fun _ _ i _ _ _ _ _ _ _ _ _ _ _ _ _ _ _ _ _ _ _ wr => ∃ k : Nat, k ≤ ns.length ∧ i = .int .i64 k ∧ Lib.IsBuilder 179 5 B b (bs ++ Lib.byteCells (beAll m (ns.take k))) wr ∧ BF B b w wr ∧ wr.heap[w.heap.size]? = some (.cells #[.int .i64 m] 3 (0, 0))) (fun _ _ i _ _ _ _ _ _ _ _ _ _ _ _ _ _ _ _ _ _ _ _ => ns.length - (intOf i).toNat)
  case atStart => exact ⟨0, Nat.zero_le _, rfl, by simpa [beAll, Lib.byteCells] using HI.out, HB2.out, HWB.out⟩
  case round =>
    obtain ⟨k, hk, rfl, hI, hb, hwb⟩ := hrel
    have HI2 := Lib.hid hI
    have HB3 := Lib.hid hb
    have HW3 := Lib.hid hwb
    clear hI hb hwb
    by_cases hlt : k < ns.length
    · have hne : ns ≠ [] := by intro h; simp [h] at hlt
      obtain ⟨a, o, rfl, hal, hc⟩ := hs.at_ hne
      have h1 := HB3.out.cell (a := ⟨a, o + k, none⟩) (hsep ⟨a, o, none⟩ rfl) (hc k ns[k] (List.getElem?_eq_getElem hlt))
      have hwc : wr.cell? ⟨w.heap.size, 0, none⟩ = some (.int .i64 m) := by rw [Lib.cell_of_heap HW3.out]; rfl
      have HS := Lib.hid (beAll_snoc m ns k hlt)
      have hfit : fit m ns[k] = true := List.all_eq_true.1 hok _ (List.getElem_mem hlt)
      have HF := Lib.hid hfit
      clear hc hfit
      generalize hX : ns[k] = x at *
      clear hX
      have wwr : IntKind.i64.wrap ((m : Int) - 1) = (m : Int) - 1 := IntWalk.i64_in _ (by omega)
      obtain ⟨wo, rfl⟩ : ∃ wo : World, wo = wr := ⟨_, rfl⟩
      go_wp2
      go_loopw [9, 30, 31, 32, 33, 34, 35, 36, 37, 38, 39, 40, 41, 42] (fun i _ _ _ _ _ _ _ _ _ _ _ _ _ wo1 => ∃ j : Nat, j ≤ m ∧ i = .int .i64 ((m : Int) - 1 - j) ∧ Lib.IsBuilder 179 5 B b (bs ++ Lib.byteCells (beAll m (ns.take k)) ++ Lib.byteCells ((beOf m x).take j)) wo1 ∧ BF B b wo wo1) (fun i _ _ _ _ _ _ _ _ _ _ _ _ _ _ => (intOf i + 1).toNat)
      case atStart => exact ⟨0, Nat.zero_le _, by simp, by simpa [Lib.byteCells] using HI2.out, BF.refl _ _ _⟩
      case round =>
        obtain ⟨j, hj, rfl, hI4, hb4⟩ := hrel
        have HI4 := Lib.hid hI4
        have HB4 := Lib.hid hb4
        clear hI4 hb4
        by_cases hjm : j < m
        · have t1 : 0 ≤ (m : Int) - 1 - j := by omega
          have t1' : decide (0 ≤ (m : Int) - 1 - j) = true := decide_eq_true t1
          have t2 : IntKind.i64.wrap (8 * ((m : Int) - 1 - j)) = 8 * ((m : Int) - 1 - j) := IntWalk.i64_in _ (by omega)
          have t3 : 0 ≤ 8 * ((m : Int) - 1 - j) := by omega
          go_wp2
          refine wp_region_far_tail 8 mixed_ (by kernel_rfl) ?_
          simp only [List.take_succ_cons, List.take_zero, List.drop_succ_cons, List.drop_zero]
          repeat (go_big_quiet_step ((fail)))
          refine wpQuiet_nil ?_
          intro _ hw'
          obtain ⟨⟨nq, osq⟩, hw''⟩ := hw'
          subst hw''
          have hb5 := below_far wr nq osq
          have HI5 := Lib.hid (IsBuilder.below HI4.out hb5)
          have HB5 := Lib.hid (HB4.out.trans (BF.of_below (B := B) (b := b) hb5 (by have := HB3.out.below.size; have := HB4.out.below.size; omega)))
          generalize far wr nq osq = w5 at *
          clear hb5
          have hxx : 0 ≤ x := of_decide_eq_true (by have := HF.out; unfold fit at this; simp only [Bool.and_eq_true] at this; exact this.1)
          have HV := Lib.hid (beOf_val x (8 * (m - 1 - j)) hxx)
          have HSN := Lib.hid (beOf_snoc m x j hjm)
          have hl5 : (bs ++ Lib.byteCells (beAll m (ns.take k)) ++ Lib.byteCells ((beOf m x).take j)).length + 1 ≤ 140737488355328 := by
            simp only [List.length_append, Lib.byteCells_length, beAll_length, List.length_take, beOf_length]
            have hkm : min k ns.length * m ≤ k * 4 := Nat.mul_le_mul (Nat.min_le_left _ _) hm4
            have := Nat.min_le_left j m
            omega
          have h5 : B ≤ w5.heap.size := by have := HB3.out.below.size; have := HB5.out.below.size; omega
          go_wp2_with (go_at_call 138; refine (bld_WriteByte bldT_out B b _ _ w5 HI5.out hl5 h5).mono ?_)
          rintro e w6 ⟨rfl, hbu, hbf⟩
          rw [HV.out] at hbu
          have HU := Lib.hid hbu
          have HBF := Lib.hid hbf
          clear hbu hbf
          go_wp2
          go_roundw
          case rel =>
            refine ⟨j + 1, by omega, by congr 1; omega, ?_, HB5.out.trans HBF.out⟩
            rw [HSN.out, Lib.byteCells_append, ← List.append_assoc]
            exact .inr HU.out
          case measure => simp [intOf]; omega
        · obtain rfl : j = m := by omega
          have hfull : (beOf j x).take j = beOf j x := List.take_of_length_le (by rw [beOf_length]; exact Nat.le_refl _)
          have HFU := Lib.hid hfull
          clear hfull
          go_wp2
          go_roundw
          case rel =>
            refine ⟨k + 1, by omega, by go_num, ?_, HB3.out.trans HB4.out, HB4.out.box HW3.out (by omega) (by decide)⟩
            have := HI4.out
            rw [HFU.out] at this
            rwa [HS.out, Lib.byteCells_append, ← List.append_assoc]
          case measure => simp [intOf]; omega
    · obtain rfl : k = ns.length := by omega
      go_wp2
      go_ret
      have := HI2.out
      rw [List.take_length] at this
      exact ⟨rfl, this, HB3.out⟩

end Go.Proofs.YtjpakldnejpleaaGreat
