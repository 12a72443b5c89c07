/- capa: Of, sum, Weight, Holds. -/
import Derived.Test.YtjpakldnejpleaaGreatSame
namespace Go.Proofs.YtjpakldnejpleaaGreat
open Go.RowKit

def planCap (n : Nat) : Nat := 215 * (5 * ((n - (2 + n / 8) - 2) / 2 - 3) / 6) - 1
def planV (n : Nat) : Value := .agg #[.int .i64 n, .int .i64 ((n / 8 : Nat) : Int), .int .i64 ((2 + n / 8 : Nat) : Int), .int .i64 ((n - (2 + n / 8) : Nat) : Int), .int .i64 (((n - (2 + n / 8) - 2) / 2 : Nat) : Int), .int .i64 ((5 * ((n - (2 + n / 8) - 2) / 2 - 3) / 6 : Nat) : Int), .int .i64 (planCap n : Int)]

set_option maxHeartbeats 2000000 in
set_option maxRecDepth 100000 in
theorem capa_Of (n : Nat) (h1 : 64 ≤ n) (h2 : n ≤ 512) (w : World) : Calls Tryz.prog 19 #[.int .i64 n] w fun e w' => e = .returned (.tuple #[planV n, .int .i64 0]) ∧ Below w.heap.size w w' := by
  have d1 : decide ((n : Int) < 64) = false := by simp; omega
  have d2 : decide ((512 : Int) < (n : Int)) = false := by simp; omega
  obtain ⟨a, ha⟩ : ∃ a : Nat, a = n / 8 := ⟨_, rfl⟩
  have e1 : (n : Int).tdiv 8 = (a : Int) := by rw [Int.tdiv_eq_ediv_of_nonneg (by omega)]; omega
  have e1' : (n : Int) / 8 = (a : Int) := by omega
  have ha8 : ¬ (a : Int) < 8 := by omega
  have ha9 : (a : Int) ≤ 64 := by omega
  have HA := Lib.hid ha
  have H1 := Lib.hid h1
  have H2 := Lib.hid h2
  clear ha h1 h2
  go_enter Tryz.func19, Tryz.ntmps19
  go_wp2
  have h1 := H1.out
  have h2 := H2.out
  have ha := HA.out
  refine bodyPost_ret (v := .tuple #[planV n, .int .i64 0]) ?_ rfl ⟨rfl, ((below_alloc_1 w _).alloc (by simp) _)⟩
  simp only [results, Tryz.results19, planV, planCap]
  simp [go_sem]
  rw [← ha]
  have e1' : (n : Int) / 8 = (a : Int) := by omega
  have em : max 8 (a : Int) = a := by omega
  rw [em]
  refine ⟨by omega, by omega, by omega, by omega, by omega⟩

def planZ : Value := .agg #[.int .i64 0, .int .i64 0, .int .i64 0, .int .i64 0, .int .i64 0, .int .i64 0, .int .i64 0]

set_option maxHeartbeats 2000000 in
theorem capa_Of_bad (n : Int) (h : n < 64 ∨ 512 < n) (w : World) : Calls Tryz.prog 19 #[.int .i64 n] w fun e w' => e = .returned (.tuple #[planZ, .int .i64 1]) ∧ Below w.heap.size w w' := by
  by_cases h1 : n < 64
  · have d1 : decide (n < 64) = true := by simpa using h1
    clear h
    go_enter Tryz.func19, Tryz.ntmps19
    go_wp2
    exact bodyPost_ret (v := .tuple #[planZ, .int .i64 1]) (by simp [results, Tryz.results19, planZ, go_sem]) rfl ⟨rfl, below_alloc_1 _ _⟩
  · have d1 : decide (n < 64) = false := by simpa using h1
    have d2 : decide (512 < n) = true := by simp; omega
    have h2 : 512 < n := by omega
    clear h
    go_enter Tryz.func19, Tryz.ntmps19
    go_wp2
    exact bodyPost_ret (v := .tuple #[planZ, .int .i64 1]) (by simp [results, Tryz.results19, planZ, go_sem]) rfl ⟨rfl, below_alloc_1 _ _⟩

set_option maxHeartbeats 1000000 in
theorem capa_Holds (n k : Nat) (w : World) : Calls Tryz.prog 75 #[planV n, .int .i64 k] w fun e w' => e = .returned (.bool (decide (k ≤ planCap n))) ∧ Below w.heap.size w w' := by
  unfold planV
  have hk : (0 : Int) ≤ (k : Int) := by omega
  obtain ⟨r, hr⟩ : ∃ r, r = decide (k ≤ planCap n) := ⟨_, rfl⟩
  rw [← hr]
  have HR := Lib.hid hr
  clear hr
  go_enter Tryz.func75, Tryz.ntmps75
  go_wp2
  go_ret
  refine ⟨?_, below_alloc_1 _ _⟩
  rw [HR.out]
  simp

theorem enters_of_key_Weight : ∀ args w, (callFunc 52 args).run Tryz.prog w = .ok (.enter 52 args) w :=
  enters_of Tryz.func52 (by kernel_rfl) rfl

set_option maxHeartbeats 2000000 in
set_option maxRecDepth 100000 in
theorem capa_sum (A : Option Addr) (c : Nat) (xs : List It) (w : World) (hs : SlIt w A c xs) (hok : ∀ x ∈ xs, x.ok = true) (hx : xs.length ≤ 4398046511104) :
    Calls Tryz.prog 51 #[.slice A xs.length c, .func (.func 52) #[] #[]] w fun e w' => e = .returned (.int .i64 (wt xs)) ∧ Below w.heap.size w w' := by
  have hlen := hs.len
  have hcap := hs.cap
  unfold maxLen at hcap
  have hee := enters_of_key_Weight
  go_enter Tryz.func51, Tryz.ntmps51
  go_wp2
  go_loopw [5, 10] (fun v i wr => ∃ k : Nat, k ≤ xs.length ∧ i = .int .i64 k ∧ v = .int .i64 (wt (xs.take k)) ∧ Below w.heap.size w wr) (fun _ i _ => xs.length - (intOf i).toNat)
  case atStart => exact ⟨0, Nat.zero_le _, rfl, rfl, Below.refl _ _⟩
  case round =>
    obtain ⟨k, hk, rfl, rfl, hb⟩ := hrel
    have HB := Lib.hid hb
    by_cases hlt : k < xs.length
    · have hne : xs ≠ [] := by intro h; simp [h] at hlt
      obtain ⟨b, o, rfl, hbl, hc⟩ := hs.at_ hne
      obtain ⟨h1, h2⟩ := hc k xs[k] (List.getElem?_eq_getElem hlt)
      replace h1 := (hb.cell (p := ⟨b, o + k * 2, none⟩) hbl).trans h1
      replace h2 := (hb.cell (p := ⟨b, o + k * 2 + 1, none⟩) hbl).trans h2
      have HS := Lib.hid (wt_take_succ hlt)
      have hw1 := wt_le (xs := xs.take k) (fun x hx => hok x (List.mem_of_mem_take hx))
      have hw2 := It.w_le (hok _ (List.getElem_mem hlt))
      rw [List.length_take, Nat.min_eq_left hk] at hw1
      have hw3 : xs[k].k.size + xs[k].v.size ≤ 9223372036854775000 := by unfold It.w at hw2; omega
      have hkl : (k : Int) < (xs.length : Int) := by omega
      clear hb hc
      generalize xs[k] = x at *
      generalize wt (xs.take k) = q at *
      have HW := Lib.hid (key_Weight x (wr.alloc (.cells #[.string x.k, .string x.v] 41)) hw3)
      have HBa := Lib.hid (below_alloc1 wr (.cells #[.string x.k, .string x.v] 41))
      unfold It.agg at HW
      clear hw3
      generalize x.w = xw at *
      go_wp2_with fail
      refine HW.out.mono ?_
      rintro e w1 ⟨rfl, hb1⟩
      have HB1 := Lib.hid (HB.out.trans ((HBa.out.trans (hb1.mono HBa.out.size)).mono HB.out.size))
      clear hb1 HW
      have hsum : IntKind.i64.wrap ((q : Int) + xw) = (q : Int) + xw := IntWalk.i64_in _ (by omega)
      go_wp2
      go_roundw
      case rel => exact ⟨k + 1, hlt, by go_num, by rw [HS.out]; rfl, HB1.out⟩
      case measure => simp [intOf]; omega
    · have hkl : ¬ (k : Int) < (xs.length : Int) := by omega
      have hte : xs.take k = xs := List.take_of_length_le (by omega)
      rw [hte]
      clear hb hte
      go_wp2
      go_ret
      exact ⟨rfl, HB.out⟩

set_option maxHeartbeats 1000000 in
theorem capa_Weight (A : Option Addr) (c : Nat) (xs : List It) (w : World) (hs : SlIt w A c xs) (hok : ∀ x ∈ xs, x.ok = true) (hx : xs.length ≤ 4398046511104) :
    Calls Tryz.prog 16 #[.slice A xs.length c] w fun e w' => e = .returned (.int .i64 (wt xs)) ∧ Below w.heap.size w w' := by
  have H := Lib.hid (capa_sum A c xs w hs hok hx)
  go_enter Tryz.func16, Tryz.ntmps16
  go_wp2_with fail
  refine H.out.mono ?_
  rintro e w1 ⟨rfl, hb⟩
  have HB := Lib.hid hb
  clear hb H
  go_wp2
  go_ret
  exact ⟨rfl, HB.out⟩

end Go.Proofs.YtjpakldnejpleaaGreat
