/- Slices of items: words, and the contracts of package slices' functions at items. -/
import Derived.Test.YtjpakldnejpleaaGreatRows
import Derived.WalkKit
import Derived.WalkSpells
import Derived.WalkLawsBesides
import Derived.Deep.RegionWith
import Derived.Deep.QuietTactic
import Derived.BigQuiet
import Derived.Lib.Hide
import Derived.Deep.Draws
namespace Go.Proofs.YtjpakldnejpleaaGreat
open Go.RowKit

/-- An item: a key, a value. -/
structure It where
  k : ByteArray
  v : ByteArray
deriving Inhabited, DecidableEq

def It.agg (x : It) : Value := .agg #[.string x.k, .string x.v]

theorem addr_add (b o n : Nat) : (⟨b, o, none⟩ : Addr).add n = ⟨b, o + n, none⟩ := by
  unfold Addr.add
  split
  · subst_vars; rfl
  · rfl

/-- A slice of items that reads as xs: `A` is where it begins, `c` its capacity. -/
structure SlIt (w : World) (A : Option Addr) (c : Nat) (xs : List It) : Prop where
  len : xs.length ≤ c
  cap : c ≤ maxLen
  at_ : xs ≠ [] → ∃ b o, A = some ⟨b, o, none⟩ ∧ b < w.heap.size ∧ ∀ i x, xs[i]? = some x → w.cell? ⟨b, o + i * 2, none⟩ = some (.string x.k) ∧ w.cell? ⟨b, o + i * 2 + 1, none⟩ = some (.string x.v)

theorem SlIt.below {w w' : World} {A : Option Addr} {c : Nat} {xs : List It} (h : SlIt w A c xs) (hb : Below w.heap.size w w') : SlIt w' A c xs :=
  ⟨h.len, h.cap, fun hn => by
    obtain ⟨b, o, rfl, hlt, hc⟩ := h.at_ hn
    exact ⟨b, o, rfl, Nat.lt_of_lt_of_le hlt hb.size, fun i x hx => ⟨(hb.cell (p := ⟨b, _, none⟩) hlt).trans (hc i x hx).1, (hb.cell (p := ⟨b, _, none⟩) hlt).trans (hc i x hx).2⟩⟩⟩

theorem below_step {w w1 w2 : World} (h : Below w.heap.size w w1) (h2 : Below w1.heap.size w1 w2) : Below w.heap.size w w2 :=
  h.trans (h2.mono h.size)

def It.idx (p : It → Bool) (xs : List It) : Int := match xs.findIdx? p with | some i => i | none => -1

set_option maxHeartbeats 1000000 in
theorem sl_IndexFunc_it (g : FuncId) (cb : Array Value) (p : It → Bool) (A : Option Addr) (c : Nat) (xs : List It) (w : World) (hs : SlIt w A c xs)
    (eg : ∀ args W, (callFunc g args).run Tryz.prog W = .ok (.enter g args) W)
    (hp : ∀ W x, Below w.heap.size w W → Calls Tryz.prog g (#[x.agg] ++ cb) W fun e W' => e = .returned (.bool (p x)) ∧ Below W.heap.size W W') :
    Calls Tryz.prog 109 #[.slice A xs.length c, .func (.func g) #[] cb] w fun e w' => e = .returned (.int .i64 (It.idx p xs)) ∧ Below w.heap.size w w' := by
  have hlen := hs.len
  have hcap := hs.cap
  unfold maxLen at hcap
  have HP := Lib.hid hp
  clear hp
  go_enter Tryz.func109, Tryz.ntmps109
  go_wp2
  go_loopw [8] (fun i wr => ∃ k : Nat, k ≤ xs.length ∧ i = .int .i64 k ∧ Below w.heap.size w wr ∧ (xs.take k).findIdx? p = none) (fun i _ => xs.length - (intOf i).toNat)
  case atStart => exact ⟨0, Nat.zero_le _, rfl, Below.refl _ _, by simp⟩
  case round =>
    obtain ⟨k, hk, rfl, hb, hno⟩ := hrel
    by_cases hlt : k < xs.length
    · have hne : xs ≠ [] := by intro h; simp [h] at hlt
      obtain ⟨b, o, rfl, hbl, hc⟩ := hs.at_ hne
      obtain ⟨h1, h2⟩ := hc k xs[k] (List.getElem?_eq_getElem hlt)
      replace h1 := (hb.cell (p := ⟨b, o + k * 2, none⟩) hbl).trans h1
      replace h2 := (hb.cell (p := ⟨b, o + k * 2 + 1, none⟩) hbl).trans h2
      have HB := Lib.hid hb
      clear hb hc
      have tk : (xs.take (k + 1)).findIdx? p = if p xs[k] then some k else none := by
        rw [List.take_succ_eq_append_getElem hlt, List.findIdx?_append, hno]
        simp [List.findIdx?_cons, Nat.min_eq_left hk]
      have HT := Lib.hid tk
      clear tk
      go_wp2_with fail
      refine (HP.out _ xs[k] HB.out).mono ?_
      rintro e w1 ⟨rfl, hb1⟩
      have HB1 := Lib.hid hb1
      clear hb1
      cases hpk : p xs[k]
      · have HK := Lib.hid hpk
        clear hpk
        go_wp2
        go_roundw
        case rel => exact ⟨k + 1, by omega, by go_num, below_step HB.out HB1.out, by rw [HT.out, HK.out]; rfl⟩
        case measure => simp [intOf]; omega
      · have HK := Lib.hid hpk
        clear hpk
        go_wp2
        go_ret
        refine ⟨?_, below_step HB.out HB1.out⟩
        have : It.idx p xs = k := by
          unfold It.idx
          have : xs.findIdx? p = some k := by
            rw [← List.take_append_drop (k + 1) xs, List.findIdx?_append, HT.out, HK.out]; rfl
          rw [this]
        rw [this]; rfl
    · have hkx : k = xs.length := by omega
      have HB := Lib.hid hb
      clear hb
      have : It.idx p xs = -1 := by
        unfold It.idx
        have : xs.findIdx? p = none := by rw [← hno, hkx, List.take_length]
        rw [this]
      have HI := Lib.hid this
      clear this hkx
      go_wp2
      go_ret
      exact ⟨by rw [HI.out]; rfl, HB.out⟩

theorem It.idx_ge (p : It → Bool) (xs : List It) : decide (0 ≤ It.idx p xs) = xs.any p := by
  unfold It.idx
  cases h : xs.findIdx? p with
  | none =>
    have : xs.any p = false := by
      rw [List.any_eq_false]
      intro x hx
      have := List.findIdx?_eq_none_iff.1 h x hx
      simp [this]
    rw [this]; rfl
  | some i =>
    have : xs.any p = true := by
      obtain ⟨hi, hp, _⟩ := List.findIdx?_eq_some_iff_getElem.1 h
      exact List.any_eq_true.2 ⟨xs[i], List.getElem_mem hi, hp⟩
    rw [this]; simp

set_option maxHeartbeats 1000000 in
theorem sl_ContainsFunc_it (g : FuncId) (cb : Array Value) (p : It → Bool) (A : Option Addr) (c : Nat) (xs : List It) (w : World) (hs : SlIt w A c xs)
    (eg : ∀ args W, (callFunc g args).run Tryz.prog W = .ok (.enter g args) W)
    (hp : ∀ W x, Below w.heap.size w W → Calls Tryz.prog g (#[x.agg] ++ cb) W fun e W' => e = .returned (.bool (p x)) ∧ Below W.heap.size W W') :
    Calls Tryz.prog 79 #[.slice A xs.length c, .func (.func g) #[] cb] w fun e w' => e = .returned (.bool (xs.any p)) ∧ Below w.heap.size w w' := by
  have H := sl_IndexFunc_it g cb p A c xs w hs eg hp
  clear hp eg
  go_enter Tryz.func79, Tryz.ntmps79
  go_wp2_with fail
  refine H.mono ?_
  rintro e w1 ⟨rfl, hb1⟩
  have HB1 := Lib.hid hb1
  clear hb1 H
  go_wp2
  go_ret
  refine ⟨?_, HB1.out⟩
  rw [← It.idx_ge]; rfl

end Go.Proofs.YtjpakldnejpleaaGreat
