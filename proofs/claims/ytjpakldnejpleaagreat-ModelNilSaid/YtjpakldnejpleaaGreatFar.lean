/- Regions that draw their order, whose own operations only read, and whose callees change nothing that lay before (they may make memory and draw). -/
import Derived.Test.YtjpakldnejpleaaGreatBld
import Derived.WalkKit
import Derived.Deep.QuietTactic
import Derived.BigQuiet
namespace Go.Proofs.YtjpakldnejpleaaGreat
open Go.RowKit

structure FarBy where
  n : Nat
  os : Array Obj
deriving Inhabited

/-- The world w, with blocks behind it, its draws at n. -/
def far (w : World) (n : Nat) (os : Array Obj) : World := { w with heap := w.heap ++ os, drawn := n }

theorem far_of_below {w w' : World} (h : Below w.heap.size w w') : ∃ p : FarBy, w' = far w p.n p.os := by
  refine ⟨⟨w'.drawn, w'.heap.extract w.heap.size w'.heap.size⟩, ?_⟩
  obtain ⟨h1, h2, h3, h4, h5⟩ := h
  cases w' with
  | mk heap tape drawn os output =>
    simp only [far, World.mk.injEq] at *
    refine ⟨?_, h2, trivial, h1, h3⟩
    apply Array.ext_getElem?
    intro i
    rw [Array.getElem?_append]
    split
    · next hi => exact h5 i hi
    · next hi =>
      rw [Array.getElem?_extract]
      split
      · congr 1; omega
      · rw [Array.getElem?_eq_none (by omega)]

theorem below_far (w : World) (n : Nat) (os : Array Obj) : Below w.heap.size w (far w n os) :=
  ⟨rfl, rfl, rfl, by simp [far], fun k hk => by simp [far, Array.getElem?_append, hk]⟩

theorem wp_region_quiet_far {P : Program} {id : Nat} {Q : Exit → Act → World → Prop} {a : Act} {w : World} {l : List Oper} (hm : P.follows .mixedOrders = true) (hB : Region.lexB .any l.toArray = true)
    (h : wpQuiet P l.toArray (fun w' => ∃ p : FarBy, w' = far w p.n p.os) (fun a' => ∀ w', (∃ p : FarBy, w' = far w p.n p.os) → Q .normal a' w') l a) : (Code.region id l.toArray true).wp P Q a w :=
  wp_region_quiet (C := fun w' => ∃ p : FarBy, w' = far w p.n p.os) hm hB ⟨⟨w.drawn + 1, #[]⟩, by simp [far]⟩ (by simpa using h)

theorem far_cell {w : World} {b o : Nat} {v : Value} (h : w.cell? ⟨b, o, none⟩ = some v) (n : Nat) (os : Array Obj) : (far w n os).cell? ⟨b, o, none⟩ = some v :=
  ((below_far w n os).cell (p := ⟨b, o, none⟩) (World.block_lt_of_cell? w _ h)).trans h

theorem calls_far {P : Program} {f : FuncId} {args : Array Value} {w : World} {n : Nat} {os : Array Obj} {v : Value}
    (h : Calls P f args (far w n os) fun e w' => e = .returned v ∧ Below (far w n os).heap.size (far w n os) w') : Calls P f args (far w n os) fun e w'' => e = .returned v ∧ ∃ p : FarBy, w'' = far w p.n p.os :=
  h.mono fun _ _ ⟨he, hb⟩ => ⟨he, far_of_below ((below_far w n os).trans (hb.mono (below_far w n os).size))⟩

end Go.Proofs.YtjpakldnejpleaaGreat
