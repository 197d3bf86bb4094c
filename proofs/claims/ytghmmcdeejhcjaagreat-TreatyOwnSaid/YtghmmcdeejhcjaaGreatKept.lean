/- A region that draws its order, whose operations read and whose callees may make memory but change nothing that was there: one walk serves every order. No program of the seat is named here. -/
import Derived.Test.YtghmmcdeejhcjaaGreatBase
import Derived.Deep.QuietTactic
import Derived.BigQuiet
import Derived.Below
namespace Go.Proofs.YtghmmcdeejhcjaaGreat
open Go.RowKit

/-- A world in which all that was there reads as before. -/
def Kw (W : World) : Type := { u : World // Below W.heap.size W u }
instance (W : World) : Nonempty (Kw W) := ⟨⟨W, Below.refl _ W⟩⟩
theorem Kw.cell {W : World} (u : Kw W) {p : Addr} {v : Value} (hp : p.block < W.heap.size) (h : W.cell? p = some v) : u.1.cell? p = some v := (u.2.cell hp).trans h
theorem Kw.call {W : World} (u : Kw W) {w' : World} (h : Below u.1.heap.size u.1 w') : ∃ u' : Kw W, w' = u'.1 := ⟨⟨w', u.2.trans (h.mono u.2.size)⟩, rfl⟩
/-- The walk of the text's order, in every such world. -/
theorem wp_region_kept {P : Program} {id : Nat} {Q : Exit → Act → World → Prop} {a : Act} {W : World} {l : List Oper} (hm : P.follows .mixedOrders = true) (hB : Region.lexB .any l.toArray = true)
    (h : wpQuiet P l.toArray (fun w' => ∃ u : Kw W, w' = u.1) (fun a' => ∀ w', (∃ u : Kw W, w' = u.1) → Q .normal a' w') l a) : (Code.region id l.toArray true).wp P Q a W :=
  wp_region_quiet (C := fun w' => ∃ u : Kw W, w' = u.1) hm hB ⟨⟨W.drew, (Below.refl _ W).drew⟩, rfl⟩ (by simpa using h)
end Go.Proofs.YtghmmcdeejhcjaaGreat
