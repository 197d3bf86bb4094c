/- The reference's edges. -/
import Derived.Test.YtghmmcdeejhcjaaGreatSpRefB
import Derived.Test.YtghmmcdeejhcjaaGreatEdges
import Derived.Test.YtghmmcdeejhcjaaGreatInsB
namespace Go.Proofs.YtghmmcdeejhcjaaGreat
open Go.RowKit

/-- A list of spans that lies in memory: where, how many, the capacity, and what it reads as. -/
structure SRow where
  a : Option Addr
  n : Nat
  c : Nat
  l : List Sp
def SRow.val (r : SRow) : Value := .slice r.a r.n r.c
def SRow.good (w : World) (B : Nat) (r : SRow) : Prop := Rd w B 2 r.a r.n (flat Sp.cells r.l) ∧ r.l.length = r.n ∧ r.n ≤ 5000
def edgR (rs : List SRow) (out : List Int) : List Int := rs.foldl (fun o r => edgL o r.l) out
theorem edgR_sorted : ∀ (rs : List SRow) {out : List Int}, out.Pairwise (· < ·) → (edgR rs out).Pairwise (· < ·)
  | [], _, h => h
  | r :: rs, _, h => edgR_sorted rs (edgL_sorted r.l h)
theorem edgR_snoc (rs : List SRow) (r : SRow) (out : List Int) : edgR (rs ++ [r]) out = edgL (edgR rs out) r.l := by simp [edgR]
theorem edgL_snoc (l : List Sp) (x : Sp) (out : List Int) : edgL out (l ++ [x]) = edgS (edgL out l) x := by simp [edgL]
theorem edgR_length : ∀ (rs : List SRow) (out : List Int), (∀ r ∈ rs, r.l.length ≤ 5000) → (edgR rs out).length ≤ out.length + 10000 * rs.length
  | [], out, _ => by simp [edgR]
  | r :: rs, out, h => by
    have h1 := edgR_length rs (edgL out r.l) fun x hx => h x (by simp [hx])
    have h2 := edgL_length r.l out
    have h3 := h r (by simp)
    show (edgR rs (edgL out r.l)).length ≤ _
    simp only [List.length_cons]
    omega

end Go.Proofs.YtghmmcdeejhcjaaGreat
