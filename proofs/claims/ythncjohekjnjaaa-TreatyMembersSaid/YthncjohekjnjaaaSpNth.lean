/- Nth and Last of the program and of the reference; the reference's Days. -/
import Derived.Test.YthncjohekjnjaaaSpLawB
namespace Go.Proofs.Ythncjohekjnjaaa
open Go.RowKit

theorem norm_fit : ∀ {l : List Sp} {lo : Int}, NormFrom lo l → -1 ≤ lo → ∀ s ∈ l, Fit s
  | [], _, _, _, s, hs => by simp at hs
  | p :: r, lo, ⟨h1, h2, h3, h4⟩, h, s, hs => by
    rcases List.mem_cons.1 hs with rfl | hs
    · exact ⟨by omega, h2, h3⟩
    · exact norm_fit h4 (by omega) s hs
theorem nf_fit (S : Int → Bool) : ∀ s ∈ nf S, Fit s := norm_fit (nf_norm S) (Int.le_refl _)
theorem lenF : ∀ (l : List Sp), (∀ s ∈ l, Fit s) → 0 ≤ lenL l ∧ lenL l ≤ 73049 * l.length
  | [], _ => by simp [lenL]
  | s :: r, h => by
    have h1 := lenF r fun x hx => h x (by simp [hx])
    obtain ⟨a, b, c⟩ := h s (by simp)
    unfold lenL
    simp only [List.length_cons]
    omega
theorem nf_length_le {l : List Sp} {n : Nat} (hl : l.length = n) : (nf (dset l)).length ≤ 2 * n := by
  have h1 := comb_eq (fun x y => x || y) rfl l []
  have h2 := combS_length (fun x => dset l x || dset [] x) (edgL (edgL [] l) []) []
  have h3 := edgL_length [] (edgL [] l)
  have h4 := edgL_length l []
  rw [h1] at h2
  have h5 : nf (fun x => dset l x || dset [] x) = nf (dset l) := nf_congr fun x _ => by simp [dset, cov]
  rw [h5] at h2
  simp at *
  omega

theorem nfc_len {la lb : List Sp} {n m : Nat} (g : Bool → Bool → Bool) (hg : g false false = false) (hn : la.length = n) (hm : lb.length = m) : (nf fun x => g (dset la x) (dset lb x)).length ≤ 2 * n + 2 * m := by
  have h1 := comb_eq g hg la lb
  have h2 := combS_length (fun x => g (dset la x) (dset lb x)) (edgL (edgL [] la) lb) []
  have h3 := edgL_length lb (edgL [] la)
  have h4 := edgL_length la []
  rw [h1] at h2
  simp at *
  omega

def nthL : List Sp → Int → Int × Bool
  | [], _ => (0, false)
  | s :: r, n => if n < s.t - s.f then (s.f + n, true) else nthL r (n - (s.t - s.f))
def nthV (m : List Sp) (n : Int) : Int × Bool := if n < 0 then (0, false) else nthL m n
def lastV (m : List Sp) : Int × Bool := match m.getLast? with
  | some s => (s.t - 1, true)
  | none => (0, false)
def pairV (p : Int × Bool) : Value := .tuple #[.int .i64 p.1, .bool p.2]

end Go.Proofs.Ythncjohekjnjaaa
