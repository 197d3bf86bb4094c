/- What the laws' chains of calls share: a returned normal list under letters of its own; equal lists compared. -/
import Derived.Test.YthncjohekjnjaaaSpNth
namespace Go.Proofs.Ythncjohekjnjaaa
open Go.RowKit

theorem RetNf.open {w w' : World} {S : Int → Bool} {e : Ending} {b : Nat} (h : RetNf w S e w') (hb : (nf S).length ≤ b) :
    ∃ m k A c, Hid (m = nf S) ∧ e = .returned (.slice A k c) ∧ k ≤ b ∧ Ds w' A k m ∧ Below w.heap.size w w' := by
  obtain ⟨A, c, rfl, hown, hbw⟩ := h
  exact ⟨nf S, (nf S).length, A, c, rfl, rfl, hb, Ds.ofOwn hown rfl, hbw⟩
theorem sames_true {A A2 : Option Addr} {n n2 c c2 : Nat} {l l2 : List Sp} {w : World} (h : Ds w A n l) (h2 : Ds w A2 n2 l2) (he : l = l2) (hb : n ≤ 1000000) (hb2 : n2 ≤ 1000000) :
    Calls Try.prog 15 #[.slice A n c, .slice A2 n2 c2] w fun e w' => e = .returned (.bool true) ∧ Below w.heap.size w w' :=
  (sames_any A A2 n n2 c c2 l l2 w h.1 h2.1 h.2 h2.2 hb hb2).mono fun _ _ ⟨h3, h4⟩ => ⟨by rw [h3, he, eqB_self], h4⟩
theorem rcontains_nf {A : Option Addr} {n c : Nat} {l : List Sp} {w : World} (d : Int) (h : Ds w A n l) (hn : n ≤ 1000000) :
    Calls Try.prog 17 #[.slice A n c, .int .i64 d] w fun e w' => e = .returned (.bool (dset l d)) ∧ Below w.heap.size w w' :=
  (rcontains_any A n c l d w h.1 h.2 hn).mono fun _ _ ⟨h3, h4⟩ => ⟨h3, by subst h4; exact Below.refl _ _⟩
theorem Ds.len {w : World} {A : Option Addr} {n : Nat} {l : List Sp} (h : Ds w A n l) : l.length = n := h.2
theorem lenL_nf_bd (S : Int → Bool) : 0 ≤ lenL (nf S) ∧ lenL (nf S) ≤ 73050 := by
  have h1 := lenL_nn (nf_norm S)
  have h2 := lenL_bd (nf_norm S) (by omega)
  omega
/-- The same days, the same list. -/
theorem same_nf {m m' : List Sp} {S T : Int → Bool} (h : Hid (m = nf S)) (h' : Hid (m' = nf T)) (hST : ∀ x, isD x = true → S x = T x) : m = m' := by rw [h.out, h'.out, nf_congr hST]
theorem dset_of {m : List Sp} {S : Int → Bool} (h : Hid (m = nf S)) {x : Int} (hx : isD x = true) : dset m x = S x := by rw [h.out, dset_nf, hx, Bool.true_and]
theorem dset_nfd {m l : List Sp} (h : Hid (m = nf (dset l))) (x : Int) : dset m x = dset l x := by rw [h.out, dset_nf, dset_isD]
theorem dset_off {l : List Sp} {x : Int} (h : isD x = false) : dset l x = false := by rw [dset, h]; rfl
/-- A day in a list made of two. -/
theorem dset_gv (g : Bool → Bool → Bool) (hg : g false false = false) {m a b : List Sp} (h : Hid (m = nf fun x => g (dset a x) (dset b x))) (x : Int) {p q r : Bool} (ha : Hid (dset a x = p)) (hb : Hid (dset b x = q)) (hr : g p q = r) : dset m x = r := by
  rw [h.out, dset_nf]
  cases hx : isD x with
  | true => rw [Bool.true_and, ha.out, hb.out, hr]
  | false =>
    have h1 := ha.out
    have h2 := hb.out
    rw [dset_off hx] at h1 h2
    rw [Bool.false_and, ← hr, ← h1, ← h2, hg]
theorem lenL_zero : ∀ {l : List Sp} {lo : Int}, NormFrom lo l → lenL l = 0 → l = []
  | [], _, _, _ => rfl
  | s :: r, lo, ⟨_, h2, _, h4⟩, h => by
    have h5 := lenL_nn h4
    have h6 : lenL (s :: r) = (s.t - s.f) + lenL r := rfl
    omega
theorem one_span (w : World) (f t : Int) : ∃ W, W = w.alloc (.cells #[.int .i64 f, .int .i64 t] 48) ∧ Ds W (some ⟨w.heap.size, 0, none⟩) 1 [⟨f, t⟩] ∧ Below w.heap.size w W :=
  ⟨_, rfl, ⟨Rd.built (cs := #[.int .i64 f, .int .i64 t]) (heap_alloc_new w _) (by simp) rfl, rfl⟩, (Below.refl _ _).alloc (Nat.le_refl _) _⟩
theorem dset_all {x : Int} (h : isD x = true) : dset [⟨0, 73049⟩] x = true := by
  rw [dset, h, Bool.true_and, cov_cons, cov_nil, Bool.or_false]
  exact (inS_iff _ _).2 ((isD_iff x).1 h)
end Go.Proofs.Ythncjohekjnjaaa
