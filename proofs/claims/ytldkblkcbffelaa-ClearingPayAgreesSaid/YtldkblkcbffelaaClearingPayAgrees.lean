/- The walk of ClearingPayAgrees. -/
import Derived.Test.YtldkblkcbffelaaPayB
namespace Go.Proofs.Ytldkblkcbffelaa
open Go.RowKit

def Rw.pay (r : Rw) : Dt := ⟨r.d, r.c, r.u, r.a⟩
theorem flat_pay (l : List Rw) : flat Rw.cells l = flat Dt.cells (l.map Rw.pay) := by
  induction l with
  | nil => rfl
  | cons r l ih => rw [List.map_cons, flat_cons, flat_cons, ih]; rfl
/-- The reference stays while the program pays. -/
theorem RefA.paid {w w' : World} {lb mb rb : Nat} {L K : List Dt} (hr : RefA w rb K) (h : Led w lb mb L) (hg : w.grownBy w' (some lb)) : RefA w' rb K :=
  hr.grown hg (fun e => (h.ref_ne hr).1 (by injection e with e; exact e.symm)) (fun k e cur fr hk => by
    injection e with e
    subst e
    exact (h.notRow (by decide) hk).1 rfl)

set_option maxHeartbeats 4000000 in
theorem walkClearingPayAgrees (A : Option Addr) (n c : Nat) (l : List Rw) (A' : Option Addr) (n' c' : Nat) (l' : List Rw) (A2 : Option Addr) (n2 c2 : Nat) (l2 : List Rw) (w : World) (h : Rd w w.heap.size 4 A n (flat Rw.cells l)) (hok : ∀ r ∈ l, r.ok) (hn : n = l.length) (hn2 : n ≤ maxLen)
    (h' : Rd w w.heap.size 4 A' n' (flat Rw.cells l')) (hok' : ∀ r ∈ l', r.ok) (hn' : n' = l'.length) (hn2' : n' ≤ maxLen)
    (hr2 : Rd w w.heap.size 4 A2 n2 (flat Rw.cells l2)) (_ : ∀ r ∈ l2, r.ok) (hl2 : n2 = l2.length) (_ : n2 ≤ maxLen) :
    Calls Try.prog 11 #[.slice A n c, .slice A' n' c', .slice A2 n2 c2] w fun e w' => e = .returned (.bool true) ∧ Below w.heap.size w w' := by
  rw [flat_pay] at hr2
  have hm2 : (l2.map Rw.pay).length = n2 := by simp [hl2]
  generalize l2.map Rw.pay = R at *
  have HR := Lib.hid hm2
  have Hn := Lib.hid hn
  have Hn' := Lib.hid hn'
  clear hn hn' hm2 hl2
  go_enter Try.func11, Try.ntmps11
  go_wp2_with fail
  refine (ledgers_any A n c l w h hok Hn.out hn2).mono ?_
  rintro e w1 ⟨lb, mb, rb, rfl, hL, hR, hb1, hlb, hmb, hrb⟩
  have hsh := held_len l
  generalize heldOf [] (debtsOf l) = L at *
  by_cases hbig : 20 < n2
  · have hbig2 : (20 : Int) < (n2 : Int) := by omega
    go_wp2_with fail
    refine (awake_any w1).mono ?_
    rintro e w2 ⟨rfl, hb2⟩
    have hbb2 := hb1.trans (hb2.mono hb1.size)
    go_wp2_with fail
    refine (awake_any w2).mono ?_
    rintro e w3 ⟨rfl, hb3⟩
    go_wp2_with fail
    go_ret
    exact ⟨rfl, hbb2.trans (hb3.mono hbb2.size)⟩
  · have hbig2 : ¬ (20 : Int) < (n2 : Int) := by omega
    go_wp2_with fail
    refine (awake_any w1).mono ?_
    rintro e w2 ⟨rfl, hb2⟩
    have hbb2 := hb1.trans (hb2.mono hb1.size)
    have hL2 := hL.below hb2
    have hR2 := hR.below hb2
    have hz2 := hbb2.size
    clear hL hR hb1 hb2
    go_wp2_with fail
    refine (debts_any A' n' c' l' w2 ((h'.below hbb2).mono hz2) hok' Hn'.out hn2').mono ?_
    rintro e w4 ⟨v, rfl, hown4, hb4⟩
    have hown := ownsRow_base (base' := 0) hown4 (Nat.zero_le _)
    have hbb4 := hbb2.trans (hb4.mono hz2)
    have hL4 := hL2.below hb4
    have hR4 := hR2.below hb4
    have hlen : (debtsOf l').length ≤ 20 := by simp [debtsOf, List.length_take]; omega
    clear hL2 hR2 hbb2 hown4 hb4
    generalize debtsOf l' = D at *
    obtain ⟨A1, c1, rfl, hnc1, hcm1, hA1⟩ := own_form hown
    generalize hN : D.length = N at *
    have HN := Lib.hid hN
    clear hN hA1
    go_wp2_with fail
    refine (pay_led lb mb A1 N c1 L D w4 hL4 (Rd.ofOwn hown) HN.out (by omega) (by omega)).mono ?_
    rintro e w5 ⟨rfl, mb5, hL5, hg5, _⟩
    have hR5 := hR4.paid hL4 hg5
    have hown5 := hown.kept hg5 (.inr (hL4.own_ne hown).2)
    have hbb5 := hbb4.grown hg5 hbb4.size (fun k e => by injection e with e; omega)
    clear hL4 hR4 hown hbb4
    go_wp2_with fail
    refine (rpay_led rb A1 N c1 L D w5 hR5 (Rd.ofOwn hown5) HN.out (by omega) (by omega)).mono ?_
    rintro e w6 ⟨rfl, hR6, hg6⟩
    have hL6 := hL5.beside hR5 hg6
    have hbb6 := hbb5.grown hg6 hbb5.size (fun k e => by injection e with e; omega)
    have hpl := payNext_length L D
    have hLl : (payNext L D).length ≤ 40 := by have := HN.out; omega
    clear hL5 hR5 hbb5 hown5 hpl
    generalize payNext L D = K at *
    generalize payCode L D = cd at *
    go_wp2_with fail
    refine (same_any lb mb5 rb K w6 hL6 hR6 (by omega)).mono ?_
    rintro e w7 ⟨rfl, hb7⟩
    have hL7 := hL6.below hb7
    have hR7 := hR6.below hb7
    have hbb7 := hbb6.trans (hb7.mono hbb6.size)
    clear hL6 hR6 hbb6 hb7
    go_wp2_with fail
    refine (pay_led lb mb5 A2 n2 c2 K R w7 hL7 ((hr2.below hbb7).mono hbb7.size) HR.out (by omega) (by omega)).mono ?_
    rintro e w8 ⟨rfl, mb8, hL8, hg8, _⟩
    have hR8 := hR7.paid hL7 hg8
    have hbb8 := hbb7.grown hg8 hbb7.size (fun k e => by injection e with e; omega)
    clear hL7 hR7 hbb7
    go_wp2_with fail
    refine (rpay_led rb A2 n2 c2 K R w8 hR8 ((hr2.below hbb8).mono hbb8.size) HR.out (by omega) (by omega)).mono ?_
    rintro e w9 ⟨rfl, hR9, hg9⟩
    have hL9 := hL8.beside hR8 hg9
    have hbb9 := hbb8.grown hg9 hbb8.size (fun k e => by injection e with e; omega)
    have hpl := payNext_length K R
    have hKl : (payNext K R).length ≤ 60 := by have := HR.out; omega
    clear hL8 hR8 hbb8 hpl
    generalize payNext K R = K2 at *
    generalize payCode K R = cd2 at *
    go_wp2_with fail
    refine (same_any lb mb8 rb K2 w9 hL9 hR9 (by omega)).mono ?_
    rintro e w10 ⟨rfl, hb10⟩
    go_wp2_with fail
    go_ret
    exact ⟨rfl, hbb9.trans (hb10.mono hbb9.size)⟩
end Go.Proofs.Ytldkblkcbffelaa
