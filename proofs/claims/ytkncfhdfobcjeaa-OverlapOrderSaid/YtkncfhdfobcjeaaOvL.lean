/- Days of the program, CountedDays of the reference. -/
import Derived.Test.YtkncfhdfobcjeaaOvA
import Derived.Test.YtkncfhdfobcjeaaSpDays
import Derived.Test.YtkncfhdfobcjeaaSpLast
namespace Go.Proofs.Ytkncfhdfobcjeaa
open Go.RowKit

theorem nf_dd (C : List Pr) (s r : Int) : nf (dset (nf (Dd C s r))) = nf (Dd C s r) := nf_congr fun x _ => dd_nf C s r x
theorem nf_ddl (C : List Pr) (s r : Int) : (nf (Dd C s r)).length ≤ 2 * C.length := by
  have h1 := nf_length_le (l := ofL C s r) rfl
  have h2 := ofL_length C s r
  have e : nf (Dd C s r) = nf (dset (ofL C s r)) := rfl
  rw [e]
  omega
set_option maxHeartbeats 1000000 in
theorem odays_any {A : Option Addr} {n c : Nat} {C : List Pr} {w : World} (s r : Int) (h : Rd w w.heap.size 4 A n (flat Pr.ccells C)) (hn : C.length = n) (hn2 : n ≤ 500) :
    Calls Try.prog 40 #[.slice A n c, .int .i64 s, .int .i64 r] w fun e w' => e = .returned (.int .i64 (lenL (nf (Dd C s r)))) ∧ Below w.heap.size w w' := by
  have hl := nf_ddl C s r
  have he := nf_dd C s r
  have HE := Lib.hid he
  have HN := Lib.hid hn
  have hl2 : (nf (Dd C s r)).length ≤ 1000 := by omega
  clear he hn hl
  go_enter Try.func40, Try.ntmps40
  go_wp2_with fail
  refine (ofc_any s r h HN.out (by omega)).mono ?_
  rintro e w1 ⟨A1, c1, rfl, hown, hb⟩
  go_wp2_with fail
  refine (days_any (Ds.ofOwn hown rfl) hl2).mono ?_
  rintro e w2 ⟨rfl, hb2⟩
  rw [HE.out]
  go_wp2_with fail
  go_ret
  exact ⟨rfl, hb.trans (hb2.mono hb.size)⟩
set_option maxHeartbeats 1000000 in
theorem cdays_any {A : Option Addr} {n c : Nat} {C : List Pr} {w : World} (s r : Int) (h : Rd w w.heap.size 4 A n (flat Pr.ccells C)) (hn : C.length = n) (hn2 : n ≤ 500) :
    Calls Try.prog 41 #[.slice A n c, .int .i64 s, .int .i64 r] w fun e w' => e = .returned (.int .i64 (lenL (nf (Dd C s r)))) ∧ Below w.heap.size w w' := by
  have hl := nf_ddl C s r
  have he := nf_dd C s r
  have HE := Lib.hid he
  have HN := Lib.hid hn
  have hl2 : (nf (Dd C s r)).length ≤ 1000 := by omega
  clear he hn hl
  go_enter Try.func41, Try.ntmps41
  go_wp2_with fail
  refine (countedof_any s r h HN.out (by omega)).mono ?_
  rintro e w1 ⟨A1, c1, rfl, hown, hb⟩
  go_wp2_with fail
  refine (rdays_any (Ds.ofOwn hown rfl) hl2).mono ?_
  rintro e w2 ⟨rfl, hb2⟩
  rw [HE.out]
  go_wp2_with fail
  go_ret
  exact ⟨rfl, hb.trans (hb2.mono hb.size)⟩
set_option maxHeartbeats 2000000 in
/-- Two equal lists of counted days. -/
theorem samect_any {A A2 : Option Addr} {n n2 c c2 : Nat} {l l2 : List Pr} {w : World} (h : Rd w w.heap.size 4 A n (flat Pr.ccells l)) (h2 : Rd w w.heap.size 4 A2 n2 (flat Pr.ccells l2)) (hn : l.length = n) (hn2 : l2.length = n2) (hb : n ≤ 1000000) (he : l = l2) :
    Calls Try.prog 30 #[.slice A n c, .slice A2 n2 c2] w fun e w' => e = .returned (.bool true) ∧ Below w.heap.size w w' := by
  subst he
  obtain rfl : n = n2 := by omega
  have HN := Lib.hid hn
  have hne2 : ((n : Int) == (n : Int)) = true := by simp
  clear hn hn2
  go_enter Try.func30, Try.ntmps30
  go_wp2_with fail
  go_loopw [5] (fun i wr => ∃ k : Nat, k ≤ n ∧ i = .int .i64 (k : Int) ∧ Below w.heap.size w wr) (fun i _ => n - (intOf i).toNat)
  case atStart => exact ⟨0, by omega, rfl, Below.refl _ _⟩
  case round =>
    obtain ⟨k, hk, rfl, hbl⟩ := hrel
    by_cases hlt : k < n
    · have hkl : k < l.length := by rw [HN.out]; exact hlt
      obtain ⟨x, hx⟩ : ∃ x, l[k]? = some x := ⟨_, List.getElem?_eq_getElem hkl⟩
      obtain ⟨_, g, o, rfl, hgb, hc⟩ := (h.below hbl).elem pc_len hx (by omega)
      obtain ⟨_, g2, o2, rfl, hgb2, hd⟩ := (h2.below hbl).elem pc_len hx (by omega)
      have e0 : wr.cell? ⟨g, o + k * 4, none⟩ = some (.int .i64 x.f) := hc 0 _ rfl
      have e1 : wr.cell? ⟨g, o + k * 4 + 1, none⟩ = some (.int .i64 x.t) := hc 1 _ rfl
      have e2 : wr.cell? ⟨g, o + k * 4 + 2, none⟩ = some (.int .i64 x.s) := hc 2 _ rfl
      have e3 : wr.cell? ⟨g, o + k * 4 + 3, none⟩ = some (.int .i64 x.r) := hc 3 _ rfl
      have d0 : wr.cell? ⟨g2, o2 + k * 4, none⟩ = some (.int .i64 x.f) := hd 0 _ rfl
      have d1 : wr.cell? ⟨g2, o2 + k * 4 + 1, none⟩ = some (.int .i64 x.t) := hd 1 _ rfl
      have d2 : wr.cell? ⟨g2, o2 + k * 4 + 2, none⟩ = some (.int .i64 x.s) := hd 2 _ rfl
      have d3 : wr.cell? ⟨g2, o2 + k * 4 + 3, none⟩ = some (.int .i64 x.r) := hd 3 _ rfl
      have hlo : (0 : Int) ≤ (k : Int) := by omega
      have hhi : (k : Int) < (n : Int) := by omega
      clear hx hc hd hne2
      obtain ⟨xs, xr, xf, xt⟩ := x
      simp only at e0 e1 e2 e3 d0 d1 d2 d3
      go_wp2_with fail
      go_quiet (fail)
      go_wp2_with fail
      go_roundw
      case rel => exact ⟨k + 1, by omega, by go_num, below_drewN hbl nq⟩
      case measure => simp [intOf]; omega
    · go_wp2_with fail
      go_ret
      exact ⟨rfl, hbl⟩
end Go.Proofs.Ytkncfhdfobcjeaa
