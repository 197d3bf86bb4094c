/- The reference's small functions over spans: ValidDay, Contains, cutSpan, SameSpans, Normal; the program's Normal. -/
import Derived.Test.YthncjohekjnjaaaSpA
import Derived.Deep.DeepCutAuto
namespace Go.Proofs.Ythncjohekjnjaaa
open Go.RowKit

theorem vday_any (n : Int) (w : World) : Calls Try.prog 23 #[.int .i64 n] w fun e w' => e = .returned (.bool (isD n)) ∧ w = w' := by
  by_cases h1 : 0 ≤ n
  · by_cases h2 : n ≤ 73048
    · go_enter Try.func23, Try.ntmps23
      go_wp2
      go_ret
      exact ⟨ret_bool (by simp [isD]; omega), rfl⟩
    · go_enter Try.func23, Try.ntmps23
      go_wp2
      go_ret
      exact ⟨ret_bool (by simp [isD]; omega), rfl⟩
  · go_enter Try.func23, Try.ntmps23
    go_wp2
    go_ret
    exact ⟨ret_bool (by simp [isD]; omega), rfl⟩

theorem dset_take {l : List Sp} {k : Nat} {x : Sp} (hx : l[k]? = some x) (d : Int) : dset (l.take (k + 1)) d = (dset (l.take k) d || (isD d && inS x d)) := by
  have h : l.take (k + 1) = l.take k ++ [x] := by
    rw [List.take_add_one, hx]
    rfl
  rw [h, dset_append]
  congr 1
  simp [dset, cov]
theorem dset_mem {l : List Sp} {k : Nat} {x : Sp} (hx : l[k]? = some x) {d : Int} (h1 : isD d = true) (h2 : inS x d = true) : dset l d = true := by
  unfold dset
  rw [h1, Bool.true_and, cov, List.any_eq_true]
  exact ⟨x, List.mem_of_getElem? hx, h2⟩

set_option maxHeartbeats 2000000 in
theorem rcontains_any (A : Option Addr) (n c : Nat) (l : List Sp) (d : Int) (w : World) (h : Rd w w.heap.size 2 A n (flat Sp.cells l)) (hn : l.length = n) (hn2 : n ≤ 1000000) :
    Calls Try.prog 17 #[.slice A n c, .int .i64 d] w fun e w' => e = .returned (.bool (dset l d)) ∧ w = w' := by
  have HN := Lib.hid hn
  clear hn
  go_enter Try.func17, Try.ntmps17
  go_wp2_with fail
  go_loop [5] (fun i => ∃ k : Nat, k ≤ n ∧ i = .int .i64 (k : Int) ∧ dset (l.take k) d = false) (fun i => n - (intOf i).toNat)
  case atStart => exact ⟨0, by omega, rfl, by simp [dset, cov]⟩
  case round =>
    obtain ⟨k, hk, rfl, hd⟩ := hrel
    by_cases hlt : k < n
    · have hkl : k < l.length := by rw [HN.out]; exact hlt
      obtain ⟨x, hx⟩ : ∃ x, l[k]? = some x := ⟨_, List.getElem?_eq_getElem hkl⟩
      obtain ⟨_, g, o, rfl, hgb, e0, e1⟩ := sp_cells h hx
      have hstep := dset_take hx d
      have hfound := fun h1 h2 => dset_mem (d := d) hx h1 h2
      rw [hd, Bool.false_or] at hstep
      have HS := Lib.hid hstep
      have HF := Lib.hid hfound
      have hlo : (0 : Int) ≤ (k : Int) := by omega
      have hhi : (k : Int) < (n : Int) := by omega
      clear hx hd hstep hfound
      by_cases h1 : x.f ≤ d
      · by_cases h2 : d < x.t
        · have hin : inS x d = true := (inS_iff x d).2 ⟨h1, h2⟩
          have HI := Lib.hid hin
          clear hin
          cases hv : isD d with
          | true =>
            have HV := Lib.hid hv
            clear hv
            go_wp2_with fail
            refine (vday_any d _).mono ?_
            rintro e w2 ⟨rfl, rfl⟩
            rw [HV.out]
            go_wp2_with fail
            go_ret
            exact ⟨ret_bool (HF.out HV.out HI.out).symm, rfl⟩
          | false =>
            have HV := Lib.hid hv
            clear hv
            go_wp2_with fail
            refine (vday_any d _).mono ?_
            rintro e w2 ⟨rfl, rfl⟩
            rw [HV.out]
            go_wp2_with fail
            go_round
            case rel => exact ⟨k + 1, by omega, by go_num, by rw [HS.out, HV.out]; rfl⟩
            case measure => simp [intOf]; omega
        · have hin : inS x d = false := (inS_false x d).2 (by omega)
          have HI := Lib.hid hin
          clear hin
          go_wp2_with fail
          go_round
          case rel => exact ⟨k + 1, by omega, by go_num, by rw [HS.out, HI.out, Bool.and_false]⟩
          case measure => simp [intOf]; omega
      · have hin : inS x d = false := (inS_false x d).2 (by omega)
        have HI := Lib.hid hin
        clear hin
        go_wp2_with fail
        go_round
        case rel => exact ⟨k + 1, by omega, by go_num, by rw [HS.out, HI.out, Bool.and_false]⟩
        case measure => simp [intOf]; omega
    · rw [List.take_of_length_le (by have := HN.out; omega)] at hd
      have HD := Lib.hid hd
      clear hd
      go_wp2_with fail
      go_ret
      exact ⟨ret_bool HD.out.symm, rfl⟩

set_option maxHeartbeats 1000000 in
theorem rcut_any (f t : Int) (w : World) :
    Calls Try.prog 81 #[.agg #[.int .i64 f, .int .i64 t]] w fun e w' => e = .returned (.tuple #[.agg #[.int .i64 (max f 0), .int .i64 (min t 73049)], .bool (decide (max f 0 < min t 73049))]) ∧ Below w.heap.size w w' := by
  have h1 : (if f < 0 then 0 else f) = max f 0 := by split <;> omega
  have h2 : (if 73049 < t then 73049 else t) = min t 73049 := by split <;> omega
  go_enter Try.func81, Try.ntmps81
  go_wp2
  go_region
  all_goals go_wp2
  all_goals exact bodyPost_ret (v := .tuple #[.agg #[.int .i64 (max f 0), .int .i64 (min t 73049)], .bool (decide (max f 0 < min t 73049))]) (by simp [results, Try.results81, go_sem]) rfl ⟨rfl, (((Below.refl _ _).alloc (Nat.le_refl _) _).alloc (by simp) _).drew⟩

/-- Two lists are the same. -/
def eqB : List Sp → List Sp → Bool
  | [], [] => true
  | s :: a, p :: b => decide (s.f = p.f ∧ s.t = p.t) && eqB a b
  | _, _ => false
theorem eqB_iff : ∀ (a b : List Sp), eqB a b = true ↔ a = b
  | [], [] => by simp [eqB]
  | [], p :: b => by simp [eqB]
  | s :: a, [] => by simp [eqB]
  | ⟨f, t⟩ :: a, ⟨g, u⟩ :: b => by
    simp only [eqB, Bool.and_eq_true, decide_eq_true_eq, eqB_iff a b, List.cons.injEq, Sp.mk.injEq]
theorem eqB_self (a : List Sp) : eqB a a = true := (eqB_iff a a).2 rfl
theorem eqB_ne {a b : List Sp} (h : a ≠ b) : eqB a b = false := by
  cases hb : eqB a b with
  | false => rfl
  | true => exact absurd ((eqB_iff a b).1 hb) h
theorem take_snocS {l : List Sp} {k : Nat} {x : Sp} (hx : l[k]? = some x) : l.take (k + 1) = l.take k ++ [x] := by
  rw [List.take_add_one, hx]
  rfl

set_option maxHeartbeats 2000000 in
theorem sames_any (A A2 : Option Addr) (n n2 c c2 : Nat) (l l2 : List Sp) (w : World) (h : Rd w w.heap.size 2 A n (flat Sp.cells l)) (h2 : Rd w w.heap.size 2 A2 n2 (flat Sp.cells l2)) (hn : l.length = n) (hn2 : l2.length = n2) (hb : n ≤ 1000000) (hb2 : n2 ≤ 1000000) :
    Calls Try.prog 15 #[.slice A n c, .slice A2 n2 c2] w fun e w' => e = .returned (.bool (eqB l l2)) ∧ Below w.heap.size w w' := by
  have HN := Lib.hid hn
  have HN2 := Lib.hid hn2
  by_cases hne : n = n2
  · subst hne
    have hne2 : ((n : Int) == (n : Int)) = true := by simp
    clear hn hn2
    go_enter Try.func15, Try.ntmps15
    go_wp2_with fail
    go_loopw [5] (fun i wr => ∃ k : Nat, k ≤ n ∧ i = .int .i64 (k : Int) ∧ l.take k = l2.take k ∧ Below w.heap.size w wr) (fun i _ => n - (intOf i).toNat)
    case atStart => exact ⟨0, by omega, rfl, rfl, Below.refl _ _⟩
    case round =>
      obtain ⟨k, hk, rfl, hd, hbl⟩ := hrel
      by_cases hlt : k < n
      · have hkl : k < l.length := by rw [HN.out]; exact hlt
        have hkl2 : k < l2.length := by rw [HN2.out]; exact hlt
        obtain ⟨x, hx⟩ : ∃ x, l[k]? = some x := ⟨_, List.getElem?_eq_getElem hkl⟩
        obtain ⟨y, hy⟩ : ∃ y, l2[k]? = some y := ⟨_, List.getElem?_eq_getElem hkl2⟩
        obtain ⟨_, g, o, rfl, hgb, e0, e1⟩ := sp_cells (h.below hbl) hx
        obtain ⟨_, g2, o2, rfl, hgb2, d0, d1⟩ := sp_cells (h2.below hbl) hy
        have hlo : (0 : Int) ≤ (k : Int) := by omega
        have hhi : (k : Int) < (n : Int) := by omega
        have HX := Lib.hid hx
        have HY := Lib.hid hy
        have HD := Lib.hid hd
        clear hx hy hd hne2
        obtain ⟨xf, xt⟩ := x
        obtain ⟨yf, yt⟩ := y
        have e0' : wr.cell? ⟨g, o + k * 2, none⟩ = some (.int .i64 xf) := e0
        have e1' : wr.cell? ⟨g, o + k * 2 + 1, none⟩ = some (.int .i64 xt) := e1
        have d0' : wr.cell? ⟨g2, o2 + k * 2, none⟩ = some (.int .i64 yf) := d0
        have d1' : wr.cell? ⟨g2, o2 + k * 2 + 1, none⟩ = some (.int .i64 yt) := d1
        clear e0 e1 d0 d1
        by_cases h1 : xf = yf
        · by_cases h3 : xt = yt
          · subst h1
            subst h3
            go_wp2_with fail
            go_quiet (fail)
            go_wp2_with fail
            go_roundw
            case rel => exact ⟨k + 1, by omega, by go_num, by rw [take_snocS HX.out, take_snocS HY.out, HD.out], below_drewN hbl nq⟩
            case measure => simp [intOf]; omega
          · have hno : eqB l l2 = false := eqB_ne fun e => by
              subst e
              have := HX.out.symm.trans HY.out
              injection this with this
              injection this with _ this
              exact h3 this
            have HNo := Lib.hid hno
            clear hno
            subst h1
            have hb1 : (xt == yt) = false := beq_eq_false_iff_ne.2 h3
            go_wp2_with fail
            go_quiet (fail)
            go_wp2_with fail
            go_ret
            exact ⟨ret_bool HNo.out.symm, below_drewN hbl nq⟩
        · have hno : eqB l l2 = false := eqB_ne fun e => by
            subst e
            have := HX.out.symm.trans HY.out
            injection this with this
            injection this with this _
            exact h1 this
          have HNo := Lib.hid hno
          clear hno
          have hb1 : (xf == yf) = false := beq_eq_false_iff_ne.2 h1
          go_wp2_with fail
          go_quiet (fail)
          go_wp2_with fail
          go_ret
          exact ⟨ret_bool HNo.out.symm, below_drewN hbl nq⟩
      · rw [List.take_of_length_le (by have := HN.out; omega), List.take_of_length_le (by have := HN2.out; omega)] at hd
        have HE : Hid (eqB l l2 = true) := (eqB_iff l l2).2 hd
        clear hd
        go_wp2_with fail
        go_ret
        exact ⟨ret_bool HE.out.symm, hbl⟩
  · have hne2 : ((n : Int) == (n2 : Int)) = false := beq_eq_false_iff_ne.2 (by omega)
    have hno : eqB l l2 = false := eqB_ne fun e => hne (by rw [← hn, ← hn2, e])
    have HNo := Lib.hid hno
    clear hno hn hn2
    go_enter Try.func15, Try.ntmps15
    go_wp2_with fail
    go_ret
    exact ⟨ret_bool HNo.out.symm, Below.refl _ _⟩

theorem drop_getS {l : List Sp} {k : Nat} {x : Sp} (hx : l[k]? = some x) : l.drop k = x :: l.drop (k + 1) := by
  obtain ⟨hk, e⟩ := List.getElem?_eq_some_iff.1 hx
  rw [List.drop_eq_getElem_cons hk, e]
theorem normB_no {b : Int} {s : Sp} {r : List Sp} (h : ¬(b < s.f ∧ s.f < s.t ∧ s.t ≤ 73049)) : normB b (s :: r) = false := by simp [normB, h]
theorem normB_yes {b : Int} {s : Sp} {r : List Sp} (h : b < s.f ∧ s.f < s.t ∧ s.t ≤ 73049) : normB b (s :: r) = normB s.t r := by simp [normB, h]

end Go.Proofs.Ythncjohekjnjaaa
