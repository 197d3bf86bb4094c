/- Lemmas (no conditions): SpNth, Law, Maps, Keys, Tot -/
import Derived.Maps.RangeRun
import Derived.Test.YtnlopdmhdiegnaaGreatDoorIter
import Derived.Maps.Own
import Derived.Maps.Views
import Derived.Maps.OwnSet
import Derived.Maps.Range
import Derived.Sort.KeysCollected
import Derived.Lib.SlKeysI
import Derived.Test.YtnlopdmhdiegnaaGreatDoorPk08
set_option linter.unusedSimpArgs false
set_option linter.unusedVariables false
set_option maxRecDepth 100000
set_option maxHeartbeats 64000000
namespace Go.Proofs.YtnlopdmhdiegnaaGreatDoor
open Go.RowKit
section
theorem norm_fit : ∀ {l : List Sp} {lo : Int}, NormFrom lo l -> -1 <= lo -> ∀ s ∈ l, Fit s
 | [], _, _, _, s, hs => by simp at hs
 | p :: r, lo, ⟨h1, h2, h3, h4⟩, h, s, hs => by
  rcases List.mem_cons.1 hs with rfl | hs
  ·exact ⟨by omega, h2, h3⟩
  ·exact norm_fit h4 (by omega) s hs
theorem nf_fit (S : Int -> Bool) : ∀ s ∈ nf S, Fit s := norm_fit (nf_norm S) (Int.le_refl _)
theorem nf_length_le {l : List Sp} {n : Nat} (hl : l.length = n) : (nf (dset l)).length <= 2 * n := by
 have h1 := comb_eq (fun x y => x || y) rfl l []
 have h2 := combS_length (fun x => dset l x || dset [] x) (edgL (edgL [] l) []) []
 have h3 := edgL_length [] (edgL [] l)
 have h4 := edgL_length l []
 rw [h1] at h2
 have h5 : nf (fun x => dset l x || dset [] x) = nf (dset l) := nf_congr fun x _ => by simp [dset, cov]
 rw [h5] at h2
 simp at *
 omega
theorem nfc_len {la lb : List Sp} {n m : Nat} (g : Bool -> Bool -> Bool) (hg : g false false = false) (hn : la.length = n) (hm : lb.length = m) : (nf fun x => g (dset la x) (dset lb x)).length <= 2 * n + 2 * m := by
 have h1 := comb_eq g hg la lb
 have h2 := combS_length (fun x => g (dset la x) (dset lb x)) (edgL (edgL [] la) lb) []
 have h3 := edgL_length lb (edgL [] la)
 have h4 := edgL_length la []
 rw [h1] at h2
 simp at *
 omega
def nthL : List Sp -> Int -> Int × Bool
 | [], _ => (0, false)
 | s :: r, n => if n < s.t - s.f then (s.f + n, true) else nthL r (n - (s.t - s.f))
def nthV (m : List Sp) (n : Int) : Int × Bool := if n < 0 then (0, false) else nthL m n
def lastV (m : List Sp) : Int × Bool := match m.getLast? with
 | some s => (s.t - 1, true)
 | none => (0, false)
def pairV (p : Int × Bool) : Value := .tuple #[.int .i64 p.1, .bool p.2]
theorem nth_any {A : Option Addr} {n c : Nat} {l : List Sp} {w : World} (q : Int) (h : Ds w A n l) (hn : n <= 1000) (hq : I64 q) :
  Calls Tryz.prog 338 #[.slice A n c, .int .i64 q] w fun e w' => e = .returned (pairV (nthV (nf (dset l)) q)) /\ Below w.heap.size w w' := by
 obtain ⟨hq1, hq2⟩ := hq
 by_cases hneg : q < 0
 ·have hv : Hid (nthV (nf (dset l)) q = (0, false)) := by show nthV _ _ = _; unfold nthV; rw [if_pos hneg]
  go_enter Tryz.func338, Tryz.ntmps338
  go_wp2_with fail
  go_ret2
  exact ⟨by rw [hv.out]; rfl, Below.refl _ _⟩
 ·have hnl := nf_length_le h.2
  have hv : nthV (nf (dset l)) q = nthL (nf (dset l)) q := by unfold nthV; rw [if_neg hneg]
  rw [hv]
  clear hv
  go_enter Tryz.func338, Tryz.ntmps338
  go_wp2_with fail
  refine (make_nf h (by omega)).mono ?_
  rintro e w1 ⟨A1, c1, rfl, hown, hb1⟩
  have hfit := nf_fit (dset l)
  generalize hN : nf (dset l) = N at *
  have HNf := Lib.hid hN
  clear hN
  have hd1 := Ds.ofOwn hown rfl
  generalize hm : N.length = m at *
  have HM := Lib.hid hm
  have HF := Lib.hid hfit
  have hz1 := hb1.size
  clear hm hfit hown
  go_wp2_with fail
  go_loopw [1, 13] (fun v i wr => ∃ (k : Nat) (r : Int), k <= m /\ i = .int .i64 (k : Int) /\ v = .int .i64 r /\ 0 <= r /\ r <= 9223372036854775807 /\ nthL N q = nthL (N.drop k) r /\ Below w1.heap.size w1 wr) (fun _ i _ => m - (intOf i).toNat)
  case atStart => exact ⟨0, q, by omega, rfl, rfl, by omega, hq2, rfl, Below.refl _ _⟩
  case round =>
   obtain ⟨k, r, hk, rfl, rfl, hr0, hr1, hd, hb⟩ := hrel
   have hwsz := hb.size
   by_cases hlt : k < m
   ·have hkl : k < N.length := by rw [HM.out]; exact hlt
    obtain ⟨x, hx⟩ : ∃ x, N[k]? = some x := ⟨_, List.getElem?_eq_getElem hkl⟩
    obtain ⟨_, g, o, rfl, hgb, e0, e1⟩ := sp_cells (hd1.1.below hb) hx
    obtain ⟨f1, f2, f3⟩ := HF.out x (List.mem_of_getElem? hx)
    rw [drop_getS hx, nthL] at hd
    have HD := Lib.hid hd
    have hlo : (0 : Int) <= (k : Int) := by omega
    have hhi : (k : Int) < (m : Int) := by omega
    clear hx hd
    by_cases hlt2 : r < x.t - x.f
    ·have HD2 : Hid (nthL N q = (x.f + r, true)) := by have := HD.out; rw [if_pos hlt2] at this; exact this
     go_wp2_with fail
     go_ret2
     exact ⟨by rw [HNf.out, HD2.out]; rfl, hb1.trans ((hb.alloc hwsz _).mono hz1)⟩
    ·have HD2 : Hid (nthL N q = nthL (N.drop (k + 1)) (r - (x.t - x.f))) := by have := HD.out; rw [if_neg hlt2] at this; exact this
     go_wp2_with fail
     go_roundw
     case rel => exact ⟨k + 1, r - (x.t - x.f), by omega, by go_num, rfl, by omega, by omega, HD2.out, hb.alloc hwsz _⟩
     case measure => simp [intOf]; omega
   ·rw [List.drop_eq_nil_of_le (by have := HM.out; omega)] at hd
    have HD : Hid (nthL N q = (0, false)) := hd
    clear hd
    go_wp2_with fail
    go_ret2
    exact ⟨by rw [HNf.out, HD.out]; rfl, hb1.trans (hb.mono hz1)⟩
end
section
def wkF (k n f t a : Int) : Fc := ⟨k, n, 1, false, 1, 1, k, f, t, k, 100, 1, a, 0⟩
def Wks (ws : List Sp) (L : List Fc) : Prop := L.length = ws.length /\ ∀ (k : Nat) (s : Sp), ws[k]? = some s -> ∃ n a : Int, L[k]? = some (wkF k n s.f s.t a) /\ 1 <= n /\ n <= 999 /\ 0 <= a /\ a <= 1000
theorem Wks.at {ws : List Sp} {L : List Fc} (h : Wks ws L) {k : Nat} {x : Fc} (hx : L[k]? = some x) : ∃ s n a, ws[k]? = some s /\ x = wkF k n s.f s.t a /\ 1 <= n /\ n <= 999 /\ 0 <= a /\ a <= 1000 := by
 have hk := (List.getElem?_eq_some_iff.1 hx).1
 obtain ⟨s, hs⟩ : ∃ s, ws[k]? = some s := ⟨_, List.getElem?_eq_getElem (by rw [<- h.1]; exact hk)⟩
 obtain ⟨n, a, h1, h2⟩ := h.2 k s hs
 rw [h1] at hx
 exact ⟨s, n, a, hs, (Option.some.inj hx).symm, h2⟩
theorem wok_at {ws : List Sp} {lo : Int} (h : WOk lo ws) {k : Nat} {s : Sp} (hs : ws[k]? = some s) : lo <= s.f /\ s.f < s.t /\ s.t <= 36500 := wok_fit h s (List.mem_of_getElem? hs)
theorem wok_lt : ∀ {ws : List Sp} {lo : Int}, WOk lo ws -> ∀ {j k : Nat} {p q : Sp}, j < k -> ws[j]? = some p -> ws[k]? = some q -> p.t <= q.f
 | [], _, _, _, _, _, _, _, hj, _ => by simp at hj
 | s :: r, lo, h, 0, k + 1, p, q, _, hj, hk => by
  obtain rfl := Option.some.inj hj
  exact (wok_at h.2.2.2 (k := k) hk).1
 | s :: r, lo, h, j + 1, k + 1, p, q, hjk, hj, hk => wok_lt h.2.2.2 (j := j) (k := k) (by omega) hj hk
theorem Wks.vld {ws : List Sp} {L : List Fc} {lo : Int} (h : Wks ws L) (h0 : 0 <= lo) (hw : WOk lo ws) (h6 : ws.length <= 6) {x : Fc} (hx : x ∈ L) : Vld x /\ x.g = false /\ x.k = 1 := by
 obtain ⟨k, hk⟩ := List.getElem?_of_mem hx
 obtain ⟨s, n, a, hs, rfl, n1, n2, a1, a2⟩ := h.at hk
 have hk6 := (List.getElem?_eq_some_iff.1 hs).1
 obtain ⟨b1, b2, b3⟩ := wok_at hw hs
 have m1 : ∀ l : UInt8, l ∈ ([83, 80, 84, 72, 67, 65] : List UInt8) -> l ∈ useL 1 := fun l hl => hl
 have hk0 : (0 : Int) <= (k : Int) /\ (k : Int) <= 5 := ⟨by omega, by omega⟩
 have h82 : ¬ (82 : UInt8) ∈ useL 1 := by decide
 have g1 : (1 : Int) <= 1 /\ (1 : Int) <= 99 := by decide
 have g2 : (1 : Int) <= 1 /\ (1 : Int) <= 14 := by decide
 have g3 : (1 : Int) <= 100 /\ (100 : Int) <= 100 := by decide
 have g4 : (1 : Int) <= 1 /\ (1 : Int) <= 999 := by decide
 have g5 : (0 : Int) <= a /\ a <= 1000000000 := ⟨a1, by omega⟩
 have g6 : (0 : Int) <= s.f /\ s.f < s.t /\ s.t <= 73049 := by omega
 have n4 : ¬ (1 : Int) = 4 := by decide
 have n11 : ¬ ((1 : Int) = 11 ∨ (1 : Int) = 12) := by decide
 have n10 : ¬ ((1 : Int) = 10 ∨ (1 : Int) = 14) := by decide
 exact ⟨⟨hk0, ⟨n1, n2⟩, g1, g1, g2, g6, ⟨fun _ => hk0, fun hn => absurd (m1 83 (by decide)) hn⟩, ⟨fun _ => hk0, fun hn => absurd (m1 84 (by decide)) hn⟩, ⟨fun _ => g3, fun hn => absurd (m1 72 (by decide)) hn⟩, ⟨fun _ => g4, fun hn => absurd (m1 67 (by decide)) hn⟩, ⟨fun _ => g5, fun hn => absurd (m1 65 (by decide)) hn⟩,
  ⟨fun hn => absurd hn h82, fun _ => rfl⟩, fun e => absurd e n4, fun e => absurd e n11, fun e => absurd e n10⟩, rfl, rfl⟩
theorem filter_one {α : Type} {p : α -> Bool} : ∀ {L : List α} {k : Nat} {x : α}, L[k]? = some x -> p x = true -> (∀ (j : Nat) (y : α), L[j]? = some y -> p y = true -> j = k) -> L.filter p = [x]
 | [], k, x, h, _, _ => by simp at h
 | y :: L, 0, x, h, hp, hu => by
  obtain rfl := Option.some.inj h
  have : L.filter p = [] := List.filter_eq_nil_iff.2 fun z hz hpz => by
   obtain ⟨j, hj⟩ := List.getElem?_of_mem hz
   have := hu (j + 1) z (by simpa using hj) hpz
   omega
  simp [hp, this]
 | y :: L, k + 1, x, h, hp, hu => by
  have hy : p y = false := by
   cases hpy : p y
   ·rfl
   ·have := hu 0 y rfl hpy
    omega
  rw [List.filter_cons, hy]
  simp only [Bool.false_eq_true, if_false]
  exact filter_one (by simpa using h) hp fun j z hj hz => by
   have := hu (j + 1) z (by simpa using hj) hz
   omega
def cvF (d : Int) (x : Fc) : Bool := decide (x.f <= d) && decide (d < x.t)
theorem cv_one {ws : List Sp} {L : List Fc} {lo : Int} (h : Wks ws L) (hw : WOk lo ws) {k : Nat} {s : Sp} {d : Int} (hs : ws[k]? = some s) (h1 : s.f <= d) (h2 : d < s.t) : ∃ n a, L.filter (cvF d) = [wkF k n s.f s.t a] := by
 obtain ⟨n, a, hk, _⟩ := h.2 k s hs
 refine ⟨n, a, filter_one hk ?_ fun j y hj hy => ?_⟩
 ·show (decide (s.f <= d) && decide (d < s.t)) = true
  rw [decide_eq_true h1, decide_eq_true h2]
  rfl
 ·obtain ⟨s2, n2, a2, hs2, rfl, _⟩ := h.at hj
  have hy' : (decide (s2.f <= d) && decide (d < s2.t)) = true := hy
  simp at hy'
  exact wok_one hw hs2 hs hy'.1 hy'.2 h1 h2
theorem cv_none {ws : List Sp} {L : List Fc} (h : Wks ws L) {d : Int} (hn : ∀ (k : Nat) (s : Sp), ws[k]? = some s -> ¬ (s.f <= d /\ d < s.t)) : L.filter (cvF d) = [] :=
 List.filter_eq_nil_iff.2 fun y hy hp => by
  obtain ⟨j, hj⟩ := List.getElem?_of_mem hy
  obtain ⟨s2, n2, a2, hs2, rfl, _⟩ := h.at hj
  have hy' : (decide (s2.f <= d) && decide (d < s2.t)) = true := hp
  simp at hy'
  exact hn j s2 hs2 hy'
def isCut (ws : List Sp) (x : Int) : Prop := x = 0 ∨ x = 73049 ∨ ∃ s ∈ ws, x = s.f ∨ x = s.t
structure CutsL (ws : List Sp) (D : List Int) : Prop where
 asc : D.Pairwise (· < ·)
 mem : ∀ x, x ∈ D ↔ isCut ws x
theorem asc_next {D : List Int} (h : D.Pairwise (· < ·)) {i : Nat} {a b x : Int} (ha : D[i]? = some a) (hb : D[i + 1]? = some b) (hx : x ∈ D) (hlt : a < x) : b <= x := by
 obtain ⟨j, hj⟩ := List.getElem?_of_mem hx
 obtain ⟨lj, ej⟩ := List.getElem?_eq_some_iff.1 hj
 obtain ⟨la, ea⟩ := List.getElem?_eq_some_iff.1 ha
 obtain ⟨lb, eb⟩ := List.getElem?_eq_some_iff.1 hb
 have P := List.pairwise_iff_getElem.1 h
 rcases Nat.lt_trichotomy j i with h1 | h1 | h1
 ·have := P j i lj la h1
  omega
 ·subst h1
  omega
 ·have h1' : i + 1 <= j := h1
  rcases Nat.lt_or_eq_of_le h1' with h2 | h2
  ·have := P (i + 1) j lb lj h2
   omega
  ·subst h2
   omega
theorem asc_lt {D : List Int} (h : D.Pairwise (· < ·)) {i : Nat} {a b : Int} (ha : D[i]? = some a) (hb : D[i + 1]? = some b) : a < b := by
 obtain ⟨la, ea⟩ := List.getElem?_eq_some_iff.1 ha
 obtain ⟨lb, eb⟩ := List.getElem?_eq_some_iff.1 hb
 have := List.pairwise_iff_getElem.1 h i (i + 1) la lb (by omega)
 omega
theorem cut_bd {ws : List Sp} {lo : Int} (h0 : 0 <= lo) (hw : WOk lo ws) {x : Int} (hx : isCut ws x) : 0 <= x /\ x <= 73049 := by
 rcases hx with rfl | rfl | ⟨s, hs, hx⟩
 ·omega
 ·omega
 ·have := wok_fit hw s hs
  omega
def sgm : Nat -> List Sp -> List Pr
 | _, [] => []
 | i, s :: r => ⟨(i : Int), 3, s.f, s.t⟩ :: sgm (i + 1) r
theorem sgm_length : ∀ (i : Nat) (ws : List Sp), (sgm i ws).length = ws.length
 | _, [] => rfl
 | i, _ :: r => by simp [sgm, sgm_length (i + 1) r]
theorem sgm_get : ∀ (ws : List Sp) (i k : Nat), (sgm i ws)[k]? = (ws[k]?).map fun s => ⟨((i + k : Nat) : Int), 3, s.f, s.t⟩
 | [], i, k => by simp [sgm]
 | q :: r, i, 0 => by simp [sgm]
 | q :: r, i, k + 1 => by
  rw [sgm, List.getElem?_cons_succ, sgm_get r (i + 1) k, List.getElem?_cons_succ]
  congr 2
  funext s
  congr 2
  omega
theorem sgm_snoc : ∀ (ws : List Sp) (i : Nat) (s : Sp), sgm i (ws ++ [s]) = sgm i ws ++ [⟨((i + ws.length : Nat) : Int), 3, s.f, s.t⟩]
 | [], i, s => by simp [sgm]
 | q :: r, i, s => by
  rw [List.cons_append, sgm, sgm_snoc r (i + 1) s, sgm, List.cons_append, List.length_cons]
  congr 4
  omega
theorem sgm_take {ws : List Sp} {m : Nat} {s : Sp} (hs : ws[m]? = some s) : sgm 0 (ws.take (m + 1)) = sgm 0 (ws.take m) ++ [⟨(m : Int), 3, s.f, s.t⟩] := by
 have hm := (List.getElem?_eq_some_iff.1 hs).1
 rw [List.take_add_one, hs]
 show sgm 0 (ws.take m ++ [s]) = _
 rw [sgm_snoc, List.length_take, Nat.min_eq_left (by omega), Nat.zero_add]
def LwI (ws : List Sp) (D : List Int) (i m : Nat) : Prop := m <= ws.length /\ ∃ a, D[i]? = some a /\ ∀ (j : Nat) (s : Sp), ws[j]? = some s -> (j < m -> s.t <= a) /\ (m <= j -> a <= s.f)
theorem lwi_zero {ws : List Sp} {D : List Int} {lo : Int} (h0 : 0 <= lo) (hw : WOk lo ws) (hD : CutsL ws D) : LwI ws D 0 0 := by
 have h00 : (0 : Int) ∈ D := (hD.mem 0).2 (.inl rfl)
 obtain ⟨j, hj⟩ := List.getElem?_of_mem h00
 obtain ⟨lj, ej⟩ := List.getElem?_eq_some_iff.1 hj
 obtain ⟨a, ha⟩ : ∃ a, D[0]? = some a := ⟨_, List.getElem?_eq_getElem (by omega)⟩
 have hab := cut_bd h0 hw ((hD.mem a).1 (List.mem_of_getElem? ha))
 obtain ⟨la, ea⟩ := List.getElem?_eq_some_iff.1 ha
 have ha0 : a = 0 := by
  rcases Nat.eq_zero_or_pos j with h1 | h1
  ·subst h1; omega
  ·have := List.pairwise_iff_getElem.1 hD.asc 0 j la lj h1
   omega
 refine ⟨Nat.zero_le _, a, ha, fun j s hs => ⟨fun h => by omega, fun _ => ?_⟩⟩
 have := wok_at hw hs
 omega
theorem lwi_in {ws : List Sp} {D : List Int} {lo : Int} (h0 : 0 <= lo) (hw : WOk lo ws) (hD : CutsL ws D) {i m : Nat} {a b : Int} {s : Sp} (h : LwI ws D i m) (ha : D[i]? = some a) (hb : D[i + 1]? = some b) (hs : ws[m]? = some s) (hle : s.f <= a) : a = s.f /\ b = s.t /\ LwI ws D (i + 1) (m + 1) := by
 obtain ⟨hm, a2, ha2, hall⟩ := h
 rw [ha] at ha2
 obtain rfl := Option.some.inj ha2
 obtain ⟨b1, b2, b3⟩ := wok_at hw hs
 have e1 : a = s.f := by
  have := (hall m s hs).2 (Nat.le_refl _)
  omega
 have hlt := asc_lt hD.asc ha hb
 have hbt : b <= s.t := asc_next hD.asc ha hb ((hD.mem _).2 (.inr (.inr ⟨s, List.mem_of_getElem? hs, .inr rfl⟩))) (by omega)
 have e2 : b = s.t := by
  rcases (hD.mem b).1 (List.mem_of_getElem? hb) with h1 | h1 | ⟨q, hq, h1⟩
  ·omega
  ·omega
  ·obtain ⟨j, hj⟩ := List.getElem?_of_mem hq
   have hqb := wok_at hw hj
   rcases Nat.lt_trichotomy j m with h2 | h2 | h2
   ·have := (hall j q hj).1 h2
    omega
   ·subst h2
    rw [hs] at hj
    obtain rfl := Option.some.inj hj
    omega
   ·have := wok_lt hw h2 hs hj
    omega
 refine ⟨e1, e2, (List.getElem?_eq_some_iff.1 hs).1, b, hb, fun j q hj => ⟨fun h1 => ?_, fun h1 => ?_⟩⟩
 ·rcases Nat.lt_or_eq_of_le (Nat.le_of_lt_succ h1) with h2 | h2
  ·have := (hall j q hj).1 h2
   omega
  ·subst h2
   rw [hs] at hj
   obtain rfl := Option.some.inj hj
   omega
 ·have := wok_lt hw h1 hs hj
  omega
theorem lwi_out {ws : List Sp} {D : List Int} {lo : Int} (h0 : 0 <= lo) (hw : WOk lo ws) (hD : CutsL ws D) {i m : Nat} {a b : Int} (h : LwI ws D i m) (ha : D[i]? = some a) (hb : D[i + 1]? = some b) (hs : ∀ s, ws[m]? = some s -> a < s.f) : (∀ (k : Nat) (s : Sp), ws[k]? = some s -> ¬ (s.f <= a /\ a < s.t)) /\ LwI ws D (i + 1) m := by
 obtain ⟨hm, a2, ha2, hall⟩ := h
 rw [ha] at ha2
 obtain rfl := Option.some.inj ha2
 have key : ∀ (j : Nat) (s : Sp), ws[j]? = some s -> m <= j -> a < s.f := fun j s hj hmj => by
  have hjl := (List.getElem?_eq_some_iff.1 hj).1
  obtain ⟨q, hq⟩ : ∃ q, ws[m]? = some q := ⟨_, List.getElem?_eq_getElem (by omega)⟩
  have h1 := hs q hq
  rcases Nat.lt_or_eq_of_le hmj with h2 | h2
  ·have := wok_lt hw h2 hq hj
   have := wok_at hw hq
   omega
  ·subst h2
   rw [hj] at hq
   obtain rfl := Option.some.inj hq
   exact h1
 refine ⟨fun k s hk hc => ?_, hm, b, hb, fun j s hj => ⟨fun h1 => ?_, fun h1 => ?_⟩⟩
 ·rcases Nat.lt_or_ge k m with h1 | h1
  ·have := (hall k s hk).1 h1
   omega
  ·have := key k s hk h1
   omega
 ·have := (hall j s hj).1 h1
  have := asc_lt hD.asc ha hb
  omega
 ·exact asc_next hD.asc ha hb ((hD.mem _).2 (.inr (.inr ⟨s, List.mem_of_getElem? hj, .inl rfl⟩))) (key j s hj h1)
theorem lwi_end {ws : List Sp} {D : List Int} {lo : Int} (h0 : 0 <= lo) (hw : WOk lo ws) (hD : CutsL ws D) {i m : Nat} (h : LwI ws D i m) (hi : D.length <= i + 1) : ws.take m = ws := by
 obtain ⟨hm, a, ha, hall⟩ := h
 obtain ⟨la, ea⟩ := List.getElem?_eq_some_iff.1 ha
 obtain ⟨j, hj⟩ := List.getElem?_of_mem ((hD.mem 73049).2 (.inr (.inl rfl)))
 obtain ⟨lj, ej⟩ := List.getElem?_eq_some_iff.1 hj
 have hbig : 73049 <= a := by
  rcases Nat.lt_or_eq_of_le (show j <= i by omega) with h1 | h1
  ·have := List.pairwise_iff_getElem.1 hD.asc j i lj la h1
   omega
  ·subst h1; omega
 refine List.take_of_length_le (Nat.le_of_not_lt fun hlt => ?_)
 obtain ⟨q, hq⟩ : ∃ q, ws[m]? = some q := ⟨_, List.getElem?_eq_getElem hlt⟩
 have h1 := (hall m q hq).2 (Nat.le_refl _)
 have h2 := wok_at hw hq
 omega
theorem cuts_len {ws : List Sp} {D : List Int} (hD : CutsL ws D) : 2 <= D.length := by
 obtain ⟨i, hi⟩ := List.getElem?_of_mem ((hD.mem 0).2 (.inl rfl))
 obtain ⟨j, hj⟩ := List.getElem?_of_mem ((hD.mem 73049).2 (.inr (.inl rfl)))
 obtain ⟨li, ei⟩ := List.getElem?_eq_some_iff.1 hi
 obtain ⟨lj, ej⟩ := List.getElem?_eq_some_iff.1 hj
 rcases Nat.eq_or_lt_of_le (show 1 <= D.length by omega) with h | h
 ·have : i = j := by omega
  subst this
  omega
 ·exact h
theorem cut_day {ws : List Sp} {D : List Int} {lo : Int} (h0 : 0 <= lo) (hw : WOk lo ws) (hD : CutsL ws D) {i : Nat} {a : Int} (ha : D[i]? = some a) (hi : i + 1 < D.length) : 0 <= a /\ a <= 73048 := by
 obtain ⟨b, hb⟩ : ∃ b, D[i + 1]? = some b := ⟨_, List.getElem?_eq_getElem hi⟩
 have h1 := cut_bd h0 hw ((hD.mem a).1 (List.mem_of_getElem? ha))
 have h2 := cut_bd h0 hw ((hD.mem b).1 (List.mem_of_getElem? hb))
 have := asc_lt hD.asc ha hb
 omega
end
section
open Go.ChangeMaps (setBlock)
section
variable {β : Type}
def look (m : List (Int × β)) (k : Int) : Option β := (m.find? fun p => p.1 == k).map (·.2)
variable {ve : β -> Value}
def IMap (ve : β -> Value) (w : World) (b : Nat) (m : List (Int × β)) : Prop :=
 ∃ es clock, w.heap[b]? = some (.map es clock) /\ es.toList.map (fun e => (e.key, e.val)) = m.map (fun p => (Value.int .i64 p.1, ve p.2)) ∧
  (es.toList.map (·.born)).Nodup /\ ∀ e ∈ es.toList, e.born < clock
theorem IMap.lt {w : World} {b : Nat} {m : List (Int × β)} (h : IMap ve w b m) : b < w.heap.size := by
 obtain ⟨es, clock, hb, _⟩ := h
 exact (gis hb).1
theorem IMap.same {w w' : World} {b : Nat} {m : List (Int × β)} (h : IMap ve w b m) (hb : w'.heap[b]? = w.heap[b]?) : IMap ve w' b m := by
 obtain ⟨es, clock, h1, h2⟩ := h
 exact ⟨es, clock, hb.trans h1, h2⟩
theorem IMap.grown {w w' : World} {b : Nat} {m : List (Int × β)} {row : Option Nat} (h : IMap ve w b m) (hg : w.grownBy w' row) (hne : some b ≠ row) : IMap ve w' b m :=
 h.same (hg.block b h.lt hne)
theorem IMap.alloc {w : World} {b : Nat} {m : List (Int × β)} (h : IMap ve w b m) (o : Obj) : IMap ve (w.alloc o) b m := h.same (Below.heap_alloc w o b h.lt)
theorem IMap.drew {w : World} {b : Nat} {m : List (Int × β)} (h : IMap ve w b m) : IMap ve w.drew b m := h
theorem IMap.setCell {w : World} {b : Nat} {m : List (Int × β)} (h : IMap ve w b m) {p : Addr} (hne : b ≠ p.block) (u : Value) : IMap ve (w.setCell p u) b m :=
 h.same (heap_setCell_other w p b u hne)
section
variable {P : Program} {w : World} {b : Nat} {m : List (Int × β)} {t kt et : TypeId}
def Ranging (ve : β -> Value) (w : World) (b r : Nat) (m left : List (Int × β)) : Prop :=
 ∃ es clock since seen c0, w.heap[r]? = some (.mapIter (some b) since seen c0) /\ w.heap[b]? = some (.map es clock) ∧
  es.toList.map (fun e => (e.key, e.val)) = m.map (fun p => (Value.int .i64 p.1, ve p.2)) /\ (es.toList.map (·.born)).Nodup /\ (∀ e ∈ es.toList, e.born < clock) ∧
  (∀ x ∈ es.toList, x.born < since) /\ since <= c0 /\ clock = c0 /\ (leftOf es seen).toList.map (fun e => (e.key, e.val)) = left.map (fun p => (Value.int .i64 p.1, ve p.2))
theorem Ranging.same {w' : World} {r : Nat} {left : List (Int × β)} (h : Ranging ve w b r m left) (h1 : w'.heap[r]? = w.heap[r]?) (h2 : w'.heap[b]? = w.heap[b]?) : Ranging ve w' b r m left := by
 obtain ⟨es, clock, since, seen, c0, hr, hb, rest⟩ := h
 exact ⟨es, clock, since, seen, c0, h1.trans hr, h2.trans hb, rest⟩
end
end
end
section
open Go.RowKit Go.Maps Go.Shelf
theorem keys_call (mb : Option Nat) (W : World) : Calls Tryz.prog 135 #[.map mb] W fun e w' => e = .returned (.func (.func 201) #[] #[.pointer (some ⟨W.heap.size, 0, none⟩)]) /\ w' = W.alloc (.cells #[.map mb] 240) :=
 (callsIn_wide (n := 5)).1 (AnyZI.keys_in Tryz.keysA Fence.wide 5 trivial rfl mb W)
theorem sorts_here (m : Nat) : AnyZI.SortsIn Tryz.prog Tryz.sortedA_ren Fence.wide m :=
 ⟨fun blk off cap ss W hH hblk hsz => callsIn_wide.2 (AnyM.slices_Sort_int Tryz.sortA blk off cap ss W hH hblk hsz),
  fun p cap W => callsIn_wide.2 (AnyM.slices_Sort_int_none Tryz.sortA p cap W)⟩
theorem sorted_call {H : Type} (b nn : Nat) (D0 : DataW H) (R : Value -> Option (DataW H × List MemPlace)) (w : World) (hown : w.ownsMap Tryz.prog 3 R b nn D0) (hmax : Maps.size D0 <= maxLen) (hbytes : Maps.size D0 * 8 <= 140737488355328) :
  Calls Tryz.prog 134 #[.func (.func 201) #[] #[.pointer (some ⟨w.heap.size, 0, none⟩)]] (w.alloc (.cells #[.map (some b)] 240)) fun e w' => ∃ (v : Value) (ss : List Int), e = .returned v /\ ss.Perm (intKeys D0) ∧
   w'.ownsRow (w.alloc (.cells #[.map (some b)] 240)).heap.size 3 1 v ss.length ((ss.mergeSort (fun x y => decide (x <= y))).map encZ) /\ (v = .slice none 0 0 ↔ ss = []) /\ Below (w.alloc (.cells #[.map (some b)] 240)).heap.size (w.alloc (.cells #[.map (some b)] 240)) w' := by
 have hbl := hown.lt
 have hseq : SeqGives Fence.wide 2 Tryz.prog 201 #[.pointer (some ⟨w.heap.size, 0, none⟩)] encZ (fun ss => ss.Perm (intKeys D0)) (Maps.size D0) (w.alloc (.cells #[.map (some b)] 240)) :=
  AnyZI.keys_gives (ρ := Tryz.keysA_ren) { Tryz.keysA with } Fence.wide _ trivial rfl (by omega) w.heap.size b nn D0 _ (by simp) (by simp) (by
   obtain ⟨es, clock, hb, Ft, hs, hD⟩ := hown
   exact ⟨es, clock, (Below.heap_alloc _ _ b hbl).trans hb, Ft, hs, hD⟩)
 exact (callsIn_wide (n := 5)).1 (AnyZI.sorted_in Tryz.sortedA Fence.wide 5 trivial trivial trivial trivial rfl (by omega) (sorts_here _) (enters_of Tryz.func125 (by kernel_rfl) rfl) 201 #[.pointer (some ⟨w.heap.size, 0, none⟩)] trivial (enters_of Tryz.func201 (by kernel_rfl) rfl) _ _ hmax hbytes _ hseq)
def litI (x : Int) : Lit := .int .i64 x
def Im (w : World) (b n : Nat) (m : Int -> Option Int) : Prop :=
 ∃ D : DataW Unit, w.ownsMap Tryz.prog 3 (plainElem Tryz.prog 3) b n D /\ Tidy D /\ (∀ x, has D (litI x) = (m x).isSome) /\ (∀ x, D.atKey (litI x) (.lit (litI 0)) = .lit (litI ((m x).getD 0)))
theorem im_made (w : World) : Im (w.alloc (.map #[] 0)) w.heap.size 0 (fun _ => none) :=
 ⟨.map [], World.ownsMap_made w _ _ _, ⟨[], rfl, List.Pairwise.nil⟩, fun _ => rfl, fun _ => rfl⟩
theorem Im.lt {w : World} {b n : Nat} {m : Int -> Option Int} (h : Im w b n m) : b < w.heap.size := by
 obtain ⟨D, h1, _⟩ := h
 exact h1.lt
theorem Im.kept {w w' : World} {b n : Nat} {m : Int -> Option Int} (h : Im w b n m) {row : Option Nat} (hg : w.grownBy w' row) (hne : some b ≠ row) : Im w' b n m := by
 obtain ⟨D, h1, h2⟩ := h
 exact ⟨D, h1.kept hg hne, h2⟩
theorem Im.under {w w' : World} {b n : Nat} {m : Int -> Option Int} (h : Im w b n m) (hb : Below w.heap.size w w') : Im w' b n m := h.kept (grownBy_of_below hb none) (by simp)
theorem lit_ok {x : Int} (h0 : -9223372036854775808 <= x) (h1 : x <= 9223372036854775807) : (Lit.int .i64 x).wf = true := by
 show (decide (IntKind.i64.min <= x) && decide (x <= IntKind.i64.max)) = true
 rw [show IntKind.i64.min = -9223372036854775808 by kernel_rfl, show IntKind.i64.max = 9223372036854775807 by kernel_rfl, decide_eq_true h0, decide_eq_true h1]
 rfl
theorem Im.look {w : World} {b n : Nat} {m : Int -> Option Int} (h : Im w b n m) {x : Int} (h0 : -9223372036854775808 <= x) (h1 : x <= 9223372036854775807) : (Instr.lookup 240 (.map (some b)) (.int .i64 x) false).run Tryz.prog w = .ok (.int .i64 ((m x).getD 0)) w := by
 obtain ⟨D, hD, _, _, hat⟩ := h
 obtain ⟨c, hrun, hc, _⟩ := hD.lookup_int (t := 240) (int_keyed Tryz.underlying3) Tryz.underlying240 Tryz.underlying3 (by kernel_rfl) (key := .int .i64 x) (kl := litI x) (keyOf_int_mk Tryz.underlying3 (lit_ok h0 h1))
 have := (hat x).symm.trans hc
 injection this with e1
 injection e1 with _ e2
 rw [hrun, <- e2]
theorem Im.put {w : World} {b n : Nat} {m : Int -> Option Int} (h : Im w b n m) (hn : n < 1000000) {x y : Int} (h0 : -9223372036854775808 <= x) (h1 : x <= 9223372036854775807) (g0 : -9223372036854775808 <= y) (g1 : y <= 9223372036854775807) :
  ∃ w', (Instr.mapUpdate 240 (.map (some b)) (.int .i64 x) (.int .i64 y)).run Tryz.prog w = .ok () w' /\ Im w' b (n + 1) (fun z => if z = x then some y else m z) /\ w.grownBy w' (some b) := by
 obtain ⟨D, hD, hT, hhas, hat⟩ := h
 obtain ⟨w', hrun, hO, hg⟩ := hD.update (t := 240) (int_keyed Tryz.underlying3) Tryz.underlying240 (by unfold maxLen; omega) (key := .int .i64 x) (val := .int .i64 y) (kl := litI x) (keyOf_int_mk Tryz.underlying3 (lit_ok h0 h1)) (plainElem_int Tryz.underlying3 (lit_ok g0 g1))
 refine ⟨w', hrun, ⟨_, hO, hT.put (by trivial) _, fun z => ?_, fun z => ?_⟩, hg⟩
 ·by_cases hz : z = x
  ·subst hz
   show _ = Option.isSome (if z = z then some y else m z)
   rw [if_pos rfl, has_put_same hT.isMap (by trivial)]
   rfl
  ·show _ = Option.isSome (if z = x then some y else m z)
   rw [if_neg hz, has_put_other (by simpa [litI] using hz), hhas]
 ·by_cases hz : z = x
  ·subst hz
   show _ = DataW.lit (litI ((if z = z then some y else m z).getD 0))
   rw [if_pos rfl, atKey_put_same hT.isMap (by trivial)]
   rfl
  ·show _ = DataW.lit (litI ((if z = x then some y else m z).getD 0))
   rw [if_neg hz, atKey_put_other (by simpa [litI] using hz), hat]
theorem own_size {H : Type} {w : World} {P : Program} {k : TypeId} {R : Value -> Option (DataW H × List MemPlace)} {b n : Nat} {D : DataW H} (h : w.ownsMap P k R b n D) : Maps.size D <= n := by
 obtain ⟨es, clock, hb, F, hs, rfl⟩ := h
 rw [size_eq, length_sorted]
 simpa using hs
theorem own_keys {w : World} {b n : Nat} {D : DataW Unit} (h : w.ownsMap Tryz.prog 3 (plainElem Tryz.prog 3) b n D) : (∀ x, x ∈ intKeys D ↔ has D (litI x) = true) /\ (intKeys D).Nodup := by
 obtain ⟨es, hD, hpw, _⟩ := h.entries (int_keyed Tryz.underlying3)
 obtain ⟨es', hD', hko⟩ := h.keysOf
 obtain rfl : es = es' := by rw [hD] at hD'; simpa using hD'
 subst hD
 have hk : ∀ p ∈ es, ∃ x, p.1 = litI x := fun p hp => by
  obtain ⟨v, hv⟩ := hko p hp
  obtain ⟨x, _, hx, _⟩ := Maps.keyOf_i64 Tryz.underlying3 hv
  exact ⟨x, hx⟩
 refine ⟨fun x => ?_, ?_⟩
 ·rw [has_eq, List.any_eq_true]
  show x ∈ es.map _ ↔ _
  rw [List.mem_map]
  constructor
  ·rintro ⟨p, hp, rfl⟩
   obtain ⟨y, hy⟩ := hk p hp
   refine ⟨p, hp, ?_⟩
   rw [hy]
   show Lit.sameKey (litI y) (litI (Go.intOf (litI y))) = true
   exact WideAt.sameKey_self (a := litI y) trivial
  ·rintro ⟨p, hp, hs⟩
   obtain ⟨y, hy⟩ := hk p hp
   refine ⟨p, hp, ?_⟩
   have := WideAt.sameKey_eq hs
   rw [this]
   rfl
 ·show (es.map _).Nodup
  rw [List.nodup_iff_pairwise_ne, List.pairwise_map]
  refine hpw.imp_of_mem fun {p q} hp hq hne he => hne ?_
  obtain ⟨x, hx⟩ := hk p hp
  obtain ⟨y, hy⟩ := hk q hq
  rw [hx, hy] at he ⊢
  have : x = y := he
  rw [this]
def RetKs (w : World) (n : Nat) (m : Int -> Option Int) (e : Ending) (w' : World) : Prop := ∃ A c k K, e = .returned (.slice A k c) /\ k <= n /\ K.length = k /\ (∀ x, x ∈ K ↔ (m x).isSome = true) /\ K.Pairwise (· < ·) /\ w'.ownsRow w.heap.size 3 1 (.slice A k c) k (ints K) /\ Below w.heap.size w w'
theorem RetKs.open {w w' : World} {n : Nat} {m : Int -> Option Int} {e : Ending} (h : RetKs w n m e w') : ∃ A c k K, e = .returned (.slice A k c) /\ k <= c /\ c <= maxLen /\ k <= n /\ K.length = k /\ (∀ x, x ∈ K ↔ (m x).isSome = true) /\ K.Pairwise (· < ·) /\ w'.ownsRow w.heap.size 3 1 (.slice A k c) k (ints K) /\ Below w.heap.size w w' := by
 obtain ⟨A, c, k, K, he, hk, hl, hm, hp, ho, hb⟩ := h
 obtain ⟨A2, c2, e2, h1, h2, _⟩ := own_form ho
 injection e2 with _ _ e3
 subst e3
 exact ⟨A, c, k, K, he, h1, h2, hk, hl, hm, hp, ho, hb⟩
theorem keys_ret {w : World} {b n : Nat} {m : Int -> Option Int} (h : Im w b n m) (hn : n <= 1000000) :
  Calls Tryz.prog 134 #[.func (.func 201) #[] #[.pointer (some ⟨w.heap.size, 0, none⟩)]] (w.alloc (.cells #[.map (some b)] 240)) (RetKs (w.alloc (.cells #[.map (some b)] 240)) n m) := by
 obtain ⟨D, hD, hT, hhas, _⟩ := h
 have hs := own_size hD
 obtain ⟨hk, hnd⟩ := own_keys hD
 refine (sorted_call b n D (plainElem Tryz.prog 3) w hD (by unfold maxLen; omega) (by omega)).mono ?_
 rintro e w' ⟨v, ss, rfl, hp, ho, _, hb⟩
 have hl : (ss.mergeSort fun x y => decide (x <= y)).length = ss.length := List.length_mergeSort ss
 obtain ⟨A, c, rfl, _, _, _⟩ := own_form ho
 have hlen : ss.length <= n := by
  have h1 := hp.length_eq
  obtain ⟨es, hes⟩ := hT.isMap
  subst hes
  have h2 : (intKeys (.map es : DataW Unit)).length = es.length := List.length_map _
  rw [size_eq] at hs
  omega
 refine ⟨A, c, ss.length, ss.mergeSort fun x y => decide (x <= y), rfl, hlen, hl, fun x => ?_, ?_, ho, hb⟩
 ·rw [List.mem_mergeSort, hp.mem_iff, hk, hhas]
 ·have h1 : (ss.mergeSort fun x y => decide (x <= y)).Pairwise (fun x y => decide (x <= y) = true) := List.pairwise_mergeSort (fun a b c h1 h2 => by simp at *; omega) (fun a b => by simp; omega) ss
  have h2 : (ss.mergeSort fun x y => decide (x <= y)).Nodup := (List.mergeSort_perm ss _).nodup_iff.2 (hp.nodup_iff.2 hnd)
  have h3 := h1.and (List.nodup_iff_pairwise_ne.1 h2)
  exact h3.imp fun ⟨a, b⟩ => by have := of_decide_eq_true a; omega
end
section
def dW (ws : List Sp) (i : Nat) : Int := match ws[i]? with
 | some p => p.t - p.f
 | none => 0
def fW (ws : List Sp) (md : Int) (i : Nat) : Bool := decide (0 < dW ws i) && decide (dW ws i < md)
def sT (ws : List Sp) : Nat -> Int
 | 0 => 0
 | i + 1 => sT ws i + dW ws i
def bT (ws : List Sp) (md : Int) : Nat -> Int
 | 0 => 0
 | i + 1 => if fW ws md i then bT ws md i else bT ws md i + dW ws i
def lT (ws : List Sp) : Nat -> Int
 | 0 => -1
 | i + 1 => if i < ws.length then (i : Int) else lT ws i
theorem dW_bd {ws : List Sp} {lo : Int} (h0 : 0 <= lo) (hw : WOk lo ws) (i : Nat) : 0 <= dW ws i /\ dW ws i <= 36500 := by
 unfold dW
 cases h : ws[i]? with
 | none => exact ⟨by decide, by decide⟩
 | some p =>
  have := wok_at hw h
  show 0 <= p.t - p.f /\ p.t - p.f <= 36500
  omega
theorem sT_bd {ws : List Sp} {lo : Int} (h0 : 0 <= lo) (hw : WOk lo ws) : ∀ i : Nat, 0 <= sT ws i /\ sT ws i <= 36500 * i
 | 0 => ⟨Int.le_refl 0, by show (0 : Int) <= _; omega⟩
 | i + 1 => by
  have h1 := sT_bd h0 hw i
  have h2 := dW_bd h0 hw i
  show 0 <= sT ws i + dW ws i /\ sT ws i + dW ws i <= 36500 * ((i + 1 : Nat) : Int)
  omega
theorem bT_bd {ws : List Sp} {md lo : Int} (h0 : 0 <= lo) (hw : WOk lo ws) : ∀ i : Nat, 0 <= bT ws md i /\ bT ws md i <= 36500 * i
 | 0 => ⟨Int.le_refl 0, by show (0 : Int) <= _; omega⟩
 | i + 1 => by
  have h1 := bT_bd (md := md) h0 hw i
  have h2 := dW_bd h0 hw i
  show 0 <= (if fW ws md i then bT ws md i else bT ws md i + dW ws i) /\ (if fW ws md i then bT ws md i else bT ws md i + dW ws i) <= 36500 * ((i + 1 : Nat) : Int)
  split <;> omega
theorem sumW_bd : ∀ {ws : List Sp} {lo : Int}, WOk lo ws -> lo <= 36500 -> 0 <= sumW ws /\ sumW ws <= 36500 - lo
 | [], lo, _, h => ⟨by decide, by show (0 : Int) <= _; omega⟩
 | s :: r, lo, hw, h => by
  obtain ⟨h1, h2, h3, h4⟩ := hw
  have := sumW_bd h4 (by omega)
  show 0 <= (s.t - s.f) + sumW r /\ (s.t - s.f) + sumW r <= _
  omega
theorem days_i {ws : List Sp} {lo : Int} (h0 : 0 <= lo) (hw : WOk lo ws) (i : Nat) {S : Int -> Bool} (hS : nf S = (ws[i]?).toList) : lenL (nf S) = dW ws i := by
 rw [hS]
 unfold dW
 cases h : ws[i]? with
 | none => rfl
 | some p =>
  show (p.t - p.f) + 0 = p.t - p.f
  omega
end
end Go.Proofs.YtnlopdmhdiegnaaGreatDoor
