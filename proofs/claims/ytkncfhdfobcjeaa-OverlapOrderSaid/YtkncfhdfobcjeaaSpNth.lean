/- Nth and Last of the program and of the reference; the reference's Days. -/
import Derived.Test.YtkncfhdfobcjeaaSpLawB
namespace Go.Proofs.Ytkncfhdfobcjeaa
open Go.RowKit

theorem norm_fit : ∀ {l : List Sp} {lo : Int}, NormFrom lo l → -1 ≤ lo → ∀ s ∈ l, Fit s
  | [], _, _, _, s, hs => by simp at hs
  | p :: r, lo, ⟨h1, h2, h3, h4⟩, h, s, hs => by
    rcases List.mem_cons.1 hs with rfl | hs
    · exact ⟨by omega, h2, h3⟩
    · exact norm_fit h4 (by omega) s hs
theorem nf_fit (S : Int → Bool) : ∀ s ∈ nf S, Fit s := norm_fit (nf_norm S) (Int.le_refl _)
theorem lenF : ∀ (l : List Sp), (∀ s ∈ l, Fit s) → 0 ≤ lenL l ∧ lenL l ≤ 73049 * l.length
  | [], _ => by simp [lenL]
  | s :: r, h => by
    have h1 := lenF r fun x hx => h x (by simp [hx])
    obtain ⟨a, b, c⟩ := h s (by simp)
    unfold lenL
    simp only [List.length_cons]
    omega
theorem nf_length_le {l : List Sp} {n : Nat} (hl : l.length = n) : (nf (dset l)).length ≤ 2 * n := by
  have h1 := comb_eq (fun x y => x || y) rfl l []
  have h2 := combS_length (fun x => dset l x || dset [] x) (edgL (edgL [] l) []) []
  have h3 := edgL_length [] (edgL [] l)
  have h4 := edgL_length l []
  rw [h1] at h2
  have h5 : nf (fun x => dset l x || dset [] x) = nf (dset l) := nf_congr fun x _ => by simp [dset, cov]
  rw [h5] at h2
  simp at *
  omega

theorem nfc_len {la lb : List Sp} {n m : Nat} (g : Bool → Bool → Bool) (hg : g false false = false) (hn : la.length = n) (hm : lb.length = m) : (nf fun x => g (dset la x) (dset lb x)).length ≤ 2 * n + 2 * m := by
  have h1 := comb_eq g hg la lb
  have h2 := combS_length (fun x => g (dset la x) (dset lb x)) (edgL (edgL [] la) lb) []
  have h3 := edgL_length lb (edgL [] la)
  have h4 := edgL_length la []
  rw [h1] at h2
  simp at *
  omega

def nthL : List Sp → Int → Int × Bool
  | [], _ => (0, false)
  | s :: r, n => if n < s.t - s.f then (s.f + n, true) else nthL r (n - (s.t - s.f))
def nthV (m : List Sp) (n : Int) : Int × Bool := if n < 0 then (0, false) else nthL m n
def lastV (m : List Sp) : Int × Bool := match m.getLast? with
  | some s => (s.t - 1, true)
  | none => (0, false)
def pairV (p : Int × Bool) : Value := .tuple #[.int .i64 p.1, .bool p.2]

set_option maxHeartbeats 2000000 in
theorem nth_any {A : Option Addr} {n c : Nat} {l : List Sp} {w : World} (q : Int) (h : Ds w A n l) (hn : n ≤ 1000) (hq : I64 q) :
    Calls Try.prog 127 #[.slice A n c, .int .i64 q] w fun e w' => e = .returned (pairV (nthV (nf (dset l)) q)) ∧ Below w.heap.size w w' := by
  obtain ⟨hq1, hq2⟩ := hq
  by_cases hneg : q < 0
  · have hv : Hid (nthV (nf (dset l)) q = (0, false)) := by show nthV _ _ = _; unfold nthV; rw [if_pos hneg]
    go_enter Try.func127, Try.ntmps127
    go_wp2_with fail
    go_ret2
    exact ⟨by rw [hv.out]; rfl, Below.refl _ _⟩
  · have hnl := nf_length_le h.2
    have hv : nthV (nf (dset l)) q = nthL (nf (dset l)) q := by unfold nthV; rw [if_neg hneg]
    rw [hv]
    clear hv
    go_enter Try.func127, Try.ntmps127
    go_wp2_with fail
    refine (make_nf h (by omega)).mono ?_
    rintro e w1 ⟨A1, c1, rfl, hown, hb1⟩
    have hfit := nf_fit (dset l)
    generalize hN : nf (dset l) = N at *
    have HNf := Lib.hid hN
    clear hN
    have hd1 := Ds.ofOwn hown rfl
    generalize hm : N.length = m at *
    have HM := Lib.hid hm
    have HF := Lib.hid hfit
    have hz1 := hb1.size
    clear hm hfit hown
    go_wp2_with fail
    go_loopw [1, 13] (fun v i wr => ∃ (k : Nat) (r : Int), k ≤ m ∧ i = .int .i64 (k : Int) ∧ v = .int .i64 r ∧ 0 ≤ r ∧ r ≤ 9223372036854775807 ∧ nthL N q = nthL (N.drop k) r ∧ Below w1.heap.size w1 wr) (fun _ i _ => m - (intOf i).toNat)
    case atStart => exact ⟨0, q, by omega, rfl, rfl, by omega, hq2, rfl, Below.refl _ _⟩
    case round =>
      obtain ⟨k, r, hk, rfl, rfl, hr0, hr1, hd, hb⟩ := hrel
      have hwsz := hb.size
      by_cases hlt : k < m
      · have hkl : k < N.length := by rw [HM.out]; exact hlt
        obtain ⟨x, hx⟩ : ∃ x, N[k]? = some x := ⟨_, List.getElem?_eq_getElem hkl⟩
        obtain ⟨_, g, o, rfl, hgb, e0, e1⟩ := sp_cells (hd1.1.below hb) hx
        obtain ⟨f1, f2, f3⟩ := HF.out x (List.mem_of_getElem? hx)
        rw [drop_getS hx, nthL] at hd
        have HD := Lib.hid hd
        have hlo : (0 : Int) ≤ (k : Int) := by omega
        have hhi : (k : Int) < (m : Int) := by omega
        clear hx hd
        by_cases hlt2 : r < x.t - x.f
        · have HD2 : Hid (nthL N q = (x.f + r, true)) := by have := HD.out; rw [if_pos hlt2] at this; exact this
          go_wp2_with fail
          go_ret2
          exact ⟨by rw [HNf.out, HD2.out]; rfl, hb1.trans ((hb.alloc hwsz _).mono hz1)⟩
        · have HD2 : Hid (nthL N q = nthL (N.drop (k + 1)) (r - (x.t - x.f))) := by have := HD.out; rw [if_neg hlt2] at this; exact this
          go_wp2_with fail
          go_roundw
          case rel => exact ⟨k + 1, r - (x.t - x.f), by omega, by go_num, rfl, by omega, by omega, HD2.out, hb.alloc hwsz _⟩
          case measure => simp [intOf]; omega
      · rw [List.drop_eq_nil_of_le (by have := HM.out; omega)] at hd
        have HD : Hid (nthL N q = (0, false)) := hd
        clear hd
        go_wp2_with fail
        go_ret2
        exact ⟨by rw [HNf.out, HD.out]; rfl, hb1.trans (hb.mono hz1)⟩

end Go.Proofs.Ytkncfhdfobcjeaa
