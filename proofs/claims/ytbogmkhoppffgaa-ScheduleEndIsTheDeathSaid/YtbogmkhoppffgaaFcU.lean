/- The last month of a person: schedule.End. -/
import Derived.Test.YtbogmkhoppffgaaFcT
import Derived.Test.YtbogmkhoppffgaaFcO
namespace Go.Proofs.Ytbogmkhoppffgaa
open Go.RowKit

/-- The month of the first day on which current facts of a death begin, or the last month. -/
def EndIs (o : Option Int) (m : Int) : Prop := match o with
  | none => m = 2399
  | some d => ∃ k : Nat, m = (k : Int) ∧ msM k ≤ d.toNat ∧ d.toNat < msM (k + 1)
theorem endIs_unique {o : Option Int} {a b : Int} (h1 : EndIs o a) (h2 : EndIs o b) : a = b := by
  cases o with
  | none => rw [show a = 2399 from h1, show b = 2399 from h2]
  | some d =>
    obtain ⟨k, rfl, q1, q2⟩ := h1
    obtain ⟨k', rfl, r1, r2⟩ := h2
    rw [month_unique q1 q2 r1 r2]
theorem vld_all (L : List Fc) (hv : ∀ x ∈ L, Vld x) : ∀ y ∈ mrgF L, Vld y := by
  intro y hy
  rcases mrgF_mem _ _ y hy with hy | hy
  · exact hv y hy
  · cases hy
theorem vld_of (p : Int) (L : List Fc) (hv : ∀ x ∈ L, Vld x) : ∀ y ∈ ofP p L, Vld y := fun y hy => hv y (List.mem_filter.1 hy).1
theorem firD_day {k d : Int} {L : List Fc} (hv : ∀ x ∈ L, Vld x) (h : firD k L = some d) : 0 ≤ d ∧ d ≤ 73048 := by
  rcases firD_mem L none d h with h | ⟨x, hx, rfl⟩
  · cases h
  · have := (hv x hx).sp
    omega
theorem mrgF_le (L : List Fc) : (mrgF L).length ≤ L.length := by
  have h := mrgF_length L []
  unfold mrgF
  simpa using h
theorem ofP_le (p : Int) (L : List Fc) : (ofP p L).length ≤ L.length := List.length_filter_le _ _
set_option maxRecDepth 100000 in
set_option maxHeartbeats 4000000 in
theorem end_any {A : Option Addr} {n c : Nat} {L : List Fc} {w : World} (p : Int) (hp : 1 ≤ p ∧ p ≤ 99) (hL : Rd w w.heap.size 14 A n (flat Fc.cells L)) (hl : L.length = n) (hv : ∀ x ∈ L, Vld x) (hn : n ≤ 900) :
    Calls Try.prog 12 #[.slice A n c, .int .i64 p] w fun e w' => (∃ m : Int, e = .returned (.int .i64 m) ∧ EndIs (firD 12 (ofP p (mrgF L))) m) ∧ Below w.heap.size w w' := by
  have h1 : ¬ p < 1 := by omega
  have h2 : ¬ 99 < p := by omega
  have HL := Lib.hid hl
  have HV := Lib.hid hv
  obtain ⟨F, hF⟩ : ∃ F, firD 12 (ofP p (mrgF L)) = F := ⟨_, rfl⟩
  rw [hF]
  have HF := Lib.hid hF
  clear hl hv hF
  go_enter Try.func12, Try.ntmps12
  go_wp2_with fail
  refine (tmerge_any hL HL.out HV.out hn).mono ?_
  rintro e w1 hret
  obtain ⟨A1, n1, c1, hl1, rfl, h11, h12, hown1, hb1⟩ := hret.open
  have hq1 : n1 ≤ n := by rw [← hl1.out, ← HL.out]; exact mrgF_le L
  go_wp2_with fail
  refine (tof_any p (Rd.ofOwn hown1) hl1.out (by omega)).mono ?_
  rintro e w2 hret2
  obtain ⟨A2, n2, c2, hl2, rfl, h21, h22, hown2, hb2⟩ := hret2.open
  have hq2 : n2 ≤ n1 := by rw [← hl2.out, ← hl1.out]; exact ofP_le p _
  have hb12 := hb1.trans (hb2.mono hb1.size)
  go_wp2_with fail
  refine (tdeath_any (Rd.ofOwn hown2) hl2.out (vld_of p _ (vld_all L HV.out)) (by omega)).mono ?_
  rintro e w3 ⟨rfl, hb3⟩
  have hb13 := hb12.trans (hb3.mono hb12.size)
  rw [HF.out]
  cases F with
  | none =>
    go_wp2_with fail
    go_ret
    exact ⟨⟨2399, rfl, rfl⟩, hb13⟩
  | some d =>
    have hd := firD_day (vld_of p _ (vld_all L HV.out)) HF.out
    obtain ⟨k, rfl⟩ : ∃ k : Nat, d = (k : Int) := ⟨d.toNat, by omega⟩
    go_wp2_with fail
    refine (tmonth_any k (by omega) _).mono ?_
    rintro e w4 ⟨⟨m, rfl, q1, q2, q3⟩, hb4⟩
    go_wp2_with fail
    go_ret
    exact ⟨⟨m, rfl, m, rfl, by rw [Int.toNat_natCast]; exact q2, by rw [Int.toNat_natCast]; exact q3⟩, hb13.trans (hb4.mono hb13.size)⟩
end Go.Proofs.Ytbogmkhoppffgaa
