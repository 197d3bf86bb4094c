/- The walk of OverlapDays. -/
import Derived.Test.YtkncfhdfobcjeaaOvY
import Derived.Test.YtkncfhdfobcjeaaOvI
namespace Go.Proofs.Ytkncfhdfobcjeaa
open Go.RowKit

set_option maxRecDepth 100000 in
set_option maxHeartbeats 8000000 in
theorem walkOverlapDays (A : Option Addr) (n c : Nat) (l : List Pr) (sc : Int) (d : Int) (w : World) (h : Rd w w.heap.size 4 A n (flat Pr.cells l)) (hn : l.length = n) (hok : ∀ p ∈ l, p.ok) (_ : n ≤ maxLen) (isc : I64 sc) (id : I64 d) :
    Calls Try.prog 9 #[.slice A n c, .int .i64 sc, .int .i64 d] w fun e w' => e = .returned (.bool true) ∧ Below w.heap.size w w' := by
  by_cases hbig : 40 < n
  · have hbig2 : (40 : Int) < (n : Int) := by omega
    go_enter Try.func9, Try.ntmps9
    go_wp2_with fail
    go_ret
    exact ⟨rfl, Below.refl _ _⟩
  have hbig2 : ¬ (40 : Int) < (n : Int) := by omega
  have HN := Lib.hid hn
  clear hn
  go_enter Try.func9, Try.ntmps9
  go_wp2_with fail
  refine (claims_any sc h HN.out hok (by omega)).mono ?_
  rintro e w1 ⟨A1, c1, C, rfl, h1, hl1, ho1, hb1⟩
  have HL := Lib.hid hl1
  have HO := Lib.hid ho1
  have hb1z := hb1.size
  clear h hl1 ho1 HN hok
  go_wp2_with fail
  refine (near_any d sc id _).mono ?_
  rintro e w2 ⟨m, rfl, hm, hb2⟩
  have h2 := (h1.below hb2).mono hb2.size
  have hbb2 := hb1.trans (hb2.mono hb1.size)
  clear h1 hb1 hb2 hb1z
  go_wp2_with fail
  refine (oat_any m h2 HL.out (by omega)).mono ?_
  rintro e w3 ⟨rfl, hb3⟩
  have h3 := (h2.below hb3).mono hb3.size
  have hbb3 := hbb2.trans (hb3.mono hbb2.size)
  obtain ⟨s, r, b, hv⟩ := atV_form C m
  have HV := Lib.hid hv
  rw [hv]
  clear h2 hbb2 hb3 hv
  go_wp2_with fail
  refine (countedat_any m (fun p hp => ⟨(HO.out p hp).2.2.1, (HO.out p hp).2.2.2⟩) h3 HL.out (by omega)).mono ?_
  rintro e w4 ⟨rfl, hb4⟩
  have hbb4 := hbb3.trans (hb4.mono hbb3.size)
  rw [HV.out]
  clear h3 hbb3 hb4
  go_wp2_with fail
  refine (awk_any w4).mono ?_
  rintro e w5 ⟨rfl, hb5⟩
  go_wp2_with fail
  go_ret
  exact ⟨rfl, hbb4.trans (hb5.mono hbb4.size)⟩
end Go.Proofs.Ytkncfhdfobcjeaa
