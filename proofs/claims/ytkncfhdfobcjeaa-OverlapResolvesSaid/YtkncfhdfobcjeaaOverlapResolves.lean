/- The walk of OverlapResolves. -/
import Derived.Test.YtkncfhdfobcjeaaOvY
import Derived.Test.YtkncfhdfobcjeaaOvK
namespace Go.Proofs.Ytkncfhdfobcjeaa
open Go.RowKit

set_option maxRecDepth 100000 in
set_option maxHeartbeats 8000000 in
theorem walkOverlapResolves (A : Option Addr) (n c : Nat) (l : List Pr) (sc : Int) (w : World) (h : Rd w w.heap.size 4 A n (flat Pr.cells l)) (hn : l.length = n) (hok : ∀ p ∈ l, p.ok) (_ : n ≤ maxLen) (isc : I64 sc) :
    Calls Try.prog 6 #[.slice A n c, .int .i64 sc] w fun e w' => e = .returned (.bool true) ∧ Below w.heap.size w w' := by
  by_cases hbig : 40 < n
  · have hbig2 : (40 : Int) < (n : Int) := by omega
    go_enter Try.func6, Try.ntmps6
    go_wp2_with fail
    go_ret
    exact ⟨rfl, Below.refl _ _⟩
  have hbig2 : ¬ (40 : Int) < (n : Int) := by omega
  have HN := Lib.hid hn
  clear hn
  go_enter Try.func6, Try.ntmps6
  go_wp2_with fail
  refine (claims_any sc h HN.out hok (by omega)).mono ?_
  rintro e w1 ⟨A1, c1, C, rfl, h1, hl1, ho1, hb1⟩
  have HL := Lib.hid hl1
  have HO := Lib.hid ho1
  have hb1z := hb1.size
  clear h hl1 ho1 HN hok
  go_wp2_with fail
  refine (awk_any w1).mono ?_
  rintro e wa ⟨rfl, hba⟩
  have h1a := (h1.below hba).mono hba.size
  have hbba := hb1.trans (hba.mono hb1.size)
  clear h1 hb1 hba
  go_wp2_with fail
  refine (resolve_any h1a HL.out (by omega)).mono ?_
  intro e w3 hr
  obtain ⟨A3, c3, R, rfl, hR, -, hRl, h3, hb3⟩ := hr.open (n := 40) (by have := HL.out; omega)
  have h13 := (h1a.below hb3).mono hb3.size
  have hbb3 := hbba.trans (hb3.mono hbba.size)
  have HR := Lib.hid hR
  clear hr hR h1a hbba hb3
  go_wp2_with fail
  refine (rresolve_any (fun p hp => ⟨(HO.out p hp).2.2.1, (HO.out p hp).2.2.2⟩) h13 HL.out (by omega)).mono ?_
  intro e w4 hr
  obtain ⟨A4, c4, R4, rfl, hR4, -, hRl4, h4, hb4⟩ := hr.open (n := 40) (by have := HL.out; omega)
  have h34 := (h3.below hb4).mono hb4.size
  have hbb4 := hbb3.trans (hb4.mono hbb3.size)
  have HE := Lib.hid (res_unique HR.out hR4)
  clear hr hR4 h3 h13 hbb3 hb4 HR
  go_wp2_with fail
  refine (samect_any h34 h4 (by rw [List.length_map]) (by rw [List.length_map]) (by omega) (by rw [HE.out])).mono ?_
  rintro e w5 ⟨rfl, hb5⟩
  go_wp2_with fail
  go_ret
  exact ⟨rfl, hbb4.trans (hb5.mono hbb4.size)⟩
end Go.Proofs.Ytkncfhdfobcjeaa
