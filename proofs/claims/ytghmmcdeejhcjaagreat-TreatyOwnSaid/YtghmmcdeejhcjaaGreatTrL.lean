/- same of the laws; Member and Membership of the reference. -/
import Derived.Test.YtghmmcdeejhcjaaGreatTrJ
import Derived.Test.YtghmmcdeejhcjaaGreatTrE
import Derived.Test.YtghmmcdeejhcjaaGreatSpSi
import Derived.Test.YtghmmcdeejhcjaaGreatInsB
namespace Go.Proofs.YtghmmcdeejhcjaaGreat
open Go.RowKit

theorem samei_self {a a2 : Option Addr} {n c c2 : Nat} {m : List Int} {w : World} (hx : Rd w w.heap.size 1 a n (ints m)) (hy : Rd w w.heap.size 1 a2 n (ints m)) (hl : n ≤ 17592186044416) :
    Calls Tryz.prog 19 #[.slice a n c, .slice a2 n c2] w fun e w' => e = .returned (.bool true) ∧ ∃ q, w' = w.drewN q :=
  (samei_any a a2 n n c c2 m m w hx hy hl hl).mono fun e w' ⟨h1, h2⟩ => ⟨by rw [h1, decide_eq_true rfl], h2⟩
set_option maxRecDepth 100000 in
set_option maxHeartbeats 2000000 in
theorem sameru_any {r : Ru} {a a2 : Option Addr} {c c2 : Nat} {w : World} (hx : Rd w w.heap.size 1 a r.m.length (ints r.m)) (hy : Rd w w.heap.size 1 a2 r.m.length (ints r.m)) (hl : r.m.length ≤ 17592186044416) :
    Calls Tryz.prog 9 #[(⟨r, a, c⟩ : Rv).agg, (⟨r, a2, c2⟩ : Rv).agg] w fun e w' => e = .returned (.bool true) ∧ Below w.heap.size w w' := by
  dsimp only [Rv.agg]
  go_enter Tryz.func9, Tryz.ntmps9
  go_upto_region 1 with (fail)
  have hb := ((Below.refl w.heap.size w).alloc (Nat.le_refl _) (.cells #[.int .i64 r.f, .int .i64 r.d, .int .i64 r.p, .int .i64 r.b, .slice a r.m.length c] 31)).alloc (by simp) (.cells #[.int .i64 r.f, .int .i64 r.d, .int .i64 r.p, .int .i64 r.b, .slice a2 r.m.length c2] 31)
  have h1 := (hx.below hb).mono hb.size
  have h2 := (hy.below hb).mono hb.size
  go_wp2_with fail
  refine (samei_self h1 h2 hl).mono ?_
  rintro e w' ⟨rfl, q, rfl⟩
  go_wp2_with fail
  go_ret
  exact ⟨rfl, below_drewN hb q⟩

theorem map_take_ins {X : List Rv} {k : Nat} {x : Rv} (hx : X[k]? = some x) (e : List Int) : insT ((X.map Rv.r).take (k + 1)) e = if isD x.r.f = true then insS (insT ((X.map Rv.r).take k) e) x.r.f else insT ((X.map Rv.r).take k) e := by
  rw [List.take_add_one, List.getElem?_map, hx, Option.map_some, Option.toList_some, insT_snoc]

end Go.Proofs.YtghmmcdeejhcjaaGreat
