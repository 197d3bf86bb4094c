/- Clip of the program. -/
import Derived.Test.YtkncfhdfobcjeaaSpClip
import Derived.Test.YtkncfhdfobcjeaaSpItx
namespace Go.Proofs.Ytkncfhdfobcjeaa
open Go.RowKit

set_option maxHeartbeats 1000000 in
theorem clip_any {A : Option Addr} {n c : Nat} {l : List Sp} {w : World} (f t : Int) (h : Ds w A n l) (hn : n ≤ 5000) :
    Calls Try.prog 126 #[.slice A n c, .agg #[.int .i64 f, .int .i64 t]] w (RetNf w fun x => dset l x && dset [⟨f, t⟩] x) := by
  go_enter Try.func126, Try.ntmps126
  go_wp2_with fail
  obtain ⟨W, hW, hd, hb⟩ := two_span w f t
  rw [← hW]
  clear hW
  refine (intersect_any (h.below hb) hd hn (by omega)).mono ?_
  rintro e w1 ⟨A1, c1, rfl, hown, hb1⟩
  have hz := hb.size
  go_wp2_with fail
  go_ret
  exact ⟨A1, c1, rfl, ownsRow_base hown hz, hb.trans (hb1.mono hz)⟩
end Go.Proofs.Ytkncfhdfobcjeaa
