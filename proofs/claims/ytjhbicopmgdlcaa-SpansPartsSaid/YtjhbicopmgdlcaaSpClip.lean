/- Clip and Before of the reference; Clip of the program. -/
import Derived.Test.YtjhbicopmgdlcaaSpLast
import Derived.Test.YtjhbicopmgdlcaaSpansB
namespace Go.Proofs.Ytjhbicopmgdlcaa
open Go.RowKit

theorem two_span (w : World) (f t : Int) : ∃ W, W = (w.alloc (.cells #[.int .i64 f, .int .i64 t] 36)).alloc (.cells #[.int .i64 f, .int .i64 t] 36) ∧ Ds W (some ⟨w.heap.size + 1, 0, none⟩) 1 [⟨f, t⟩] ∧ Below w.heap.size w W := by
  refine ⟨_, rfl, ⟨Rd.built (cs := #[.int .i64 f, .int .i64 t]) (t := 36) (fr := (0, 0)) ?_ (by simp) rfl, rfl⟩, ((Below.refl _ _).alloc (Nat.le_refl _) _).alloc (by simp) _⟩
  have := heap_alloc_new (w.alloc (.cells #[.int .i64 f, .int .i64 t] 36)) (.cells #[.int .i64 f, .int .i64 t] 36)
  simpa using this

set_option maxHeartbeats 1000000 in
theorem rclip_any {A : Option Addr} {n c : Nat} {l : List Sp} {w : World} (f t : Int) (h : Ds w A n l) (hn : n ≤ 5000) :
    Calls Try.prog 30 #[.slice A n c, .agg #[.int .i64 f, .int .i64 t]] w (RetNf w fun x => dset l x && dset [⟨f, t⟩] x) := by
  go_enter Try.func30, Try.ntmps30
  go_wp2_with fail
  obtain ⟨W, hW, hd, hb⟩ := two_span w f t
  rw [← hW]
  clear hW
  refine (combine_nf (.inl rfl) (h.below hb) hd hn (by omega)).mono ?_
  intro e w1 hr
  have hr2 := retNf_congr (T := fun x => dset l x && dset [⟨f, t⟩] x) (fun x _ => by rw [gk1]) hr
  obtain ⟨A1, c1, rfl, hown, hb1⟩ := hr2
  have hz := hb.size
  go_wp2_with fail
  go_ret
  exact ⟨A1, c1, rfl, ownsRow_base hown hz, hb.trans (hb1.mono hz)⟩

set_option maxHeartbeats 1000000 in
theorem rbefore_any {A : Option Addr} {n c : Nat} {l : List Sp} {w : World} (d : Int) (h : Ds w A n l) (hn : n ≤ 400) :
    Calls Try.prog 36 #[.slice A n c, .int .i64 d] w fun e w' => e = .returned (.int .i64 (befL (nf (dset l)) d)) ∧ Below w.heap.size w w' := by
  have hlen := nfc_len (la := l) (lb := [⟨0, d⟩]) (m := 1) (fun x y => x && y) rfl h.2 rfl
  have hbr := bef_rank (dset l) d
  have HB := Lib.hid hbr
  clear hbr
  go_enter Try.func36, Try.ntmps36
  go_wp2_with fail
  refine (rclip_any 0 d h (by omega)).mono ?_
  rintro e w1 ⟨A1, c1, rfl, hown, hb1⟩
  have hd1 := Ds.ofOwn hown rfl
  have hself := nf_self (nf_norm fun x => dset l x && dset [⟨0, d⟩] x)
  have HS := Lib.hid hself
  clear hself hown
  go_wp2_with fail
  refine (rdays_any hd1 (by omega)).mono ?_
  rintro e w2 ⟨rfl, hb2⟩
  rw [HS.out, HB.out]
  go_wp2_with fail
  go_ret
  exact ⟨rfl, hb1.trans (hb2.mono hb1.size)⟩
end Go.Proofs.Ytjhbicopmgdlcaa
