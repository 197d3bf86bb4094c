/- Post, Between, Position, Netting and Currencies of the program's ledger, said of the list of debts that it holds; the reference's Post likewise. -/
import Derived.Test.YtldkblkcbffelaaRel
import Derived.Test.YtldkblkcbffelaaNetB
namespace Go.Proofs.Ytldkblkcbffelaa
open Go.RowKit

theorem setKey_length {β : Type} : ∀ (m : List (Int × β)) (k : Int) (v : β), (setKey m k v).length ≤ m.length + 1
  | [], _, _ => by simp [setKey]
  | p :: r, k, v => by
    unfold setKey
    split
    · simp
    · have := setKey_length r k v
      simp only [List.length_cons]
      omega

/-- The program's ledger at lb, mb holds the debts L. -/
def Led (w : World) (lb mb : Nat) (L : List Dt) : Prop := ∃ m, LedA w lb mb m ∧ Rel m L ∧ m.length ≤ L.length ∧ (∀ x ∈ L, x.ok)
section
variable {w w' : World} {lb mb rb : Nat} {L : List Dt}
theorem Led.lt (h : Led w lb mb L) : lb < w.heap.size := let ⟨_, h, _⟩ := h; h.lt
theorem Led.ltm (h : Led w lb mb L) : mb < w.heap.size := let ⟨_, h, _⟩ := h; h.ltm
theorem Led.ok (h : Led w lb mb L) : ∀ x ∈ L, x.ok := let ⟨_, _, _, _, h⟩ := h; h
theorem Led.same (h : Led w lb mb L) (h1 : w'.heap[lb]? = w.heap[lb]?) (h2 : w'.heap[mb]? = w.heap[mb]?) : Led w' lb mb L := let ⟨m, h, r⟩ := h; ⟨m, h.same h1 h2, r⟩
theorem Led.below (h : Led w lb mb L) (hb : Below w.heap.size w w') : Led w' lb mb L := let ⟨m, h, r⟩ := h; ⟨m, h.below hb, r⟩
theorem Led.belowLe {B : Nat} (h : Led w lb mb L) (hb : Below B w w') (h1 : lb < B) (h2 : mb < B) : Led w' lb mb L := let ⟨m, h, r⟩ := h; ⟨m, h.belowLe hb h1 h2, r⟩
theorem Led.grown {row : Option Nat} (h : Led w lb mb L) (hg : w.grownBy w' row) (h1 : some lb ≠ row) (h2 : some mb ≠ row) : Led w' lb mb L := let ⟨m, h, r⟩ := h; ⟨m, h.grown hg h1 h2, r⟩
theorem Led.alloc (h : Led w lb mb L) (o : Obj) : Led (w.alloc o) lb mb L := let ⟨m, h, r⟩ := h; ⟨m, h.alloc o, r⟩
theorem Led.drew (h : Led w lb mb L) : Led w.drew lb mb L := let ⟨m, h, r⟩ := h; ⟨m, h.drew, r⟩
/-- The two blocks are no array of debts and no reference's ledger. -/
theorem Led.notRow (h : Led w lb mb L) {t : TypeId} (ht : t ≠ 55) {k : Nat} {cur : Array Value} {fr : Nat × Nat} (hk : w.heap[k]? = some (.cells cur t fr)) : lb ≠ k ∧ mb ≠ k := by
  obtain ⟨m, h, _⟩ := h
  constructor
  · rintro rfl
    rw [h.led] at hk
    injection hk with hk
    injection hk with _ hk
    exact ht hk.symm
  · rintro rfl
    obtain ⟨es, cl, hh, _⟩ := h.map
    rw [hh] at hk
    cases hk
end

theorem post_led (lb mb : Nat) (L : List Dt) (x : Dt) (w : World) (h : Led w lb mb L) (hl : L.length ≤ 900) :
    Calls Try.prog 17 #[.pointer (some ⟨lb, 0, none⟩), .agg #[.int .i64 x.d, .int .i64 x.c, .int .i64 x.u, .int .i64 x.a]] w
      fun e w' => e = .returned (.int .i64 (codeOf L x)) ∧ Led w' lb mb (nextOf L x) ∧ w.grownBy w' (some mb) := by
  obtain ⟨m, hA, hR, hm, hok⟩ := h
  cases hv : validB x.d x.c x.u x.a with
  | false =>
    refine (post_bad lb x.d x.c x.u x.a w hv).mono ?_
    rintro e w' ⟨rfl, hb⟩
    refine ⟨by simp [codeOf, hv], ?_, grownBy_of_below hb _⟩
    rw [show nextOf L x = L by simp [nextOf, hv]]
    exact ⟨m, hA.below hb, hR, hm, hok⟩
  | true =>
    have hx : x.ok := hv
    obtain ⟨h1, h2, h3, h4, h5, _⟩ := hx.nums
    obtain ⟨d, hd⟩ : ∃ d : Nat, x.d = d := ⟨x.d.toNat, by omega⟩
    obtain ⟨c, hc⟩ : ∃ c : Nat, x.c = c := ⟨x.c.toNat, by omega⟩
    have hx2 : x = ⟨d, c, x.u, x.a⟩ := by rw [← hd, ← hc]
    have hdc : d ≠ c := by omega
    have hstep := hR.step (u := x.u) (a := x.a) hdc
    rw [← hx2] at hstep
    have hok2 : ∀ y ∈ L ++ [x], y.ok := by
      intro y hy
      rcases List.mem_append.1 hy with hy | hy
      · exact hok y hy
      · rw [List.mem_singleton.1 hy]; exact hx
    have hp : ∀ s : Nat, colSum (entered (mat m x.u) d c x.a) s 6 = rpos (L ++ [x]) s x.u := by
      intro s
      have := hstep.pos hok2 x.u s
      rw [mat_setKey, if_pos rfl] at this
      exact this
    rw [hd, hc] at hv ⊢
    refine (post_ok lb mb d c x.u x.a m 900000000000000 w hA (hR.bd hok hl x.u) (by omega) (by omega) hv).mono ?_
    intro e w' hpost
    unfold PostPost at hpost
    rw [hp d, hp c, ← hd, ← hc] at hpost
    have hw : wideB L x = (fitsB (rpos (L ++ [x]) x.d x.u) && fitsB (rpos (L ++ [x]) x.c x.u)) := rfl
    rw [← hw] at hpost
    have hvv : validB x.d x.c x.u x.a = true := hx
    cases hwb : wideB L x with
    | true =>
      rw [hwb, if_pos rfl] at hpost
      obtain ⟨rfl, hg, hL⟩ := hpost
      refine ⟨by simp [codeOf, hvv, hwb], ?_, hg⟩
      rw [show nextOf L x = L ++ [x] by simp [nextOf, hvv, hwb]]
      refine ⟨_, hL, hstep, ?_, hok2⟩
      have := setKey_length m x.u (entered (mat m x.u) d c x.a)
      simp only [List.length_append, List.length_singleton]
      omega
    | false =>
      rw [hwb, if_neg (by simp)] at hpost
      obtain ⟨rfl, hb⟩ := hpost
      refine ⟨by simp [codeOf, hvv, hwb], ?_, grownBy_of_below hb _⟩
      rw [show nextOf L x = L by simp [nextOf, hvv, hwb]]
      exact ⟨m, hA.below hb, hR, hm, hok⟩

theorem rpost_led (rb : Nat) (L : List Dt) (x : Dt) (w : World) (h : RefA w rb L) (hl : L.length ≤ 900) :
    Calls Try.prog 18 #[.pointer (some ⟨rb, 0, none⟩), .agg #[.int .i64 x.d, .int .i64 x.c, .int .i64 x.u, .int .i64 x.a]] w
      fun e w' => e = .returned (.int .i64 (codeOf L x)) ∧ RefA w' rb (nextOf L x) ∧ w.grownBy w' (some rb) := by
  cases hv : validB x.d x.c x.u x.a with
  | false =>
    refine (rpost_bad rb x.d x.c x.u x.a w hv).mono ?_
    rintro e w' ⟨rfl, hb⟩
    refine ⟨by simp [codeOf, hv], ?_, grownBy_of_below hb _⟩
    rw [show nextOf L x = L by simp [nextOf, hv]]
    exact h.below hb
  | true =>
    refine (rpost_ok rb L x w h hv (by omega)).mono ?_
    intro e w' hpost
    unfold RPostPost at hpost
    have hw : wideB L x = (fitsB (rpos (L ++ [x]) x.d x.u) && fitsB (rpos (L ++ [x]) x.c x.u)) := rfl
    rw [← hw] at hpost
    cases hwb : wideB L x with
    | true =>
      rw [hwb, if_pos rfl] at hpost
      obtain ⟨rfl, hg, hL⟩ := hpost
      refine ⟨by simp [codeOf, hv, hwb], ?_, hg⟩
      rw [show nextOf L x = L ++ [x] by simp [nextOf, hv, hwb]]
      exact hL
    | false =>
      rw [hwb, if_neg (by simp)] at hpost
      obtain ⟨rfl, hb⟩ := hpost
      refine ⟨by simp [codeOf, hv, hwb], ?_, grownBy_of_below hb _⟩
      rw [show nextOf L x = L by simp [nextOf, hv, hwb]]
      exact h.below hb

theorem position_of (lb mb : Nat) (L : List Dt) (s : Nat) (u : Int) (w : World) (h : Led w lb mb L) (hl : L.length ≤ 900) (hs : s < 6) :
    Calls Try.prog 21 #[.pointer (some ⟨lb, 0, none⟩), .int .i64 s, .int .i64 u] w fun e w' => e = .returned (.int .i64 (rpos L s u)) ∧ Below w.heap.size w w' := by
  obtain ⟨m, hA, hR, hm, hok⟩ := h
  rw [← hR.pos hok u s]
  exact position_led lb mb s m u _ w hs hA (hR.bd hok hl u) (by omega) (by omega)
theorem between_of (lb mb : Nat) (L : List Dt) (s t : Nat) (u : Int) (w : World) (h : Led w lb mb L) (hs : s < 6) (ht : t < 6) :
    Calls Try.prog 20 #[.pointer (some ⟨lb, 0, none⟩), .int .i64 s, .int .i64 t, .int .i64 u] w fun e w' => e = .returned (.int .i64 (rbet L s t u)) ∧ w = w' := by
  obtain ⟨m, hA, hR, hm, hok⟩ := h
  rw [← hR u s t]
  exact between_led lb mb s t m u w hs ht hA
theorem netting_of (lb mb : Nat) (L : List Dt) (u : Int) (w : World) (h : Led w lb mb L) (hl : L.length ≤ 900) :
    Calls Try.prog 22 #[.pointer (some ⟨lb, 0, none⟩), .int .i64 u] w fun e w' => ∃ v, e = .returned v ∧ w'.ownsRow w.heap.size 37 4 v (net u 6 (fun s => rpos L s u)).length (flat Dt.cells (net u 6 (fun s => rpos L s u))) ∧ Below w.heap.size w w' := by
  obtain ⟨m, hA, hR, hm, hok⟩ := h
  have e : (fun s => colSum (mat m u) s 6) = fun s : Nat => rpos L s u := by funext s; exact hR.pos hok u s
  rw [← e]
  exact netting_led lb mb m u _ w hA (hR.bd hok hl u) (by omega) (by omega)
theorem currencies_of (lb mb : Nat) (L : List Dt) (w : World) (h : Led w lb mb L) (hl : L.length ≤ 900) :
    Calls Try.prog 28 #[.pointer (some ⟨lb, 0, none⟩)] w fun e w' => ∃ A c, e = .returned (.slice A (rcur L L).length c) ∧ Rd w' w'.heap.size 1 A (rcur L L).length (ints (rcur L L)) ∧ Below w.heap.size w w' := by
  obtain ⟨m, hA, hR, hm, hok⟩ := h
  refine (currencies_led lb mb m w hA (by omega)).mono ?_
  rintro e w' ⟨A, c, out, rfl, hrd, hs, ho, hb⟩
  rw [hR.curs hok hs ho] at hrd ⊢
  exact ⟨A, c, rfl, hrd, hb⟩
end Go.Proofs.Ytldkblkcbffelaa
