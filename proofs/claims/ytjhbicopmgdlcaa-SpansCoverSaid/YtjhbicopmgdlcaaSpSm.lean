/- small of the laws, its result put into a slice of slices: it came in, or lies in a row of the call's own. -/
import Derived.Test.YtjhbicopmgdlcaaSpLawB
import Derived.Test.YtjhbicopmgdlcaaSpNs
import Derived.Test.YtjhbicopmgdlcaaSpPw
namespace Go.Proofs.Ytjhbicopmgdlcaa
open Go.RowKit

/-- The value v is a slice of the spans l: it came in, or lies in a row of the call's own. -/
def Sv (w : World) (B0 : Nat) (v : Value) (l : List Sp) : Prop := ∃ A c, v = .slice A l.length c ∧ (Rd w B0 2 A l.length (flat Sp.cells l) ∨ w.ownsRow B0 36 2 (.slice A l.length c) l.length (flat Sp.cells l))
theorem Sv.under {w w' : World} {B0 : Nat} {v : Value} {l : List Sp} (h : Sv w B0 v l) (hb : Below w.heap.size w w') (hB : B0 ≤ w.heap.size) : Sv w' B0 v l := by
  obtain ⟨A, c, e, h | h⟩ := h
  · exact ⟨A, c, e, .inl (h.belowLe hb hB)⟩
  · exact ⟨A, c, e, .inr (own_under h hb)⟩
theorem Sv.grown {w w' : World} {B0 base e' sz' n' : Nat} {v v' : Value} {xs' : List Value} {l : List Sp} (h : Sv w B0 v l) (h' : w.ownsRow base e' sz' v' n' xs') (hne : 36 ≠ e') (hg : w.grownBy w' v'.ownBlock) (hB : B0 ≤ w.heap.size) (hb : B0 ≤ base) : Sv w' B0 v l := by
  obtain ⟨A, c, e, h | h⟩ := h
  · exact ⟨A, c, e, .inl (h.grown hg hB fun g e => Nat.le_trans hb (h'.lt g e).1)⟩
  · exact ⟨A, c, e, .inr (h.kept hg (own_apart h h' hne))⟩
theorem Sv.nv {w : World} {B0 : Nat} {v : Value} {l : List Sp} (h : Sv w B0 v l) (hB : B0 ≤ w.heap.size) : Nv w w.heap.size v l := by
  obtain ⟨A, c, e, h | h⟩ := h
  · exact ⟨A, c, e, h.mono hB⟩
  · exact ⟨A, c, e, Rd.ofOwn h⟩
def Svs (w : World) (B0 : Nat) (vs : List Value) (ls : List (List Sp)) : Prop := vs.length = ls.length ∧ ∀ (i : Nat) (v : Value) (l : List Sp), vs[i]? = some v → ls[i]? = some l → Sv w B0 v l
theorem Svs.nil (w : World) (B0 : Nat) : Svs w B0 [] [] := ⟨rfl, fun i v l h => by simp at h⟩
theorem Svs.under {w w' : World} {B0 : Nat} {vs : List Value} {ls : List (List Sp)} (h : Svs w B0 vs ls) (hb : Below w.heap.size w w') (hB : B0 ≤ w.heap.size) : Svs w' B0 vs ls := ⟨h.1, fun i v l h1 h2 => (h.2 i v l h1 h2).under hb hB⟩
theorem Svs.grown {w w' : World} {B0 base e' sz' n' : Nat} {v' : Value} {xs' : List Value} {vs : List Value} {ls : List (List Sp)} (h : Svs w B0 vs ls) (h' : w.ownsRow base e' sz' v' n' xs') (hne : 36 ≠ e') (hg : w.grownBy w' v'.ownBlock) (hB : B0 ≤ w.heap.size) (hb : B0 ≤ base) : Svs w' B0 vs ls := ⟨h.1, fun i v l h1 h2 => (h.2 i v l h1 h2).grown h' hne hg hB hb⟩
theorem Svs.ns {w : World} {B0 : Nat} {vs : List Value} {ls : List (List Sp)} (h : Svs w B0 vs ls) (hB : B0 ≤ w.heap.size) : Ns w w.heap.size vs ls := ⟨h.1, fun i v l h1 h2 => (h.2 i v l h1 h2).nv hB⟩
theorem Svs.snoc {w : World} {B0 : Nat} {vs : List Value} {ls : List (List Sp)} {v : Value} {l : List Sp} (h : Svs w B0 vs ls) (hv : Sv w B0 v l) : Svs w B0 (vs ++ [v]) (ls ++ [l]) := by
  refine ⟨by simp [h.1], fun i u k h1 h2 => ?_⟩
  by_cases hi : i < vs.length
  · rw [List.getElem?_append_left hi] at h1
    rw [List.getElem?_append_left (by rw [← h.1]; exact hi)] at h2
    exact h.2 i u k h1 h2
  · rw [List.getElem?_append_right (by omega)] at h1
    rw [List.getElem?_append_right (by rw [← h.1]; omega), ← h.1] at h2
    have := (List.getElem?_eq_some_iff.1 h1).1
    have h0 : i - vs.length = 0 := by simp at this; omega
    rw [h0] at h1 h2
    simp at h1 h2
    subst h1 h2
    exact hv
def RetSv (w : World) (B0 n : Nat) (e : Ending) (w' : World) : Prop := ∃ v l, e = .returned v ∧ Sv w' B0 v l ∧ l.length = n ∧ Below w.heap.size w w'

set_option maxHeartbeats 4000000 in
theorem small_sv (B0 : Nat) (A : Option Addr) (n c : Nat) (l : List Sp) (s : Int) (w : World) (hr0 : Rd w B0 2 A n (flat Sp.cells l)) (hl0 : l.length = n) (hB : B0 ≤ w.heap.size) (hn : n ≤ 1000) : Calls Try.prog 15 #[.slice A n c, .int .i64 s] w (RetSv w B0 n) := by
  obtain ⟨i0, hi0, hz0, hz1, hz2⟩ := info_parts info_span
  by_cases hs : s.tmod 4 = 0
  · have hb : (s.tmod 4 == 0) = true := beq_iff_eq.2 hs
    have HL0 := Lib.hid hl0
    clear hs hl0
    go_enter Try.func15, Try.ntmps15
    go_wp2_with fail
    go_ret
    exact ⟨.slice A n c, l, rfl, ⟨A, c, by rw [HL0.out], .inl (by rw [HL0.out]; exact hr0)⟩, HL0.out, Below.refl _ _⟩
  · have hb : (s.tmod 4 == 0) = false := beq_eq_false_iff_ne.2 hs
    obtain ⟨p, k, hp, hp4, hk0, hk1, hcell⟩ := scale_row s w
    have hp4' : (p : Int) < 4 := by omega
    have hp0 : (0 : Int) ≤ (p : Int) := by omega
    have HN := Lib.hid hl0
    have hrd := hr0.mono hB
    clear hs hr0 hl0
    go_enter Try.func15, Try.ntmps15
    go_wp2_with fail
    refine (pick_any s 4 _ (by omega)).mono ?_
    rintro e w' ⟨rfl, rfl⟩
    rw [hp]
    have HP := Lib.hid hp
    clear hp
    go_wp2_with fail
    go_loopw [6, 7] (fun v i wr => ∃ (j : Nat) (O : List Sp), j ≤ n ∧ i = .int .i64 (j : Int) ∧ O.length = j ∧ (∀ s ∈ O, s.ok) ∧ wr.ownsRow w.heap.size 36 2 v j (flat Sp.cells O) ∧ Below w.heap.size w wr) (fun _ i _ => n - (intOf i).toNat)
    case atStart => exact ⟨0, [], by omega, rfl, rfl, by simp, World.ownsRow_nil _ _ _ _, (Below.refl _ _).alloc (Nat.le_refl _) _⟩
    case round =>
      obtain ⟨j, O, hj, rfl, hOl, hOo, hown, hbr⟩ := hrel
      have hwsz := hbr.size
      have HOL := Lib.hid hOl
      have HOO := Lib.hid hOo
      clear hOl hOo
      by_cases hlt : j < n
      · have hjl : j < l.length := by rw [HN.out]; exact hlt
        obtain ⟨x, hx⟩ : ∃ x, l[j]? = some x := ⟨_, List.getElem?_eq_getElem hjl⟩
        obtain ⟨_, g, o, rfl, hgb, e0, e1⟩ := sp_cells (hrd.below hbr) hx
        obtain ⟨A2, c2, rfl, _, _, _⟩ := own_form hown
        have hlo : (0 : Int) ≤ (j : Int) := by omega
        have hhi : (j : Int) < (n : Int) := by omega
        clear hx hcell
        go_wp2_with fail
        refine (pick_any x.f k _ (by omega)).mono ?_
        rintro e w' ⟨rfl, rfl⟩
        have hpb := pick_bd2 x.f k hk0 hk1
        generalize pick x.f k = q at *
        go_wp2_with fail
        have hk3 : k / 3 + 2 ≤ 4611686018427387904 := by omega
        have hk30 : 0 ≤ k / 3 + 2 := by omega
        have hk31 : k / 3 + 2 ≤ 73108 := by omega
        refine (pick_any x.t _ _ hk3).mono ?_
        rintro e w' ⟨rfl, rfl⟩
        have hpb2 := pick_bd2 x.t (k / 3 + 2) hk30 hk31
        generalize pick x.t (k / 3 + 2) = r at *
        go_wp2_with (at_builtin; go_loud (refine wpList_append_rd (by rfl) (.tmp 32) (.tmp 47) 22 (by rfl) w.heap.size 36 i0 _ 2 16 Try.underlying22 hi0 hz0 hz1 hz2 rfl (by omega) (.slice A2 j c2) j (flat Sp.cells O) (by rfl) (hown.alloc _) (wr.heap.size + 1) (some ⟨wr.heap.size, 0, none⟩) 1 1 [.int .i64 (q - 3), .int .i64 (q - 3 + r - 1)] (by rfl) (Rd.built (heap_alloc_new wr _) (by omega) rfl) (by intro u hu; simp at hu; rcases hu with rfl | rfl <;> rfl) (by unfold maxLen; omega) (by omega) (by simp; omega) ?_); intro v4 w4 hown4 hg4 hat4)
        have hb4 := (hbr.alloc hwsz (.cells #[.int .i64 (q - 3), .int .i64 (q - 3 + r - 1)] 36)).grown hg4 (by simp; omega) (fun g e => by have := (hown.lt g e).1; omega)
        have e2 : flat Sp.cells (O ++ [Sp.mk (q - 3) (q - 3 + r - 1)]) = flat Sp.cells O ++ [.int .i64 (q - 3), .int .i64 (q - 3 + r - 1)] := by rw [flat_append, flat_one]; rfl
        refine ⟨⟨j + 1, O ++ [Sp.mk (q - 3) (q - 3 + r - 1)], by omega, by go_num, by rw [List.length_append, HOL.out]; rfl, fun s hs => ?_, ?_, hb4⟩, by simp [intOf]; omega⟩
        · rcases List.mem_append.1 hs with hs | hs
          · exact HOO.out s hs
          · rw [List.mem_singleton.1 hs]
            exact ⟨⟨by show _ ≤ q - 3; omega, by show q - 3 ≤ _; omega⟩, ⟨by show _ ≤ q - 3 + r - 1; omega, by show q - 3 + r - 1 ≤ _; omega⟩⟩
        · rw [e2]
          exact hown4
      · obtain rfl : j = n := by omega
        obtain ⟨A2, c2, rfl, _, _, _⟩ := own_form hown
        go_wp2_with fail
        go_ret
        exact ⟨.slice A2 j c2, O, rfl, ⟨A2, c2, by rw [HOL.out], .inr (by rw [HOL.out]; exact ownsRow_base hown hB)⟩, HOL.out, hbr⟩
end Go.Proofs.Ytjhbicopmgdlcaa
