/- The program's segments. -/
import Derived.Test.YtbogmkhoppffgaaScS
namespace Go.Proofs.Ytbogmkhoppffgaa
open Go.RowKit

theorem info_int : (Try.prog.info? 3).map (fun i => (i.zero, i.size, i.bytes)) = some (some (.int .i64 0), 1, 8) := by kernel_rfl
structure RRow where
  a : Option Addr
  n : Nat
  c : Nat
  l : List Rw
def RRow.val (r : RRow) : Value := .slice r.a r.n r.c
def RRow.good (w : World) (B : Nat) (r : RRow) : Prop := Rd w B 6 r.a r.n (flat Rw.cells r.l) ∧ r.l.length = r.n ∧ r.n ≤ 100000
/-- The rows of the lists one behind the other. -/
def allR (rs : List RRow) : List Rw := rs.flatMap (·.l)
theorem allR_snoc (rs : List RRow) (r : RRow) : allR (rs ++ [r]) = allR rs ++ r.l := by simp [allR]
/-- What has been gathered behind some rows. -/
def Gath (f t s : Int) (L : List Rw) (D : List Int) : Prop := f ∈ D ∧ (∀ x ∈ D, x = f ∨ (f < x ∧ x ≤ t)) ∧ (∀ r ∈ L, r.s = s → f < r.m → r.m ≤ t → r.m ∈ D) ∧ D.length ≤ 1 + L.length
theorem gath_yes {f t s : Int} {L : List Rw} {D : List Int} {x : Rw} (h : Gath f t s L D) (h1 : f < x.m) (h2 : x.m ≤ t) : Gath f t s (L ++ [x]) (D ++ [x.m]) := by
  obtain ⟨a, b, c, d⟩ := h
  refine ⟨by simp [a], fun y hy => ?_, fun r hr e1 e2 e3 => ?_, by simp; omega⟩
  · rcases List.mem_append.1 hy with hy | hy
    · exact b y hy
    · rw [List.mem_singleton.1 hy]; exact .inr ⟨h1, h2⟩
  · rcases List.mem_append.1 hr with hr | hr
    · exact List.mem_append.2 (.inl (c r hr e1 e2 e3))
    · rw [List.mem_singleton.1 hr]; simp
theorem gath_no {f t s : Int} {L : List Rw} {D : List Int} {x : Rw} (h : Gath f t s L D) (hn : ¬(x.s = s ∧ f < x.m ∧ x.m ≤ t)) : Gath f t s (L ++ [x]) D := by
  obtain ⟨a, b, c, d⟩ := h
  refine ⟨a, b, fun r hr e1 e2 e3 => ?_, by simp; omega⟩
  rcases List.mem_append.1 hr with hr | hr
  · exact c r hr e1 e2 e3
  · rw [List.mem_singleton.1 hr] at e1 e2 e3
    exact absurd ⟨e1, e2, e3⟩ hn
theorem seg_cases (f t s : Int) (x : Rw) : ((x.s == s) = true ∧ decide (f < x.m) = true ∧ decide (x.m ≤ t) = true ∧ f < x.m ∧ x.m ≤ t) ∨ ((x.s == s) = false ∧ ¬(x.s = s ∧ f < x.m ∧ x.m ≤ t)) ∨ ((x.s == s) = true ∧ decide (f < x.m) = false ∧ ¬(x.s = s ∧ f < x.m ∧ x.m ≤ t)) ∨ ((x.s == s) = true ∧ decide (f < x.m) = true ∧ decide (x.m ≤ t) = false ∧ ¬(x.s = s ∧ f < x.m ∧ x.m ≤ t)) := by
  by_cases h1 : x.s = s
  · by_cases h2 : f < x.m
    · by_cases h3 : x.m ≤ t
      · exact .inl ⟨beq_iff_eq.2 h1, decide_eq_true h2, decide_eq_true h3, h2, h3⟩
      · exact .inr (.inr (.inr ⟨beq_iff_eq.2 h1, decide_eq_true h2, decide_eq_false h3, fun h => h3 h.2.2⟩))
    · exact .inr (.inr (.inl ⟨beq_iff_eq.2 h1, decide_eq_false h2, fun h => h2 h.2.1⟩))
  · exact .inr (.inl ⟨beq_eq_false_iff_ne.2 h1, fun h => h1 h.1⟩)
/-- The beginnings of the segments are returned. -/
def RetSeg (w : World) (f t s : Int) (L : List Rw) (e : Ending) (w' : World) : Prop :=
  ∃ A c E, e = .returned (.slice A (List.length E) c) ∧ Rd w' w'.heap.size 1 A E.length (ints E) ∧ Segs f t s L E ∧ E.length ≤ 200001 ∧ Below w.heap.size w w'
theorem segs_of {f t s : Int} {L : List Rw} {D : List Int} (h : Gath f t s L D) (hft : f ≤ t) : Segs f t s L (Lib.compact (sortI D)) := by
  obtain ⟨a, b, c, d⟩ := h
  obtain ⟨h1, h2⟩ := compact_ok (sortI_le D)
  have hm : ∀ x, x ∈ Lib.compact (sortI D) ↔ x ∈ D := fun x => (h1 x).trans (mem_sortI D x)
  have hb : ∀ x ∈ Lib.compact (sortI D), f ≤ x ∧ x ≤ t := fun x hx => by
    rcases b x ((hm x).1 hx) with h | h
    · subst h; exact ⟨Int.le_refl _, hft⟩
    · exact ⟨by omega, h.2⟩
  exact ⟨h2, head_of h2 ((hm f).2 a) fun x hx => (hb x hx).1, hb, fun r hr e1 e2 e3 => (hm _).2 (c r hr e1 e2 e3)⟩

set_option maxRecDepth 100000 in
set_option maxHeartbeats 4000000 in
theorem segments_any {A : Option Addr} {N c : Nat} {rs : List RRow} {w : World} (f t s : Int) (h : Rd w w.heap.size 1 A N (rs.map RRow.val)) (hg : ∀ r ∈ rs, r.good w w.heap.size) (hN : rs.length = N) (hN2 : N ≤ 2) (hft : f ≤ t) :
    Calls Try.prog 36 #[.int .i64 f, .int .i64 t, .int .i64 s, .slice A N c] w (RetSeg w f t s (allR rs)) := by
  obtain ⟨i0, hi0, hz0, hz1, hz2⟩ := info_parts info_int
  have HN := Lib.hid hN
  have HG := Lib.hid hg
  have HFT := Lib.hid hft
  clear hN hg hft
  have hall : (allR rs).length ≤ 200000 := by
    have : ∀ (k : List RRow), (∀ r ∈ k, r ∈ rs) → (allR k).length ≤ 100000 * k.length := by
      intro k
      induction k with
      | nil => intro _; simp [allR]
      | cons r k ih =>
        intro hk
        have h1 := ih fun x hx => hk x (by simp [hx])
        obtain ⟨_, h2, h3⟩ := HG.out r (hk r (by simp))
        simp only [allR, List.flatMap_cons, List.length_append, List.length_cons] at *
        omega
    have h2 := this rs fun _ hr => hr
    have h3 := HN.out
    omega
  have HALL := Lib.hid hall
  clear hall
  go_enter Try.func36, Try.ntmps36
  go_wp2_with fail
  go_loopw [9, 18] (fun v i wr => ∃ (k : Nat) (D : List Int), k ≤ N ∧ i = .int .i64 (k : Int) ∧ Gath f t s (allR (rs.take k)) D ∧ wr.ownsRow w.heap.size 3 1 v D.length (ints D) ∧ Below w.heap.size w wr) (fun _ i _ => N - (intOf i).toNat)
  case atStart => exact ⟨0, [f], by omega, rfl, ⟨by simp, fun x hx => .inl (List.mem_singleton.1 hx), fun r hr => by simp [allR] at hr, by simp⟩, ⟨rfl, .inr ⟨w.heap.size, 1, #[.int .i64 f], rfl, Nat.le_refl _, heap_alloc_new w _, Nat.le_refl _, by unfold maxLen; omega, rfl, rfl⟩⟩, (Below.refl _ _).alloc (Nat.le_refl _) _⟩
  case round =>
    obtain ⟨k, D, hk, rfl, hga, hown, hb⟩ := hrel
    have hwsz := hb.size
    obtain ⟨A1, c1, rfl, hnc1, hcm1, hA1⟩ := own_form hown
    by_cases hlt : k < N
    · have hkl : k < rs.length := by rw [HN.out]; exact hlt
      obtain ⟨r, hr⟩ : ∃ r, rs[k]? = some r := ⟨_, List.getElem?_eq_getElem hkl⟩
      obtain ⟨hrd2, hrl, hrn⟩ := HG.out r (List.mem_of_getElem? hr)
      obtain ⟨b, o, rfl, hbb, hc⟩ := (h.below hb).2 (by omega)
      have hcl := hc k _ (by rw [List.getElem?_map, hr]; rfl)
      have htk : allR (rs.take (k + 1)) = allR (rs.take k) ++ r.l := by rw [List.take_add_one, hr]; exact allR_snoc _ _
      have htl : (allR (rs.take k)).length + r.l.length ≤ 200000 := by
        have h1 := HALL.out
        have h2 : allR rs = allR (rs.take (k + 1)) ++ allR (rs.drop (k + 1)) := by unfold allR; rw [← List.flatMap_append, List.take_append_drop]
        rw [h2, List.length_append, htk, List.length_append] at h1
        omega
      have HTK := Lib.hid htk
      have HGA := Lib.hid hga
      have HRL := Lib.hid hrl
      generalize hPL : allR (rs.take k) = PL at *
      have HPL := Lib.hid hPL
      have hlo : (0 : Int) ≤ (k : Int) := by omega
      have hhi : (k : Int) < (N : Int) := by omega
      unfold RRow.val at hcl
      clear hr htk hga hrl hc hPL
      go_wp2_with fail
      go_loopw [9, 24] (fun v i wn => ∃ (j : Nat) (D2 : List Int), j ≤ r.n ∧ i = .int .i64 (j : Int) ∧ Gath f t s (PL ++ r.l.take j) D2 ∧ wn.ownsRow w.heap.size 3 1 v D2.length (ints D2) ∧ Below w.heap.size w wn) (fun _ i _ => r.n - (intOf i).toNat)
      case atStart => exact ⟨0, D, by omega, rfl, by simpa using HGA.out, hown, hb⟩
      case round =>
        clear hown hb hcl hwsz
        obtain ⟨j, D2, hj, rfl, hga, hown, hb⟩ := hrel
        have hwsz := hb.size
        obtain ⟨A2, c2, rfl, hnc2, hcm2, hA2⟩ := own_form hown
        by_cases hlj : j < r.n
        · have hjl : j < r.l.length := by rw [HRL.out]; exact hlj
          obtain ⟨x, hx⟩ : ∃ x, r.l[j]? = some x := ⟨_, List.getElem?_eq_getElem hjl⟩
          obtain ⟨_, g, o2, hra, hgb, e0, e1, e2, e3, e4, e5⟩ := rw_cells (hrd2.below hb) hx
          have htj : PL ++ r.l.take (j + 1) = (PL ++ r.l.take j) ++ [x] := by rw [List.take_add_one, hx, List.append_assoc]; rfl
          have hlen : D2.length ≤ 200001 := by
            have h1 := hga.2.2.2
            rw [List.length_append, List.length_take] at h1
            omega
          have HTJ := Lib.hid htj
          have HGA2 := Lib.hid hga
          have hlo2 : (0 : Int) ≤ (j : Int) := by omega
          have hhi2 : (j : Int) < (r.n : Int) := by omega
          have hra2 := hra
          clear hx htj hga hra
          rw [hra2]
          rcases seg_cases f t s x with ⟨t1, t2, t3, u1, u2⟩ | ⟨t1, hh⟩ | ⟨t1, t2, hh⟩ | ⟨t1, t2, t3, hh⟩
          · have hg2 := gath_yes HGA2.out u1 u2
            rw [← HTJ.out] at hg2
            have HG2 := Lib.hid hg2
            have HRA := Lib.hid hra2
            have hl2 : (D2 ++ [x.m]).length = D2.length + 1 := by simp
            have hf2 : ints (D2 ++ [x.m]) = ints D2 ++ [.int .i64 x.m] := by simp [ints]
            have HL2 := Lib.hid hl2
            have HF2 := Lib.hid hf2
            have hownA := hown.alloc (.cells #[.int .i64 x.s, .int .i64 x.b, .int .i64 x.m, .int .i64 x.c, .int .i64 x.a, .bool x.p] 52)
            have hbA := hb.alloc hwsz (.cells #[.int .i64 x.s, .int .i64 x.b, .int .i64 x.m, .int .i64 x.c, .int .i64 x.a, .bool x.p] 52)
            clear hg2 hl2 hf2 hra2 u1 u2
            go_wp2_with (at_builtin; go_loud (refine wpList_append_rd (by rfl) (.tmp 44) (.tmp 47) 22 (by rfl) w.heap.size 3 i0 _ 1 8 Try.underlying22 hi0 hz0 hz1 hz2 rfl (by omega) (.slice A2 D2.length c2) D2.length (ints D2) (by rfl) (hownA.alloc _) (wr.heap.size + 2) (some ⟨wr.heap.size + 1, 0, none⟩) 1 1 [.int .i64 x.m] (by rfl) (Rd.built (cs := #[.int .i64 x.m]) (t := 3) (fr := (0, 0)) (by have := heap_alloc_new (wr.alloc (.cells #[.int .i64 x.s, .int .i64 x.b, .int .i64 x.m, .int .i64 x.c, .int .i64 x.a, .bool x.p] 52)) (.cells #[.int .i64 x.m] 3); simpa using this) (by omega) rfl) (by intro u hu; simp at hu; subst hu; rfl) (by unfold maxLen; omega) (by omega) (by simp; omega) ?_); intro v4 w4 hown4 hg4 hat4
                         obtain ⟨A4, c4, rfl, _, _, _⟩ := own_form hown4)
            have hb4 := (hbA.alloc hbA.size (.cells #[.int .i64 x.m] 3)).grown hg4 (by simp; omega) (fun g e => by have := (hown.lt g e).1; omega)
            go_roundw
            case rel =>
              refine ⟨j + 1, D2 ++ [x.m], by omega, by go_num, HG2.out, ?_, hb4⟩
              rw [HL2.out, HF2.out]
              exact hown4
            case measure => simp [intOf]; omega
          all_goals
            have hg2 := gath_no HGA2.out hh
            rw [← HTJ.out] at hg2
            have HG2 := Lib.hid hg2
            have HRA := Lib.hid hra2
            clear hg2 hh hra2
            go_wp2_with fail
            go_roundw
            case rel => exact ⟨j + 1, D2, by omega, by go_num, HG2.out, hown.alloc _, hb.alloc hwsz _⟩
            case measure => simp [intOf]; omega
        · rw [List.take_of_length_le (by have := HRL.out; omega), ← HTK.out] at hga
          have HGA2 := Lib.hid hga
          clear hga
          go_wp2_with fail
          go_roundw
          case rel => exact ⟨k + 1, D2, by omega, by go_num, HGA2.out, hown, hb⟩
          case measure => simp [intOf]; omega
    · rw [List.take_of_length_le (by have := HN.out; omega)] at hga
      have hseg := segs_of hga HFT.out
      have hD1 : 0 < D.length := List.length_pos_of_mem hga.1
      have hD2 : D.length ≤ 200001 := by have h1 := hga.2.2.2; have h2 := HALL.out; omega
      have HSEG := Lib.hid hseg
      obtain ⟨g, rfl, hgl⟩ := hA1 hD1
      have hbase := (hown.lt g rfl).1
      have hsl := sortI_length D
      have HSL := Lib.hid hsl
      clear hga hseg hsl
      go_wp2_with fail
      refine (sort_row hown (by omega)).mono ?_
      rintro e w1 ⟨rfl, hH, hg1, hb1⟩
      have hbb1 := hb.trans (hb1.mono (Nat.le_refl _))
      go_wp2_with fail
      rw [← HSL.out] at hnc1 ⊢
      refine (compact_row (base := w.heap.size) hH hg1 hbase (by rw [HSL.out]; omega) hnc1).mono ?_
      rintro e w2 ⟨rfl, hrd, hb2⟩
      go_wp2_with fail
      go_ret
      have hcl := compact_length (sortI D)
      exact ⟨_, _, _, rfl, hrd, HSEG.out, by rw [HSL.out] at hcl; omega, hbb1.trans hb2⟩
end Go.Proofs.Ytbogmkhoppffgaa
