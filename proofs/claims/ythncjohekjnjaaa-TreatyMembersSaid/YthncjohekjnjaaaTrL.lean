/- same of the laws; Member and Membership of the reference. -/
import Derived.Test.YthncjohekjnjaaaTrJ
import Derived.Test.YthncjohekjnjaaaTrE
import Derived.Test.YthncjohekjnjaaaSpSi
import Derived.Test.YthncjohekjnjaaaInsB
namespace Go.Proofs.Ythncjohekjnjaaa
open Go.RowKit

theorem samei_self {a a2 : Option Addr} {n c c2 : Nat} {m : List Int} {w : World} (hx : Rd w w.heap.size 1 a n (ints m)) (hy : Rd w w.heap.size 1 a2 n (ints m)) (hl : n ≤ 17592186044416) :
    Calls Try.prog 24 #[.slice a n c, .slice a2 n c2] w fun e w' => e = .returned (.bool true) ∧ ∃ q, w' = w.drewN q :=
  (samei_any a a2 n n c c2 m m w hx hy hl hl).mono fun e w' ⟨h1, h2⟩ => ⟨by rw [h1, decide_eq_true rfl], h2⟩
set_option maxRecDepth 100000 in
set_option maxHeartbeats 2000000 in
theorem sameru_any {r : Ru} {a a2 : Option Addr} {c c2 : Nat} {w : World} (hx : Rd w w.heap.size 1 a r.m.length (ints r.m)) (hy : Rd w w.heap.size 1 a2 r.m.length (ints r.m)) (hl : r.m.length ≤ 17592186044416) :
    Calls Try.prog 11 #[(⟨r, a, c⟩ : Rv).agg, (⟨r, a2, c2⟩ : Rv).agg] w fun e w' => e = .returned (.bool true) ∧ Below w.heap.size w w' := by
  dsimp only [Rv.agg]
  go_enter Try.func11, Try.ntmps11
  go_upto_region 1 with (fail)
  have hb := ((Below.refl w.heap.size w).alloc (Nat.le_refl _) (.cells #[.int .i64 r.f, .int .i64 r.d, .int .i64 r.p, .int .i64 r.b, .slice a r.m.length c] 27)).alloc (by simp) (.cells #[.int .i64 r.f, .int .i64 r.d, .int .i64 r.p, .int .i64 r.b, .slice a2 r.m.length c2] 27)
  have h1 := (hx.below hb).mono hb.size
  have h2 := (hy.below hb).mono hb.size
  go_wp2_with fail
  refine (samei_self h1 h2 hl).mono ?_
  rintro e w' ⟨rfl, q, rfl⟩
  go_wp2_with fail
  go_ret
  exact ⟨rfl, below_drewN hb q⟩

set_option maxHeartbeats 1000000 in
theorem rmember_any {A : Option Addr} {n c : Nat} {X : List Rv} (s d : Int) {w : World} (hX : Rus w w.heap.size A n X) (hn : n ≤ 1000000) (hml : ∀ x ∈ X, x.r.m.length ≤ 17592186044416) :
    Calls Try.prog 13 #[.slice A n c, .int .i64 s, .int .i64 d] w fun e w' => e = .returned (.bool (memT (X.map Rv.r) s d)) ∧ Below w.heap.size w w' := by
  have hlen : ∀ r, atT (X.map Rv.r) d = some r → r.m.length ≤ 17592186044416 := fun r hr => by
    obtain ⟨x, hx, rfl⟩ := List.mem_map.1 (atT_mem hr).1
    exact hml x hx
  have HL := Lib.hid hlen
  clear hlen
  go_enter Try.func13, Try.ntmps13
  go_wp2_with fail
  refine (rulesat_any d hX hn hml).mono ?_
  intro e w1 hr
  obtain ⟨hb, hr⟩ := hr
  cases ha : atT (X.map Rv.r) d with
  | none =>
    rw [ha] at hr
    obtain rfl := hr
    have HA := Lib.hid ha
    clear ha
    dsimp only [Rv.agg]
    go_wp2_with fail
    go_ret
    exact ⟨ret_bool (by unfold memT; rw [HA.out]), hb.alloc hb.size _⟩
  | some r =>
    have hrl := HL.out r ha
    rw [ha] at hr
    obtain ⟨a, c2, rfl, hown⟩ := hr
    have HA := Lib.hid ha
    clear ha
    dsimp only [Rv.agg]
    go_wp2_with fail
    refine (has_rd (Rd.ofOwn (hown.alloc _)) s hrl).mono ?_
    rintro e w' ⟨rfl, rfl⟩
    go_wp2_with fail
    go_ret
    exact ⟨ret_bool (by unfold memT; rw [HA.out]), hb.alloc hb.size _⟩

theorem map_take_ins {X : List Rv} {k : Nat} {x : Rv} (hx : X[k]? = some x) (e : List Int) : insT ((X.map Rv.r).take (k + 1)) e = if isD x.r.f = true then insS (insT ((X.map Rv.r).take k) e) x.r.f else insT ((X.map Rv.r).take k) e := by
  rw [List.take_add_one, List.getElem?_map, hx, Option.map_some, Option.toList_some, insT_snoc]

set_option maxRecDepth 100000 in
set_option maxHeartbeats 4000000 in
theorem rmembership_any {A : Option Addr} {n c : Nat} {X : List Rv} (s : Int) {w : World} (hX : Rus w w.heap.size A n X) (hn : n ≤ 1000) (hml : ∀ x ∈ X, x.r.m.length ≤ 17592186044416) :
    Calls Try.prog 16 #[.slice A n c, .int .i64 s] w (RetNf w (memT (X.map Rv.r) s)) := by
  obtain ⟨i1, hi1, hy0, hy1, hy2⟩ := info_parts info_span
  have HML := Lib.hid hml
  clear hml
  go_enter Try.func16, Try.ntmps16
  go_upto_region 2 with (fail)
  have hrow := heap_alloc_new w (.cells #[.int .i64 0, .int .i64 73049] 3)
  have hbA := (Below.refl w.heap.size w).alloc (Nat.le_refl _) (.cells #[.int .i64 0, .int .i64 73049] 3)
  have hown0 : (w.alloc (.cells #[.int .i64 0, .int .i64 73049] 3)).ownsRow w.heap.size 3 1 (.slice (some ⟨w.heap.size, 0, none⟩) 2 2) 2 (ints [0, 73049]) := own_full hrow (Nat.le_refl _) rfl (by unfold maxLen; omega)
  obtain ⟨W0, hW0⟩ : ∃ W0, W0 = w.alloc (.cells #[.int .i64 0, .int .i64 73049] 3) := ⟨_, rfl⟩
  rw [← hW0] at hbA hown0 ⊢
  clear hW0 hrow
  have hrd0 := Rd.ofOwn hown0
  clear hown0
  go_wp2_with fail
  go_loopw [5, 6] (fun v i wr => ∃ (k : Nat) (A2 : Option Addr) (c2 : Nat) (E : List Int), k ≤ n ∧ i = .int .i64 (k : Int) ∧ v = .slice A2 E.length c2 ∧ E = insT ((X.map Rv.r).take k) [0, 73049] ∧ Rd wr wr.heap.size 1 A2 E.length (ints E) ∧ E.length ≤ c2 ∧ c2 ≤ maxLen ∧ Below w.heap.size w wr) (fun _ i _ => n - (intOf i).toNat)
  case atStart => exact ⟨0, _, _, [0, 73049], by omega, rfl, rfl, rfl, hrd0, by simp, by unfold maxLen; omega, hbA⟩
  case round =>
    obtain ⟨k, A2, c2, E, hk, rfl, rfl, hE, hrd, hEc, hc2, hb⟩ := hrel
    have hwz := hb.size
    have hEl : E.length ≤ 2 + n := by
      have := insT_length ((X.map Rv.r).take k) [0, 73049]
      rw [List.length_take, List.length_map, ← hE] at this
      simp at this
      omega
    have hEs : E.Pairwise (· < ·) := by rw [hE]; exact insT_sorted _ (by simp)
    have HES := Lib.hid hEs
    have HC2 := Lib.hid hc2
    clear hEs hc2
    by_cases hlt : k < n
    · obtain ⟨x, hx⟩ : ∃ x, X[k]? = some x := ⟨_, List.getElem?_eq_getElem (by rw [hX.2.1]; exact hlt)⟩
      obtain ⟨_, b, o, rfl, hbb, e0, _⟩ := rv_cells (hX.below hb) hx
      have hst := map_take_ins hx [0, 73049]
      rw [← hE] at hst
      have HST := Lib.hid hst
      have hlo : (0 : Int) ≤ (k : Int) := by omega
      have hhi : (k : Int) < (n : Int) := by omega
      have HE := Lib.hid hE
      clear hx hst hE hrd0 hbA
      go_wp2_with fail
      refine (vday_to rfl _).mono ?_
      rintro e w' ⟨rfl, rfl⟩
      cases hd : isD x.r.f with
      | false =>
        have HT : Hid (insT ((X.map Rv.r).take (k + 1)) [0, 73049] = E) := Lib.hid (by rw [HST.out, hd]; simp)
        clear hd
        go_wp2_with fail
        go_roundw
        case rel => exact ⟨k + 1, A2, c2, E, by omega, by go_num, rfl, HT.out.symm, hrd, hEc, HC2.out, hb⟩
        case measure => simp [intOf]; omega
      | true =>
        have HT : Hid (insT ((X.map Rv.r).take (k + 1)) [0, 73049] = insS E x.r.f) := Lib.hid (by rw [HST.out, hd]; simp)
        clear hd
        go_wp2_with fail
        refine (ins_any A2 E.length c2 E x.r.f _ hrd HES.out hEc (by omega) HC2.out).mono ?_
        rintro e w2 ⟨A3, c3, rfl, hrd3, hc3, hc3m, hb3⟩
        have hb4 := hb.trans (hb3.mono hwz)
        have HC3 := Lib.hid hc3m
        clear hrd hb3 hc3m
        go_wp2_with fail
        go_roundw
        case rel => exact ⟨k + 1, A3, c3, insS E x.r.f, by omega, by go_num, rfl, HT.out.symm, hrd3, hc3, HC3.out, hb4⟩
        case measure => simp [intOf]; omega
    · rw [List.take_of_length_le (by rw [List.length_map, hX.2.1]; omega)] at hE
      have hcut := cutsT_mem (L := X.map Rv.r) (E := E) s (HES.out.imp fun h => Int.le_of_lt h) (fun x => by rw [hE, mem_insT]; simp [or_assoc])
      have HCUT := Lib.hid hcut
      have hN1 : 1 ≤ E.length := List.length_pos_of_mem HCUT.out.2.1
      clear hcut hE hrd0 hbA hEc HC2
      have hX5 := (hX.below hb).mono hwz
      have hEL := Lib.hid (show E.length = E.length from rfl)
      obtain ⟨N, hN⟩ : ∃ N, N = E.length := ⟨_, rfl⟩
      rw [← hN] at hrd hEl hN1 ⊢
      have HSL := Lib.hid hN.symm
      clear hN hEL
      obtain ⟨w5, rfl⟩ : ∃ w5 : World, w5 = wr := ⟨_, rfl⟩
      go_wp2_with fail
      go_loopw [7, 8] (fun v i wn => ∃ (k : Nat) (O : List Sp), k + 1 ≤ N ∧ i = .int .i64 (k : Int) ∧ O = segTo (memT (X.map Rv.r) s) E k ∧ O.length ≤ k ∧ wn.ownsRow w5.heap.size 48 2 v O.length (flat Sp.cells O) ∧ Below w5.heap.size w5 wn) (fun _ i _ => N + 1 - (intOf i).toNat)
      case atStart => exact ⟨0, [], by omega, rfl, rfl, by simp, World.ownsRow_nil _ _ _ _, Below.refl _ _⟩
      case round =>
        obtain ⟨k, O, hk, rfl, hO, hOk, hown, hb6⟩ := hrel
        have hwz6 := hb6.size
        have HO := Lib.hid hO
        obtain ⟨A6, c6, rfl, hnc6, hcm6, hA6⟩ := own_form hown
        have hSN := HSL.out
        have hw1 : IntKind.i64.wrap ((k : Int) + 1) = (k : Int) + 1 := IntWalk.i64_in _ (by omega)
        by_cases hlt : k + 1 < N
        · obtain ⟨a, ha⟩ : ∃ x, E[k]? = some x := ⟨_, List.getElem?_eq_getElem (by omega)⟩
          obtain ⟨b, hbq⟩ : ∃ x, E[k + 1]? = some x := ⟨_, List.getElem?_eq_getElem (by omega)⟩
          have hst := segTo_succ (M := memT (X.map Rv.r) s) ha hbq
          rw [← hO] at hst
          have HST := Lib.hid hst
          have hq01 : ∀ wx : World, Below w5.heap.size w5 wx → ∃ g o, A2 = some ⟨g, o, none⟩ ∧ g < w5.heap.size ∧ wx.cell? ⟨g, o + k, none⟩ = some (.int .i64 a) ∧ wx.cell? ⟨g, o + (k + 1), none⟩ = some (.int .i64 b) := by
            intro wx hbx
            obtain ⟨_, b1, o, hA, hbb, q0⟩ := (hrd.below hbx).int ha
            obtain ⟨_, b', o', hA', _, q1⟩ := (hrd.below hbx).int hbq
            rw [hA] at hA'
            injection hA' with hA'
            injection hA' with h1 h2
            subst h1 h2
            exact ⟨b1, o, hA, hbb, q0, q1⟩
          have HQ := Lib.hid hq01
          have hlo : (0 : Int) ≤ (k : Int) := by omega
          have hhi : (k : Int) < (N : Int) := by omega
          have hhi2 : (k : Int) + 1 < (N : Int) := by omega
          have hlo2 : (0 : Int) ≤ (k : Int) + 1 := by omega
          clear ha hbq hst hq01 hO hSN
          obtain ⟨gE, oE, rfl, hgE, q0, q1⟩ := HQ.out _ hb6
          go_wp2_with fail
          refine (rmember_any s a ((hX5.below hb6).mono hwz6) (by omega) HML.out).mono ?_
          rintro e w8 ⟨rfl, hb8⟩
          have hb68 := hb6.trans (hb8.mono hwz6)
          have hown8 := own_under hown hb8
          obtain ⟨_, _, eA, _, k0, k1⟩ := HQ.out w8 hb68
          injection eA with eA
          injection eA with eA1 eA2
          subst eA1 eA2
          clear q0 q1 hown hb6 hb8
          cases hmm : memT (X.map Rv.r) s a with
          | false =>
            have HT : Hid (segTo (memT (X.map Rv.r) s) E (k + 1) = O) := Lib.hid (by rw [HST.out, hmm]; simp)
            clear hmm
            go_wp2_with fail
            go_roundw
            case rel => exact ⟨k + 1, O, by omega, by go_num, HT.out.symm, by omega, hown8, hb68⟩
            case measure => simp [intOf]; omega
          | true =>
            have HT : Hid (segTo (memT (X.map Rv.r) s) E (k + 1) = O ++ [⟨a, b⟩]) := Lib.hid (by rw [HST.out, hmm]; simp)
            clear hmm
            have hz8 := hb68.size
            have hlt8 : gE < w8.heap.size := by omega
            go_upto_region 12 with (fail)
            go_region_held3 (fun w' => w'.cell? ⟨gE, oE + k, none⟩ = some (.int .i64 a) ∧ w'.cell? ⟨gE, oE + (k + 1), none⟩ = some (.int .i64 b)) (go_keep) ((refine step_append_rd (by rfl) (.tmp 43) (.tmp 54) 34 (by rfl) w5.heap.size 48 i1 _ 2 16 Try.underlying34 hi1 hy0 hy1 hy2 rfl (by omega) (.slice A6 O.length c6) O.length (flat Sp.cells O) (by rfl) (hown8.alloc _) (w8.heap.size + 1) (some ⟨w8.heap.size, 0, none⟩) 1 1 [.int .i64 a, .int .i64 b] (by rfl) (Rd.built (heap_alloc_new w8 _) (by omega) rfl) (by intro u hu; simp at hu; rcases hu with rfl | rfl <;> rfl) (by unfold maxLen; omega) (by omega) (by simp; omega) ?_; intro v4 w4 hown4 hg4 hat4; have k0 : w4.cell? ⟨gE, oE + k, none⟩ = some (.int .i64 a) := hg4.cell ((World.cell?_alloc_lt w8 _ ⟨gE, oE + k, none⟩ (by show gE < _; omega)).trans k0) (fun e => by have := (hown8.lt gE e.symm).1; omega); have k1 : w4.cell? ⟨gE, oE + (k + 1), none⟩ = some (.int .i64 b) := hg4.cell ((World.cell?_alloc_lt w8 _ ⟨gE, oE + (k + 1), none⟩ (by show gE < _; omega)).trans k1) (fun e => by have := (hown8.lt gE e.symm).1; omega)))
            go_wp2_with fail
            have hbf := (hb68.alloc hb68.size (.cells #[.int .i64 a, .int .i64 b] 48)).drew.grown hg4 (by simp; omega) (fun g e => (hown8.lt g e).1)
            have el : (O ++ [(⟨a, b⟩ : Sp)]).length = O.length + 1 := by simp
            have ef : flat Sp.cells (O ++ [(⟨a, b⟩ : Sp)]) = flat Sp.cells O ++ [.int .i64 a, .int .i64 b] := by rw [flat_append, flat_one]; rfl
            go_roundw
            case rel => exact ⟨k + 1, O ++ [⟨a, b⟩], by omega, by go_num, HT.out.symm, by rw [el]; omega, by rw [el, ef]; exact hown4, hbf⟩
            case measure => simp [intOf]; omega
        · have hbw := hb.trans (hb6.mono hwz)
          have hnf : nf (dset O) = nf (memT (X.map Rv.r) s) := by rw [hO]; exact segTo_nf HCUT.out (by omega)
          have HNF := Lib.hid hnf
          have hOl : O.length ≤ 5000 := by omega
          clear hnf hO
          go_wp2_with fail
          refine (rmake_nf (Ds.ofOwn hown rfl) hOl).mono ?_
          intro e w6 hr
          unfold RetNf at hr
          rw [HNF.out] at hr
          obtain ⟨A7, c7, rfl, hown7, hb7⟩ := hr
          go_wp2_with fail
          go_ret
          exact ⟨A7, c7, rfl, ownsRow_base hown7 hbw.size, hbw.trans (hb7.mono hbw.size)⟩
end Go.Proofs.Ythncjohekjnjaaa
