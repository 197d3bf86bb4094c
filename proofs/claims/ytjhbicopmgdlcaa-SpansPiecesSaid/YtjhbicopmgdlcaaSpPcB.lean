/- Pieces of the reference. -/
import Derived.Test.YtjhbicopmgdlcaaSpSi
import Derived.Test.YtjhbicopmgdlcaaSpEdges
import Derived.Test.YtjhbicopmgdlcaaSpComb
import Derived.Test.YtjhbicopmgdlcaaSpNs
namespace Go.Proofs.Ytjhbicopmgdlcaa
open Go.RowKit

/-- The rows of a slice of slices of spans, as the edges take them. -/
theorem rows_of {w : World} {B : Nat} {vs : List Value} {ls : List (List Sp)} (h : Ns w B vs ls) (hl : ∀ l ∈ ls, l.length ≤ 5000) : ∃ rs : List SRow, rs.map SRow.val = vs ∧ rs.map SRow.l = ls ∧ ∀ r ∈ rs, r.good w B := by
  obtain ⟨hlen, hv⟩ := h
  have : ∀ (n : Nat) (vs : List Value) (ls : List (List Sp)), vs.length = n → ls.length = n → (∀ (i : Nat) (v : Value) (l : List Sp), vs[i]? = some v → ls[i]? = some l → Nv w B v l) → (∀ l ∈ ls, l.length ≤ 5000) → ∃ rs : List SRow, rs.map SRow.val = vs ∧ rs.map SRow.l = ls ∧ ∀ r ∈ rs, r.good w B := by
    intro n
    induction n with
    | zero =>
      intro vs ls h1 h2 _ _
      rw [List.eq_nil_of_length_eq_zero h1, List.eq_nil_of_length_eq_zero h2]
      exact ⟨[], rfl, rfl, by simp⟩
    | succ n ih =>
      intro vs ls h1 h2 h3 h4
      match vs, ls, h1, h2, h3, h4 with
      | v :: vs, l :: ls, h1, h2, h3, h4 =>
        obtain ⟨rs, e1, e2, e3⟩ := ih vs ls (by simpa using h1) (by simpa using h2) (fun i v l k1 k2 => h3 (i + 1) v l (by simpa using k1) (by simpa using k2)) fun q hq => h4 q (by simp [hq])
        obtain ⟨A, c, rfl, hr⟩ := h3 0 v l rfl rfl
        refine ⟨⟨A, l.length, c, l⟩ :: rs, by simp [SRow.val, e1], by simp [e2], fun r hr2 => ?_⟩
        rcases List.mem_cons.1 hr2 with rfl | hr2
        · exact ⟨hr, rfl, h4 l (by simp)⟩
        · exact e3 r hr2
  exact this vs.length vs ls rfl hlen.symm hv hl
theorem edgR_edges (rs : List SRow) : edgR rs [] = edgesL (rs.map SRow.l) := by
  unfold edgR edgesL
  rw [List.foldl_map]
theorem pcs_end' {mem : Int → List Int} {E : List Int} {k : Nat} {O : List Pc} (h : ¬ k + 1 < E.length) : pcs mem (E.drop k) O = O := by
  have hdl : (E.drop k).length ≤ 1 := by rw [List.length_drop]; omega
  match hE : E.drop k, hdl with
  | [], _ => rfl
  | [_], _ => rfl
  | _ :: _ :: _, hdl => simp at hdl
theorem pcs_step' {mem : Int → List Int} {E : List Int} {k : Nat} {O : List Pc} {a b : Int} (ha : E[k]? = some a) (hb : E[k + 1]? = some b) : pcs mem (E.drop k) O = pcs mem (E.drop (k + 1)) (addP O a b (mem a)) := by
  obtain ⟨h1, h2⟩ := List.getElem?_eq_some_iff.1 ha
  obtain ⟨h3, h4⟩ := List.getElem?_eq_some_iff.1 hb
  rw [List.drop_eq_getElem_cons h1, List.drop_eq_getElem_cons h3, h2, h4]
  rfl

set_option maxRecDepth 100000 in
set_option maxHeartbeats 4000000 in
theorem rpieces_any {A : Option Addr} {n c : Nat} {vs : List Value} {ls : List (List Sp)} {w : World} (h : Rd w w.heap.size 1 A n vs) (hv : Ns w w.heap.size vs ls) (hl : ∀ l ∈ ls, l.length ≤ 200) (hn2 : n ≤ 50) :
    Calls Try.prog 45 #[.slice A n c] w (RetPc w (pieces ls)) := by
  obtain ⟨i1, hi1, hy0, hy1, hy2⟩ := info_parts info_int
  obtain ⟨i2, hi2, hp0, hp1, hp2⟩ := info_parts info_piece
  have hnv : vs.length = n := by have := h.1; omega
  have hnl : ls.length = n := by rw [← hv.1]; exact hnv
  obtain ⟨rs, hrs, hrl, hrg⟩ := rows_of hv fun l hq => by have := hl l hq; omega
  have hrn : rs.length = n := by rw [← hnl, ← hrl, List.length_map]
  have hed := edges_any A n c rs w (by rw [hrs]; exact h) hrg hrn hn2
  rw [edgR_edges, hrl] at hed
  have hEl := edgR_length rs [] fun r hr => by
    have := hrg r hr
    rw [this.2.1]
    exact this.2.2
  rw [edgR_edges, hrl, hrn] at hEl
  have HED := Lib.hid hed
  have HPS : Hid (pcs (memL ls) (edgesL ls) [] = pieces ls) := rfl
  have HNV := Lib.hid hnv
  have HNL := Lib.hid hnl
  have HL := Lib.hid hl
  clear hnv hnl hl hrs hrl hrg hrn hed
  go_enter Try.func45, Try.ntmps45
  go_wp2_with fail
  refine HED.out.mono ?_
  rintro e w6 ⟨A5, c5, rfl, hrdE, hb6⟩
  generalize edgesL ls = E at *
  have hEl2 : E.length ≤ 500000 := by simp at hEl; omega
  have hz6 := hb6.size
  clear hEl HED
  go_wp2_with fail
  go_loopw [4, 5] (fun v i wr => ∃ (m : Nat) (X : List Pw), m ≤ E.length ∧ i = .int .i64 (m : Int) ∧ X.length ≤ m ∧ (∀ x ∈ X, x.p.m ≠ [] ∧ x.p.m.length ≤ 50) ∧ Pws wr w6.heap.size v X ∧ pcs (memL ls) (E.drop m) (X.map Pw.p) = pieces ls ∧ Below w6.heap.size w6 wr) (fun _ i _ => E.length - (intOf i).toNat)
  case atStart => exact ⟨0, [], by omega, rfl, by simp, by simp, Pws.nil _ _, HPS.out, Below.refl _ _⟩
  case round =>
    obtain ⟨m, X, hm, rfl, hXm, hinv, hpw, hpcs, hb⟩ := hrel
    have HIN := Lib.hid hinv
    clear hinv
    have hwsz := hb.size
    have hw1 : IntKind.i64.wrap ((m : Int) + 1) = (m : Int) + 1 := IntWalk.i64_in _ (by omega)
    obtain ⟨A7, c7, rfl, hnc7, hcm7, hA7⟩ := own_form hpw.1
    by_cases hlt : m + 1 < E.length
    · obtain ⟨e0, he0⟩ : ∃ x, E[m]? = some x := ⟨_, List.getElem?_eq_getElem (by omega)⟩
      obtain ⟨e1, he1⟩ : ∃ x, E[m + 1]? = some x := ⟨_, List.getElem?_eq_getElem hlt⟩
      have hq01 : ∀ wx : World, Below w6.heap.size w6 wx → ∃ b o, A5 = some ⟨b, o, none⟩ ∧ b < w6.heap.size ∧ wx.cell? ⟨b, o + m, none⟩ = some (.int .i64 e0) ∧ wx.cell? ⟨b, o + (m + 1), none⟩ = some (.int .i64 e1) := by
        intro wx hbx
        obtain ⟨_, b, o, hA, hbb, q0⟩ := (hrdE.below hbx).int he0
        obtain ⟨_, b', o', hA', _, q1⟩ := (hrdE.below hbx).int he1
        rw [hA] at hA'
        injection hA' with hA'
        injection hA' with h1 h2
        subst h1 h2
        exact ⟨b, o, hA, hbb, q0, q1⟩
      rw [pcs_step' he0 he1] at hpcs
      have HPC := Lib.hid hpcs
      have HQ := Lib.hid hq01
      have hlo : (0 : Int) ≤ (m : Int) := by omega
      have hhi : (m : Int) < (E.length : Int) := by omega
      have hhi2 : (m : Int) + 1 < (E.length : Int) := by omega
      have hlo2 : (0 : Int) ≤ (m : Int) + 1 := by omega
      clear he0 he1 hpcs hq01
      obtain ⟨gE, oE, rfl, hgE, -, -⟩ := HQ.out w6 (Below.refl _ _)
      go_wp2_with fail
      go_loopw [6, 7] (fun v i wn => ∃ (j : Nat) (L8 : List Int), j ≤ n ∧ i = .int .i64 (j : Int) ∧ L8 = memL (ls.take j) e0 ∧ L8.length ≤ j ∧ wn.ownsRow wr.heap.size 3 1 v L8.length (ints L8) ∧ Below wr.heap.size wr wn) (fun _ i _ => n - (intOf i).toNat)
      case atStart => exact ⟨0, [], by omega, rfl, rfl, by simp, World.ownsRow_nil _ _ _ _, Below.refl _ _⟩
      case round =>
        obtain ⟨wo, rfl⟩ : ∃ wo : World, wo = wr := ⟨_, rfl⟩
        obtain ⟨j, L8, hj, rfl, hL8, hL8l, hown8, hb8⟩ := hrel
        have hoz := hb8.size
        have hbn := hb.trans (hb8.mono hwsz)
        have hbw := hb6.trans (hbn.mono hz6)
        obtain ⟨A8, c8, rfl, hnc8, hcm8, hA8⟩ := own_form hown8
        obtain ⟨_, _, eA, _, q0, q1⟩ := HQ.out wo hbn
        injection eA with eA
        injection eA with eA1 eA2
        subst eA1 eA2
        by_cases hlj : j < n
        · have hjl : j < ls.length := by rw [HNL.out]; exact hlj
          have hjv : j < vs.length := by rw [HNV.out]; exact hlj
          obtain ⟨l, hl⟩ : ∃ l, ls[j]? = some l := ⟨_, List.getElem?_eq_getElem hjl⟩
          obtain ⟨v, hv2⟩ : ∃ v, vs[j]? = some v := ⟨_, List.getElem?_eq_getElem hjv⟩
          obtain ⟨A2, c2, rfl, hrd2⟩ := hv.2 j v l hv2 hl
          obtain ⟨b, o, rfl, hbb, hc⟩ := (h.below hbw).2 (by omega)
          have hcl := hc j _ hv2
          have hll := HL.out l (List.mem_of_getElem? hl)
          have hmt := memL_take hl e0
          rw [← hL8] at hmt
          have HMT := Lib.hid hmt
          have hlo3 : (0 : Int) ≤ (j : Int) := by omega
          have hhi3 : (j : Int) < (n : Int) := by omega
          have hrd8 : Rd wo wo.heap.size 2 A2 l.length (flat Sp.cells l) := (hrd2.below hbw).mono hbw.size
          clear hmt hv2 hl hc hL8
          go_wp2_with fail
          go_quiet ((go_at_call 43; with_reducible exact quiet_left (rcontains_any A2 l.length c2 l e0 _ (hrd8.drewN _) rfl (by omega))))
          have hown9 : (wo.drewN nq).ownsRow wr.heap.size 3 1 (.slice A8 L8.length c8) L8.length (ints L8) := hown8
          have hb9 := below_drewN hb8 nq
          cases hd : dset l e0 with
          | false =>
            rw [hd] at HMT
            clear hd
            go_wp2_with fail
            go_roundw
            case rel => exact ⟨j + 1, L8, by omega, by go_num, by rw [HMT.out]; simp, by omega, hown9, hb9⟩
            case measure => simp [intOf]; omega
          | true =>
            rw [hd] at HMT
            clear hd
            go_wp2_with (at_builtin; go_loud (refine wpList_append_rd (by rfl) (.tmp 34) (.tmp 36) 47 (by rfl) wr.heap.size 3 i1 _ 1 8 Try.underlying47 hi1 hy0 hy1 hy2 rfl (by omega) _ L8.length (ints L8) (by rfl) (hown9.alloc _) (wo.heap.size + 1) (some ⟨wo.heap.size, 0, none⟩) 1 1 [.int .i64 (j : Int)] (by rfl) (Rd.built (heap_alloc_new (wo.drewN nq) _) (by omega) rfl) (by intro u hu; simp at hu; rcases hu with rfl; rfl) (by unfold maxLen; omega) (by omega) (by simp; omega) ?_); intro v4 w4 hown4 hg4 hat4)
            have e1' : (L8 ++ [(j : Int)]).length = L8.length + 1 := by simp
            have hb11 := (hb9.alloc hb9.size (.cells #[.int .i64 (j : Int)] 3)).grown hg4 (by have := hb9.size; simp; omega) (fun g e => (hown9.lt g e).1)
            have E1 := Lib.hid e1'
            clear e1'
            go_roundw
            case rel => exact ⟨j + 1, L8 ++ [(j : Int)], by omega, by go_num, HMT.out.symm, by have := E1.out; omega, by rw [E1.out, ints_append]; exact hown4, hb11⟩
            case measure => simp [intOf]; omega
        · have hjk : ls.take j = ls := List.take_of_length_le (by have := HNL.out; omega)
          rw [hjk] at hL8
          have hpcs := HPC.out
          rw [← hL8] at hpcs
          have HPC2 := Lib.hid hpcs
          have hpw8 := hpw.under hb8
          have hL8k : L8.length ≤ 50 := by omega
          have hmr : Mr wo wr.heap.size ⟨⟨e0, e1, L8⟩, A8, c8⟩ := hown8
          clear hL8 hjk hpcs HPC hL8l hpw hb8 hb
          go_upto_region 13 with (fail)
          --CASES
          rcases List.eq_nil_or_concat X with rfl | ⟨X', q, rfl⟩
          · have HNN : Hid (([] : List Pw).length = 0) := rfl
            have hL8k' := hL8k
            go_quiet (fail)
            by_cases hL0 : L8 = []
            · subst hL0
              have HPA : Hid (pcs (memL ls) (E.drop (m + 1)) (List.map Pw.p []) = pieces ls) := by have := HPC2.out; rw [addP_nil] at this; exact this
              go_wp2_with fail
              go_roundw
              case rel => exact ⟨m + 1, [], by omega, by go_num, by have := HNN.out; omega, HIN.out, hpw8, HPA.out, below_drewN hbn nq⟩
              case measure => simp [intOf]; omega
            · have hlp : 0 < L8.length := List.length_pos_iff.2 hL0
              have hlp2 : (0 : Int) < (L8.length : Int) := by omega
              have HPA : Hid (pcs (memL ls) (E.drop (m + 1)) (([] ++ [(⟨⟨e0, e1, L8⟩, A8, c8⟩ : Pw)]).map Pw.p) = pieces ls) := by have := HPC2.out; have ea : addP (List.map Pw.p []) e0 e1 L8 = [⟨e0, e1, L8⟩] := if_neg hL0; rw [ea] at this; exact this
              have HL0 := Lib.hid hL0
              clear hL0
              have hpw9 : Pws (wo.drewN nq) w6.heap.size (.slice A7 0 c7) [] := hpw8
              have hown9' := hpw9.1
              have hmr9 : Mr (wo.drewN nq) wr.heap.size ⟨⟨e0, e1, L8⟩, A8, c8⟩ := hmr
              have hb9 : Below w6.heap.size w6 (wo.drewN nq) := below_drewN hbn nq
              have z9 : wr.heap.size ≤ (wo.drewN nq).heap.size := hoz
              have q0' : (wo.drewN nq).cell? ⟨gE, oE + m, none⟩ = some (.int .i64 e0) := q0
              have q1' : (wo.drewN nq).cell? ⟨gE, oE + (m + 1), none⟩ = some (.int .i64 e1) := q1
              go_upto_region 18 with (fail)
              obtain ⟨W9, hW9⟩ : ∃ W, W = wo.drewN nq := ⟨_, rfl⟩
              rw [← hW9] at hpw9 hown9' hmr9 hb9 z9 q0' q1' ⊢
              clear hW9 q0 q1 hbn hbw hown8 hmr hoz hL8k'
              have hown9 : W9.ownsRow w6.heap.size 49 3 (.slice A7 0 c7) 0 (flat Pw.cells []) := by have := HNN.out; rwa [this] at hown9'
              clear hown9'
              go_region_held3 (fun w' => w'.cell? ⟨gE, oE + m, none⟩ = some (.int .i64 e0) ∧ w'.cell? ⟨gE, oE + (m + 1), none⟩ = some (.int .i64 e1)) (go_keep) ((refine step_append_rd (by rfl) (.tmp 86) (.tmp 99) 45 (by rfl) w6.heap.size 49 i2 _ 3 40 Try.underlying45 hi2 hp0 hp1 hp2 rfl (by omega) (.slice A7 0 c7) 0 (flat Pw.cells []) (by rfl) (hown9.alloc _) (W9.heap.size + 1) (some ⟨W9.heap.size, 0, none⟩) 1 1 [.int .i64 e0, .int .i64 e1, .slice A8 L8.length c8] (by rfl) (Rd.built (heap_alloc_new W9 _) (by omega) rfl) (by intro u hu; simp at hu; rcases hu with rfl | rfl | rfl <;> rfl) (by unfold maxLen; omega) (by omega) (by simp; omega) ?_; intro v4 w4 hown4 hg4 hat4; have k0 : w4.cell? ⟨gE, oE + m, none⟩ = some (.int .i64 e0) := hg4.cell ((World.cell?_alloc_lt W9 _ ⟨gE, oE + m, none⟩ (by show gE < _; omega)).trans q0') (fun e => by have := (hown9.lt gE e.symm).1; omega); have k1 : w4.cell? ⟨gE, oE + (m + 1), none⟩ = some (.int .i64 e1) := hg4.cell ((World.cell?_alloc_lt W9 _ ⟨gE, oE + (m + 1), none⟩ (by show gE < _; omega)).trans q1') (fun e => by have := (hown9.lt gE e.symm).1; omega)))
              go_wp2_with fail
              have hba : Below W9.heap.size W9 (W9.alloc (.cells #[.int .i64 e0, .int .i64 e1, .slice A8 L8.length c8] 49)).drew := ((Below.refl _ _).alloc (Nat.le_refl _) _).drew
              have hfin := (hpw9.under hba).grown (x := ⟨⟨e0, e1, L8⟩, A8, c8⟩) (own_under (ownsRow_base hmr9 hwsz) hba) hg4 (by rw [HNN.out]; exact hown4)
              have hbf := (hb9.alloc hb9.size (.cells #[.int .i64 e0, .int .i64 e1, .slice A8 L8.length c8] 49)).drew.grown hg4 (by have := hb9.size; simp; omega) (fun g e => (hown9.lt g e).1)
              go_roundw
              case rel =>
                refine ⟨m + 1, [] ++ [⟨⟨e0, e1, L8⟩, A8, c8⟩], by omega, by go_num, by have := HNN.out; rw [List.length_append]; simp only [List.length_cons, List.length_nil] at *; omega, ?_, hfin, HPA.out, hbf⟩
                intro x hx
                rcases List.mem_append.1 hx with hx | hx
                · exact HIN.out x hx
                · rw [List.mem_singleton.1 hx]
                  exact ⟨HL0.out, hL8k⟩
              case measure => simp [intOf]; omega
          · rw [List.concat_eq_append] at *
            have hN1 : (X' ++ [q]).length = X'.length + 1 := by simp
            have hL8k' := hL8k
            obtain ⟨hq0, hq50⟩ := HIN.out q (by simp)
            have HQ0 := Lib.hid hq0
            clear hq0
            obtain ⟨g2, rfl, hg2⟩ := hA7 (by omega)
            obtain ⟨_, b', o', eA, _, c0, c1, c2'⟩ := pw_cells (Rd.ofOwn hpw8.1) (show (X' ++ [q])[X'.length]? = some q by simp)
            injection eA with eA
            injection eA with eA1 eA2
            subst eA1 eA2
            rw [Nat.zero_add] at c0 c1 c2'
            have hf0 := hpw8.1.frozenAt (X'.length * 3)
            have hf1 := hpw8.1.frozenAt (X'.length * 3 + 1)
            have hf2 := hpw8.1.frozenAt (X'.length * 3 + 2)
            have hmq : Mr wo w6.heap.size q := hpw8.2 q (by simp)
            have hmq2 := Rd.ofOwn hmq
            have hmr2 := Rd.ofOwn hmr
            have hap := addP_map X' q e0 e1 L8
            have HAP := Lib.hid hap
            have hXN : X'.length = (X' ++ [q]).length - 1 := by omega
            rw [hXN] at c0 c1 c2' hf0 hf1 hf2
            have HXN := Lib.hid hXN
            have HN1 := Lib.hid hN1
            clear hap hXN hN1 hmq
            have HPW := Lib.hid hpw8
            clear hpw8
            generalize hN : (X' ++ [q]).length = N at *
            have HNN := Lib.hid hN
            clear hN
            have hN0 : 0 < N := by have := HN1.out; omega
            have hN0' : (0 : Int) < (N : Int) := by omega
            have hN0'' : (1 : Int) ≤ (N : Int) := by omega
            have hN01 : 1 ≤ N := by omega
            have hNm : (N : Int) ≤ 500000 := by omega
            have hq6 : q.p.m.length ≤ 1000000 := by omega
            have hL6 : L8.length ≤ 1000000 := by omega
            have hx3 : 0 ≤ (N : Int) - 1 := by omega
            have hx4 : (N : Int) - 1 < (N : Int) := by omega
            have hwN : IntKind.i64.wrap ((N : Int) - 1) = (N : Int) - 1 := IntWalk.i64_in _ (by omega)
            clear hA7 hA8 hg2
            by_cases hte : q.p.t = e0
            · rw [hte] at c1
              by_cases hml : q.p.m = L8
              · have hdm : decide (q.p.m = L8) = true := decide_eq_true hml
                have HDM := Lib.hid hdm
                have HPA : Hid (pcs (memL ls) (E.drop (m + 1)) ((X' ++ [(⟨⟨q.p.f, e1, q.p.m⟩, q.a, q.c⟩ : Pw)]).map Pw.p) = pieces ls) := by
                  have := HPC2.out
                  rw [HAP.out, if_neg (by rw [← hml]; exact HQ0.out), if_pos ⟨hte, hml⟩] at this
                  rw [List.map_append]
                  exact this
                clear HPC2 HAP hte hml hdm
                go_quiet ((go_at_call 46; exact samei_q hmq2 hmr2 hq6 hL6 HDM.out _))
                have hlx : (X' ++ [(⟨⟨q.p.f, e1, q.p.m⟩, q.a, q.c⟩ : Pw)]).length = N := by have := HNN.out; simp at this ⊢; omega
                have HLX := Lib.hid hlx
                clear hlx
                have c0' : (wo.drewN nq).cell? ⟨g2, (N - 1) * 3, none⟩ = some (.int .i64 q.p.f) := c0
                have c1' : (wo.drewN nq).cell? ⟨g2, (N - 1) * 3 + 1, none⟩ = some (.int .i64 e0) := c1
                have c2'' : (wo.drewN nq).cell? ⟨g2, (N - 1) * 3 + 2, none⟩ = some (.slice q.a q.p.m.length q.c) := c2'
                have f0' : (wo.drewN nq).frozen? ⟨g2, (N - 1) * 3, none⟩ = false := hf0
                have f1' : (wo.drewN nq).frozen? ⟨g2, (N - 1) * 3 + 1, none⟩ = false := hf1
                have f2' : (wo.drewN nq).frozen? ⟨g2, (N - 1) * 3 + 2, none⟩ = false := hf2
                have q0' : (wo.drewN nq).cell? ⟨gE, oE + m, none⟩ = some (.int .i64 e0) := q0
                have q1' : (wo.drewN nq).cell? ⟨gE, oE + (m + 1), none⟩ = some (.int .i64 e1) := q1
                have hpw9 : Pws (wo.drewN nq) w6.heap.size (.slice (some ⟨g2, 0, none⟩) N c7) (X' ++ [q]) := HPW.out
                have hb9 : Below w6.heap.size w6 (wo.drewN nq) := below_drewN hbn nq
                have hg9 : g2 < (wo.drewN nq).heap.size := ((HPW.out).1.lt g2 rfl).2
                have hgE9 : gE < (wo.drewN nq).heap.size := by have := hb9.size; omega
                go_upto_region 14 with (fail)
                obtain ⟨W9, hW9⟩ : ∃ W, W = wo.drewN nq := ⟨_, rfl⟩
                rw [← hW9] at c0' c1' c2'' f0' f1' f2' q0' q1' hpw9 hb9 hg9 hgE9 ⊢
                clear hW9 c0 c1 c2' hf0 hf1 hf2 q0 q1 hmq2 hmr2 hown8 hmr HPW
                have hg9n : g2 ≠ W9.heap.size := by omega
                have hgE9n : gE ≠ W9.heap.size := by omega
                go_upto_region 15 with (fail)
                have hrow := heap_alloc_new W9 (.cells #[.int .i64 q.p.f, .int .i64 e0, .slice q.a q.p.m.length q.c] 49)
                have hbA : Below W9.heap.size W9 (W9.alloc (.cells #[.int .i64 q.p.f, .int .i64 e0, .slice q.a q.p.m.length q.c] 49)) := (Below.refl _ _).alloc (Nat.le_refl _) _
                obtain ⟨W10, hW10⟩ : ∃ W, W = W9.alloc (.cells #[.int .i64 q.p.f, .int .i64 e0, .slice q.a q.p.m.length q.c] 49) := ⟨_, rfl⟩
                rw [← hW10] at hrow hbA ⊢
                clear hW10
                have k1 : W10.cell? ⟨gE, oE + (m + 1), none⟩ = some (.int .i64 e1) := (hbA.cell (p := ⟨gE, oE + (m + 1), none⟩) hgE9).trans q1'
                have b1 : W10.cell? ⟨W9.heap.size, 1, none⟩ = some (.int .i64 e0) := by rw [cell_of_row W10 _ 1 _ _ _ hrow]; rfl
                have bf1 := frozen_of_row W10 W9.heap.size 1 _ _ hrow
                have hpw10 := hpw9.under hbA
                have hb10 := hb9.trans (hbA.mono hb9.size)
                clear q0' q1' c1'
                go_upto_region 16 with (fail)
                have hrow2 : (W10.setCell ⟨W9.heap.size, 1, none⟩ (.int .i64 e1)).heap[W9.heap.size]? = some (.cells #[.int .i64 q.p.f, .int .i64 e1, .slice q.a q.p.m.length q.c] 49 (0, 0)) := heap_setCell_same W10 W9.heap.size 1 _ _ (.int .i64 e1) hrow
                have hbS : Below W9.heap.size W9 (W10.setCell ⟨W9.heap.size, 1, none⟩ (.int .i64 e1)) := hbA.setCell (p := ⟨W9.heap.size, 1, none⟩) (Nat.le_refl _) _
                obtain ⟨W11, hW11⟩ : ∃ W, W = W10.setCell ⟨W9.heap.size, 1, none⟩ (.int .i64 e1) := ⟨_, rfl⟩
                rw [← hW11] at hrow2 hbS ⊢
                clear hW11 hrow b1 bf1 k1 hpw10 hb10
                have r0 : W11.cell? ⟨W9.heap.size, 0, none⟩ = some (.int .i64 q.p.f) := by rw [cell_of_row W11 _ 0 _ _ _ hrow2]; rfl
                have r1 : W11.cell? ⟨W9.heap.size, 1, none⟩ = some (.int .i64 e1) := by rw [cell_of_row W11 _ 1 _ _ _ hrow2]; rfl
                have r2 : W11.cell? ⟨W9.heap.size, 2, none⟩ = some (.slice q.a q.p.m.length q.c) := by rw [cell_of_row W11 _ 2 _ _ _ hrow2]; rfl
                have d0 : W11.cell? ⟨g2, (N - 1) * 3, none⟩ = some (.int .i64 q.p.f) := (hbS.cell (p := ⟨g2, (N - 1) * 3, none⟩) hg9).trans c0'
                have d2 : W11.cell? ⟨g2, (N - 1) * 3 + 2, none⟩ = some (.slice q.a q.p.m.length q.c) := (hbS.cell (p := ⟨g2, (N - 1) * 3 + 2, none⟩) hg9).trans c2''
                have hpw11 := hpw9.under hbS
                have o11 := hpw11.1
                rw [HNN.out] at o11
                have hb11 := hb9.trans (hbS.mono hb9.size)
                have d1 : ∃ v, W11.cell? ⟨g2, (N - 1) * 3 + 1, none⟩ = some v := by
                  obtain ⟨_, b', o', eA, _, _, d1, _⟩ := pw_cells (Rd.ofOwn o11) (show (X' ++ [q])[X'.length]? = some q by simp)
                  injection eA with eA
                  injection eA with eA1 eA2
                  subst eA1 eA2
                  rw [Nat.zero_add, HXN.out] at d1
                  exact ⟨_, d1⟩
                obtain ⟨v1, d1⟩ := d1
                have hf0 := o11.frozenAt ((N - 1) * 3)
                have hf1 := o11.frozenAt ((N - 1) * 3 + 1)
                have hf2 := o11.frozenAt ((N - 1) * 3 + 2)
                have hse := hpw11.setAll e1
                rw [HXN.out] at hse
                have HSE := Lib.hid hse
                have HPW11 := Lib.hid hpw11
                clear hse hpw11 o11 c0' c2'' f0' f1' f2' hpw9 hb9 hbA hrow2 hbS
                go_wp2_with fail
                clear hwN
                have hg2b : w6.heap.size ≤ g2 := ((HPW11.out).1.lt g2 rfl).1
                refine ⟨⟨m + 1, X' ++ [⟨⟨q.p.f, e1, q.p.m⟩, q.a, q.c⟩], by omega, by go_num, by have := HLX.out; omega, ?_, HSE.out, HPA.out, ((hb11.setCell (p := ⟨g2, (N - 1) * 3, none⟩) hg2b _).setCell (p := ⟨g2, (N - 1) * 3 + 1, none⟩) hg2b _).setCell (p := ⟨g2, (N - 1) * 3 + 2, none⟩) hg2b _⟩, by simp [intOf]; omega⟩
                intro x hx
                rcases List.mem_append.1 hx with hx | hx
                · exact HIN.out x (by simp [hx])
                · rw [List.mem_singleton.1 hx]
                  exact ⟨HQ0.out, hq50⟩
              · have hdm : decide (q.p.m = L8) = false := decide_eq_false hml
                have HDM := Lib.hid hdm
                have HAP2 : Hid (addP (List.map Pw.p (X' ++ [q])) e0 e1 L8 = if L8 = [] then List.map Pw.p (X' ++ [q]) else List.map Pw.p (X' ++ [q]) ++ [⟨e0, e1, L8⟩]) := Lib.hid (by
                  rw [HAP.out]
                  split
                  · rfl
                  · exact if_neg (fun e => hml e.2))
                clear HAP hte hml hdm
                go_quiet ((go_at_call 46; exact samei_q hmq2 hmr2 hq6 hL6 HDM.out _))
                by_cases hL0 : L8 = []
                · subst hL0
                  have HPA : Hid (pcs (memL ls) (E.drop (m + 1)) (List.map Pw.p (X' ++ [q])) = pieces ls) := by have := HPC2.out; rw [addP_nil] at this; exact this
                  go_wp2_with fail
                  go_roundw
                  case rel => exact ⟨m + 1, (X' ++ [q]), by omega, by go_num, by have := HNN.out; omega, HIN.out, HPW.out, HPA.out, below_drewN hbn nq⟩
                  case measure => simp [intOf]; omega
                · have hlp : 0 < L8.length := List.length_pos_iff.2 hL0
                  have hlp2 : (0 : Int) < (L8.length : Int) := by omega
                  have HPA : Hid (pcs (memL ls) (E.drop (m + 1)) (((X' ++ [q]) ++ [(⟨⟨e0, e1, L8⟩, A8, c8⟩ : Pw)]).map Pw.p) = pieces ls) := by have := HPC2.out; rw [HAP2.out, if_neg hL0] at this; rw [List.map_append]; exact this
                  have HL0 := Lib.hid hL0
                  clear hL0
                  have hpw9 : Pws (wo.drewN nq) w6.heap.size (.slice (some ⟨g2, 0, none⟩) N c7) (X' ++ [q]) := HPW.out
                  have hown9' := hpw9.1
                  have hmr9 : Mr (wo.drewN nq) wr.heap.size ⟨⟨e0, e1, L8⟩, A8, c8⟩ := hmr
                  have hb9 : Below w6.heap.size w6 (wo.drewN nq) := below_drewN hbn nq
                  have z9 : wr.heap.size ≤ (wo.drewN nq).heap.size := hoz
                  have q0' : (wo.drewN nq).cell? ⟨gE, oE + m, none⟩ = some (.int .i64 e0) := q0
                  have q1' : (wo.drewN nq).cell? ⟨gE, oE + (m + 1), none⟩ = some (.int .i64 e1) := q1
                  go_upto_region 18 with (fail)
                  obtain ⟨W9, hW9⟩ : ∃ W, W = wo.drewN nq := ⟨_, rfl⟩
                  rw [← hW9] at hpw9 hown9' hmr9 hb9 z9 q0' q1' ⊢
                  clear hW9 q0 q1 hbn hbw hown8 hmr hoz hL8k'
                  have hown9 : W9.ownsRow w6.heap.size 49 3 (.slice (some ⟨g2, 0, none⟩) N c7) N (flat Pw.cells (X' ++ [q])) := by have := HNN.out; rwa [this] at hown9'
                  clear hown9'
                  go_region_held3 (fun w' => w'.cell? ⟨gE, oE + m, none⟩ = some (.int .i64 e0) ∧ w'.cell? ⟨gE, oE + (m + 1), none⟩ = some (.int .i64 e1)) (go_keep) ((refine step_append_rd (by rfl) (.tmp 86) (.tmp 99) 45 (by rfl) w6.heap.size 49 i2 _ 3 40 Try.underlying45 hi2 hp0 hp1 hp2 rfl (by omega) (.slice (some ⟨g2, 0, none⟩) N c7) N (flat Pw.cells (X' ++ [q])) (by rfl) (hown9.alloc _) (W9.heap.size + 1) (some ⟨W9.heap.size, 0, none⟩) 1 1 [.int .i64 e0, .int .i64 e1, .slice A8 L8.length c8] (by rfl) (Rd.built (heap_alloc_new W9 _) (by omega) rfl) (by intro u hu; simp at hu; rcases hu with rfl | rfl | rfl <;> rfl) (by unfold maxLen; omega) (by omega) (by simp; omega) ?_; intro v4 w4 hown4 hg4 hat4; have k0 : w4.cell? ⟨gE, oE + m, none⟩ = some (.int .i64 e0) := hg4.cell ((World.cell?_alloc_lt W9 _ ⟨gE, oE + m, none⟩ (by show gE < _; omega)).trans q0') (fun e => by have := (hown9.lt gE e.symm).1; omega); have k1 : w4.cell? ⟨gE, oE + (m + 1), none⟩ = some (.int .i64 e1) := hg4.cell ((World.cell?_alloc_lt W9 _ ⟨gE, oE + (m + 1), none⟩ (by show gE < _; omega)).trans q1') (fun e => by have := (hown9.lt gE e.symm).1; omega)))
                  go_wp2_with fail
                  have hba : Below W9.heap.size W9 (W9.alloc (.cells #[.int .i64 e0, .int .i64 e1, .slice A8 L8.length c8] 49)).drew := ((Below.refl _ _).alloc (Nat.le_refl _) _).drew
                  have hfin := (hpw9.under hba).grown (x := ⟨⟨e0, e1, L8⟩, A8, c8⟩) (own_under (ownsRow_base hmr9 hwsz) hba) hg4 (by rw [HNN.out]; exact hown4)
                  have hbf := (hb9.alloc hb9.size (.cells #[.int .i64 e0, .int .i64 e1, .slice A8 L8.length c8] 49)).drew.grown hg4 (by have := hb9.size; simp; omega) (fun g e => (hown9.lt g e).1)
                  go_roundw
                  case rel =>
                    refine ⟨m + 1, (X' ++ [q]) ++ [⟨⟨e0, e1, L8⟩, A8, c8⟩], by omega, by go_num, by have := HNN.out; rw [List.length_append]; simp only [List.length_cons, List.length_nil] at *; omega, ?_, hfin, HPA.out, hbf⟩
                    intro x hx
                    rcases List.mem_append.1 hx with hx | hx
                    · exact HIN.out x hx
                    · rw [List.mem_singleton.1 hx]
                      exact ⟨HL0.out, hL8k⟩
                  case measure => simp [intOf]; omega
            · have hte2 : (q.p.t == e0) = false := beq_eq_false_iff_ne.2 hte
              have HAP2 : Hid (addP (List.map Pw.p (X' ++ [q])) e0 e1 L8 = if L8 = [] then List.map Pw.p (X' ++ [q]) else List.map Pw.p (X' ++ [q]) ++ [⟨e0, e1, L8⟩]) := Lib.hid (by
                rw [HAP.out]
                split
                · rfl
                · exact if_neg (fun e => hte e.1))
              clear HAP hte
              go_quiet (fail)
              by_cases hL0 : L8 = []
              · subst hL0
                have HPA : Hid (pcs (memL ls) (E.drop (m + 1)) (List.map Pw.p (X' ++ [q])) = pieces ls) := by have := HPC2.out; rw [addP_nil] at this; exact this
                go_wp2_with fail
                go_roundw
                case rel => exact ⟨m + 1, (X' ++ [q]), by omega, by go_num, by have := HNN.out; omega, HIN.out, HPW.out, HPA.out, below_drewN hbn nq⟩
                case measure => simp [intOf]; omega
              · have hlp : 0 < L8.length := List.length_pos_iff.2 hL0
                have hlp2 : (0 : Int) < (L8.length : Int) := by omega
                have HPA : Hid (pcs (memL ls) (E.drop (m + 1)) (((X' ++ [q]) ++ [(⟨⟨e0, e1, L8⟩, A8, c8⟩ : Pw)]).map Pw.p) = pieces ls) := by have := HPC2.out; rw [HAP2.out, if_neg hL0] at this; rw [List.map_append]; exact this
                have HL0 := Lib.hid hL0
                clear hL0
                have hpw9 : Pws (wo.drewN nq) w6.heap.size (.slice (some ⟨g2, 0, none⟩) N c7) (X' ++ [q]) := HPW.out
                have hown9' := hpw9.1
                have hmr9 : Mr (wo.drewN nq) wr.heap.size ⟨⟨e0, e1, L8⟩, A8, c8⟩ := hmr
                have hb9 : Below w6.heap.size w6 (wo.drewN nq) := below_drewN hbn nq
                have z9 : wr.heap.size ≤ (wo.drewN nq).heap.size := hoz
                have q0' : (wo.drewN nq).cell? ⟨gE, oE + m, none⟩ = some (.int .i64 e0) := q0
                have q1' : (wo.drewN nq).cell? ⟨gE, oE + (m + 1), none⟩ = some (.int .i64 e1) := q1
                go_upto_region 18 with (fail)
                obtain ⟨W9, hW9⟩ : ∃ W, W = wo.drewN nq := ⟨_, rfl⟩
                rw [← hW9] at hpw9 hown9' hmr9 hb9 z9 q0' q1' ⊢
                clear hW9 q0 q1 hbn hbw hown8 hmr hoz hL8k'
                have hown9 : W9.ownsRow w6.heap.size 49 3 (.slice (some ⟨g2, 0, none⟩) N c7) N (flat Pw.cells (X' ++ [q])) := by have := HNN.out; rwa [this] at hown9'
                clear hown9'
                go_region_held3 (fun w' => w'.cell? ⟨gE, oE + m, none⟩ = some (.int .i64 e0) ∧ w'.cell? ⟨gE, oE + (m + 1), none⟩ = some (.int .i64 e1)) (go_keep) ((refine step_append_rd (by rfl) (.tmp 86) (.tmp 99) 45 (by rfl) w6.heap.size 49 i2 _ 3 40 Try.underlying45 hi2 hp0 hp1 hp2 rfl (by omega) (.slice (some ⟨g2, 0, none⟩) N c7) N (flat Pw.cells (X' ++ [q])) (by rfl) (hown9.alloc _) (W9.heap.size + 1) (some ⟨W9.heap.size, 0, none⟩) 1 1 [.int .i64 e0, .int .i64 e1, .slice A8 L8.length c8] (by rfl) (Rd.built (heap_alloc_new W9 _) (by omega) rfl) (by intro u hu; simp at hu; rcases hu with rfl | rfl | rfl <;> rfl) (by unfold maxLen; omega) (by omega) (by simp; omega) ?_; intro v4 w4 hown4 hg4 hat4; have k0 : w4.cell? ⟨gE, oE + m, none⟩ = some (.int .i64 e0) := hg4.cell ((World.cell?_alloc_lt W9 _ ⟨gE, oE + m, none⟩ (by show gE < _; omega)).trans q0') (fun e => by have := (hown9.lt gE e.symm).1; omega); have k1 : w4.cell? ⟨gE, oE + (m + 1), none⟩ = some (.int .i64 e1) := hg4.cell ((World.cell?_alloc_lt W9 _ ⟨gE, oE + (m + 1), none⟩ (by show gE < _; omega)).trans q1') (fun e => by have := (hown9.lt gE e.symm).1; omega)))
                go_wp2_with fail
                have hba : Below W9.heap.size W9 (W9.alloc (.cells #[.int .i64 e0, .int .i64 e1, .slice A8 L8.length c8] 49)).drew := ((Below.refl _ _).alloc (Nat.le_refl _) _).drew
                have hfin := (hpw9.under hba).grown (x := ⟨⟨e0, e1, L8⟩, A8, c8⟩) (own_under (ownsRow_base hmr9 hwsz) hba) hg4 (by rw [HNN.out]; exact hown4)
                have hbf := (hb9.alloc hb9.size (.cells #[.int .i64 e0, .int .i64 e1, .slice A8 L8.length c8] 49)).drew.grown hg4 (by have := hb9.size; simp; omega) (fun g e => (hown9.lt g e).1)
                go_roundw
                case rel =>
                  refine ⟨m + 1, (X' ++ [q]) ++ [⟨⟨e0, e1, L8⟩, A8, c8⟩], by omega, by go_num, by have := HNN.out; rw [List.length_append]; simp only [List.length_cons, List.length_nil] at *; omega, ?_, hfin, HPA.out, hbf⟩
                  intro x hx
                  rcases List.mem_append.1 hx with hx | hx
                  · exact HIN.out x hx
                  · rw [List.mem_singleton.1 hx]
                    exact ⟨HL0.out, hL8k⟩
                case measure => simp [intOf]; omega

    · rw [pcs_end' hlt] at hpcs
      have HX := Lib.hid hpcs
      clear hpcs
      go_wp2_with fail
      go_ret
      have hXl := congrArg List.length HX.out
      rw [List.length_map] at hXl
      have hbw := hb6.trans (hb.mono hz6)
      rw [hXl] at hpw ⊢
      exact ⟨_, _, X, rfl, HX.out, hpw.base hz6, hbw⟩
end Go.Proofs.Ytjhbicopmgdlcaa
