/- The program's Valid, walked. -/
import Derived.Test.YtbogmkhoppffgaaScD
namespace Go.Proofs.Ytbogmkhoppffgaa
open Go.RowKit

theorem look_none {P : Program} {t kt et b : Nat} {M : List (Int × Int)} {w : World} {kd : IntKind} (ht : P.underlying t = some (.map kt et)) (hk : P.underlying kt = some (.int kd)) (hz : ∀ w, (zeroValue et).run P w = .ok (.int .i64 0) w) (h : IMap (Value.int .i64) w b M) {k : Int} (hl : look M k = none) :
    (Instr.lookup t (.map (some b)) (.int .i64 k) true).run P w = .ok (.tuple #[.int .i64 0, .bool false]) w := by
  have h2 := (run_lookup_imap ht hk hz h k).2
  rw [hl] at h2
  exact h2
theorem look_some {P : Program} {t kt et b : Nat} {M : List (Int × Int)} {w : World} {kd : IntKind} (ht : P.underlying t = some (.map kt et)) (hk : P.underlying kt = some (.int kd)) (hz : ∀ w, (zeroValue et).run P w = .ok (.int .i64 0) w) (h : IMap (Value.int .i64) w b M) {k v : Int} (hl : look M k = some v) :
    (Instr.lookup t (.map (some b)) (.int .i64 k) true).run P w = .ok (.tuple #[.int .i64 v, .bool true]) w := by
  have h2 := (run_lookup_imap ht hk hz h k).2
  rw [hl] at h2
  exact h2

set_option maxRecDepth 100000 in
set_option maxHeartbeats 4000000 in
theorem valid_any {A : Option Addr} {n c : Nat} {l : List Rw} {w : World} (h : Dr w A n l) (hn : n ≤ maxLen) :
    Calls Try.prog 23 #[.slice A n c] w fun e w' => e = .returned (.bool (vldB l)) ∧ Below w.heap.size w w' := by
  unfold maxLen at hn
  have HN := Lib.hid h.2
  have hrd := h.1
  clear h
  have hmm := @run_makeMap Try.prog
  go_enter Try.func23, Try.ntmps23
  go_wp2_with fail
  clear hmm
  go_loopw [12] (fun i wr => ∃ (k : Nat) (M : List (Int × Int)), k ≤ n ∧ i = .int .i64 (k : Int) ∧ vldB (l.take k) = true ∧ IMap (Value.int .i64) wr w.heap.size M ∧ MapOk M (l.take k) ∧ Below w.heap.size w wr) (fun i _ => n - (intOf i).toNat)
  case atStart => exact ⟨0, [], by omega, rfl, rfl, IMap.made w, MapOk.nil, (Below.refl _ _).alloc (Nat.le_refl _) _⟩
  case round =>
    obtain ⟨k, M, hk, rfl, hv, hmap, hmok, hb⟩ := hrel
    have hwsz := hb.size
    have HV := Lib.hid hv
    have HMK := Lib.hid hmok
    clear hv hmok
    by_cases hlt : k < n
    · have hkl : k < l.length := by rw [HN.out]; exact hlt
      obtain ⟨x, hx⟩ : ∃ x, l[k]? = some x := ⟨_, List.getElem?_eq_getElem hkl⟩
      obtain ⟨_, g, o, rfl, hgb, e0, e1, e2, e3, e4, e5⟩ := rw_cells (hrd.below hb) hx
      have hlo : (0 : Int) ≤ (k : Int) := by omega
      have hhi : (k : Int) < (n : Int) := by omega
      have hat := fun hl => vldB_at (l := l) hx hl
      have HAT := Lib.hid hat
      have hstep := fun h1 h2 => vldB_step (l := l) hx HV.out h1 h2
      have HST := Lib.hid hstep
      have htk : l.take (k + 1) = l.take k ++ [x] := by rw [List.take_add_one, hx]; rfl
      have HTK := Lib.hid htk
      have hbA := hb.alloc hwsz (.cells #[.int .i64 x.s, .int .i64 x.b, .int .i64 x.m, .int .i64 x.c, .int .i64 x.a, .bool x.p] 52)
      have hmA := hmap.alloc (.cells #[.int .i64 x.s, .int .i64 x.b, .int .i64 x.m, .int .i64 x.c, .int .i64 x.a, .bool x.p] 52)
      clear hx hat hstep htk
      rcases row_cases x with ⟨hok, t0, t1, t2, t3, t4, t5, t6, t7, t8⟩ | ⟨hok, t0⟩ | ⟨hok, t0, t1⟩ | ⟨hok, t0, t1, t2⟩ | ⟨hok, t0, t1, t2, t3⟩ | ⟨hok, t0, t1, t2, t3, t4⟩ | ⟨hok, t0, t1, t2, t3, t4, t5⟩ | ⟨hok, t0, t1, t2, t3, t4, t5, t6⟩ | ⟨hok, t0, t1, t2, t3, t4, t5, t6, t7⟩ | ⟨hok, t0, t1, t2, t3, t4, t5, t6, t7, t8⟩
      rotate_left
      all_goals first
        | as_aux_lemma =>
           (have hbad : vldB l = false := by
             cases hl : vldB l with
             | false => rfl
             | true => exact absurd (HAT.out hl).1 hok
            have HB := Lib.hid hbad
            clear hok hbad
            go_wp2_with (go_at_call 35; refine (ismon_any x.m _).mono ?_; rintro e w' ⟨rfl, rfl⟩)
            go_ret
            exact ⟨ret_bool HB.out.symm, hbA⟩)
        | skip
      have HOK := Lib.hid hok
      clear hok
      have hbox : (wr.alloc (.cells #[.int .i64 x.s, .int .i64 x.b, .int .i64 x.m, .int .i64 x.c, .int .i64 x.a, .bool x.p] 52)).heap[wr.heap.size]? = some (.cells #[.int .i64 x.s, .int .i64 x.b, .int .i64 x.m, .int .i64 x.c, .int .i64 x.a, .bool x.p] 52 (0, 0)) := heap_alloc_new wr _
      have hzA : wr.heap.size < (wr.alloc (.cells #[.int .i64 x.s, .int .i64 x.b, .int .i64 x.m, .int .i64 x.c, .int .i64 x.a, .bool x.p] 52)).heap.size := by simp
      go_upto_region 7 with ((go_at_call 35; refine (ismon_any x.m _).mono ?_; rintro e w' ⟨rfl, rfl⟩))
      obtain ⟨W, hW⟩ : ∃ W, W = wr.alloc (.cells #[.int .i64 x.s, .int .i64 x.b, .int .i64 x.m, .int .i64 x.c, .int .i64 x.a, .bool x.p] 52) := ⟨_, rfl⟩
      rw [← hW] at hbox hbA hzA hmA ⊢
      clear hW t0 t1 t2 t3 t4 t5 t6 t7 t8 e0 e1 e2 e3 e4 e5 hmap
      have hWz := hbA.size
      have b0 : W.cell? ⟨wr.heap.size, 0, none⟩ = some (.int .i64 x.s) := by rw [cell_of_row W _ 0 _ _ _ hbox]; rfl
      have b1 : W.cell? ⟨wr.heap.size, 1, none⟩ = some (.int .i64 x.b) := by rw [cell_of_row W _ 1 _ _ _ hbox]; rfl
      have b2 : W.cell? ⟨wr.heap.size, 2, none⟩ = some (.int .i64 x.m) := by rw [cell_of_row W _ 2 _ _ _ hbox]; rfl
      have b3 : W.cell? ⟨wr.heap.size, 3, none⟩ = some (.int .i64 x.c) := by rw [cell_of_row W _ 3 _ _ _ hbox]; rfl
      clear hbox
      by_cases hk0 : k = 0
      · as_aux_lemma =>
          have hd1 : ¬ (0 : Int) < (k : Int) := by omega
          have hs := HST.out HOK.out fun p hp => absurd hp (by omega)
          have hno : look M x.s = none := (show MapOk M [] by have := HMK.out; rw [hk0] at this; exact this).first
          have hl := look_none Try.underlying67 Try.underlying3 zero_int hmA hno
          obtain ⟨W5, hupd, hmap5, hgr5⟩ := run_mapUpdate_imap (P := Try.prog) Try.underlying67 Try.underlying3 hmA x.s x.c
          have hupd2 : (Instr.mapUpdate 67 (.map (some w.heap.size)) (.int .i64 x.s) (.int .i64 x.c)).run Try.prog W = .ok () W5 := hupd
          have hb5 := hbA.grown hgr5 hWz (fun g e => by injection e with e; omega)
          have hmok5 : MapOk (setKey M x.s x.c) (l.take (k + 1)) := by rw [HTK.out]; exact HMK.out.snoc x
          have HS := Lib.hid hs
          have HM5 := Lib.hid hmok5
          clear hs hk0 hno hupd hmok5 hgr5
          go_wp2_with fail
          go_roundw
          case rel => exact ⟨k + 1, _, by omega, by go_num, HS.out, hmap5, HM5.out, hb5⟩
          case measure => simp [intOf]; omega
      · have hd1 : (0 : Int) < (k : Int) := by omega
        have hw1 : IntKind.i64.wrap ((k : Int) - 1) = (k : Int) - 1 := IntWalk.i64_in _ (by omega)
        have hlo1 : (0 : Int) ≤ (k : Int) - 1 := by omega
        have hhi1 : (k : Int) - 1 < (n : Int) := by omega
        have hk1 : 1 ≤ k := by omega
        have hk2 : (1 : Int) ≤ (k : Int) := by omega
        have hk3 : (k : Int) ≤ (n : Int) := by omega
        obtain ⟨p, hp⟩ : ∃ p, l[k - 1]? = some p := ⟨_, List.getElem?_eq_getElem (by omega)⟩
        obtain ⟨_, g', o', hA, hgb', q0, q1, q2, q3, q4, q5⟩ := rw_cells (hrd.below hbA) hp
        injection hA with hA
        injection hA with hA1 hA2
        subst hA1 hA2
        have htp : l.take k = l.take (k - 1) ++ [p] := by
          obtain ⟨j, rfl⟩ : ∃ j, k = j + 1 := ⟨k - 1, by omega⟩
          rw [List.take_add_one, show j + 1 - 1 = j by omega, show l[j]? = some p from hp]
          rfl
        have hmp : MapOk M (l.take (k - 1) ++ [p]) := by rw [← htp]; exact HMK.out
        have hvp : vldB (l.take (k - 1) ++ [p]) = true := by rw [← htp]; exact HV.out
        have hnx : vldB l = true → Nxt p x := fun hl => (HAT.out hl).2 p (by omega) hp
        have hs := fun hnx : Nxt p x => HST.out HOK.out fun p' _ hp' => by
          rw [hp] at hp'
          injection hp' with hp'
          rw [← hp']
          exact hnx
        have HNX := Lib.hid hnx
        have HS := Lib.hid hs
        have HMP := Lib.hid hmp
        have HVP := Lib.hid hvp
        clear hp hnx hs hk0 htp hmp hvp
        obtain ⟨ov, hove⟩ : ∃ v, ordV p x = v := ⟨_, rfl⟩
        have hov := ordV_rlt p x
        rw [hove] at hov
        have HOVE := Lib.hid hove
        have HOV := Lib.hid hov
        clear hove hov
        have hbB := hbA.alloc hWz (.cells #[.int .i64 p.s, .int .i64 p.b, .int .i64 p.m, .int .i64 p.c, .int .i64 p.a, .bool p.p] 52)
        have hmB := hmA.alloc (.cells #[.int .i64 p.s, .int .i64 p.b, .int .i64 p.m, .int .i64 p.c, .int .i64 p.a, .bool p.p] 52)
        have hbox : (W.alloc (.cells #[.int .i64 p.s, .int .i64 p.b, .int .i64 p.m, .int .i64 p.c, .int .i64 p.a, .bool p.p] 52)).heap[W.heap.size]? = some (.cells #[.int .i64 p.s, .int .i64 p.b, .int .i64 p.m, .int .i64 p.c, .int .i64 p.a, .bool p.p] 52 (0, 0)) := heap_alloc_new W _
        have hzB : W.heap.size < (W.alloc (.cells #[.int .i64 p.s, .int .i64 p.b, .int .i64 p.m, .int .i64 p.c, .int .i64 p.a, .bool p.p] 52)).heap.size := by simp
        go_upto_region 9 with (fail)
        obtain ⟨V, hV⟩ : ∃ V, V = W.alloc (.cells #[.int .i64 p.s, .int .i64 p.b, .int .i64 p.m, .int .i64 p.c, .int .i64 p.a, .bool p.p] 52) := ⟨_, rfl⟩
        have c0 : V.cell? ⟨wr.heap.size, 0, none⟩ = some (.int .i64 x.s) := by rw [hV]; exact (World.cell?_alloc_lt W _ ⟨wr.heap.size, 0, none⟩ hzA).trans b0
        have c1 : V.cell? ⟨wr.heap.size, 1, none⟩ = some (.int .i64 x.b) := by rw [hV]; exact (World.cell?_alloc_lt W _ ⟨wr.heap.size, 1, none⟩ hzA).trans b1
        have c2 : V.cell? ⟨wr.heap.size, 2, none⟩ = some (.int .i64 x.m) := by rw [hV]; exact (World.cell?_alloc_lt W _ ⟨wr.heap.size, 2, none⟩ hzA).trans b2
        have c3 : V.cell? ⟨wr.heap.size, 3, none⟩ = some (.int .i64 x.c) := by rw [hV]; exact (World.cell?_alloc_lt W _ ⟨wr.heap.size, 3, none⟩ hzA).trans b3
        rw [← hV] at hbox hbB hzB hmB ⊢
        have d0 : V.cell? ⟨W.heap.size, 0, none⟩ = some (.int .i64 p.s) := by rw [cell_of_row V _ 0 _ _ _ hbox]; rfl
        have d1 : V.cell? ⟨W.heap.size, 1, none⟩ = some (.int .i64 p.b) := by rw [cell_of_row V _ 1 _ _ _ hbox]; rfl
        have d2 : V.cell? ⟨W.heap.size, 2, none⟩ = some (.int .i64 p.m) := by rw [cell_of_row V _ 2 _ _ _ hbox]; rfl
        have hzV : wr.heap.size < V.heap.size := by omega
        have hVz := hbB.size
        clear hV hbox b0 b1 b2 b3 q0 q1 q2 q3 q4 q5 hmA hbA
        go_region_held3 (fun w' => w'.cell? ⟨wr.heap.size, 0, none⟩ = some (.int .i64 x.s) ∧ w'.cell? ⟨wr.heap.size, 1, none⟩ = some (.int .i64 x.b) ∧ w'.cell? ⟨wr.heap.size, 2, none⟩ = some (.int .i64 x.m) ∧ w'.cell? ⟨W.heap.size, 0, none⟩ = some (.int .i64 p.s) ∧ w'.cell? ⟨W.heap.size, 1, none⟩ = some (.int .i64 p.b) ∧ w'.cell? ⟨W.heap.size, 2, none⟩ = some (.int .i64 p.m)) (go_keep)
          (first
            | (go_at_call 39; refine (compare_any _ _ _).mono ?_; rintro e w' ⟨rfl, rfl⟩)
            | (go_at_call 38; refine (cmpor_any V.heap.size (cmpI p.s x.s) (cmpI p.b x.b) (cmpI p.m x.m) _ (by simp [go_sem]) (by simp [go_sem]) (by simp [go_sem])).mono ?_; rintro e w' ⟨rfl, rfl⟩; rw [show or3 (cmpI p.s x.s) (cmpI p.b x.b) (cmpI p.m x.m) = ov from HOVE.out]))
        obtain ⟨V2, hV, hm2, hb2, z0, z3⟩ : ∃ V2, V2 = (V.alloc (.cells #[.int .i64 (cmpI p.s x.s), .int .i64 (cmpI p.b x.b), .int .i64 (cmpI p.m x.m)] 3)).drew ∧ IMap (Value.int .i64) V2 w.heap.size M ∧ Below w.heap.size w V2 ∧ V2.cell? ⟨wr.heap.size, 0, none⟩ = some (.int .i64 x.s) ∧ V2.cell? ⟨wr.heap.size, 3, none⟩ = some (.int .i64 x.c) :=
          ⟨_, rfl, (hmB.alloc _).drew, (hbB.alloc hVz _).drew, (World.cell?_alloc_lt V _ ⟨wr.heap.size, 0, none⟩ hzV).trans c0, (World.cell?_alloc_lt V _ ⟨wr.heap.size, 3, none⟩ hzV).trans c3⟩
        rw [← hV]
        have hV2z := hb2.size
        clear hV c0 c1 c2 c3 d0 d1 d2 hmB hbB
        have hcase : (rltB p x = false ∧ ¬Nxt p x) ∨ (rltB p x = true ∧ (p.c != x.c) = true ∧ ¬Nxt p x ∧ look M x.s = some p.c) ∨ (rltB p x = true ∧ (p.c != x.c) = false ∧ Nxt p x ∧ look M x.s = some p.c) ∨ (rltB p x = true ∧ Nxt p x ∧ look M x.s = none) := by
          unfold Nxt
          rw [← rltB_iff]
          cases hr : rltB p x with
          | false => exact .inl ⟨rfl, by simp⟩
          | true =>
            by_cases h1 : p.s = x.s
            · have hlk := HMP.out.same h1
              by_cases h2 : p.c = x.c
              · exact .inr (.inr (.inl ⟨rfl, by simp [h2], by simp [h2], hlk⟩))
              · exact .inr (.inl ⟨rfl, by simp [h2], by simp [h1, h2], hlk⟩)
            · have hlt := (rltB_iff p x).1 hr
              unfold Rlt at hlt
              exact .inr (.inr (.inr ⟨rfl, by simp [h1], HMP.out.new HVP.out (by omega)⟩))
        rcases hcase with ⟨u1, hx⟩ | ⟨u1, u3, hx, hlk⟩ | ⟨u1, u3, hx, hlk⟩ | ⟨u1, hx, hlk⟩
        · have hov2 : decide (0 ≤ ov) = true := by rw [HOV.out, u1]; rfl
          have hov3 : 0 ≤ ov := of_decide_eq_true hov2
          have HXN := Lib.hid hx
          clear hx
          go_wp2_with fail
          go_ret
          exact ⟨ret_bool (by cases hl : vldB l with | false => rfl | true => exact absurd (HNX.out hl) HXN.out), hb2⟩
        · have hov2 : decide (0 ≤ ov) = false := by rw [HOV.out, u1]; rfl
          have hov3 : ¬ 0 ≤ ov := of_decide_eq_false hov2
          have hl := look_some Try.underlying67 Try.underlying3 zero_int hm2 hlk
          have HXN := Lib.hid hx
          clear hx hlk
          go_wp2_with fail
          go_ret
          exact ⟨ret_bool (by cases hl : vldB l with | false => rfl | true => exact absurd (HNX.out hl) HXN.out), hb2⟩
        · have hov2 : decide (0 ≤ ov) = false := by rw [HOV.out, u1]; rfl
          have hov3 : ¬ 0 ≤ ov := of_decide_eq_false hov2
          have hl := look_some Try.underlying67 Try.underlying3 zero_int hm2 hlk
          obtain ⟨W5, hupd, hmap5, hgr5⟩ := run_mapUpdate_imap (P := Try.prog) Try.underlying67 Try.underlying3 hm2 x.s x.c
          have hupd2 : (Instr.mapUpdate 67 (.map (some w.heap.size)) (.int .i64 x.s) (.int .i64 x.c)).run Try.prog V2 = .ok () W5 := hupd
          have hb5 := hb2.grown hgr5 hV2z (fun g e => by injection e with e; omega)
          have hmok5 : MapOk (setKey M x.s x.c) (l.take (k + 1)) := by rw [HTK.out]; exact HMK.out.snoc x
          have HM5 := Lib.hid hmok5
          have HXN := Lib.hid hx
          clear hx hlk hupd hmok5 hgr5
          go_wp2_with fail
          go_roundw
          case rel => exact ⟨k + 1, _, by omega, by go_num, HS.out HXN.out, hmap5, HM5.out, hb5⟩
          case measure => simp [intOf]; omega
        · have hov2 : decide (0 ≤ ov) = false := by rw [HOV.out, u1]; rfl
          have hov3 : ¬ 0 ≤ ov := of_decide_eq_false hov2
          have hl := look_none Try.underlying67 Try.underlying3 zero_int hm2 hlk
          obtain ⟨W5, hupd, hmap5, hgr5⟩ := run_mapUpdate_imap (P := Try.prog) Try.underlying67 Try.underlying3 hm2 x.s x.c
          have hupd2 : (Instr.mapUpdate 67 (.map (some w.heap.size)) (.int .i64 x.s) (.int .i64 x.c)).run Try.prog V2 = .ok () W5 := hupd
          have hb5 := hb2.grown hgr5 hV2z (fun g e => by injection e with e; omega)
          have hmok5 : MapOk (setKey M x.s x.c) (l.take (k + 1)) := by rw [HTK.out]; exact HMK.out.snoc x
          have HM5 := Lib.hid hmok5
          have HXN := Lib.hid hx
          clear hx hlk hupd hmok5 hgr5
          go_wp2_with fail
          go_roundw
          case rel => exact ⟨k + 1, _, by omega, by go_num, HS.out HXN.out, hmap5, HM5.out, hb5⟩
          case measure => simp [intOf]; omega
    · have hl : l.take k = l := List.take_of_length_le (by have := HN.out; omega)
      have HL := Lib.hid hl
      clear hl
      go_wp2_with fail
      go_ret
      exact ⟨ret_bool (by rw [← HV.out, HL.out]), hb⟩
end Go.Proofs.Ytbogmkhoppffgaa

