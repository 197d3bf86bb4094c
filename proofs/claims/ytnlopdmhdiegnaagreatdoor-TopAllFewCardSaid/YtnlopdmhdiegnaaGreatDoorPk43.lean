/- Lemmas (no conditions): Bnc, Bnd, Erj -/
import Derived.Test.YtnlopdmhdiegnaaGreatDoorPk31
import Derived.Test.YtnlopdmhdiegnaaGreatDoorPk41
import Derived.Test.YtnlopdmhdiegnaaGreatDoorPk42
import Derived.Test.YtnlopdmhdiegnaaGreatDoorSx
set_option linter.unusedSimpArgs false
set_option linter.unusedVariables false
set_option maxRecDepth 100000
set_option maxHeartbeats 64000000
namespace Go.Proofs.YtnlopdmhdiegnaaGreatDoor
open Go.RowKit
section
theorem info_scheme : (Tryz.prog.info? 223).map (fun i => (i.zero, i.size, i.bytes)) = some (some (.agg #[.int .i64 0, .int .i64 0, .int .i64 0, .int .i64 0, .slice none 0 0, .slice none 0 0, .slice none 0 0, .slice none 0 0, .slice none 0 0]), 9, 152) := by kernel_rfl
theorem VerR.sch {w w' : World} {Q hi n c : Nat} {A : Option Addr} {cr : Bool} {a b py : Lf} {x : Vs} (h : VerR w hi ⟨cr, .cmp a b, py⟩ x) (hk : Kp Q w w') (hq : w.cell? ⟨Q, 0, none⟩ = some (.int .i64 0)) (hq4 : w.cell? ⟨Q, 4, none⟩ = some (.slice A n c)) : VerR w' hi ⟨cr, .cmp a b, py⟩ x := by
 refine ⟨?_, ?_⟩
 ·rcases h.cr with ⟨h1, g, h2, h3, h4, h5⟩ | h1
  ·exact .inl ⟨h1, g, h2, h3, h4, h5.own (j := 0) hk rfl (by rw [hq]; simp)⟩
  ·exact .inr h1
 ·obtain ⟨g, X, h1, h2, h3, g2, c, h5, h6, h7⟩ := h.gr
  exact ⟨g, X, h1, h2, h3.own (j := 0) hk rfl (by rw [hq]; simp), g2, c, h5, h6, h7.own (j := 4) hk rfl (by rw [hq4]; simp)⟩
structure SchO (w : World) (base : Nat) (D : Sd) (A : Option Addr) (j c : Nat) (Y : List Sc) : Prop where
 own : w.ownsRow base 223 9 (.slice A j c) j (flat Sc.cells Y)
 len : Y.length = j
 st : ∀ (i : Nat) (x : Sc), Y[i]? = some x -> x.s = (i : Int)
 ver : ∀ x ∈ Y, VerR w w.heap.size D x.y
 nil : j = 0 -> A = none
theorem SchO.zero (w : World) (base : Nat) (D : Sd) : SchO w base D none 0 0 [] := ⟨World.ownsRow_nil _ _ _ _, rfl, (fun i x h => by simp at h), (fun x h => by cases h), fun _ => rfl⟩
theorem SchO.under {w w' : World} {base j c : Nat} {D : Sd} {A : Option Addr} {Y : List Sc} (h : SchO w base D A j c Y) (hb : Below w.heap.size w w') : SchO w' base D A j c Y :=
 ⟨own_underF h.own hb, h.len, h.st, fun x hx => ((h.ver x hx).below hb).mono hb.size, h.nil⟩
theorem SchO.schR {w : World} {base j c : Nat} {D : Sd} {A : Option Addr} {Y : List Sc} (h : SchO w base D A j c Y) : SchR w w.heap.size D A j Y := ⟨Rd.ofOwn h.own, h.len, h.st, h.ver⟩
theorem SchO.snoc {w w' : World} {base j c c' : Nat} {A A' : Option Addr} {cr : Bool} {a b py : Lf} {Y : List Sc} {y : Vs} (h : SchO w base ⟨cr, .cmp a b, py⟩ A j c Y) (hy : VerR w w.heap.size ⟨cr, .cmp a b, py⟩ y) (hg : w.grownBy w' (Value.slice A j c).ownBlock)
  (h' : w'.ownsRow base 223 9 (.slice A' (j + 1) c') (j + 1) (flat Sc.cells Y ++ Sc.cells ⟨(j : Int), y⟩)) : SchO w' base ⟨cr, .cmp a b, py⟩ A' (j + 1) c' (Y ++ [⟨(j : Int), y⟩]) := by
 have key : ∀ z, VerR w w.heap.size ⟨cr, .cmp a b, py⟩ z -> VerR w' w'.heap.size ⟨cr, .cmp a b, py⟩ z := fun z hz => by
  refine VerR.mono ?_ hg.size
  by_cases hj : j = 0
  ·rw [h.nil hj] at hg
   exact hz.below ⟨hg.os, hg.tape, hg.output, hg.size, fun i hi => hg.block i hi (fun e => by cases e)⟩
  ·obtain ⟨_, _, e0, _, _, hA⟩ := own_form h.own
   injection e0 with ea _ ec
   subst ea ec
   obtain ⟨g, rfl, _⟩ := hA (by omega)
   obtain ⟨x, hx⟩ : ∃ x, Y[0]? = some x := ⟨_, List.getElem?_eq_getElem (by rw [h.len]; omega)⟩
   have hs := h.st 0 x hx
   have f0 : (flat Sc.cells Y)[0 * 9 + 0]? = some (.int .i64 x.s) := flat_get sc_len _ 0 0 _ hx (by omega)
   have f4 : (flat Sc.cells Y)[0 * 9 + 4]? = some (.slice x.y.cA x.y.cn x.y.cc) := flat_get sc_len _ 0 4 _ hx (by omega)
   have c0 := h.own.cells (g := g) rfl _ _ f0
   have c4 := h.own.cells (g := g) rfl _ _ f4
   rw [addAt, Nat.zero_add] at c0 c4
   rw [hs] at c0
   exact hz.sch (Q := g) hg c0 c4
 refine ⟨by rw [flat_append, flat_one]; exact h', by simp [h.len], fun i x hx => ?_, fun x hx => ?_, fun e => by omega⟩
 ·by_cases hi : i < Y.length
  ·rw [List.getElem?_append_left hi] at hx
   exact h.st i x hx
  ·rw [List.getElem?_append_right (by omega), h.len] at hx
   have hi0 : i - j = 0 := by
    have := (List.getElem?_eq_some_iff.1 hx).1
    simpa using this
   rw [hi0] at hx
   obtain rfl := Option.some.inj hx
   have := h.len
   show (j : Int) = (i : Int)
   omega
 ·rcases List.mem_append.1 hx with hx | hx
  ·exact key _ (h.ver x hx)
  ·rw [List.mem_singleton.1 hx]
   exact key _ hy
theorem flat_cc (R : List Pc) : flat Pc.cc R = flat Pr.ccells (R.map Pc.pr) := by
 induction R with
 | nil => rfl
 | cons p R ih => rw [flat_cons, List.map_cons, flat_cons, ih]; rfl
def RetK (w : World) (ws : List Sp) (e : Ending) (w' : World) : Prop := ∃ KA kc K, e = .returned (.slice KA (List.length K) kc) /\ Ctd ws K /\ w'.ownsRow w.heap.size 236 4 (.slice KA K.length kc) K.length (flat Pr.ccells K) /\ Below w.heap.size w w'
theorem retK_of {w w5 w' : World} {e : Ending} {ws : List Sp} {lo : Int} (hw : WOk lo ws) (h6 : ws.length <= 6) (hb : Below w.heap.size w w5) (h : RetCt w5 (clm 0 ws) e w') : RetK w ws e w' := by
 obtain ⟨A, c, R, rfl, hR, _, _, ho, hbe⟩ := h
 have hl : (R.map Pc.pr).length = R.length := List.length_map ..
 have h5 := res_length hR
 rw [clm_length] at h5
 refine ⟨A, c, R.map Pc.pr, by rw [hl], ⟨by rw [hl]; omega, fun s r x => res_clm hw h6 hR s r x⟩, ?_, hb.trans (hbe.mono hb.size)⟩
 rw [hl, <- flat_cc]
 exact own_baseI ho hb.size
structure Pur (b : Bn) (nm : By) (N M n : Nat) (L : List Fc) (ws : List Sp) (rv : Rv) (d : Nat) : Prop where
 k0 : 0 < b.k
 k6 : b.k <= 6
 nm : Nm nm
 hN : N < 1000000000
 hM : M < 1000000
 ru : RuOk rv.r
 rm : rv.r.m = sts b.k
 rd : rv.r.d = b.md
 day : b.d = (d : Int)
 d3 : d <= 73048
 hl : L.length = n
 hW : Wks ws L
 hw : WOk 0 ws
 hk : ws.length <= b.k
 hwd : ∀ s ∈ ws, s.t <= (d : Int)
structure Inp (w : World) (hi : Nat) (b : Bn) (x : St) (nm : By) (cr : Bool) (N M : Nat) (rv : Rv) (A : Option Addr) (n : Nat) (L : List Fc) : Prop where
 S : Rd w hi 4 b.SA b.k (flat (saCells nm x) (List.range b.k))
 T : StR w hi (Sd.of cr N M) x
 R : Rus w hi b.RA 1 [rv]
 L : Rd w hi 14 A n (flat Fc.cells L)
theorem Inp.below {w w' : World} {hi : Nat} {b : Bn} {x : St} {nm : By} {cr : Bool} {N M : Nat} {rv : Rv} {A : Option Addr} {n : Nat} {L : List Fc} (h : Inp w hi b x nm cr N M rv A n L) (hb : Below hi w w') : Inp w' hi b x nm cr N M rv A n L :=
 ⟨h.S.below hb, h.T.below hb, h.R.below hb, h.L.below hb⟩
theorem Inp.mono {w : World} {hi hi' : Nat} {b : Bn} {x : St} {nm : By} {cr : Bool} {N M : Nat} {rv : Rv} {A : Option Addr} {n : Nat} {L : List Fc} (h : Inp w hi b x nm cr N M rv A n L) (hh : hi <= hi') : Inp w hi' b x nm cr N M rv A n L :=
 ⟨h.S.mono hh, h.T.mono hh, h.R.mono hh, h.L.mono hh⟩
theorem Inp.to {w w' : World} {b : Bn} {x : St} {nm : By} {cr : Bool} {N M : Nat} {rv : Rv} {A : Option Addr} {n : Nat} {L : List Fc} (h : Inp w w.heap.size b x nm cr N M rv A n L) (hb : Below w.heap.size w w') : Inp w' w'.heap.size b x nm cr N M rv A n L := (h.below hb).mono hb.size
abbrev sbBox (nm : By) (x : St) (j : Nat) : Obj := .cells #[.int .i64 (j : Int), .string (bs nm), .int .i64 1, .slice (some ⟨x.b, 0, none⟩) 1 x.c] 58
theorem sb_new (w : World) (nm : By) (x : St) (j : Nat) : ∃ W, w.alloc (sbBox nm x j) = W /\ Below w.heap.size w W /\ W.heap[w.heap.size]? = some (sbBox nm x j) :=
 ⟨_, rfl, (bRf).alloc (lRf) _, hAn w _⟩
theorem sbbox {W : World} {g : Nat} {nm : By} {x : St} {j : Nat} (hr : W.heap[g]? = some (sbBox nm x j)) : W.cell? ⟨g, 0, none⟩ = some (.int .i64 (j : Int)) /\ W.cell? ⟨g, 1, none⟩ = some (.string (bs nm)) /\ W.cell? ⟨g, 2, none⟩ = some (.int .i64 1) /\ W.cell? ⟨g, 3, none⟩ = some (.slice (some ⟨x.b, 0, none⟩) 1 x.c) := by
 refine ⟨?_, ?_, ?_, ?_⟩ <;> rw [cOr hr] <;> rfl
theorem count_ok {b : Bn} {x : St} {nm : By} {cr : Bool} {N M n c d : Nat} {rv : Rv} {A : Option Addr} {L : List Fc} {ws : List Sp} {w : World} (hP : Pur b nm N M n L ws rv d) (hI : Inp w w.heap.size b x nm cr N M rv A n L) (hM : Rd w w.heap.size 1 b.MA b.k (ints (sts b.k))) :
  Calls Tryz.prog 69 #[b.agg, .slice A n c, .func (.func 37) #[b.agg] #[]] w (RetK w ws) := by
 obtain ⟨i1, hi1, hy0, hy1, hy2⟩ := info_parts info_scheme
 obtain ⟨W, hW, bW, rW⟩ := bn_new w b
 have lW := (gis rW).1
 have hzW := bW.size
 have HS := hID (fun (u : World) (hu : Below W.heap.size W u) => hI.S.below (bW.trans (hu.mono hzW)))
 have HM := hID (fun (j : Nat) (hj : j < b.k) (u : World) (hu : Below W.heap.size W u) => (member_ok (b := b) (w := u) (j : Int) ((hM.below (bW.trans (hu.mono hzW))).mono (lTr hzW hu.size)) hP.k0 hP.k6).mono (R' := fun e w' => e = .returned (.bool true) /\ Below u.heap.size u w') (fun e w' h => ⟨by rw [h.1, mem_sts, decide_eq_true hj], h.2⟩))
 have HAT := hID (fun (u : World) (hu : Below W.heap.size W u) => sat_ok (nm := nm) (w := u) hP.d3 (hI.T.below (bW.trans (hu.mono hzW))) (lTr hzW hu.size))
 have HBX := hID (fun (u : World) (hu : Below W.heap.size W u) => bnbox ((hu.block _ lW).trans rW))
 have hIu := fun (u : World) (hu : Below W.heap.size W u) => hI.to (bW.trans (hu.mono hzW))
 have h6 : ws.length <= 6 := lTr hP.hk hP.k6
 have HLW := hID (fun (u : World) (hu : Below W.heap.size W u) => law_all (c := c) (rc := b.rc) (w := u) (hIu u hu).L hP.hl hP.hW (Int.le_refl 0) hP.hw h6 (hIu u hu).R hP.ru)
 have HCL := hID (fun (u : World) (hu : Below W.heap.size W u) (LA SA : Option Addr) (m lc sc : Nat) (Y : List Sc) (hS : Rd u u.heap.size 4 LA m (flat Pr.ccells (sgm 0 ws))) (hm : ws.length = m) (hY : SchR u u.heap.size (Sd.of cr N M) SA b.k Y) => claims_any (c := c) (lc := lc) (sc := sc) (hIu u hu).L hP.hl hP.hW (Int.le_refl 0) hP.hw h6 hS hm hY hP.k6 hP.hk (Nat.le_succ_of_le hP.d3) hP.hwd)
 have HRC := hID (fun (w5 w' : World) (e : Ending) (hb : Below w.heap.size w w5) (h : RetCt w5 (clm 0 ws) e w') => retK_of hP.hw h6 hb h)
 have h60 : (clm 0 ws).length <= 60 := by rw [clm_length]; omega
 have hseg : (sgm 0 ws).length = ws.length := sgm_length 0 ws
 have hbd := hP.day
 have hk6 := hP.k6
 clear hIu hI hM hP
 obtain ⟨SA, k, sc, RA, rc, d0, md, MA, mc⟩ := b
 unfold Bn.agg at HM ⊢
 unfold St.agg at HAT
 dsimp only [bnBox] at hW hbd HS HM HBX HLW HCL hk6
 subst hbd
 go_enter Tryz.func69, Tryz.ntmps69
 go_upto_region 1 with (fail)
 clear hW
 obtain ⟨c0, c1, _, c3, _, _, _, _, _⟩ := HBX.out W (bRf)
 go_wp2_with fail
 go_loopw [7, 18] (fun v i wr => ∃ (j c1 : Nat) (A1 : Option Addr) (Y : List Sc), j <= k /\ v = .slice A1 j c1 /\ i = .int .i64 (j : Int) /\ SchO wr W.heap.size (Sd.of cr N M) A1 j c1 Y /\ Below W.heap.size W wr) (fun _ i _ => k - (intOf i).toNat)
 case atStart => exact ⟨0, 0, none, [], by omega, rfl, rfl, SchO.zero _ _ _, bRf⟩
 case round =>
  obtain ⟨j, c1, A1, Y, hj, rfl, rfl, hO, hb⟩ := hrel
  have hwsz := hb.size
  clear c0
  by_cases hlt : j < k
  ·obtain ⟨gb, o, rfl, hgb, e0, e1, e2, e3⟩ := sa_cells (HS.out wr hb) hlt
   have hlo : (0 : Int) <= (j : Int) := by omega
   have hhi : (j : Int) < (k : Int) := by omega
   have hjk : j <= 6 := by omega
   go_upto_region 5 with (fail)
   obtain ⟨V2, hV2, b2, r2⟩ := sb_new wr nm x j
   dsimp only [sbBox] at hV2
   rw [hV2]
   clear hV2 e0 e1 e2 e3
   have l2 := (gis r2).1
   obtain ⟨t0, t1, t2, t3⟩ := sbbox r2
   have hb2 := hb.trans (b2.mono hwsz)
   have hO2 := hO.under b2
   clear hO
   generalize wr.heap.size = X at *
   go_wp2_with fail
   refine (HM.out j hlt V2 hb2).mono ?_
   rintro e w3 ⟨rfl, b3⟩
   have hb3 := hb2.trans (b3.mono hb2.size)
   have r3 := (b3.block _ l2).trans r2
   have l3 := lLt l2 b3.size
   have hO3 := hO2.under b3
   clear t0 t1 t2 t3 hO2
   obtain ⟨t0, t1, t2, t3⟩ := sbbox r3
   obtain ⟨_, _, _, d3, _, _, _, _, _⟩ := HBX.out w3 hb3
   go_wp2_with fail
   refine (HAT.out w3 hb3).mono ?_
   rintro e w4 ⟨y, rfl, hy, b4⟩
   have hb4 := hb3.trans (b4.mono hb3.size)
   have r4 := (b4.block _ l3).trans r3
   have l4 := lLt l3 b4.size
   have hO4 := hO3.under b4
   clear t0 t1 t2 t3 hO3 d3
   dsimp only [Vs.agg]
   go_upto_region 7 with (fail)
   obtain ⟨W5, hW5, b5, r5⟩ : ∃ V2, V2 = w4.alloc (verBox y) /\ Below w4.heap.size w4 V2 /\ V2.heap[w4.heap.size]? = some (verBox y) :=
    ⟨_, rfl, (bRf).alloc (lRf) _, hAn w4 _⟩
   dsimp only [verBox] at hW5
   rw [<- hW5]
   clear hW5
   obtain ⟨v0, v1, v2, v3, v4, v5, v6, v7⟩ := verbox r5
   have hb5 := hb4.trans (b5.mono hb4.size)
   have hO5 := hO4.under b5
   have hy5 := (hy.below b5).mono b5.size
   obtain ⟨t0, _, _, _⟩ := sbbox ((b5.block _ l4).trans r4)
   have hz5 := hb5.size
   have hown5 := hO5.own
   have b6 : Below W5.heap.size W5 (W5.alloc (.cells #[.int .i64 (j : Int), .int .i64 0, .int .i64 1, .int .i64 1, .slice y.cA y.cn y.cc, .slice none 0 0, .slice none 0 0, .slice y.gA 1 y.gc, .slice none 0 0] 223)) := (bRf).alloc (lRf) _
   have hO6 := hID (hO5.under b6)
   have hy6 := hID ((hy5.below b6).mono b6.size)
   have hb6 := hb5.trans (b6.mono hz5)
   clear hO4 hO5 hy hy5 r2 r3 r4 l2 l3 l4 b2 b3 b4 b5 b6 hb2 hb3 hb4
   go_wp2_with (at_builtin; go_loud (refine wpList_append_rd (by rfl) (.tmp 34) (.tmp 39) 221 (by rfl) W.heap.size 223 i1 _ 9 152 Tryz.underlying221 hi1 hy0 hy1 hy2 rfl (by omega) (.slice A1 j c1) j (flat Sc.cells Y) (by rfl) (hown5.alloc _) (W5.heap.size + 1) (some ⟨W5.heap.size, 0, none⟩) 1 1 [.int .i64 (j : Int), .int .i64 0, .int .i64 1, .int .i64 1, .slice y.cA y.cn y.cc, .slice none 0 0, .slice none 0 0, .slice y.gA 1 y.gc, .slice none 0 0] (by rfl) (Rd.built (hAn W5 _) (by omega) rfl) (by intro u hu; simp at hu; rcases hu with rfl | rfl | rfl | rfl | rfl | rfl | rfl | rfl | rfl <;> rfl) (by unfold maxLen; omega) (by omega) (by simp; omega) ?_); intro q4 w7 hown7 hg7 hat7)
   have hb7 := hb6.grown hg7 (by simp; omega) (fun g e => (hO6.out.own.lt g e).1)
   obtain ⟨A7, c7, rfl, _, _, _⟩ := own_form hown7
   have hO7 : SchO w7 W.heap.size (Sd.of cr N M) A7 (j + 1) c7 (Y ++ [⟨(j : Int), y⟩]) := SchO.snoc hO6.out hy6.out hg7 hown7
   go_roundw
   case rel => exact ⟨j + 1, c7, A7, Y ++ [⟨(j : Int), y⟩], by omega, rfl, by go_num, hO7, hb7⟩
   case measure => simp [intOf]; omega
  ·obtain rfl : j = k := by omega
   have hlt0 : decide ((j : Int) < (j : Int)) = false := by simp
   obtain ⟨_, p1, _, p3, _, _, _, _, _⟩ := HBX.out wr hb
   have HOO := hID hO
   clear hO
   go_wp2_with fail
   go_region_held3 (fun w' => w'.cell? ⟨w.heap.size, 1, none⟩ = some (.slice RA 1 rc) /\ w'.cell? ⟨w.heap.size, 3, none⟩ = some (.int .i64 (d : Int))) (first | exact ⟨p1, p3⟩ | exact ⟨(HBX.out _ hb5).2.1, (HBX.out _ hb5).2.2.2.1⟩ | exact ⟨(HBX.out _ hb6).2.1, (HBX.out _ hb6).2.2.2.1⟩) (first
    | (go_at_call 121; (with_reducible refine (HLW.out _ hb.drew).mono ?_); rintro e w5 ⟨A5, m5, c5, rfl, hm5, ho5, b5⟩
       have hb5 : Below W.heap.size W w5 := hb.drew.trans (b5.mono hwsz)
       have hO5 := HOO.out.under (w' := w5) ((Below.refl wr.heap.size wr).drew.trans (b5.mono (Nat.le_refl wr.heap.size))))
    | (go_at_call 120; (with_reducible refine (HCL.out _ hb5 A5 A1 m5 c5 c1 Y (Rd.ofOwn ho5) (hseg.symm.trans hm5) hO5.schR).mono ?_); rintro e w6 ⟨A6, c6, rfl, ho6, b6⟩
       have hb6 : Below W.heap.size W w6 := hb5.trans (b6.mono hb5.size)))
   go_wp2_with fail
   refine (resolve_any (Rd.ofOwn ho6) rfl h60).mono ?_
   intro e w7 hr7
   obtain ⟨KA, kc, K, rfl, hK, hoK, hbK⟩ := HRC.out w6 w7 e (bW.trans (hb6.mono hzW)) hr7
   go_wp2_with fail
   go_ret
   exact ⟨KA, kc, K, rfl, hK, hoK, hbK⟩
theorem counted_ok {b : Bn} {x : St} {nm : By} {cr : Bool} {N M n c d s : Nat} {rv : Rv} {A : Option Addr} {L : List Fc} {ws : List Sp} {w : World} (hP : Pur b nm N M n L ws rv d) (hI : Inp w w.heap.size b x nm cr N M rv A n L) (hM : Rd w w.heap.size 1 b.MA b.k (ints (sts b.k))) (hs : s < b.k) :
  Calls Tryz.prog 35 #[b.agg, .slice A n c, .int .i64 (s : Int)] w (RetK w ws) := by
 obtain ⟨W, hW, bW, rW⟩ := bn_new w b
 have lW := (gis rW).1
 have hzW := bW.size
 have hm := (member_ok (b := b) (w := W) (s : Int) ((hM.below bW).mono hzW) hP.k0 hP.k6).mono (R' := fun e w' => e = .returned (.bool true) /\ Below W.heap.size W w') (fun e w' h => ⟨by rw [h.1, mem_sts, decide_eq_true hs], h.2⟩)
 have HBX := hID (fun (u : World) (hu : Below W.heap.size W u) => bnbox ((hu.block _ lW).trans rW))
 have HC := hID (fun (u : World) (hu : Below W.heap.size W u) => count_ok (c := c) (w := u) hP (hI.to (bW.trans (hu.mono hzW))) ((hM.below (bW.trans (hu.mono hzW))).mono (lTr hzW hu.size)))
 clear hI hM hP
 obtain ⟨c0, c1, c2, c3, c4, c5, c6, c7, c8⟩ := HBX.out W (bRf)
 obtain ⟨SA, k, sc, RA, rc, d0, md, MA, mc⟩ := b
 unfold Bn.agg at hm HC ⊢
 dsimp only [bnBox] at hW c0 c1 c3 c5 c8 hm HC HBX
 go_enter Tryz.func35, Tryz.ntmps35
 go_upto_region 1 with (fail)
 clear hW
 go_wp2_with fail
 refine hm.mono ?_
 rintro e w1 ⟨rfl, b1⟩
 clear c0 c1 c2 c3 c4 c5 c6 c7 c8
 obtain ⟨c0, c1, c2, c3, c4, c5, c6, c7, c8⟩ := HBX.out w1 b1
 go_wp2_with fail
 refine (HC.out w1 b1).mono ?_
 rintro e w2 ⟨KA, kc, K, rfl, hK, hoK, hbK⟩
 go_wp2_with fail
 go_ret
 have hb1 := bW.trans (b1.mono hzW)
 exact ⟨KA, kc, K, rfl, hK, own_baseI hoK hb1.size, hb1.trans (hbK.mono hb1.size)⟩
end
section
abbrev lwBox (SA : Option Addr) (k sc : Nat) (RA : Option Addr) (rc : Nat) : Obj := .cells #[.slice SA k sc, .slice RA 1 rc, .slice none 0 0] 28
theorem lw_new (w : World) (SA : Option Addr) (k sc : Nat) (RA : Option Addr) (rc : Nat) : ∃ W, w.alloc (lwBox SA k sc RA rc) = W /\ Below w.heap.size w W /\ W.heap[w.heap.size]? = some (lwBox SA k sc RA rc) :=
 ⟨_, rfl, (bRf).alloc (lRf) _, hAn w _⟩
theorem setCells_at {w : World} {g : Nat} {vs : List Value} {cur : Array Value} {t : TypeId} (h : w.heap[g]? = some (.cells cur t (0, 0))) (hl : vs.length = cur.size) : (w.setCells g 0 vs).heap[g]? = some (.cells vs.toArray t (0, 0)) /\ Kp g w (w.setCells g 0 vs) := by
 have h1 := setCells_row g vs 0 w cur t h (by omega)
 have hlt := (gis h).1
 rw [h1]
 refine ⟨by simp [hlt], rfl, rfl, rfl, by simp, fun i hi hne => ?_⟩
 have : i ≠ g := fun e => hne (by rw [e])
 simp [Array.getElem?_setIfInBounds, Ne.symm this]
theorem own_kp {w w' : World} {R base e sz n : Nat} {v : Value} {xs : List Value} (h : w.ownsRow base e sz v n xs) (hk : Kp R w w') (hR : R < base) : w'.ownsRow base e sz v n xs := by
 refine h.kept (row := some R) hk ?_
 rcases h.2 with ⟨rfl, _⟩ | ⟨g', _, _, rfl, hb, _⟩
 ·exact .inl rfl
 ·refine .inr fun e => ?_
  have h2 : g' = R := Option.some.inj e
  omega
theorem Kp.bel {n R : Nat} {w w' : World} (h : Kp R w w') (hn : n <= R) (hr : R < w.heap.size) : Below n w w' := ⟨h.os, h.tape, h.output, h.size, fun i hi => h.block i (by omega) (fun e => by have := Option.some.inj e; omega)⟩
theorem Kp.at {R g : Nat} {w w' : World} {o : Obj} (h : Kp R w w') (hr : w.heap[g]? = some o) (hg : g ≠ R) : w'.heap[g]? = some o := (h.block g (gis hr).1 (fun e => hg (Option.some.inj e))).trans hr
theorem lwbox {W : World} {g : Nat} {SA : Option Addr} {k sc : Nat} {RA : Option Addr} {rc : Nat} (hr : W.heap[g]? = some (lwBox SA k sc RA rc)) : W.cell? ⟨g, 0, none⟩ = some (.slice SA k sc) /\ W.cell? ⟨g, 1, none⟩ = some (.slice RA 1 rc) /\ W.cell? ⟨g, 2, none⟩ = some (.slice none 0 0) := by
 refine ⟨?_, ?_, ?_⟩ <;> rw [cOr hr] <;> rfl
theorem check_ok {b : Bn} {x : St} {nm : By} {cr : Bool} {N M n d : Nat} {rv : Rv} {A : Option Addr} {L : List Fc} {ws : List Sp} {w : World} (hP : Pur b nm N M n L ws rv d) (hI : Inp w w.heap.size b x nm cr N M rv A n L) (hw : Mt w) :
  Calls Tryz.prog 32 #[.agg #[.slice b.SA b.k b.sc, .slice b.RA 1 b.rc, .slice none 0 0]] w fun e w' => e = .returned (.int .i64 0) /\ Below w.heap.size w w' := by
 obtain ⟨W, hW, bW, rW⟩ := lw_new w b.SA b.k b.sc b.RA b.rc
 have lW := (gis rW).1
 have hzW := bW.size
 have HS := hID (fun (u : World) (hu : Below W.heap.size W u) => hI.S.below (bW.trans (hu.mono hzW)))
 have HBX := hID (fun (u : World) (hu : Below W.heap.size W u) => lwbox ((hu.block _ lW).trans rW))
 have hm5 := hP.rm
 have HTC := hID (fun (u : World) (hu : Below W.heap.size W u) => (tcheck_any (c := b.rc) (w := u) (hI.to (bW.trans (hu.mono hzW))).R (by unfold maxLen; omega) (fun z hz => by
  rw [List.mem_singleton.1 hz, hm5, sts_len]; have := hP.k6; unfold maxLen; omega)).mono (R' := fun e w' => e = .returned (.int .i64 0) /\ Below u.heap.size u w') (fun e w' h => ⟨by rw [h.1, show [rv].map Rv.r = [rv.r] from rfl, hP.ru.chk], h.2⟩))
 have HTY := hID (fun (u : World) (hu : Below W.heap.size W u) => statute_ty (w := u) hP.nm (hI.T.below (bW.trans (hu.mono hzW))) (lTr hzW hu.size) (dim_ci hP.hN) (dim_py (Nat.lt_trans hP.hM (by omega))) (hw.kp (bW.trans (hu.mono hzW))))
 have hk6 := hP.k6
 have hra := fun u => rates_nil u
 clear hI hP hw hm5
 obtain ⟨SA, k, sc, RA, rc, d0, md, MA, mc⟩ := b
 unfold St.agg at HTY
 dsimp only [lwBox] at hW HS HBX HTC hk6 ⊢
 go_enter Tryz.func32, Tryz.ntmps32
 go_upto_region 1 with (fail)
 clear hW
 obtain ⟨c0, c1, c2⟩ := HBX.out W (bRf)
 go_wp2_with fail
 go_loopw [13] (fun i wr => ∃ (j : Nat), j <= k /\ i = .int .i64 (j : Int) /\ Below W.heap.size W wr) (fun i _ => k - (intOf i).toNat)
 case atStart => exact ⟨0, by omega, rfl, bRf⟩
 case round =>
  obtain ⟨j, hj, rfl, hb⟩ := hrel
  have hwsz := hb.size
  clear c0 c1 c2
  by_cases hlt : j < k
  ·obtain ⟨gb, o, rfl, hgb, e0, e1, e2, e3⟩ := sa_cells (HS.out wr hb) hlt
   have hprev : 0 < j -> wr.cell? ⟨gb, o + (j - 1) * 4, none⟩ = some (.int .i64 ((j : Int) - 1)) := fun hj0 => by
    obtain ⟨g', o', eA, _, f0, _⟩ := sa_cells (HS.out wr hb) (show j - 1 < k by omega)
    injection eA with eA
    injection eA with eA1 eA2
    subst eA1 eA2
    rw [f0]
    congr 2
    omega
   have HPV := hID hprev
   have hlo : (0 : Int) <= (j : Int) := by omega
   have hhi : (j : Int) < (k : Int) := by omega
   have hj6 : decide ((6 : Int) <= (j : Int)) = false := decide_eq_false (by omega)
   have hj7 : decide ((j : Int) < 0) = false := decide_eq_false (by omega)
   have hj8 : decide ((j : Int) <= (j : Int) - 1) = false := decide_eq_false (by omega)
   clear hprev
   go_upto_region 4 with (fail)
   obtain ⟨V2, hV2, b2, r2⟩ := sb_new wr nm x j
   dsimp only [sbBox] at hV2
   rw [hV2]
   clear hV2 e0 e1 e2 e3
   obtain ⟨t0, t1, t2, t3⟩ := sbbox r2
   have hb2 := hb.trans (b2.mono hwsz)
   obtain ⟨c0, c1, c2⟩ := HBX.out V2 hb2
   have pv0 : 0 < j -> V2.cell? ⟨gb, o + (j - 1) * 4, none⟩ = some (.int .i64 ((j : Int) - 1)) := fun hj0 => (b2.cell (p := ⟨gb, o + (j - 1) * 4, none⟩) (by show gb < _; omega)).trans (HPV.out hj0)
   have HPW := hID pv0
   clear pv0 r2
   by_cases hj0 : 0 < j
   ·have pv := HPW.out hj0
    have hm1 : (0 : Int) < (j : Int) := by omega
    have hm2 : (0 : Int) <= (j : Int) - 1 := by omega
    have hm3 : (j : Int) - 1 < (k : Int) := by omega
    have hm4 : ((j : Int) - 1).toNat = j - 1 := by omega
    go_quiet (fail)
    go_wp2_with fail
    go_roundw
    case rel => exact ⟨j + 1, by omega, by go_num, below_drewN hb2 nq⟩
    case measure => simp [intOf]; omega
   ·have hm1 : decide ((0 : Int) < (j : Int)) = false := decide_eq_false (by omega)
    have hm5 : ¬ (0 : Int) < (j : Int) := by omega
    go_quiet (fail)
    go_wp2_with fail
    go_roundw
    case rel => exact ⟨j + 1, by omega, by go_num, below_drewN hb2 nq⟩
    case measure => simp [intOf]; omega
  ·obtain rfl : j = k := by omega
   have hlt0 : decide ((j : Int) < (j : Int)) = false := by simp
   obtain ⟨c0, c1, c2⟩ := HBX.out wr hb
   go_wp2_with fail
   go_loopw [46] (fun i wx => ∃ (q : Nat), q <= j /\ i = .int .i64 (q : Int) /\ Below W.heap.size W wx) (fun i _ => j - (intOf i).toNat)
   case atStart => exact ⟨0, by omega, rfl, hb⟩
   case round =>
    clear c0 c1 c2 hb hwsz
    obtain ⟨q, hq, rfl, hb⟩ := hrel
    rename_i wx
    have hwsz := hb.size
    by_cases hlt : q < j
    ·obtain ⟨gb, o, rfl, hgb, e0, e1, e2, e3⟩ := sa_cells (HS.out _ hb) hlt
     have hlo : (0 : Int) <= (q : Int) := by omega
     have hhi : (q : Int) < (j : Int) := by omega
     go_upto_region 10 with (fail)
     obtain ⟨V2, hV2, b2, r2⟩ := sb_new wr nm x q
     dsimp only [sbBox] at hV2
     rw [hV2]
     clear hV2 e0 e1 e2 e3
     obtain ⟨t0, t1, t2, t3⟩ := sbbox r2
     have hb2 := hb.trans (b2.mono hwsz)
     go_wp2_with fail
     refine (HTY.out V2 hb2).mono ?_
     rintro e w3 ⟨rfl, b3⟩
     have hb3 := hb2.trans (b3.mono hb2.size)
     go_wp2_with fail
     go_roundw
     case rel => exact ⟨q + 1, by omega, by go_num, hb3⟩
     case measure => simp [intOf]; omega
    ·obtain rfl : q = j := by omega
     obtain ⟨c0, c1, c2⟩ := HBX.out _ hb
     go_wp2_with fail
     refine (HTC.out _ hb).mono ?_
     rintro e w3 ⟨rfl, b3⟩
     have hb3 := hb.trans (b3.mono hwsz)
     clear c0 c1 c2
     obtain ⟨c0, c1, c2⟩ := HBX.out _ hb3
     go_wp2_with fail
     refine (hra _).mono ?_
     rintro e w4 ⟨rfl, rfl⟩
     go_wp2_with fail
     go_ret
     exact ⟨rfl, bW.trans (hb3.mono hzW)⟩
abbrev bzBox : Obj := .cells #[.slice none 0 0, .slice none 0 0, .slice none 0 0, .int .i64 0, .int .i64 0, .int .i64 0, .int .i64 0, .int .i64 0, .slice none 0 0] 68
theorem bzbox {W : World} {g : Nat} (hr : W.heap[g]? = some bzBox) : (W.cell? ⟨g, 0, none⟩ = some (.slice none 0 0) /\ W.cell? ⟨g, 1, none⟩ = some (.slice none 0 0) /\ W.cell? ⟨g, 2, none⟩ = some (.slice none 0 0) /\ W.cell? ⟨g, 3, none⟩ = some (.int .i64 0) /\ W.cell? ⟨g, 4, none⟩ = some (.int .i64 0) /\ W.cell? ⟨g, 5, none⟩ = some (.int .i64 0) /\ W.cell? ⟨g, 6, none⟩ = some (.int .i64 0) /\ W.cell? ⟨g, 7, none⟩ = some (.int .i64 0) /\ W.cell? ⟨g, 8, none⟩ = some (.slice none 0 0)) ∧
  (W.frozen? ⟨g, 0, none⟩ = false /\ W.frozen? ⟨g, 1, none⟩ = false /\ W.frozen? ⟨g, 2, none⟩ = false /\ W.frozen? ⟨g, 3, none⟩ = false /\ W.frozen? ⟨g, 4, none⟩ = false /\ W.frozen? ⟨g, 5, none⟩ = false /\ W.frozen? ⟨g, 6, none⟩ = false /\ W.frozen? ⟨g, 7, none⟩ = false /\ W.frozen? ⟨g, 8, none⟩ = false) := by
 refine ⟨⟨?_, ?_, ?_, ?_, ?_, ?_, ?_, ?_, ?_⟩, fZr 0 hr, fZr 1 hr, fZr 2 hr, fZr 3 hr, fZr 4 hr, fZr 5 hr, fZr 6 hr, fZr 7 hr, fZr 8 hr⟩ <;> rw [cOr hr] <;> rfl
abbrev ruBox (k : Nat) (md : Int) (a : Option Addr) (c : Nat) : Obj := .cells #[.int .i64 0, .int .i64 md, .int .i64 730, .int .i64 25, .slice a k c] 56
theorem rubox {W : World} {g k c : Nat} {md : Int} {a : Option Addr} (hr : W.heap[g]? = some (ruBox k md a c)) : W.cell? ⟨g, 0, none⟩ = some (.int .i64 0) /\ W.cell? ⟨g, 1, none⟩ = some (.int .i64 md) /\ W.cell? ⟨g, 2, none⟩ = some (.int .i64 730) /\ W.cell? ⟨g, 3, none⟩ = some (.int .i64 25) /\ W.cell? ⟨g, 4, none⟩ = some (.slice a k c) := by
 refine ⟨?_, ?_, ?_, ?_, ?_⟩ <;> rw [cOr hr] <;> rfl
theorem open_ok {b : Bn} {x : St} {nm : By} {cr : Bool} {N M n d : Nat} {rv : Rv} {A : Option Addr} {L : List Fc} {ws : List Sp} {w : World} (hP : Pur b nm N M n L ws rv d) (hI : Inp w w.heap.size b x nm cr N M rv A n L) (hw : Mt w) :
  Calls Tryz.prog 20 #[.agg #[.slice b.SA b.k b.sc, .slice b.RA 1 b.rc, .slice none 0 0], .int .i64 (d : Int)] w fun e w' => ∃ MA mc, e = .returned (.tuple #[(⟨b.SA, b.k, b.sc, b.RA, b.rc, (d : Int), b.md, MA, mc⟩ : Bn).agg, .int .i64 0]) /\ w'.ownsRow w.heap.size 3 1 (.slice MA b.k mc) b.k (ints (sts b.k)) /\ Below w.heap.size w w' := by
 obtain ⟨W, hW, bW, rW⟩ := lw_new w b.SA b.k b.sc b.RA b.rc
 obtain ⟨V, hV, bV, rV⟩ := box_new W bzBox
 have lW := (gis rW).1
 have lV := (gis rV).1
 have hzW := bW.size
 have bWV := bW.trans (bV.mono hzW)
 have hzV := bWV.size
 have HBX := hID (fun (u : World) (hu : Below V.heap.size V u) => lwbox ((hu.block _ (lLt lW bV.size)).trans ((bV.block _ lW).trans rW)))
 have HBZ := hID (fun (u : World) (hu : Below V.heap.size V u) => (hu.block _ lV).trans rV)
 have hck := check_ok hP (hI.to bWV) (hw.kp bWV)
 have hdd : isD (d : Int) = true := (isD_iff _).2 ⟨by omega, by have := hP.d3; omega⟩
 have HAT := hID (fun (u : World) (hu : Below V.heap.size V u) => (tat_any (c := b.rc) (w := u) (d : Int) (hI.to (bWV.trans (hu.mono hzV))).R (by omega) (fun z hz => by
  rw [List.mem_singleton.1 hz, hP.rm, sts_len]; have := hP.k6; omega)).mono (R' := fun e w' => ∃ a c, e = .returned (.tuple #[.agg #[.int .i64 0, .int .i64 b.md, .int .i64 730, .int .i64 25, .slice a b.k c], .bool true]) /\ w'.ownsRow u.heap.size 3 1 (.slice a b.k c) b.k (ints (sts b.k)) /\ Below u.heap.size u w') (fun e w' h => by
   rw [show atT ([rv].map Rv.r) (d : Int) = some rv.r from hP.ru.at hdd] at h
   obtain ⟨hb, a, c, he, ho⟩ := h
   unfold Rv.agg at he
   dsimp only at he
   rw [hP.rm, sts_len] at he ho
   rw [hP.ru.f, hP.rd, hP.ru.p, hP.ru.b] at he
   exact ⟨a, c, he, ho, hb⟩))
 clear hI hP hw hdd
 obtain ⟨SA, k, sc, RA, rc, d0, md, MA0, mc0⟩ := b
 dsimp only [lwBox, bzBox] at hW hV HBX HAT hck ⊢
 unfold Bn.agg
 dsimp only
 go_enter Tryz.func20, Tryz.ntmps20
 go_upto_region 1 with (fail)
 clear hW hV
 obtain ⟨c0, c1, c2⟩ := HBX.out V (bRf)
 go_wp2_with fail
 refine hck.mono ?_
 rintro e w1 ⟨rfl, b1⟩
 clear c0 c1 c2 hck
 obtain ⟨c0, c1, c2⟩ := HBX.out w1 b1
 go_wp2_with fail
 refine (HAT.out w1 b1).mono ?_
 rintro e w2 ⟨a, ac, rfl, ho2, b2⟩
 have hb2 := b1.trans (b2.mono b1.size)
 go_upto_region 5 with (fail)
 obtain ⟨V3, hV3, b3, r3⟩ := box_new w2 (ruBox k md a ac)
 dsimp only [ruBox] at hV3
 rw [hV3]
 clear hV3 c0 c1 c2
 have hb3 := hb2.trans (b3.mono hb2.size)
 obtain ⟨c0, c1, c2⟩ := HBX.out V3 hb3
 obtain ⟨g0, g1, g2, g3, g4⟩ := rubox r3
 have rZ := HBZ.out V3 hb3
 obtain ⟨F, hF⟩ : ∃ F, (((((((((V3.setCell ⟨W.heap.size, 0, none⟩ (.slice SA k sc)).setCell ⟨W.heap.size, 1, none⟩ (.slice RA 1 rc)).setCell ⟨W.heap.size, 2, none⟩ (.slice none 0 0)).setCell ⟨W.heap.size, 3, none⟩ (.int .i64 (d : Int))).setCell ⟨W.heap.size, 4, none⟩ (.int .i64 0)).setCell ⟨W.heap.size, 5, none⟩ (.int .i64 md)).setCell ⟨W.heap.size, 6, none⟩ (.int .i64 730)).setCell ⟨W.heap.size, 7, none⟩ (.int .i64 25)).setCell ⟨W.heap.size, 8, none⟩ (.slice a k ac)) = F := ⟨_, rfl⟩
 obtain ⟨rF, kF⟩ := setCells_at (vs := [.slice SA k sc, .slice RA 1 rc, .slice none 0 0, .int .i64 (d : Int), .int .i64 0, .int .i64 md, .int .i64 730, .int .i64 25, .slice a k ac]) rZ rfl
 have hFF : V3.setCells W.heap.size 0 [.slice SA k sc, .slice RA 1 rc, .slice none 0 0, .int .i64 (d : Int), .int .i64 0, .int .i64 md, .int .i64 730, .int .i64 25, .slice a k ac] = F := hF
 rw [hFF] at rF kF
 have hoF := own_kp (own_underF ho2 b3) kF (lLt lV b1.size)
 have lF := (gis rZ).1
 have hbF : Below w.heap.size w F := (bWV.trans (hb3.mono hzV)).trans (kF.bel hzW lF)
 have HF := hID (And.intro rF (And.intro hoF hbF))
 clear rF kF hoF hFF
 obtain ⟨⟨y0, y1, y2, y3, y4, y5, y6, y7, y8⟩, z0, z1, z2, z3, z4, z5, z6, z7, z8⟩ := bzbox rZ
 go_wp2_with fail
 clear hF
 obtain ⟨rF, hoF, hbF⟩ := HF.out
 obtain ⟨s0, s1, s2, s3, s4, s5, s6, s7, s8⟩ := bnbox (b := ⟨SA, k, sc, RA, rc, (d : Int), md, a, ac⟩) rF
 exact bodyPost_ret (v := .tuple #[.agg #[.slice SA k sc, .slice RA 1 rc, .slice none 0 0, .int .i64 (d : Int), .int .i64 0, .int .i64 md, .int .i64 730, .int .i64 25, .slice a k ac], .int .i64 0]) (by simp [results, Tryz.f20, go_sem, s0, s1, s2, s3, s4, s5, s6, s7, s8]) rfl ⟨a, ac, rfl, own_baseI hoF (lTr hzV b1.size), hbF⟩
end
section
abbrev wideBox (x : Int) : Obj := .cells #[.int .u64 0, .int .u64 x] 332
theorem wide_new (w : World) (x : Int) : ∃ W, w.alloc (wideBox x) = W /\ Below w.heap.size w W /\ W.heap[w.heap.size]? = some (wideBox x) :=
 ⟨_, rfl, (bRf).alloc (lRf) _, hAn w _⟩
theorem widebox {W : World} {g : Nat} {x : Int} (hr : W.heap[g]? = some (wideBox x)) : W.cell? ⟨g, 0, none⟩ = some (.int .u64 0) /\ W.cell? ⟨g, 1, none⟩ = some (.int .u64 x) := by
 refine ⟨?_, ?_⟩ <;> rw [cOr hr] <;> rfl
theorem within_ok (x y : Nat) (hx : x <= 1000000000000000) (hy : y <= 1000000000) (w : World) : Calls Tryz.prog 207 #[.bool false, .agg #[.int .u64 0, .int .u64 (x : Int)], .agg #[.int .u64 0, .int .u64 (y : Int)]] w fun e w' => e = .returned (.tuple #[.agg #[.int .i64 (x : Int), .int .i64 (y : Int)], .int .i64 0]) /\ Below w.heap.size w w' := by
 obtain ⟨W, hW, bW, rW⟩ := wide_new w x
 obtain ⟨V, hV, bV, rV⟩ := wide_new W y
 obtain ⟨U, hU, bU, rU⟩ := fr_new V 0 0
 obtain ⟨T, hT, bT, rT⟩ := fr_new U x y
 have lW := (gis rW).1
 have lV := (gis rV).1
 have lU := (gis rU).1
 have bVU := bV.trans (bU.mono bV.size)
 have bWU := bW.trans (bVU.mono bW.size)
 have bWT := bWU.trans (bT.mono bWU.size)
 obtain ⟨c0, c1⟩ := widebox ((bVU.block _ lW).trans rW)
 obtain ⟨d0, d1⟩ := widebox ((bU.block _ lV).trans rV)
 have rU2 := (bT.block _ lU).trans rU
 obtain ⟨s0, s1⟩ := fbox rU2
 obtain ⟨k0, k1⟩ := fbox rT
 have y0 := fZr 0 rU2
 have y1 := fZr 1 rU2
 have q1 : decide ((1000000000000000 : Int) < (x : Int)) = false := decide_eq_false (by omega)
 have q2 : decide ((1000000000 : Int) < (y : Int)) = false := decide_eq_false (by omega)
 have m1 : IntKind.i64.wrap (x : Int) = (x : Int) := IntWalk.i64_in _ (by omega)
 have m2 : IntKind.i64.wrap (y : Int) = (y : Int) := IntWalk.i64_in _ (by omega)
 have hzV : w.heap.size <= V.heap.size := lTr bW.size bV.size
 have hfin := (bWT.setCell (p := ⟨V.heap.size, 0, none⟩) hzV (.int .i64 (x : Int))).setCell (p := ⟨V.heap.size, 1, none⟩) hzV (.int .i64 (y : Int))
 dsimp only [wideBox, fBox] at hW hV hU hT
 clear rW rV rU rT rU2 bW bV bU bT bVU bWU bWT hzV lW lV lU
 go_enter Tryz.func207, Tryz.ntmps207
 go_upto_region 1 with (fail)
 clear hW hV hU
 generalize W.heap.size = P at *
 generalize V.heap.size = Q at *
 go_upto_region 4 with (fail)
 clear hT c0 c1 d0 d1
 generalize U.heap.size = R at *
 go_wp2_with fail
 exact bodyPost_ret (v := .tuple #[.agg #[.int .i64 (x : Int), .int .i64 (y : Int)], .int .i64 0]) (by simp [results, Tryz.f207, go_sem, s0, s1]) rfl ⟨rfl, hfin⟩
theorem make_ok (a n : Nat) (ha : a <= 200000000) (h1 : 1 <= n) (h2 : n <= 200) (w : World) : Calls Tryz.prog 141 #[.int .i64 (a : Int), .int .i64 (n : Int)] w fun e w' => e = .returned (.tuple #[.agg #[.int .i64 ((a / Nat.gcd a n : Nat) : Int), .int .i64 ((n / Nat.gcd a n : Nat) : Int)], .int .i64 0]) /\ Below w.heap.size w w' := by
 obtain ⟨W, hW, bW, rW⟩ := box_new w fr0
 have hs1 := fun u => sizeP_nn (a : Int) (by omega) (by omega) u
 have hs2 := fun u => sizeP_nn (n : Int) (by omega) (by omega) u
 have hg1 := fun u => gcdP_fn a n (by omega) (by omega) u
 have g0 : 1 <= Nat.gcd a n := Nat.gcd_pos_of_pos_right _ (by omega)
 have g2 : Nat.gcd a n <= 200 := lTr (Nat.le_of_dvd (by omega) (Nat.gcd_dvd_right a n)) h2
 generalize Nat.gcd a n = g at *
 have q1 : a / g <= a := Nat.div_le_self _ _
 have q2 : n / g <= n := Nat.div_le_self _ _
 have t1 : (a : Int).tdiv (g : Int) = ((a / g : Nat) : Int) := by rw [Int.tdiv_eq_ediv_of_nonneg (by omega)]; exact (Int.natCast_ediv a g).symm
 have t2 : (n : Int).tdiv (g : Int) = ((n / g : Nat) : Int) := by rw [Int.tdiv_eq_ediv_of_nonneg (by omega)]; exact (Int.natCast_ediv n g).symm
 have hwi := fun u => within_ok (a / g) (n / g) (by omega) (by omega) u
 generalize a / g = p at *
 generalize n / g = r at *
 have d0 : ((n : Int) == 0) = false := beq_eq_false_iff_ne.2 (by omega)
 have g9 : ¬ g = 0 := by omega
 have u1 : IntKind.u64.wrap (p : Int) = (p : Int) := IntWalk.u64_in _ (by omega)
 have u2 : IntKind.u64.wrap (r : Int) = (r : Int) := IntWalk.u64_in _ (by omega)
 have d1 : ((g : Int) == 0) = false := beq_eq_false_iff_ne.2 (by omega)
 have d2 : decide ((a : Int) < 0) = false := decide_eq_false (by omega)
 have d3 : decide ((n : Int) < 0) = false := decide_eq_false (by omega)
 dsimp only [fr0] at hW
 go_enter Tryz.func141, Tryz.ntmps141
 go_upto_region 1 with (fail)
 clear hW
 go_wp2_with fail
 refine (hs1 _).mono ?_
 rintro e w1 ⟨rfl, e9⟩
 rw [e9]
 clear e9
 go_wp2_with fail
 refine (hs2 _).mono ?_
 rintro e w1 ⟨rfl, e9⟩
 rw [e9]
 clear e9
 go_wp2_with fail
 refine (hg1 _).mono ?_
 rintro e w1 ⟨rfl, k, rfl⟩
 have bk : Below W.heap.size W (W.drewN k) := below_to_drewN (bRf) k
 go_wp2_with fail
 refine wp_region_held_drew (S := fun _ => True) (by kernel_rfl) trivial (fun hHeld => ?_)
 refine wpAnyH_take (i := 0) (oi := _) (v := ?_) rfl (by kernel_rfl) (by kernel_rfl) (by kernel_rfl) (fun _ _ _ h => h) (Or.inl ⟨by rfl, ?_⟩) (by assumption) ?_
 rotate_left 1
 focus
  intro w' hSw
  try simp only [List.getElem_toArray, List.getElem_cons_succ, List.getElem_cons_zero]
  go_simp
  try with_reducible rfl
 try simp only [Act.put, List.getElem_toArray, List.getElem_cons_succ, List.getElem_cons_zero, List.setIfInBounds_toArray, List.set_cons_zero, List.set_cons_succ]
 refine wpAnyH_take (i := 1) (oi := _) (v := ?_) rfl (by kernel_rfl) (by kernel_rfl) (by kernel_rfl) (fun _ _ _ h => h) (Or.inl ⟨by rfl, ?_⟩) (by assumption) ?_
 rotate_left 1
 focus
  intro w' hSw
  try simp only [List.getElem_toArray, List.getElem_cons_succ, List.getElem_cons_zero]
  go_simp
  try with_reducible rfl
 try simp only [Act.put, List.getElem_toArray, List.getElem_cons_succ, List.getElem_cons_zero, List.setIfInBounds_toArray, List.set_cons_zero, List.set_cons_succ]
 refine wpAnyH_take (i := 2) (oi := _) (v := ?_) rfl (by kernel_rfl) (by kernel_rfl) (by kernel_rfl) (fun _ _ _ h => h) (Or.inl ⟨by rfl, ?_⟩) (by assumption) ?_
 rotate_left 1
 focus
  intro w' hSw
  try simp only [List.getElem_toArray, List.getElem_cons_succ, List.getElem_cons_zero]
  go_simp
  try with_reducible rfl
 try simp only [Act.put, List.getElem_toArray, List.getElem_cons_succ, List.getElem_cons_zero, List.setIfInBounds_toArray, List.set_cons_zero, List.set_cons_succ]
 refine wpAnyH_take (i := 3) (oi := _) (v := ?_) rfl (by kernel_rfl) (by kernel_rfl) (by kernel_rfl) (fun _ _ _ h => h) (Or.inl ⟨by rfl, ?_⟩) (by assumption) ?_
 rotate_left 1
 focus
  intro w' hSw
  try simp only [List.getElem_toArray, List.getElem_cons_succ, List.getElem_cons_zero]
  go_simp
  try with_reducible rfl
 try simp only [Act.put, List.getElem_toArray, List.getElem_cons_succ, List.getElem_cons_zero, List.setIfInBounds_toArray, List.set_cons_zero, List.set_cons_succ]
 refine wpAnyH_take (i := 4) (oi := _) (v := ?_) rfl (by kernel_rfl) (by kernel_rfl) (by kernel_rfl) (fun _ _ _ h => h) (Or.inl ⟨by rfl, ?_⟩) (by assumption) ?_
 rotate_left 1
 focus
  intro w' hSw
  try simp only [List.getElem_toArray, List.getElem_cons_succ, List.getElem_cons_zero]
  go_simp
  try with_reducible rfl
 try simp only [Act.put, List.getElem_toArray, List.getElem_cons_succ, List.getElem_cons_zero, List.setIfInBounds_toArray, List.set_cons_zero, List.set_cons_succ]
 refine wpAnyH_take (i := 5) (oi := _) (v := ?_) rfl (by kernel_rfl) (by kernel_rfl) (by kernel_rfl) (fun _ _ _ h => h) (Or.inl ⟨by rfl, ?_⟩) (by assumption) ?_
 rotate_left 1
 focus
  intro w' hSw
  try simp only [List.getElem_toArray, List.getElem_cons_succ, List.getElem_cons_zero]
  go_simp
  try with_reducible rfl
 try simp only [Act.put, List.getElem_toArray, List.getElem_cons_succ, List.getElem_cons_zero, List.setIfInBounds_toArray, List.set_cons_zero, List.set_cons_succ]
 refine wpAnyH_take (i := 6) (oi := _) (v := undef) rfl (by kernel_rfl) (by kernel_rfl) (by kernel_rfl) (fun _ _ _ h => h) (Or.inr ⟨by rfl, rfl⟩) (by assumption) ?_
 try simp only [Act.put, List.getElem_toArray, List.getElem_cons_succ, List.getElem_cons_zero, List.setIfInBounds_toArray, List.set_cons_zero, List.set_cons_succ]
 refine wpAnyH_take (i := 7) (oi := _) (v := undef) rfl (by kernel_rfl) (by kernel_rfl) (by kernel_rfl) (fun _ _ _ h => h) (Or.inr ⟨by rfl, rfl⟩) (by assumption) ?_
 try simp only [Act.put, List.getElem_toArray, List.getElem_cons_succ, List.getElem_cons_zero, List.setIfInBounds_toArray, List.set_cons_zero, List.set_cons_succ]
 refine wpAnyH_take (i := 8) (oi := _) (v := ?_) rfl (by kernel_rfl) (by kernel_rfl) (by kernel_rfl) (fun _ _ _ h => h) (Or.inl ⟨by rfl, ?_⟩) (by assumption) ?_
 rotate_left 1
 focus
  intro w' hSw
  try simp only [List.getElem_toArray, List.getElem_cons_succ, List.getElem_cons_zero]
  go_simp
  try with_reducible rfl
 try simp only [Act.put, List.getElem_toArray, List.getElem_cons_succ, List.getElem_cons_zero, List.setIfInBounds_toArray, List.set_cons_zero, List.set_cons_succ]
 refine wpAnyH_take (i := 9) (oi := _) (v := ?_) rfl (by kernel_rfl) (by kernel_rfl) (by kernel_rfl) (fun _ _ _ h => h) (Or.inl ⟨by rfl, ?_⟩) (by assumption) ?_
 rotate_left 1
 focus
  intro w' hSw
  try simp only [List.getElem_toArray, List.getElem_cons_succ, List.getElem_cons_zero]
  go_simp
  try with_reducible rfl
 try simp only [Act.put, List.getElem_toArray, List.getElem_cons_succ, List.getElem_cons_zero, List.setIfInBounds_toArray, List.set_cons_zero, List.set_cons_succ]
 refine wpAnyH_take (i := 10) (oi := _) (v := ?_) rfl (by kernel_rfl) (by kernel_rfl) (by kernel_rfl) (fun _ _ _ h => h) (Or.inl ⟨by rfl, ?_⟩) (by assumption) ?_
 rotate_left 1
 focus
  intro w' hSw
  try simp only [List.getElem_toArray, List.getElem_cons_succ, List.getElem_cons_zero]
  go_simp
  try with_reducible rfl
 try simp only [Act.put, List.getElem_toArray, List.getElem_cons_succ, List.getElem_cons_zero, List.setIfInBounds_toArray, List.set_cons_zero, List.set_cons_succ]
 refine wpAnyH_take (i := 11) (oi := _) (v := ?_) rfl (by kernel_rfl) (by kernel_rfl) (by kernel_rfl) (fun _ _ _ h => h) (Or.inl ⟨by rfl, ?_⟩) (by assumption) ?_
 rotate_left 1
 focus
  intro w' hSw
  try simp only [List.getElem_toArray, List.getElem_cons_succ, List.getElem_cons_zero]
  go_simp
  try with_reducible rfl
 try simp only [Act.put, List.getElem_toArray, List.getElem_cons_succ, List.getElem_cons_zero, List.setIfInBounds_toArray, List.set_cons_zero, List.set_cons_succ]
 refine wpAnyH_take (i := 12) (oi := _) (v := ?_) rfl (by kernel_rfl) (by kernel_rfl) (by kernel_rfl) (fun _ _ _ h => h) (Or.inl ⟨by rfl, ?_⟩) (by assumption) ?_
 rotate_left 1
 focus
  intro w' hSw
  try simp only [List.getElem_toArray, List.getElem_cons_succ, List.getElem_cons_zero]
  go_simp
  try with_reducible rfl
 try simp only [Act.put, List.getElem_toArray, List.getElem_cons_succ, List.getElem_cons_zero, List.setIfInBounds_toArray, List.set_cons_zero, List.set_cons_succ]
 refine wpAnyH_take (i := 13) (oi := _) (v := ?_) rfl (by kernel_rfl) (by kernel_rfl) (by kernel_rfl) (fun _ _ _ h => h) (Or.inl ⟨by rfl, ?_⟩) (by assumption) ?_
 rotate_left 1
 focus
  intro w' hSw
  try simp only [List.getElem_toArray, List.getElem_cons_succ, List.getElem_cons_zero]
  go_simp
  try with_reducible rfl
 try simp only [Act.put, List.getElem_toArray, List.getElem_cons_succ, List.getElem_cons_zero, List.setIfInBounds_toArray, List.set_cons_zero, List.set_cons_succ]
 refine wpAnyH_take (i := 14) (oi := _) (v := ?_) rfl (by kernel_rfl) (by kernel_rfl) (by kernel_rfl) (fun _ _ _ h => h) (Or.inl ⟨by rfl, ?_⟩) (by assumption) ?_
 rotate_left 1
 focus
  intro w' hSw
  try simp only [List.getElem_toArray, List.getElem_cons_succ, List.getElem_cons_zero]
  go_simp
  try with_reducible rfl
 try simp only [Act.put, List.getElem_toArray, List.getElem_cons_succ, List.getElem_cons_zero, List.setIfInBounds_toArray, List.set_cons_zero, List.set_cons_succ]
 refine wpAnyH_take (i := 15) (oi := _) (v := ?_) rfl (by kernel_rfl) (by kernel_rfl) (by kernel_rfl) (fun _ _ _ h => h) (Or.inl ⟨by rfl, ?_⟩) (by assumption) ?_
 rotate_left 1
 focus
  intro w' hSw
  try simp only [List.getElem_toArray, List.getElem_cons_succ, List.getElem_cons_zero]
  go_simp
  try with_reducible rfl
 try simp only [Act.put, List.getElem_toArray, List.getElem_cons_succ, List.getElem_cons_zero, List.setIfInBounds_toArray, List.set_cons_zero, List.set_cons_succ]
 refine wpAnyH_take (i := 16) (oi := _) (v := ?_) rfl (by kernel_rfl) (by kernel_rfl) (by kernel_rfl) (fun _ _ _ h => h) (Or.inl ⟨by rfl, ?_⟩) (by assumption) ?_
 rotate_left 1
 focus
  intro w' hSw
  try simp only [List.getElem_toArray, List.getElem_cons_succ, List.getElem_cons_zero]
  go_simp
  try with_reducible rfl
 try simp only [Act.put, List.getElem_toArray, List.getElem_cons_succ, List.getElem_cons_zero, List.setIfInBounds_toArray, List.set_cons_zero, List.set_cons_succ]
 refine wpAnyH_ready (rs := [17]) (by kernel_rfl) (by simp) ?_
 refine AllReadyH.cons (o := _) rfl (fun K hK => ?_) AllReadyH.nil
 refine step_calleeP (by rfl) 207 Tryz.func207 (by rfl) (by rfl) [.tmp 27, .tmp 31, .tmp 35] _ (by rfl) [.bool false, .agg #[.int .u64 0, .int .u64 (p : Int)], .agg #[.int .u64 0, .int .u64 (r : Int)]] (by rfl) (hwi _) ?_
 rintro e w7 ⟨rfl, b7⟩
 refine ⟨_, rfl, ?_⟩
 have b7' : Below W.heap.size W w7 := bk.drew.trans b7
 obtain ⟨⟨s0, s1⟩, ⟨y0, y1⟩, r7⟩ := fr0_at b7' rW
 refine hK.out _ _ trivial (fun hHeld2 => ?_)
 clear hHeld
 clear hK K
 try simp only [Act.put, List.getElem_toArray, List.getElem_cons_succ, List.getElem_cons_zero, List.setIfInBounds_toArray, List.set_cons_zero, List.set_cons_succ]
 refine wpAnyH_take (i := 18) (oi := _) (v := ?_) rfl (by kernel_rfl) (by kernel_rfl) (by kernel_rfl) (fun _ _ _ h => h) (Or.inl ⟨by rfl, ?_⟩) (by assumption) ?_
 rotate_left 1
 focus
  intro w' hSw
  try simp only [List.getElem_toArray, List.getElem_cons_succ, List.getElem_cons_zero]
  go_simp
  try with_reducible rfl
 try simp only [Act.put, List.getElem_toArray, List.getElem_cons_succ, List.getElem_cons_zero, List.setIfInBounds_toArray, List.set_cons_zero, List.set_cons_succ]
 refine wpAnyH_take (i := 19) (oi := _) (v := ?_) rfl (by kernel_rfl) (by kernel_rfl) (by kernel_rfl) (fun _ _ _ h => h) (Or.inl ⟨by rfl, ?_⟩) (by assumption) ?_
 rotate_left 1
 focus
  intro w' hSw
  try simp only [List.getElem_toArray, List.getElem_cons_succ, List.getElem_cons_zero]
  go_simp
  try with_reducible rfl
 try simp only [Act.put, List.getElem_toArray, List.getElem_cons_succ, List.getElem_cons_zero, List.setIfInBounds_toArray, List.set_cons_zero, List.set_cons_succ]
 refine wpAnyH_ready (rs := [20]) (by kernel_rfl) (by simp) ?_
 refine AllReadyH.cons (o := _) rfl (fun K hK => ?_) AllReadyH.nil
 try simp only [List.getElem_toArray, List.getElem_cons_succ, List.getElem_cons_zero]
 go_simp
 refine hK.out _ _ trivial (fun hHeld => ?_)
 clear hHeld2
 clear hK K
 try simp only [Act.put, List.getElem_toArray, List.getElem_cons_succ, List.getElem_cons_zero, List.setIfInBounds_toArray, List.set_cons_zero, List.set_cons_succ]
 refine wpAnyH_take (i := 21) (oi := _) (v := ?_) rfl (by kernel_rfl) (by kernel_rfl) (by kernel_rfl) (fun _ _ _ h => h) (Or.inl ⟨by rfl, ?_⟩) (by assumption) ?_
 rotate_left 1
 focus
  intro w' hSw
  try simp only [List.getElem_toArray, List.getElem_cons_succ, List.getElem_cons_zero]
  go_simp
  try with_reducible rfl
 try simp only [Act.put, List.getElem_toArray, List.getElem_cons_succ, List.getElem_cons_zero, List.setIfInBounds_toArray, List.set_cons_zero, List.set_cons_succ]
 refine wpAnyH_done (by kernel_rfl) ?_ _
 go_wp2_with fail
 exact bodyPost_ret (v := .tuple #[.agg #[.int .i64 (p : Int), .int .i64 (r : Int)], .int .i64 0]) (by simp [results, Tryz.f141, go_sem, s0, s1]) rfl ⟨rfl, ((bW.trans (b7'.mono bW.size)).setCell (p := ⟨w.heap.size, 0, none⟩) (lRf) (.int .i64 (p : Int))).setCell (p := ⟨w.heap.size, 1, none⟩) (lRf) (.int .i64 (r : Int))⟩
theorem base_ok {A : Option Addr} {n c : Nat} {Y : List Int} {w : World} (h : Rd w w.heap.size 1 A n (ints Y)) (hY : ∀ y ∈ Y, 0 <= y /\ y <= 1000000) (hn : n <= 200) :
  Calls Tryz.prog 78 #[.slice A n c] w fun e w' => ∃ p q : Nat, e = .returned (.tuple #[.agg #[.int .i64 (p : Int), .int .i64 (q : Int)], .int .i64 0]) /\ p <= 1000000000 /\ 1 <= q /\ q <= 1000 /\ Nat.gcd p q = 1 /\ Below w.heap.size w w' := by
 obtain ⟨W, hW, bW, rW⟩ := box_new w fr0
 have hl := h.len1
 have HR := hID (h.below bW)
 have HY := hID hY
 obtain ⟨⟨s0, s1⟩, ⟨y0, y1⟩, _⟩ := fr0_at (Below.refl _ W) rW
 have d1 : decide ((200 : Int) < (n : Int)) = false := decide_eq_false (by omega)
 dsimp only [fr0] at hW
 clear h hY
 go_enter Tryz.func78, Tryz.ntmps78
 go_upto_region 1 with (fail)
 clear hW
 go_wp2_with fail
 go_loop [4, 13] (fun s i => ∃ (k S : Nat), k <= n /\ s = .int .i64 (S : Int) /\ i = .int .i64 (k : Int) /\ S <= 1000000 * k) (fun _ i => n - (intOf i).toNat)
 case atStart => exact ⟨0, 0, by omega, rfl, rfl, by omega⟩
 case round =>
  obtain ⟨k, S, hk, rfl, rfl, hS⟩ := hrel
  by_cases hlt : k < n
  ·obtain ⟨y, hy⟩ : ∃ y, Y[k]? = some y := ⟨_, List.getElem?_eq_getElem (by omega)⟩
   obtain ⟨_, g, o, hA, hg, hc⟩ := HR.out.int hy
   have hyy := HY.out y (List.mem_of_getElem? hy)
   obtain ⟨z, hz⟩ : ∃ z : Nat, y = (z : Int) := ⟨y.toNat, by omega⟩
   subst hA hz
   have e1 : decide ((z : Int) < 0) = false := decide_eq_false (by omega)
   have e2 : decide ((1000000000000 : Int) < (z : Int)) = false := decide_eq_false (by omega)
   clear hy
   go_wp2_with fail
   go_round
   case rel => exact ⟨k + 1, S + z, by omega, by go_num, by go_num, by omega⟩
   case measure => simp [intOf]; omega
  ·obtain rfl : k = n := by omega
   by_cases h0 : k = 0
   ·subst h0
    obtain rfl : S = 0 := by omega
    go_wp2_with fail
    exact bodyPost_ret (v := .tuple #[.agg #[.int .i64 0, .int .i64 1], .int .i64 0]) (by simp [results, Tryz.f78, go_sem, s0, s1]) rfl ⟨0, 1, rfl, by omega, by omega, by omega, rfl, (bW.setCell (p := ⟨w.heap.size, 0, none⟩) (lRf) (.int .i64 0)).setCell (p := ⟨w.heap.size, 1, none⟩) (lRf) (.int .i64 1)⟩
   ·have e0 : ((k : Int) == 0) = false := beq_eq_false_iff_ne.2 (by omega)
    have hmk := fun u => make_ok S k (by omega) (by omega) hn u
    have hg : 0 < Nat.gcd S k := Nat.gcd_pos_of_pos_right _ (by omega)
    have hp : S / Nat.gcd S k <= S := Nat.div_le_self _ _
    have hq : k / Nat.gcd S k <= k := Nat.div_le_self _ _
    have hq1 : 1 <= k / Nat.gcd S k := Nat.div_pos (Nat.le_of_dvd (by omega) (Nat.gcd_dvd_right S k)) hg
    have hc : Nat.gcd (S / Nat.gcd S k) (k / Nat.gcd S k) = 1 := by rw [Nat.gcd_div (Nat.gcd_dvd_left S k) (Nat.gcd_dvd_right S k), Nat.div_self hg]
    have HC := hID hc
    clear hc hg
    generalize S / Nat.gcd S k = p at *
    generalize k / Nat.gcd S k = q at *
    go_wp2_with fail
    refine (hmk _).mono ?_
    rintro e w1 ⟨rfl, b1⟩
    clear s0 s1 y0 y1
    obtain ⟨⟨s0, s1⟩, ⟨y0, y1⟩, _⟩ := fr0_at b1 rW
    go_wp2_with fail
    exact bodyPost_ret (v := .tuple #[.agg #[.int .i64 (p : Int), .int .i64 (q : Int)], .int .i64 0]) (by simp [results, Tryz.f78, go_sem, s0, s1]) rfl ⟨p, q, rfl, by omega, by omega, by omega, HC.out, ((bW.trans (b1.mono bW.size)).setCell (p := ⟨w.heap.size, 0, none⟩) (lRf) (.int .i64 (p : Int))).setCell (p := ⟨w.heap.size, 1, none⟩) (lRf) (.int .i64 (q : Int))⟩
end
end Go.Proofs.YtnlopdmhdiegnaaGreatDoor
