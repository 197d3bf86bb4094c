/- Lemmas (no conditions): SpChain, Fke, Std, Day, SpDays, OvL -/
import Derived.Test.YtnlopdmhdiegnaaGreatDoorPk12
import Derived.Test.YtnlopdmhdiegnaaGreatDoorPk17
import Derived.Test.YtnlopdmhdiegnaaGreatDoorPk20
set_option linter.unusedSimpArgs false
set_option linter.unusedVariables false
set_option maxRecDepth 100000
set_option maxHeartbeats 64000000
namespace Go.Proofs.YtnlopdmhdiegnaaGreatDoor
open Go.RowKit
section
theorem RetNf.open {w w' : World} {S : Int -> Bool} {e : Ending} {b : Nat} (h : RetNf w S e w') (hb : (nf S).length <= b) :
  ∃ m k A c, Hid (m = nf S) /\ e = .returned (.slice A k c) /\ k <= b /\ Ds w' A k m /\ Below w.heap.size w w' := by
 obtain ⟨A, c, rfl, hown, hbw⟩ := h
 exact ⟨nf S, (nf S).length, A, c, rfl, rfl, hb, Ds.ofOwn hown rfl, hbw⟩
theorem Ds.len {w : World} {A : Option Addr} {n : Nat} {l : List Sp} (h : Ds w A n l) : l.length = n := h.2
theorem lenL_nf_bd (S : Int -> Bool) : 0 <= lenL (nf S) /\ lenL (nf S) <= 73050 := by
 have h1 := lenL_nn (nf_norm S)
 have h2 := lenL_bd (nf_norm S) (by omega)
 omega
theorem dset_off {l : List Sp} {x : Int} (h : isD x = false) : dset l x = false := by rw [dset, h]; rfl
theorem dset_all {x : Int} (h : isD x = true) : dset [⟨0, 73049⟩] x = true := by
 rw [dset, h, Bool.true_and, cov_cons, cov_nil, Bool.or_false]
 exact (inS_iff _ _).2 ((isD_iff x).1 h)
end
section
theorem fc_kind {L : List Fc} (h : WkL L) {j : Nat} {x : Fc} (hx : L[j]? = some x) : Vld x /\ x.g = false /\ x.k = 1 := h x (List.mem_of_getElem? hx)
theorem spans_no {A : Option Addr} {n c : Nat} {L : List Fc} {w : World} (kd st : Int) (hkd : kd ≠ 1) (hL : Rd w w.heap.size 14 A n (flat Fc.cells L)) (hl : L.length = n) (hv : WkL L) (hn : n <= 900) :
  Calls Tryz.prog 182 #[.slice A n c, .int .i64 kd, .int .i64 st] w (RetNf w fun _ => false) := by
 have hlf := fun (u : World) (hu : Rd u u.heap.size 14 A n (flat Fc.cells L)) => life_any (c := c) hu hl hv hn
 have HLF := Lib.hid hlf
 have HL := Lib.hid hl
 have HV := Lib.hid hv
 clear hl hv hlf
 go_enter Tryz.func182, Tryz.ntmps182
 go_wp2_with fail
 go_loopw [7, 12] (fun v i wr => ∃ (j : Nat), j <= n /\ i = .int .i64 (j : Int) /\ v = .slice none 0 0 /\ Below w.heap.size w wr) (fun _ i _ => n - (intOf i).toNat)
 case atStart => exact ⟨0, by omega, rfl, rfl, Below.refl _ _⟩
 case round =>
  obtain ⟨j, hk, rfl, rfl, hb⟩ := hrel
  have hwsz := hb.size
  by_cases hlt : j < n
  ·have hkl : j < L.length := by rw [HL.out]; exact hlt
   obtain ⟨x, hx⟩ : ∃ x, L[j]? = some x := ⟨_, List.getElem?_eq_getElem hkl⟩
   have HVX := Lib.hid (fc_kind HV.out hx)
   obtain ⟨_, g, o2, rfl, hgb, f0⟩ := fc_cells (hL.below hb) hx
   obtain ⟨p0, p1, p2, p3, p4, p5, p6, p7, p8, p9, p10, p11, p12, p13⟩ := f0
   have hlo : (0 : Int) <= (j : Int) := by omega
   have hhi : (j : Int) < (n : Int) := by omega
   clear hx hkl
   go_upto_region 5 with (fail)
   obtain ⟨W, hW, fx, hzW, hbA, _⟩ := fact_box wr x
   rw [<- hW] at ⊢
   clear hW
   have hbw := hb.trans (hbA.mono hwsz)
   have hzw := hbw.size
   obtain ⟨t0, t1, t2, t3, t4, t5, t6, t7, t8, t9, t10, t11, t12, t13⟩ := fx.of0
   clear p0 p1 p2 p3 p4 p5 p6 p7 p8 p9 p10 p11 p12 p13 hb
   go_wp2_with fail
   refine (cur_any HVX.out.1 _).mono ?_
   rintro e w1 ⟨rfl, hb1⟩
   have fx1 := fx.to hb1 (by omega)
   have hbw1 := hbw.trans (hb1.mono hzw)
   clear t0 t1 t2 t3 t4 t5 t6 t7 t8 t9 t10 t11 t12 t13 fx hb1 hbw
   obtain ⟨t0, t1, t2, t3, t4, t5, t6, t7, t8, t9, t10, t11, t12, t13⟩ := fx1.of0
   rw [HVX.out.2.1]
   rw [HVX.out.2.2] at t5
   have hkd2 : ¬ (1 = kd) := fun e => hkd e.symm
   go_wp2_with fail
   go_roundw
   case rel => exact ⟨j + 1, by omega, by go_num, rfl, hbw1⟩
   case measure => simp [intOf]; omega
  ·go_wp2_with fail
   refine (HLF.out _ ((hL.below hb).mono hwsz)).mono ?_
   rintro e w2 ⟨rfl, hb2⟩
   go_wp2_with fail
   refine (clip_any (l := []) (A := none) (n := 0) (c := 0) 0 73049 ⟨Rd.zero _ _ _ _, rfl⟩ (by omega)).mono ?_
   rintro e w3 ⟨A3, c3, rfl, ho3, hb3⟩
   have hS : (fun x => dset [] x && dset [⟨0, 73049⟩] x) = fun _ => false := by
    funext x
    simp [dset, cov]
   rw [hS] at ho3 ⊢
   go_wp2_with fail
   go_ret
   have hbb := hb.trans (hb2.mono hwsz)
   exact ⟨A3, c3, rfl, ownsRow_base ho3 hbb.size, hbb.trans (hb3.mono hbb.size)⟩
theorem children_no {A : Option Addr} {n c : Nat} {L : List Fc} {w : World} (d : Int) (hL : Rd w w.heap.size 14 A n (flat Fc.cells L)) (hl : L.length = n) (hv : WkL L) (hn : n <= 900) :
  Calls Tryz.prog 71 #[.slice A n c, .int .i64 d] w fun e w' => e = .returned (.slice none 0 0) /\ Below w.heap.size w w' := by
 have HL := Lib.hid hl
 have HV := Lib.hid hv
 clear hl hv
 go_enter Tryz.func71, Tryz.ntmps71
 go_wp2_with fail
 go_loopw [5, 10] (fun v i wr => ∃ (j : Nat), j <= n /\ i = .int .i64 (j : Int) /\ v = .slice none 0 0 /\ Below w.heap.size w wr) (fun _ i _ => n - (intOf i).toNat)
 case atStart => exact ⟨0, by omega, rfl, rfl, Below.refl _ _⟩
 case round =>
  obtain ⟨j, hk, rfl, rfl, hb⟩ := hrel
  have hwsz := hb.size
  by_cases hlt : j < n
  ·have hkl : j < L.length := by rw [HL.out]; exact hlt
   obtain ⟨x, hx⟩ : ∃ x, L[j]? = some x := ⟨_, List.getElem?_eq_getElem hkl⟩
   have HVX := Lib.hid (fc_kind HV.out hx)
   obtain ⟨_, g, o2, rfl, hgb, f0⟩ := fc_cells (hL.below hb) hx
   obtain ⟨p0, p1, p2, p3, p4, p5, p6, p7, p8, p9, p10, p11, p12, p13⟩ := f0
   have hlo : (0 : Int) <= (j : Int) := by omega
   have hhi : (j : Int) < (n : Int) := by omega
   clear hx hkl
   go_upto_region 5 with (fail)
   obtain ⟨W, hW, fx, hzW, hbA, _⟩ := fact_box wr x
   rw [<- hW] at ⊢
   clear hW
   have hbw := hb.trans (hbA.mono hwsz)
   have hzw := hbw.size
   obtain ⟨t0, t1, t2, t3, t4, t5, t6, t7, t8, t9, t10, t11, t12, t13⟩ := fx.of0
   clear p0 p1 p2 p3 p4 p5 p6 p7 p8 p9 p10 p11 p12 p13 hb
   go_wp2_with fail
   refine (cur_any HVX.out.1 _).mono ?_
   rintro e w1 ⟨rfl, hb1⟩
   have fx1 := fx.to hb1 (by omega)
   have hbw1 := hbw.trans (hb1.mono hzw)
   clear t0 t1 t2 t3 t4 t5 t6 t7 t8 t9 t10 t11 t12 t13 fx hb1 hbw
   obtain ⟨t0, t1, t2, t3, t4, t5, t6, t7, t8, t9, t10, t11, t12, t13⟩ := fx1.of0
   rw [HVX.out.2.1]
   rw [HVX.out.2.2] at t5
   go_wp2_with fail
   go_roundw
   case rel => exact ⟨j + 1, by omega, by go_num, rfl, hbw1⟩
   case measure => simp [intOf]; omega
  ·go_wp2_with fail
   refine (Tryz.slices_Sort_int_none none 0 _).mono ?_
   rintro e w2 ⟨rfl, rfl⟩
   go_wp2_with fail
   refine (Tryz.slices_Compact_int_empty none 0 _).mono ?_
   rintro e w3 ⟨rfl, rfl⟩
   go_wp2_with fail
   go_ret
   exact ⟨rfl, hb⟩
end
section
structure St where
 b : Nat
 c : Nat
def St.agg (nm : By) (x : St) : Value := .agg #[.string (bs nm), .int .i64 1, .slice (some ⟨x.b, 0, none⟩) 1 x.c]
structure StR (w : World) (hi : Nat) (D : Sd) (x : St) : Prop where
 c1 : 1 <= x.c
 ex : ∃ v : Vs, Rz w hi x.b v.cells /\ VerR w hi D v
theorem StR.below {w w' : World} {hi : Nat} {D : Sd} {x : St} (h : StR w hi D x) (hb : Below hi w w') : StR w' hi D x := by
 obtain ⟨v, h1, h2⟩ := h.ex
 exact ⟨h.c1, v, h1.below hb, h2.below hb⟩
theorem StR.mono {w : World} {hi hi' : Nat} {D : Sd} {x : St} (h : StR w hi D x) (hh : hi <= hi') : StR w hi' D x := by
 obtain ⟨v, h1, h2⟩ := h.ex
 exact ⟨h.c1, v, h1.mono hh, h2.mono hh⟩
abbrev stBox (nm : By) (x : St) : Obj := .cells #[.string (bs nm), .int .i64 1, .slice (some ⟨x.b, 0, none⟩) 1 x.c] 52
theorem st_new (w : World) (nm : By) (x : St) : ∃ W, w.alloc (stBox nm x) = W /\ Below w.heap.size w W /\ W.heap[w.heap.size]? = some (stBox nm x) :=
 ⟨_, rfl, (Below.refl _ _).alloc (Nat.le_refl _) _, heap_alloc_new w _⟩
theorem stbox {W : World} {g : Nat} {nm : By} {x : St} (hr : W.heap[g]? = some (stBox nm x)) : W.cell? ⟨g, 0, none⟩ = some (.string (bs nm)) /\ W.cell? ⟨g, 1, none⟩ = some (.int .i64 1) /\ W.cell? ⟨g, 2, none⟩ = some (.slice (some ⟨x.b, 0, none⟩) 1 x.c) := by
 refine ⟨?_, ?_, ?_⟩ <;> rw [cell_of_row _ _ _ _ _ _ hr] <;> rfl
theorem rz_ver {w : World} {hi g : Nat} {x : Vs} (h : Rz w hi g x.cells) : w.cell? ⟨g, 0, none⟩ = some (.int .i64 0) /\ w.cell? ⟨g, 1, none⟩ = some (.int .i64 1) /\ w.cell? ⟨g, 2, none⟩ = some (.int .i64 1) /\ w.cell? ⟨g, 3, none⟩ = some (.slice x.cA x.cn x.cc) /\ w.cell? ⟨g, 4, none⟩ = some (.slice none 0 0) /\ w.cell? ⟨g, 5, none⟩ = some (.slice none 0 0) /\ w.cell? ⟨g, 6, none⟩ = some (.slice x.gA 1 x.gc) /\ w.cell? ⟨g, 7, none⟩ = some (.slice none 0 0) :=
 ⟨h.2 0 _ rfl, h.2 1 _ rfl, h.2 2 _ rfl, h.2 3 _ rfl, h.2 4 _ rfl, h.2 5 _ rfl, h.2 6 _ rfl, h.2 7 _ rfl⟩
end
section
def wantP (st : Int) (rk : List Int) (p : Pr) : Bool := (decide (st < 0) || p.s == st) && decide (p.r ∈ rk)
def dsL (K : List Pr) (st : Int) (rk : List Int) : List Sp := (K.filter (wantP st rk)).map Pr.sp
theorem dsL_take {K : List Pr} {k : Nat} {x : Pr} (hx : K[k]? = some x) (st : Int) (rk : List Int) : dsL (K.take (k + 1)) st rk = dsL (K.take k) st rk ++ if wantP st rk x then [x.sp] else [] := by
 unfold dsL
 rw [List.take_add_one, hx, List.filter_append, List.map_append]
 show _ ++ List.map Pr.sp (List.filter (wantP st rk) [x]) = _
 cases h : wantP st rk x <;> simp [h]
theorem dsL_length (K : List Pr) (st : Int) (rk : List Int) : (dsL K st rk).length <= K.length := by
 unfold dsL
 rw [List.length_map]
 exact List.length_filter_le _ _
theorem dsL_iff (K : List Pr) (st : Int) (rk : List Int) (x : Int) : dset (dsL K st rk) x = true ↔ isD x = true /\ ∃ p ∈ K, (st < 0 ∨ p.s = st) /\ p.r ∈ rk /\ p.f <= x /\ x < p.t := by
 unfold dset
 rw [Bool.and_eq_true, cov_iff]
 constructor
 ·rintro ⟨h1, s, hs, h2, h3⟩
  obtain ⟨p, hp, rfl⟩ := List.mem_map.1 hs
  obtain ⟨hk, hw⟩ := List.mem_filter.1 hp
  unfold wantP at hw
  simp at hw
  exact ⟨h1, p, hk, hw.1, hw.2, h2, h3⟩
 ·rintro ⟨h1, p, hp, h2, h3, h4, h5⟩
  refine ⟨h1, p.sp, List.mem_map.2 ⟨p, List.mem_filter.2 ⟨hp, ?_⟩, rfl⟩, h4, h5⟩
  unfold wantP
  simp [h2, h3]
def Ctd (ws : List Sp) (K : List Pr) : Prop := K.length <= 100 /\ ∀ s r x : Int, Dd K s r x = Dd (clm 0 ws) s r x
theorem ctd_mem {ws : List Sp} {K : List Pr} (h : Ctd ws K) {p : Pr} (hp : p ∈ K) {x : Int} (hx : isD x = true) (h1 : p.f <= x) (h2 : x < p.t) : ∃ (k : Nat) (q : Sp), ws[k]? = some q /\ p.s = (k : Int) /\ (p.r = 0 ∨ p.r = 1) /\ q.f <= x /\ x < q.t := by
 have := h.2 p.s p.r x
 have hd : Dd K p.s p.r x = true := (dd_iff K p.s p.r x).2 ⟨(isD_iff x).1 hx, p, hp, rfl, .inr rfl, h1, h2⟩
 rw [hd] at this
 obtain ⟨_, k, q, hk, h3, h4, h5, h6⟩ := (dd_clm ws 0 p.s p.r x).1 this.symm
 exact ⟨k, q, hk, by simpa using h3, h4, h5, h6⟩
theorem ctd_of {ws : List Sp} {K : List Pr} (h : Ctd ws K) {k : Nat} {q : Sp} (hk : ws[k]? = some q) {x : Int} (hx : isD x = true) (h1 : q.f <= x) (h2 : x < q.t) : ∃ p ∈ K, p.s = (k : Int) /\ p.r = 1 /\ p.f <= x /\ x < p.t := by
 have := h.2 k 1 x
 rw [(dd_clm ws 0 k 1 x).2 ⟨(isD_iff x).1 hx, k, q, hk, by simp, .inr rfl, h1, h2⟩] at this
 obtain ⟨_, p, hp, h3, h4, h5, h6⟩ := (dd_iff K k 1 x).1 this
 exact ⟨p, hp, h3, by omega, h5, h6⟩
theorem days_other {ws : List Sp} {K : List Pr} (h : Ctd ws K) {rk : List Int} (h0 : (0 : Int) ∉ rk) (h1 : (1 : Int) ∉ rk) (st : Int) : lenL (nf (dset (dsL K st rk))) = 0 :=
 days_none fun x hx => by
  cases hd : dset (dsL K st rk) x with
  | false => rfl
  | true =>
   obtain ⟨_, p, hp, _, h3, h4, h5⟩ := (dsL_iff K st rk x).1 hd
   obtain ⟨k, q, _, _, hr, _, _⟩ := ctd_mem h hp hx h4 h5
   rcases hr with e | e
   ·rw [e] at h3; exact absurd h3 h0
   ·rw [e] at h3; exact absurd h3 h1
theorem days_own {ws : List Sp} {K : List Pr} {lo : Int} (h : Ctd ws K) (h0 : 0 <= lo) (hw : WOk lo ws) (i : Nat) : lenL (nf (dset (dsL K (i : Int) [1]))) = dW ws i := by
 have key : ∀ x, isD x = true -> (dset (dsL K (i : Int) [1]) x = true ↔ ∃ q, ws[i]? = some q /\ q.f <= x /\ x < q.t) := fun x hx => by
  rw [dsL_iff]
  constructor
  ·rintro ⟨_, p, hp, h2, h3, h4, h5⟩
   obtain ⟨k, q, hk, hs, _, h6, h7⟩ := ctd_mem h hp hx h4 h5
   have : k = i := by omega
   subst this
   exact ⟨q, hk, h6, h7⟩
  ·rintro ⟨q, hq, h2, h3⟩
   obtain ⟨p, hp, h4, h5, h6, h7⟩ := ctd_of h hq hx h2 h3
   exact ⟨hx, p, hp, .inr h4, by simp [h5], h6, h7⟩
 unfold dW
 cases hi : ws[i]? with
 | none =>
  refine days_none fun x hx => ?_
  cases hd : dset (dsL K (i : Int) [1]) x with
  | false => rfl
  | true =>
   obtain ⟨q, hq, _⟩ := (key x hx).1 hd
   rw [hi] at hq
   cases hq
 | some p =>
  obtain ⟨b1, b2, b3⟩ := wok_at hw hi
  refine days_one (s := p) (by omega) b2 b3 fun x hx => ?_
  rw [Bool.eq_iff_iff, key x hx, inS_iff]
  constructor
  ·rintro ⟨q, hq, h2, h3⟩
   rw [hi] at hq
   obtain rfl := Option.some.inj hq
   exact ⟨h2, h3⟩
  ·intro h2
   exact ⟨p, hi, h2⟩
theorem days_every {ws : List Sp} {K : List Pr} {lo : Int} (h : Ctd ws K) (h0 : 0 <= lo) (hw : WOk lo ws) : lenL (nf (dset (dsL K (-1) [1]))) = sumW ws := by
 refine days_all h0 hw fun x hx => ?_
 rw [Bool.eq_iff_iff, dsL_iff, dd_cov hx]
 constructor
 ·rintro ⟨_, p, hp, _, _, h4, h5⟩
  obtain ⟨k, q, hk, _, _, h6, h7⟩ := ctd_mem h hp hx h4 h5
  exact ⟨k, q, hk, h6, h7⟩
 ·rintro ⟨k, q, hk, h2, h3⟩
  obtain ⟨p, hp, _, h5, h6, h7⟩ := ctd_of h hk hx h2 h3
  exact ⟨hx, p, hp, .inl (by omega), by simp [h5], h6, h7⟩
theorem ctd_nf {ws : List Sp} {K : List Pr} {lo : Int} (h : Ctd ws K) (h0 : 0 <= lo) (hw : WOk lo ws) (i : Nat) {r : Int} (hr : r = 0 ∨ r = 1) : nf (Dd K (i : Int) r) = (ws[i]?).toList := by
 have key : ∀ x, isD x = true -> (Dd K (i : Int) r x = true ↔ ∃ q, ws[i]? = some q /\ q.f <= x /\ x < q.t) := fun x hx => by
  rw [h.2, dd_clm]
  constructor
  ·rintro ⟨_, k, q, hk, h1, _, h3, h4⟩
   have : k = i := by omega
   subst this
   exact ⟨q, hk, h3, h4⟩
  ·rintro ⟨q, hq, h2, h3⟩
   exact ⟨(isD_iff x).1 hx, i, q, hq, by simp, hr, h2, h3⟩
 cases hi : ws[i]? with
 | none =>
  show nf (Dd K (i : Int) r) = []
  rw [nf_congr (T := fun _ => false) (fun x hx => ?_), nf_empty]
  cases hd : Dd K (i : Int) r x with
  | false => rfl
  | true =>
   obtain ⟨q, hq, _⟩ := (key x hx).1 hd
   rw [hi] at hq
   cases hq
 | some p =>
  obtain ⟨b1, b2, b3⟩ := wok_at hw hi
  refine (nf_unique (m := [p]) (show NormFrom (-1) [p] from ⟨by omega, b2, by omega, trivial⟩) fun x hx => ?_).symm
  rw [cov_cons, cov_nil, Bool.or_false, Bool.eq_iff_iff, key x hx, inS_iff]
  constructor
  ·intro h2
   exact ⟨p, hi, h2⟩
  ·rintro ⟨q, hq, h2, h3⟩
   rw [hi] at hq
   obtain rfl := Option.some.inj hq
   exact ⟨h2, h3⟩
end
section
theorem befF : ∀ (l : List Sp) (d : Int), (∀ s ∈ l, Fit s) -> 0 <= befL l d /\ befL l d <= 73049 * l.length
 | [], _, _ => by simp [befL]
 | s :: r, d, h => by
  have h1 := befF r d fun x hx => h x (by simp [hx])
  obtain ⟨a, b, c⟩ := h s (by simp)
  unfold befL
  simp only [List.length_cons]
  split <;> omega
theorem before_any {A : Option Addr} {n c : Nat} {l : List Sp} {w : World} (d : Int) (h : Ds w A n l) (hn : n <= 1000) (hd : I64 d) :
  Calls Tryz.prog 196 #[.slice A n c, .int .i64 d] w fun e w' => e = .returned (.int .i64 (befL (nf (dset l)) d)) /\ Below w.heap.size w w' := by
 have hnl := nf_length_le h.2
 have hfit := nf_fit (dset l)
 obtain ⟨hd0, hd1⟩ := hd
 go_enter Tryz.func196, Tryz.ntmps196
 go_wp2_with fail
 refine (make_nf h (by omega)).mono ?_
 rintro e w1 ⟨A1, c1, rfl, hown, hb1⟩
 generalize hN : nf (dset l) = N at *
 have HNf := Lib.hid hN
 clear hN
 have hd1 := Ds.ofOwn hown rfl
 have htot := befF N d hfit
 generalize hm : N.length = m at *
 have HM := Lib.hid hm
 have HF := Lib.hid hfit
 have hz1 := hb1.size
 clear hm hfit hown
 go_wp2_with fail
 go_loopw [5, 11] (fun v i wr => ∃ (k : Nat) (r : Int), k <= m /\ i = .int .i64 (k : Int) /\ v = .int .i64 r /\ 0 <= r /\ r + befL (N.drop k) d = befL N d /\ 0 <= befL (N.drop k) d /\ Below w1.heap.size w1 wr) (fun _ i _ => m - (intOf i).toNat)
 case atStart => exact ⟨0, 0, by omega, rfl, rfl, by omega, by simp, htot.1, Below.refl _ _⟩
 case round =>
  obtain ⟨k, r, hk, rfl, rfl, hr0, hd, hdn, hb⟩ := hrel
  have hwsz := hb.size
  by_cases hlt : k < m
  ·have hkl : k < N.length := by rw [HM.out]; exact hlt
   obtain ⟨x, hx⟩ : ∃ x, N[k]? = some x := ⟨_, List.getElem?_eq_getElem hkl⟩
   obtain ⟨_, g, o, rfl, hgb, e0, e1⟩ := sp_cells (hd1.1.below hb) hx
   obtain ⟨f1, f2, f3⟩ := HF.out x (List.mem_of_getElem? hx)
   have hn2 := (befF (N.drop (k + 1)) d fun s hs => HF.out s (List.mem_of_mem_drop hs)).1
   rw [drop_getS hx, befL] at hd
   have hlo : (0 : Int) <= (k : Int) := by omega
   have hhi : (k : Int) < (m : Int) := by omega
   clear hx hdn
   generalize hrest : befL (N.drop (k + 1)) d = rest at *
   generalize htt : befL N d = tot at *
   have HREST := Lib.hid hrest
   have HTOT := Lib.hid htt
   clear hrest htt
   by_cases hc : x.f < d
   ·rw [if_pos hc] at hd
    have hmn : (if d < x.t then d else x.t) = min x.t d := by split <;> omega
    have hm1 : x.f <= min x.t d := by omega
    have hm2 : min x.t d <= 73049 := by omega
    have HD : Hid (r + (min x.t d - x.f) + rest = tot) := by show _ = _; omega
    have hr2 : 0 <= r + (min x.t d - x.f) := by omega
    have hr3 : r + (min x.t d - x.f) <= 9223372036854775807 := by omega
    clear hd
    go_wp2_with fail
    go_roundw
    case rel => exact ⟨k + 1, r + (min x.t d - x.f), by omega, by go_num, rfl, hr2, by rw [HREST.out]; exact HD.out, by rw [HREST.out]; exact hn2, hb.alloc hwsz _⟩
    case measure => simp [intOf]; omega
   ·rw [if_neg hc] at hd
    have HD : Hid (r + rest = tot) := by show _ = _; omega
    clear hd
    go_wp2_with fail
    go_roundw
    case rel => exact ⟨k + 1, r, by omega, by go_num, rfl, hr0, by rw [HREST.out]; exact HD.out, by rw [HREST.out]; exact hn2, hb.alloc hwsz _⟩
    case measure => simp [intOf]; omega
  ·rw [List.drop_eq_nil_of_le (by have := HM.out; omega)] at hd
   have hr : r = befL N d := by simp [befL] at hd; exact hd
   have HR := Lib.hid hr
   clear hd hdn hr
   go_wp2_with fail
   go_ret
   exact ⟨by rw [HNf.out, <- HR.out]; rfl, hb1.trans (hb.mono hz1)⟩
theorem days_any {A : Option Addr} {n c : Nat} {l : List Sp} {w : World} (h : Ds w A n l) (hn : n <= 1000) :
  Calls Tryz.prog 132 #[.slice A n c] w fun e w' => e = .returned (.int .i64 (lenL (nf (dset l)))) /\ Below w.heap.size w w' := by
 have hlen := befL_len2 (nf_norm (dset l))
 have HL := Lib.hid hlen
 clear hlen
 go_enter Tryz.func132, Tryz.ntmps132
 go_wp2_with fail
 refine (before_any 73049 h hn ⟨by omega, by omega⟩).mono ?_
 rintro e w1 ⟨rfl, hb1⟩
 rw [HL.out]
 go_wp2_with fail
 go_ret
 exact ⟨rfl, hb1⟩
end
section
theorem nf_dd (C : List Pr) (s r : Int) : nf (dset (nf (Dd C s r))) = nf (Dd C s r) := nf_congr fun x _ => dd_nf C s r x
theorem nf_ddl (C : List Pr) (s r : Int) : (nf (Dd C s r)).length <= 2 * C.length := by
 have h1 := nf_length_le (l := ofL C s r) rfl
 have h2 := ofL_length C s r
 have e : nf (Dd C s r) = nf (dset (ofL C s r)) := rfl
 rw [e]
 omega
theorem odays_any {A : Option Addr} {n c : Nat} {C : List Pr} {w : World} (s r : Int) (h : Rd w w.heap.size 4 A n (flat Pr.ccells C)) (hn : C.length = n) (hn2 : n <= 500) :
  Calls Tryz.prog 80 #[.slice A n c, .int .i64 s, .int .i64 r] w fun e w' => e = .returned (.int .i64 (lenL (nf (Dd C s r)))) /\ Below w.heap.size w w' := by
 have hl := nf_ddl C s r
 have he := nf_dd C s r
 have HE := Lib.hid he
 have HN := Lib.hid hn
 have hl2 : (nf (Dd C s r)).length <= 1000 := by omega
 clear he hn hl
 go_enter Tryz.func80, Tryz.ntmps80
 go_wp2_with fail
 refine (ofc_any s r h HN.out (by omega)).mono ?_
 rintro e w1 ⟨A1, c1, rfl, hown, hb⟩
 go_wp2_with fail
 refine (days_any (Ds.ofOwn hown rfl) hl2).mono ?_
 rintro e w2 ⟨rfl, hb2⟩
 rw [HE.out]
 go_wp2_with fail
 go_ret
 exact ⟨rfl, hb.trans (hb2.mono hb.size)⟩
end
end Go.Proofs.YtnlopdmhdiegnaaGreatDoor
