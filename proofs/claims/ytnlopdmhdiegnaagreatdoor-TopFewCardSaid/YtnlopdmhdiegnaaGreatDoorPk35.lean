/- Lemmas (no conditions): Cvc, Erb, Erc, Erd, Top, OpenR -/
import Derived.Test.YtnlopdmhdiegnaaGreatDoorPk33
set_option linter.unusedSimpArgs false
set_option linter.unusedVariables false
set_option maxRecDepth 100000
set_option maxHeartbeats 64000000
namespace Go.Proofs.YtnlopdmhdiegnaaGreatDoor
open Go.RowKit
section
structure Sc where
 s : Int
 y : Vs
def Sc.cells (x : Sc) : List Value := .int .i64 x.s :: x.y.cells
theorem sc_len (x : Sc) : x.cells.length = 9 := rfl
structure SchR (w : World) (hi : Nat) (D : Sd) (A : Option Addr) (k : Nat) (Y : List Sc) : Prop where
 rd : Rd w hi 9 A k (flat Sc.cells Y)
 len : Y.length = k
 st : ∀ (i : Nat) (x : Sc), Y[i]? = some x -> x.s = (i : Int)
 ver : ∀ x ∈ Y, VerR w hi D x.y
theorem SchR.below {w w' : World} {hi k : Nat} {D : Sd} {A : Option Addr} {Y : List Sc} (h : SchR w hi D A k Y) (hb : Below hi w w') : SchR w' hi D A k Y :=
 ⟨h.rd.below hb, h.len, h.st, fun x hx => (h.ver x hx).below hb⟩
theorem SchR.mono {w : World} {hi hi' k : Nat} {D : Sd} {A : Option Addr} {Y : List Sc} (h : SchR w hi D A k Y) (hh : hi <= hi') : SchR w hi' D A k Y :=
 ⟨h.rd.mono hh, h.len, h.st, fun x hx => (h.ver x hx).mono hh⟩
abbrev scBox (s : Int) (x : Vs) : Obj := .cells #[.int .i64 s, .int .i64 0, .int .i64 1, .int .i64 1, .slice x.cA x.cn x.cc, .slice none 0 0, .slice none 0 0, .slice x.gA 1 x.gc, .slice none 0 0] 223
theorem scbox {W : World} {g : Nat} {s : Int} {x : Vs} (hr : W.heap[g]? = some (scBox s x)) :
  W.cell? ⟨g, 0, none⟩ = some (.int .i64 s) /\ W.cell? ⟨g, 1, none⟩ = some (.int .i64 0) /\ W.cell? ⟨g, 2, none⟩ = some (.int .i64 1) /\ W.cell? ⟨g, 3, none⟩ = some (.int .i64 1) /\ W.cell? ⟨g, 4, none⟩ = some (.slice x.cA x.cn x.cc) /\ W.cell? ⟨g, 5, none⟩ = some (.slice none 0 0) /\ W.cell? ⟨g, 6, none⟩ = some (.slice none 0 0) /\ W.cell? ⟨g, 7, none⟩ = some (.slice x.gA 1 x.gc) /\ W.cell? ⟨g, 8, none⟩ = some (.slice none 0 0) := by
 refine ⟨?_, ?_, ?_, ?_, ?_, ?_, ?_, ?_, ?_⟩ <;> rw [cell_of_row _ _ _ _ _ _ hr] <;> rfl
theorem sc_cells {w : World} {B n : Nat} {A : Option Addr} {l : List Sc} (h : Rd w B 9 A n (flat Sc.cells l)) {k : Nat} {x : Sc} (hx : l[k]? = some x) :
  k < n /\ ∃ b o, A = some ⟨b, o, none⟩ /\ b < B /\ w.cell? ⟨b, o + k * 9, none⟩ = some (.int .i64 x.s) /\ w.cell? ⟨b, o + k * 9 + 1, none⟩ = some (.int .i64 0) /\ w.cell? ⟨b, o + k * 9 + 2, none⟩ = some (.int .i64 1) /\ w.cell? ⟨b, o + k * 9 + 3, none⟩ = some (.int .i64 1) /\ w.cell? ⟨b, o + k * 9 + 4, none⟩ = some (.slice x.y.cA x.y.cn x.y.cc) ∧
   w.cell? ⟨b, o + k * 9 + 5, none⟩ = some (.slice none 0 0) /\ w.cell? ⟨b, o + k * 9 + 6, none⟩ = some (.slice none 0 0) /\ w.cell? ⟨b, o + k * 9 + 7, none⟩ = some (.slice x.y.gA 1 x.y.gc) /\ w.cell? ⟨b, o + k * 9 + 8, none⟩ = some (.slice none 0 0) := by
 obtain ⟨hk, b, o, e, hb, hc⟩ := h.elem sc_len hx (by omega)
 exact ⟨hk, b, o, e, hb, by simpa using hc 0 _ rfl, hc 1 _ rfl, hc 2 _ rfl, hc 3 _ rfl, hc 4 _ rfl, hc 5 _ rfl, hc 6 _ rfl, hc 7 _ rfl, hc 8 _ rfl⟩
theorem clm_snoc : ∀ (ws : List Sp) (i : Nat) (s : Sp), clm i (ws ++ [s]) = clm i ws ++ [⟨((i + ws.length : Nat) : Int), 1, s.f, s.t⟩]
 | [], i, s => by simp [clm]
 | q :: r, i, s => by
  rw [List.cons_append, clm, clm_snoc r (i + 1) s, clm, List.cons_append, List.length_cons]
  congr 4
  omega
theorem clm_take {ws : List Sp} (i : Nat) : clm 0 (ws.take (i + 1)) = clm 0 (ws.take i) ++ (ws[i]?).toList.map fun s => ⟨(i : Int), 1, s.f, s.t⟩ := by
 cases hs : ws[i]? with
 | none =>
  have hl := List.getElem?_eq_none_iff.1 hs
  rw [List.take_of_length_le (by omega), List.take_of_length_le (by omega)]
  simp
 | some s =>
  have hm := (List.getElem?_eq_some_iff.1 hs).1
  rw [List.take_add_one, hs]
  show clm 0 (ws.take i ++ [s]) = _
  rw [clm_snoc, List.length_take, Nat.min_eq_left (by omega), Nat.zero_add]
  rfl
theorem claim_any {A : Option Addr} {c B O X : Nat} {l : List Sp} {P : List Pr} {w : World} (rank st : Int) (hl : l.length <= 1) (hS : Rd w w.heap.size 2 A l.length (flat Sp.cells l)) (hX : w.cell? ⟨X, 0, none⟩ = some (.int .i64 st)) (hXl : X < w.heap.size) (hP : Po w B O P) (hPl : P.length <= 1000) (hB : B <= O) :
  Calls Tryz.prog 178 #[.int .i64 rank, .slice A l.length c, .pointer (some ⟨O, 0, none⟩), .pointer (some ⟨X, 0, none⟩)] w fun e w' => e = .returned (.tuple #[]) /\ Po w' B O (P ++ l.map fun s => ⟨st, rank, s.f, s.t⟩) /\ Kt O w w' /\ Below B w w' := by
 match l, hl with
 | [], _ =>
  refine (claim_nil rank w).mono ?_
  rintro e w' ⟨rfl, rfl⟩
  exact ⟨rfl, by simpa using hP, Kt.refl _ _, Below.refl _ _⟩
 | [s], _ => exact claim_one rank st hS hX hXl hP hPl hB
theorem sgm_dd {ws : List Sp} {lo : Int} (h0 : 0 <= lo) (hw : WOk lo ws) (i : Nat) : nf (Dd (sgm 0 ws) (i : Int) 0) = (ws[i]?).toList := by
 have key : ∀ x, isD x = true -> Dd (sgm 0 ws) (i : Int) 0 x = match ws[i]? with | some p => inS p x | none => false := fun x hx => by
  rw [Bool.eq_iff_iff, dd_iff]
  constructor
  ·rintro ⟨_, p, hp, h1, _, h3, h4⟩
   obtain ⟨k, hk⟩ := List.getElem?_of_mem hp
   rw [sgm_get] at hk
   obtain ⟨s, hs, rfl⟩ := Option.map_eq_some_iff.1 hk
   have : i = k := by
    have h5 : ((0 + k : Nat) : Int) = (i : Int) := h1
    omega
   subst this
   rw [hs]
   exact (inS_iff s x).2 ⟨h3, h4⟩
  ·intro h
   cases hs : ws[i]? with
   | none => rw [hs] at h; cases h
   | some s =>
    rw [hs] at h
    obtain ⟨h1, h2⟩ := (inS_iff s x).1 h
    refine ⟨(isD_iff x).1 hx, ⟨(i : Int), 3, s.f, s.t⟩, List.mem_of_getElem? (i := i) ?_, rfl, .inl rfl, h1, h2⟩
    rw [sgm_get, hs, Nat.zero_add]
    rfl
 cases hs : ws[i]? with
 | none => exact nf_none fun x hx => by rw [key x hx, hs]
 | some s =>
  obtain ⟨b1, b2, b3⟩ := wok_at hw hs
  exact nf_one (by omega) b2 (by omega) fun x hx => by rw [key x hx, hs]
theorem sgm_clip {ws : List Sp} {lo : Int} (h0 : 0 <= lo) (hw : WOk lo ws) {d : Int} (hd : ∀ s ∈ ws, s.t <= d) (i : Nat) : nf (fun x => dset (ws[i]?).toList x && dset [⟨0, d⟩] x) = (ws[i]?).toList := by
 cases hs : ws[i]? with
 | none => exact nf_none fun x hx => by simp [dset, cov]
 | some s =>
  obtain ⟨b1, b2, b3⟩ := wok_at hw hs
  have hsd := hd s (List.mem_of_getElem? hs)
  refine nf_one (by omega) b2 (by omega) fun x hx => ?_
  show (isD x && cov [s] x && (isD x && cov [⟨0, d⟩] x)) = inS s x
  rw [hx, cov_cons, cov_nil, cov_cons, cov_nil, Bool.or_false, Bool.or_false, Bool.true_and, Bool.true_and]
  cases h : inS s x
  ·rfl
  ·have h1 := (inS_iff s x).1 h
   rw [Bool.true_and, (inS_iff _ _).2 ⟨(isD_iff x).1 hx |>.1, show x < d by omega⟩]
theorem toList_le {α : Type} (o : Option α) : o.toList.length <= 1 := by cases o <;> simp
end
section
theorem msM_le : ∀ m : Nat, msM m <= 31 * m
 | 0 => Nat.le_refl _
 | m + 1 => by
  have h := msM_le m
  have h2 := (lenYM_pos (1900 + m / 12) (m % 12)).2
  show msM m + lenMo m <= _
  unfold lenMo
  omega
theorem cday_some (n k : Nat) (hn : n <= 199) (hk : k < 12) (z dm : Int) (hz : (k : Int) + 1 = z) (hd : 1 <= dm /\ dm <= 31) (hl : lenYM (1900 + n) k = 31) (w : World) :
  Calls Tryz.prog 96 #[.int .i64 (1900 + (n : Int)), .int .i64 z, .int .i64 dm] w fun e w' => (∃ v : Int, (0 <= v /\ v <= 100000) /\ e = .returned (.tuple #[.int .i64 v, .bool true])) /\ Below w.heap.size w w' := by
 have hle := fun u => tlen_to (y := 1900 + (n : Int)) (z := z) (l := 31) hk (by omega) hz (by rw [show (1900 + (n : Int)).toNat = 1900 + n by omega, hl]; rfl) u
 obtain ⟨s, hs⟩ : ∃ s : Int, (msM (12 * n) : Int) = s := ⟨_, rfl⟩
 have hst := fun u => ystart_to (n := n) (by omega) hs u
 have hsb : 0 <= s /\ s <= 74400 := by have := msM_le (12 * n); omega
 have q1 : decide (1900 + (n : Int) < 1900) = false := decide_eq_false (by omega)
 have q2 : decide ((2099 : Int) < 1900 + (n : Int)) = false := decide_eq_false (by omega)
 have q3 : decide (z < 1) = false := decide_eq_false (by omega)
 have q4 : decide ((12 : Int) < z) = false := decide_eq_false (by omega)
 have q5 : decide (dm < 1) = false := decide_eq_false (by omega)
 have q6 : decide ((31 : Int) < dm) = false := decide_eq_false (by omega)
 have HZ := Lib.hid hz
 have hzb : 1 <= z /\ z <= 12 := by omega
 clear hs hz hl
 go_enter Tryz.func96, Tryz.ntmps96
 go_wp2_with fail
 refine (hle _).mono ?_
 rintro e w1 ⟨rfl, hb⟩
 go_wp2_with fail
 refine (hst _).mono ?_
 rintro e w2 ⟨rfl, rfl⟩
 have hw1 : IntKind.i64.wrap (s + dm) = s + dm := IntWalk.i64_in _ (by omega)
 have hw2 : IntKind.i64.wrap (s + dm - 1) = s + dm - 1 := IntWalk.i64_in _ (by omega)
 go_wp2_with fail
 go_loopw [8, 9] (fun v m wr => ∃ (j : Nat) (u : Int), j <= k /\ m = .int .i64 ((j : Int) + 1) /\ v = .int .i64 u /\ 0 <= u /\ u <= 75000 + 31 * (j : Int) /\ Below w.heap.size w wr) (fun _ m _ => 12 - (intOf m).toNat)
 case atStart => exact ⟨0, s + dm - 1, by omega, rfl, rfl, by omega, by omega, hb⟩
 case round =>
  obtain ⟨j, u, hj, rfl, rfl, hu0, hu1, hb⟩ := hrel
  have hz := HZ.out
  by_cases hlt : j < k
  ·have h1 : (j : Int) + 1 < z := by omega
   have hly := lenYM_pos (1900 + (n : Int)).toNat j
   have hlj := tlen_any (1900 + (n : Int)) j (by omega) (by omega) wr
   generalize hL : (lenYM (1900 + (n : Int)).toNat j : Int) = Lj at *
   have hLb : 0 <= Lj /\ Lj <= 31 := by omega
   have hwu : IntKind.i64.wrap (u + Lj) = u + Lj := IntWalk.i64_in _ (by omega)
   clear hz hL hly
   go_wp2_with fail
   refine hlj.mono ?_
   rintro e w3 ⟨rfl, b3⟩
   go_wp2_with fail
   go_roundw
   case rel => exact ⟨j + 1, u + Lj, by omega, by first | rfl | go_num, rfl, by omega, by omega, hb.trans (b3.mono hb.size)⟩
   case measure => simp [intOf]; omega
  ·have h1 : ¬ (j : Int) + 1 < z := by omega
   have h2 : decide ((j : Int) + 1 < z) = false := decide_eq_false h1
   clear hz
   go_wp2_with fail
   go_ret2
   exact ⟨⟨u, ⟨hu0, by omega⟩, rfl⟩, hb⟩
end
section
theorem year_some (n : Nat) (hn : n <= 199) (w : World) : Calls Tryz.prog 137 #[.int .i64 (1900 + (n : Int))] w fun e w' => (∃ f t : Int, e = .returned (.agg #[.int .i64 f, .int .i64 t])) /\ Below w.heap.size w w' := by
 obtain ⟨W, hW, b, r⟩ := box_new w (.cells #[.int .i64 0, .int .i64 0] 32)
 have lW := (gis r).1
 have h1 := fun u => cday_some n 0 hn (by omega) 1 1 rfl (by omega) (len_jan _) u
 have h2 := fun u => cday_some n 11 hn (by omega) 12 31 rfl (by omega) (len_dec _) u
 go_enter Tryz.func137, Tryz.ntmps137
 go_upto_region 1 with (fail)
 clear hW
 go_wp2_with fail
 refine (h1 _).mono ?_
 rintro e w1 ⟨⟨f, hf, rfl⟩, b1⟩
 go_wp2_with fail
 refine (h2 _).mono ?_
 rintro e w2 ⟨⟨t, ht, rfl⟩, b2⟩
 have hb2 := b1.trans (b2.mono b1.size)
 have r2 := (hb2.block _ lW).trans r
 have s0 : w2.cell? ⟨w.heap.size, 0, none⟩ = some (.int .i64 0) := by rw [cell_of_row _ _ _ _ _ _ r2]; rfl
 have s1 : w2.cell? ⟨w.heap.size, 1, none⟩ = some (.int .i64 0) := by rw [cell_of_row _ _ _ _ _ _ r2]; rfl
 have y0 := frozen_of_row w2 w.heap.size 0 _ _ r2
 have y1 := frozen_of_row w2 w.heap.size 1 _ _ r2
 have hwt : IntKind.i64.wrap (t + 1) = t + 1 := IntWalk.i64_in _ (by omega)
 have hfin := ((b.trans (hb2.mono b.size)).setCell (p := ⟨w.heap.size, 0, none⟩) (Nat.le_refl _) (.int .i64 f)).setCell (p := ⟨w.heap.size, 1, none⟩) (Nat.le_refl _) (.int .i64 (t + 1))
 go_wp2_with fail
 exact bodyPost_ret (v := .agg #[.int .i64 f, .int .i64 (t + 1)]) (by simp [results, Tryz.f137, go_sem, s0, s1]) rfl ⟨⟨f, t + 1, rfl⟩, hfin⟩
theorem info_inc : (Tryz.prog.info? 242).map (fun i => (i.zero, i.size, i.bytes)) = some (some (.agg #[.int .i64 0, .int .i64 0, .int .i64 0, .bool false, .int .i64 0, .int .i64 0, .int .i64 0, .int .i64 0, .int .i64 0, .int .i64 0, .int .i64 0, .int .i64 0, .int .i64 0, .int .i64 0, .slice none 0 0]), 15, 136) := by kernel_rfl
theorem clip_life {l : List Sp} (h : Norm l) : nf (fun x => dset l x && dset [⟨0, 73049⟩] x) = l := by
 rw [nf_congr (T := dset l) fun x hx => by rw [dset_all hx, Bool.and_true], nf_self h]
theorem clip_same {p : Sp} (h0 : 0 <= p.f) (h1 : p.f < p.t) (h2 : p.t <= 73049) : nf (fun x => dset [p] x && dset [⟨p.f, p.t⟩] x) = [p] :=
 nf_one h0 h1 h2 fun x hx => by
  show ((isD x && (inS p x || false)) && (isD x && (inS p x || false))) = inS p x
  rw [hx, Bool.or_false, Bool.true_and, Bool.and_self]
theorem clip_apart {p q : Sp} (h : ∀ x, ¬ ((p.f <= x /\ x < p.t) /\ q.f <= x /\ x < q.t)) : nf (fun x => dset [p] x && dset [⟨q.f, q.t⟩] x) = [] :=
 nf_none fun x hx => by
  show ((isD x && (inS p x || false)) && (isD x && (inS (⟨q.f, q.t⟩ : Sp) x || false))) = false
  rw [hx, Bool.or_false, Bool.or_false, Bool.true_and, Bool.true_and]
  cases h1 : inS p x
  ·rfl
  ·cases h2 : inS (⟨q.f, q.t⟩ : Sp) x
   ·rfl
   ·exact absurd ⟨(inS_iff p x).1 h1, (inS_iff _ x).1 h2⟩ (h x)
theorem clip_nil (f t : Int) : nf (fun x => dset [] x && dset [⟨f, t⟩] x) = [] := nf_none fun x hx => by simp [dset, cov]
def incC (x : Fc) (A : Option Addr) (c : Nat) : List Value := [.int .i64 x.i, .int .i64 x.n, .int .i64 x.v, .bool x.g, .int .i64 x.p, .int .i64 x.k, .int .i64 x.s, .int .i64 x.f, .int .i64 x.t, .int .i64 x.e, .int .i64 x.h, .int .i64 x.c, .int .i64 x.a, .int .i64 x.r, .slice A 1 c]
theorem inc_one (x : Fc) (A : Option Addr) (c : Nat) : ∀ u ∈ incC x A c, u.oneCell' = true := by
 intro u hu
 simp only [incC, List.mem_cons, List.not_mem_nil, or_false] at hu
 rcases hu with rfl | rfl | rfl | rfl | rfl | rfl | rfl | rfl | rfl | rfl | rfl | rfl | rfl | rfl | rfl <;> rfl
theorem ds_zero (w : World) (A : Option Addr) : Ds w A 0 [] := ⟨Rd.zero _ _ _ _, rfl⟩
def RetIc (w : World) (ws : List Sp) (L : List Fc) (st : Nat) (e : Ending) (w' : World) : Prop :=
 (ws.length <= st /\ e = .returned (.slice none 0 0) /\ Below w.heap.size w w') ∨
 ∃ A c B cb x p, e = .returned (.slice A 1 c) /\ L[st]? = some x /\ ws[st]? = some p /\ w'.ownsRow w.heap.size 242 15 (.slice A 1 c) 1 (incC x B cb) /\ Rd w' w'.heap.size 2 B 1 (flat Sp.cells [p]) /\ Below w.heap.size w w'
theorem incomes_any {A CA : Option Addr} {n c cn cc st : Nat} {L : List Fc} {K : List Pr} {ws : List Sp} {lo : Int} {w : World} (hL : Rd w w.heap.size 14 A n (flat Fc.cells L)) (hl : L.length = n) (hW : Wks ws L) (h0 : 0 <= lo) (hw : WOk lo ws) (h6 : ws.length <= 6)
  (hC : Rd w w.heap.size 4 CA cn (flat Pr.ccells K)) (hcn : K.length = cn) (hK : Ctd ws K) :
  Calls Tryz.prog 133 #[.slice A n c, .slice CA cn cc, .int .i64 (st : Int)] w (RetIc w ws L st) := by
 obtain ⟨i0, hi0, hz0, hz1, hz2⟩ := info_parts info_inc
 have hn : n <= 900 := by rw [<- hl, hW.1]; omega
 have hv := hW.wkl h0 hw h6
 have hcu := current_any (c := c) hL hl hv hn
 have hli := fun (u : World) (hu : Below w.heap.size w u) => life_any (c := c) ((hL.below hu).mono hu.size) hl hv hn
 have hof := fun (u : World) (hu : Below w.heap.size w u) => ofc_any (c := cc) (st : Int) 1 ((hC.below hu).mono hu.size) hcn (by have := hK.1; omega)
 have HNF := Lib.hid (ctd_nf hK h0 hw st (.inr rfl))
 have HLI := Lib.hid hli
 have HOF := Lib.hid hof
 have HW := Lib.hid (show Wks ws L /\ 0 <= lo /\ WOk lo ws from ⟨hW, h0, hw⟩)
 have HV := Lib.hid hv
 have HL := Lib.hid hl
 clear hL hl hW h0 hw hC hcn hK hli hof hv
 go_enter Tryz.func133, Tryz.ntmps133
 go_wp2_with fail
 refine hcu.mono ?_
 rintro e w1 hret
 clear hcu
 obtain ⟨A4, n4, c4, hl4, rfl, h41, h42, hown4, hb1⟩ := hret.open
 have hL1 : Rd w1 w1.heap.size 14 A4 n4 (flat Fc.cells L) := Rd.ofOwn hown4
 have hn4 : n4 <= 6 := by rw [<- hl4.out, HW.out.1.1]; exact h6
 have hz1' := hb1.size
 clear hown4 h42
 go_wp2_with fail
 go_loopw [7, 15] (fun v i wr => ∃ j : Nat, j <= n4 /\ i = .int .i64 (j : Int) /\ Below w1.heap.size w1 wr /\ ((j <= st /\ v = .slice none 0 0) ∨ (st < j /\ ∃ A1 c1 B cb x p, v = .slice A1 1 c1 /\ L[st]? = some x /\ ws[st]? = some p /\ wr.ownsRow w1.heap.size 242 15 (.slice A1 1 c1) 1 (incC x B cb) /\ Rd wr wr.heap.size 2 B 1 (flat Sp.cells [p])))) (fun _ i _ => n4 - (intOf i).toNat)
 case atStart => exact ⟨0, by omega, rfl, Below.refl _ _, .inl ⟨by omega, rfl⟩⟩
 case round =>
  obtain ⟨j, hj, rfl, hb, hst⟩ := hrel
  have hwsz := hb.size
  by_cases hlt : j < n4
  ·have hkl : j < L.length := by rw [hl4.out]; exact hlt
   obtain ⟨x, hx⟩ : ∃ x, L[j]? = some x := ⟨_, List.getElem?_eq_getElem hkl⟩
   obtain ⟨q, hq⟩ : ∃ q, ws[j]? = some q := ⟨_, List.getElem?_eq_getElem (by rw [<- HW.out.1.1]; exact hkl)⟩
   have hxq : x.f = q.f /\ x.t = q.t := by
    obtain ⟨s2, n2, a2, hs2, rfl, _⟩ := HW.out.1.at hx
    rw [hq] at hs2
    obtain rfl := Option.some.inj hs2
    exact ⟨rfl, rfl⟩
   have hqb := wok_at HW.out.2.2 hq
   have h0lo := HW.out.2.1
   have her := erank_ok (x := x) (HV.out x (List.mem_of_getElem? hx)).2.2 (st : Int)
   have HER := Lib.hid her
   obtain ⟨_, g, o2, rfl, hgb, f0⟩ := fc_cells (hL1.below hb) hx
   obtain ⟨p0, p1, p2, p3, p4, p5, p6, p7, p8, p9, p10, p11, p12, p13⟩ := f0
   have hlo : (0 : Int) <= (j : Int) := by omega
   have hhi : (j : Int) < (n4 : Int) := by omega
   have HST := Lib.hid hst
   have HXQ := Lib.hid (show L[j]? = some x /\ ws[j]? = some q /\ x.f = q.f /\ x.t = q.t /\ 0 <= q.f /\ q.f < q.t /\ q.t <= 73049 from ⟨hx, hq, hxq.1, hxq.2, by omega, hqb.2.1, by omega⟩)
   clear hx hkl hst her hq hxq hqb h0lo
   go_upto_region 5 with (fail)
   obtain ⟨W, hW, fx, hzW, hbA, _⟩ := fact_box wr x
   rw [<- hW] at ⊢
   clear hW
   have hbw := hb.trans (hbA.mono hwsz)
   have hzw := hbw.size
   have hWl : wr.heap.size < W.heap.size := by omega
   obtain ⟨t0, t1, t2, t3, t4, t5, t6, t7, t8, t9, t10, t11, t12, t13⟩ := fx.of0
   clear p0 p1 p2 p3 p4 p5 p6 p7 p8 p9 p10 p11 p12 p13 hb hzW
   go_wp2_with fail
   refine (HER.out _).mono ?_
   rintro e w3 ⟨rfl, b3⟩
   have hfx : ∀ u, Below w3.heap.size w3 u -> FcAt u wr.heap.size 0 x := fun u hu => (fx.to b3 hWl).to hu (by have := b3.size; omega)
   have HFX := Lib.hid hfx
   have hb3 := hbw.trans (b3.mono hzw)
   clear t0 t1 t2 t3 t4 t5 t6 t7 t8 t9 t10 t11 t12 t13 fx hfx
   obtain ⟨t0, t1, t2, t3, t4, t5, t6, t7, t8, t9, t10, t11, t12, t13⟩ := (HFX.out w3 (Below.refl _ _)).of0
   have hbA3 := hb1.trans (hb3.mono hz1')
   have hl0 := toList_le1 (ws[st]?)
   go_upto_region 7 with (fail)
   by_cases hjs : j = st
   ·subst hjs
    have hn1 : nf (fun y => dset (ws[j]?).toList y && dset [⟨x.f, x.t⟩] y) = [q] := by
     obtain ⟨_, h2, h3, h4, h5, h6', h7⟩ := HXQ.out
     rw [h2, h3, h4]
     exact clip_same h5 h6' h7
    have hn2 : nf (fun y => dset [q] y && dset [⟨0, 73049⟩] y) = [q] := clip_life (l := [q]) (by obtain ⟨_, h2, h3, h4, h5, h6', h7⟩ := HXQ.out; exact ⟨by omega, h6', h7, trivial⟩)
    have HN1 := Lib.hid hn1
    have HN2 := Lib.hid hn2
    clear hn1 hn2
    go_region_held3 (fun w' => w'.cell? ⟨wr.heap.size, 7, none⟩ = some (.int .i64 x.f) /\ w'.cell? ⟨wr.heap.size, 8, none⟩ = some (.int .i64 x.t)) (first | exact ⟨t7, t8⟩ | exact ⟨(HFX.out _ bb8).of0.2.2.2.2.2.2.2.1, (HFX.out _ bb8).of0.2.2.2.2.2.2.2.2.1⟩ | exact ⟨(HFX.out _ bb7).of0.2.2.2.2.2.2.2.1, (HFX.out _ bb7).of0.2.2.2.2.2.2.2.2.1⟩ | exact ⟨(HFX.out _ bb6).of0.2.2.2.2.2.2.2.1, (HFX.out _ bb6).of0.2.2.2.2.2.2.2.2.1⟩ | exact ⟨(HFX.out _ bb5).of0.2.2.2.2.2.2.2.1, (HFX.out _ bb5).of0.2.2.2.2.2.2.2.2.1⟩) (first
     | (go_at_call 82; (with_reducible refine (HOF.out _ hbA3.drew).mono ?_); intro e w5 hr5
        unfold RetNf at hr5
        rw [HNF.out] at hr5
        obtain ⟨A5, c5, rfl, ho5, b5⟩ := hr5
        have bb5 : Below w3.heap.size w3 w5 := (Below.refl w3.heap.size w3).drew.trans b5)
     | (go_at_call 199; (with_reducible refine (HLI.out _ (hbA3.trans (bb6.mono hbA3.size))).mono ?_); rintro e w7 ⟨rfl, b7⟩
        have bb7 : Below w3.heap.size w3 w7 := bb6.trans (b7.mono bb6.size))
     | (go_at_call 136; (with_reducible refine (clip_any x.f x.t (Ds.ofOwn ho5 rfl) (by omega)).mono ?_); intro e w6 hr6
        obtain ⟨A6, c6, rfl, ho6, b6⟩ := hr6.one0 HN1.out
        have bb6 : Below w3.heap.size w3 w6 := bb5.trans (b6.mono bb5.size))
     | (go_at_call 136; (with_reducible refine (clip_any (l := [q]) (n := 1) 0 73049 (Ds.ofOwn (own_underF ho6 b7) rfl) (by omega)).mono ?_); intro e w8 hr8
        obtain ⟨A8, c8, rfl, ho8, b8⟩ := hr8.one0 HN2.out
        have bb8 : Below w3.heap.size w3 w8 := bb7.trans (b8.mono bb7.size)))
    rename_i hHeld
    clear hHeld t0 t1 t2 t3 t4 t5 t6 t7 t8 t9 t10 t11 t12 t13
    have hb8 := hb3.trans (bb8.mono hb3.size)
    obtain ⟨t0, t1, t2, t3, t4, t5, t6, t7, t8, t9, t10, t11, t12, t13⟩ := (HFX.out w8 bb8).of0
    rcases HST.out with ⟨_, rfl⟩ | ⟨hbad, _⟩
    ·have hnil : w8.ownsRow w1.heap.size 242 15 (.slice none 0 0) 0 [] := World.ownsRow_nil _ _ _ _
     have hz8 := hb8.size
     go_wp2_with (at_builtin; go_loud (refine wpList_append_rd (by rfl) (.tmp 37) (.tmp 41) 238 (by rfl) w1.heap.size 242 i0 _ 15 136 Tryz.underlying238 hi0 hz0 hz1 hz2 rfl (by omega) (.slice none 0 0) 0 [] (by rfl) (hnil.alloc _) (w8.heap.size + 1) (some ⟨w8.heap.size, 0, none⟩) 1 1 (incC x A8 c8) (by rfl) (Rd.built (cs := (incC x A8 c8).toArray) (heap_alloc_new w8 _) (by omega) rfl) (inc_one x A8 c8) (by unfold maxLen; omega) (by omega) (by simp; omega) ?_); intro v4 w9 hown9 hg9 hat9)
     have hb9 := (hb8.alloc hz8 (.cells (incC x A8 c8).toArray 242)).grown hg9 (by simp; omega) (fun g e => by cases e)
     obtain ⟨A9, c9, rfl, _, _, _⟩ := own_form hown9
     have hrd9 : Rd w9 w9.heap.size 2 A8 1 (flat Sp.cells [q]) := by
      have h1 : Rd w8 w8.heap.size 2 A8 1 (flat Sp.cells [q]) := Rd.ofOwn ho8
      exact ((h1.alloc (Nat.le_refl _) (.cells (incC x A8 c8).toArray 242)).grown hg9 (by simp) (fun g e => by cases e)).mono (Nat.le_trans (by simp) hg9.size)
     go_roundw
     case rel => exact ⟨j + 1, by omega, by go_num, hb9, .inr ⟨by omega, A9, c9, A8, c8, x, q, rfl, HXQ.out.1, HXQ.out.2.1, by simpa using hown9, hrd9⟩⟩
     case measure => simp [intOf]; omega
    ·omega
   ·have hn1 : nf (fun y => dset (ws[st]?).toList y && dset [⟨x.f, x.t⟩] y) = [] := by
     cases hp : ws[st]? with
     | none => exact clip_nil _ _
     | some p =>
      obtain ⟨_, h2, h3, h4, _⟩ := HXQ.out
      rw [h3, h4]
      exact clip_apart fun y hy => hjs (wok_one HW.out.2.2 h2 hp hy.2.1 hy.2.2 hy.1.1 hy.1.2)
    have HN1 := Lib.hid hn1
    have HN2 := Lib.hid (clip_nil 0 73049)
    clear hn1
    go_region_held3 (fun w' => w'.cell? ⟨wr.heap.size, 7, none⟩ = some (.int .i64 x.f) /\ w'.cell? ⟨wr.heap.size, 8, none⟩ = some (.int .i64 x.t)) (first | exact ⟨t7, t8⟩ | exact ⟨(HFX.out _ bb8).of0.2.2.2.2.2.2.2.1, (HFX.out _ bb8).of0.2.2.2.2.2.2.2.2.1⟩ | exact ⟨(HFX.out _ bb7).of0.2.2.2.2.2.2.2.1, (HFX.out _ bb7).of0.2.2.2.2.2.2.2.2.1⟩ | exact ⟨(HFX.out _ bb6).of0.2.2.2.2.2.2.2.1, (HFX.out _ bb6).of0.2.2.2.2.2.2.2.2.1⟩ | exact ⟨(HFX.out _ bb5).of0.2.2.2.2.2.2.2.1, (HFX.out _ bb5).of0.2.2.2.2.2.2.2.2.1⟩) (first
     | (go_at_call 82; (with_reducible refine (HOF.out _ hbA3.drew).mono ?_); intro e w5 hr5
        unfold RetNf at hr5
        rw [HNF.out] at hr5
        obtain ⟨A5, c5, rfl, ho5, b5⟩ := hr5
        have bb5 : Below w3.heap.size w3 w5 := (Below.refl w3.heap.size w3).drew.trans b5)
     | (go_at_call 199; (with_reducible refine (HLI.out _ (hbA3.trans (bb6.mono hbA3.size))).mono ?_); rintro e w7 ⟨rfl, b7⟩
        have bb7 : Below w3.heap.size w3 w7 := bb6.trans (b7.mono bb6.size))
     | (go_at_call 136; (with_reducible refine (clip_any x.f x.t (Ds.ofOwn ho5 rfl) (by omega)).mono ?_); intro e w6 hr6
        obtain ⟨A6, c6, rfl, b6⟩ := hr6.nil0 HN1.out
        have bb6 : Below w3.heap.size w3 w6 := bb5.trans (b6.mono bb5.size))
     | (go_at_call 136; (with_reducible refine (clip_any (l := []) (n := 0) 0 73049 (ds_zero _ _) (by omega)).mono ?_); intro e w8 hr8
        obtain ⟨A8, c8, rfl, b8⟩ := hr8.nil0 HN2.out
        have bb8 : Below w3.heap.size w3 w8 := bb7.trans (b8.mono bb7.size)))
    rename_i hHeld
    clear hHeld t0 t1 t2 t3 t4 t5 t6 t7 t8 t9 t10 t11 t12 t13
    have hb8 := hb3.trans (bb8.mono hb3.size)
    go_wp2_with fail
    go_roundw
    case rel =>
     refine ⟨j + 1, by omega, by go_num, hb8, ?_⟩
     rcases HST.out with ⟨h1, rfl⟩ | ⟨h1, A1, c1, B, cb, x1, p1, rfl, h2, h3, h4, h5⟩
     ·exact .inl ⟨by omega, rfl⟩
     ·have hbr : Below wr.heap.size wr w8 := (hbA.trans (b3.mono hbA.size)).trans (bb8.mono (by have := hbA.size; have := b3.size; omega))
      exact .inr ⟨by omega, A1, c1, B, cb, x1, p1, rfl, h2, h3, own_underF h4 hbr, (h5.below hbr).mono hbr.size⟩
    case measure => simp [intOf]; omega
  ·rcases hst with ⟨h1, rfl⟩ | ⟨h1, A1, c1, B, cb, x1, p1, rfl, h2, h3, h4, h5⟩
   ·have hlen : ws.length <= st := by rw [<- HW.out.1.1, hl4.out]; omega
    go_wp2_with fail
    go_ret
    exact .inl ⟨hlen, rfl, hb1.trans (hb.mono hz1')⟩
   ·go_wp2_with fail
    go_ret
    exact .inr ⟨A1, c1, B, cb, x1, p1, rfl, h2, h3, ownsRow_base h4 hz1', h5, hb1.trans (hb.mono hz1')⟩
end
section
def Km (M : Nat) (a b : World) : Prop := ∀ (g : Nat) (o : Obj), a.heap[g]? = some o -> g ≠ M -> b.heap[g]? = some o
theorem Km.refl (M : Nat) (a : World) : Km M a a := fun _ _ h _ => h
theorem Km.trans {M : Nat} {a b c : World} (h : Km M a b) (k : Km M b c) : Km M a c := fun g o h1 h2 => k g o (h g o h1 h2) h2
theorem Km.below {M : Nat} {a b : World} (h : Below a.heap.size a b) : Km M a b := fun g _ h1 _ => (h.block g (gis h1).1).trans h1
theorem Km.grown {M : Nat} {a b : World} (h : a.grownBy b (some M)) : Km M a b := fun g _ h1 h2 => (h.block g (gis h1).1 (fun e => h2 (by injection e))).trans h1
theorem Km.cell {M : Nat} {a b : World} (h : Km M a b) {p : Addr} {v : Value} (hp : a.cell? p = some v) (hne : p.block ≠ M) : b.cell? p = some v := by
 have hl : ∃ o, a.heap[p.block]? = some o := by
  cases ho : a.heap[p.block]? with
  | some o => exact ⟨o, rfl⟩
  | none =>
   unfold World.cell? at hp
   rw [ho] at hp
   cases hp
 obtain ⟨o, ho⟩ := hl
 have h2 := h p.block o ho hne
 unfold World.cell? at hp ⊢
 rw [h2, <- ho]
 exact hp
def eaCells (p : Int × Int) : List Value := [.int .i64 p.1, .int .i64 p.2]
theorem ea_len (p : Int × Int) : (eaCells p).length = 2 := rfl
theorem info_ea : (Tryz.prog.info? 252).map (fun i => (i.zero, i.size, i.bytes)) = some (some (.agg #[.int .i64 0, .int .i64 0]), 2, 16) := by kernel_rfl
def RetEa (w : World) (e : Ending) (w' : World) : Prop := ∃ A c E, e = .returned (.tuple #[.slice A (List.length E) c, .int .i64 0]) /\ E.length <= 200 /\ (∀ p ∈ E, 0 <= p.2 /\ p.2 <= 1000000) /\ w'.ownsRow w.heap.size 252 2 (.slice A E.length c) E.length (flat eaCells E) /\ Below w.heap.size w w'
theorem years_none {A CA : Option Addr} {n c cn cc st : Nat} {L : List Fc} {K : List Pr} {ws : List Sp} {lo : Int} {w : World} (hL : Rd w w.heap.size 14 A n (flat Fc.cells L)) (hl : L.length = n) (hW : Wks ws L) (h0 : 0 <= lo) (hw : WOk lo ws) (h6 : ws.length <= 6)
  (hC : Rd w w.heap.size 4 CA cn (flat Pr.ccells K)) (hcn : K.length = cn) (hK : Ctd ws K) (hst : st < 6) (hno : ws.length <= st) :
  Calls Tryz.prog 76 #[.slice A n c, .slice CA cn cc, .int .i64 (st : Int), .int .i64 1, .slice none 0 0] w (RetEa w) := by
 have hmm := @run_makeMap Tryz.prog
 have hin := incomes_any (c := c) (cc := cc) (st := st) hL hl hW h0 hw h6 hC hcn hK
 have q1 : decide ((st : Int) < 0) = false := decide_eq_false (by omega)
 have q2 : decide ((6 : Int) <= (st : Int)) = false := decide_eq_false (by omega)
 have HNO := Lib.hid hno
 clear hL hl hW h0 hw hC hcn hK hno
 go_enter Tryz.func76, Tryz.ntmps76
 go_wp2_with fail
 refine (rates_nil _).mono ?_
 rintro e w0 ⟨rfl, hw0⟩
 rw [hw0]
 clear hw0
 go_wp2_with fail
 refine hin.mono ?_
 clear hin
 rintro e w1 (⟨_, rfl, hb1⟩ | ⟨_, _, _, _, _, p, _, _, hp, _⟩)
 ·go_upto_region 5 with (fail)
  have hI := im_made w1
  obtain ⟨V, hV, bV⟩ : ∃ V, w1.alloc (.map #[] 0) = V /\ Below w1.heap.size w1 V := ⟨_, rfl, (Below.refl _ _).alloc (Nat.le_refl _) _⟩
  rw [hV] at hI ⊢
  clear hV hmm
  have hbV := hb1.trans (bV.mono hb1.size)
  generalize w1.heap.size = M at *
  go_wp2_with fail
  refine wp_loop_rounds 1 ?_
  rw [rounds_succ]
  go_wp2_with fail
  refine (keys_call _ _).mono ?_
  rintro e w2 ⟨rfl, rfl⟩
  go_wp2_with fail
  refine (keys_ret hI (by omega)).mono ?_
  rintro e w3 hks
  have hb3 := (hks.open).choose_spec.choose_spec.choose_spec.choose_spec.2.2.2.2.2.2.2.2
  have hfin := hbV.trans ((((Below.refl V.heap.size V).alloc (Nat.le_refl _) _).trans (hb3.mono (by simp))).mono hbV.size)
  rcases ret_none hks (fun _ => rfl) with rfl | ⟨g, c5, rfl⟩
  ·go_wp2_with fail
   refine wp_loop_rounds 1 ?_
   rw [rounds_succ]
   go_wp2_with fail
   go_ret2
   exact ⟨none, 0, [], rfl, by simp, by simp, World.ownsRow_nil _ _ _ _, hfin⟩
  ·go_wp2_with fail
   refine wp_loop_rounds 1 ?_
   rw [rounds_succ]
   go_wp2_with fail
   go_ret2
   exact ⟨none, 0, [], rfl, by simp, by simp, World.ownsRow_nil _ _ _ _, hfin⟩
 ·have := (List.getElem?_eq_some_iff.1 hp).1
  have := HNO.out
  omega
end
section
def aI (ws : List Sp) (md : Int) (N M s : Nat) : Int := if fW ws md s then 0 else if (N : Int) <= dW ws s then (M : Int) else 0
def aT (ws : List Sp) (md : Int) (N M s : Nat) : Int := if (frW ws md s).1 = 0 then 0 else if (N : Int) <= sumW ws then (M : Int) else 0
def aP (ws : List Sp) (md : Int) (N M s : Nat) : Int := if (frW ws md s).1 = 0 then 0 else aT ws md N M s * (frW ws md s).1 / (frW ws md s).2
def aS (ws : List Sp) (md : Int) (N M s : Nat) : Nat := if aI ws md N M s < aP ws md N M s then (if (N : Int) <= sumW ws then 2 else 1) else if fW ws md s then 0 else if (N : Int) <= dW ws s then 2 else 1
def aA (ws : List Sp) (md : Int) (N M s : Nat) : Int := if aI ws md N M s < aP ws md N M s then aP ws md N M s else aI ws md N M s
theorem sumW_append : ∀ (a b : List Sp), sumW (a ++ b) = sumW a + sumW b
 | [], b => by simp [sumW]
 | s :: a, b => by
  show (s.t - s.f) + sumW (a ++ b) = ((s.t - s.f) + sumW a) + sumW b
  rw [sumW_append a b]
  omega
theorem sT_take (ws : List Sp) : ∀ i : Nat, sT ws i = sumW (ws.take i)
 | 0 => rfl
 | i + 1 => by
  show sT ws i + dW ws i = _
  rw [sT_take ws i, List.take_add_one, sumW_append]
  congr 1
  unfold dW
  cases ws[i]? with
  | none => rfl
  | some p =>
   show p.t - p.f = (p.t - p.f) + 0
   omega
theorem sT_six {ws : List Sp} (h6 : ws.length <= 6) : sT ws 6 = sumW ws := by rw [sT_take, List.take_of_length_le h6]
theorem bT_le {ws : List Sp} {md lo : Int} (h0 : 0 <= lo) (hw : WOk lo ws) : ∀ i : Nat, bT ws md i <= sT ws i
 | 0 => Int.le_refl 0
 | i + 1 => by
  have h1 := bT_le (md := md) h0 hw i
  have h2 := dW_bd h0 hw i
  show (if fW ws md i then bT ws md i else bT ws md i + dW ws i) <= sT ws i + dW ws i
  split <;> omega
theorem dW_le {ws : List Sp} {md lo : Int} (h0 : 0 <= lo) (hw : WOk lo ws) {s : Nat} (hf : fW ws md s = false) : ∀ i : Nat, s < i -> dW ws s <= bT ws md i
 | 0, h => by omega
 | i + 1, h => by
  have h2 := dW_bd h0 hw i
  have h3 := (bT_bd (md := md) h0 hw i).1
  show dW ws s <= if fW ws md i then bT ws md i else bT ws md i + dW ws i
  rcases Nat.lt_or_eq_of_le (Nat.le_of_lt_succ h) with h1 | h1
  ·have := dW_le h0 hw hf i h1
   split <;> omega
  ·subst h1
   rw [hf]
   show dW ws s <= bT ws md s + dW ws s
   omega
theorem frW_bd {ws : List Sp} {md lo : Int} (h0 : 0 <= lo) (hl : lo <= 36500) (hw : WOk lo ws) (h6 : ws.length <= 6) {s : Nat} (hs : s < 6) : 0 <= (frW ws md s).1 /\ (frW ws md s).1 <= (frW ws md s).2 /\ 1 <= (frW ws md s).2 /\ (frW ws md s).2 <= 36500 := by
 unfold frW frV
 split
 ·rename_i h
  simp only [Bool.and_eq_true, Bool.not_eq_true', decide_eq_true_eq] at h
  have h1 := dW_le h0 hw h.1.1 6 hs
  have h2 := bT_le (md := md) h0 hw 6
  have h3 := sumW_bd hw hl
  rw [sT_six h6] at h2
  exact ⟨by show 0 <= dW ws s; omega, h1, by show 1 <= bT ws md 6; omega, by show bT ws md 6 <= 36500; omega⟩
 ·split
  ·exact ⟨by decide, by decide, by decide, by decide⟩
  ·exact ⟨by decide, by decide, by decide, by decide⟩
end
section
open Go.RowKit Go.ChangeShapes Go.WideShapes Go.Deep
section
variable {H : Type} {enc : TypeId × Value -> H} {w : World} {base : Nat} {spare : Nat -> Bool} {held : Bool}
theorem int_cellsG {fuel : Nat} {cs : List Value} {x : DataW H × List MemPlace} (h : DataW.trod enc Tryz.prog w base spare held fuel 3 cs = some x) : ∃ a, cs = [.int .i64 a] /\ I64 a := by
 obtain ⟨q, hv, _, hw⟩ := DataW.trod_int Tryz.underlying3 h
 exact ⟨q, hv, wf_i64 hw⟩
theorem rd_of_rowsG {α : Type} {cells : α -> List Value} {k : Nat} (hk : ∀ x, (cells x).length = k) (hk0 : 0 < k) {a : Addr} {l : List α}
  (hq : ∀ i x, l[i]? = some x -> ∀ j u, (cells x)[j]? = some u -> w.cell? (a.add (i * k + j)) = some u) : Rd w w.heap.size k (some a) l.length (flat cells l) := by
 have hfl : (flat cells l).length = l.length * k := flat_length hk l
 refine ⟨hfl, fun hn => ?_⟩
 obtain ⟨r0, hr0⟩ : ∃ r, l[0]? = some r := ⟨_, List.getElem?_eq_getElem (by omega)⟩
 obtain ⟨u0, hu0⟩ : ∃ u, (cells r0)[0]? = some u := ⟨_, List.getElem?_eq_getElem (by rw [hk]; exact hk0)⟩
 have hc0 := hq 0 r0 hr0 0 u0 hu0
 have hspot : a.spot = none := by simpa [Addr.add] using World.cell?_spot hc0
 obtain ⟨b, o, sp⟩ := a
 subst hspot
 have hblt : b < w.heap.size := by
  rw [addAt] at hc0
  exact World.block_lt_of_cell? _ _ hc0
 refine ⟨b, o, rfl, hblt, fun j u hu => ?_⟩
 have hjl : j < l.length * k := by
  have := (List.getElem?_eq_some_iff.1 hu).1
  rwa [hfl] at this
 have hjd : j / k < l.length := Nat.div_lt_of_lt_mul (by rwa [Nat.mul_comm])
 obtain ⟨x, hx⟩ : ∃ x, l[j / k]? = some x := ⟨_, List.getElem?_eq_getElem hjd⟩
 have hjk : j / k * k + j % k = j := by rw [Nat.mul_comm]; exact Nat.div_add_mod j k
 have hg := flat_get hk l (j / k) (j % k) x hx (Nat.mod_lt _ hk0)
 rw [hjk, hu] at hg
 have hc := hq (j / k) x hx (j % k) u hg.symm
 rwa [addAt, hjk] at hc
theorem rows_of_trodG {t e : TypeId} {fuel : Nat} {cs : List Value} {x : DataW H × List MemPlace} {α : Type} {cells : α -> List Value} {ok : α -> Prop} {k : Nat} (hk0 : 0 < k) (ht : Tryz.prog.underlying t = some (.slice e)) (hc4 : Tryz.prog.cellsOf e = k)
  (hk : ∀ x, (cells x).length = k) (hel : ∀ {fuel : Nat} {cs : List Value} {x : DataW H × List MemPlace}, DataW.trod enc Tryz.prog w base spare held fuel e cs = some x -> ∃ p : α, cs = cells p /\ ok p)
  (h : DataW.trod enc Tryz.prog w base spare held fuel t cs = some x) : ∃ A n c l, cs = [.slice A n c] /\ Rd w w.heap.size k A n (flat cells l) /\ l.length = n /\ (∀ p ∈ l, ok p) /\ n <= maxLen := by
 rcases open_slice ht h with ⟨rfl, _⟩ | ⟨a, len, cap, m, n, D, Pl, rfl, _, hl, hm, hmm, _, hi⟩
 ·exact ⟨none, 0, 0, [], rfl, Rd.zero _ _ _ _, rfl, by simp, by unfold maxLen; omega⟩
 ·have hlm : len <= m := by rw [hmm]; split <;> omega
  have hrow : ∀ i, i < len -> ∃ p : α, (∀ j u, (cells p)[j]? = some u -> w.cell? (a.add (i * k + j)) = some u) /\ ok p := by
   intro i hil
   obtain ⟨cs', hc, ht'⟩ := hi i (by omega)
   obtain ⟨p, rfl, hp⟩ := hel ht'
   rw [hc4] at hc
   obtain ⟨_, _, hat⟩ := World.cells?_some hc
   refine ⟨p, fun j u hu => ?_, hp⟩
   have hj : j < k := by
    have := (List.getElem?_eq_some_iff.1 hu).1
    rwa [hk] at this
   rw [<- Go.Deep.add_add, hat j hj, hu]
  obtain ⟨l, hll, hq⟩ := list_ofN _ _ hrow
  refine ⟨some a, len, cap, l, rfl, ?_, hll, fun p hp => ?_, by omega⟩
  ·have := rd_of_rowsG (w := w) (a := a) (l := l) hk hk0 fun i x hx => (hq i x hx).1
   rwa [hll] at this
  ·obtain ⟨i, hi⟩ := List.getElem?_of_mem hp
   exact (hq i p hi).2
theorem ints_flatG (l : List Int) : flat (fun a => [Value.int .i64 a]) l = ints l := by
 induction l with
 | nil => rfl
 | cons a l ih => rw [flat_cons, ih]; rfl
theorem intl_of_trodG {fuel : Nat} {cs : List Value} {x : DataW H × List MemPlace} (h : DataW.trod enc Tryz.prog w base spare held fuel 45 cs = some x) : ∃ A n c l, cs = [.slice A n c] /\ Rd w w.heap.size 1 A n (ints l) /\ l.length = n /\ (∀ p ∈ l, I64 p) /\ n <= maxLen := by
 obtain ⟨A, n, c, l, h1, h2, h3⟩ := rows_of_trodG (k := 1) (ok := I64) (cells := fun a => [Value.int .i64 a]) (by omega) Tryz.underlying45 (by kernel_rfl) (fun _ => rfl) (fun h => int_cellsG h) h
 rw [ints_flatG] at h2
 exact ⟨A, n, c, l, h1, h2, h3⟩
end
end
end Go.Proofs.YtnlopdmhdiegnaaGreatDoor
