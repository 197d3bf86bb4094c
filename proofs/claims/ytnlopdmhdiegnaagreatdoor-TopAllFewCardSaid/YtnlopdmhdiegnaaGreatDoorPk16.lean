/- Lemmas (no conditions): SpPcA -/
import Derived.Test.YtnlopdmhdiegnaaGreatDoorPk13
set_option linter.unusedSimpArgs false
set_option linter.unusedVariables false
set_option maxRecDepth 100000
set_option maxHeartbeats 64000000
namespace Go.Proofs.YtnlopdmhdiegnaaGreatDoor
open Go.RowKit
section
def Nls (w : World) (base k : Nat) (vs : List Value) (ls : List (List Sp)) : Prop :=
 ∀ (i : Nat) (v : Value) (l : List Sp), i < k -> vs[i]? = some v -> ls[i]? = some l -> ∃ A c, v = .slice A (nf (dset l)).length c /\ w.ownsRow base 32 2 (.slice A (nf (dset l)).length c) (nf (dset l)).length (flat Sp.cells (nf (dset l)))
theorem Nls.zero (w : World) (base : Nat) (vs : List Value) (ls : List (List Sp)) : Nls w base 0 vs ls := fun i _ _ h => absurd h (Nat.not_lt_zero i)
theorem Nls.under {w w' : World} {base k : Nat} {vs : List Value} {ls : List (List Sp)} (h : Nls w base k vs ls) (hb : Below w.heap.size w w') : Nls w' base k vs ls := fun i v l h1 h2 h3 => by
 obtain ⟨A, c, e, ho⟩ := h i v l h1 h2 h3
 exact ⟨A, c, e, own_under ho hb⟩
theorem Nls.apart {w w' : World} {base base' e' sz' n' k : Nat} {v' : Value} {xs' : List Value} {vs : List Value} {ls : List (List Sp)} (h : Nls w base k vs ls) (h' : w.ownsRow base' e' sz' v' n' xs') (hg : w.grownBy w' v'.ownBlock) (hne : 32 ≠ e') : Nls w' base k vs ls := fun i v l h1 h2 h3 => by
 obtain ⟨A, c, e, ho⟩ := h i v l h1 h2 h3
 exact ⟨A, c, e, ho.kept hg (own_apart ho h' hne)⟩
theorem Nls.step {w : World} {base k : Nat} {vs : List Value} {ls : List (List Sp)} {A : Option Addr} {c : Nat} {l : List Sp} (h : Nls w base k vs ls) (hl : ls[k]? = some l) (ho : w.ownsRow base 32 2 (.slice A (nf (dset l)).length c) (nf (dset l)).length (flat Sp.cells (nf (dset l)))) :
  Nls w base (k + 1) (vs.set k (.slice A (nf (dset l)).length c)) ls := fun i v q h1 h2 h3 => by
 by_cases e : k = i
 ·subst e
  rw [hl] at h3
  cases h3
  have hk : k < vs.length := by
   have := (List.getElem?_eq_some_iff.1 h2).1
   simpa using this
  rw [List.getElem?_set_self hk] at h2
  cases h2
  exact ⟨A, c, rfl, ho⟩
 ·rw [List.getElem?_set_ne e] at h2
  exact h i v q (by omega) h2 h3
def endsT (ls : List (List Sp)) (k : Nat) : List Int := (ls.take k).flatMap fun l => endsL (nf (dset l))
theorem endsT_succ {ls : List (List Sp)} {k : Nat} {l : List Sp} (h : ls[k]? = some l) : endsT ls (k + 1) = endsT ls k ++ endsL (nf (dset l)) := by
 unfold endsT
 rw [List.take_add_one, h, Option.toList_some, List.flatMap_append]
 simp
theorem endsT_length {ls : List (List Sp)} {n : Nat} (h : ∀ l ∈ ls, (nf (dset l)).length <= n) : ∀ k, (endsT ls k).length <= 2 * n * k
 | 0 => by simp [endsT]
 | k + 1 => by
  have ih := endsT_length h k
  cases e : ls[k]? with
  | none =>
   unfold endsT at *
   rw [List.take_add_one, e, Option.toList_none, List.append_nil, Nat.mul_succ]
   omega
  | some l =>
   rw [endsT_succ e, List.length_append, endsL_length, Nat.mul_succ]
   have := h l (List.mem_of_getElem? e)
   omega
def NormD (w wr : World) (n : Nat) (ls : List (List Sp)) (v4 : Value) (k : Nat) : Prop :=
 ∃ (vs : List Value), wr.ownsRow w.heap.size 3 1 v4 (endsT ls k).length (ints (endsT ls k)) /\ wr.ownsRow w.heap.size 180 1 (.slice (some ⟨w.heap.size, 0, none⟩) n n) n vs /\ Nls wr w.heap.size k vs ls /\ Below w.heap.size w wr
theorem cuts_of {ls : List (List Sp)} {n : Nat} (h : ls.length = n) : Cuts ls (Lib.compact (sortI (endsT ls n))) := by
 have h1 := compact_ok (sortI_le (endsT ls n))
 refine cuts_nf h1.2 fun x => ?_
 rw [sortI_cut]
 unfold endsT
 rw [List.take_of_length_le (by omega)]
theorem pcs_end {mem : Int -> List Int} {E : List Int} {k : Nat} {O : List Pc} (h : ¬ k + 1 < E.length) : pcs mem (E.drop k) O = O := by
 have hdl : (E.drop k).length <= 1 := by rw [List.length_drop]; omega
 match hE : E.drop k, hdl with
 | [], _ => rfl
 | [_], _ => rfl
 | _ :: _ :: _, hdl => simp at hdl
theorem pcs_step {mem : Int -> List Int} {E : List Int} {k : Nat} {O : List Pc} {a b : Int} (ha : E[k]? = some a) (hb : E[k + 1]? = some b) : pcs mem (E.drop k) O = pcs mem (E.drop (k + 1)) (addP O a b (mem a)) := by
 obtain ⟨h1, h2⟩ := List.getElem?_eq_some_iff.1 ha
 obtain ⟨h3, h4⟩ := List.getElem?_eq_some_iff.1 hb
 rw [List.drop_eq_getElem_cons h1, List.drop_eq_getElem_cons h3, h2, h4]
 rfl
theorem pieces_any {A : Option Addr} {n c : Nat} {vs : List Value} {ls : List (List Sp)} {w : World} (h : Rd w w.heap.size 1 A n vs) (hv : Ns w w.heap.size vs ls) (hl : ∀ l ∈ ls, l.length <= 200) (hn2 : n <= 50) :
  Calls Tryz.prog 191 #[.slice A n c] w (RetPc w (pieces ls)) := by
 obtain ⟨i0, hi0, hx0, hx1, hx2⟩ := info_parts info_lists
 obtain ⟨i1, hi1, hy0, hy1, hy2⟩ := info_parts info_int
 obtain ⟨i2, hi2, hp0, hp1, hp2⟩ := info_parts info_piece
 have hnv : vs.length = n := by have := h.1; omega
 have hnl : ls.length = n := by rw [<- hv.1]; exact hnv
 have HNV := Lib.hid hnv
 have HNL := Lib.hid hnl
 have HL := Lib.hid hl
 clear hnv hnl hl
 go_enter Tryz.func191, Tryz.ntmps191
 go_wp2_with (refine wpList_make_full w (by rfl) (.tmp 16) (.tmp 16) 309 (by rfl) w.heap.size 180 i0 _ 1 Tryz.underlying309 hi0 hx0 hx1 .i64 .i64 _ _ n (by rfl) (by rfl) (by rfl) (by rfl) (by rw [hx2]; omega) (by unfold maxLen; omega) (Nat.le_refl _) ?_; intro w1 hown1 hg1)
 have hb1 : Below w.heap.size w w1 := (Below.refl _ _).grown hg1 (Nat.le_refl _) (by simp)
 go_loopw [4, 20] (fun v i wr => ∃ k : Nat, k <= n /\ i = .int .i64 (k : Int) /\ NormD w wr n ls v k) (fun _ i _ => n - (intOf i).toNat)
 case atStart => exact ⟨0, by omega, rfl, _, World.ownsRow_nil _ _ _ _, hown1, Nls.zero _ _ _ _, hb1⟩
 case round =>
  clear hown1 hg1 hb1
  obtain ⟨k, hk, rfl, vs', hownc, hownn, hnls, hb⟩ := hrel
  have hwsz := hb.size
  by_cases hlt : k < n
  ·have hkl : k < ls.length := by rw [HNL.out]; exact hlt
   have hkv : k < vs.length := by rw [HNV.out]; exact hlt
   obtain ⟨l, hl⟩ : ∃ l, ls[k]? = some l := ⟨_, List.getElem?_eq_getElem hkl⟩
   obtain ⟨v, hv2⟩ : ∃ v, vs[k]? = some v := ⟨_, List.getElem?_eq_getElem hkv⟩
   obtain ⟨A2, c2, rfl, hrd2⟩ := hv.2 k v l hv2 hl
   obtain ⟨b, o, rfl, hbb, hc⟩ := (h.below hb).2 (by omega)
   have hcl := hc k _ hv2
   have hll := HL.out l (List.mem_of_getElem? hl)
   have hlo : (0 : Int) <= (k : Int) := by omega
   have hhi : (k : Int) < (n : Int) := by omega
   have HLL := Lib.hid hl
   clear hv2 hl hc
   go_wp2_with fail
   refine (make_nf (l := l) ⟨(hrd2.below hb).mono hwsz, rfl⟩ (by omega)).mono ?_
   rintro e w2 ⟨A3, c3, rfl, hown3, hb2⟩
   have hownn2 := own_under hownn hb2
   have hownc2 := own_under hownc hb2
   have hnls2 := hnls.under hb2
   have hb3 := hb.trans (hb2.mono hwsz)
   have hvl : k < vs'.length := by have := hownn.1; omega
   have hcn := hownn2.cells (g := w.heap.size) rfl k _ (List.getElem?_eq_getElem hvl)
   rw [addAt, Nat.zero_add] at hcn
   have hfn := hownn2.frozenAt k
   have hst := (hownn2.stored k (.slice A3 (nf (dset l)).length c3)).1
   have hz2 := hb2.size
   have own3' := ownsRow_base hown3 hwsz
   clear hownn hownc hnls hb hown3 hb2 hcl
   have HST := Lib.hid hst
   clear hst
   generalize hq : vs'[k] = old at *
   clear hq
   go_upto_region 7 with (fail)
   have hgs : w2.grownBy (w2.setCell ⟨w.heap.size, k, none⟩ (.slice A3 (nf (dset l)).length c3)) (Value.slice (some ⟨w.heap.size, 0, none⟩) n n).ownBlock := ⟨rfl, rfl, rfl, by simp, fun q _ hq => heap_setCell_other w2 ⟨w.heap.size, k, none⟩ q _ (fun e => hq (by rw [e]; rfl))⟩
   have hcW := hownc2.kept hgs (own_apart hownc2 hownn2 (by decide))
   have hnW := (hnls2.apart hownn2 hgs (by decide)).step HLL.out (own3'.kept hgs (own_apart own3' hownn2 (by decide)))
   have hbW := hb3.setCell (p := ⟨w.heap.size, k, none⟩) (Nat.le_refl _) (.slice A3 (nf (dset l)).length c3)
   have hstW : (w2.setCell ⟨w.heap.size, k, none⟩ (.slice A3 (nf (dset l)).length c3)).ownsRow w.heap.size 180 1 (.slice (some ⟨w.heap.size, 0, none⟩) n n) n (vs'.set k (.slice A3 (nf (dset l)).length c3)) := HST.out
   obtain ⟨W, hW⟩ : ∃ W, W = w2.setCell ⟨w.heap.size, k, none⟩ (.slice A3 (nf (dset l)).length c3) := ⟨_, rfl⟩
   rw [<- hW] at hcW hnW hbW hstW ⊢
   clear hW hgs HST hcn hfn hownn2 hownc2 hnls2 hb3 own3' hz2
   have hMl := nf_length_le (l := l) rfl
   have hEl := endsT_length (ls := ls) (n := 400) (fun q hq => Nat.le_trans (nf_length_le (l := q) rfl) (by have := HL.out q hq; omega)) k
   have hkk := HLL.out
   have HES := Lib.hid (endsT_succ hkk)
   clear hkk
   generalize hM : nf (dset l) = M at *
   have HM := Lib.hid hM
   clear hM
   have hvl2 : k < (vs'.set k (.slice A3 M.length c3)).length := by simpa using hvl
   have hck := hstW.cells (g := w.heap.size) rfl k (.slice A3 M.length c3) (by rw [List.getElem?_set_self hvl])
   rw [addAt, Nat.zero_add] at hck
   have HVS := Lib.hid (List.getElem?_set_self (a := Value.slice A3 M.length c3) hvl)
   generalize hvs2 : vs'.set k (.slice A3 M.length c3) = vs2 at *
   clear hvs2 hvl hvl2
   generalize hzs : endsT ls k = zs at *
   clear hzs
   go_wp2_with fail
   go_loopw [4, 35] (fun v i wn => ∃ j : Nat, j <= M.length /\ i = .int .i64 (j : Int) /\ wn.ownsRow w.heap.size 3 1 v (zs ++ endsL (M.take j)).length (ints (zs ++ endsL (M.take j))) /\ wn.ownsRow w.heap.size 180 1 (.slice (some ⟨w.heap.size, 0, none⟩) n n) n vs2 /\ Nls wn w.heap.size (k + 1) vs2 ls /\ Below w.heap.size w wn) (fun _ i _ => M.length - (intOf i).toNat)
   case atStart => exact ⟨0, by omega, rfl, by simpa [endsL] using hcW, hstW, hnW, hbW⟩
   case round =>
    clear hcW hstW hnW hbW hck
    obtain ⟨j, hj, rfl, hcW, hstW, hnW, hbW⟩ := hrel
    have hwsz2 := hbW.size
    by_cases hlj : j < M.length
    ·obtain ⟨x, hx⟩ : ∃ x, M[j]? = some x := ⟨_, List.getElem?_eq_getElem hlj⟩
     obtain ⟨A4, c4, e4, own4⟩ := hnW k _ l (by omega) HVS.out HLL.out
     rw [HM.out] at e4 own4
     injection e4 with e4 _ e5
     subst e4 e5
     obtain ⟨_, g, o2, rfl, hgb, e0, e1⟩ := sp_cells (Rd.ofOwn own4) hx
     have hsn : zs ++ endsL (M.take (j + 1)) = (zs ++ endsL (M.take j)) ++ [x.f, x.t] := by rw [take_snocS hx, endsL_snoc, List.append_assoc]
     have hel : (zs ++ endsL (M.take j)).length <= 100000 := by
      have h1 := endsL_length (M.take j)
      have h2 : (M.take j).length <= M.length := by rw [List.length_take]; omega
      have h3 : 2 * 400 * k <= 2 * 400 * 50 := Nat.mul_le_mul_left _ (by omega)
      rw [List.length_append]
      omega
     have HSN := Lib.hid hsn
     clear hx hsn own4
     generalize zs ++ endsL (M.take j) = ys at *
     have hlo2 : (0 : Int) <= (j : Int) := by omega
     have hhi2 : (j : Int) < (M.length : Int) := by omega
     go_upto_region 10 with (fail)
     have hrow : (wr.alloc (.cells #[.int .i64 x.f, .int .i64 x.t] 32)).heap[wr.heap.size]? = some (.cells #[.int .i64 x.f, .int .i64 x.t] 32 (0, 0)) := heap_alloc_new wr _
     have hbA := (Below.refl wr.heap.size wr).alloc (Nat.le_refl _) (.cells #[.int .i64 x.f, .int .i64 x.t] 32)
     have hcA := own_under hcW hbA
     have hsA := own_under hstW hbA
     have hnA := hnW.under hbA
     have hb5 := hbW.trans (hbA.mono hwsz2)
     have hz5 : wr.heap.size < (wr.alloc (.cells #[.int .i64 x.f, .int .i64 x.t] 32)).heap.size := by simp
     obtain ⟨W5, hW⟩ : ∃ W, W = wr.alloc (.cells #[.int .i64 x.f, .int .i64 x.t] 32) := ⟨_, rfl⟩
     rw [<- hW] at hrow hcA hsA hnA hb5 hz5 ⊢
     clear hW hbA hcW hstW hnW hbW e0 e1
     have s0 : W5.cell? ⟨wr.heap.size, 0, none⟩ = some (.int .i64 x.f) := by rw [cell_of_row W5 _ 0 _ _ _ hrow]; rfl
     have s1 : W5.cell? ⟨wr.heap.size, 1, none⟩ = some (.int .i64 x.t) := by rw [cell_of_row W5 _ 1 _ _ _ hrow]; rfl
     have hgW5 := fun {w4 : World} {row : Option Nat} (hg : (W5.alloc (.cells #[.int .i64 x.f, .int .i64 x.t] 3)).grownBy w4 row) => grownBy_trans (World.grownBy_alloc W5 (.cells #[.int .i64 x.f, .int .i64 x.t] 3) row) hg
     go_wp2_with (at_builtin; go_loud (refine wpList_append_rd (by rfl) (.tmp 39) (.tmp 44) 45 (by rfl) w.heap.size 3 i1 _ 1 8 Tryz.underlying45 hi1 hy0 hy1 hy2 rfl (by omega) _ ys.length (ints ys) (by rfl) (hcA.alloc _) (W5.heap.size + 1) (some ⟨W5.heap.size, 0, none⟩) 2 2 [.int .i64 x.f, .int .i64 x.t] (by rfl) (Rd.built (heap_alloc_new W5 _) (by omega) rfl) (by intro u hu; simp at hu; rcases hu with rfl | rfl <;> rfl) (by unfold maxLen; omega) (by omega) (by simp; omega) ?_); intro v4 w4 hown4 hg4 hat4)
     have hgi := hgW5 hg4
     refine ⟨⟨j + 1, by omega, by go_num, ?_, hsA.kept hgi (own_apart hsA hcA (by decide)), hnA.apart hcA hgi (by decide), ?_⟩, by simp [intOf]; omega⟩
     ·rw [HSN.out, ints_append, List.length_append]
      exact hown4
     ·exact (hb5.alloc hb5.size (.cells #[.int .i64 x.f, .int .i64 x.t] 3)).grown hg4 (by have := hb5.size; simp; omega) (fun g e => (hcA.lt g e).1)
    ·have hjM : M.take j = M := List.take_of_length_le (by omega)
     rw [hjM] at hcW
     have HES2 := HES.out
     have HE3 := Lib.hid HES2
     clear HES2 hjM
     go_wp2_with fail
     go_roundw
     case rel => exact ⟨k + 1, by omega, by go_num, vs2, by rw [HE3.out]; exact hcW, hstW, hnW, hbW⟩
     case measure => simp [intOf]; omega
  ·obtain rfl : k = n := by omega
   clear hk hlt
   have hel := endsT_length (ls := ls) (n := 400) (fun q hq => Nat.le_trans (nf_length_le (l := q) rfl) (by have := HL.out q hq; omega)) k
   have HCU := Lib.hid (cuts_of HNL.out)
   obtain ⟨A5, c5, rfl, hnc5, hcm5, _⟩ := own_form hownc
   have hap := own_apart hownn hownc (by decide)
   generalize endsT ls k = zs at *
   have hzl : zs.length <= 40000 := by omega
   clear hel
   go_wp2_with fail
   refine (sort_cuts hownc (by omega)).mono ?_
   rintro e w5 ⟨rfl, hs5, hg5⟩
   go_wp2_with fail
   refine (compact_cuts hs5 (sortI_length zs) (by omega) hnc5).mono ?_
   rintro e w6 ⟨rfl, hrdE, hg6⟩
   have hg7 := grownBy_trans hg5 hg6
   have hownn6 := hownn.kept hg7 hap
   have hnls6 := hnls.apart hownc hg7 (by decide)
   have hb6 := hb.grown hg7 hwsz (fun g e => (hownc.lt g e).1)
   have hcl := compact_length (sortI zs)
   rw [sortI_length] at hcl
   have HPS := Lib.hid (pieces_of HCU.out)
   clear hg5 hg6 hg7 hs5 hap hownc hownn hnls hb hnc5 hcm5 HCU
   generalize Lib.compact (sortI zs) = E at *
   have hEl : E.length <= 40000 := by omega
   clear hcl hzl
   have hz6 := hb6.size
   go_wp2_with fail
   go_loopw [9, 10] (fun v i wr => ∃ (m : Nat) (X : List Pw), m <= E.length /\ i = .int .i64 (m : Int) /\ X.length <= m /\ (∀ x ∈ X, x.p.m ≠ [] /\ x.p.m.length <= 50) /\ Pws wr w6.heap.size v X /\ pcs (memL ls) (E.drop m) (X.map Pw.p) = pieces ls /\ Below w6.heap.size w6 wr) (fun _ i _ => E.length - (intOf i).toNat)
   case atStart => exact ⟨0, [], by omega, rfl, by simp, by simp, Pws.nil _ _, HPS.out, Below.refl _ _⟩
   case round =>
    clear hwsz
    obtain ⟨m, X, hm, rfl, hXm, hinv, hpw, hpcs, hb⟩ := hrel
    have HIN := Lib.hid hinv
    clear hinv
    have hwsz := hb.size
    have hw1 : IntKind.i64.wrap ((m : Int) + 1) = (m : Int) + 1 := IntWalk.i64_in _ (by omega)
    obtain ⟨A7, c7, rfl, hnc7, hcm7, hA7⟩ := own_form hpw.1
    by_cases hlt : m + 1 < E.length
    ·obtain ⟨e0, he0⟩ : ∃ x, E[m]? = some x := ⟨_, List.getElem?_eq_getElem (by omega)⟩
     obtain ⟨e1, he1⟩ : ∃ x, E[m + 1]? = some x := ⟨_, List.getElem?_eq_getElem hlt⟩
     obtain ⟨_, gE, oE, rfl, hgE, q0⟩ := (hrdE.below hb).int he0
     obtain ⟨_, gE', oE', hA, _, q1⟩ := (hrdE.below hb).int he1
     injection hA with hA
     injection hA with hA1 hA2
     subst hA1 hA2
     rw [pcs_step he0 he1] at hpcs
     have HPC := Lib.hid hpcs
     have hlo : (0 : Int) <= (m : Int) := by omega
     have hhi : (m : Int) < (E.length : Int) := by omega
     have hhi2 : (m : Int) + 1 < (E.length : Int) := by omega
     have hlo2 : (0 : Int) <= (m : Int) + 1 := by omega
     clear he0 he1 hpcs
     go_upto_region 19 with (fail)
     go_region_held3 (fun w' => w'.cell? ⟨gE, oE + m, none⟩ = some (.int .i64 e0) /\ w'.cell? ⟨gE, oE + (m + 1), none⟩ = some (.int .i64 e1)) (go_keep) (fail)
     go_upto_region 20 with (fail)
     have hrow := heap_alloc_new wr (.cells #[.int .i64 e0, .int .i64 e1, .slice none 0 0] 319)
     have hbA := ((Below.refl wr.heap.size wr).alloc (Nat.le_refl _) (.cells #[.int .i64 e0, .int .i64 e1, .slice none 0 0] 319)).drew
     have hz8 : wr.heap.size < (wr.alloc (.cells #[.int .i64 e0, .int .i64 e1, .slice none 0 0] 319)).drew.heap.size := by simp
     have hrow8 : (wr.alloc (.cells #[.int .i64 e0, .int .i64 e1, .slice none 0 0] 319)).drew.heap[wr.heap.size]? = some (.cells #[.int .i64 e0, .int .i64 e1, .slice none 0 0] 319 (0, 0)) := hrow
     obtain ⟨W8, hW⟩ : ∃ W, W = (wr.alloc (.cells #[.int .i64 e0, .int .i64 e1, .slice none 0 0] 319)).drew := ⟨_, rfl⟩
     rw [<- hW] at hrow8 hbA hz8 ⊢
     clear hW hrow
     have hnlk := HNL.out
     have HNK := Lib.hid hnlk
     clear hnlk
     go_wp2_with fail
     go_loopw [72] (fun i wn => ∃ (j : Nat) (A8 : Option Addr) (c8 : Nat) (L8 : List Int), j <= k /\ i = .int .i64 (j : Int) /\ L8 = memL (ls.take j) e0 /\ L8.length <= j /\ wn.heap[wr.heap.size]? = some (.cells #[.int .i64 e0, .int .i64 e1, .slice A8 L8.length c8] 319 (0, 0)) /\ wn.ownsRow wr.heap.size 3 1 (.slice A8 L8.length c8) L8.length (ints L8) /\ Below wr.heap.size wr wn) (fun i _ => k - (intOf i).toNat)
     case atStart => exact ⟨0, none, 0, [], by omega, rfl, rfl, by simp, hrow8, World.ownsRow_nil _ _ _ _, hbA⟩
     case round =>
      clear hrow8 hbA hz8 q0 q1
      obtain ⟨wo, rfl⟩ : ∃ wo : World, wo = wr := ⟨_, rfl⟩
      obtain ⟨j, A8, c8, L8, hj, rfl, hL8, hL8l, hbox, hown8, hb8⟩ := hrel
      have hoz := hb8.size
      have hboxl : wr.heap.size < wo.heap.size := (gis hbox).1
      have b0 : wo.cell? ⟨wr.heap.size, 0, none⟩ = some (.int .i64 e0) := by rw [cell_of_row wo _ 0 _ _ _ hbox]; rfl
      have b2 : wo.cell? ⟨wr.heap.size, 2, none⟩ = some (.slice A8 L8.length c8) := by rw [cell_of_row wo _ 2 _ _ _ hbox]; rfl
      have bf := frozen_of_row wo wr.heap.size 2 _ _ hbox
      have hbn := hb.trans (hb8.mono hwsz)
      by_cases hlj : j < k
      ·have hjl : j < ls.length := by rw [HNK.out]; exact hlj
       obtain ⟨l, hl⟩ : ∃ l, ls[j]? = some l := ⟨_, List.getElem?_eq_getElem hjl⟩
       have hjv : j < vs'.length := by have := hownn6.1; omega
       have hvj := List.getElem?_eq_getElem hjv
       obtain ⟨A9, c9, e9, own9⟩ := hnls6.under hbn j _ l hlj hvj hl
       have hcn := (own_under hownn6 hbn).cells (g := w.heap.size) rfl j _ hvj
       rw [addAt, Nat.zero_add, e9] at hcn
       have hds : Ds wo A9 (nf (dset l)).length (nf (dset l)) := Ds.ofOwn own9 rfl
       have hll := nf_length_le (l := l) rfl
       have hll2 := HL.out l (List.mem_of_getElem? hl)
       have hmt := memL_take hl e0
       rw [<- hL8] at hmt
       have HMT := Lib.hid hmt
       have hdn : dset (nf (dset l)) e0 = dset l e0 := by rw [dset_nf, dset_isD]
       have HDN := Lib.hid hdn
       have hlo3 : (0 : Int) <= (j : Int) := by omega
       have hhi3 : (j : Int) < (k : Int) := by omega
       clear hmt hdn hl hvj e9 own9 hL8
       generalize nf (dset l) = M at *
       go_wp2_with fail
       refine (contains_any e0 hds (by omega)).mono ?_
       rintro e w9 ⟨rfl, hb9⟩
       rw [HDN.out]
       have hown9 := own_under hown8 hb9
       have hbox9 := (hb9.block wr.heap.size hboxl).trans hbox
       have hb10 := hb8.trans (hb9.mono hoz)
       have hz9 := hb9.size
       have q0' : w9.cell? ⟨wr.heap.size, 2, none⟩ = some (.slice A8 L8.length c8) := by rw [cell_of_row w9 _ 2 _ _ _ hbox9]; rfl
       have qf' := frozen_of_row w9 wr.heap.size 2 _ _ hbox9
       clear hown8 hbox hb8 hb9 b0 b2 bf hcn hds HDN
       cases hd : dset l e0 with
       | false =>
        rw [hd] at HMT
        clear hd
        go_wp2_with fail
        go_roundw
        case rel => exact ⟨j + 1, A8, c8, L8, by omega, by go_num, by rw [HMT.out]; simp, by omega, hbox9, hown9, hb10⟩
        case measure => simp [intOf]; omega
       | true =>
        rw [hd] at HMT
        clear hd
        have hno := own_ne hown9 hbox9 (by decide)
        go_wp2_with (at_builtin; go_loud (refine wpList_append_rd (by rfl) (.tmp 83) (.tmp 85) 45 (by rfl) wr.heap.size 3 i1 _ 1 8 Tryz.underlying45 hi1 hy0 hy1 hy2 rfl (by omega) _ L8.length (ints L8) (by rfl) (hown9.alloc _) (w9.heap.size + 1) (some ⟨w9.heap.size, 0, none⟩) 1 1 [.int .i64 (j : Int)] (by rfl) (Rd.built (heap_alloc_new w9 _) (by omega) rfl) (by intro u hu; simp at hu; rcases hu with rfl; rfl) (by unfold maxLen; omega) (by omega) (by simp; omega) ?_); intro v4 w4 hown4 hg4 hat4
                     obtain ⟨A4, c4, rfl, hnc4, hcm4, hA4⟩ := own_form hown4
                     have hbox4 := (hg4.block wr.heap.size (by simp; omega) (fun e => hno e.symm)).trans ((Below.heap_alloc _ _ _ (by omega)).trans hbox9)
                     have d4 : w4.cell? ⟨wr.heap.size, 2, none⟩ = some (.slice A8 L8.length c8) := by rw [cell_of_row w4 _ 2 _ _ _ hbox4]; rfl
                     have f4 := frozen_of_row w4 wr.heap.size 2 _ _ hbox4)
        have e1 : (L8 ++ [(j : Int)]).length = L8.length + 1 := by simp
        have hb11 := (hb10.alloc hb10.size (.cells #[.int .i64 (j : Int)] 3)).grown hg4 (by have := hb10.size; simp; omega) (fun g e => (hown9.lt g e).1)
        have hno4 := own_ne hown4 hbox4 (by decide)
        have hfin := heap_setCell_same w4 wr.heap.size 2 _ _ (.slice A4 (L8.length + 1) c4) hbox4
        refine ⟨⟨j + 1, A4, c4, L8 ++ [(j : Int)], by omega, by go_num, HMT.out.symm, by omega, ?_, ?_, hb11.setCell (Nat.le_refl _) _⟩, by simp [intOf]; omega⟩
        ·rw [e1]
         exact hfin
        ·rw [e1, ints_append]
         exact ownsRow_setCell_ne (p := ⟨wr.heap.size, 2, none⟩) hown4 hno4 _
      ·have hjk : ls.take j = ls := List.take_of_length_le (by have := HNK.out; omega)
       rw [hjk] at hL8
       have hpcs := HPC.out
       rw [<- hL8] at hpcs
       have HPC2 := Lib.hid hpcs
       have hpw8 := hpw.under hb8
       have hbb8 := hb.trans (hb8.mono hwsz)
       have hL8k : L8.length <= 50 := by omega
       clear hL8 hjk hpcs HPC hL8l
       by_cases hL0 : L8 = []
       ·subst hL0
        rw [addP_nil] at HPC2
        go_wp2_with fail
        go_roundw
        case rel => exact ⟨m + 1, X, by omega, by go_num, by omega, HIN.out, hpw8, HPC2.out, hbb8⟩
        case measure => simp [intOf]; omega
       ·have hlp : 0 < L8.length := List.length_pos_iff.2 hL0
        have hln : ((L8.length : Int) == 0) = false := beq_eq_false_iff_ne.2 (by omega)
        have HL0 := Lib.hid hL0
        clear hL0
        have hmr : Mr wo wr.heap.size ⟨⟨e0, e1, L8⟩, A8, c8⟩ := hown8
        go_upto_region 28 with (fail)
        have b1 : wo.cell? ⟨wr.heap.size, 1, none⟩ = some (.int .i64 e1) := by rw [cell_of_row wo _ 1 _ _ _ hbox]; rfl
        rcases List.eq_nil_or_concat X with rfl | ⟨X', q, rfl⟩
        ·have HPA : Hid (pcs (memL ls) (E.drop (m + 1)) (([] ++ [(⟨⟨e0, e1, L8⟩, A8, c8⟩ : Pw)]).map Pw.p) = pieces ls) := by
          have := HPC2.out
          have ea : addP (List.map Pw.p []) e0 e1 L8 = [⟨e0, e1, L8⟩] := if_neg HL0.out
          rw [ea] at this
          exact this
         have HNN : Hid (([] : List Pw).length = 0) := rfl
         clear HPC2
         go_quiet (fail)
         have hpw9 : Pws (wo.drewN nq) w6.heap.size (.slice A7 0 c7) [] := hpw8
         have hmr9 : Mr (wo.drewN nq) wr.heap.size ⟨⟨e0, e1, L8⟩, A8, c8⟩ := hmr
         go_wp2_with (at_builtin; go_loud (refine wpList_append_rd (by rfl) (.tmp 130) (.tmp 132) 316 (by rfl) w6.heap.size 319 i2 _ 3 40 Tryz.underlying316 hi2 hp0 hp1 hp2 rfl (by omega) _ 0 (flat Pw.cells []) (by rfl) (hpw9.1.alloc _) (wo.heap.size + 1) (some ⟨wo.heap.size, 0, none⟩) 1 1 [.int .i64 e0, .int .i64 e1, .slice A8 L8.length c8] (by rfl) (Rd.built (heap_alloc_new (wo.drewN nq) _) (by omega) rfl) (by intro u hu; simp at hu; rcases hu with rfl | rfl | rfl <;> rfl) (by unfold maxLen; omega) (by omega) (by simp; omega) ?_); intro v4 w4 hown4 hg4 hat4)
         have hba : Below (wo.drewN nq).heap.size (wo.drewN nq) ((wo.drewN nq).alloc (.cells #[.int .i64 e0, .int .i64 e1, .slice A8 L8.length c8] 319)) := (Below.refl _ _).alloc (Nat.le_refl _) _
         have hfin := (hpw9.under hba).grown (x := ⟨⟨e0, e1, L8⟩, A8, c8⟩) (own_under (ownsRow_base hmr9 hwsz) hba) hg4 (by rw [HNN.out]; exact hown4)
         have hbf := ((below_drewN hbb8 nq).alloc (by have := hbb8.size; simpa using this) (.cells #[.int .i64 e0, .int .i64 e1, .slice A8 L8.length c8] 319)).grown hg4 (by have := hbb8.size; simp; omega) (fun g e => (hpw9.1.lt g e).1)
         refine ⟨⟨m + 1, [] ++ [⟨⟨e0, e1, L8⟩, A8, c8⟩], by omega, by go_num, by have := HNN.out; rw [List.length_append]; simp only [List.length_cons, List.length_nil] at *; omega, ?_, hfin, HPA.out, hbf⟩, by simp [intOf]; omega⟩
         intro x hx
         rcases List.mem_append.1 hx with hx | hx
         ·exact HIN.out x hx
         ·rw [List.mem_singleton.1 hx]
          exact ⟨HL0.out, hL8k⟩
        ·rw [List.concat_eq_append] at *
         have hN1 : (X' ++ [q]).length = X'.length + 1 := by simp
         have hqx := HIN.out q (by simp)
         obtain ⟨hq0, hq50⟩ := hqx
         have HQ0 := Lib.hid hq0
         clear hq0
         obtain ⟨g2, rfl, hg2⟩ := hA7 (by omega)
         obtain ⟨_, b', o', eA, _, c0, c1, c2'⟩ := pw_cells (Rd.ofOwn hpw8.1) (show (X' ++ [q])[X'.length]? = some q by simp)
         injection eA with eA
         injection eA with eA1 eA2
         subst eA1 eA2
         rw [Nat.zero_add] at c0 c1 c2'
         have hf1 := hpw8.1.frozenAt (X'.length * 3 + 1)
         have hmq : Mr wo w6.heap.size q := hpw8.2 q (by simp)
         have hap := addP_map X' q e0 e1 L8
         rw [if_neg HL0.out] at hap
         have HAP := Lib.hid hap
         have hXN : X'.length = (X' ++ [q]).length - 1 := by omega
         rw [hXN] at c0 c1 c2' hf1
         have HXN := Lib.hid hXN
         have hset := fun (b : Int) => hpw8.setEnd b
         have HSE := Lib.hid hset
         have HN1 := Lib.hid hN1
         clear hap hXN hset hN1
         have HPW := Lib.hid hpw8
         clear hpw8
         generalize hN : (X' ++ [q]).length = N at *
         have HN := Lib.hid hN
         clear hN
         have hN0 : 0 < N := by have := HN1.out; omega
         have hN0' : (0 : Int) < (N : Int) := by omega
         have hN0'' : (1 : Int) <= (N : Int) := by omega
         have hN01 : 1 <= N := by omega
         by_cases hte : q.p.t = e0
         ·have hte2 : (q.p.t == e0) = true := beq_iff_eq.2 hte
          have hmq2 : wo.ownsRow w6.heap.size 3 1 (.slice q.a q.p.m.length q.c) q.p.m.length (ints q.p.m) := hmq
          have hmr2 : wo.ownsRow wr.heap.size 3 1 (.slice A8 L8.length c8) L8.length (ints L8) := hmr
          by_cases hml : q.p.m = L8
          ·have hdm : decide (q.p.m = L8) = true := decide_eq_true hml
           have HDM := Lib.hid hdm
           have HPA : Hid (pcs (memL ls) (E.drop (m + 1)) ((X' ++ [(⟨⟨q.p.f, e1, q.p.m⟩, q.a, q.c⟩ : Pw)]).map Pw.p) = pieces ls) := by
            have := HPC2.out
            rw [HAP.out, if_pos ⟨hte, hml⟩] at this
            rw [List.map_append]
            exact this
           clear HPC2 HAP hte hml hdm
           go_quiet ((go_at_call 238; exact equal_rows_q hmq2 hmr2 HQ0.out HL0.out (by omega) (by omega) HDM.out _))
           have hlx : (X' ++ [(⟨⟨q.p.f, e1, q.p.m⟩, q.a, q.c⟩ : Pw)]).length = N := by have := HN.out; simp at this ⊢; omega
           have HLX := Lib.hid hlx
           clear hlx
           go_wp2_with fail
           have hse := HSE.out e1
           rw [HXN.out] at hse
           have hdr : Below (wo.setCell ⟨g2, (N - 1) * 3 + 1, none⟩ (.int .i64 e1)).heap.size (wo.setCell ⟨g2, (N - 1) * 3 + 1, none⟩ (.int .i64 e1)) ((wo.drewN nq).setCell ⟨g2, (N - 1) * 3 + 1, none⟩ (.int .i64 e1)) := below_drewN (Below.refl _ _) nq
           have hfin := hse.under hdr
           have hg2b := ((HPW.out).1.lt g2 rfl).1
           refine ⟨⟨m + 1, X' ++ [⟨⟨q.p.f, e1, q.p.m⟩, q.a, q.c⟩], by omega, by go_num, by have := HLX.out; omega, ?_, hfin, HPA.out, (below_drewN hbb8 nq).setCell hg2b _⟩, by simp [intOf]; omega⟩
           intro x hx
           rcases List.mem_append.1 hx with hx | hx
           ·exact HIN.out x (by simp [hx])
           ·rw [List.mem_singleton.1 hx]
            exact ⟨HQ0.out, hq50⟩
          ·have hdm : decide (q.p.m = L8) = false := decide_eq_false hml
           have HDM := Lib.hid hdm
           have HPA : Hid (pcs (memL ls) (E.drop (m + 1)) ((X' ++ [q] ++ [(⟨⟨e0, e1, L8⟩, A8, c8⟩ : Pw)]).map Pw.p) = pieces ls) := by
            have := HPC2.out
            rw [HAP.out, if_neg (fun e => hml e.2)] at this
            rw [List.map_append]
            exact this
           have HNN : Hid ((X' ++ [q]).length = N) := HN.out
           clear HPC2 HAP hte hml hdm
           go_quiet ((go_at_call 238; exact equal_rows_q hmq2 hmr2 HQ0.out HL0.out (by omega) (by omega) HDM.out _))
           have hpw9 : Pws (wo.drewN nq) w6.heap.size (.slice (some ⟨g2, 0, none⟩) N c7) (X' ++ [q]) := HPW.out
           have hown9 : (wo.drewN nq).ownsRow w6.heap.size 319 3 (.slice (some ⟨g2, 0, none⟩) N c7) N (flat Pw.cells (X' ++ [q])) := by have := hpw9.1; rwa [HNN.out] at this
           have hmr9 : Mr (wo.drewN nq) wr.heap.size ⟨⟨e0, e1, L8⟩, A8, c8⟩ := hmr
           go_wp2_with (at_builtin; go_loud (refine wpList_append_rd (by rfl) (.tmp 130) (.tmp 132) 316 (by rfl) w6.heap.size 319 i2 _ 3 40 Tryz.underlying316 hi2 hp0 hp1 hp2 rfl (by omega) _ N (flat Pw.cells (X' ++ [q])) (by rfl) (hown9.alloc _) (wo.heap.size + 1) (some ⟨wo.heap.size, 0, none⟩) 1 1 [.int .i64 e0, .int .i64 e1, .slice A8 L8.length c8] (by rfl) (Rd.built (heap_alloc_new (wo.drewN nq) _) (by omega) rfl) (by intro u hu; simp at hu; rcases hu with rfl | rfl | rfl <;> rfl) (by unfold maxLen; omega) (by omega) (by simp; omega) ?_); intro v4 w4 hown4 hg4 hat4)
           have hba : Below (wo.drewN nq).heap.size (wo.drewN nq) ((wo.drewN nq).alloc (.cells #[.int .i64 e0, .int .i64 e1, .slice A8 L8.length c8] 319)) := (Below.refl _ _).alloc (Nat.le_refl _) _
           have hfin := (hpw9.under hba).grown (x := ⟨⟨e0, e1, L8⟩, A8, c8⟩) (own_under (ownsRow_base hmr9 hwsz) hba) hg4 (by rw [HNN.out]; exact hown4)
           have hbf := ((below_drewN hbb8 nq).alloc (by have := hbb8.size; simpa using this) (.cells #[.int .i64 e0, .int .i64 e1, .slice A8 L8.length c8] 319)).grown hg4 (by have := hbb8.size; simp; omega) (fun g e => (hpw9.1.lt g e).1)
           refine ⟨⟨m + 1, (X' ++ [q]) ++ [⟨⟨e0, e1, L8⟩, A8, c8⟩], by omega, by go_num, by rw [List.length_append, HNN.out]; simp; omega, ?_, hfin, HPA.out, hbf⟩, by simp [intOf]; omega⟩
           intro x hx
           rcases List.mem_append.1 hx with hx | hx
           ·exact HIN.out x hx
           ·rw [List.mem_singleton.1 hx]
            exact ⟨HL0.out, hL8k⟩
         ·have hte2 : (q.p.t == e0) = false := beq_eq_false_iff_ne.2 hte
          have HPA : Hid (pcs (memL ls) (E.drop (m + 1)) ((X' ++ [q] ++ [(⟨⟨e0, e1, L8⟩, A8, c8⟩ : Pw)]).map Pw.p) = pieces ls) := by
           have := HPC2.out
           rw [HAP.out, if_neg (fun e => hte e.1)] at this
           rw [List.map_append]
           exact this
          have HNN : Hid ((X' ++ [q]).length = N) := HN.out
          clear HPC2 HAP hte
          go_quiet (fail)
          have hpw9 : Pws (wo.drewN nq) w6.heap.size (.slice (some ⟨g2, 0, none⟩) N c7) (X' ++ [q]) := HPW.out
          have hown9 : (wo.drewN nq).ownsRow w6.heap.size 319 3 (.slice (some ⟨g2, 0, none⟩) N c7) N (flat Pw.cells (X' ++ [q])) := by have := hpw9.1; rwa [HNN.out] at this
          have hmr9 : Mr (wo.drewN nq) wr.heap.size ⟨⟨e0, e1, L8⟩, A8, c8⟩ := hmr
          go_wp2_with (at_builtin; go_loud (refine wpList_append_rd (by rfl) (.tmp 130) (.tmp 132) 316 (by rfl) w6.heap.size 319 i2 _ 3 40 Tryz.underlying316 hi2 hp0 hp1 hp2 rfl (by omega) _ N (flat Pw.cells (X' ++ [q])) (by rfl) (hown9.alloc _) (wo.heap.size + 1) (some ⟨wo.heap.size, 0, none⟩) 1 1 [.int .i64 e0, .int .i64 e1, .slice A8 L8.length c8] (by rfl) (Rd.built (heap_alloc_new (wo.drewN nq) _) (by omega) rfl) (by intro u hu; simp at hu; rcases hu with rfl | rfl | rfl <;> rfl) (by unfold maxLen; omega) (by omega) (by simp; omega) ?_); intro v4 w4 hown4 hg4 hat4)
          have hba : Below (wo.drewN nq).heap.size (wo.drewN nq) ((wo.drewN nq).alloc (.cells #[.int .i64 e0, .int .i64 e1, .slice A8 L8.length c8] 319)) := (Below.refl _ _).alloc (Nat.le_refl _) _
          have hfin := (hpw9.under hba).grown (x := ⟨⟨e0, e1, L8⟩, A8, c8⟩) (own_under (ownsRow_base hmr9 hwsz) hba) hg4 (by rw [HNN.out]; exact hown4)
          have hbf := ((below_drewN hbb8 nq).alloc (by have := hbb8.size; simpa using this) (.cells #[.int .i64 e0, .int .i64 e1, .slice A8 L8.length c8] 319)).grown hg4 (by have := hbb8.size; simp; omega) (fun g e => (hpw9.1.lt g e).1)
          refine ⟨⟨m + 1, (X' ++ [q]) ++ [⟨⟨e0, e1, L8⟩, A8, c8⟩], by omega, by go_num, by have := HNN.out; rw [List.length_append]; simp only [List.length_cons, List.length_nil] at *; omega, ?_, hfin, HPA.out, hbf⟩, by simp [intOf]; omega⟩
          intro x hx
          rcases List.mem_append.1 hx with hx | hx
          ·exact HIN.out x hx
          ·rw [List.mem_singleton.1 hx]
           exact ⟨HL0.out, hL8k⟩
    ·rw [pcs_end hlt] at hpcs
     have HX := Lib.hid hpcs
     clear hpcs
     go_wp2_with fail
     go_ret
     have hXl := congrArg List.length HX.out
     rw [List.length_map] at hXl
     have hbw := hb6.trans (hb.mono hz6)
     rw [hXl] at hpw ⊢
     exact ⟨_, _, X, rfl, HX.out, hpw.base hz6, hbw⟩
end
end Go.Proofs.YtnlopdmhdiegnaaGreatDoor
