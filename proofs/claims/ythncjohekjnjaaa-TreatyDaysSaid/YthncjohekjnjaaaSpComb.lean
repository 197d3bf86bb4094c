/- The reference's combine, and what is made of it: MakeSpans, Union, Intersect, Subtract, Clip. -/
import Derived.Test.YthncjohekjnjaaaSpEdges
namespace Go.Proofs.Ythncjohekjnjaaa
open Go.RowKit

def gk (kind : Int) (x y : Bool) : Bool := (decide (kind = 1) && x && y) || (decide (kind = 2) && (x || y)) || (decide (kind = 3) && x && !y)
theorem gk_ff (kind : Int) : gk kind false false = false := by simp [gk]
theorem kind_cases {kind : Int} (h : kind = 1 ∨ kind = 2 ∨ kind = 3) :
    ((kind == 1) = true ∧ (kind == 2) = false ∧ (kind == 3) = false ∧ ∀ x y, gk kind x y = (x && y)) ∨ ((kind == 1) = false ∧ (kind == 2) = true ∧ (kind == 3) = false ∧ ∀ x y, gk kind x y = (x || y)) ∨
    ((kind == 1) = false ∧ (kind == 2) = false ∧ (kind == 3) = true ∧ ∀ x y, gk kind x y = (x && !y)) := by
  rcases h with rfl | rfl | rfl
  · exact .inl ⟨rfl, rfl, rfl, fun x y => by cases x <;> cases y <;> rfl⟩
  · exact .inr (.inl ⟨rfl, rfl, rfl, fun x y => by cases x <;> cases y <;> rfl⟩)
  · exact .inr (.inr ⟨rfl, rfl, rfl, fun x y => by cases x <;> cases y <;> rfl⟩)
theorem addS_length : ∀ (l : List Sp) (a b : Int), (addS l a b).length ≤ l.length + 1
  | [], a, b => by simp [addS]
  | [s], a, b => by unfold addS; split <;> simp
  | s :: s' :: r, a, b => by
    have := addS_length (s' :: r) a b
    show (s :: addS (s' :: r) a b).length ≤ _
    simp only [List.length_cons] at *
    omega
theorem quiet_left {P : Program} {f : FuncId} {args : Array Value} {w : World} {n : Nat} {v : Value}
    (h : Calls P f args (w.drewN n) fun e w' => e = .returned v ∧ w.drewN n = w') : Calls P f args (w.drewN n) fun e w'' => e = .returned v ∧ ∃ m, w'' = w.drewN m :=
  h.mono fun _ _ ⟨he, hm⟩ => ⟨he, n, hm.symm⟩

set_option maxHeartbeats 4000000 in
set_option maxRecDepth 100000 in
theorem combine_any (A B : Option Addr) (n m c d : Nat) (la lb : List Sp) (kind : Int) (hkind : kind = 1 ∨ kind = 2 ∨ kind = 3) (w : World) (ha : Rd w w.heap.size 2 A n (flat Sp.cells la)) (hb : Rd w w.heap.size 2 B m (flat Sp.cells lb))
    (hla : la.length = n) (hlb : lb.length = m) (hn : n ≤ 5000) (hm : m ≤ 5000) :
    Calls Try.prog 39 #[.slice A n c, .slice B m d, .int .i64 kind] w fun e w' => ∃ v, e = .returned v ∧
      w'.ownsRow w.heap.size 48 2 v (nf fun x => gk kind (dset la x) (dset lb x)).length (flat Sp.cells (nf fun x => gk kind (dset la x) (dset lb x))) ∧ Below w.heap.size w w' := by
  have hce := comb_eq (gk kind) (gk_ff kind) la lb
  have hes : (edgL (edgL [] la) lb).Pairwise (· < ·) := edgL_sorted lb (edgL_sorted la List.Pairwise.nil)
  have hel1 := edgL_length la []
  have hel2 := edgL_length lb (edgL [] la)
  have hn6 : n ≤ 1000000 := by omega
  have hm6 : m ≤ 1000000 := by omega
  have HLA := Lib.hid hla
  have HLB := Lib.hid hlb
  have hel : (edgL (edgL [] la) lb).length ≤ 20000 := by simp at hel1; omega
  have hcl := combS_length (fun x => gk kind (dset la x) (dset lb x)) (edgL (edgL [] la) lb) []
  have HCE := Lib.hid hce
  have HES := Lib.hid hes
  have HCL := Lib.hid hcl
  have HKD := Lib.hid hkind
  clear hel1 hel2 hla hlb hce hes hcl hkind
  go_enter Try.func39, Try.ntmps39
  go_wp2_with fail
  obtain ⟨W0, hW0, hR0, hba, hz0⟩ : ∃ W0, W0 = w.alloc (.cells #[.slice A n c, .slice B m d] 34) ∧ Rd W0 W0.heap.size 1 (some ⟨w.heap.size, 0, none⟩) 2 ([SRow.mk A n c la, SRow.mk B m d lb].map SRow.val) ∧ Below w.heap.size w W0 ∧ w.heap.size ≤ W0.heap.size :=
    ⟨_, rfl, Rd.built (cs := #[.slice A n c, .slice B m d]) (heap_alloc_new w _) (by simp) rfl, (Below.refl w.heap.size w).alloc (Nat.le_refl _) _, by simp⟩
  rw [← hW0]
  clear hW0
  refine (edges_any (some ⟨w.heap.size, 0, none⟩) 2 2 [⟨A, n, c, la⟩, ⟨B, m, d, lb⟩] W0 hR0 ?_ rfl (by omega)).mono ?_
  · intro r hr
    rcases List.mem_cons.1 hr with rfl | hr
    · exact ⟨(ha.below hba).mono hz0, HLA.out, hn⟩
    · obtain rfl := List.mem_singleton.1 hr
      exact ⟨(hb.below hba).mono hz0, HLB.out, hm⟩
  rintro e w1 ⟨A', c', rfl, hrdE, hb1⟩
  have hee : edgR [⟨A, n, c, la⟩, ⟨B, m, d, lb⟩] [] = edgL (edgL [] la) lb := rfl
  rw [hee] at hrdE ⊢
  have hbb1 := hba.trans (hb1.mono hz0)
  have hz1 := hbb1.size
  clear hee hb1 hba hR0 hz0
  generalize edgL (edgL [] la) lb = E at *
  generalize hEl : E.length = el at *
  have HEL := Lib.hid hEl
  clear hEl
  go_wp2_with fail
  go_loopw [8, 9] (fun v i wr => ∃ (k : Nat) (O : List Sp), k ≤ el ∧ i = .int .i64 (k : Int) ∧ combS (fun x => gk kind (dset la x) (dset lb x)) (E.drop k) O = combS (fun x => gk kind (dset la x) (dset lb x)) E [] ∧ O.length ≤ k ∧ wr.ownsRow w.heap.size 48 2 v O.length (flat Sp.cells O) ∧ Below w1.heap.size w1 wr) (fun _ i _ => el - (intOf i).toNat)
  case atStart => exact ⟨0, [], by omega, rfl, rfl, by simp, World.ownsRow_nil _ _ _ _, Below.refl _ _⟩
  case round =>
    obtain ⟨k, O, hk, rfl, hcomb, hOk, hown, hbr⟩ := hrel
    have hwsz := hbr.size
    have hw1 : IntKind.i64.wrap ((k : Int) + 1) = (k : Int) + 1 := IntWalk.i64_in _ (by omega)
    by_cases hlt : k + 1 < el
    · have hkl : k + 1 < E.length := by rw [HEL.out]; exact hlt
      obtain ⟨e0, he0⟩ : ∃ x, E[k]? = some x := ⟨_, List.getElem?_eq_getElem (by omega)⟩
      obtain ⟨e1, he1⟩ : ∃ x, E[k + 1]? = some x := ⟨_, List.getElem?_eq_getElem hkl⟩
      obtain ⟨_, gE, oE, rfl, hgE, q0⟩ := (hrdE.below hbr).int he0
      obtain ⟨_, gE', oE', hA, _, q1⟩ := (hrdE.below hbr).int he1
      injection hA with hA
      injection hA with hA1 hA2
      subst hA1 hA2
      have hd1 : E.drop k = e0 :: e1 :: E.drop (k + 2) := by
        obtain ⟨h1, h2⟩ := List.getElem?_eq_some_iff.1 he0
        obtain ⟨h3, h4⟩ := List.getElem?_eq_some_iff.1 he1
        rw [List.drop_eq_getElem_cons h1, List.drop_eq_getElem_cons h3, h2, h4]
      have hd2 : E.drop (k + 1) = e1 :: E.drop (k + 2) := by
        obtain ⟨h3, h4⟩ := List.getElem?_eq_some_iff.1 he1
        rw [List.drop_eq_getElem_cons h3, h4]
      have hstep : combS (fun x => gk kind (dset la x) (dset lb x)) (E.drop (k + 1)) (if gk kind (dset la e0) (dset lb e0) = true then addS O e0 e1 else O) = combS (fun x => gk kind (dset la x) (dset lb x)) E [] := by
        rw [← hcomb, hd1, hd2]
        rfl
      have HST := Lib.hid hstep
      have hlo : (0 : Int) ≤ (k : Int) := by omega
      have hhi : (k : Int) < (el : Int) := by omega
      have hhi2 : (k : Int) + 1 < (el : Int) := by omega
      have hlo2 : (0 : Int) ≤ (k : Int) + 1 := by omega
      have har := ((ha.below hbb1).belowLe hbr hz1).mono (Nat.le_trans hz1 hwsz)
      have hbr2 := ((hb.below hbb1).belowLe hbr hz1).mono (Nat.le_trans hz1 hwsz)
      obtain ⟨A2, c2, rfl, _, _, _⟩ := own_form hown
      clear he0 he1 hd1 hd2 hstep hcomb
      go_wp2_with fail
      go_quiet ((first | (go_at_call 17; with_reducible exact quiet_left (rcontains_any A n c la e0 _ (har.drewN _) HLA.out hn6)) | (go_at_call 17; with_reducible exact quiet_left (rcontains_any B m d lb e0 _ (hbr2.drewN _) HLB.out hm6))))
      have hrdO : Rd (wr.drewN (nq + 1)) (wr.drewN (nq + 1)).heap.size 2 A2 O.length (flat Sp.cells O) := (Rd.ofOwn hown).drewN _
      have hO6 : O.length ≤ 1000000 := by omega
      have hgW : gE < wr.heap.size := by omega
      have hww : w.heap.size ≤ wr.heap.size := by omega
      have hbq := below_drewN hbr (nq + 1)
      have hbq0 := below_drewN hbr nq
      have hownq : (wr.drewN nq).ownsRow w.heap.size 48 2 (.slice A2 O.length c2) O.length (flat Sp.cells O) := hown
      generalize dset la e0 = x at *
      generalize dset lb e0 = y at *
      clear har hbr2 hbr hown
      rcases kind_cases HKD.out with ⟨k1, k2, k3, hg⟩ | ⟨k1, k2, k3, hg⟩ | ⟨k1, k2, k3, hg⟩
      all_goals
        rw [hg] at HST
        clear hg
        cases x <;> cases y
      all_goals first
        | (go_wp2_with fail
           go_roundw
           case rel => exact ⟨k + 1, O, by omega, by go_num, HST.out, by omega, hownq, hbq0⟩
           case measure => simp [intOf]; omega)
        | (go_wp2_with fail
           go_region_held3 (fun w' => w'.cell? ⟨gE, oE + k, none⟩ = some (.int .i64 e0) ∧ w'.cell? ⟨gE, oE + (k + 1), none⟩ = some (.int .i64 e1)) (go_keep)
             (first | (go_at_call 57; refine (radd_any A2 O.length c2 O e0 e1 _ hrdO rfl hO6).mono ?_; rintro e w4 ⟨v4, rfl, hown4, hb4⟩
                       obtain ⟨A4, c4, rfl, _, _, _⟩ := own_form hown4
                       have k0 : w4.cell? ⟨gE, oE + k, none⟩ = some (.int .i64 e0) := (hb4.cell (p := ⟨gE, oE + k, none⟩) hgW).trans q0
                       have k1 : w4.cell? ⟨gE, oE + (k + 1), none⟩ = some (.int .i64 e1) := (hb4.cell (p := ⟨gE, oE + (k + 1), none⟩) hgW).trans q1))
           go_wp2_with fail
           go_roundw
           case rel => exact ⟨k + 1, addS O e0 e1, by omega, by go_num, HST.out, by have := addS_length O e0 e1; omega, ownsRow_base hown4 hww, hbq.trans (hb4.mono hwsz)⟩
           case measure => simp [intOf]; omega)
    · have hend : combS (fun x => gk kind (dset la x) (dset lb x)) (E.drop k) O = O := by
        have hdl : (E.drop k).length ≤ 1 := by rw [List.length_drop, HEL.out]; omega
        match hE : E.drop k, hdl with
        | [], _ => rfl
        | [_], _ => rfl
        | _ :: _ :: _, hdl => simp at hdl
      rw [hend, HCE.out] at hcomb
      subst hcomb
      obtain ⟨A2, c2, rfl, _, _, _⟩ := own_form hown
      clear hend
      go_wp2_with fail
      go_ret
      exact ⟨_, rfl, hown, hbb1.trans (hbr.mono hz1)⟩
end Go.Proofs.Ythncjohekjnjaaa
