/- Lemmas (no conditions): SpSort, Cal, TreatyP, OverB, OverC -/
import Derived.Test.YtnlopdmhdiegnaaGreatDoorPk03
import Derived.Test.YtnlopdmhdiegnaaGreatDoorPk04
set_option linter.unusedSimpArgs false
set_option linter.unusedVariables false
set_option maxRecDepth 100000
set_option maxHeartbeats 64000000
namespace Go.Proofs.YtnlopdmhdiegnaaGreatDoor
open Go.RowKit
section
open Go.Sort (Holds grow SWO PermIn SortedIn flatK get_flatK HoldsK putRowK putRowK_grow holdsK_grow holdsK_ahead holdsK_putRowK cell?_putRowK_other)
instance : Inhabited Sp := ⟨⟨0, 0⟩⟩
def ltS (a b : Sp) : Bool := decide (a.f < b.f)
theorem swo_ltS : SWO ltS where
 irrefl := fun x => by simp [ltS]
 trans := fun x y z h1 h2 => by simp [ltS] at *; omega
 ntrans := fun x y z h1 h2 => by simp [ltS] at *; omega
theorem asc_of : ∀ {l : List Sp}, l.Pairwise (fun a b => a.f <= b.f) -> Asc l
 | [], _ => trivial
 | _ :: _, h => ⟨(List.pairwise_cons.1 h).1, asc_of (List.pairwise_cons.1 h).2⟩
theorem flatK_at {l : List Sp} {j : Nat} {u : Value} (h : (flat Sp.cells l)[j]? = some u) : j < l.toArray.size * 2 /\ (flatK Sp.cells 2 l.toArray)[j]! = u := by
 have hj : j < l.length * 2 := by
  have := (List.getElem?_eq_some_iff.1 h).1
  rwa [sp_flen] at this
 have hj2 : j < l.toArray.size * 2 := by simpa using hj
 refine ⟨hj2, ?_⟩
 rw [get_flatK Sp.cells 2 l.toArray j hj2]
 have hx : l[j / 2]? = some (l[j / 2]'(by omega)) := List.getElem?_eq_getElem (by omega)
 have hg := flat_get sp_len l (j / 2) (j % 2) _ hx (by omega)
 rw [show j / 2 * 2 + j % 2 = j by omega, h] at hg
 have e1 : l.toArray[j / 2]! = l[j / 2]'(by omega) := by simp [show j / 2 < l.length by omega]
 rw [e1, List.getElem!_eq_getElem?_getD, <- hg]
 rfl
noncomputable def tyS : TypeInfo := (Tryz.prog.info? 180).get (by kernel_rfl)
noncomputable def tyE : TypeInfo := (Tryz.prog.info? 32).get (by kernel_rfl)
theorem tyK (n : Nat) (h2 : 2 <= n) : Lib.swapperK n tyE 25 = 9 := by
 have a : tyE.hasPointers = false := by kernel_rfl
 have b : tyE.bytes = 16 := by kernel_rfl
 have c : (n == 0) = false := by simp; omega
 have d : (n == 1) = false := by simp; omega
 simp [Lib.swapperK, a, b, c, d]
theorem less_any (blk off c Bs size : Nat) (W : World) (G : Nat -> Int) (hs : W.cell? ⟨Bs, 0, none⟩ = some (.slice (some ⟨blk, off, none⟩) size c))
  (hc : ∀ t, t < size -> W.cell? ⟨blk, off + t * 2, none⟩ = some (.int .i64 (G t))) (i j : Nat) (hi : i < size) (hj : j < size) (_hsz : size < 4611686018427387904) :
  Calls Tryz.prog 210 #[.int .i64 i, .int .i64 j, .pointer (some ⟨Bs, 0, none⟩)] W fun e w' => e = .returned (.bool (decide (G i < G j))) /\ ∃ q, w' = W.drewN q := by
 have ci := hc i hi
 have cj := hc j hj
 go_enter Tryz.func210, Tryz.ntmps210
 go_wp2
 go_quiet (fail)
 go_wp2
 go_ret
 exact ⟨rfl, nq, rfl⟩
theorem own_holds {w : World} {base g c : Nat} {l : List Sp} (h : w.ownsRow base 32 2 (.slice (some ⟨g, 0, none⟩) l.length c) l.length (flat Sp.cells l)) : HoldsK Sp.cells 2 w g 0 l.toArray := by
 intro j hj
 have hj2 : j < l.length * 2 := by simpa [flatK] using hj
 have hx : ∃ u, (flat Sp.cells l)[j]? = some u := ⟨_, List.getElem?_eq_getElem (by rw [sp_flen]; exact hj2)⟩
 obtain ⟨u, hu⟩ := hx
 have hc := h.cells (g := g) rfl j u hu
 rw [addAt] at hc
 refine ⟨hc.trans ?_, h.frozenAt _⟩
 rw [(flatK_at hu).2]
 rfl
theorem holds_rd {w : World} {g n : Nat} {d : Array Sp} (h : HoldsK Sp.cells 2 w g 0 d) (hg : g < w.heap.size) (hn : d.size = n) : Rd w w.heap.size 2 (some ⟨g, 0, none⟩) n (flat Sp.cells d.toList) := by
 refine ⟨by rw [sp_flen]; simp [hn], fun _ => ⟨g, 0, rfl, hg, fun j u hu => ?_⟩⟩
 obtain ⟨hj, he⟩ := flatK_at hu
 have := (h j (by simpa [flatK] using hj)).1
 rw [this]
 have e : d.toList.toArray = d := by simp
 rw [e] at he
 exact congrArg some he
theorem sort_spans (base n c Bs : Nat) (A : Option Addr) (l : List Sp) (w : World) (hown : w.ownsRow base 32 2 (.slice A n c) n (flat Sp.cells l)) (hn : n <= 1000000) (hbase : base <= w.heap.size)
  (hBs : w.heap[Bs]? = some (.cells #[.slice A n c] 180 (0, 0))) :
  Calls Tryz.prog 209 #[.iface 180 (.slice A n c), .func (.func 210) #[] #[.pointer (some ⟨Bs, 0, none⟩)]] w fun e w' =>
   e = .returned (.tuple #[]) /\ ∃ k : List Sp, k.Perm l /\ Asc k /\ Rd w' w'.heap.size 2 A n (flat Sp.cells k) /\ w'.cell? ⟨Bs, 0, none⟩ = some (.slice A n c) /\ Below base w w' := by
 have hlen := (show Rd w w.heap.size 2 A n (flat Sp.cells l) from Rd.ofOwn hown).lenS
 have hB1 : Bs < w.heap.size := (gis hBs).1
 have hcell : w.cell? ⟨Bs, 0, none⟩ = some (.slice A n c) := by rw [cell_of_row w Bs 0 _ _ _ hBs]; rfl
 by_cases h1 : n <= 1
 ·have hK : ∃ f, Tryz.prog.funcs.findIdx? (·.name == "internal/reflectlite" ++ ".Swapper$" ++ toString (Lib.swapperK n tyE 25)) = some f := by
   rcases Nat.le_one_iff_eq_zero_or_eq_one.1 h1 with rfl | rfl
   ·exact ⟨301, by kernel_rfl⟩
   ·exact ⟨302, by kernel_rfl⟩
  obtain ⟨f, hf⟩ := hK
  refine (Any.sort_Slice_tiny Tryz.laysGg6 180 32 tyS tyE (by kernel_rfl) (by kernel_rfl) (by kernel_rfl) (by kernel_rfl) 25 (fun _ => by kernel_rfl) A n c h1 f hf _ _ _ w).mono ?_
  rintro e w' ⟨rfl, os, rfl⟩
  have hb : Below w.heap.size w (grow w os) := ⟨rfl, rfl, rfl, by simp, fun i hi => Go.Sort.heap_grow_old w os hi⟩
  refine ⟨rfl, l, List.Perm.refl _, ?_, ((Rd.ofOwn hown).below hb).mono hb.size, (hb.cell (p := ⟨Bs, 0, none⟩) hB1).trans hcell, ?_⟩
  ·match l, hlen with
   | [], _ => exact trivial
   | [x], _ => exact ⟨by simp, trivial⟩
   | x :: y :: r, hlen => simp at hlen; omega
  ·exact hb.mono hbase
 ·subst hlen
  rcases hown.2 with ⟨hv, _⟩ | ⟨g, cap, cur, hv, hbg, hg, hnc, hcm, hcs, ht⟩
  ·injection hv with _ h0
   omega
  ·injection hv with hA _ hc
   subst hA; subst hc
   have hglt : g < w.heap.size := (gis hg).1
   have hH := own_holds hown
   have hne : Bs ≠ g := by
    rintro rfl
    rw [hBs] at hg
    injection hg with hg
    injection hg with _ hg
    revert hg
    decide
   have hless : LessReadsK Tryz.prog 210 #[.pointer (some ⟨Bs, 0, none⟩)] Sp.cells 2 ltS g 0 l.toArray.size w := by
    intro m os dk hs i j hi hj
    have e : sortWorldK Sp.cells 2 w g 0 m dk os = putRowK Sp.cells 2 (grow (Sort.ahead w m) os) g 0 dk := by
     unfold sortWorldK; rw [putRowK_grow _ _ (Sort.ahead w m) _ g 0 _ hglt]
    have hHg : HoldsK Sp.cells 2 (grow (Sort.ahead w m) os) g 0 l.toArray := holdsK_grow _ _ _ _ g 0 _ hglt (holdsK_ahead _ _ _ _ _ _ _ hH)
    refine less_any g 0 c Bs l.toArray.size _ (fun t => dk[t]!.f) ?_ (fun t ht => ?_) i j hi hj (by simp; omega)
    ·rw [e, cell?_putRowK_other _ _ _ g 0 dk _ (by exact hne), Go.Sort.cell?_grow _ _ _ (by exact hB1)]; exact hcell
    ·rw [e]; exact ((holdsK_putRowK _ _ _ g 0 _ dk hHg hs).cell (i := t) (c := 0) (by omega) (by omega)).1
   have hsz : l.toArray.size = l.length := by simp
   refine (Any.sort_Slice_cells_sorted Tryz.laysGg6 180 32 tyS tyE (by kernel_rfl) (by kernel_rfl) (by kernel_rfl) (by kernel_rfl) 25 (fun _ => by kernel_rfl) Sp.cells 2 sp_len (by kernel_rfl) (fun _ => by kernel_rfl)
    (fun x v hv => by simp [Sp.cells] at hv; rcases hv with rfl | rfl <;> rfl) ltS swo_ltS 210 _
    (enters_of Tryz.func210 (by kernel_rfl) rfl) g 0 c l.toArray (by simp; omega) (by simp; omega) 309 (by rw [tyK _ (by simp; omega)]; kernel_rfl) false
    (fun args W => run_callFunc_extern Tryz.func309 (by kernel_rfl) (by kernel_rfl) (by kernel_rfl) (e := Extern.ReflectliteSwapper.swap false) (by kernel_rfl) args W) w hless hH hglt).mono ?_
   rintro e w' ⟨rfl, d', q, os, ⟨p1, _, p3⟩, hsort, rfl⟩
   have hHs := holdsK_grow Sp.cells 2 (putRowK Sp.cells 2 (Sort.ahead w q) g 0 d') os g 0 d' (by simp [putRowK, Go.Sort.putRow, Go.Sort.mapBlock, Sort.ahead]; exact hglt) (holdsK_putRowK Sp.cells 2 (Sort.ahead w q) g 0 _ d' (holdsK_ahead _ _ _ _ _ _ _ hH) p1)
   have hgs : (putRowK Sp.cells 2 (Sort.ahead w q) g 0 d').heap.size = w.heap.size := by simp [putRowK, Go.Sort.putRow, Go.Sort.mapBlock, Sort.ahead]
   refine ⟨rfl, d'.toList, ?_, ?_, ?_, ?_, ?_⟩
   ·have e1 : d'.extract 0 l.toArray.size = d' := by rw [<- p1]; simp
    rw [e1] at p3
    simpa using p3
   ·refine asc_of (List.pairwise_iff_getElem.2 fun i j hi hj hij => ?_)
    have hj2 : j < l.toArray.size := by rw [<- p1]; simpa using hj
    have := hsort i j (Nat.zero_le _) hij hj2
    have hi3 : i < d'.size := by simpa using hi
    have hj3 : j < d'.size := by simpa using hj
    rw [getElem!_pos d' j hj3, getElem!_pos d' i hi3] at this
    simp only [ltS, decide_eq_false_iff_not] at this
    simp only [Array.getElem_toList]
    omega
   ·exact holds_rd hHs (by rw [Go.Sort.size_grow, hgs]; omega) (by rw [p1]; simp)
   ·rw [Go.Sort.cell?_grow _ _ _ (by rw [hgs]; exact hB1), cell?_putRowK_other _ _ _ g 0 d' _ (by exact hne)]
    exact hcell
   ·refine ⟨rfl, rfl, rfl, by rw [Go.Sort.size_grow, hgs]; omega, fun i hi => ?_⟩
    rw [Go.Sort.heap_grow_old _ _ (by rw [hgs]; omega)]
    show (w.heap.modify g _)[i]? = w.heap[i]?
    rw [Array.getElem?_modify, if_neg (by omega)]
end
section
def lpY (y : Nat) : Bool := (y % 4 == 0 && y % 100 != 0) || y % 400 == 0
def lenYM (y k : Nat) : Nat := if k = 1 then (if lpY y = true then 29 else 28) else if k = 3 ∨ k = 5 ∨ k = 8 ∨ k = 10 then 30 else 31
def lenMo (m : Nat) : Nat := lenYM (1900 + m / 12) (m % 12)
def msM : Nat -> Nat
 | 0 => 0
 | m + 1 => msM m + lenMo m
theorem lenYM_pos (y k : Nat) : 28 <= lenYM y k /\ lenYM y k <= 31 := by
 unfold lenYM
 split
 ·split <;> omega
 ·split <;> omega
def lenY (y : Nat) : Nat := if lpY y = true then 366 else 365
theorem msM_year (n k : Nat) (h : k <= 12) : msM (12 * n + k) = msM (12 * n) + ((List.range k).map (lenYM (1900 + n))).sum := by
 induction k with
 | zero => simp
 | succ k ih =>
  have e : 12 * n + (k + 1) = (12 * n + k) + 1 := by omega
  rw [e]
  show msM (12 * n + k) + lenMo (12 * n + k) = _
  rw [ih (by omega), List.range_succ, List.map_append, List.sum_append]
  have e2 : lenMo (12 * n + k) = lenYM (1900 + n) k := by
   unfold lenMo
   rw [show (12 * n + k) / 12 = n by omega, show (12 * n + k) % 12 = k by omega]
  rw [e2]
  simp
  omega
theorem msM_next (n : Nat) : msM (12 * (n + 1)) = msM (12 * n) + lenY (1900 + n) := by
 have h := msM_year n 12 (Nat.le_refl _)
 rw [show 12 * (n + 1) = 12 * n + 12 by omega, h]
 congr 1
 unfold lenY
 cases hl : lpY (1900 + n) <;> simp [List.range, List.range.loop, lenYM, hl]
theorem msM_start (n : Nat) (h : n <= 200) : msM (12 * n) = 365 * n + (n - 1) / 4 := by
 induction n with
 | zero => rfl
 | succ n ih =>
  rw [msM_next, ih (by omega)]
  unfold lenY lpY
  by_cases h4 : n % 4 = 0
  ·by_cases h0 : n = 0
   ·subst h0
    rfl
   ·have a1 : (1900 + n) % 4 = 0 := by omega
    by_cases h5 : n = 100
    ·subst h5
     rfl
    ·have a2 : (1900 + n) % 100 ≠ 0 := by omega
     rw [if_pos (by simp [a1, a2])]
     omega
  ·have a1 : (1900 + n) % 4 ≠ 0 := by omega
   have a3 : (1900 + n) % 400 ≠ 0 := by omega
   rw [if_neg (by simp [a1, a3])]
   omega
end
section
structure Ru where
 f : Int
 d : Int
 p : Int
 b : Int
 m : List Int
def atT (L : List Ru) (x : Int) : Option Ru := if isD x = true then L.reverse.find? (fun r => decide (r.f <= x)) else none
theorem atT_day {L : List Ru} {x : Int} (h : isD x = false) : atT L x = none := by unfold atT; rw [h]; rfl
theorem atT_snoc (L : List Ru) (r : Ru) {x : Int} (h : isD x = true) : atT (L ++ [r]) x = if r.f <= x then some r else atT L x := by
 unfold atT
 rw [if_pos h, if_pos h, List.reverse_append, List.reverse_cons, List.reverse_nil, List.nil_append, List.singleton_append, List.find?_cons]
 by_cases hr : r.f <= x
 ·rw [if_pos hr, decide_eq_true hr]
 ·rw [if_neg hr, decide_eq_false hr]
theorem atT_take {L : List Ru} {k : Nat} {r : Ru} (hr : L[k]? = some r) {x : Int} (h : isD x = true) : atT (L.take (k + 1)) x = if r.f <= x then some r else atT (L.take k) x := by
 rw [show L.take (k + 1) = L.take k ++ [r] by rw [List.take_add_one, hr]; rfl]
 exact atT_snoc _ _ h
theorem atT_mem {L : List Ru} {x : Int} {r : Ru} (h : atT L x = some r) : r ∈ L /\ r.f <= x /\ isD x = true := by
 unfold atT at h
 split at h
 ·rename_i hd
  have h1 := List.mem_of_find?_eq_some h
  have h2 := List.find?_some h
  exact ⟨List.mem_reverse.1 h1, of_decide_eq_true h2, hd⟩
 ·cases h
def okM : Int -> List Int -> Bool
 | _, [] => true
 | b, s :: r => decide (b < s /\ s <= 5) && okM s r
def okR (r : Ru) : Bool := decide (0 <= r.f /\ r.f <= 73048 /\ 0 <= r.d /\ r.d <= 73049 /\ 0 <= r.p /\ r.p <= 73049 /\ 0 <= r.b /\ r.b <= 100) && okM (-1) r.m
def okT : Int -> List Ru -> Bool
 | _, [] => true
 | b, r :: L => okR r && decide (b < r.f) && okT r.f L
def chkT (L : List Ru) : Int := if 8 < L.length then 7 else match L with
 | [] => 1
 | r :: L => if r.f = 0 then if okT (-1) (r :: L) = true then 0 else 1 else 1
end
section
theorem mem_memI : ∀ (ls : List (List Sp)) (i : Nat) (x j : Int), j ∈ memI i ls x ↔ ∃ (k : Nat) (l : List Sp), j = ((i + k : Nat) : Int) /\ ls[k]? = some l /\ dset l x = true
 | [], i, x, j => by simp [memI]
 | q :: ls, i, x, j => by
  have ih := mem_memI ls (i + 1) x j
  have e : j ∈ memI i (q :: ls) x ↔ (dset q x = true /\ j = (i : Int)) ∨ j ∈ memI (i + 1) ls x := by
   show j ∈ (if dset q x = true then (i : Int) :: memI (i + 1) ls x else memI (i + 1) ls x) ↔ _
   split
   ·rename_i h
    simp [h]
   ·rename_i h
    simp [h]
  rw [e, ih]
  constructor
  ·rintro (⟨h1, h2⟩ | ⟨k, l, h1, h2, h3⟩)
   ·exact ⟨0, q, by simpa using h2, rfl, h1⟩
   ·exact ⟨k + 1, l, by rw [h1]; congr 1; omega, h2, h3⟩
  ·rintro ⟨k, l, h1, h2, h3⟩
   cases k with
   | zero =>
    simp at h2
    subst h2
    exact .inl ⟨h3, by simpa using h1⟩
   | succ k => exact .inr ⟨k, l, by rw [h1]; congr 1; omega, by simpa using h2, h3⟩
theorem memL_inj {ls : List (List Sp)} {x y : Int} (h : memL ls x = memL ls y) : ∀ l ∈ ls, dset l x = dset l y := by
 intro l hl
 obtain ⟨k, hk⟩ := List.mem_iff_getElem?.1 hl
 have key : ∀ z, ((0 + k : Nat) : Int) ∈ memL ls z ↔ dset l z = true := fun z => by
  unfold memL
  rw [mem_memI]
  constructor
  ·rintro ⟨k', l', h1, h2, h3⟩
   have : k' = k := by omega
   subst this
   rw [hk] at h2
   cases h2
   exact h3
  ·intro h3
   exact ⟨k, l, rfl, hk, h3⟩
 rw [Bool.eq_iff_iff, <- key x, <- key y, h]
theorem memL_empty {ls : List (List Sp)} {x : Int} (h : memL ls x = []) : ∀ l ∈ ls, dset l x = false := by
 intro l hl
 obtain ⟨k, hk⟩ := List.mem_iff_getElem?.1 hl
 rw [Bool.eq_false_iff]
 intro h3
 have : ((0 + k : Nat) : Int) ∈ memI 0 ls x := (mem_memI ls 0 x _).2 ⟨k, l, rfl, hk, h3⟩
 unfold memL at h
 rw [h] at this
 simp at this
def resA (C : List Pr) (O : List Pc) (a b : Int) : List Pc := if a < b then addP O a b (memC C a) else O
def resP (C : List Pr) : List Pc -> List Pc -> List Pc
 | [], O => O
 | p :: r, O => resP C r (resA C (resA C O p.f (p.f + 1)) (p.f + 1) p.t)
theorem resP_ok {C : List Pr} : ∀ (P : List Pc) {lo : Int} {pm : List Int} {O : List Pc}, PN lo pm P -> 0 <= lo -> PN 0 [] O -> UptoP O lo -> (∀ x, valP O x = if x < lo then memC C x else []) →
  (∀ x, lo <= x -> valP P x = [] -> memC C x = []) -> (∀ p ∈ P, ∀ x, p.f + 1 <= x -> x < p.t -> memC C x = memC C (p.f + 1)) -> Res C (resP C P O)
 | [], lo, pm, O, _, _, hO, _, hv, hno, _ => by
  refine ⟨hO, fun x => ?_⟩
  show valP O x = _
  rw [hv x]
  split
  ·rfl
  ·exact (hno x (by omega) rfl).symm
 | p :: r, lo, pm, O, ⟨h1, h2, h3, h4, h5⟩, h0, hO, hu, hv, hno, hc => by
  have hu1 : UptoP O p.f := fun q hq => Int.le_trans (hu q hq) h1
  have a1 := addP_pn (m := memC C p.f) hO hu1 (show (0 : Int) <= p.f by omega) (fun _ => .inl rfl) (show p.f < p.f + 1 by omega)
  have a2 := addP_upto (m := memC C p.f) hu1 (show p.f <= p.f + 1 by omega)
  have a3 := addP_val (m := memC C p.f) (pn_ft hO) hu1 (show p.f < p.f + 1 by omega)
  have e1 : resA C O p.f (p.f + 1) = addP O p.f (p.f + 1) (memC C p.f) := by unfold resA; rw [if_pos (by omega)]
  have v1 : ∀ x, valP (addP O p.f (p.f + 1) (memC C p.f)) x = if x < p.f + 1 then memC C x else [] := fun x => by
   rw [a3 x, hv x]
   by_cases hx : p.f <= x /\ x < p.f + 1
   ·rw [if_pos hx, if_pos hx.2, show x = p.f by omega]
   ·rw [if_neg hx]
    by_cases hl : x < lo
    ·rw [if_pos hl, if_pos (by omega)]
    ·rw [if_neg hl]
     by_cases hl2 : x < p.f + 1
     ·rw [if_pos hl2]
      have hlow : valP (p :: r) x = [] := by
       show (if p.f <= x /\ x < p.t then p.m else valP r x) = _
       rw [if_neg (by omega), valP_low h5 (by omega)]
      exact (hno x (by omega) hlow).symm
     ·rw [if_neg hl2]
  have key : ∀ O2 : List Pc, PN 0 [] O2 -> UptoP O2 p.t -> (∀ x, valP O2 x = if x < p.t then memC C x else []) -> Res C (resP C r O2) := fun O2 k1 k2 k3 =>
   resP_ok r h5 (by omega) k1 k2 k3 (fun x hx hv => hno x (by omega) (by
    show (if p.f <= x /\ x < p.t then p.m else valP r x) = _
    rw [if_neg (by omega), hv])) fun q hq => hc q (by simp [hq])
  show Res C (resP C r (resA C (resA C O p.f (p.f + 1)) (p.f + 1) p.t))
  rw [e1]
  by_cases ht : p.f + 1 < p.t
  ·have e2 : resA C (addP O p.f (p.f + 1) (memC C p.f)) (p.f + 1) p.t = addP (addP O p.f (p.f + 1) (memC C p.f)) (p.f + 1) p.t (memC C (p.f + 1)) := by unfold resA; rw [if_pos ht]
   rw [e2]
   have b1 := addP_pn (m := memC C (p.f + 1)) a1 a2 (show (0 : Int) <= p.f + 1 by omega) (fun _ => .inl rfl) ht
   have b2 := addP_upto (m := memC C (p.f + 1)) a2 (Int.le_of_lt ht)
   have b3 := addP_val (m := memC C (p.f + 1)) (pn_ft a1) a2 ht
   refine key _ b1 b2 fun x => ?_
   rw [b3 x, v1 x]
   by_cases hx : p.f + 1 <= x /\ x < p.t
   ·rw [if_pos hx, if_pos hx.2, hc p (by simp) x hx.1 hx.2]
   ·rw [if_neg hx]
    by_cases hl : x < p.f + 1
    ·rw [if_pos hl, if_pos (by omega)]
    ·rw [if_neg hl, if_neg (by omega)]
  ·have e2 : resA C (addP O p.f (p.f + 1) (memC C p.f)) (p.f + 1) p.t = addP O p.f (p.f + 1) (memC C p.f) := by unfold resA; rw [if_neg ht]
   rw [e2]
   have et : p.t = p.f + 1 := by omega
   rw [et] at key
   exact key _ a1 a2 v1
def bdL (C : List Pr) : List (List Sp) := states.flatMap fun s => ranks.map fun r => nf (Dd C s r)
theorem mem_bdL {C : List Pr} {s r : Int} (hs : s ∈ states) (hr : r ∈ ranks) : nf (Dd C s r) ∈ bdL C := List.mem_flatMap.2 ⟨s, hs, List.mem_map.2 ⟨r, hr, rfl⟩⟩
theorem dd_nf (C : List Pr) (s r x : Int) : dset (nf (Dd C s r)) x = Dd C s r x := by
 rw [dset_nf]
 unfold Dd
 rw [dset_isD]
theorem resP_main (C : List Pr) : Res C (resP C (pieces (bdL C)) []) := by
 obtain ⟨h1, h2⟩ := pieces_main (bdL C)
 have hne : ∀ p ∈ pieces (bdL C), p.m ≠ [] /\ p.f < p.t := by
  have : ∀ {P : List Pc} {lo : Int} {pm : List Int}, PN lo pm P -> ∀ p ∈ P, p.m ≠ [] /\ p.f < p.t := by
   intro P
   induction P with
   | nil => intro _ _ _ p hp; simp at hp
   | cons a r ih =>
    rintro lo pm ⟨_, _, k3, k4, k5⟩ p hp
    rcases List.mem_cons.1 hp with rfl | hp
    ·exact ⟨k4, k3⟩
    ·exact ih k5 p hp
  exact this h1
 have hin : ∀ p ∈ pieces (bdL C), ∀ x, p.f <= x -> x < p.t -> memL (bdL C) x = p.m := fun p hp x hx hy => by rw [<- h2 x]; exact valP_mem h1 p hp x hx hy
 have hdd : ∀ x y, memL (bdL C) x = memL (bdL C) y -> ∀ s ∈ states, ∀ r ∈ ranks, Dd C s r x = Dd C s r y := fun x y h s hs r hr => by
  have := memL_inj h _ (mem_bdL (C := C) hs hr)
  rwa [dd_nf, dd_nf] at this
 have hnone : ∀ x, memL (bdL C) x = [] -> memC C x = [] := fun x h => memC_nil fun s hs r hr => by
  have := memL_empty h _ (mem_bdL (C := C) hs hr)
  rwa [dd_nf] at this
 have hday : ∀ x, memL (bdL C) x ≠ [] -> 0 <= x /\ x < 73049 := fun x h => by
  apply Classical.byContradiction
  intro hc
  refine h (memI_none _ _ _ fun l _ => ?_)
  unfold dset
  rw [show isD x = false by rw [Bool.eq_false_iff]; exact fun e => hc ((isD_iff x).1 e)]
  rfl
 refine resP_ok (pieces (bdL C)) h1 (Int.le_refl 0) trivial (fun p hp => by simp at hp) (fun x => ?_) (fun x _ h => hnone x (by rw [<- h2 x]; exact h)) fun p hp x hx hy => ?_
 ·by_cases hx : x < 0
  ·rw [if_pos hx, memC_out (by omega)]
   rfl
  ·rw [if_neg hx]
   rfl
 ·obtain ⟨hm, hft⟩ := hne p hp
  have d1 := hday p.f (by rw [hin p hp p.f (Int.le_refl _) hft]; exact hm)
  have d2 := hday (p.t - 1) (by rw [hin p hp (p.t - 1) (by omega) (by omega)]; exact hm)
  refine (memC_const (a := p.f) (b := p.t) d1.1 (fun s hs r hr z z1 z2 => hdd z p.f (by rw [hin p hp z z1 z2, hin p hp p.f (Int.le_refl _) hft]) s hs r hr) (x := p.f + 1) (y := x) (by omega) hx hy fun _ e => by omega).symm
def refS (e : List Int) (p : Pr) : List Int :=
 if (cutS p.sp).f < (cutS p.sp).t then
  let e1 := insS (insS e (cutS p.sp).f) (cutS p.sp).t
  let e2 := if (cutS p.sp).f + 1 < (cutS p.sp).t then insS e1 ((cutS p.sp).f + 1) else e1
  let e3 := if (cutS p.sp).f < (cutS p.sp).t - 1 then insS e2 ((cutS p.sp).t - 1) else e2
  if (cutS p.sp).t + 1 <= 73049 then insS e3 ((cutS p.sp).t + 1) else e3
 else e
def refE (C : List Pr) : List Int := C.foldl refS []
theorem refS_sorted {e : List Int} (p : Pr) (h : e.Pairwise (· < ·)) : (refS e p).Pairwise (· < ·) := by
 unfold refS
 have h1 : (insS (insS e (cutS p.sp).f) (cutS p.sp).t).Pairwise (· < ·) := sorted_insS _ (sorted_insS _ h)
 split
 ·have h2 : (if (cutS p.sp).f + 1 < (cutS p.sp).t then insS (insS (insS e (cutS p.sp).f) (cutS p.sp).t) ((cutS p.sp).f + 1) else insS (insS e (cutS p.sp).f) (cutS p.sp).t).Pairwise (· < ·) := by
   split
   ·exact sorted_insS _ h1
   ·exact h1
  simp only
  split
  ·refine sorted_insS _ ?_
   split
   ·exact sorted_insS _ h2
   ·exact h2
  ·split
   ·exact sorted_insS _ h2
   ·exact h2
 ·exact h
theorem refS_length (e : List Int) (p : Pr) : (refS e p).length <= e.length + 5 := by
 unfold refS
 have a1 := length_insS e (cutS p.sp).f
 have a2 := length_insS (insS e (cutS p.sp).f) (cutS p.sp).t
 have a3 := length_insS (insS (insS e (cutS p.sp).f) (cutS p.sp).t) ((cutS p.sp).f + 1)
 split
 ·simp only
  have h2 : (if (cutS p.sp).f + 1 < (cutS p.sp).t then insS (insS (insS e (cutS p.sp).f) (cutS p.sp).t) ((cutS p.sp).f + 1) else insS (insS e (cutS p.sp).f) (cutS p.sp).t).length <= e.length + 3 := by
   split <;> omega
  generalize (if (cutS p.sp).f + 1 < (cutS p.sp).t then insS (insS (insS e (cutS p.sp).f) (cutS p.sp).t) ((cutS p.sp).f + 1) else insS (insS e (cutS p.sp).f) (cutS p.sp).t) = e2 at *
  have a4 := length_insS e2 ((cutS p.sp).t - 1)
  have h3 : (if (cutS p.sp).f < (cutS p.sp).t - 1 then insS e2 ((cutS p.sp).t - 1) else e2).length <= e.length + 4 := by
   split <;> omega
  generalize (if (cutS p.sp).f < (cutS p.sp).t - 1 then insS e2 ((cutS p.sp).t - 1) else e2) = e3 at *
  have a5 := length_insS e3 ((cutS p.sp).t + 1)
  split <;> omega
 ·omega
theorem mem_refS (e : List Int) (p : Pr) (x : Int) : x ∈ refS e p ↔ x ∈ e ∨ ((cutS p.sp).f < (cutS p.sp).t /\ (x = (cutS p.sp).f ∨ x = (cutS p.sp).t ∨ ((cutS p.sp).f + 1 < (cutS p.sp).t /\ (x = (cutS p.sp).f + 1 ∨ x = (cutS p.sp).t - 1)) ∨ ((cutS p.sp).t + 1 <= 73049 /\ x = (cutS p.sp).t + 1))) := by
 unfold refS
 split
 ·rename_i h
  simp only
  have h2 : ∀ x, x ∈ (if (cutS p.sp).f + 1 < (cutS p.sp).t then insS (insS (insS e (cutS p.sp).f) (cutS p.sp).t) ((cutS p.sp).f + 1) else insS (insS e (cutS p.sp).f) (cutS p.sp).t) ↔ x ∈ e ∨ x = (cutS p.sp).f ∨ x = (cutS p.sp).t ∨ ((cutS p.sp).f + 1 < (cutS p.sp).t /\ x = (cutS p.sp).f + 1) := fun x => by
   split
   ·rename_i h2
    rw [mem_insS, mem_insS, mem_insS]
    constructor
    ·rintro (h | h | h | h) <;> simp [h, h2]
    ·rintro (h | h | h | ⟨_, h⟩) <;> simp [h]
   ·rename_i h2
    rw [mem_insS, mem_insS]
    constructor
    ·rintro (h | h | h) <;> simp [h]
    ·rintro (h | h | h | ⟨h, _⟩)
     ·simp [h]
     ·simp [h]
     ·simp [h]
     ·exact absurd h h2
  generalize (if (cutS p.sp).f + 1 < (cutS p.sp).t then insS (insS (insS e (cutS p.sp).f) (cutS p.sp).t) ((cutS p.sp).f + 1) else insS (insS e (cutS p.sp).f) (cutS p.sp).t) = e2 at *
  have h3 : ∀ x, x ∈ (if (cutS p.sp).f < (cutS p.sp).t - 1 then insS e2 ((cutS p.sp).t - 1) else e2) ↔ x ∈ e2 ∨ ((cutS p.sp).f < (cutS p.sp).t - 1 /\ x = (cutS p.sp).t - 1) := fun x => by
   split
   ·rename_i h3
    rw [mem_insS]
    constructor
    ·rintro (h | h) <;> simp [h, h3]
    ·rintro (h | ⟨_, h⟩) <;> simp [h]
   ·rename_i h3
    constructor
    ·intro h; exact .inl h
    ·rintro (h | ⟨h, _⟩)
     ·exact h
     ·exact absurd h h3
  generalize (if (cutS p.sp).f < (cutS p.sp).t - 1 then insS e2 ((cutS p.sp).t - 1) else e2) = e3 at *
  have h4 : x ∈ (if (cutS p.sp).t + 1 <= 73049 then insS e3 ((cutS p.sp).t + 1) else e3) ↔ x ∈ e3 ∨ ((cutS p.sp).t + 1 <= 73049 /\ x = (cutS p.sp).t + 1) := by
   split
   ·rename_i h4
    rw [mem_insS]
    constructor
    ·rintro (h | h) <;> simp [h, h4]
    ·rintro (h | ⟨_, h⟩) <;> simp [h]
   ·rename_i h4
    constructor
    ·intro h; exact .inl h
    ·rintro (h | ⟨h, _⟩)
     ·exact h
     ·exact absurd h h4
  rw [h4, h3, h2]
  have e4 : (cutS p.sp).f < (cutS p.sp).t - 1 ↔ (cutS p.sp).f + 1 < (cutS p.sp).t := by omega
  rw [e4]
  constructor
  ·rintro (((h5 | h5 | h5 | ⟨h5, h6⟩) | ⟨h5, h6⟩) | h5)
   ·exact .inl h5
   ·exact .inr ⟨h, .inl h5⟩
   ·exact .inr ⟨h, .inr (.inl h5)⟩
   ·exact .inr ⟨h, .inr (.inr (.inl ⟨h5, .inl h6⟩))⟩
   ·exact .inr ⟨h, .inr (.inr (.inl ⟨h5, .inr h6⟩))⟩
   ·exact .inr ⟨h, .inr (.inr (.inr h5))⟩
  ·rintro (h5 | ⟨_, h5 | h5 | ⟨h5, h6 | h6⟩ | h5⟩)
   ·exact .inl (.inl (.inl h5))
   ·exact .inl (.inl (.inr (.inl h5)))
   ·exact .inl (.inl (.inr (.inr (.inl h5))))
   ·exact .inl (.inl (.inr (.inr (.inr ⟨h5, h6⟩))))
   ·exact .inl (.inr ⟨h5, h6⟩)
   ·exact .inr h5
 ·rename_i h
  constructor
  ·intro h2; exact .inl h2
  ·rintro (h2 | ⟨h2, _⟩)
   ·exact h2
   ·exact absurd h2 h
theorem foldl_refS_sorted : ∀ (C : List Pr) {e : List Int}, e.Pairwise (· < ·) -> (C.foldl refS e).Pairwise (· < ·)
 | [], _, h => h
 | p :: C, _, h => foldl_refS_sorted C (refS_sorted p h)
theorem foldl_refS_length : ∀ (C : List Pr) (e : List Int), (C.foldl refS e).length <= e.length + 5 * C.length
 | [], e => by simp
 | p :: C, e => by
  have h1 := foldl_refS_length C (refS e p)
  have h2 := refS_length e p
  show (C.foldl refS (refS e p)).length <= _
  simp only [List.length_cons]
  omega
theorem mem_foldl_refS : ∀ (C : List Pr) (e : List Int) (x : Int), x ∈ C.foldl refS e ↔ x ∈ e ∨ ∃ p ∈ C, x ∈ refS [] p
 | [], e, x => by simp
 | p :: C, e, x => by
  show x ∈ C.foldl refS (refS e p) ↔ _
  rw [mem_foldl_refS C]
  have h1 := mem_refS e p x
  have h2 := mem_refS [] p x
  simp only [List.not_mem_nil, false_or] at h2
  simp only [List.mem_cons, exists_eq_or_imp, h1, h2, or_assoc]
theorem refE_sorted (C : List Pr) : (refE C).Pairwise (· < ·) := foldl_refS_sorted C List.Pairwise.nil
theorem refE_length (C : List Pr) : (refE C).length <= 5 * C.length := by have := foldl_refS_length C []; unfold refE; simpa using this
theorem mem_refE (C : List Pr) (x : Int) : x ∈ refE C ↔ ∃ p ∈ C, x ∈ refS [] p := by
 unfold refE
 rw [mem_foldl_refS]
 simp
theorem refE_bd {C : List Pr} {x : Int} (h : x ∈ refE C) : 0 <= x /\ x <= 73049 := by
 obtain ⟨p, _, hx⟩ := (mem_refE C x).1 h
 rw [mem_refS] at hx
 simp only [List.not_mem_nil, false_or, cutS] at hx
 omega
theorem cover_cut {C : List Pr} {s r x : Int} (h : Dd C s r x = true) : ∃ p ∈ C, p.s = s /\ (r = 0 ∨ p.r = r) /\ (cutS p.sp).f <= x /\ x < (cutS p.sp).t /\ 0 <= (cutS p.sp).f /\ (cutS p.sp).t <= 73049 /\ (cutS p.sp).f ∈ refE C /\ (cutS p.sp).t ∈ refE C /\ ((cutS p.sp).f + 1 < (cutS p.sp).t -> (cutS p.sp).f + 1 ∈ refE C) := by
 obtain ⟨hx, p, hp, h1, h2, h3, h4⟩ := (dd_iff C s r x).1 h
 have hf : (cutS p.sp).f = max p.f 0 := rfl
 have ht : (cutS p.sp).t = min p.t 73049 := rfl
 have hlt : (cutS p.sp).f < (cutS p.sp).t := by rw [hf, ht]; omega
 refine ⟨p, hp, h1, h2, by rw [hf]; omega, by rw [ht]; omega, by rw [hf]; omega, by rw [ht]; omega, (mem_refE C _).2 ⟨p, hp, (mem_refS [] p _).2 (.inr ⟨hlt, .inl rfl⟩)⟩, (mem_refE C _).2 ⟨p, hp, (mem_refS [] p _).2 (.inr ⟨hlt, .inr (.inl rfl)⟩)⟩, fun h5 => (mem_refE C _).2 ⟨p, hp, (mem_refS [] p _).2 (.inr ⟨hlt, .inr (.inr (.inl ⟨h5, .inl rfl⟩))⟩)⟩⟩
theorem dd_of_cut {C : List Pr} {s r x : Int} {p : Pr} (hp : p ∈ C) (h1 : p.s = s) (h2 : r = 0 ∨ p.r = r) (hx : (cutS p.sp).f <= x) (hy : x < (cutS p.sp).t) : Dd C s r x = true := by
 have hf : (cutS p.sp).f = max p.f 0 := rfl
 have ht : (cutS p.sp).t = min p.t 73049 := rfl
 exact (dd_iff C s r x).2 ⟨by omega, p, hp, h1, h2, by omega, by omega⟩
theorem refE_same {C : List Pr} {x y : Int} (h : ∀ p ∈ refE C, p <= x ↔ p <= y) (s r : Int) : Dd C s r x = Dd C s r y := by
 rw [Bool.eq_iff_iff]
 constructor
 ·intro hx
  obtain ⟨p, hp, h1, h2, h3, h4, _, _, e1, e2, _⟩ := cover_cut hx
  have k1 := h _ e1
  have k2 := h _ e2
  exact dd_of_cut hp h1 h2 (by omega) (by omega)
 ·intro hx
  obtain ⟨p, hp, h1, h2, h3, h4, _, _, e1, e2, _⟩ := cover_cut hx
  have k1 := h _ e1
  have k2 := h _ e2
  exact dd_of_cut hp h1 h2 (by omega) (by omega)
theorem refE_le {C : List Pr} {x y : Int} (hxy : x <= y) (h : ∀ p ∈ refE C, p <= x ↔ p <= y) : memC C x = memC C y := by
 by_cases hno : ∀ s ∈ states, ∀ r ∈ ranks, Dd C s r x = false
 ·rw [memC_nil hno, memC_nil fun s hs r hr => by rw [<- refE_same h]; exact hno s hs r hr]
 ·have : ∃ s r, Dd C s r x = true := by
   apply Classical.byContradiction
   intro hc
   refine hno fun s _ r _ => ?_
   rw [Bool.eq_false_iff]
   exact fun e => hc ⟨s, r, e⟩
  obtain ⟨s, r, hx⟩ := this
  obtain ⟨p, hp, h1, h2, h3, h4, h5, h6, e1, e2, _⟩ := cover_cut hx
  have k1 := h _ e1
  have k2 := h _ e2
  refine memC_const (a := x) (b := y + 1) (by omega) (fun s _ r _ z z1 z2 => ?_) (Int.le_refl _) hxy (by omega) fun hlt _ s' _ hd => ?_
  ·refine (refE_same (fun q hq => ?_) s r).symm
   have := h q hq
   omega
  ·obtain ⟨q, hq, g1, g2, g3, g4, g5, g6, f1, f2, f3⟩ := cover_cut hd
   have j1 := h _ f1
   have j2 := h _ f2
   refine dd_of_cut hq g1 g2 ?_ (by omega)
   by_cases hfx : (cutS q.sp).f = x
   ·by_cases h7 : (cutS q.sp).f + 1 < (cutS q.sp).t
    ·have := h _ (f3 h7)
     omega
    ·omega
   ·omega
theorem refR_main (C : List Pr) : Res C (pcs (memC C) (refE C) []) := by
 refine pcs_main (refE_sorted C) (fun p hp => (refE_bd hp).1) (fun x y h => ?_) (fun x hx => memC_out (by omega)) fun x hx => memC_nil fun s _ r _ => ?_
 ·rcases Int.le_total x y with hxy | hxy
  ·exact refE_le hxy h
  ·exact (refE_le hxy fun p hp => (h p hp).symm).symm
 ·rw [Bool.eq_false_iff]
  intro hd
  obtain ⟨p, _, _, _, _, h4, _, _, _, e2, _⟩ := cover_cut hd
  have := hx _ e2
  omega
end
section
theorem mem_states (s : Int) : s ∈ states ↔ 0 <= s /\ s < 6 := by simp [states]; omega
theorem mem_ranks (r : Int) : r ∈ ranks ↔ 1 <= r /\ r <= 7 := by simp [ranks]; omega
theorem atC_some {C : List Pr} {x s r : Int} (h : atC C x = some (s, r)) : s ∈ states /\ r ∈ ranks /\ Dd C s r x = true /\ ∀ q ∈ ranks, ∀ u ∈ states, Dd C u q x = true -> r <= q := by
 unfold atC at h
 cases hk : rkC C x with
 | none => rw [hk] at h; cases h
 | some r0 =>
  rw [hk] at h
  simp only [Option.map_some, Option.some.injEq, Prod.mk.injEq] at h
  obtain ⟨h1, rfl⟩ := h
  obtain ⟨h2, h3⟩ := rkC_some hk
  have hm : cloC C r0 x ∈ stL C r0 x := clo_mem h3
  rw [h1] at hm
  obtain ⟨m1, m2⟩ := (mem_stL C r0 x s).1 hm
  exact ⟨m1, h2, m2, fun q hq u hu hd => rkC_least hk hq fun e => by
   have := (mem_stL C q x u).2 ⟨hu, hd⟩
   rw [e] at this
   simp at this⟩
theorem atC_none {C : List Pr} {x : Int} (h : atC C x = none) : ∀ s ∈ states, ∀ r ∈ ranks, Dd C s r x = false := by
 unfold atC at h
 have hk : rkC C x = none := by
  cases hk : rkC C x with
  | none => rfl
  | some r0 => rw [hk] at h; cases h
 exact fun s hs r hr => stL_none (rkC_none hk r hr) s hs
theorem memC_at (C : List Pr) (x : Int) : memC C x = [] ↔ atC C x = none := by
 unfold memC
 cases atC C x with
 | none => simp
 | some p => obtain ⟨s, r⟩ := p; simp
def hits (R : List Pc) (x : Int) : List Pc := R.filter fun p => decide (p.f <= x /\ x < p.t)
def Pc.pr (p : Pc) : Pr := ⟨p.m.getD 0 0, p.m.getD 1 0, p.f, p.t⟩
theorem valP_hit : ∀ {R : List Pc} {x : Int} {m : List Int}, valP R x = m -> m ≠ [] -> ∃ p ∈ R, p.f <= x /\ x < p.t /\ p.m = m
 | [], _, _, h, h2 => absurd h.symm h2
 | p :: R, x, m, h, h2 => by
  by_cases hc : p.f <= x /\ x < p.t
  ·have e : valP (p :: R) x = p.m := if_pos hc
   rw [e] at h
   exact ⟨p, by simp, hc.1, hc.2, h⟩
  ·have e : valP (p :: R) x = valP R x := if_neg hc
   rw [e] at h
   obtain ⟨q, hq, h3⟩ := valP_hit h h2
   exact ⟨q, by simp [hq], h3⟩
theorem res_dd {C : List Pr} {R : List Pc} (h : Res C R) (s r x : Int) : Dd (R.map Pc.pr) s r x = true ↔ ∃ q, atC C x = some (s, q) /\ (r = 0 ∨ q = r) := by
 have key : ∀ p ∈ R, p.f <= x -> x < p.t -> p.m = memC C x /\ p.m ≠ [] := fun p hp h1 h2 => by
  have hp2 : p ∈ hits R x := List.mem_filter.2 ⟨hp, by simpa using ⟨h1, h2⟩⟩
  rcases pn_one (x := x) h.1 with ⟨_, e⟩ | ⟨q, e, e1, e2⟩
  ·unfold hits at hp2
   rw [e] at hp2
   simp at hp2
  ·unfold hits at hp2
   rw [e, List.mem_singleton] at hp2
   subst hp2
   rw [h.2 x] at e1
   exact ⟨e1, e2⟩
 rw [dd_iff]
 constructor
 ·rintro ⟨_, p, hp, h3, h4, h5, h6⟩
  obtain ⟨q, hq, rfl⟩ := List.mem_map.1 hp
  obtain ⟨e1, e2⟩ := key q hq h5 h6
  cases ha : atC C x with
  | none => rw [(memC_at C x).2 ha] at e1; exact absurd e1 e2
  | some a =>
   obtain ⟨a, b⟩ := a
   have e3 : memC C x = [a, b] := by unfold memC; rw [ha]
   rw [e3] at e1
   have e4 : q.pr.s = a := by show q.m.getD 0 0 = a; rw [e1]; rfl
   have e5 : q.pr.r = b := by show q.m.getD 1 0 = b; rw [e1]; rfl
   exact ⟨b, by rw [<- h3, e4], by rw [<- e5]; exact h4⟩
 ·rintro ⟨q, ha, hr⟩
  have e3 : memC C x = [s, q] := by unfold memC; rw [ha]
  have hx := dd_day (atC_some ha).2.2.1
  obtain ⟨p, hp, h1, h2, h3⟩ := valP_hit (h.2 x) (by rw [e3]; simp)
  rw [e3] at h3
  refine ⟨hx, p.pr, List.mem_map.2 ⟨p, hp, rfl⟩, ?_, ?_, h1, h2⟩
  ·show p.m.getD 0 0 = s; rw [h3]; rfl
  ·have : p.pr.r = q := by show p.m.getD 1 0 = q; rw [h3]; rfl
   rw [this]; exact hr
theorem res_length {C : List Pr} {R : List Pc} (h : Res C R) : R.length <= 5 * C.length := by
 rw [res_unique h (refR_main C)]
 have := pcs_length (memC C) (refE C) []
 have := refE_length C
 simp at *
 omega
end
end Go.Proofs.YtnlopdmhdiegnaaGreatDoor
