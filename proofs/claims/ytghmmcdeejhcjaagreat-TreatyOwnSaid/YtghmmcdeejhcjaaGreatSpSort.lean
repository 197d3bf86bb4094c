/- sort.Slice on a slice of spans of the call's own, in the order of their beginnings. -/
import Derived.Test.YtghmmcdeejhcjaaGreatSpA
import Derived.Test.YtghmmcdeejhcjaaGreatShelf
namespace Go.Proofs.YtghmmcdeejhcjaaGreat
open Go.RowKit
open Go.Sort (Holds grow SWO PermIn SortedIn flatK get_flatK HoldsK putRowK putRowK_grow holdsK_grow holdsK_ahead holdsK_putRowK cell?_putRowK_other)

instance : Inhabited Sp := ⟨⟨0, 0⟩⟩
def ltS (a b : Sp) : Bool := decide (a.f < b.f)
theorem swo_ltS : SWO ltS where
  irrefl := fun x => by simp [ltS]
  trans := fun x y z h1 h2 => by simp [ltS] at *; omega
  ntrans := fun x y z h1 h2 => by simp [ltS] at *; omega
theorem asc_of : ∀ {l : List Sp}, l.Pairwise (fun a b => a.f ≤ b.f) → Asc l
  | [], _ => trivial
  | _ :: _, h => ⟨(List.pairwise_cons.1 h).1, asc_of (List.pairwise_cons.1 h).2⟩
theorem flatK_at {l : List Sp} {j : Nat} {u : Value} (h : (flat Sp.cells l)[j]? = some u) : j < l.toArray.size * 2 ∧ (flatK Sp.cells 2 l.toArray)[j]! = u := by
  have hj : j < l.length * 2 := by
    have := (List.getElem?_eq_some_iff.1 h).1
    rwa [sp_flen] at this
  have hj2 : j < l.toArray.size * 2 := by simpa using hj
  refine ⟨hj2, ?_⟩
  rw [get_flatK Sp.cells 2 l.toArray j hj2]
  have hx : l[j / 2]? = some (l[j / 2]'(by omega)) := List.getElem?_eq_getElem (by omega)
  have hg := flat_get sp_len l (j / 2) (j % 2) _ hx (by omega)
  rw [show j / 2 * 2 + j % 2 = j by omega, h] at hg
  have e1 : l.toArray[j / 2]! = l[j / 2]'(by omega) := by simp [show j / 2 < l.length by omega]
  rw [e1, List.getElem!_eq_getElem?_getD, ← hg]
  rfl
noncomputable def tyS : TypeInfo := (Tryz.prog.info? 56).get (by kernel_rfl)
noncomputable def tyE : TypeInfo := (Tryz.prog.info? 59).get (by kernel_rfl)
theorem tyK (n : Nat) (h2 : 2 ≤ n) : Lib.swapperK n tyE 25 = 9 := by
  have a : tyE.hasPointers = false := by kernel_rfl
  have b : tyE.bytes = 16 := by kernel_rfl
  have c : (n == 0) = false := by simp; omega
  have d : (n == 1) = false := by simp; omega
  simp [Lib.swapperK, a, b, c, d]

set_option maxHeartbeats 2000000 in
/-- Make's closure. -/
theorem less_any (blk off c Bs size : Nat) (W : World) (G : Nat → Int) (hs : W.cell? ⟨Bs, 0, none⟩ = some (.slice (some ⟨blk, off, none⟩) size c))
    (hc : ∀ t, t < size → W.cell? ⟨blk, off + t * 2, none⟩ = some (.int .i64 (G t))) (i j : Nat) (hi : i < size) (hj : j < size) (_hsz : size < 4611686018427387904) :
    Calls Tryz.prog 50 #[.int .i64 i, .int .i64 j, .pointer (some ⟨Bs, 0, none⟩)] W fun e w' => e = .returned (.bool (decide (G i < G j))) ∧ ∃ q, w' = W.drewN q := by
  have ci := hc i hi
  have cj := hc j hj
  go_enter Tryz.func50, Tryz.ntmps50
  go_wp2
  go_quiet (fail)
  go_wp2
  go_ret
  exact ⟨rfl, nq, rfl⟩

theorem own_holds {w : World} {base g c : Nat} {l : List Sp} (h : w.ownsRow base 59 2 (.slice (some ⟨g, 0, none⟩) l.length c) l.length (flat Sp.cells l)) : HoldsK Sp.cells 2 w g 0 l.toArray := by
  intro j hj
  have hj2 : j < l.length * 2 := by simpa [flatK] using hj
  have hx : ∃ u, (flat Sp.cells l)[j]? = some u := ⟨_, List.getElem?_eq_getElem (by rw [sp_flen]; exact hj2)⟩
  obtain ⟨u, hu⟩ := hx
  have hc := h.cells (g := g) rfl j u hu
  rw [addAt] at hc
  refine ⟨hc.trans ?_, h.frozenAt _⟩
  rw [(flatK_at hu).2]
  rfl
theorem holds_rd {w : World} {g n : Nat} {d : Array Sp} (h : HoldsK Sp.cells 2 w g 0 d) (hg : g < w.heap.size) (hn : d.size = n) : Rd w w.heap.size 2 (some ⟨g, 0, none⟩) n (flat Sp.cells d.toList) := by
  refine ⟨by rw [sp_flen]; simp [hn], fun _ => ⟨g, 0, rfl, hg, fun j u hu => ?_⟩⟩
  obtain ⟨hj, he⟩ := flatK_at hu
  have := (h j (by simpa [flatK] using hj)).1
  rw [this]
  have e : d.toList.toArray = d := by simp
  rw [e] at he
  exact congrArg some he

set_option maxHeartbeats 2000000 in
set_option maxRecDepth 100000 in
/-- sort.Slice as Make calls it. -/
theorem sort_spans (base n c Bs : Nat) (A : Option Addr) (l : List Sp) (w : World) (hown : w.ownsRow base 59 2 (.slice A n c) n (flat Sp.cells l)) (hn : n ≤ 1000000) (hbase : base ≤ w.heap.size)
    (hBs : w.heap[Bs]? = some (.cells #[.slice A n c] 56 (0, 0))) :
    Calls Tryz.prog 49 #[.iface 56 (.slice A n c), .func (.func 50) #[] #[.pointer (some ⟨Bs, 0, none⟩)]] w fun e w' =>
      e = .returned (.tuple #[]) ∧ ∃ k : List Sp, k.Perm l ∧ Asc k ∧ Rd w' w'.heap.size 2 A n (flat Sp.cells k) ∧ w'.cell? ⟨Bs, 0, none⟩ = some (.slice A n c) ∧ Below base w w' := by
  have hlen := (show Rd w w.heap.size 2 A n (flat Sp.cells l) from Rd.ofOwn hown).lenS
  have hB1 : Bs < w.heap.size := (Array.getElem?_eq_some_iff.1 hBs).1
  have hcell : w.cell? ⟨Bs, 0, none⟩ = some (.slice A n c) := by rw [cell_of_row w Bs 0 _ _ _ hBs]; rfl
  by_cases h1 : n ≤ 1
  · have hK : ∃ f, Tryz.prog.funcs.findIdx? (·.name == "internal/reflectlite" ++ ".Swapper$" ++ toString (Lib.swapperK n tyE 25)) = some f := by
      rcases Nat.le_one_iff_eq_zero_or_eq_one.1 h1 with rfl | rfl
      · exact ⟨103, by kernel_rfl⟩
      · exact ⟨104, by kernel_rfl⟩
    obtain ⟨f, hf⟩ := hK
    refine (Any.sort_Slice_tiny Tryz.laysGg6 56 59 tyS tyE (by kernel_rfl) (by kernel_rfl) (by kernel_rfl) (by kernel_rfl) 25 (fun _ => by kernel_rfl) A n c h1 f hf _ _ _ w).mono ?_
    rintro e w' ⟨rfl, os, rfl⟩
    have hb : Below w.heap.size w (grow w os) := ⟨rfl, rfl, rfl, by simp, fun i hi => Go.Sort.heap_grow_old w os hi⟩
    refine ⟨rfl, l, List.Perm.refl _, ?_, ((Rd.ofOwn hown).below hb).mono hb.size, (hb.cell (p := ⟨Bs, 0, none⟩) hB1).trans hcell, ?_⟩
    · match l, hlen with
      | [], _ => exact trivial
      | [x], _ => exact ⟨by simp, trivial⟩
      | x :: y :: r, hlen => simp at hlen; omega
    · exact hb.mono hbase
  · subst hlen
    rcases hown.2 with ⟨hv, _⟩ | ⟨g, cap, cur, hv, hbg, hg, hnc, hcm, hcs, ht⟩
    · injection hv with _ h0
      omega
    · injection hv with hA _ hc
      subst hA; subst hc
      have hglt : g < w.heap.size := (Array.getElem?_eq_some_iff.1 hg).1
      have hH := own_holds hown
      have hne : Bs ≠ g := by
        rintro rfl
        rw [hBs] at hg
        injection hg with hg
        injection hg with _ hg
        revert hg
        decide
      have hless : LessReadsK Tryz.prog 50 #[.pointer (some ⟨Bs, 0, none⟩)] Sp.cells 2 ltS g 0 l.toArray.size w := by
        intro m os dk hs i j hi hj
        have e : sortWorldK Sp.cells 2 w g 0 m dk os = putRowK Sp.cells 2 (grow (Sort.ahead w m) os) g 0 dk := by
          unfold sortWorldK; rw [putRowK_grow _ _ (Sort.ahead w m) _ g 0 _ hglt]
        have hHg : HoldsK Sp.cells 2 (grow (Sort.ahead w m) os) g 0 l.toArray := holdsK_grow _ _ _ _ g 0 _ hglt (holdsK_ahead _ _ _ _ _ _ _ hH)
        refine less_any g 0 c Bs l.toArray.size _ (fun t => dk[t]!.f) ?_ (fun t ht => ?_) i j hi hj (by simp; omega)
        · rw [e, cell?_putRowK_other _ _ _ g 0 dk _ (by exact hne), Go.Sort.cell?_grow _ _ _ (by exact hB1)]; exact hcell
        · rw [e]; exact ((holdsK_putRowK _ _ _ g 0 _ dk hHg hs).cell (i := t) (c := 0) (by omega) (by omega)).1
      have hsz : l.toArray.size = l.length := by simp
      refine (Any.sort_Slice_cells_sorted Tryz.laysGg6 56 59 tyS tyE (by kernel_rfl) (by kernel_rfl) (by kernel_rfl) (by kernel_rfl) 25 (fun _ => by kernel_rfl) Sp.cells 2 sp_len (by kernel_rfl) (fun _ => by kernel_rfl)
        (fun x v hv => by simp [Sp.cells] at hv; rcases hv with rfl | rfl <;> rfl) ltS swo_ltS 50 _
        (enters_of Tryz.func50 (by kernel_rfl) rfl) g 0 c l.toArray (by simp; omega) (by simp; omega) 111 (by rw [tyK _ (by simp; omega)]; kernel_rfl) false
        (fun args W => run_callFunc_extern Tryz.func111 (by kernel_rfl) (by kernel_rfl) (by kernel_rfl) (e := Extern.ReflectliteSwapper.swap false) (by kernel_rfl) args W) w hless hH hglt).mono ?_
      rintro e w' ⟨rfl, d', q, os, ⟨p1, _, p3⟩, hsort, rfl⟩
      have hHs := holdsK_grow Sp.cells 2 (putRowK Sp.cells 2 (Sort.ahead w q) g 0 d') os g 0 d' (by simp [putRowK, Go.Sort.putRow, Go.Sort.mapBlock, Sort.ahead]; exact hglt) (holdsK_putRowK Sp.cells 2 (Sort.ahead w q) g 0 _ d' (holdsK_ahead _ _ _ _ _ _ _ hH) p1)
      have hgs : (putRowK Sp.cells 2 (Sort.ahead w q) g 0 d').heap.size = w.heap.size := by simp [putRowK, Go.Sort.putRow, Go.Sort.mapBlock, Sort.ahead]
      refine ⟨rfl, d'.toList, ?_, ?_, ?_, ?_, ?_⟩
      · have e1 : d'.extract 0 l.toArray.size = d' := by rw [← p1]; simp
        rw [e1] at p3
        simpa using p3
      · refine asc_of (List.pairwise_iff_getElem.2 fun i j hi hj hij => ?_)
        have hj2 : j < l.toArray.size := by rw [← p1]; simpa using hj
        have := hsort i j (Nat.zero_le _) hij hj2
        have hi3 : i < d'.size := by simpa using hi
        have hj3 : j < d'.size := by simpa using hj
        rw [getElem!_pos d' j hj3, getElem!_pos d' i hi3] at this
        simp only [ltS, decide_eq_false_iff_not] at this
        simp only [Array.getElem_toList]
        omega
      · exact holds_rd hHs (by rw [Go.Sort.size_grow, hgs]; omega) (by rw [p1]; simp)
      · rw [Go.Sort.cell?_grow _ _ _ (by rw [hgs]; exact hB1), cell?_putRowK_other _ _ _ g 0 d' _ (by exact hne)]
        exact hcell
      · refine ⟨rfl, rfl, rfl, by rw [Go.Sort.size_grow, hgs]; omega, fun i hi => ?_⟩
        rw [Go.Sort.heap_grow_old _ _ (by rw [hgs]; omega)]
        show (w.heap.modify g _)[i]? = w.heap[i]?
        rw [Array.getElem?_modify, if_neg (by omega)]
end Go.Proofs.YtghmmcdeejhcjaaGreat
