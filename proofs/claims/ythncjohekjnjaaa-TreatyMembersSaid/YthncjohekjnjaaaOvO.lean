/- A slice of claims or of counted days that came in, opened. -/
import Derived.Test.YthncjohekjnjaaaOvA
import Derived.Test.YthncjohekjnjaaaOpenN
namespace Go.Proofs.Ythncjohekjnjaaa
open Go.RowKit Go.ChangeShapes Go.WideShapes Go.Deep

def Pr.ok (p : Pr) : Prop := I64 p.s ∧ I64 p.r ∧ I64 p.f ∧ I64 p.t
theorem fld {fs : Array Field} {M : Array (Nat × TypeId)} (h : fs.map (fun f => (f.offset, f.type)) = M) {j o : Nat} {t : TypeId} (hM : M[j]? = some (o, t)) : ∃ f, fs[j]? = some f ∧ f.offset = o ∧ f.type = t := by
  rw [← h, Array.getElem?_map] at hM
  obtain ⟨f, hf, e⟩ := Option.map_eq_some_iff.1 hM
  injection e with e1 e2
  exact ⟨f, hf, e1, e2⟩
theorem len2 {cs : List Value} (h : cs.length = 2) : ∃ a b, cs = [a, b] := by
  match cs, h with
  | [a, b], _ => exact ⟨a, b, rfl⟩
theorem len4 {cs : List Value} (h : cs.length = 4) : ∃ a b c d, cs = [a, b, c, d] := by
  match cs, h with
  | [a, b, c, d], _ => exact ⟨a, b, c, d, rfl⟩
section
variable {H : Type} {enc : TypeId × Value → H} {w : World} {base : Nat} {spare : Nat → Bool} {held : Bool}
theorem int_cells {fuel : Nat} {cs : List Value} {x : DataW H × List MemPlace} (h : DataW.trod enc Try.prog w base spare held fuel 3 cs = some x) : ∃ a, cs = [.int .i64 a] ∧ I64 a := by
  obtain ⟨q, hv, _, hw⟩ := DataW.trod_int Try.underlying3 h
  exact ⟨q, hv, wf_i64 hw⟩
theorem some_at {α : Type} {ys : List α} {n j : Nat} (h : ys.length = n) (hj : j < n) : ∃ y, ys[j]? = some y := ⟨_, List.getElem?_eq_getElem (by omega)⟩
theorem span_cells {fuel : Nat} {cs : List Value} {x : DataW H × List MemPlace} (h : DataW.trod enc Try.prog w base spare held fuel 48 cs = some x) : ∃ a b, cs = [.int .i64 a, .int .i64 b] ∧ I64 a ∧ I64 b := by
  have he : Try.prog.underlying 48 = some (.struct (Try.prog.fieldsOf 48)) := by kernel_rfl
  have hM : (Try.prog.fieldsOf 48).map (fun f => (f.offset, f.type)) = #[(0, 3), (1, 3)] := by kernel_rfl
  have hs : (Try.prog.fieldsOf 48).size = 2 := by kernel_rfl
  have hc : Try.prog.cellsOf 48 = 2 := by kernel_rfl
  have hi : Try.prog.cellsOf 3 = 1 := by kernel_rfl
  obtain ⟨ys, n', _, _, hlen, hyl, hf⟩ := DataW.trod_struct he h
  rw [hc] at hlen
  rw [hs] at hyl
  obtain ⟨f0, g0, o0, t0⟩ := fld hM (j := 0) rfl
  obtain ⟨f1, g1, o1, t1⟩ := fld hM (j := 1) rfl
  obtain ⟨y0, e0⟩ := some_at hyl (j := 0) (by omega)
  obtain ⟨y1, e1⟩ := some_at hyl (j := 1) (by omega)
  have k0 := hf 0 f0 g0
  have k1 := hf 1 f1 g1
  rw [o0, t0, hi, e0] at k0
  rw [o1, t1, hi, e1] at k1
  obtain ⟨a, b, rfl⟩ := len2 hlen
  obtain ⟨p, hp, wp⟩ := int_cells k0
  obtain ⟨q, hq, wq⟩ := int_cells k1
  simp at hp hq
  exact ⟨p, q, by rw [hp, hq], wp, wq⟩
theorem rd_of_rows {α : Type} {cells : α → List Value} {k : Nat} (hk : ∀ x, (cells x).length = k) (hk0 : 0 < k) {a : Addr} {l : List α}
    (hq : ∀ i x, l[i]? = some x → ∀ j u, (cells x)[j]? = some u → w.cell? (a.add (i * k + j)) = some u) : Rd w w.heap.size k (some a) l.length (flat cells l) := by
  have hfl : (flat cells l).length = l.length * k := flat_length hk l
  refine ⟨hfl, fun hn => ?_⟩
  obtain ⟨r0, hr0⟩ : ∃ r, l[0]? = some r := ⟨_, List.getElem?_eq_getElem (by omega)⟩
  obtain ⟨u0, hu0⟩ : ∃ u, (cells r0)[0]? = some u := ⟨_, List.getElem?_eq_getElem (by rw [hk]; exact hk0)⟩
  have hc0 := hq 0 r0 hr0 0 u0 hu0
  have hspot : a.spot = none := by simpa [Addr.add] using World.cell?_spot hc0
  obtain ⟨b, o, sp⟩ := a
  subst hspot
  have hblt : b < w.heap.size := by
    rw [addAt] at hc0
    exact World.block_lt_of_cell? _ _ hc0
  refine ⟨b, o, rfl, hblt, fun j u hu => ?_⟩
  have hjl : j < l.length * k := by
    have := (List.getElem?_eq_some_iff.1 hu).1
    rwa [hfl] at this
  have hjd : j / k < l.length := Nat.div_lt_of_lt_mul (by rwa [Nat.mul_comm])
  obtain ⟨x, hx⟩ : ∃ x, l[j / k]? = some x := ⟨_, List.getElem?_eq_getElem hjd⟩
  have hjk : j / k * k + j % k = j := by rw [Nat.mul_comm]; exact Nat.div_add_mod j k
  have hg := flat_get hk l (j / k) (j % k) x hx (Nat.mod_lt _ hk0)
  rw [hjk, hu] at hg
  have hc := hq (j / k) x hx (j % k) u hg.symm
  rwa [addAt, hjk] at hc
theorem rows_of_trod {t e : TypeId} {fuel : Nat} {cs : List Value} {x : DataW H × List MemPlace} {α : Type} {cells : α → List Value} {ok : α → Prop} {k : Nat} (hk0 : 0 < k) (ht : Try.prog.underlying t = some (.slice e)) (hc4 : Try.prog.cellsOf e = k)
    (hk : ∀ x, (cells x).length = k) (hel : ∀ {fuel : Nat} {cs : List Value} {x : DataW H × List MemPlace}, DataW.trod enc Try.prog w base spare held fuel e cs = some x → ∃ p : α, cs = cells p ∧ ok p)
    (h : DataW.trod enc Try.prog w base spare held fuel t cs = some x) : ∃ A n c l, cs = [.slice A n c] ∧ Rd w w.heap.size k A n (flat cells l) ∧ l.length = n ∧ (∀ p ∈ l, ok p) ∧ n ≤ maxLen := by
  rcases open_slice ht h with ⟨rfl, _⟩ | ⟨a, len, cap, m, n, D, Pl, rfl, _, hl, hm, hmm, _, hi⟩
  · exact ⟨none, 0, 0, [], rfl, Rd.zero _ _ _ _, rfl, by simp, by unfold maxLen; omega⟩
  · have hlm : len ≤ m := by rw [hmm]; split <;> omega
    have hrow : ∀ i, i < len → ∃ p : α, (∀ j u, (cells p)[j]? = some u → w.cell? (a.add (i * k + j)) = some u) ∧ ok p := by
      intro i hil
      obtain ⟨cs', hc, ht'⟩ := hi i (by omega)
      obtain ⟨p, rfl, hp⟩ := hel ht'
      rw [hc4] at hc
      obtain ⟨_, _, hat⟩ := World.cells?_some hc
      refine ⟨p, fun j u hu => ?_, hp⟩
      have hj : j < k := by
        have := (List.getElem?_eq_some_iff.1 hu).1
        rwa [hk] at this
      rw [← Go.Deep.add_add, hat j hj, hu]
    obtain ⟨l, hll, hq⟩ := list_ofN _ _ hrow
    refine ⟨some a, len, cap, l, rfl, ?_, hll, fun p hp => ?_, by omega⟩
    · have := rd_of_rows (w := w) (a := a) (l := l) hk hk0 fun i x hx => (hq i x hx).1
      rwa [hll] at this
    · obtain ⟨i, hi⟩ := List.getElem?_of_mem hp
      exact (hq i p hi).2
theorem ints_flat (l : List Int) : flat (fun a => [Value.int .i64 a]) l = ints l := by
  induction l with
  | nil => rfl
  | cons a l ih => rw [flat_cons, ih]; rfl
theorem intl_of_trod {fuel : Nat} {cs : List Value} {x : DataW H × List MemPlace} (h : DataW.trod enc Try.prog w base spare held fuel 25 cs = some x) : ∃ A n c l, cs = [.slice A n c] ∧ Rd w w.heap.size 1 A n (ints l) ∧ l.length = n ∧ (∀ p ∈ l, I64 p) ∧ n ≤ maxLen := by
  obtain ⟨A, n, c, l, h1, h2, h3⟩ := rows_of_trod (k := 1) (ok := I64) (cells := fun a => [Value.int .i64 a]) (by omega) Try.underlying25 (by kernel_rfl) (fun _ => rfl) (fun h => int_cells h) h
  rw [ints_flat] at h2
  exact ⟨A, n, c, l, h1, h2, h3⟩
end
end Go.Proofs.Ythncjohekjnjaaa
