/- Lemmas (no conditions): Shrt, Base, InsA -/
import Derived.WalkKit
import Derived.Below
import Derived.Deep.Draws
import Derived.Maps.AppendAt
import Derived.Deep.MidRow
import Derived.Lib.Hide
import Derived.Test.YtnlopdmhdiegnaaGreatDoorRows
import Derived.WalkSpells
import Derived.WalkLawsBesides
import Derived.Deep.RegionLaw
import Derived.Deep.DeepCutAuto
import Derived.Deep.CutBlock
import Derived.BigRegion
set_option linter.unusedSimpArgs false
set_option linter.unusedVariables false
set_option maxRecDepth 100000
set_option maxHeartbeats 64000000
namespace Go.Proofs.YtnlopdmhdiegnaaGreatDoor
open Go.RowKit
section
theorem gis {α : Type} {xs : Array α} {i : Nat} {a : α} (h : xs[i]? = some a) : ∃ hh : i < xs.size, xs[i] = a := Array.getElem?_eq_some_iff.1 h
theorem box_new (w : World) (o : Obj) : ∃ W, w.alloc o = W ∧ Below w.heap.size w W ∧ W.heap[w.heap.size]? = some o :=
  ⟨_, rfl, (Below.refl _ _).alloc (Nat.le_refl _) _, heap_alloc_new w _⟩
end
section
def Rd (w : World) (B sz : Nat) (A : Option Addr) (n : Nat) (xs : List Value) : Prop :=
 xs.length = n * sz /\ (0 < n -> ∃ b o, A = some ⟨b, o, none⟩ /\ b < B /\ ∀ (j : Nat) (u : Value), xs[j]? = some u -> w.cell? ⟨b, o + j, none⟩ = some u)
theorem addAt (b o j : Nat) : (⟨b, o, none⟩ : Addr).add j = ⟨b, o + j, none⟩ := by
 unfold Addr.add
 by_cases h : j = 0 <;> simp [h]
section
variable {w w' : World} {B B' sz n : Nat} {A : Option Addr} {xs : List Value}
theorem Rd.zero (w : World) (B sz : Nat) (A : Option Addr) : Rd w B sz A 0 [] := ⟨by simp, fun h => absurd h (Nat.lt_irrefl 0)⟩
theorem Rd.keep (h : Rd w B sz A n xs) (hk : ∀ p : Addr, p.block < B -> w'.cell? p = w.cell? p) : Rd w' B sz A n xs :=
 ⟨h.1, fun hn => let ⟨b, o, e, hb, hc⟩ := h.2 hn; ⟨b, o, e, hb, fun j u hu => (hk ⟨b, o + j, none⟩ hb).trans (hc j u hu)⟩⟩
theorem Rd.mono (h : Rd w B sz A n xs) (hB : B <= B') : Rd w B' sz A n xs :=
 ⟨h.1, fun hn => let ⟨b, o, e, hb, hc⟩ := h.2 hn; ⟨b, o, e, Nat.lt_of_lt_of_le hb hB, hc⟩⟩
theorem Rd.below (h : Rd w B sz A n xs) (hb : Below B w w') : Rd w' B sz A n xs := h.keep fun _ hp => hb.cell hp
theorem Rd.drew (h : Rd w B sz A n xs) : Rd w.drew B sz A n xs := h
theorem Rd.drewN (h : Rd w B sz A n xs) (k : Nat) : Rd (w.drewN k) B sz A n xs := h
theorem Rd.alloc (h : Rd w B sz A n xs) (hB : B <= w.heap.size) (o : Obj) : Rd (w.alloc o) B sz A n xs :=
 h.keep fun p hp => World.cell?_alloc_lt w o p (Nat.lt_of_lt_of_le hp hB)
theorem Rd.setCell (h : Rd w B sz A n xs) {p : Addr} (hp : B <= p.block) (u : Value) : Rd (w.setCell p u) B sz A n xs :=
 h.keep fun q hq => World.cell?_setCell_other w p q u (fun e => by subst e; omega)
theorem Rd.grown (h : Rd w B sz A n xs) {row : Option Nat} (hg : w.grownBy w' row) (hB : B <= w.heap.size) (hr : ∀ g, row = some g -> B <= g) : Rd w' B sz A n xs :=
 h.keep fun p hp => World.cell?_of_block (hg.block p.block (Nat.lt_of_lt_of_le hp hB) (fun e => by have := hr _ e.symm; omega))
theorem Rd.ofOwn {base e c : Nat} (h : w.ownsRow base e sz (.slice A n c) n xs) : Rd w w.heap.size sz A n xs := by
 refine ⟨h.1, fun hn => ?_⟩
 rcases h.2 with ⟨_, h0⟩ | ⟨g, cap, cur, hv, hb, hg, hnc, hcm, hcs, ht⟩
 ·omega
 ·have hA : A = some ⟨g, 0, none⟩ := by injection hv
  have hlt : g < w.heap.size := (gis hg).1
  refine ⟨g, 0, hA, hlt, fun j u hu => ?_⟩
  have hc := h.cells (g := g) (by rw [hA]; rfl) j u hu
  rwa [addAt] at hc
theorem Rd.cellAt (h : Rd w B sz A n xs) {b o : Nat} (hA : A = some ⟨b, o, none⟩) (hn : 0 < n) {j : Nat} {u : Value} (hu : xs[j]? = some u) : w.cell? ⟨b, o + j, none⟩ = some u := by
 obtain ⟨b', o', e, _, hc⟩ := h.2 hn
 rw [hA] at e
 injection e with e
 injection e with e1 e2
 subst e1; subst e2
 exact hc j u hu
end
def flat {α : Type} (enc : α -> List Value) (l : List α) : List Value := l.flatMap enc
section
variable {α : Type} {enc : α -> List Value} {sz : Nat}
theorem flat_append (l k : List α) : flat enc (l ++ k) = flat enc l ++ flat enc k := by simp [flat]
theorem flat_one (x : α) : flat enc [x] = enc x := by simp [flat]
theorem flat_cons (x : α) (l : List α) : flat enc (x :: l) = enc x ++ flat enc l := by simp [flat]
theorem flat_length (hs : ∀ x, (enc x).length = sz) : ∀ l : List α, (flat enc l).length = l.length * sz
 | [] => by simp [flat]
 | x :: l => by rw [flat_cons, List.length_append, hs, flat_length hs l, List.length_cons, Nat.succ_mul, Nat.add_comm]
theorem flat_get (hs : ∀ x, (enc x).length = sz) : ∀ (l : List α) (k i : Nat) (x : α), l[k]? = some x -> i < sz -> (flat enc l)[k * sz + i]? = (enc x)[i]?
 | [], k, i, x, h, _ => by simp at h
 | y :: l, 0, i, x, h, hi => by
  simp at h
  subst h
  rw [flat_cons, Nat.zero_mul, Nat.zero_add, List.getElem?_append_left (by rw [hs]; exact hi)]
 | y :: l, k + 1, i, x, h, hi => by
  have h' : l[k]? = some x := by simpa using h
  rw [flat_cons, List.getElem?_append_right (by rw [hs, Nat.succ_mul]; omega), hs, Nat.succ_mul]
  have : k * sz + sz + i - sz = k * sz + i := by omega
  rw [this]
  exact flat_get hs l k i x h' hi
end
theorem Rd.elem {α : Type} {enc : α -> List Value} {sz : Nat} (hs : ∀ x, (enc x).length = sz) {w : World} {B n : Nat} {A : Option Addr} {l : List α}
  (h : Rd w B sz A n (flat enc l)) {k : Nat} {x : α} (hx : l[k]? = some x) (hz : 0 < sz) :
  k < n /\ ∃ b o, A = some ⟨b, o, none⟩ /\ b < B /\ ∀ (i : Nat) (u : Value), (enc x)[i]? = some u -> w.cell? ⟨b, o + k * sz + i, none⟩ = some u := by
 have hl : l.length = n := by
  have := h.1
  rw [flat_length hs] at this
  exact Nat.eq_of_mul_eq_mul_right hz this
 have hk : k < n := by rw [<- hl]; exact (List.getElem?_eq_some_iff.1 hx).1
 obtain ⟨b, o, e, hb, hc⟩ := h.2 (by omega)
 refine ⟨hk, b, o, e, hb, fun i u hu => ?_⟩
 have hi : i < sz := by rw [<- hs x]; exact (List.getElem?_eq_some_iff.1 hu).1
 rw [Nat.add_assoc]
 exact hc _ _ (by rw [flat_get hs l k i x hx hi]; exact hu)
theorem run_append_rd {P : Program} (w : World) (base : Nat) (t ty e : TypeId) (i : TypeInfo) (z : Value) (size bytes : Nat) (ht : P.underlying t = some (.slice e)) (hi : P.info? e = some i) (hz : i.zero = some z)
  (hsize : i.size = size) (hby : i.bytes = bytes) (hzs : z.cells.size = size) (hsz : 0 < size)
  (v : Value) (n : Nat) (xs : List Value) (hown : w.ownsRow base e size v n xs)
  (B : Nat) (A : Option Addr) (m c : Nat) (news : List Value) (hr : Rd w B size A m news) (h1 : ∀ u ∈ news, u.oneCell' = true)
  (h63 : n + m <= maxLen) (hbytes : (n + m) * bytes <= 140737488355328) (hbase : base <= w.heap.size) :
  ∃ v' w', (Builtin.append_ #[t, t] ty #[v, .slice A m c]).run P w = .ok v' w' /\ w'.ownsRow base e size v' (n + m) (xs ++ news) /\ w.grownBy w' v.ownBlock ∧
   (v'.ownBlock = v.ownBlock ∨ v'.ownBlock = some w.heap.size) := by
 have hsome : ∀ ad : Addr, A = some ad -> ∀ (j : Nat) (u : Value), news[j]? = some u -> w.cell? (ad.add j) = some u := by
  intro ad hA j u hu
  have hpos : 0 < m := by
   rcases Nat.eq_zero_or_pos m with h0 | h0
   ·have := hr.1
    rw [h0, Nat.zero_mul] at this
    rw [List.eq_nil_of_length_eq_zero this] at hu
    simp at hu
   ·exact h0
  obtain ⟨b, o, e', _, hc⟩ := hr.2 hpos
  rw [hA] at e'
  injection e' with e'
  subst e'
  rw [addAt]
  exact hc j u hu
 match A, hsome, hr with
 | some ad, hsome, hr =>
  obtain ⟨v', w', hrun, h2, h3, _, h5⟩ := run_append_own_at (P := P) w base t ty e i z size bytes ht hi hz hsize hby hzs hsz v n xs hown ad m c news hr.1 (hsome ad rfl) h1 h63 hbytes hbase
  exact ⟨v', w', hrun, h2, h3, h5⟩
 | none, _, hr =>
  have hm : m = 0 := by
   rcases Nat.eq_zero_or_pos m with h0 | h0
   ·exact h0
   ·obtain ⟨b, o, h, _⟩ := hr.2 h0
    cases h
  subst hm
  have hn : news = [] := List.eq_nil_of_length_eq_zero (by simpa using hr.1)
  subst hn
  refine ⟨v, w, ?_, by simpa using hown, ⟨rfl, rfl, rfl, Nat.le_refl _, fun _ _ _ => rfl⟩, .inl rfl⟩
  rcases hown.2 with ⟨rfl, rfl⟩ | ⟨g, cap, cur, rfl, _, _, hnc, _⟩
  ·simp [Builtin.append_, run_underlying ht, sizeOf, typeInfo, hi, Builtin.lenOf, Builtin.firstCells]
  ·simp [Builtin.append_, run_underlying ht, sizeOf, typeInfo, hi, Builtin.lenOf, Builtin.firstCells, hnc, storeCells]
theorem wp_append_rd {P : Program} {o : Oper} {a : Act} {w : World} {K : Act -> World -> Prop} {Q : Exit -> Act -> World -> Prop} (s x : Operand) (t : TypeId)
  (ho : o.op = .call { callee := .builtin .append, args := #[s, x], argTypes := #[t, t] })
  (base e : Nat) (i : TypeInfo) (z : Value) (size bytes : Nat) (ht : P.underlying t = some (.slice e)) (hi : P.info? e = some i) (hz : i.zero = some z)
  (hsize : i.size = size) (hby : i.bytes = bytes) (hzs : z.cells.size = size) (hsz : 0 < size)
  (v : Value) (n : Nat) (xs : List Value) (hs : a.eval s = v) (hown : w.ownsRow base e size v n xs)
  (B : Nat) (A : Option Addr) (m c : Nat) (news : List Value) (hx : a.eval x = .slice A m c) (hr : Rd w B size A m news) (h1 : ∀ u ∈ news, u.oneCell' = true)
  (h63 : n + m <= maxLen) (hbytes : (n + m) * bytes <= 140737488355328) (hbase : base <= w.heap.size)
  (h : ∀ v' w', w'.ownsRow base e size v' (n + m) (xs ++ news) -> w.grownBy w' v.ownBlock -> (v'.ownBlock = v.ownBlock ∨ v'.ownBlock = some w.heap.size) -> K (a.put o.dst v') w') : o.wp P a w K Q := by
 obtain ⟨v', w', hrun, h2, h3, h4⟩ := run_append_rd (P := P) w base t o.type e i z size bytes ht hi hz hsize hby hzs hsz v n xs hown B A m c news hr h1 h63 hbytes hbase
 unfold Oper.wp execOp
 simp only [ho, resolve, invoke, builtin, Sem.run_bind, Sem.run_pure, Result.andThen_ok, List.map_toArray, List.map_cons, List.map_nil, hs, hx, hrun]
 exact h v' w' h2 h3 h4
theorem wpList_append_rd {P : Program} {ops : Array Oper} {rest : List Oper} {o : Oper} {a : Act} {w : World} {Q : Exit -> Act -> World -> Prop} (hgd : o.guard = none) (s x : Operand) (t : TypeId)
  (ho : o.op = .call { callee := .builtin .append, args := #[s, x], argTypes := #[t, t] })
  (base e : Nat) (i : TypeInfo) (z : Value) (size bytes : Nat) (ht : P.underlying t = some (.slice e)) (hi : P.info? e = some i) (hz : i.zero = some z)
  (hsize : i.size = size) (hby : i.bytes = bytes) (hzs : z.cells.size = size) (hsz : 0 < size)
  (v : Value) (n : Nat) (xs : List Value) (hs : a.eval s = v) (hown : w.ownsRow base e size v n xs)
  (B : Nat) (A : Option Addr) (m c : Nat) (news : List Value) (hx : a.eval x = .slice A m c) (hr : Rd w B size A m news) (h1 : ∀ u ∈ news, u.oneCell' = true)
  (h63 : n + m <= maxLen) (hbytes : (n + m) * bytes <= 140737488355328) (hbase : base <= w.heap.size)
  (h : ∀ v' w', w'.ownsRow base e size v' (n + m) (xs ++ news) -> w.grownBy w' v.ownBlock -> (v'.ownBlock = v.ownBlock ∨ v'.ownBlock = some w.heap.size) -> wpList P ops Q rest (a.put o.dst v') w') : wpList P ops Q (o :: rest) a w :=
 wpList_plain hgd fun _ hK => wp_append_rd s x t ho base e i z size bytes ht hi hz hsize hby hzs hsz v n xs hs hown B A m c news hx hr h1 h63 hbytes hbase fun v' w' h2 h3 h4 => hK _ _ (h v' w' h2 h3 h4)
theorem step_append_rd {P : Program} {ops : Array Oper} {o : Oper} {a : Act} {w : World} {K : Act -> World -> Prop} {Q : Exit -> Act -> World -> Prop} {E : Prop} (hgd : o.guard = none) (s x : Operand) (t : TypeId)
  (ho : o.op = .call { callee := .builtin .append, args := #[s, x], argTypes := #[t, t] })
  (base e : Nat) (i : TypeInfo) (z : Value) (size bytes : Nat) (ht : P.underlying t = some (.slice e)) (hi : P.info? e = some i) (hz : i.zero = some z)
  (hsize : i.size = size) (hby : i.bytes = bytes) (hzs : z.cells.size = size) (hsz : 0 < size)
  (v : Value) (n : Nat) (xs : List Value) (hs : a.eval s = v) (hown : w.ownsRow base e size v n xs)
  (B : Nat) (A : Option Addr) (m c : Nat) (news : List Value) (hx : a.eval x = .slice A m c) (hr : Rd w B size A m news) (h1 : ∀ u ∈ news, u.oneCell' = true)
  (h63 : n + m <= maxLen) (hbytes : (n + m) * bytes <= 140737488355328) (hbase : base <= w.heap.size)
  (h : ∀ v' w', w'.ownsRow base e size v' (n + m) (xs ++ news) -> w.grownBy w' v.ownBlock -> (v'.ownBlock = v.ownBlock ∨ v'.ownBlock = some w.heap.size) -> K (a.put o.dst v') w') :
  if Region.wanted o (yielded ops a.tmps) = true then Oper.wp P o a w K Q else E := by
 have hw : Region.wanted o (yielded ops a.tmps) = true := by simp [Region.wanted, hgd]
 rw [if_pos hw]
 exact wp_append_rd s x t ho base e i z size bytes ht hi hz hsize hby hzs hsz v n xs hs hown B A m c news hx hr h1 h63 hbytes hbase h
theorem Rd.built {w : World} {B sz : Nat} {g m : Nat} {cs : Array Value} {t : TypeId} {fr : Nat × Nat} (h : w.heap[g]? = some (.cells cs t fr)) (hB : g < B) (hm : cs.size = m * sz) : Rd w B sz (some ⟨g, 0, none⟩) m cs.toList :=
 ⟨by simpa using hm, fun _ => ⟨g, 0, rfl, hB, fun j u hu => by rw [Nat.zero_add, cell_of_row w g j cs t fr h]; simpa using hu⟩⟩
theorem setCells_row (g : Nat) : ∀ (vs : List Value) (o : Nat) (w : World) (cur : Array Value) (t : TypeId), w.heap[g]? = some (.cells cur t (0, 0)) -> o + vs.length = cur.size →
  w.setCells g o vs = { w with heap := w.heap.setIfInBounds g (.cells ((cur.toList.take o) ++ vs).toArray t (0, 0)) }
 | [], o, w, cur, t, hg, hl => by
  have hc : (cur.toList.take o ++ []).toArray = cur := by
   simp at hl
   rw [List.append_nil, hl, List.take_of_length_le (by simp)]
  have hlt : g < w.heap.size := (gis hg).1
  have hv : w.heap[g] = .cells cur t (0, 0) := (gis hg).2
  have e : w.heap.setIfInBounds g (.cells (cur.toList.take o ++ []).toArray t (0, 0)) = w.heap := by
   rw [hc, <- hv]
   apply Array.ext_getElem?
   intro i
   by_cases h : g = i
   ·subst h
    simp [hlt]
   ·simp [h]
  rw [World.setCells, e]
 | v :: r, o, w, cur, t, hg, hl => by
  have hlt : g < w.heap.size := (gis hg).1
  have h1 : (w.setCell ⟨g, o, none⟩ v).heap[g]? = some (.cells (cur.setIfInBounds o v) t (0, 0)) := heap_setCell_same w g o cur t v hg
  have hl' : o + (r.length + 1) = cur.size := by simpa using hl
  rw [World.setCells, setCells_row g r (o + 1) _ _ t h1 (by simp; omega)]
  have e1 : (cur.setIfInBounds o v).toList.take (o + 1) ++ r = cur.toList.take o ++ v :: r := by
   have ho : o < cur.toList.length := by simp; omega
   rw [Array.toList_setIfInBounds, List.take_add_one, List.take_set_of_le (Nat.le_refl o)]
   have ho2 : o < cur.size := by simpa using ho
   simp [ho2]
  have e2 : (w.setCell ⟨g, o, none⟩ v).heap.setIfInBounds g (.cells (cur.toList.take o ++ v :: r).toArray t (0, 0)) = w.heap.setIfInBounds g (.cells (cur.toList.take o ++ v :: r).toArray t (0, 0)) := by
   apply Array.ext_getElem?
   intro i
   by_cases h : g = i
   ·subst h
    simp [Array.getElem?_setIfInBounds]
   ·have hne : i ≠ (⟨g, o, none⟩ : Addr).block := fun e => h e.symm
    rw [Array.getElem?_setIfInBounds, Array.getElem?_setIfInBounds, if_neg h, if_neg h, heap_setCell_other w ⟨g, o, none⟩ i v hne]
  rw [e1, e2]
  rfl
theorem below_drewN {B : Nat} {a w : World} (h : Below B a w) (n : Nat) : Below B a (w.drewN n) := ⟨h.os, h.tape, h.output, h.size, h.block⟩
theorem own_form {w : World} {base e sz n : Nat} {v : Value} {xs : List Value} (h : w.ownsRow base e sz v n xs) :
  ∃ A c, v = .slice A n c /\ n <= c /\ c <= maxLen /\ (0 < n -> ∃ g, A = some ⟨g, 0, none⟩ /\ g < w.heap.size) := by
 rcases h.2 with ⟨rfl, rfl⟩ | ⟨g, cap, cur, rfl, hb, hg, hnc, hcm, _⟩
 ·exact ⟨none, 0, rfl, Nat.le_refl 0, by unfold maxLen; omega, fun h => absurd h (Nat.lt_irrefl 0)⟩
 ·exact ⟨_, cap, rfl, hnc, hcm, fun _ => ⟨g, rfl, (gis hg).1⟩⟩
theorem ownsRow_base {w : World} {base base' e sz n : Nat} {v : Value} {xs : List Value} (h : w.ownsRow base e sz v n xs) (hb : base' <= base) : w.ownsRow base' e sz v n xs := by
 refine ⟨h.1, ?_⟩
 rcases h.2 with h2 | ⟨g, cap, cur, hv, hg, r⟩
 ·exact .inl h2
 ·exact .inr ⟨g, cap, cur, hv, Nat.le_trans hb hg, r⟩
theorem own_ne {w : World} {base e sz n : Nat} {v : Value} {xs : List Value} (h : w.ownsRow base e sz v n xs) {g : Nat} {cs : Array Value} {t : TypeId} {fr : Nat × Nat} (hg : w.heap[g]? = some (.cells cs t fr)) (hne : e ≠ t) : v.ownBlock ≠ some g := by
 rcases h.2 with ⟨rfl, _⟩ | ⟨g', cap, cur, rfl, _, hgg, _⟩
 ·simp [Value.ownBlock]
 ·intro e2
  have e3 : g' = g := by simpa [Value.ownBlock] using e2
  rw [e3, hg] at hgg
  injection hgg with hgg
  injection hgg with _ ht
  exact hne ht.symm
theorem ownsRow_setCell_ne {w : World} {base e sz n : Nat} {v : Value} {xs : List Value} (h : w.ownsRow base e sz v n xs) {p : Addr} (hne : v.ownBlock ≠ some p.block) (u : Value) : (w.setCell p u).ownsRow base e sz v n xs :=
 h.kept (row := some p.block) ⟨rfl, rfl, rfl, by simp, fun k _ hk => heap_setCell_other w p k u (fun e => hk (by rw [e]))⟩ (.inr hne)
theorem grownBy_of_below {a w : World} (h : Below a.heap.size a w) (row : Option Nat) : a.grownBy w row := ⟨h.os, h.tape, h.output, h.size, fun i hi _ => h.block i hi⟩
theorem grownBy_trans {a b c : World} {row : Option Nat} (h : a.grownBy b row) (k : b.grownBy c row) : a.grownBy c row :=
 ⟨k.os.trans h.os, k.tape.trans h.tape, k.output.trans h.output, Nat.le_trans h.size k.size, fun i hi hne => (k.block i (Nat.lt_of_lt_of_le hi h.size) hne).trans (h.block i hi hne)⟩
end
section
def ints (l : List Int) : List Value := l.map (Value.int .i64)
theorem ints_length (l : List Int) : (ints l).length = l.length := by simp [ints]
theorem ints_at (l : List Int) (k : Nat) : (ints l)[k]? = (l[k]?).map (Value.int .i64) := by simp [ints]
theorem ints_append (l k : List Int) : ints (l ++ k) = ints l ++ ints k := by simp [ints]
theorem Rd.int {w : World} {B n : Nat} {A : Option Addr} {l : List Int} (h : Rd w B 1 A n (ints l)) {k : Nat} {x : Int} (hx : l[k]? = some x) :
  k < n /\ ∃ b o, A = some ⟨b, o, none⟩ /\ b < B /\ w.cell? ⟨b, o + k, none⟩ = some (.int .i64 x) := by
 have hl := h.1
 rw [ints_length, Nat.mul_one] at hl
 have hk : k < n := by rw [<- hl]; exact (List.getElem?_eq_some_iff.1 hx).1
 obtain ⟨b, o, hA, hb, hc⟩ := h.2 (by omega)
 exact ⟨hk, b, o, hA, hb, hc k _ (by rw [ints_at, hx]; rfl)⟩
theorem Rd.len1 {w : World} {B n : Nat} {A : Option Addr} {l : List Int} (h : Rd w B 1 A n (ints l)) : l.length = n := by
 have := h.1
 rwa [ints_length, Nat.mul_one] at this
theorem Rd.take {w : World} {B sz n : Nat} {A : Option Addr} {xs : List Value} (h : Rd w B sz A n xs) {k : Nat} (hk : k <= n) : Rd w B sz A k (xs.take (k * sz)) := by
 refine ⟨?_, fun hk0 => ?_⟩
 ·rw [List.length_take, h.1]
  exact Nat.min_eq_left (Nat.mul_le_mul_right _ hk)
 ·obtain ⟨b, o, hA, hb, hc⟩ := h.2 (by omega)
  refine ⟨b, o, hA, hb, fun j u hu => hc j u ?_⟩
  rw [List.getElem?_take] at hu
  split at hu
  ·exact hu
  ·cases hu
theorem Rd.drop {w : World} {B sz n : Nat} {A : Option Addr} {xs : List Value} (h : Rd w B sz A n xs) {k c : Nat} (hk : k <= n) (hc : n <= c) :
  Rd w B sz (if c = k then A else A.map (·.add (k * sz))) (n - k) (xs.drop (k * sz)) := by
 refine ⟨?_, fun hk0 => ?_⟩
 ·rw [List.length_drop, h.1, Nat.sub_mul]
 ·obtain ⟨b, o, hA, hb, hcell⟩ := h.2 (by omega)
  refine ⟨b, o + k * sz, ?_, hb, fun j u hu => ?_⟩
  ·rw [if_neg (by omega), hA]
   simp [addAt]
  ·rw [List.getElem?_drop] at hu
   rw [Nat.add_assoc]
   exact hcell _ u hu
def insS (l : List Int) (n : Int) : List Int := l.filter (fun x => decide (x < n)) ++ n :: l.filter (fun x => decide (n < x))
theorem mem_insS (l : List Int) (n x : Int) : x ∈ insS l n ↔ x = n ∨ x ∈ l := by
 unfold insS
 simp only [List.mem_append, List.mem_filter, List.mem_cons, decide_eq_true_eq]
 constructor
 ·rintro (⟨h, _⟩ | h | ⟨h, _⟩)
  ·exact .inr h
  ·exact .inl h
  ·exact .inr h
 ·rintro (h | h)
  ·exact .inr (.inl h)
  ·rcases Int.lt_trichotomy x n with h1 | h1 | h1
   ·exact .inl ⟨h, h1⟩
   ·exact .inr (.inl h1)
   ·exact .inr (.inr ⟨h, h1⟩)
theorem sorted_insS {l : List Int} (n : Int) (h : l.Pairwise (· < ·)) : (insS l n).Pairwise (· < ·) := by
 unfold insS
 refine List.pairwise_append.2 ⟨h.filter _, List.pairwise_cons.2 ⟨fun x hx => ?_, h.filter _⟩, fun x hx y hy => ?_⟩
 ·simpa using (List.mem_filter.1 hx).2
 ·have h1 : x < n := by simpa using (List.mem_filter.1 hx).2
  rcases List.mem_cons.1 hy with rfl | hy
  ·exact h1
  ·have h2 : n < y := by simpa using (List.mem_filter.1 hy).2
   omega
theorem length_insS (l : List Int) (n : Int) : (insS l n).length <= l.length + 1 := by
 unfold insS
 have h1 := List.length_filter_le (fun x : Int => decide (x < n)) l
 have h : ∀ l : List Int, (l.filter (fun x => decide (x < n))).length + (l.filter (fun x => decide (n < x))).length <= l.length := by
  intro l
  induction l with
  | nil => simp
  | cons y r ih =>
   simp only [List.filter_cons]
   rcases Int.lt_trichotomy y n with h1 | h1 | h1
   ·have h2 : ¬ n < y := by omega
    simp only [h1, h2, decide_true, decide_false, if_true, List.length_cons, Bool.false_eq_true, if_false]
    omega
   ·have h2 : ¬ n < y := by omega
    have h3 : ¬ y < n := by omega
    simp only [h3, h2, decide_false, List.length_cons, Bool.false_eq_true, if_false]
    omega
   ·have h2 : ¬ y < n := by omega
    simp only [h1, h2, decide_true, decide_false, if_true, List.length_cons, Bool.false_eq_true, if_false]
    omega
 have := h l
 simp
 omega
end
end Go.Proofs.YtnlopdmhdiegnaaGreatDoor
