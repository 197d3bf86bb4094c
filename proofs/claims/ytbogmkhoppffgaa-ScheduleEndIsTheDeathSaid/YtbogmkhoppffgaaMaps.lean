/- A map from int that the call itself made, by its entries in the order in which they were laid: look-up, store, and ranging over it. No program of the seat is named here. -/
import Derived.Test.YtbogmkhoppffgaaBase
import Derived.Maps.RangeRun
namespace Go.Proofs.Ytbogmkhoppffgaa
open Go.RowKit
open Go.ChangeMaps (setBlock)

section
variable {β : Type}

def look (m : List (Int × β)) (k : Int) : Option β := (m.find? fun p => p.1 == k).map (·.2)

def setKey : List (Int × β) → Int → β → List (Int × β)
  | [], k, v => [(k, v)]
  | p :: r, k, v => if p.1 == k then (k, v) :: r else p :: setKey r k v

theorem look_nil (k : Int) : look ([] : List (Int × β)) k = none := rfl
theorem look_cons (p : Int × β) (r : List (Int × β)) (k : Int) : look (p :: r) k = if p.1 = k then some p.2 else look r k := by
  unfold look
  by_cases h : p.1 = k <;> simp [h]
theorem look_setKey (m : List (Int × β)) (k : Int) (v : β) (j : Int) : look (setKey m k v) j = if j = k then some v else look m j := by
  induction m with
  | nil =>
    by_cases h : j = k
    · simp [setKey, look_cons, h]
    · have h' : ¬ k = j := fun e => h e.symm
      simp [setKey, look_cons, look_nil, h, h']
  | cons p r ih =>
    by_cases hp : p.1 = k
    · by_cases h : j = k
      · simp [setKey, look_cons, h, hp]
      · have h' : ¬ k = j := fun e => h e.symm
        simp [setKey, look_cons, h, hp, h']
    · simp only [setKey, beq_iff_eq, hp, if_false, look_cons, ih]
      by_cases h : j = k
      · have h' : ¬ p.1 = j := fun e => hp (e.trans h)
        simp [h, hp]
      · simp [h]
theorem mem_keys_setKey (m : List (Int × β)) (k : Int) (v : β) (j : Int) : j ∈ (setKey m k v).map (·.1) ↔ j = k ∨ j ∈ m.map (·.1) := by
  induction m with
  | nil => simp [setKey]
  | cons p r ih =>
    by_cases hp : p.1 = k
    · simp [setKey, hp]
    · simp only [setKey, beq_iff_eq, hp, if_false, List.map_cons, List.mem_cons, ih]
      constructor
      · rintro (h | h | h)
        · exact .inr (.inl h)
        · exact .inl h
        · exact .inr (.inr h)
      · rintro (h | h | h)
        · exact .inr (.inl h)
        · exact .inl h
        · exact .inr (.inr h)
theorem nodup_setKey (m : List (Int × β)) (k : Int) (v : β) (h : (m.map (·.1)).Nodup) : ((setKey m k v).map (·.1)).Nodup := by
  induction m with
  | nil => simp [setKey]
  | cons p r ih =>
    rw [List.map_cons, List.nodup_cons] at h
    by_cases hp : p.1 = k
    · simp only [setKey, hp, beq_self_eq_true, if_true, List.map_cons, List.nodup_cons]
      rw [hp] at h
      exact h
    · simp only [setKey, beq_iff_eq, hp, if_false, List.map_cons, List.nodup_cons]
      refine ⟨fun hm => ?_, ih h.2⟩
      rcases (mem_keys_setKey r k v p.1).1 hm with e | e
      · exact hp e
      · exact h.1 e
theorem look_isSome (m : List (Int × β)) (k : Int) : (look m k).isSome = true ↔ k ∈ m.map (·.1) := by
  induction m with
  | nil => simp [look_nil]
  | cons p r ih =>
    rw [look_cons]
    by_cases h : p.1 = k
    · simp [h]
    · have h' : ¬ k = p.1 := fun e => h e.symm
      simp only [h, if_false, ih, List.map_cons, List.mem_cons, h', false_or]
theorem look_of_mem {m : List (Int × β)} (hn : (m.map (·.1)).Nodup) {p : Int × β} (hp : p ∈ m) : look m p.1 = some p.2 := by
  induction m with
  | nil => simp at hp
  | cons q r ih =>
    rw [List.map_cons, List.nodup_cons] at hn
    rw [look_cons]
    rcases List.mem_cons.1 hp with rfl | hp
    · simp
    · have hne : ¬ q.1 = p.1 := fun e => hn.1 (by rw [e]; exact List.mem_map_of_mem hp)
      simp only [hne, if_false]
      exact ih hn.2 hp

variable {ve : β → Value}

/-- Block b is a map from int; its entries, in the order in which they were laid, are m. -/
def IMap (ve : β → Value) (w : World) (b : Nat) (m : List (Int × β)) : Prop :=
  ∃ es clock, w.heap[b]? = some (.map es clock) ∧ es.toList.map (fun e => (e.key, e.val)) = m.map (fun p => (Value.int .i64 p.1, ve p.2)) ∧
    (es.toList.map (·.born)).Nodup ∧ ∀ e ∈ es.toList, e.born < clock

theorem IMap.made (w : World) : IMap ve (w.alloc (.map #[] 0)) w.heap.size [] :=
  ⟨#[], 0, heap_alloc_new w _, by simp, by simp, by simp⟩
theorem IMap.lt {w : World} {b : Nat} {m : List (Int × β)} (h : IMap ve w b m) : b < w.heap.size := by
  obtain ⟨es, clock, hb, _⟩ := h
  exact (Array.getElem?_eq_some_iff.1 hb).1
theorem IMap.same {w w' : World} {b : Nat} {m : List (Int × β)} (h : IMap ve w b m) (hb : w'.heap[b]? = w.heap[b]?) : IMap ve w' b m := by
  obtain ⟨es, clock, h1, h2⟩ := h
  exact ⟨es, clock, hb.trans h1, h2⟩
theorem IMap.grown {w w' : World} {b : Nat} {m : List (Int × β)} {row : Option Nat} (h : IMap ve w b m) (hg : w.grownBy w' row) (hne : some b ≠ row) : IMap ve w' b m :=
  h.same (hg.block b h.lt hne)
theorem IMap.alloc {w : World} {b : Nat} {m : List (Int × β)} (h : IMap ve w b m) (o : Obj) : IMap ve (w.alloc o) b m := h.same (Below.heap_alloc w o b h.lt)
theorem IMap.drew {w : World} {b : Nat} {m : List (Int × β)} (h : IMap ve w b m) : IMap ve w.drew b m := h
theorem IMap.setCell {w : World} {b : Nat} {m : List (Int × β)} (h : IMap ve w b m) {p : Addr} (hne : b ≠ p.block) (u : Value) : IMap ve (w.setCell p u) b m :=
  h.same (heap_setCell_other w p b u hne)

theorem findNow_ints {kd : IntKind} (k : Int) : ∀ (l : List MapEntry) (m : List (Int × β)) (i : Nat), l.map (fun e => (e.key, e.val)) = m.map (fun p => (Value.int .i64 p.1, ve p.2)) →
    (look m k = none ∧ Instr.findNow (.int kd) (.int .i64 k) l i = some none ∧ ∀ v : β, setKey m k v = m ++ [(k, v)]) ∨
    ∃ (j : Nat) (e : MapEntry) (x : β), l[j]? = some e ∧ e.key = .int .i64 k ∧ e.val = ve x ∧ look m k = some x ∧ Instr.findNow (.int kd) (.int .i64 k) l i = some (some (i + j, ve x)) ∧ ∀ v : β, setKey m k v = m.set j (k, v)
  | [], [], i, _ => .inl ⟨rfl, rfl, fun _ => rfl⟩
  | [], _ :: _, _, h => by simp at h
  | _ :: _, [], _, h => by simp at h
  | e :: l, p :: m, i, h => by
    simp only [List.map_cons, List.cons.injEq, Prod.mk.injEq] at h
    obtain ⟨⟨hk, hv⟩, hr⟩ := h
    by_cases hp : p.1 = k
    · refine .inr ⟨0, e, p.2, by simp, by rw [hk, hp], hv, by simp [look_cons, hp], ?_, fun v => by simp [setKey, hp]⟩
      simp [Instr.findNow, hk, Instr.sameNow, hp, hv]
    · have hp' : ¬ k = p.1 := fun e => hp e.symm
      have hf : Instr.findNow (.int kd) (.int .i64 k) (e :: l) i = Instr.findNow (.int kd) (.int .i64 k) l (i + 1) := by
        have hb : (k == p.1) = false := beq_eq_false_iff_ne.2 hp'
        simp [Instr.findNow, hk, Instr.sameNow, hb]
      rcases findNow_ints (kd := kd) k l m (i + 1) hr with ⟨h1, h2, h3⟩ | ⟨j, e', x, h1, h2, h2', h3, h4, h5⟩
      · exact .inl ⟨by simp [look_cons, hp, h1], by rw [hf, h2], fun v => by simp [setKey, hp, h3]⟩
      · refine .inr ⟨j + 1, e', x, by simpa using h1, h2, h2', by simp [look_cons, hp, h3], ?_, fun v => by simp [setKey, hp, h5]⟩
        rw [hf, h4, show i + 1 + j = i + (j + 1) from by omega]

section
variable {P : Program} {w : World} {b : Nat} {m : List (Int × β)} {t kt et : TypeId}

theorem run_findKey_imap {kd : IntKind} (hk : P.underlying kt = some (.int kd)) (k : Int) {es : Array MapEntry} {r : Option (Nat × Value)} (hf : Instr.findNow (.int kd) (.int .i64 k) es.toList 0 = some r) (w : World) :
    (Instr.findKey kt (.int .i64 k) es.toList).run P w = .ok r w := by
  simp [Instr.findKey, run_underlying hk, hf]

theorem run_checkKey_int {kd : IntKind} (hk : P.underlying kt = some (.int kd)) (k : Int) (em : Bool) (n : Nat) (w : World) : (Instr.checkKey em (n + 1) kt (.int .i64 k)).run P w = .ok () w := by
  simp [Instr.checkKey, run_underlying hk]

/-- 'm[k]' and 'v, ok := m[k]'. -/
theorem run_lookup_imap {kd : IntKind} (ht : P.underlying t = some (.map kt et)) (hk : P.underlying kt = some (.int kd)) {z : Value} (hz : ∀ w, (zeroValue et).run P w = .ok z w) (h : IMap ve w b m) (k : Int) :
    (Instr.lookup t (.map (some b)) (.int .i64 k) false).run P w = .ok ((look m k).elim z ve) w ∧
    (Instr.lookup t (.map (some b)) (.int .i64 k) true).run P w = .ok (.tuple #[(look m k).elim z ve, .bool (look m k).isSome]) w := by
  obtain ⟨es, clock, hb, hl, _, _⟩ := h
  have hc := fun em n => run_checkKey_int (P := P) hk k em n w
  rcases findNow_ints (kd := kd) k es.toList m 0 hl with ⟨h1, h2, _⟩ | ⟨j, e', x, _, _, _, h3, h4, _⟩
  · have hf := run_findKey_imap hk k h2 w
    constructor <;> simp [Instr.lookup, run_underlying ht, getObj, Sem.run, hb, hc, hf, h1, hz]
  · have hf := run_findKey_imap hk k h4 w
    constructor <;> simp [Instr.lookup, run_underlying ht, getObj, Sem.run, hb, hc, hf, h3]

/-- A nil map. -/
theorem run_lookup_nilmap {kd : IntKind} (ht : P.underlying t = some (.map kt et)) (hk : P.underlying kt = some (.int kd)) {z : Value} (hz : ∀ w, (zeroValue et).run P w = .ok z w) (k : Int) (w : World) :
    (Instr.lookup t (.map none) (.int .i64 k) false).run P w = .ok z w := by
  have hc := fun em n => run_checkKey_int (P := P) hk k em n w
  simp [Instr.lookup, run_underlying ht, hc, Instr.findKey, run_underlying hk, Instr.findNow, hz]

theorem sameBits_int (n : Nat) (k : Int) : Instr.sameBits n (.int .i64 k) (.int .i64 k) = true := by
  cases n <;> simp [Instr.sameBits]

/-- 'm[k] = v'. -/
theorem run_mapUpdate_imap {kd : IntKind} (ht : P.underlying t = some (.map kt et)) (hk : P.underlying kt = some (.int kd)) (h : IMap ve w b m) (k : Int) (v : β) :
    ∃ w', (Instr.mapUpdate t (.map (some b)) (.int .i64 k) (ve v)).run P w = .ok () w' ∧ IMap ve w' b (setKey m k v) ∧ w.grownBy w' (some b) := by
  obtain ⟨es, clock, hb, hl, hn, hlt⟩ := h
  have hc := fun em n => run_checkKey_int (P := P) hk k em n w
  have hgrow : ∀ o, w.grownBy { w with heap := w.heap.setIfInBounds b o } (some b) := fun o =>
    ⟨rfl, rfl, rfl, by simp, fun i _ hi => by
      have : b ≠ i := fun e => hi (by rw [e])
      simp [this]⟩
  have hblt : b < w.heap.size := (Array.getElem?_eq_some_iff.1 hb).1
  have hset : ∀ o, ({ w with heap := w.heap.setIfInBounds b o } : World).heap[b]? = some o := fun o => by
    simp [hblt]
  rcases findNow_ints (kd := kd) k es.toList m 0 hl with ⟨h1, h2, h3⟩ | ⟨j, e', x, he, hek, hev, h3, h4, h5⟩
  · have hf := run_findKey_imap hk k h2 w
    refine ⟨{ w with heap := w.heap.setIfInBounds b (.map (es.push { key := .int .i64 k, val := ve v, born := clock }) (clock + 1)) }, ?_, ?_, hgrow _⟩
    · simp [Instr.mapUpdate, run_underlying ht, getObj, setObj, Sem.run, hb, hc, hf]
    · refine ⟨_, _, hset _, ?_, ?_, ?_⟩
      · rw [h3 v]
        simp [hl]
      · simp only [Array.toList_push, List.map_append, List.map_cons, List.map_nil]
        rw [List.nodup_append]
        refine ⟨hn, by simp, fun a ha c hc' e => ?_⟩
        simp at hc'
        obtain ⟨e0, he0, rfl⟩ := List.mem_map.1 ha
        have := hlt e0 he0
        omega
      · intro e0 he0
        simp at he0
        rcases he0 with he0 | rfl
        · have := hlt e0 (by simpa using he0)
          omega
        · simp
  · have hf := run_findKey_imap hk k h4 w
    have hj : es[j]? = some e' := by rw [← he]; simp
    have hjl : j < es.size := by
      have := (Array.getElem?_eq_some_iff.1 hj).1
      exact this
    refine ⟨{ w with heap := w.heap.setIfInBounds b (.map (es.modify j fun e => { e with key := .int .i64 k, val := ve v }) clock) }, ?_, ?_, hgrow _⟩
    · simp [Instr.mapUpdate, run_underlying ht, getObj, setObj, Sem.run, hb, hc, hf, hj, hek, Instr.keyThatStays, sameBits_int]
    · have hl' : (es.modify j fun e => { e with key := .int .i64 k, val := ve v }).toList = es.toList.set j { e' with key := .int .i64 k, val := ve v } := by
        apply List.ext_getElem?
        intro i
        rw [Array.getElem?_toList, Array.getElem?_modify, List.getElem?_set]
        by_cases hij : j = i
        · subst hij
          have hl2 : j < es.toList.length := by simpa using hjl
          rw [if_pos rfl, if_pos rfl, if_pos hl2, hj]
          rfl
        · simp [hij]
      refine ⟨_, _, hset _, ?_, ?_, ?_⟩
      · rw [hl', h5 v, List.map_set, List.map_set, hl]
      · rw [hl', List.map_set]
        have : (es.toList.map (·.born)).set j e'.born = es.toList.map (·.born) := by
          apply List.ext_getElem?
          intro i
          rw [List.getElem?_set]
          by_cases hij : j = i
          · subst hij
            have hlen : j < (es.toList.map (·.born)).length := by simpa using hjl
            simp only [if_true, hlen]
            rw [List.getElem?_map, he]
            rfl
          · simp [hij]
        rw [this]
        exact hn
      · intro e0 he0
        rw [hl'] at he0
        rcases List.mem_or_eq_of_mem_set he0 with h0 | rfl
        · exact hlt e0 h0
        · exact hlt e' (List.mem_of_getElem? he)

/-- Iterator block r goes over map block b (entries m); the entries 'left' are still to come. -/
def Ranging (ve : β → Value) (w : World) (b r : Nat) (m left : List (Int × β)) : Prop :=
  ∃ es clock since seen c0, w.heap[r]? = some (.mapIter (some b) since seen c0) ∧ w.heap[b]? = some (.map es clock) ∧
    es.toList.map (fun e => (e.key, e.val)) = m.map (fun p => (Value.int .i64 p.1, ve p.2)) ∧ (es.toList.map (·.born)).Nodup ∧ (∀ e ∈ es.toList, e.born < clock) ∧
    (∀ x ∈ es.toList, x.born < since) ∧ since ≤ c0 ∧ clock = c0 ∧ (leftOf es seen).toList.map (fun e => (e.key, e.val)) = left.map (fun p => (Value.int .i64 p.1, ve p.2))

theorem Ranging.imap {r : Nat} {left : List (Int × β)} (h : Ranging ve w b r m left) : IMap ve w b m := by
  obtain ⟨es, clock, since, seen, c0, _, hb, hl, hn, hlt, _⟩ := h
  exact ⟨es, clock, hb, hl, hn, hlt⟩
theorem Ranging.same {w' : World} {r : Nat} {left : List (Int × β)} (h : Ranging ve w b r m left) (h1 : w'.heap[r]? = w.heap[r]?) (h2 : w'.heap[b]? = w.heap[b]?) : Ranging ve w' b r m left := by
  obtain ⟨es, clock, since, seen, c0, hr, hb, rest⟩ := h
  exact ⟨es, clock, since, seen, c0, h1.trans hr, h2.trans hb, rest⟩
theorem Ranging.rlt {r : Nat} {left : List (Int × β)} (h : Ranging ve w b r m left) : r < w.heap.size := by
  obtain ⟨es, clock, since, seen, c0, hr, _⟩ := h
  exact (Array.getElem?_eq_some_iff.1 hr).1
theorem Ranging.ne {r : Nat} {left : List (Int × β)} (h : Ranging ve w b r m left) : r ≠ b := by
  obtain ⟨es, clock, since, seen, c0, hr, hb, _⟩ := h
  rintro rfl
  rw [hr] at hb
  cases hb

/-- 'range m', at its beginning. -/
theorem run_range_imap (ht : P.underlying t = some (.map kt et)) (h : IMap ve w b m) :
    ∃ o, (Instr.range t (.map (some b))).run P w = .ok (.pointer (some ⟨w.heap.size, 0, none⟩)) (w.alloc o) ∧ Ranging ve (w.alloc o) b w.heap.size m m := by
  obtain ⟨es, clock, hb, hl, hn, hlt⟩ := h
  have hblt : b < w.heap.size := (Array.getElem?_eq_some_iff.1 hb).1
  refine ⟨.mapIter (some b) clock #[] clock, ?_, es, clock, clock, #[], clock, heap_alloc_new w _, (Below.heap_alloc w _ b hblt).trans hb, hl, hn, hlt, hlt, Nat.le_refl _, rfl, ?_⟩
  · simp [Instr.range, run_underlying ht, getObj, Sem.run, hb]
  · have e : leftOf es #[] = es := by simp [leftOf]
    rw [e]
    exact hl

theorem filter_out {e : MapEntry} : ∀ {l1 l2 : List MapEntry}, ((l1 ++ e :: l2).map (·.born)).Nodup → (l1 ++ e :: l2).filter (fun x => decide (x.born ≠ e.born)) = l1 ++ l2 := by
  intro l1 l2 hn
  rw [List.map_append, List.map_cons, List.nodup_append] at hn
  obtain ⟨_, h2, h3⟩ := hn
  rw [List.nodup_cons] at h2
  have e1 : l1.filter (fun x => decide (x.born ≠ e.born)) = l1 := List.filter_eq_self.2 fun x hx => by
    simpa using h3 x.born (List.mem_map_of_mem hx) e.born (by simp)
  have e2 : l2.filter (fun x => decide (x.born ≠ e.born)) = l2 := List.filter_eq_self.2 fun x hx => by
    have : x.born ≠ e.born := fun he => h2.1 (by rw [← he]; exact List.mem_map_of_mem hx)
    simpa using this
  rw [List.filter_append, e1, List.filter_cons, if_neg (by simp), e2]

/-- One step of 'range m': all entries are over, or one that is left comes up. -/
theorem run_next_imap {r : Nat} {left : List (Int × β)} (h : Ranging ve w b r m left) :
    (left = [] ∧ ∀ ty, (Instr.next (.pointer (some ⟨r, 0, none⟩)) false ty).run P w = .ok (.tuple #[.bool false]) w) ∨
    ∃ l1 p l2 w', left = l1 ++ p :: l2 ∧ (∀ ty, (Instr.next (.pointer (some ⟨r, 0, none⟩)) false ty).run P w = .ok (.tuple #[.bool true, .int .i64 p.1, ve p.2]) w') ∧
      Ranging ve w' b r m (l1 ++ l2) ∧ w.grownBy w' (some r) ∧ (Instr.entry (.pointer (some ⟨r, 0, none⟩))).run P w' = .ok (.tuple #[.int .i64 p.1, ve p.2]) w' := by
  have hne := h.ne
  have hrlt := h.rlt
  obtain ⟨es, clock, since, seen, c0, hr, hb, hl, hn, hlt, hold, hsc, hcc, hleft⟩ := h
  have key := fun ty => run_next_at (P := P) w ty r b since c0 seen es clock hr hb hold hsc
  by_cases h0 : (leftOf es seen).size = 0
  · left
    refine ⟨?_, fun ty => ?_⟩
    · have : (leftOf es seen).toList = [] := List.eq_nil_of_length_eq_zero (by simpa using h0)
      rw [this] at hleft
      simpa using hleft.symm
    · rcases key ty with ⟨_, h1⟩ | ⟨e, he, _⟩
      · exact h1
      · have : (leftOf es seen).toList = [] := List.eq_nil_of_length_eq_zero (by simpa using h0)
        rw [this] at he
        simp at he
  · right
    rcases key 0 with ⟨h1, _⟩ | ⟨e, he, w1, hw1, hrun⟩
    · exact absurd h1 h0
    · have hrunT : ∀ ty, (Instr.next (.pointer (some ⟨r, 0, none⟩)) false ty).run P w = .ok (.tuple #[.bool true, e.key, e.val]) (setBlock w1 r (.mapIter (some b) since (seen.push e.born) clock)) := fun ty => hrun
      obtain ⟨L1, L2, hL⟩ := List.append_of_mem he
      have hsub : ((leftOf es seen).toList.map (·.born)).Nodup := by
        have hs : (leftOf es seen).toList.Sublist es.toList := by
          unfold leftOf
          rw [Array.toList_filter]
          exact List.filter_sublist
        exact (hs.map _).nodup hn
      have heq : left.map (fun p => (Value.int .i64 p.1, ve p.2)) = L1.map (fun e => (e.key, e.val)) ++ (e.key, e.val) :: L2.map (fun e => (e.key, e.val)) := by
        rw [← hleft, hL]
        simp
      obtain ⟨l1, r1, hlr, hl1, hr1⟩ := List.map_eq_append_iff.1 heq
      obtain ⟨p, l2, hr2, hp, hl2⟩ := List.map_eq_cons_iff.1 hr1
      simp only [Prod.mk.injEq] at hp
      have hes : e ∈ es.toList := by
        have : e ∈ leftOf es seen := by simpa using he
        unfold leftOf at this
        rw [Array.mem_filter] at this
        simpa using this.1
      have hheap : w1.heap = w.heap := by rcases hw1 with rfl | rfl <;> rfl
      have hset : ∀ o, (setBlock w1 r o).heap[r]? = some o := fun o => by
        simp [setBlock, hheap, hrlt]
      have hoth : ∀ o k, k ≠ r → (setBlock w1 r o).heap[k]? = w.heap[k]? := fun o k hk => by
        have : r ≠ k := fun e => hk e.symm
        simp [setBlock, hheap, this]
      refine ⟨l1, p, l2, setBlock w1 r (.mapIter (some b) since (seen.push e.born) clock), by rw [hlr, hr2], fun ty => by rw [hp.1, hp.2]; exact hrunT ty, ?_, ?_, ?_⟩
      · refine ⟨es, clock, since, seen.push e.born, clock, hset _, (hoth _ b (fun e => hne e.symm)).trans hb, hl, hn, hlt, hold, by omega, rfl, ?_⟩
        have e1 : (leftOf es (seen.push e.born)).toList = (leftOf es seen).toList.filter (fun x => decide (x.born ≠ e.born)) := by
          unfold leftOf
          rw [Array.toList_filter, Array.toList_filter, List.filter_filter]
          congr 1
          funext x
          rw [Bool.eq_iff_iff]
          simp
          constructor
          · rintro ⟨h1, h2⟩
            exact ⟨fun e => h2 e, h1⟩
          · rintro ⟨h1, h2⟩
            exact ⟨h2, fun e => h1 e⟩
        rw [hL] at hsub
        rw [e1, hL, filter_out hsub, List.map_append, List.map_append, hl1, hl2]
      · exact ⟨by rcases hw1 with rfl | rfl <;> rfl, by rcases hw1 with rfl | rfl <;> rfl, by rcases hw1 with rfl | rfl <;> rfl, by simp [setBlock, hheap], fun k _ hk => hoth _ k (fun e => hk (by rw [e]))⟩
      · rw [hp.1, hp.2]
        exact run_entry_at _ r b since seen es clock e (hset _) ((hoth _ b (fun e => hne e.symm)).trans hb) hes hn
end
end
end Go.Proofs.Ytbogmkhoppffgaa
