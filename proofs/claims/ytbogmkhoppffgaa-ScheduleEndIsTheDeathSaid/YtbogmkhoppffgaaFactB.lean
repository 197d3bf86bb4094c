/- A fact's place in an ascending list, found from behind. No program of the seat is named here. -/
import Derived.Test.YtbogmkhoppffgaaFact
namespace Go.Proofs.Ytbogmkhoppffgaa

theorem cmpF_neg (x y : Fc) : cmpF x y < 0 ↔ (x.i < y.i ∨ (x.i = y.i ∧ x.n < y.n)) := by
  unfold cmpF
  by_cases h1 : x.i < y.i
  · rw [if_pos h1]
    omega
  · by_cases h2 : y.i < x.i
    · rw [if_neg h1, if_pos h2]
      omega
    · by_cases h3 : x.n < y.n
      · rw [if_neg h1, if_neg h2, if_pos h3]
        omega
      · by_cases h4 : y.n < x.n
        · rw [if_neg h1, if_neg h2, if_neg h3, if_pos h4]
          omega
        · rw [if_neg h1, if_neg h2, if_neg h3, if_neg h4]
          omega
theorem cmpF_gt (x y : Fc) : 0 < cmpF x y ↔ (y.i < x.i ∨ (x.i = y.i ∧ y.n < x.n)) := by
  have a := cmpF_neg x y
  have b := @cmpF_zero x y
  omega
def AscF (L : List Fc) : Prop := L.Pairwise fun x y => cmpF x y < 0
theorem grF_or (x f : Fc) : grF x f = f ∨ grF x f = x := by
  unfold grF
  split
  · exact .inl rfl
  · exact .inr rfl
theorem insF_asc (f : Fc) : ∀ l : List Fc, AscF l → AscF (insF f l)
  | [], _ => by simp [insF, AscF]
  | x :: l, h => by
    obtain ⟨h1, h2⟩ := List.pairwise_cons.1 h
    unfold insF
    by_cases c1 : cmpF x f < 0
    · rw [if_pos c1]
      refine List.pairwise_cons.2 ⟨fun y hy => ?_, insF_asc f l h2⟩
      rcases insF_mem f l y hy with rfl | hy
      · exact c1
      · exact h1 y hy
    · by_cases c2 : cmpF x f = 0
      · rw [if_neg c1, if_pos c2]
        refine List.pairwise_cons.2 ⟨fun y hy => ?_, h2⟩
        have a := (cmpF_neg _ _).1 (h1 y hy)
        obtain ⟨b1, b2⟩ := cmpF_zero.1 c2
        rcases grF_or x f with e | e
        · rw [e, cmpF_neg]
          omega
        · rw [e]
          exact h1 y hy
      · rw [if_neg c1, if_neg c2]
        have c3 : cmpF f x < 0 := by
          have a := cmpF_neg x f
          have b := cmpF_neg f x
          have d := @cmpF_zero x f
          omega
        refine List.pairwise_cons.2 ⟨fun y hy => ?_, h⟩
        rcases List.mem_cons.1 hy with rfl | hy
        · exact c3
        · have a := (cmpF_neg _ _).1 (h1 y hy)
          have b := (cmpF_neg _ _).1 c3
          rw [cmpF_neg]
          omega
theorem mrgF_asc' : ∀ (L o : List Fc), AscF o → AscF (L.foldl (fun o f => insF f o) o)
  | [], _, h => h
  | f :: L, _, h => mrgF_asc' L _ (insF_asc f _ h)
theorem mrgF_asc (L : List Fc) : AscF (mrgF L) := mrgF_asc' L [] List.Pairwise.nil
theorem insF_pre (f : Fc) : ∀ P Q : List Fc, (∀ p ∈ P, cmpF p f < 0) → insF f (P ++ Q) = P ++ insF f Q
  | [], Q, _ => rfl
  | x :: P, Q, h => by
    show (if cmpF x f < 0 then x :: insF f (P ++ Q) else _) = _
    rw [if_pos (h x (by simp)), insF_pre f P Q fun p hp => h p (by simp [hp])]
    rfl
theorem insF_front (f : Fc) : ∀ Q : List Fc, (∀ q ∈ Q, 0 < cmpF q f) → insF f Q = f :: Q
  | [], _ => rfl
  | x :: Q, h => by
    have := h x (by simp)
    show (if cmpF x f < 0 then _ else if cmpF x f = 0 then _ else f :: x :: Q) = _
    rw [if_neg (by omega), if_neg (by omega)]
theorem asc_before {O : List Fc} (ha : AscF O) {k : Nat} {z f : Fc} (hz : O[k]? = some z) (hc : cmpF z f ≤ 0) : ∀ p ∈ O.take k, cmpF p f < 0 := by
  intro p hp
  obtain ⟨j, hj⟩ := List.mem_iff_getElem?.1 hp
  rw [List.getElem?_take] at hj
  split at hj
  · rename_i hjk
    have hjl := List.getElem?_eq_some_iff.1 hj
    have hzl := List.getElem?_eq_some_iff.1 hz
    have := List.pairwise_iff_getElem.1 ha j k hjl.1 hzl.1 hjk
    rw [hjl.2, hzl.2] at this
    have a := (cmpF_neg _ _).1 this
    have b := cmpF_neg z f
    have d := @cmpF_zero z f
    rw [cmpF_neg]
    omega
  · cases hj
/-- The fact belongs at place k. -/
theorem insF_new {O : List Fc} {f : Fc} {k : Nat} (ha : AscF O) (h2 : ∀ q ∈ O.drop k, 0 < cmpF q f) (h1 : k = 0 ∨ ∃ z, O[k - 1]? = some z ∧ cmpF z f < 0) : insF f O = O.take k ++ f :: O.drop k := by
  conv => lhs; rw [← List.take_append_drop k O]
  rw [insF_pre, insF_front f _ h2]
  rcases h1 with rfl | ⟨z, hz, hc⟩
  · intro p hp
    simp at hp
  · by_cases hk : k = 0
    · subst hk
      intro p hp
      simp at hp
    · intro p hp
      rw [show k = (k - 1) + 1 by omega, List.take_add_one, hz] at hp
      rcases List.mem_append.1 hp with hp | hp
      · exact asc_before ha hz (by omega) p hp
      · have : p = z := by simpa using hp
        rw [this]
        exact hc
/-- The fact is there already, at place k. -/
theorem insF_there {O : List Fc} {f z : Fc} {k : Nat} (ha : AscF O) (hz : O[k]? = some z) (hc : cmpF z f = 0) : insF f O = O.set k (grF z f) := by
  have hl := List.getElem?_eq_some_iff.1 hz
  have e : O = O.take k ++ z :: O.drop (k + 1) := by
    conv => lhs; rw [← List.take_append_drop k O]
    rw [List.drop_eq_getElem_cons hl.1, hl.2]
  have e2 : O.set k (grF z f) = O.take k ++ grF z f :: O.drop (k + 1) := by
    rw [List.set_eq_take_append_cons_drop, if_pos hl.1]
  rw [e2]
  conv => lhs; rw [e]
  rw [insF_pre _ _ _ (asc_before ha hz (by omega))]
  show O.take k ++ (if cmpF z f < 0 then _ else if cmpF z f = 0 then _ else _) = _
  rw [if_neg (by omega), if_pos hc]
end Go.Proofs.Ytbogmkhoppffgaa
