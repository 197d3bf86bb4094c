/- The members of a day among several lists of spans; two lists of cuts that serve: the ends of the normal lists, and the edges of the lists. Plain Lean: no program of the seat is named here. -/
import Derived.Test.YtghmmcdeejhcjaaGreatPieces
namespace Go.Proofs.YtghmmcdeejhcjaaGreat

def memI : Nat → List (List Sp) → Int → List Int
  | _, [], _ => []
  | i, l :: r, x => if dset l x = true then (i : Int) :: memI (i + 1) r x else memI (i + 1) r x
def memL (ls : List (List Sp)) (x : Int) : List Int := memI 0 ls x
theorem memI_snoc : ∀ (r : List (List Sp)) (i : Nat) (l : List Sp) (x : Int), memI i (r ++ [l]) x = memI i r x ++ if dset l x = true then [((i + r.length : Nat) : Int)] else []
  | [], i, l, x => by
    show (if dset l x = true then (i : Int) :: [] else []) = _
    split <;> simp [memI]
  | q :: r, i, l, x => by
    have ih := memI_snoc r (i + 1) l x
    show (if dset q x = true then (i : Int) :: memI (i + 1) (r ++ [l]) x else memI (i + 1) (r ++ [l]) x) = (if dset q x = true then (i : Int) :: memI (i + 1) r x else memI (i + 1) r x) ++ _
    rw [ih, List.length_cons, show i + (r.length + 1) = i + 1 + r.length by omega]
    split <;> rfl
theorem memL_take {ls : List (List Sp)} {k : Nat} {l : List Sp} (h : ls[k]? = some l) (x : Int) : memL (ls.take (k + 1)) x = memL (ls.take k) x ++ if dset l x = true then [(k : Int)] else [] := by
  have hk : k < ls.length := (List.getElem?_eq_some_iff.1 h).1
  rw [List.take_add_one, h]
  unfold memL
  rw [Option.toList_some, memI_snoc, List.length_take, Nat.zero_add, Nat.min_eq_left (by omega)]
theorem memI_length : ∀ (r : List (List Sp)) (i : Nat) (x : Int), (memI i r x).length ≤ r.length
  | [], _, _ => Nat.le_refl 0
  | q :: r, i, x => by
    have ih := memI_length r (i + 1) x
    show (if dset q x = true then (i : Int) :: memI (i + 1) r x else memI (i + 1) r x).length ≤ _
    split <;> simp <;> omega
theorem memI_congr : ∀ (r : List (List Sp)) (i : Nat) (x y : Int), (∀ l ∈ r, dset l x = dset l y) → memI i r x = memI i r y
  | [], _, _, _, _ => rfl
  | q :: r, i, x, y, h => by
    have ih := memI_congr r (i + 1) x y fun l hl => h l (by simp [hl])
    have h0 := h q (by simp)
    show (if dset q x = true then (i : Int) :: memI (i + 1) r x else memI (i + 1) r x) = if dset q y = true then (i : Int) :: memI (i + 1) r y else memI (i + 1) r y
    rw [h0, ih]
theorem memI_none : ∀ (r : List (List Sp)) (i : Nat) (x : Int), (∀ l ∈ r, dset l x = false) → memI i r x = []
  | [], _, _, _ => rfl
  | q :: r, i, x, h => by
    have ih := memI_none r (i + 1) x fun l hl => h l (by simp [hl])
    have h0 := h q (by simp)
    show (if dset q x = true then (i : Int) :: memI (i + 1) r x else memI (i + 1) r x) = _
    rw [h0, ih]
    simp
theorem memI_map (g : List Sp → List Sp) (x : Int) : ∀ (r : List (List Sp)) (i : Nat), (∀ l ∈ r, dset (g l) x = dset l x) → memI i (r.map g) x = memI i r x
  | [], _, _ => rfl
  | q :: r, i, h => by
    have ih := memI_map g x r (i + 1) fun l hl => h l (by simp [hl])
    have h0 := h q (by simp)
    show (if dset (g q) x = true then (i : Int) :: memI (i + 1) (r.map g) x else memI (i + 1) (r.map g) x) = if dset q x = true then (i : Int) :: memI (i + 1) r x else memI (i + 1) r x
    rw [h0, ih]
theorem memL_neg (ls : List (List Sp)) {x : Int} (h : x < 0) : memL ls x = [] := memI_none ls 0 x fun l _ => by
  unfold dset
  rw [show isD x = false by rw [Bool.eq_false_iff]; intro e; have := (isD_iff x).1 e; omega]
  rfl
/-- The normal lists have the same members. -/
theorem memL_nf (ls : List (List Sp)) (x : Int) : memL (ls.map fun l => nf (dset l)) x = memL ls x := memI_map _ x ls 0 fun l _ => by rw [dset_nf, dset_isD]

/-- Cuts that hold the ends of lists that cover the same days serve. -/
theorem cov_cuts {m : List Sp} {E : List Int} (hE : ∀ s ∈ m, s.f ∈ E ∧ s.t ∈ E) {x y : Int} (h : ∀ p ∈ E, p ≤ x ↔ p ≤ y) : cov m x = cov m y := by
  rw [Bool.eq_iff_iff, cov_iff, cov_iff]
  constructor
  · rintro ⟨s, hs, h1, h2⟩
    have e1 := h s.f (hE s hs).1
    have e2 := h s.t (hE s hs).2
    exact ⟨s, hs, by omega, by omega⟩
  · rintro ⟨s, hs, h1, h2⟩
    have e1 := h s.f (hE s hs).1
    have e2 := h s.t (hE s hs).2
    exact ⟨s, hs, by omega, by omega⟩
theorem cov_behind {m : List Sp} {E : List Int} (hE : ∀ s ∈ m, s.f ∈ E ∧ s.t ∈ E) {x : Int} (h : ∀ p ∈ E, p ≤ x) : cov m x = false := by
  rw [Bool.eq_false_iff]
  intro e
  obtain ⟨s, hs, h1, h2⟩ := (cov_iff m x).1 e
  have := h s.t (hE s hs).2
  omega
theorem cuts_serve {ls : List (List Sp)} {E : List Int} (g : List Sp → List Sp) (hg : ∀ l x, cov (g l) x = dset l x) (hE : ∀ l ∈ ls, ∀ s ∈ g l, s.f ∈ E ∧ s.t ∈ E) :
    (∀ x y, (∀ p ∈ E, p ≤ x ↔ p ≤ y) → memL ls x = memL ls y) ∧ ∀ x, (∀ p ∈ E, p ≤ x) → memL ls x = [] := by
  refine ⟨fun x y h => memI_congr ls 0 x y fun l hl => ?_, fun x h => memI_none ls 0 x fun l hl => ?_⟩
  · rw [← hg l x, ← hg l y]
    exact cov_cuts (hE l hl) h
  · rw [← hg l x]
    exact cov_behind (hE l hl) h
theorem nf_cover (l : List Sp) (x : Int) : cov (nf (dset l)) x = dset l x := by rw [nf_cov, dset_isD]
theorem cov_flip {a b : List Sp} (h : a = b) (x : Int) : cov a x = cov b x := by rw [h]

/-- The ends of a list's spans. -/
def endsL (m : List Sp) : List Int := m.flatMap fun s => [s.f, s.t]
theorem endsL_snoc (m : List Sp) (s : Sp) : endsL (m ++ [s]) = endsL m ++ [s.f, s.t] := by simp [endsL]
theorem endsL_append (m k : List Sp) : endsL (m ++ k) = endsL m ++ endsL k := by simp [endsL]
theorem mem_endsL (m : List Sp) (x : Int) : x ∈ endsL m ↔ ∃ s ∈ m, x = s.f ∨ x = s.t := by simp [endsL]
theorem endsL_length (m : List Sp) : (endsL m).length = 2 * m.length := by
  induction m with
  | nil => rfl
  | cons s r ih => simp only [endsL, List.flatMap_cons, List.length_append, List.length_cons, List.length_nil] at *; omega
theorem norm_mem : ∀ {m : List Sp} {lo : Int}, NormFrom lo m → ∀ s ∈ m, lo < s.f ∧ s.f < s.t ∧ s.t ≤ 73049
  | [], _, _, s, hs => by simp at hs
  | q :: r, lo, ⟨h1, h2, h3, h4⟩, s, hs => by
    rcases List.mem_cons.1 hs with rfl | hs
    · exact ⟨h1, h2, h3⟩
    · have := norm_mem h4 s hs
      omega
/-- The ends of the normal lists, in ascending order, each once. -/
def Cuts (ls : List (List Sp)) (E : List Int) : Prop := E.Pairwise (· < ·) ∧ (∀ p ∈ E, 0 ≤ p ∧ p ≤ 73049) ∧ (∀ x y, (∀ p ∈ E, p ≤ x ↔ p ≤ y) → memL ls x = memL ls y) ∧ ∀ x, (∀ p ∈ E, p ≤ x) → memL ls x = []
theorem cuts_nf {ls : List (List Sp)} {E : List Int} (hs : E.Pairwise (· < ·)) (hm : ∀ x, x ∈ E ↔ x ∈ ls.flatMap fun l => endsL (nf (dset l))) : Cuts ls E := by
  have hE : ∀ l ∈ ls, ∀ s ∈ nf (dset l), s.f ∈ E ∧ s.t ∈ E := fun l hl s h => by
    rw [hm, hm, List.mem_flatMap, List.mem_flatMap]
    exact ⟨⟨l, hl, (mem_endsL _ _).2 ⟨s, h, .inl rfl⟩⟩, ⟨l, hl, (mem_endsL _ _).2 ⟨s, h, .inr rfl⟩⟩⟩
  obtain ⟨h1, h2⟩ := cuts_serve (fun l => nf (dset l)) nf_cover hE
  refine ⟨hs, fun p hp => ?_, h1, h2⟩
  obtain ⟨l, _, hp2⟩ := List.mem_flatMap.1 ((hm p).1 hp)
  obtain ⟨s, h, e⟩ := (mem_endsL _ _).1 hp2
  have := norm_mem (nf_norm (dset l)) s h
  rcases e with rfl | rfl <;> omega
theorem mem_cutL : ∀ (l : List Sp) (q : Sp), q ∈ cutL l ↔ ∃ s ∈ l, (cutS s).f < (cutS s).t ∧ q = cutS s
  | [], q => by simp [cutL]
  | s :: r, q => by
    have ih := mem_cutL r q
    unfold cutL
    split
    · rename_i h
      simp only [List.mem_cons, ih, exists_eq_or_imp, h, true_and]
    · rename_i h
      simp only [List.mem_cons, ih, exists_eq_or_imp, h, false_and, false_or]
theorem cuts_edg {ls : List (List Sp)} {E : List Int} (hs : E.Pairwise (· < ·)) (hm : ∀ x, x ∈ E ↔ ∃ l ∈ ls, ∃ s ∈ l, (cutS s).f < (cutS s).t ∧ (x = (cutS s).f ∨ x = (cutS s).t)) : Cuts ls E := by
  have hE : ∀ l ∈ ls, ∀ s ∈ cutL l, s.f ∈ E ∧ s.t ∈ E := fun l hl q h => by
    obtain ⟨s, hs2, hlt, rfl⟩ := (mem_cutL l q).1 h
    rw [hm, hm]
    exact ⟨⟨l, hl, s, hs2, hlt, .inl rfl⟩, ⟨l, hl, s, hs2, hlt, .inr rfl⟩⟩
  obtain ⟨h1, h2⟩ := cuts_serve cutL (fun l x => cutL_cov l x) hE
  refine ⟨hs, fun p hp => ?_, h1, h2⟩
  obtain ⟨l, _, s, _, hlt, e⟩ := (hm p).1 hp
  simp only [cutS] at hlt e
  rcases e with rfl | rfl <;> omega
theorem valP_mem : ∀ {P : List Pc} {lo : Int} {pm : List Int}, PN lo pm P → ∀ p ∈ P, ∀ x, p.f ≤ x → x < p.t → valP P x = p.m
  | [], _, _, _, p, hp, _, _, _ => by simp at hp
  | q :: r, lo, pm, ⟨h1, h2, h3, h4, h5⟩, p, hp, x, hx, hy => by
    show (if q.f ≤ x ∧ x < q.t then q.m else valP r x) = p.m
    rcases List.mem_cons.1 hp with rfl | hp
    · rw [if_pos ⟨hx, hy⟩]
    · have : q.t ≤ p.f := by
        apply Classical.byContradiction
        intro hc
        have h6 := valP_mem h5 p hp p.f (Int.le_refl _) (by omega)
        rw [valP_low h5 (by omega)] at h6
        have h7 : ∀ {P : List Pc} {lo : Int} {pm : List Int}, PN lo pm P → ∀ p ∈ P, p.m ≠ [] := by
          intro P
          induction P with
          | nil => intro _ _ _ p hp; simp at hp
          | cons a r ih =>
            rintro lo pm ⟨_, _, _, k4, k5⟩ p hp
            rcases List.mem_cons.1 hp with rfl | hp
            · exact k4
            · exact ih k5 p hp
        exact h7 h5 p hp h6.symm
      rw [if_neg (by omega)]
      exact valP_mem h5 p hp x hx hy

/-- The edges of several lists. -/
def edgesL (ls : List (List Sp)) : List Int := ls.foldl edgL []
theorem foldl_edgL_sorted : ∀ (ls : List (List Sp)) {out : List Int}, out.Pairwise (· < ·) → (ls.foldl edgL out).Pairwise (· < ·)
  | [], _, h => h
  | l :: ls, _, h => foldl_edgL_sorted ls (edgL_sorted l h)
theorem mem_foldl_edgL : ∀ (ls : List (List Sp)) (out : List Int) (x : Int), x ∈ ls.foldl edgL out ↔ x ∈ out ∨ ∃ l ∈ ls, ∃ s ∈ l, (cutS s).f < (cutS s).t ∧ (x = (cutS s).f ∨ x = (cutS s).t)
  | [], out, x => by simp
  | l :: ls, out, x => by
    show x ∈ ls.foldl edgL (edgL out l) ↔ _
    rw [mem_foldl_edgL ls, mem_edgL]
    simp only [List.mem_cons, exists_eq_or_imp, or_assoc]
theorem cuts_edges (ls : List (List Sp)) : Cuts ls (edgesL ls) := cuts_edg (foldl_edgL_sorted ls List.Pairwise.nil) fun x => by
  unfold edgesL
  rw [mem_foldl_edgL]
  simp
theorem foldl_edgL_length : ∀ (ls : List (List Sp)) (n : Nat) (out : List Int), (∀ l ∈ ls, l.length ≤ n) → (ls.foldl edgL out).length ≤ out.length + 2 * n * ls.length
  | [], n, out, _ => by simp
  | l :: ls, n, out, h => by
    have h1 := foldl_edgL_length ls n (edgL out l) fun q hq => h q (by simp [hq])
    have h2 := edgL_length l out
    have h3 := h l (by simp)
    show (ls.foldl edgL (edgL out l)).length ≤ _
    rw [List.length_cons, Nat.mul_succ]
    omega
theorem edgesL_length (ls : List (List Sp)) (n : Nat) (h : ∀ l ∈ ls, l.length ≤ n) : (edgesL ls).length ≤ 2 * n * ls.length := by
  have := foldl_edgL_length ls n [] h
  unfold edgesL
  simpa using this
/-- The members of a piece are at most as many as the lists. -/
theorem pieces_mem {ls : List (List Sp)} {p : Pc} (h : p ∈ pcs (memL ls) (edgesL ls) []) : p.m.length ≤ ls.length := by
  have : ∀ (e : List Int) (O : List Pc), (∀ q ∈ O, q.m.length ≤ ls.length) → ∀ q ∈ pcs (memL ls) e O, q.m.length ≤ ls.length := by
    intro e
    induction e with
    | nil => intro O hO; unfold pcs; exact hO
    | cons a r ih =>
      intro O hO
      cases r with
      | nil => unfold pcs; exact hO
      | cons b r =>
        refine ih (addP O a b (memL ls a)) fun q hq => ?_
        have key : ∀ (O : List Pc), (∀ q ∈ O, q.m.length ≤ ls.length) → ∀ q ∈ addP O a b (memL ls a), q.m.length ≤ ls.length := by
          intro O
          induction O with
          | nil =>
            intro _ q hq
            unfold addP at hq
            split at hq
            · simp at hq
            · simp at hq
              subst hq
              exact memI_length ls 0 a
          | cons p O ihO =>
            intro hO q hq
            cases O with
            | nil =>
              unfold addP at hq
              split at hq
              · exact hO q hq
              · split at hq
                · simp at hq
                  subst hq
                  exact memI_length ls 0 a
                · simp at hq
                  rcases hq with rfl | rfl
                  · exact hO q (by simp)
                  · exact memI_length ls 0 a
            | cons p' O =>
              rcases List.mem_cons.1 (show q ∈ p :: addP (p' :: O) a b (memL ls a) from hq) with rfl | hq
              · exact hO q (by simp)
              · exact ihO (fun y hy => hO y (by simp [hy])) q hq
        exact key O hO q hq
  exact this (edgesL ls) [] (by simp) p h
/-- The pieces of several lists. -/
def pieces (ls : List (List Sp)) : List Pc := pcs (memL ls) (edgesL ls) []
theorem pieces_main (ls : List (List Sp)) : PN 0 [] (pieces ls) ∧ ∀ x, valP (pieces ls) x = memL ls x := by
  obtain ⟨h1, h2, h3, h4⟩ := cuts_edges ls
  exact pcs_main h1 (fun p hp => (h2 p hp).1) h3 (fun x hx => memL_neg ls hx) h4
theorem pieces_of {ls : List (List Sp)} {E : List Int} (h : Cuts ls E) : pcs (memL ls) E [] = pieces ls := by
  obtain ⟨h1, h2, h3, h4⟩ := cuts_edges ls
  obtain ⟨k1, k2, k3, k4⟩ := h
  exact pcs_same k1 (fun p hp => (k2 p hp).1) k3 k4 h1 (fun p hp => (h2 p hp).1) h3 h4 fun x hx => memL_neg ls hx
end Go.Proofs.YtghmmcdeejhcjaaGreat
