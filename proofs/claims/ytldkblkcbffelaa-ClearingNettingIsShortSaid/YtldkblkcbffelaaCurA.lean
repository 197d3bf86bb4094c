/- The program's Currencies. -/
import Derived.Test.YtldkblkcbffelaaPostA
import Derived.Test.YtldkblkcbffelaaEqA
import Derived.Test.YtldkblkcbffelaaSortA
import Derived.Test.YtldkblkcbffelaaInsB
import Derived.Deep.LoopGhost
namespace Go.Proofs.Ytldkblkcbffelaa
open Go.RowKit

/-- The currencies found so far, when 'left' is still to come. -/
def Found (m left : List (Int × (Nat → Nat → Int))) (out : List Int) : Prop :=
  (left.map (·.1)).Nodup ∧ (∀ p ∈ left, p ∈ m) ∧ out.Nodup ∧ out.length + left.length ≤ m.length ∧ ∀ c, c ∈ out ↔ (nz (mat m c) = true ∧ c ∉ left.map (·.1))
theorem nz_zero : nz (fun _ _ => 0) = false := by decide
theorem nz_key {m : List (Int × (Nat → Nat → Int))} {c : Int} (h : nz (mat m c) = true) : c ∈ m.map (·.1) := by
  rw [← look_isSome]
  unfold mat at h
  cases hl : look m c with
  | none => rw [hl] at h; simp [nz_zero] at h
  | some v => rfl
theorem Found.start {m : List (Int × (Nat → Nat → Int))} (h : (m.map (·.1)).Nodup) : Found m m [] :=
  ⟨h, fun _ h => h, List.nodup_nil, by simp, fun c => ⟨fun h => absurd h (by simp), fun h => absurd (nz_key h.1) h.2⟩⟩
theorem Found.step {m l1 l2 : List (Int × (Nat → Nat → Int))} {out : List Int} {p : Int × (Nat → Nat → Int)} (hm : (m.map (·.1)).Nodup) (h : Found m (l1 ++ p :: l2) out) :
    Found m (l1 ++ l2) (if nz p.2 then out ++ [p.1] else out) := by
  obtain ⟨h1, h2, h3, h4, h5⟩ := h
  rw [List.map_append, List.map_cons, List.nodup_append] at h1
  obtain ⟨a1, a2, a3⟩ := h1
  rw [List.nodup_cons] at a2
  have hp1 : p.1 ∉ (l1 ++ l2).map (·.1) := by
    rw [List.map_append, List.mem_append]
    rintro (h | h)
    · exact a3 p.1 h p.1 (by simp) rfl
    · exact a2.1 h
  have hmp : mat m p.1 = p.2 := by
    unfold mat
    rw [look_of_mem hm (h2 p (by simp))]
    rfl
  have hpo : p.1 ∉ out := by
    intro hx
    exact ((h5 p.1).1 hx).2 (by simp)
  have e : ∀ c, c ≠ p.1 → ((c ∈ (l1 ++ p :: l2).map (·.1)) ↔ (c ∈ (l1 ++ l2).map (·.1))) := by
    intro c hc
    simp only [List.map_append, List.map_cons, List.mem_append, List.mem_cons, hc, false_or]
  refine ⟨?_, fun q hq => h2 q ?_, ?_, ?_, fun c => ?_⟩
  · rw [List.map_append, List.nodup_append]
    exact ⟨a1, a2.2, fun x hx y hy => a3 x hx y (by simp only [List.mem_cons]; exact .inr hy)⟩
  · rcases List.mem_append.1 hq with hq | hq
    · exact List.mem_append_left _ hq
    · exact List.mem_append_right _ (List.mem_cons_of_mem _ hq)
  · split
    · rw [List.nodup_append]
      exact ⟨h3, by simp, fun x hx y hy e => hpo (by simp at hy; rw [← hy, ← e]; exact hx)⟩
    · exact h3
  · simp only [List.length_append, List.length_cons] at h4 ⊢
    split
    · simp only [List.length_append, List.length_singleton]; omega
    · omega
  · by_cases hc : c = p.1
    · subst hc
      rw [hmp]
      cases hn : nz p.2 with
      | true => simp only [if_true, List.mem_append, List.mem_singleton, or_true, true_iff]; exact ⟨trivial, hp1⟩
      | false => simp [hpo]
    · have hx : (c ∈ if nz p.2 then out ++ [p.1] else out) ↔ c ∈ out := by
        split
        · simp [hc]
        · rfl
      rw [hx, h5 c, e c hc]

theorem currencies_nil (w : World) :
    Calls Try.prog 28 #[.pointer none] w fun e w' => e = .returned (.slice none 0 0) ∧ w = w' := by
  go_enter Try.func28, Try.ntmps28
  go_wp2_with fail
  go_ret
  exact ⟨rfl, rfl⟩

set_option maxHeartbeats 2000000 in
theorem currencies_led (lb mb : Nat) (m : List (Int × (Nat → Nat → Int))) (w : World) (h : LedA w lb mb m) (hsm : m.length ≤ 1000) :
    Calls Try.prog 28 #[.pointer (some ⟨lb, 0, none⟩)] w fun e w' => ∃ A c out, e = .returned (.slice A out.length c) ∧ Rd w' w'.heap.size 1 A out.length (ints out) ∧ out.Pairwise (· < ·) ∧ (∀ c, c ∈ out ↔ nz (mat m c) = true) ∧ Below w.heap.size w w' := by
  have hcell := h.cell
  have hlt := h.lt
  have hltm := h.ltm
  obtain ⟨o, hrange, hR⟩ := run_range_imap (P := Try.prog) (t := 53) Try.underlying53 h.map
  have hL0 := h.alloc o
  go_enter Try.func28, Try.ntmps28
  go_wp2_with fail
  go_loopg [3] m.length (fun f v wr => ∃ left out, f = left.length ∧ Ranging matVal wr mb w.heap.size m left ∧ LedA wr lb mb m ∧ Found m left out ∧ wr.ownsRow w.heap.size 3 1 v out.length (ints out) ∧ Below w.heap.size w wr ∧ w.heap.size < wr.heap.size ∧ v.ownBlock ≠ some w.heap.size)
  case atStart => exact ⟨m, [], rfl, hR, hL0, Found.start h.nodup, World.ownsRow_nil _ _ _ _, (Below.refl _ _).alloc (Nat.le_refl _) o, by simp, by simp [Value.ownBlock]⟩
  case round =>
    obtain ⟨left, out, rfl, hRg, hL, hF, hown, hb, hit, hnb⟩ := hrel
    have hwsz := hb.size
    rcases run_next_imap (P := Try.prog) hRg with ⟨rfl, hnext⟩ | ⟨l1, p, l2, w2, hleft, hnext, hRg2, hg2, hentry⟩
    · clear hR hRg
      obtain ⟨A, c, rfl, hnc, hcm, hA⟩ := own_form hown
      have hol := hF.2.2.2.1
      generalize hlen : out.length = n at *
      have HL := Lib.hid hlen
      clear hlen
      go_wp2_with (first
        | (refine (sort_own hown (by simp at hol; omega)).mono ?_; rintro e w3 ⟨rfl, hrd, hb3⟩))
      go_ret
      have hls : (sortI out).length = n := by rw [sortI_length]; exact HL.out
      refine ⟨A, c, sortI out, by rw [hls]; rfl, by rw [hls]; exact hrd, sortI_sorted hF.2.2.1, fun c => ?_, hb.trans hb3⟩
      rw [mem_sortI, hF.2.2.2.2 c]
      simp
    · have hlen : left.length = (l1 ++ l2).length + 1 := by rw [hleft]; simp; omega
      have hF2 := hF
      rw [hleft] at hF2
      have hF3 := hF2.step h.nodup
      have hol := hF.2.2.2.1
      have HL := Lib.hid hlen
      have HF := Lib.hid hF3
      have hnn := hown.1
      clear hR hRg hleft hF hF2 hlen hF3
      generalize left.length = fl at *
      have hL3 : LedA w2 lb mb m := hL.grown hg2 (fun e => by injection e with e; omega) (fun e => by injection e with e; omega)
      have hb2 : Below w.heap.size w w2 := hb.grown hg2 hwsz (fun k e => by injection e with e; omega)
      have hz2 := hg2.size
      have hown2 := hown.kept hg2 (.inr hnb)
      have hit2 : w.heap.size < w2.heap.size := by omega
      clear hown hL hb
      obtain ⟨A1, c1, rfl, hnc1, hcm1, hA1⟩ := own_form hown2
      have lo1 : ∀ g, (Value.slice A1 out.length c1).ownBlock = some g → w.heap.size ≤ g := fun g e => (hown2.lt g e).1
      generalize hn : out.length = n at *
      have HN := Lib.hid hn
      clear hn
      have hL4 := hL3.alloc (.cells (matCells p.2).toArray 58)
      have hrange2 : (w2.alloc (.cells (matCells p.2).toArray 58)).rangeAt w2.heap.size 0 (matCells p.2) := fun j v hv => by rw [Nat.zero_add, World.cell?_alloc_new, List.getElem?_toArray]; exact hv
      have hR4 := hRg2.same (w' := w2.alloc (.cells (matCells p.2).toArray 58)) (Below.heap_alloc _ _ _ (by omega)) (Below.heap_alloc _ _ _ (hRg2.imap).lt)
      have hown4 := hown2.alloc (.cells (matCells p.2).toArray 58)
      have hb4 := hb2.alloc (by omega) (.cells (matCells p.2).toArray 58)
      have hz4 : (w2.alloc (.cells (matCells p.2).toArray 58)).heap.size = w2.heap.size + 1 := by simp
      have hinfo : (Try.prog.info? 58).map (·.size) = some (matCells p.2).length := by rw [matCells_length]; exact info_matrix
      have hund := Try.underlying58
      obtain ⟨i0, hi0, hz0', hz1', hz2'⟩ := info_parts info_int
      have hneq := fun w => run_equal_zero p.2 w
      have hgrd := fun x y w => guard_zero p.2 x y w
      clear hRg2 hL3 hown2 hb2
      generalize hb0 : nz p.2 = b0 at *
      cases b0 with
      | false =>
        go_wp2_with (first
          | (refine wpList_store_fresh rfl 58 (.tmp 5) (.tmp 17) rfl _ (matCells p.2) rfl rfl ?_ ?_ ?_ ?_; (simp [matCells_length]); (rw [matCells_length]; exact info_matrix); (exact matCells_one p.2))
          | (refine wpList_load_mid rfl 58 (.tmp 5) rfl w2.heap.size 0 rfl (matCells p.2) _ hrange2 hund rfl hinfo ?_))
        go_roundg (l1 ++ l2).length
        case measure => have := HL.out; omega
        case rel => exact ⟨l1 ++ l2, out, rfl, hR4, hL4, by simpa using HF.out, by rw [HN.out]; exact hown4, hb4, by omega, hnb⟩
      | true =>
        go_wp2_with (first
          | (refine wpList_store_fresh rfl 58 (.tmp 5) (.tmp 17) rfl _ (matCells p.2) rfl rfl ?_ ?_ ?_ ?_; (simp [matCells_length]); (rw [matCells_length]; exact info_matrix); (exact matCells_one p.2))
          | (refine wpList_load_mid rfl 58 (.tmp 5) rfl w2.heap.size 0 rfl (matCells p.2) _ hrange2 hund rfl hinfo ?_)
          | (at_builtin; go_loud (refine wpList_append_rd (by rfl) (.tmp 21) (.tmp 23) 50 (by rfl) w.heap.size 3 i0 _ 1 8 Try.underlying50 hi0 hz0' hz1' hz2' rfl (by omega) (.slice A1 n c1) n (ints out) (by rfl) (hown4.alloc _) (w2.heap.size + 2) (some ⟨w2.heap.size + 1, 0, none⟩) 1 1 [.int .i64 p.1] (by rfl) (Rd.built (heap_alloc2_new w2 _ _) (by omega) rfl) (by intro u hu; simp at hu; subst hu; rfl) (by unfold maxLen; omega) (by omega) (by simp; omega) ?_); intro v2 w3 hown3 hg3 hat3))
        go_roundg (l1 ++ l2).length
        case measure => have := HL.out; omega
        case rel => 
          have hz5 := hg3.size
          have hz6 : ((w2.alloc (.cells (matCells p.2).toArray 58)).alloc (.cells #[.int .i64 p.1] 3)).heap.size = w2.heap.size + 2 := by simp
          have nm : some mb ≠ (Value.slice A1 n c1).ownBlock := fun e => by have := lo1 _ e.symm; omega
          have nl : some lb ≠ (Value.slice A1 n c1).ownBlock := fun e => by have := lo1 _ e.symm; omega
          have hR6 := (hR4.same (w' := (w2.alloc (.cells (matCells p.2).toArray 58)).alloc (.cells #[.int .i64 p.1] 3)) (Below.heap_alloc _ _ _ (by omega)) (Below.heap_alloc _ _ _ (by omega))).same (w' := w3) (hg3.block _ (by omega) (fun e => hnb e.symm)) (hg3.block _ (by omega) nm)
          refine ⟨l1 ++ l2, out ++ [p.1], rfl, hR6, (hL4.alloc _).grown hg3 nl nm, by simpa using HF.out, ?_, (hb4.alloc (by omega) _).grown hg3 (by omega) lo1, by omega, ?_⟩
          · rw [List.length_append, HN.out, ints_append]
            exact hown3
          · rcases hat3 with e | e
            · rw [e]; exact hnb
            · rw [e, hz6]; intro e2; injection e2 with e2; omega
end Go.Proofs.Ytldkblkcbffelaa
