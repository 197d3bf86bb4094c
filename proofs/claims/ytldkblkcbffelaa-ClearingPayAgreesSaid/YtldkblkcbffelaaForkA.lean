/- The program's Fork. -/
import Derived.Test.YtldkblkcbffelaaPostA
import Derived.Deep.LoopGhost
namespace Go.Proofs.Ytldkblkcbffelaa
open Go.RowKit

theorem setKey_len {β : Type} : ∀ (m : List (Int × β)) (k : Int) (v : β), (setKey m k v).length ≤ m.length + 1
  | [], _, _ => by simp [setKey]
  | p :: r, k, v => by
    unfold setKey
    split
    · simp
    · have := setKey_len r k v
      simp only [List.length_cons]
      omega

/-- What is in the copy when 'left' is still to come. -/
def Copied (m left m2 : List (Int × (Nat → Nat → Int))) : Prop :=
  (left.map (·.1)).Nodup ∧ (∀ p ∈ left, p ∈ m) ∧ (∀ c, look m2 c = if c ∈ left.map (·.1) then none else look m c) ∧ m2.length + left.length ≤ m.length
theorem Copied.start {m : List (Int × (Nat → Nat → Int))} (h : (m.map (·.1)).Nodup) : Copied m m [] := by
  refine ⟨h, fun p hp => hp, fun c => ?_, by simp⟩
  by_cases hc : c ∈ m.map (·.1)
  · simp only [hc, if_true]
    rfl
  · simp only [hc, if_false]
    have hx : look m c = none := by
      cases hl : look m c with
      | none => rfl
      | some v => exact absurd ((look_isSome m c).1 (by rw [hl]; rfl)) hc
    rw [hx]
    rfl
theorem Copied.step {m l1 l2 m2 : List (Int × (Nat → Nat → Int))} {p : Int × (Nat → Nat → Int)} (hm : (m.map (·.1)).Nodup) (h : Copied m (l1 ++ p :: l2) m2) : Copied m (l1 ++ l2) (setKey m2 p.1 p.2) := by
  obtain ⟨h1, h2, h3, h4⟩ := h
  rw [List.map_append, List.map_cons, List.nodup_append] at h1
  obtain ⟨a1, a2, a3⟩ := h1
  rw [List.nodup_cons] at a2
  have hp1 : p.1 ∉ (l1 ++ l2).map (·.1) := by
    rw [List.map_append, List.mem_append]
    rintro (h | h)
    · exact a3 p.1 h p.1 (by simp) rfl
    · exact a2.1 h
  refine ⟨?_, fun q hq => h2 q ?_, fun c => ?_, ?_⟩
  · rw [List.map_append, List.nodup_append]
    exact ⟨a1, a2.2, fun x hx y hy => a3 x hx y (by simp only [List.mem_cons]; exact .inr hy)⟩
  · rcases List.mem_append.1 hq with hq | hq
    · exact List.mem_append_left _ hq
    · exact List.mem_append_right _ (List.mem_cons_of_mem _ hq)
  · rw [look_setKey, h3 c]
    by_cases hc : c = p.1
    · subst hc
      simp only [if_true, hp1, if_false]
      exact (look_of_mem hm (h2 p (by simp))).symm
    · have e : (c ∈ (l1 ++ p :: l2).map (·.1)) ↔ (c ∈ (l1 ++ l2).map (·.1)) := by
        simp only [List.map_append, List.map_cons, List.mem_append, List.mem_cons, hc, false_or]
      simp only [hc, if_false, e]
  · have := setKey_len m2 p.1 p.2
    simp only [List.length_append, List.length_cons] at h4 ⊢
    omega

theorem fork_nil (w : World) :
    Calls Try.prog 25 #[.pointer none] w fun e w' => e = .returned (.pointer none) ∧ w = w' := by
  go_enter Try.func25, Try.ntmps25
  go_wp2_with fail
  go_ret
  exact ⟨rfl, rfl⟩

set_option maxHeartbeats 2000000 in
theorem fork_led (lb mb : Nat) (m : List (Int × (Nat → Nat → Int))) (w : World) (h : LedA w lb mb m) :
    Calls Try.prog 25 #[.pointer (some ⟨lb, 0, none⟩)] w fun e w' => ∃ lb2 mb2 m2, e = .returned (.pointer (some ⟨lb2, 0, none⟩)) ∧ LedA w' lb2 mb2 m2 ∧ (∀ c, look m2 c = look m c) ∧ m2.length ≤ m.length ∧ Below w.heap.size w w' ∧ w.heap.size ≤ lb2 ∧ w.heap.size ≤ mb2 := by
  have hcell := h.cell
  have hlt := h.lt
  have hltm := h.ltm
  go_enter Try.func25, Try.ntmps25
  go_wp2_with fail
  refine (new_any w).mono ?_
  rintro e w1 ⟨rfl, hb1, hled1⟩
  have hA1 := h.below hb1
  have hc1 := hA1.cell
  obtain ⟨o, hrange, hR⟩ := run_range_imap (P := Try.prog) (t := 53) Try.underlying53 hA1.map
  have hz1 := hb1.size
  have hlt1 := hled1.lt
  go_wp2_with fail
  go_loopg [] m.length (fun f wr => ∃ left m2, f = left.length ∧ Ranging matVal wr mb w1.heap.size m left ∧ LedA wr (w.heap.size + 1) w.heap.size m2 ∧ Copied m left m2 ∧ Below w.heap.size w wr ∧ w1.heap.size < wr.heap.size)
  case atStart => exact ⟨m, [], rfl, hR, hled1.alloc o, Copied.start h.nodup, hb1.alloc (by omega) o, by simp⟩
  case round =>
    obtain ⟨left, m2, rfl, hRg, hL2, hcp, hb, hit⟩ := hrel
    have hlb2 := hL2.lt
    have hwsz := hb.size
    rcases run_next_imap (P := Try.prog) hRg with ⟨rfl, hnext⟩ | ⟨l1, p, l2, w2, hleft, hnext, hRg2, hg2, hentry⟩
    · clear hR hRg
      go_wp2_with fail
      go_ret
      exact ⟨_, _, m2, rfl, hL2, fun c => by have := hcp.2.2.1 c; simpa using this, by have := hcp.2.2.2; simpa using this, hb, by omega, by omega⟩
    · have hlen : left.length = (l1 ++ l2).length + 1 := by rw [hleft]; simp; omega
      have hcp2 := hcp
      rw [hleft] at hcp2
      have hcp3 := hcp2.step h.nodup
      have HL := Lib.hid hlen
      have HC := Lib.hid hcp3
      clear hR hRg hleft hcp hcp2 hlen hcp3
      generalize left.length = fl at *
      have hL3 : LedA w2 (w.heap.size + 1) w.heap.size m2 := hL2.grown hg2 (fun e => by injection e with e; omega) (fun e => by injection e with e; omega)
      have hb2 : Below w.heap.size w w2 := hb.grown hg2 hwsz (fun k e => by injection e with e; omega)
      have hz2 := hg2.size
      have hit2 : w1.heap.size < w2.heap.size := by omega
      go_wp2_with (refine wpList_store_fresh rfl 58 (.tmp 5) (.tmp 18) rfl _ (matCells p.2) rfl rfl ?_ ?_ ?_ ?_; (simp [matCells_length]); (rw [matCells_length]; exact info_matrix); (exact matCells_one p.2))
      have hL4 := hL3.alloc (.cells (matCells p.2).toArray 58)
      have hc4 := hL4.cell
      have hrange2 : (w2.alloc (.cells (matCells p.2).toArray 58)).rangeAt w2.heap.size 0 (matCells p.2) := fun j v hv => by rw [Nat.zero_add, World.cell?_alloc_new, List.getElem?_toArray]; exact hv
      have hR4 := hRg2.same (w' := w2.alloc (.cells (matCells p.2).toArray 58)) (Below.heap_alloc _ _ _ (by omega)) (Below.heap_alloc _ _ _ (hRg2.imap).lt)
      have hb4 := hb2.alloc (by omega) (.cells (matCells p.2).toArray 58)
      have hz4 : w1.heap.size < (w2.alloc (.cells (matCells p.2).toArray 58)).heap.size := by simp; omega
      have hinfo : (Try.prog.info? 58).map (·.size) = some (matCells p.2).length := by rw [matCells_length]; exact info_matrix
      have hund := Try.underlying58
      clear hRg2 hL3 hL2 hb2 hb1 hled1 hA1 hc1
      generalize w2.alloc (.cells (matCells p.2).toArray 58) = W4 at *
      obtain ⟨W5, hupd, hmap5, hgr5⟩ := run_mapUpdate_imap (P := Try.prog) Try.underlying53 Try.underlying3 hL4.drew.map p.1 p.2
      have hupd2 : (Instr.mapUpdate 53 (.map (some w.heap.size)) (.int .i64 p.1) (.agg (matCells p.2).toArray)).run Try.prog W4.drew = .ok () W5 := hupd
      clear hupd
      refine wp_region_still_tail 6 (by kernel_rfl) (by kernel_rfl) ?_
      simp only [List.take_succ_cons, List.take_zero, List.drop_succ_cons, List.drop_zero]
      repeat still_step
      refine wpStill_load_mid rfl 58 (.tmp 5) rfl w2.heap.size 0 rfl (matCells p.2) _ hrange2 hund rfl hinfo ?_
      refine wpStill_nil ?_
      change wpList _ _ _ _ _ W4.drew
      have hL5 : LedA W5 (w.heap.size + 1) w.heap.size (setKey m2 p.1 p.2) := ⟨(hgr5.block _ hL4.lt (fun e => by injection e with e; omega)).trans hL4.led, hmap5, nodup_setKey _ _ _ hL4.nodup⟩
      have hR5 := hR4.same (w' := W5) (hgr5.block _ hz4 (fun e => by injection e with e; omega)) (hgr5.block mb hR4.imap.lt (fun e => by injection e with e; omega))
      have hb5 : Below w.heap.size w W5 := hb4.drew.grown hgr5 hb4.size (fun k e => by injection e with e; omega)
      have hz5 := hgr5.size
      go_wp2_with fail
      go_roundg (l1 ++ l2).length
      case measure => have := HL.out; omega
      case rel => exact ⟨l1 ++ l2, _, rfl, hR5, hL5, HC.out, hb5, by simp at hz5; omega⟩
end Go.Proofs.Ytldkblkcbffelaa
