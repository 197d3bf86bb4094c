/- Bytes compared; the order of facts: the program. -/
import Derived.Test.YtbogmkhoppffgaaFcG
import Derived.Lib.BytesEntry
import Derived.Laws.Entries
import Derived.Laws.Externs
namespace Go.Proofs.Ytbogmkhoppffgaa
open Go.RowKit

theorem run_loadRd {w : World} {B n c : Nat} {A : Option Addr} {zs : List Int} (h : Rd w B 1 A n (bys zs)) (hn : zs.length = n) : (Extern.Bytes.bytesOf (.slice A n c)).run Try.prog w = .ok ⟨(bytesOfI zs).toArray⟩ w := by
  subst hn
  cases A with
  | none =>
    have h0 : zs = [] := by
      rcases Nat.eq_zero_or_pos zs.length with h0 | h0
      · exact List.eq_nil_of_length_eq_zero h0
      · obtain ⟨b, o, e, _⟩ := h.2 h0
        cases e
    subst h0
    rfl
  | some a =>
    have hl := Lib.run_loadBytesX (P := Try.prog) w zs a .empty (fun j x hj => by
      have hjl : j < zs.length := (List.getElem?_eq_some_iff.1 hj).1
      obtain ⟨b, o, e, _, hc⟩ := h.2 (by omega)
      injection e with e
      subst e
      rw [addAt]
      refine hc j _ ?_
      unfold bys
      rw [List.getElem?_map, hj]
      rfl)
    show (Extern.Bytes.loadBytes a zs.length .empty).run Try.prog w = _
    rw [hl]
    congr 1
    apply ByteArray.ext
    show (#[] : Array UInt8) ++ _ = _
    simp [Lib.bytesOf, bytesOfI]
theorem run_cmpRd {w : World} {B n c B2 n2 c2 : Nat} {A A2 : Option Addr} {zs ys : List Int} (h : Rd w B 1 A n (bys zs)) (hn : zs.length = n) (h2 : Rd w B2 1 A2 n2 (bys ys)) (hn2 : ys.length = n2) :
    (Extern.BytealgCompare.compare #[.slice A n c, .slice A2 n2 c2]).run Try.prog w = .ok (.int .i64 (Lib.compareBytes (bytesOfI zs) (bytesOfI ys))) w := by
  change Sem.run Try.prog (do pure (goInt (Extern.BytealgCompare.cmp (← Extern.Bytes.bytesOf (.slice A n c)) (← Extern.Bytes.bytesOf (.slice A2 n2 c2))))) w = _
  simp only [Sem.run_bind, Sem.run_pure, run_loadRd h hn, run_loadRd h2 hn2, Result.andThen]
  rw [Lib.cmp_eq]
  rfl
set_option maxRecDepth 100000 in
set_option maxHeartbeats 2000000 in
theorem cmpBytes_any {w : World} {B n c B2 n2 c2 : Nat} {A A2 : Option Addr} {zs ys : List Int} (h : Rd w B 1 A n (bys zs)) (hn : zs.length = n) (h2 : Rd w B2 1 A2 n2 (bys ys)) (hn2 : ys.length = n2) :
    Calls Try.prog 69 #[.slice A n c, .slice A2 n2 c2] w fun e w' => e = .returned (.int .i64 (Lib.compareBytes (bytesOfI zs) (bytesOfI ys))) ∧ w = w' := by
  have hrun := run_cmpRd (c := c) (c2 := c2) h hn h2 hn2
  go_enter Try.func69, Try.ntmps69
  go_wp2
  rw [run_callFunc_extern Try.func84 (by kernel_rfl) (by kernel_rfl) (by kernel_rfl) (e := Extern.BytealgCompare.compare) (by kernel_rfl), hrun]
  simp only [Result.andThen]
  rw [Oper.upon_value]
  go_wp2
  go_ret
  exact ⟨rfl, rfl⟩
end Go.Proofs.Ytbogmkhoppffgaa
