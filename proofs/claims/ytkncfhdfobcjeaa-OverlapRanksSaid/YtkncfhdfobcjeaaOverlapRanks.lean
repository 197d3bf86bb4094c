/- The walk of OverlapRanks. -/
import Derived.Test.YtkncfhdfobcjeaaOvY2
import Derived.Test.YtkncfhdfobcjeaaSpChain
import Derived.Deep.CutRange
namespace Go.Proofs.Ytkncfhdfobcjeaa
open Go.RowKit

set_option maxRecDepth 100000 in
set_option maxHeartbeats 8000000 in
theorem walkOverlapRanks (A : Option Addr) (n c : Nat) (l : List Pr) (sc : Int) (d : Int) (w : World) (h : Rd w w.heap.size 4 A n (flat Pr.cells l)) (hn : l.length = n) (hok : ∀ p ∈ l, p.ok) (_ : n ≤ maxLen) (isc : I64 sc) (id : I64 d) :
    Calls Try.prog 10 #[.slice A n c, .int .i64 sc, .int .i64 d] w fun e w' => e = .returned (.bool true) ∧ Below w.heap.size w w' := by
  by_cases hbig : 40 < n
  · have hbig2 : (40 : Int) < (n : Int) := by omega
    go_enter Try.func10, Try.ntmps10
    go_wp2_with fail
    go_ret
    exact ⟨rfl, Below.refl _ _⟩
  have hbig2 : ¬ (40 : Int) < (n : Int) := by omega
  have HN := Lib.hid hn
  clear hn
  go_enter Try.func10, Try.ntmps10
  go_wp2_with fail
  refine (claims_any sc h HN.out hok (by omega)).mono ?_
  rintro e w1 ⟨A1, c1, C, rfl, h1, hl1, ho1, hb1⟩
  have HL := Lib.hid hl1
  have HO := Lib.hid ho1
  have hb1z := hb1.size
  clear h hl1 ho1 HN hok
  go_wp2_with fail
  refine (near_any d sc id _).mono ?_
  rintro e w2 ⟨m, rfl, hm, hb2⟩
  have h2 := (h1.below hb2).mono hb2.size
  have hbb2 := hb1.trans (hb2.mono hb1.size)
  clear h1 hb1 hb2 hb1z
  go_wp2_with fail
  refine (oat_any m h2 HL.out (by omega)).mono ?_
  rintro e w3 ⟨rfl, hb3⟩
  have h3 := (h2.below hb3).mono hb3.size
  have hbb3 := hbb2.trans (hb3.mono hbb2.size)
  obtain ⟨s, r, b, hv, hon⟩ := atV_least C m
  have HON := Lib.hid hon
  rw [hv]
  clear h2 hbb2 hb3 hv hon
  go_wp2_with fail
  go_loopw [11] (fun i wr => ∃ k : Nat, k ≤ n ∧ i = .int .i64 (k : Int) ∧ Below w3.heap.size w3 wr) (fun i _ => n - (intOf i).toNat)
  case atStart => exact ⟨0, by omega, rfl, Below.refl _ _⟩
  case round =>
    obtain ⟨k, hk, rfl, hb⟩ := hrel
    have hwz := hb.size
    by_cases hlt : k < n
    · skip
      have hkl : k < C.length := by rw [HL.out]; exact hlt
      obtain ⟨x, hx⟩ : ∃ x, C[k]? = some x := ⟨_, List.getElem?_eq_getElem hkl⟩
      obtain ⟨_, g, o, rfl, hgb, hc⟩ := (h3.below hb).elem pr_len hx (by omega)
      have e0 : wr.cell? ⟨g, o + k * 4, none⟩ = some (.int .i64 x.s) := hc 0 _ rfl
      have e1 : wr.cell? ⟨g, o + k * 4 + 1, none⟩ = some (.int .i64 x.r) := hc 1 _ rfl
      have e2 : wr.cell? ⟨g, o + k * 4 + 2, none⟩ = some (.int .i64 x.f) := hc 2 _ rfl
      have e3 : wr.cell? ⟨g, o + k * 4 + 3, none⟩ = some (.int .i64 x.t) := hc 3 _ rfl
      have hlo : (0 : Int) ≤ (k : Int) := by omega
      have hhi : (k : Int) < (n : Int) := by omega
      have hgl : g < wr.heap.size := by omega
      have HOX := Lib.hid (HON.out x (List.mem_of_getElem? hx))
      have a1 := (World.cell?_alloc_lt wr (.cells #[.int .i64 x.f, .int .i64 x.t] 48) ⟨g, o + k * 4 + 1, none⟩ hgl).trans e1
      clear hx hc
      go_upto_region 9 with (fail)
      go_cut [86] from 28 to 86 (fun v wx => v = .bool false ∧ Below wr.heap.size wr wx)
      case first =>
        by_cases c0 : 0 ≤ x.s
        · have d0 : decide (0 ≤ x.s) = true := decide_eq_true c0
          by_cases c1 : x.s < 6
          · have d1 : decide (x.s < 6) = true := decide_eq_true c1
            by_cases c2 : 1 ≤ x.r
            · have d2 : decide (1 ≤ x.r) = true := decide_eq_true c2
              by_cases c3 : x.r ≤ 7
              · have d3 : decide (x.r ≤ 7) = true := decide_eq_true c3
                go_wp2_with fail
                refine (rcontains_any _ 1 1 [x.sp] m _ (Rd.built (heap_alloc_new wr _) (by simp) rfl) rfl (by omega)).mono ?_
                rintro e w' ⟨rfl, rfl⟩
                cases hd : dset [x.sp] m
                · go_wp2_with fail
                  go_meet
                  exact ⟨rfl, (Below.refl _ _).alloc (Nat.le_refl _) _⟩
                · obtain ⟨hbt, hle⟩ := HOX.out (by unfold onD; rw [d0, d1, d2, d3, hd]; rfl)
                  subst hbt
                  have hrl : decide (x.r < r) = false := decide_eq_false (by omega)
                  clear hle
                  go_wp2_with fail
                  go_meet
                  exact ⟨rfl, (Below.refl _ _).alloc (Nat.le_refl _) _⟩
              · have d3 : decide (x.r ≤ 7) = false := decide_eq_false c3
                go_wp2_with fail
                go_meet
                exact ⟨rfl, Below.refl _ _⟩
            · have d2 : decide (1 ≤ x.r) = false := decide_eq_false c2
              go_wp2_with fail
              go_meet
              exact ⟨rfl, Below.refl _ _⟩
          · have d1 : decide (x.s < 6) = false := decide_eq_false c1
            go_wp2_with fail
            go_meet
            exact ⟨rfl, Below.refl _ _⟩
        · have d0 : decide (0 ≤ x.s) = false := decide_eq_false c0
          go_wp2_with fail
          go_meet
          exact ⟨rfl, Below.refl _ _⟩
      case rest =>
        obtain ⟨hcv, hbx⟩ := hcut
        subst hcv
        go_wp2_with fail
        go_roundw
        case rel => exact ⟨k + 1, by omega, by go_num, hb.trans (hbx.mono hwz)⟩
        case measure => simp [intOf]; omega
    · go_wp2_with fail
      refine (awk_any wr).mono ?_
      rintro e wa ⟨rfl, hba⟩
      go_wp2_with fail
      go_ret
      have hbb := hbb3.trans (hb.mono hbb3.size)
      exact ⟨rfl, hbb.trans (hba.mono hbb.size)⟩
end Go.Proofs.Ytkncfhdfobcjeaa
