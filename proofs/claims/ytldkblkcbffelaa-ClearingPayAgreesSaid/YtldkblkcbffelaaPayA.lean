/- The program's Pay. -/
import Derived.Test.YtldkblkcbffelaaForkL
namespace Go.Proofs.Ytldkblkcbffelaa
open Go.RowKit

/-- A payment settles the debt in the other direction. -/
def swp (x : Dt) : Dt := ⟨x.c, x.d, x.u, x.a⟩
theorem swp_ok {x : Dt} (h : x.ok) : (swp x).ok := by
  have hn := h.nums
  have e : ∀ p : Prop, [Decidable p] → p → decide p = true := fun _ _ h => decide_eq_true h
  simp only [Dt.ok, swp, validB]
  exact e _ (by omega)
/-- The payments one by one: the first code that is not 0, and the debts before it. -/
def payGo : List Dt → List Dt → Int × List Dt
  | L, [] => (0, L)
  | L, x :: D => if codeOf L (swp x) = 0 then payGo (nextOf L (swp x)) D else (codeOf L (swp x), L)
def validAll (P : List Dt) : Bool := P.all fun x => validB x.d x.c x.u x.a
def payCode (L P : List Dt) : Int := if validAll P = true then (payGo L P).1 else 1
def payNext (L P : List Dt) : List Dt := if validAll P = true then (if (payGo L P).1 = 0 then (payGo L P).2 else L) else L
theorem payGo_ok : ∀ (P L : List Dt), (∀ x ∈ L, x.ok) → ∀ x ∈ (payGo L P).2, x.ok
  | [], _, h => h
  | x :: P, L, h => by
    unfold payGo
    split
    · exact payGo_ok P (nextOf L (swp x)) (nextOf_ok h _)
    · exact h
theorem payGo_length : ∀ (P L : List Dt), (payGo L P).2.length ≤ L.length + P.length
  | [], L => by simp [payGo]
  | x :: P, L => by
    unfold payGo
    split
    · have h1 := payGo_length P (nextOf L (swp x))
      have h2 := nextOf_length L (swp x)
      simp only [List.length_cons]
      omega
    · simp
theorem payNext_length (L P : List Dt) : (payNext L P).length ≤ L.length + P.length := by
  unfold payNext
  split
  · split
    · exact payGo_length P L
    · omega
  · omega
theorem codeOf_cases (L : List Dt) (x : Dt) : codeOf L x = 0 ∨ codeOf L x = 1 ∨ codeOf L x = 2 := by
  unfold codeOf
  split
  · split <;> simp
  · simp
theorem drop_get {α : Type} {l : List α} {k : Nat} {x : α} (h : l[k]? = some x) : l.drop k = x :: l.drop (k + 1) := by
  obtain ⟨hk, e⟩ := List.getElem?_eq_some_iff.1 h
  rw [List.drop_eq_getElem_cons hk, e]
theorem validAll_of {P : List Dt} {k : Nat} (hk : k = P.length) (h : ∀ j x, j < k → P[j]? = some x → x.ok) : validAll P = true := by
  rw [validAll, List.all_eq_true]
  intro x hx
  obtain ⟨j, hj⟩ := List.getElem?_of_mem hx
  exact h j x (by rw [hk]; exact (List.getElem?_eq_some_iff.1 hj).1) hj
theorem validAll_not {P : List Dt} {k : Nat} {x : Dt} (hx : P[k]? = some x) (h : validB x.d x.c x.u x.a = false) : validAll P = false := by
  rw [validAll, List.all_eq_false]
  exact ⟨x, List.mem_of_getElem? hx, by rw [h]; simp⟩

/-- What Pay leaves. -/
def PayPost (w : World) (lb mb : Nat) (L P : List Dt) (e : Ending) (w' : World) : Prop :=
  e = .returned (.int .i64 (payCode L P)) ∧ ∃ mb', Led w' lb mb' (payNext L P) ∧ w.grownBy w' (some lb) ∧ (mb' = mb ∨ w.heap.size ≤ mb')

set_option maxHeartbeats 4000000 in
theorem pay_led (lb mb : Nat) (A : Option Addr) (n c : Nat) (L P : List Dt) (w : World) (h : Led w lb mb L) (hrd : Rd w w.heap.size 4 A n (flat Dt.cells P)) (hn : P.length = n) (hn2 : n ≤ 800) (hl : L.length ≤ 100) :
    Calls Try.prog 26 #[.pointer (some ⟨lb, 0, none⟩), .slice A n c] w (PayPost w lb mb L P) := by
  have HN := Lib.hid hn
  have hlb := h.lt
  have hmb := h.ltm
  clear hn
  go_enter Try.func26, Try.ntmps26
  go_wp2_with fail
  go_loopw [15] (fun i wr => ∃ k : Nat, k ≤ n ∧ i = .int .i64 (k : Int) ∧ (∀ j x, j < k → P[j]? = some x → x.ok) ∧ Below w.heap.size w wr) (fun i _ => n - (intOf i).toNat)
  case atStart => exact ⟨0, by omega, rfl, fun j x hj => by omega, Below.refl _ _⟩
  case round =>
    obtain ⟨k, hk, rfl, hok, hb⟩ := hrel
    have hwsz := hb.size
    by_cases hlt : k < n
    · have hkl : k < P.length := by rw [HN.out]; exact hlt
      obtain ⟨x, hx⟩ : ∃ x, P[k]? = some x := ⟨_, List.getElem?_eq_getElem hkl⟩
      obtain ⟨_, g, o, rfl, hgb, e0, e1, e2, e3⟩ := dt_cells4 (hrd.below hb) hx
      have hlo : (0 : Int) ≤ (k : Int) := by omega
      have hhi : (k : Int) < (n : Int) := by omega
      have HX := Lib.hid hx
      have HO := Lib.hid hok
      clear hx hok
      cases hv : validB x.d x.c x.u x.a with
      | true =>
        have HV := Lib.hid hv
        clear hv
        go_wp2_with fail
        refine (valid_any x.d x.c x.u x.a _).mono ?_
        rintro e w2 ⟨rfl, rfl⟩
        rw [HV.out]
        go_wp2_with fail
        go_roundw
        case rel =>
          refine ⟨k + 1, by omega, by go_num, fun j y hj hy => ?_, (hb.alloc hwsz _).alloc (by simp; omega) _⟩
          by_cases hjk : j < k
          · exact HO.out j y hjk hy
          · have : j = k := by omega
            rw [this, HX.out] at hy
            have e : x = y := by injection hy
            rw [← e]
            exact HV.out
        case measure => simp [intOf]; omega
      | false =>
        have HV := Lib.hid hv
        clear hv
        go_wp2_with fail
        refine (valid_any x.d x.c x.u x.a _).mono ?_
        rintro e w2 ⟨rfl, rfl⟩
        rw [HV.out]
        go_wp2_with fail
        go_ret
        have hbb := (hb.alloc hwsz (.cells #[.int .i64 x.d, .int .i64 x.c, .int .i64 x.u, .int .i64 x.a] 37)).alloc (by simp; omega) (.cells #[.int .i64 x.d, .int .i64 x.c, .int .i64 x.u, .int .i64 x.a] 37)
        have hna := validAll_not HX.out HV.out
        refine ⟨by simp [payCode, hna], mb, ?_, grownBy_of_below hbb _, .inl rfl⟩
        rw [show payNext L P = L by simp [payNext, hna]]
        exact h.below hbb
    · have hall : validAll P = true := validAll_of (k := k) (by have := HN.out; omega) hok
      have hL1 := h.below hb
      have HA := Lib.hid hall
      clear hok hall
      go_wp2_with fail
      refine (fork_of lb mb L _ hL1).mono ?_
      rintro e w2 ⟨lb2, mb2, rfl, hF2, hb2, hf1, hf2⟩
      have hL2 := hL1.below hb2
      have hbb2 := hb.trans (hb2.mono hwsz)
      have hmb' : mb < mb2 := by omega
      have hlb' : lb < mb2 := by omega
      have hz2 : w.heap.size ≤ mb2 := by omega
      have hz2' : w.heap.size ≤ lb2 := by omega
      clear hL1 hb hb2 hwsz hf1 hf2
      go_wp2_with fail
      go_loopw [27] (fun i wr => ∃ (k : Nat) (K : List Dt), k ≤ n ∧ i = .int .i64 (k : Int) ∧ Led wr lb mb L ∧ Led wr lb2 mb2 K ∧ payGo L P = payGo K (P.drop k) ∧ K.length ≤ L.length + k ∧ Below w.heap.size w wr) (fun i _ => n - (intOf i).toNat)
      case atStart => exact ⟨0, L, by omega, rfl, hL2, hF2, rfl, by omega, hbb2⟩
      case round =>
        clear hL2 hF2 hbb2
        obtain ⟨k, K, hk, rfl, hL, hF, hgo, hKl, hb⟩ := hrel
        have hwsz := hb.size
        by_cases hlt : k < n
        · have hkl : k < P.length := by rw [HN.out]; exact hlt
          obtain ⟨x, hx⟩ : ∃ x, P[k]? = some x := ⟨_, List.getElem?_eq_getElem hkl⟩
          obtain ⟨_, g, o, rfl, hgb, e0, e1, e2, e3⟩ := dt_cells4 (hrd.below hb) hx
          have hlo : (0 : Int) ≤ (k : Int) := by omega
          have hhi : (k : Int) < (n : Int) := by omega
          rw [drop_get hx] at hgo
          have HG := Lib.hid hgo
          clear hx hgo
          go_wp2_with fail
          have hst : swp x = ⟨x.c, x.d, x.u, x.a⟩ := rfl
          have hcr : codeOf K (swp x) = 0 ∨ codeOf K (swp x) = 1 ∨ codeOf K (swp x) = 2 := codeOf_cases K (swp x)
          have hbl := hb.alloc hwsz (.cells #[.int .i64 x.c, .int .i64 x.d, .int .i64 x.u, .int .i64 x.a] 37)
          refine (post_led lb2 mb2 K (swp x) _ (hF.alloc _) (by omega)).mono ?_
          rintro e w3 ⟨rfl, hF3, hg3⟩
          have hL3 := (hL.alloc (.cells #[.int .i64 x.c, .int .i64 x.d, .int .i64 x.u, .int .i64 x.a] 37)).grown hg3 (fun e => by injection e with e; omega) (fun e => by injection e with e; omega)
          have hb3 := hbl.grown hg3 (by simp; omega) (fun k e => by injection e with e; omega)
          have hn1 := nextOf_length K (swp x)
          have HX := Lib.hid (p := payGo K (x :: P.drop (k + 1)) = if codeOf K (swp x) = 0 then payGo (nextOf K (swp x)) (P.drop (k + 1)) else (codeOf K (swp x), K)) rfl
          clear hst hL hF hbl hb
          rcases hcr with hc | hc | hc
          · rw [hc] at HX ⊢
            rw [if_pos rfl] at HX
            generalize nextOf K (swp x) = K2 at *
            go_wp2_with fail
            go_roundw
            case rel => exact ⟨k + 1, K2, by omega, by go_num, hL3, hF3, HG.out.trans HX.out, by omega, hb3⟩
            case measure => simp [intOf]; omega
          · rw [hc] at HX ⊢
            have hp1 : payCode L P = 1 := by rw [payCode, if_pos HA.out, HG.out, HX.out]; rfl
            have hp2 : payNext L P = L := by rw [payNext, if_pos HA.out, HG.out, HX.out]; rfl
            have HP1 := Lib.hid hp1
            have HP2 := Lib.hid hp2
            clear hp1 hp2
            go_wp2_with fail
            go_ret
            exact ⟨by rw [HP1.out]; rfl, mb, by rw [HP2.out]; exact hL3, grownBy_of_below hb3 _, .inl rfl⟩
          · rw [hc] at HX ⊢
            have hp1 : payCode L P = 2 := by rw [payCode, if_pos HA.out, HG.out, HX.out]; rfl
            have hp2 : payNext L P = L := by rw [payNext, if_pos HA.out, HG.out, HX.out]; rfl
            have HP1 := Lib.hid hp1
            have HP2 := Lib.hid hp2
            clear hp1 hp2
            go_wp2_with fail
            go_ret
            exact ⟨by rw [HP1.out]; rfl, mb, by rw [HP2.out]; exact hL3, grownBy_of_below hb3 _, .inl rfl⟩
        · have hdr : P.drop k = [] := List.drop_eq_nil_of_le (by have := HN.out; omega)
          rw [hdr] at hgo
          have hp1 : payCode L P = 0 := by rw [payCode, if_pos HA.out, hgo]; rfl
          have hp2 : payNext L P = K := by rw [payNext, if_pos HA.out, hgo]; rfl
          have HP1 := Lib.hid hp1
          have HP2 := Lib.hid hp2
          clear hp1 hp2 hgo hdr
          obtain ⟨m, hmA, hmR, hmL, hmO⟩ := hF
          have hc2 := hmA.cell
          obtain ⟨m0, hm0, _⟩ := hL
          have hc0 := hm0.cell
          have hl0 := hm0.led
          have hfz : wr.frozen? ⟨lb, 0, none⟩ = false := by simp [World.frozen?, hl0]
          go_wp2_with fail
          go_ret
          refine ⟨by rw [HP1.out]; rfl, mb2, ?_, ?_, .inr hz2⟩
          · rw [HP2.out]
            exact ⟨m, ⟨heap_setCell_same wr lb 0 _ _ _ hl0, hmA.map.same (heap_setCell_other wr ⟨lb, 0, none⟩ mb2 _ (fun e => by have : mb2 = lb := e; omega)), hmA.nodup⟩, hmR, hmL, hmO⟩
          · exact grownBy_trans (grownBy_of_below hb (some lb)) ⟨rfl, rfl, rfl, by simp, fun k _ hk => heap_setCell_other wr ⟨lb, 0, none⟩ k _ (fun e => hk (by rw [e]))⟩
end Go.Proofs.Ytldkblkcbffelaa
