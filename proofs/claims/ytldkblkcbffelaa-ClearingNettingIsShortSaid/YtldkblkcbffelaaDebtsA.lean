/- Debts: valid debts out of raw numbers. -/
import Derived.Test.YtldkblkcbffelaaRefB
import Derived.Deep.RegionHeld3
import Derived.Deep.DeepCutAuto
namespace Go.Proofs.Ytldkblkcbffelaa
open Go.RowKit

/-- Four raw numbers. -/
structure Rw where
  d : Int
  c : Int
  u : Int
  a : Int
def I64 (n : Int) : Prop := -9223372036854775808 ≤ n ∧ n ≤ 9223372036854775807
def Rw.ok (r : Rw) : Prop := I64 r.d ∧ I64 r.c ∧ I64 r.u ∧ I64 r.a
def Rw.cells (r : Rw) : List Value := [.int .i64 r.d, .int .i64 r.c, .int .i64 r.u, .int .i64 r.a]
theorem rw_len (x : Rw) : x.cells.length = 4 := rfl

def debtOf (r : Rw) : Dt :=
  { d := r.d % 6, c := if (r.d % 6 == r.c % 6) = true then (r.c + 1) % 6 else r.c % 6, u := 1 + r.u % 3, a := max 1 (amountOf r.a) }
def debtsOf (l : List Rw) : List Dt := (l.take 20).map debtOf
theorem debtOf_valid (r : Rw) : validB (debtOf r).d (debtOf r).c (debtOf r).u (debtOf r).a = true := by
  have ha := amountOf_bd r.a
  simp only [debtOf, validB, beq_iff_eq, decide_eq_true_eq]
  refine ⟨by omega, by omega, ?_, ?_, ?_, by omega, by omega, by omega, by omega⟩
  · split <;> omega
  · split <;> omega
  · split <;> omega

/-- The cells of one raw debt. -/
theorem rd_cells4 {w : World} {B n : Nat} {A : Option Addr} {l : List Rw} (h : Rd w B 4 A n (flat Rw.cells l)) {k : Nat} {x : Rw} (hx : l[k]? = some x) :
    k < n ∧ ∃ b o, A = some ⟨b, o, none⟩ ∧ b < B ∧ w.cell? ⟨b, o + k * 4, none⟩ = some (.int .i64 x.d) ∧ w.cell? ⟨b, o + k * 4 + 1, none⟩ = some (.int .i64 x.c) ∧ w.cell? ⟨b, o + k * 4 + 2, none⟩ = some (.int .i64 x.u) ∧ w.cell? ⟨b, o + k * 4 + 3, none⟩ = some (.int .i64 x.a) := by
  obtain ⟨hk, b, o, hA, hb, hc⟩ := h.elem rw_len hx (by omega)
  exact ⟨hk, b, o, hA, hb, by simpa using hc 0 _ rfl, hc 1 _ rfl, hc 2 _ rfl, hc 3 _ rfl⟩

theorem box4_eq {W : World} {t : TypeId} {a b c c' d d' : Int} (h1 : c = c') (h2 : d = d') : (W.alloc (.cells #[.int .i64 a, .int .i64 b, .int .i64 c, .int .i64 d] t)).drew = (W.alloc (.cells #[.int .i64 a, .int .i64 b, .int .i64 c', .int .i64 d'] t)).drew := by rw [h1, h2]

set_option maxHeartbeats 4000000 in
theorem debts_any (A : Option Addr) (n c : Nat) (l : List Rw) (w : World) (h : Rd w w.heap.size 4 A n (flat Rw.cells l)) (hok : ∀ r ∈ l, r.ok) (hn : n = l.length) (hn2 : n ≤ maxLen) :
    Calls Try.prog 23 #[.slice A n c] w fun e w' => ∃ v, e = .returned v ∧ w'.ownsRow w.heap.size 37 4 v (debtsOf l).length (flat Dt.cells (debtsOf l)) ∧ Below w.heap.size w w' := by
  obtain ⟨i0, hi0, hz0, hz1, hz2⟩ := info_parts info_debt
  unfold maxLen at hn2
  have Hn := Lib.hid hn
  clear hn
  go_enter Try.func23, Try.ntmps23
  go_wp2
  go_loopw [3, 4] (fun v i wr => ∃ k : Nat, k ≤ n ∧ k ≤ 20 ∧ i = .int .i64 k ∧ wr.ownsRow w.heap.size 37 4 v k (flat Dt.cells ((l.take k).map debtOf)) ∧ Below w.heap.size w wr) (fun _ i _ => n - (intOf i).toNat)
  case atStart => exact ⟨0, by omega, by omega, rfl, World.ownsRow_nil _ _ _ _, Below.refl _ _⟩
  case round =>
    obtain ⟨k, hk, hk20, rfl, hown, hb⟩ := hrel
    have hwsz := hb.size
    by_cases hlt : k < n ∧ k < 20
    · obtain ⟨hlt, h20⟩ := hlt
      have hL : k < l.length := by have := Hn.out; omega
      obtain ⟨x, hx⟩ : ∃ x, l[k]? = some x := ⟨_, List.getElem?_eq_getElem hL⟩
      obtain ⟨_, b, o, rfl, hbb, c0, c1, c2, c3⟩ := rd_cells4 h hx
      have e0 := (hb.cell (p := ⟨b, o + k * 4, none⟩) hbb).trans c0
      have e1 := (hb.cell (p := ⟨b, o + k * 4 + 1, none⟩) hbb).trans c1
      have e2 := (hb.cell (p := ⟨b, o + k * 4 + 2, none⟩) hbb).trans c2
      have e3 := (hb.cell (p := ⟨b, o + k * 4 + 3, none⟩) hbb).trans c3
      obtain ⟨⟨d1, d2⟩, ⟨x1, x2⟩, ⟨u1, u2⟩, ⟨a1, a2⟩⟩ := hok x (List.mem_of_getElem? hx)
      have hlo : (0 : Int) ≤ (k : Int) := by omega
      have hhi : (k : Int) < (n : Int) := by omega
      have ham := amountOf_bd x.a
      have hw1 : IntKind.i64.wrap (1 + x.u % 3) = 1 + x.u % 3 := IntWalk.i64_in _ (by omega)
      obtain ⟨A1, cc, rfl, hnc, hcm, hA1⟩ := own_form hown
      have lo1 : ∀ g, (Value.slice A1 k cc).ownBlock = some g → w.heap.size ≤ g := fun g e => (hown.lt g e).1
      clear c0 c1 c2 c3
      go_wp2_with fail
      go_cut [5] (fun s5 wc => s5 = .pointer (some ⟨wr.heap.size, 0, none⟩) ∧ wc = (wr.alloc (.cells #[.int .i64 (x.d % 6), .int .i64 (x.c % 6), .int .i64 (1 + x.u % 3), .int .i64 (max 1 (amountOf x.a))] 37)).drew)
      case first =>
        go_region_held3 (fun w' => w'.cell? ⟨b, o + k * 4, none⟩ = some (.int .i64 x.d) ∧ w'.cell? ⟨b, o + k * 4 + 1, none⟩ = some (.int .i64 x.c) ∧ w'.cell? ⟨b, o + k * 4 + 2, none⟩ = some (.int .i64 x.u) ∧ w'.cell? ⟨b, o + k * 4 + 3, none⟩ = some (.int .i64 x.a)) (go_keep)
          (first
            | (go_at_call 19; refine (mod_any _ _ _ ?_ ?_ ?_).mono ?_; (constructor <;> omega); omega; omega; rintro e w' ⟨rfl, rfl⟩)
            | (go_at_call 40; refine (amount_any _ _ ?_).mono ?_; (constructor <;> omega); rintro e w' ⟨rfl, rfl⟩))
        all_goals go_wp2_with fail
        all_goals go_meet
        all_goals exact ⟨rfl, box4_eq rfl (by omega)⟩
      case rest =>
        obtain ⟨rfl, rfl⟩ := hcut
        clear e0 e1 e2 e3
        clear hw1
        obtain ⟨b0, hb0⟩ : ∃ b, (x.d % 6 == x.c % 6) = b := ⟨_, rfl⟩
        have hdt : debtOf x = { d := x.d % 6, c := if b0 = true then (x.c + 1) % 6 else x.c % 6, u := 1 + x.u % 3, a := max 1 (amountOf x.a) } := by unfold debtOf; rw [hb0]
        have hst : (l.take (k + 1)).map debtOf = (l.take k).map debtOf ++ [debtOf x] := by rw [take_succ_get hx]; simp
        have hfl : flat Dt.cells ((l.take (k + 1)).map debtOf) = flat Dt.cells ((l.take k).map debtOf) ++ (debtOf x).cells := by rw [hst, flat_append, flat_one]
        have HF := Lib.hid hfl
        have HD := Lib.hid hdt
        clear hfl hst hdt hx
        generalize (l.take k).map debtOf = P at *
        have hmx : 1 ≤ max 1 (amountOf x.a) := by omega
        generalize max 1 (amountOf x.a) = am at *
        cases b0 with
        | false =>
          go_wp2_with (at_builtin
                       go_loud (refine wpList_append_rd (by rfl) (.tmp 53) (.tmp 55) 30 (by rfl) w.heap.size 37 i0 _ 4 32 Try.underlying30 hi0 hz0 hz1 hz2 rfl (by omega) (.slice A1 k cc) k (flat Dt.cells P) (by rfl) ((hown.alloc _).alloc _) (wr.heap.size + 2) (some ⟨wr.heap.size + 1, 0, none⟩) 1 1 [.int .i64 (x.d % 6), .int .i64 (x.c % 6), .int .i64 (1 + x.u % 3), .int .i64 am] (by rfl) (Rd.built (heap_alloc2_new wr _ _) (by omega) rfl)  (by intro u hu; simp at hu; rcases hu with rfl | rfl | rfl | rfl <;> rfl) (by unfold maxLen; omega) (by omega) (by simp; omega) ?_)
                       intro v2 w2 hown2 hg2 hat2)
          go_roundw
          case rel => exact ⟨k + 1, by omega, by omega, by go_num, by rw [HF.out, HD.out]; exact hown2, (((hb.alloc hwsz _).alloc (by simp; omega) _).drew).grown hg2 (by simp; omega) lo1⟩
          case measure => simp [intOf]; omega
        | true =>
          go_wp2_with (first
            | (go_at_call 19; refine (mod_any _ _ _ ?_ ?_ ?_).mono ?_; (constructor <;> omega); omega; omega; rintro e w' ⟨rfl, rfl⟩)
            | (at_builtin; go_loud (refine wpList_append_rd (by rfl) (.tmp 53) (.tmp 55) 30 (by rfl) w.heap.size 37 i0 _ 4 32 Try.underlying30 hi0 hz0 hz1 hz2 rfl (by omega) (.slice A1 k cc) k (flat Dt.cells P) (by rfl) ((hown.alloc _).alloc _) (wr.heap.size + 2) (some ⟨wr.heap.size + 1, 0, none⟩) 1 1 [.int .i64 (x.d % 6), .int .i64 ((x.c + 1) % 6), .int .i64 (1 + x.u % 3), .int .i64 am] (by rfl) (Rd.built (heap_alloc2_new wr _ _) (by omega) rfl) (by intro u hu; simp at hu; rcases hu with rfl | rfl | rfl | rfl <;> rfl) (by unfold maxLen; omega) (by omega) (by simp; omega) ?_); intro v2 w2 hown2 hg2 hat2))
          go_roundw
          case rel => exact ⟨k + 1, by omega, by omega, by go_num, by rw [HF.out, HD.out]; exact hown2, (((hb.alloc hwsz _).alloc (by simp; omega) _).drew).grown hg2 (by simp; omega) lo1⟩
          case measure => simp [intOf]; omega
    · have hkk : (l.take k).map debtOf = debtsOf l := by
        unfold debtsOf
        have := Hn.out
        by_cases h20 : k = 20
        · rw [h20]
        · have e : k = l.length := by omega
          rw [e, List.take_of_length_le (Nat.le_refl _), List.take_of_length_le (by omega)]
      have hlen : (debtsOf l).length = k := by
        rw [← hkk, List.length_map, List.length_take]
        have := Hn.out
        omega
      rw [hkk] at hown
      have HL := Lib.hid hlen
      clear hkk hlen
      by_cases h1 : k < n
      · have h2 : ¬ k < 20 := fun h => hlt ⟨h1, h⟩
        clear hlt
        go_wp2_with fail
        go_ret
        exact ⟨_, rfl, by rw [HL.out]; exact hown, hb⟩
      · clear hlt
        go_wp2_with fail
        go_ret
        exact ⟨_, rfl, by rw [HL.out]; exact hown, hb⟩
end Go.Proofs.Ytldkblkcbffelaa
