/- The program's Netting. -/
import Derived.Test.YtldkblkcbffelaaPostA
import Derived.Test.YtldkblkcbffelaaRefB
import Derived.Test.YtldkblkcbffelaaNetPure
import Derived.BigRegion
import Derived.Deep.LoopGhost
import Derived.Deep.DeepCutAuto
import Derived.BigQuiet
import Derived.Deep.QuietTactic
namespace Go.Proofs.Ytldkblkcbffelaa
open Go.RowKit

def posArr (p : Nat → Int) : Array Value := #[.int .i64 (p 0), .int .i64 (p 1), .int .i64 (p 2), .int .i64 (p 3), .int .i64 (p 4), .int .i64 (p 5)]
theorem posArr_at (p : Nat → Int) : ∀ i, i < 6 → (posArr p)[i]? = some (.int .i64 (p i))
  | 0, _ => rfl
  | 1, _ => rfl
  | 2, _ => rfl
  | 3, _ => rfl
  | 4, _ => rfl
  | 5, _ => rfl
  | n + 6, h => by omega
theorem posArr_set (p : Nat → Int) (v : Int) : ∀ i, i < 6 → (posArr p).setIfInBounds i (.int .i64 v) = posArr (upd p i v)
  | 0, _ => by simp [posArr, upd]
  | 1, _ => by simp [posArr, upd]
  | 2, _ => by simp [posArr, upd]
  | 3, _ => by simp [posArr, upd]
  | 4, _ => by simp [posArr, upd]
  | 5, _ => by simp [posArr, upd]
  | n + 6, h => by omega
theorem posArr_congr {p q : Nat → Int} (h : ∀ i, i < 6 → p i = q i) : posArr p = posArr q := by
  unfold posArr
  rw [h 0 (by omega), h 1 (by omega), h 2 (by omega), h 3 (by omega), h 4 (by omega), h 5 (by omega)]
theorem index_pos (p : Nat → Int) : ∀ (s : Nat) (_ : s < 6) (w : World), (Instr.index 44 (.agg #[.int .i64 (p 0), .int .i64 (p 1), .int .i64 (p 2), .int .i64 (p 3), .int .i64 (p 4), .int .i64 (p 5)]) (.int .i64 (s : Int))).run Try.prog w = .ok (.int .i64 (p s)) w
  | 0, _, _ => by kernel_rfl
  | 1, _, _ => by kernel_rfl
  | 2, _, _ => by kernel_rfl
  | 3, _, _ => by kernel_rfl
  | 4, _, _ => by kernel_rfl
  | 5, _, _ => by kernel_rfl
  | n + 6, h, _ => by omega

/-- Block g holds the six positions. -/
def Pos (w : World) (g : Nat) (p : Nat → Int) : Prop := w.heap[g]? = some (.cells (posArr p) 44 (0, 0))
theorem Pos.cell {w : World} {g : Nat} {p : Nat → Int} (h : Pos w g p) {i : Nat} (hi : i < 6) : w.cell? ⟨g, i, none⟩ = some (.int .i64 (p i)) := by
  rw [cell_of_row w g i _ _ _ h]
  exact posArr_at p i hi
theorem Pos.free {w : World} {g : Nat} {p : Nat → Int} (h : Pos w g p) (i : Nat) : w.frozen? ⟨g, i, none⟩ = false := frozen_of_row w g i _ _ h
theorem Pos.set {w : World} {g : Nat} {p : Nat → Int} (h : Pos w g p) {i : Nat} (hi : i < 6) (v : Int) : Pos (w.setCell ⟨g, i, none⟩ (.int .i64 v)) g (upd p i v) := by
  unfold Pos
  rw [← posArr_set p v i hi]
  exact heap_setCell_same w g i _ _ _ h
theorem Pos.lt {w : World} {g : Nat} {p : Nat → Int} (h : Pos w g p) : g < w.heap.size := (Array.getElem?_eq_some_iff.1 h).1

theorem Pos.grown {w w' : World} {g : Nat} {p : Nat → Int} {row : Option Nat} (h : Pos w g p) (hg : w.grownBy w' row) (hne : some g ≠ row) : Pos w' g p := (hg.block g h.lt hne).trans h

theorem Pos.alloc {w : World} {g : Nat} {p : Nat → Int} (h : Pos w g p) (o : Obj) : Pos (w.alloc o) g p := (Below.heap_alloc w o g h.lt).trans h
theorem Pos.drew {w : World} {g : Nat} {p : Nat → Int} (h : Pos w g p) : Pos w.drew g p := h

set_option maxHeartbeats 4000000 in
theorem netting_gen (a : Option Addr) (u : Int) (P : Nat → Int) (B : Int) (w : World) (Inv : World → Prop) (hI : Inv w) (hInv : ∀ W W', Inv W → Below w.heap.size W W' → Inv W')
    (hpos : ∀ (s : Nat) (W : World), s < 6 → Inv W → Calls Try.prog 21 #[.pointer a, .int .i64 s, .int .i64 u] W fun e w' => e = .returned (.int .i64 (P s)) ∧ Below W.heap.size W w')
    (hB : ∀ s, s < 6 → -B ≤ P s ∧ P s ≤ B) (hB2 : B ≤ 1000000000000000000) :
    Calls Try.prog 22 #[.pointer a, .int .i64 u] w fun e w' => ∃ v, e = .returned v ∧ w'.ownsRow w.heap.size 37 4 v (net u 6 P).length (flat Dt.cells (net u 6 P)) ∧ Below w.heap.size w w' := by
  obtain ⟨i0, hi0, hz0, hz1, hz2⟩ := info_parts info_debt
  go_enter Try.func22, Try.ntmps22
  go_wp2_with fail
  go_loopw [13] (fun i wr => ∃ k : Nat, k ≤ 6 ∧ i = .int .i64 k ∧ Pos wr w.heap.size (fun s => if s < k then P s else 0) ∧ Below w.heap.size w wr ∧ Inv wr) (fun i _ => 6 - (intOf i).toNat)
  case atStart => exact ⟨0, by omega, rfl, heap_alloc_new w _, (Below.refl _ _).alloc (Nat.le_refl _) _, hInv _ _ hI ((Below.refl _ _).alloc (Nat.le_refl _) _)⟩
  case round =>
    obtain ⟨k, hk, rfl, hp, hb, hIr⟩ := hrel
    have hwsz := hb.size
    have hglt := hp.lt
    by_cases hlt : k < 6
    · go_wp2_with fail
      refine (hpos k _ hlt hIr).mono ?_
      rintro e w1 ⟨rfl, hb1⟩
      have hp1 : Pos w1 w.heap.size (fun s => if s < k then P s else 0) := (hb1.block _ hglt).trans hp
      have hc := hp1.cell hlt
      have hf := hp1.free k
      have hb2 : Below w.heap.size w w1 := hb.trans (hb1.mono hwsz)
      have hI1 : Inv w1 := hInv _ _ hIr (hb1.mono hwsz)
      have hset := hp1.set hlt (P k)
      have hset2 : Pos (w1.setCell ⟨w.heap.size, k, none⟩ (.int .i64 (P k))) w.heap.size (fun s => if s < k + 1 then P s else 0) := by
        unfold Pos at hset ⊢
        rw [posArr_congr (q := upd (fun s => if s < k then P s else 0) k (P k)) ?_]
        · exact hset
        · intro i _
          unfold upd
          by_cases hik : i = k
          · subst hik
            simp
          · by_cases hl : i < k
            · simp [hl, hik, show i < k + 1 by omega]
            · simp [hl, hik, show ¬ i < k + 1 by omega]
      have HS := Lib.hid hset2
      clear hp1 hset hset2 hp
      go_wp2_with fail
      go_roundw
      case rel => exact ⟨k + 1, by omega, by go_num, HS.out, hb2.setCell (Nat.le_refl _) _, hInv _ _ hI1 ((Below.refl _ _).setCell (p := ⟨w.heap.size, k, none⟩) (Nat.le_refl w.heap.size) _)⟩
      case measure => simp [intOf]; omega
    · obtain rfl : k = 6 := by omega
      have hp6 : Pos wr w.heap.size P := by
        unfold Pos at hp ⊢
        rw [posArr_congr (p := P) (q := fun s => if s < 6 then P s else 0) (fun i hi => by simp [hi])]
        exact hp
      clear hp
      go_wp2_with fail
      go_loopg [7] 6 (fun f v wn => ∃ (done : List Dt) (p : Nat → Int), wn.ownsRow w.heap.size 37 4 v done.length (flat Dt.cells done) ∧ Pos wn w.heap.size p ∧ done ++ net u f p = net u 6 P ∧ cnt p 6 ≤ f ∧ f ≤ 6 ∧ done.length ≤ 6 ∧
        (∀ i, i < 6 → -B ≤ p i ∧ p i ≤ B) ∧ Below w.heap.size w wn)
      case atStart => exact ⟨[], P, World.ownsRow_nil _ _ _ _, hp6, rfl, cnt_le_n _ _, Nat.le_refl _, by simp, hB, hb⟩
      case round =>
        obtain ⟨done, p, hown, hp, hnet, hcnt, hf6, hdl, hpb, hbn⟩ := hrel
        clear hp6 hb hIr hB hI hInv hpos
        obtain ⟨A1, c1, rfl, hnc1, hcm1, hA1⟩ := own_form hown
        have hc0 := hp.cell (i := 0) (by omega)
        have hc1 := hp.cell (i := 1) (by omega)
        have hc2 := hp.cell (i := 2) (by omega)
        have hc3 := hp.cell (i := 3) (by omega)
        have hc4 := hp.cell (i := 4) (by omega)
        have hc5 := hp.cell (i := 5) (by omega)
        go_wp2_with fail
        go_loop [8, 9, 24] (fun l h i => ∃ k : Nat, k ≤ 6 ∧ i = .int .i64 k ∧ l = .int .i64 (lo p k) ∧ h = .int .i64 (hi p k)) (fun _ _ i => 6 - (intOf i).toNat)
        case atStart => exact ⟨0, by omega, rfl, rfl, rfl⟩
        case round =>
          obtain ⟨k, hk, rfl, rfl, rfl⟩ := hrel
          by_cases hlt : k < 6
          · have hidx := index_pos p k hlt
            have hll := lo_lt p k hk
            have hhl := hi_lt p k hk
            have hcl := hp.cell hll
            have hch := hp.cell hhl
            have hll1 : ((lo p k : Nat) : Int) < 6 := by omega
            have hhl1 : ((hi p k : Nat) : Int) < 6 := by omega
            have hlo : lo p (k + 1) = if p k < p (lo p k) then k else lo p k := rfl
            have hhi : hi p (k + 1) = if p (hi p k) < p k then k else hi p k := rfl
            have HL := Lib.hid hlo
            have HH := Lib.hid hhi
            clear hlo hhi
            generalize lo p k = L0 at *
            generalize hi p k = H0 at *
            by_cases t1 : p k < p L0
            · by_cases t2 : p H0 < p k
              · go_wp2_with fail
                go_round
                case rel => exact ⟨k + 1, by omega, by go_num, by rw [HL.out, if_pos t1], by rw [HH.out, if_pos t2]⟩
                case measure => simp [intOf]; omega
              · go_wp2_with fail
                go_round
                case rel => exact ⟨k + 1, by omega, by go_num, by rw [HL.out, if_pos t1], by rw [HH.out, if_neg t2]⟩
                case measure => simp [intOf]; omega
            · by_cases t2 : p H0 < p k
              · go_wp2_with fail
                go_round
                case rel => exact ⟨k + 1, by omega, by go_num, by rw [HL.out, if_neg t1], by rw [HH.out, if_pos t2]⟩
                case measure => simp [intOf]; omega
              · go_wp2_with fail
                go_round
                case rel => exact ⟨k + 1, by omega, by go_num, by rw [HL.out, if_neg t1], by rw [HH.out, if_neg t2]⟩
                case measure => simp [intOf]; omega
          · obtain rfl : k = 6 := by omega
            clear hlt hk
            have hll := lo_lt p 6 (Nat.le_refl 6)
            have hhl := hi_lt p 6 (Nat.le_refl 6)
            have hcl := hp.cell hll
            have hch := hp.cell hhl
            have hfl := hp.free (lo p 6)
            have hfh := hp.free (hi p 6)
            have hpl := hpb _ hll
            have hph := hpb _ hhl
            have hll1 : ((lo p 6 : Nat) : Int) < 6 := by omega
            have hhl1 : ((hi p 6 : Nat) : Int) < 6 := by omega
            have hnv : netV p = min (-(p (lo p 6))) (p (hi p 6)) := rfl
            have HN := Lib.hid hnv
            clear hnv hc0 hc1 hc2 hc3 hc4 hc5
            generalize hL0 : lo p 6 = L0 at *
            generalize hH0 : hi p 6 = H0 at *
            have HL := Lib.hid hL0
            have HH := Lib.hid hH0
            clear hL0 hH0
            go_wp2_with fail
            go_cut [12] (fun s12 wc => s12 = .int .i64 (netV p) ∧ wc = wr.drew)
            case first =>
              go_region
              all_goals go_wp2_with fail
              all_goals go_meet
              all_goals exact ⟨by rw [HN.out]; congr 1; omega, rfl⟩
            case rest =>
              obtain ⟨rfl, rfl⟩ := hcut
              have hvb := netV_bd hpb
              have hstop : netV p ≤ 0 → done = net u 6 P := fun h => by rw [net_stop h, List.append_nil] at hnet; exact hnet
              have hgo : 0 < netV p → ∃ f, gk = f + 1 ∧ (done ++ [{ d := lo p 6, c := hi p 6, u := u, a := netV p }]) ++ net u f (netP p) = net u 6 P ∧ cnt (netP p) 6 ≤ f := by
                intro h
                have h1 := cnt_netP h
                match gk, hcnt, hnet with
                | 0, hcnt, _ => omega
                | f + 1, hcnt, hnet =>
                  refine ⟨f, rfl, ?_, by omega⟩
                  rw [net_step h] at hnet
                  rw [← hnet]
                  simp
              have hnb := fun h : 0 < netV p => netP_bd h hpb
              have hne := fun h : 0 < netV p => (netV_pos h).2.2
              have hP2 : netP p = upd (upd p (lo p 6) (p (lo p 6) + netV p)) (hi p 6) (upd p (lo p 6) (p (lo p 6) + netV p) (hi p 6) - netV p) := rfl
              rw [HL.out, HH.out] at hgo hne hP2
              have HP := Lib.hid hP2
              have HG := Lib.hid hgo
              have HS := Lib.hid hstop
              have HB := Lib.hid hnb
              have HNE := Lib.hid hne
              clear hP2 hgo hstop hnb hne hcnt hnet
              generalize netV p = V at *
              by_cases hV : V ≤ 0
              · have hd := HS.out hV
                go_wp2_with fail
                go_ret
                exact ⟨_, rfl, by rw [← hd]; exact hown, hbn.drew⟩
              · have hV0 : 0 < V := by omega
                obtain ⟨f, hgk, hn2, hc2⟩ := HG.out hV0
                have hLH := HNE.out hV0
                have hnb2 := HB.out hV0
                have hog := own_ne hown hp (by decide)
                have lo1 : ∀ g, (Value.slice A1 done.length c1).ownBlock = some g → w.heap.size ≤ g := fun g e => (hown.lt g e).1
                have hwn := hbn.size
                have Hgk := Lib.hid hgk
                clear hgk
                go_wp2_with (at_builtin
                             refine wpList_append_rd (by rfl) (.tmp 52) (.tmp 58) 30 (by rfl) w.heap.size 37 i0 _ 4 32 Try.underlying30 hi0 hz0 hz1 hz2 rfl (by omega) (.slice A1 done.length c1) done.length (flat Dt.cells done) (by rfl) (hown.alloc _) (wr.heap.size + 1) (some ⟨wr.heap.size, 0, none⟩) 1 1 [.int .i64 L0, .int .i64 H0, .int .i64 u, .int .i64 V] (by rfl) (Rd.built (heap_alloc_new wr _) (by omega) rfl) (by intro u hu; simp at hu; rcases hu with rfl | rfl | rfl | rfl <;> rfl) (by unfold maxLen; omega) (by omega) (by simp; omega) ?_
                             intro v2 w2 hown2 hg2 hat2
                             have hp2 := (hp.drew.alloc _).grown hg2 (fun e => hog e.symm)
                             have k1 := hp2.cell hll
                             have k2 := hp2.free L0
                             have k3 : ∀ x, (w2.setCell ⟨w.heap.size, L0, none⟩ x).cell? ⟨w.heap.size, H0, none⟩ = some (.int .i64 (p H0)) := fun x => (World.cell?_setCell_other w2 _ _ x (fun e => hLH (by injection e))).trans (hp2.cell hhl)
                             have k4 := hp2.free H0)
                have hpr := (hp2.set hll (p L0 + V)).set hhl (p H0 - V)
                have hue : upd p L0 (p L0 + V) H0 = p H0 := by unfold upd; rw [if_neg (fun e => hLH e.symm)]
                have hq : upd (upd p L0 (p L0 + V)) H0 (p H0 - V) = netP p := by rw [HP.out, hue]
                rw [hq] at hpr
                have hb2 : Below w.heap.size w w2 := (hbn.drew.alloc (by simp; omega) _).grown hg2 (by simp; omega) lo1
                have hog2 := own_ne hown2 hp2 (by decide)
                have hown3 := ownsRow_setCell_ne (p := ⟨w.heap.size, H0, none⟩) (ownsRow_setCell_ne (p := ⟨w.heap.size, L0, none⟩) hown2 hog2 (.int .i64 (p L0 + V))) hog2 (.int .i64 (p H0 - V))
                have hlen2 : (net u 6 P).length ≤ 6 := net_length u 6 P
                have hlen3 : done.length + 1 ≤ 6 := by
                  rw [← hn2] at hlen2
                  simp at hlen2
                  omega
                have e1 : (done ++ [Dt.mk (L0 : Int) (H0 : Int) u V]).length = done.length + 1 := by simp
                have e2 : flat Dt.cells (done ++ [Dt.mk (L0 : Int) (H0 : Int) u V]) = flat Dt.cells done ++ [.int .i64 L0, .int .i64 H0, .int .i64 u, .int .i64 V] := by rw [flat_append, flat_one]; rfl
                go_roundg f
                case measure => have := Hgk.out; omega
                case rel => exact ⟨_, netP p, by rw [e1, e2]; exact hown3, hpr, hn2, hc2, by have := Hgk.out; omega, by rw [e1]; exact hlen3, hnb2, (hb2.setCell (Nat.le_refl _) _).setCell (Nat.le_refl _) _⟩

/-- The program's Netting, of a ledger. -/
theorem netting_led (lb mb : Nat) (m : List (Int × (Nat → Nat → Int))) (u B : Int) (w : World) (h : LedA w lb mb m) (hB : MBd B (mat m u)) (hB2 : B ≤ 1000000000000000) (hB0 : 0 ≤ B) :
    Calls Try.prog 22 #[.pointer (some ⟨lb, 0, none⟩), .int .i64 u] w fun e w' => ∃ v, e = .returned v ∧ w'.ownsRow w.heap.size 37 4 v (net u 6 (fun s => colSum (mat m u) s 6)).length (flat Dt.cells (net u 6 (fun s => colSum (mat m u) s 6))) ∧ Below w.heap.size w w' :=
  netting_gen (some ⟨lb, 0, none⟩) u (fun s => colSum (mat m u) s 6) (B * 6) w (fun W => LedA W lb mb m ∧ w.heap.size ≤ W.heap.size) ⟨h, Nat.le_refl _⟩
    (fun W W' hW hb => ⟨hW.1.belowLe hb h.lt h.map.lt, Nat.le_trans hW.2 hb.size⟩) (fun s W hs hW => position_led lb mb s m u B W hs hW.1 hB hB2 hB0) (fun s _ => colSum_bd hB s 6) (by omega)

/-- .. of a nil ledger. -/
theorem netting_nil (u : Int) (w : World) :
    Calls Try.prog 22 #[.pointer none, .int .i64 u] w fun e w' => ∃ v, e = .returned v ∧ w'.ownsRow w.heap.size 37 4 v 0 [] ∧ Below w.heap.size w w' := by
  have h := netting_gen none u (fun _ => 0) 0 w (fun _ => True) trivial (fun _ _ _ _ => trivial) (fun s W _ _ => (position_nil s u W).mono fun e w' ⟨he, hw⟩ => ⟨he, hw ▸ Below.refl _ _⟩) (fun _ _ => by omega) (by omega)
  have e : net u 6 (fun _ => 0) = [] := net_stop (by simp [netV]) 6
  rw [e] at h
  exact h
end Go.Proofs.Ytldkblkcbffelaa
