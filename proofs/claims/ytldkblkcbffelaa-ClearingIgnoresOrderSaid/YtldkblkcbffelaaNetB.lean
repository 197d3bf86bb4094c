/- The reference's Netting. -/
import Derived.Test.YtldkblkcbffelaaNetA
namespace Go.Proofs.Ytldkblkcbffelaa
open Go.RowKit

set_option maxHeartbeats 4000000 in
theorem rnetting_any (rb : Nat) (L : List Dt) (u : Int) (w : World) (h : RefA w rb L) :
    Calls Try.prog 32 #[.pointer (some ⟨rb, 0, none⟩), .int .i64 u] w fun e w' => ∃ v, e = .returned v ∧ w'.ownsRow w.heap.size 37 4 v (net u 6 (fun s => rpos L s u)).length (flat Dt.cells (net u 6 (fun s => rpos L s u))) ∧ Below w.heap.size w w' := by
  obtain ⟨i0, hi0, hz0, hz1, hz2⟩ := info_parts info_debt
  have hPb : ∀ s : Nat, s < 6 → -1000000000000000 ≤ rpos L s u ∧ rpos L s u ≤ 1000000000000000 := by
    intro s _
    have := rpos_bd s u L h.valid 0
    have hs := h.short
    unfold rpos
    omega
  have hpos : ∀ (s : Nat) (W : World), s < 6 → RefA W rb L → Calls Try.prog 30 #[.pointer (some ⟨rb, 0, none⟩), .int .i64 s, .int .i64 u] W fun e w' => e = .returned (.int .i64 (rpos L s u)) ∧ Below W.heap.size W w' :=
    fun s W _ hW => rposition_any rb L s u W hW
  have hrlt := h.lt
  generalize hPe : (fun s : Nat => rpos L s u) = P
  have hPs : ∀ s : Nat, rpos L s u = P s := fun s => by rw [← hPe]
  simp only [hPs] at hPb hpos
  clear hPs hPe
  go_enter Try.func32, Try.ntmps32
  go_wp2_with fail
  go_loopw [6] (fun i wr => ∃ k : Nat, k ≤ 6 ∧ i = .int .i64 k ∧ Pos wr w.heap.size (fun s => if s < k then P s else 0) ∧ Below w.heap.size w wr ∧ RefA wr rb L) (fun i _ => 6 - (intOf i).toNat)
  case atStart => exact ⟨0, by omega, rfl, heap_alloc_new w _, (Below.refl _ _).alloc (Nat.le_refl _) _, h.below ((Below.refl _ _).alloc (Nat.le_refl _) _)⟩
  case round =>
    obtain ⟨k, hk, rfl, hp, hb, hIr⟩ := hrel
    have hwsz := hb.size
    have hglt := hp.lt
    by_cases hlt : k < 6
    · go_wp2_with fail
      refine (hpos k _ hlt hIr).mono ?_
      rintro e w1 ⟨rfl, hb1⟩
      have hp1 : Pos w1 w.heap.size (fun s => if s < k then P s else 0) := (hb1.block _ hglt).trans hp
      have hc := hp1.cell hlt
      have hf := hp1.free k
      have hb2 : Below w.heap.size w w1 := hb.trans (hb1.mono hwsz)
      have hset := hp1.set hlt (P k)
      have hset2 : Pos (w1.setCell ⟨w.heap.size, k, none⟩ (.int .i64 (P k))) w.heap.size (fun s => if s < k + 1 then P s else 0) := by
        unfold Pos at hset ⊢
        rw [posArr_congr (q := upd (fun s => if s < k then P s else 0) k (P k)) ?_]
        · exact hset
        · intro i _
          unfold upd
          by_cases hik : i = k
          · subst hik
            simp
          · by_cases hl : i < k
            · simp [hl, hik, show i < k + 1 by omega]
            · simp [hl, hik, show ¬ i < k + 1 by omega]
      have HS := Lib.hid hset2
      clear hp1 hset hset2 hp
      go_wp2_with fail
      go_roundw
      case rel => exact ⟨k + 1, by omega, by go_num, HS.out, hb2.setCell (Nat.le_refl _) _, h.below (hb2.setCell (p := ⟨w.heap.size, k, none⟩) (Nat.le_refl w.heap.size) _)⟩
      case measure => simp [intOf]; omega
    · have hp6 : Pos wr w.heap.size P := by
        unfold Pos at hp ⊢
        rw [posArr_congr (p := P) (q := fun s => if s < k then P s else 0) (fun i hi => by simp [show i < k by omega])]
        exact hp
      clear hp
      go_wp2_with fail
      go_loopw [7, 8] (fun v i wn => ∃ (k : Nat) (done : List Dt) (p : Nat → Int), k ≤ 6 ∧ i = .int .i64 k ∧ wn.ownsRow w.heap.size 37 4 v done.length (flat Dt.cells done) ∧ Pos wn w.heap.size p ∧ done ++ net u (6 - k) p = net u 6 P ∧ done.length ≤ 6 ∧
        (∀ i, i < 6 → -1000000000000000 ≤ p i ∧ p i ≤ 1000000000000000) ∧ Below w.heap.size w wn) (fun _ i _ => 6 - (intOf i).toNat)
      case atStart => exact ⟨0, [], P, by omega, rfl, World.ownsRow_nil _ _ _ _, hp6, rfl, by simp, hPb, hb⟩
      case round =>
        obtain ⟨kn, done, p, hkn, rfl, hown, hp, hnet, hdl, hpb, hbn⟩ := hrel
        clear hp6 hb hIr hPb hpos
        obtain ⟨A1, c1, rfl, hnc1, hcm1, hA1⟩ := own_form hown
        by_cases hkl : kn < 6
        · have hkb : decide ((kn : Int) < 6) = true := by simp; omega
          go_wp2_with fail
          go_loopg [9, 10, 11] 5 (fun f l h i wn => ∃ k : Nat, f = 6 - k ∧ 1 ≤ k ∧ k ≤ 6 ∧ i = .int .i64 k ∧ l = .int .i64 (lo p k) ∧ h = .int .i64 (hi p k) ∧ ∃ q, wn = wr.drewN q)
          case atStart => exact ⟨1, rfl, by omega, by omega, rfl, by simp [lo], by simp [hi], 0, rfl⟩
          case round =>
            obtain ⟨k, rfl, hk1, hk, rfl, rfl, rfl, q, rfl⟩ := hrel
            by_cases hlt : k < 6
            · have hll := lo_lt p k hk
              have hhl := hi_lt p k hk
              have hck := hp.cell hlt
              have hcl := hp.cell hll
              have hch := hp.cell hhl
              have hk2 : (k : Int) < 6 := by omega
              have hll1 : ((lo p k : Nat) : Int) < 6 := by omega
              have hhl1 : ((hi p k : Nat) : Int) < 6 := by omega
              have hlo : lo p (k + 1) = if p k < p (lo p k) then k else lo p k := rfl
              have hhi : hi p (k + 1) = if p (hi p k) < p k then k else hi p k := rfl
              have HL := Lib.hid hlo
              have HH := Lib.hid hhi
              clear hlo hhi
              generalize lo p k = L0 at *
              generalize hi p k = H0 at *
              by_cases t1 : p k < p L0
              · by_cases t2 : p H0 < p k
                · go_wp2_with fail
                  go_quiet (fail)
                  go_wp2_with fail
                  go_quiet (fail)
                  go_wp2_with fail
                  go_roundg (6 - (k + 1))
                  case rel => exact ⟨k + 1, rfl, by omega, by omega, by go_num, by rw [HL.out, if_pos (by omega)], by rw [HH.out, if_pos (by omega)], _, rfl⟩
                  case measure => omega
                · go_wp2_with fail
                  go_quiet (fail)
                  go_wp2_with fail
                  go_quiet (fail)
                  go_wp2_with fail
                  go_roundg (6 - (k + 1))
                  case rel => exact ⟨k + 1, rfl, by omega, by omega, by go_num, by rw [HL.out, if_pos (by omega)], by rw [HH.out, if_neg (by omega)], _, rfl⟩
                  case measure => omega
              · by_cases t2 : p H0 < p k
                · go_wp2_with fail
                  go_quiet (fail)
                  go_wp2_with fail
                  go_quiet (fail)
                  go_wp2_with fail
                  go_roundg (6 - (k + 1))
                  case rel => exact ⟨k + 1, rfl, by omega, by omega, by go_num, by rw [HL.out, if_neg (by omega)], by rw [HH.out, if_pos (by omega)], _, rfl⟩
                  case measure => omega
                · go_wp2_with fail
                  go_quiet (fail)
                  go_wp2_with fail
                  go_quiet (fail)
                  go_wp2_with fail
                  go_roundg (6 - (k + 1))
                  case rel => exact ⟨k + 1, rfl, by omega, by omega, by go_num, by rw [HL.out, if_neg (by omega)], by rw [HH.out, if_neg (by omega)], _, rfl⟩
                  case measure => omega
            · have hk6 : k = 6 := by omega
              have H6 := Lib.hid hk6
              have hll := lo_lt p k hk
              have hhl := hi_lt p k hk
              have hcl := hp.cell hll
              have hch := hp.cell hhl
              have hfl := hp.free (lo p k)
              have hfh := hp.free (hi p k)
              have hpl := hpb _ hll
              have hph := hpb _ hhl
              have hll1 : ((lo p k : Nat) : Int) < 6 := by omega
              have hhl1 : ((hi p k : Nat) : Int) < 6 := by omega
              have hnv : netV p = min (-(p (lo p k))) (p (hi p k)) := by rw [hk6]; rfl
              have HN := Lib.hid hnv
              have hL6 : lo p 6 = lo p k := by rw [hk6]
              have hH6 : hi p 6 = hi p k := by rw [hk6]
              clear hnv hk6
              generalize hL0 : lo p k = L0 at *
              generalize hH0 : hi p k = H0 at *
              have HL := Lib.hid hL6
              have HH := Lib.hid hH6
              clear hL0 hH0 hL6 hH6
              go_wp2_with fail
              go_cut [12] (fun s12 wc => s12 = .int .i64 (netV p) ∧ ∃ q, wc = wr.drewN q)
              case first =>
                go_region
                all_goals go_wp2_with fail
                all_goals go_meet
                all_goals exact ⟨by rw [HN.out]; congr 1; omega, q + 1, rfl⟩
              case rest =>
                obtain ⟨rfl, q2, hwc⟩ := hcut
                have hownW : wc.ownsRow w.heap.size 37 4 (.slice A1 done.length c1) done.length (flat Dt.cells done) := by rw [hwc]; exact hown
                have hpW : Pos wc w.heap.size p := by rw [hwc]; exact hp
                have hbW : Below w.heap.size w wc := by rw [hwc]; exact below_drewN hbn _
                clear hwc hown hp hbn hcl hch hfl hfh
                have hk6 := H6.out
                have hvb := netV_bd hpb
                have hsub : 6 - kn = (6 - (kn + 1)) + 1 := by omega
                have hstop : netV p ≤ 0 → done = net u 6 P := fun h => by rw [net_stop h, List.append_nil] at hnet; exact hnet
                have hgo : 0 < netV p → (done ++ [{ d := lo p 6, c := hi p 6, u := u, a := netV p }]) ++ net u (6 - (kn + 1)) (netP p) = net u 6 P := by
                  intro h
                  rw [hsub, net_step h] at hnet
                  rw [← hnet]
                  simp
                have hnb := fun h : 0 < netV p => netP_bd h hpb
                have hne := fun h : 0 < netV p => (netV_pos h).2.2
                have hP2 : netP p = upd (upd p (lo p 6) (p (lo p 6) + netV p)) (hi p 6) (upd p (lo p 6) (p (lo p 6) + netV p) (hi p 6) - netV p) := rfl
                rw [HL.out, HH.out] at hgo hne hP2
                have HP := Lib.hid hP2
                have HG := Lib.hid hgo
                have HS := Lib.hid hstop
                have HB := Lib.hid hnb
                have HNE := Lib.hid hne
                clear hP2 hgo hstop hnb hne hnet hsub hk6
                generalize netV p = V at *
                by_cases hV : V ≤ 0
                · have hd := HS.out hV
                  go_wp2_with fail
                  go_ret
                  exact ⟨_, rfl, by rw [← hd]; exact hownW, hbW⟩
                · have hV0 : 0 < V := by omega
                  have hn2 := HG.out hV0
                  have hLH := HNE.out hV0
                  have hnb2 := HB.out hV0
                  have hog := own_ne hownW hpW (by decide)
                  have lo1 : ∀ g, (Value.slice A1 done.length c1).ownBlock = some g → w.heap.size ≤ g := fun g e => (hownW.lt g e).1
                  have hwn := hbW.size
                  have hLH2 : H0 ≠ L0 := fun e => hLH e.symm
                  go_wp2_with (at_builtin
                               refine wpList_append_rd (by rfl) (.tmp 57) (.tmp 63) 30 (by rfl) w.heap.size 37 i0 _ 4 32 Try.underlying30 hi0 hz0 hz1 hz2 rfl (by omega) (.slice A1 done.length c1) done.length (flat Dt.cells done) (by rfl) (hownW.alloc _) (wc.heap.size + 1) (some ⟨wc.heap.size, 0, none⟩) 1 1 [.int .i64 L0, .int .i64 H0, .int .i64 u, .int .i64 V] (by rfl) (Rd.built (heap_alloc_new wc _) (by omega) rfl) (by intro u hu; simp at hu; rcases hu with rfl | rfl | rfl | rfl <;> rfl) (by unfold maxLen; omega) (by omega) (by simp; omega) ?_
                               intro v2 w2 hown2 hg2 hat2
                               have hp2 := (hpW.alloc _).grown hg2 (fun e => hog e.symm)
                               have k1 := hp2.cell hll
                               have k1' := hp2.cell hhl
                               have k2 := hp2.free L0
                               have k3 : ∀ x, (w2.setCell ⟨w.heap.size, L0, none⟩ x).cell? ⟨w.heap.size, H0, none⟩ = some (.int .i64 (p H0)) := fun x => (World.cell?_setCell_other w2 _ _ x (fun e => hLH (by injection e))).trans (hp2.cell hhl)
                               have k4 := hp2.free H0)
                  have hpr := (hp2.set hll (p L0 + V)).set hhl (p H0 - V)
                  have hue : upd p L0 (p L0 + V) H0 = p H0 := by unfold upd; rw [if_neg (fun e => hLH e.symm)]
                  have hq : upd (upd p L0 (p L0 + V)) H0 (p H0 - V) = netP p := by rw [HP.out, hue]
                  rw [hq] at hpr
                  have hb2 : Below w.heap.size w w2 := (hbW.alloc hbW.size _).grown hg2 (by simp; omega) lo1
                  have hog2 := own_ne hown2 hp2 (by decide)
                  have hown3 := ownsRow_setCell_ne (p := ⟨w.heap.size, H0, none⟩) (ownsRow_setCell_ne (p := ⟨w.heap.size, L0, none⟩) hown2 hog2 (.int .i64 (p L0 + V))) hog2 (.int .i64 (p H0 - V))
                  have hlen2 : (net u 6 P).length ≤ 6 := net_length u 6 P
                  have hlen3 : done.length + 1 ≤ 6 := by
                    rw [← hn2] at hlen2
                    simp at hlen2
                    omega
                  have e1 : (done ++ [Dt.mk (L0 : Int) (H0 : Int) u V]).length = done.length + 1 := by simp
                  have e2 : flat Dt.cells (done ++ [Dt.mk (L0 : Int) (H0 : Int) u V]) = flat Dt.cells done ++ [.int .i64 L0, .int .i64 H0, .int .i64 u, .int .i64 V] := by rw [flat_append, flat_one]; rfl
                  have E1 := Lib.hid e1
                  have E2 := Lib.hid e2
                  have Hpr := Lib.hid hpr
                  have Hown3 := Lib.hid hown3
                  clear e1 e2 hue hq hpr hown3
                  have hB3 : Below w.heap.size w ((w2.setCell ⟨w.heap.size, L0, none⟩ (.int .i64 (p L0 + V))).setCell ⟨w.heap.size, H0, none⟩ (.int .i64 (p H0 - V))).drew := ((hb2.setCell (Nat.le_refl _) _).setCell (Nat.le_refl _) _).drew
                  go_region
                  go_wp2_with fail
                  refine ⟨⟨kn + 1, _, netP p, by omega, by go_num, ?_, Hpr.out.drew, hn2, by rw [E1.out]; exact hlen3, hnb2, hB3⟩, by simp [intOf]; omega⟩
                  rw [E1.out, E2.out]
                  exact Hown3.out
        · have hk6 : kn = 6 := by omega
          have hd : done = net u 6 P := by rw [hk6] at hnet; simpa [net] using hnet
          clear hk6
          go_wp2_with fail
          go_ret
          exact ⟨_, rfl, by rw [← hd]; exact hown, hbn⟩
end Go.Proofs.Ytldkblkcbffelaa
