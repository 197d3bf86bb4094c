/- The reader's expr at the level 0. The reader's expr at the levels of binary operations. The reader's call. The reader's factor. The reader's expr whole: by induction over the tokens left. -/
import Derived.Test.YtghmmcdeejhcjaaGreatQc
namespace Go.Proofs.YtghmmcdeejhcjaaGreat
open Go.RowKit

set_option maxRecDepth 100000 in
set_option maxHeartbeats 8000000 in
theorem expr0_any {f : Nat} (hE : EC f) {R : Nat} {K : RC} {a : Nat} {w : World} (h : Rdr w R K a false) (hf : 10 * (K.L.length - a) + 9 ≤ f + 1) : Calls Tryz.prog 60 #[.pointer (some ⟨R, 0, none⟩), .int .i64 0] w (RetEx R K a false w) := by
  have hlt := h.lt
  have hle := h.le
  obtain ⟨V, hV, r0, hz, hR, hk⟩ := ex_start h
  have c3 : V.cell? ⟨R, 3, none⟩ = some (.bool false) := by rw [cell_of_row _ _ _ _ _ _ hR.row]; rfl
  go_enter Tryz.func60, Tryz.ntmps60
  go_upto_region 1 with (fail)
  rw [← hV]
  clear hV
  go_wp2_with fail
  refine (take_any hR _).mono ?_
  rintro e w1 ⟨v, rfl, hv, hk1⟩
  have hz1 := hk1.size
  have r1 := (hk1.block w.heap.size (by omega) (fun e => by injection e with e; omega)).trans r0
  have hkk1 := hk.trans hk1
  clear r0 c3 hk1
  rcases hv with ⟨rfl, -, hR1⟩ | ⟨rfl, hR1⟩
  · have hle1 := hR1.le
    go_wp2_with fail
    refine (hE R K (a + 1) false _ 0 hR1 (by omega) (by omega) (by omega)).mono ?_
    rintro e w2 ⟨⟨o1, n1, d1, m1, s1, A1, c1, l1⟩, rfl, hx1, a1, b1, ha1, hb1, hR1, hk1⟩
    have tr1_w2 : ExOk (fun g => w.heap.size + 1 ≤ g) w2 (.mk o1 n1 d1 m1 s1 A1 c1 l1) := hx1.imp fun g hg _ => by omega
    clear hx1
    have r_w2 := (hk1.block w.heap.size (by omega) (fun e => by injection e with e; omega)).trans r1
    have kk_w2 := hkk1.trans hk1
    have hz_w2 := hk1.size
    clear r1 hkk1 hk1
    have hle_1 := hR1.le
    dsimp only [Ex.agg]
    go_upto_region 8 with (fail)
    obtain ⟨V2, hV2⟩ : ∃ V, V = w2.alloc (.cells #[.int .i64 o1, .int .i64 n1, .int .i64 d1, .int .i64 m1, .string s1, .slice A1 l1.length c1] 120) := ⟨_, rfl⟩
    have hk_V2 : Kp R w2 V2 := by rw [hV2]; exact Kp.alloc _ _ _
    have row1_n : V2.heap[w2.heap.size]? = some (.cells (Ex.cells (.mk o1 n1 d1 m1 s1 A1 c1 l1)).toArray 120 (0, 0)) := by rw [hV2]; exact heap_alloc_new _ _
    have hR_V2 : Rdr V2 R K a1 b1 := by rw [hV2]; exact hR1.alloc _
    have hzz_V2 : w2.heap.size < V2.heap.size := by rw [hV2]; simp
    rw [← hV2]
    clear hV2
    have r_V2 := (hk_V2.block w.heap.size (by omega) (fun e => by injection e with e; omega)).trans r_w2
    have kk_V2 := kk_w2.trans hk_V2
    have tr1_V2 := tr1_w2.kp hk_V2 (by omega)
    have hz_V2 := hk_V2.size
    clear r_w2 kk_w2 hk_V2 tr1_w2
    go_wp2_with fail
    refine (want_any hR_V2 _).mono ?_
    rintro e w3 ⟨rfl, aw1, bw1, haw1, hbw1, hRw1, hkw1⟩
    have r_w3 := (hkw1.block w.heap.size (by omega) (fun e => by injection e with e; omega)).trans r_V2
    have kk_w3 := kk_V2.trans hkw1
    have row1_w3 := (hkw1.block w2.heap.size (by omega) (fun e => by injection e with e; omega)).trans row1_n
    have tr1_w3 := tr1_V2.kp hkw1 (by omega)
    have hz_w3 := hkw1.size
    clear r_V2 kk_V2 hkw1 row1_n tr1_V2
    have hlew_1 := hRw1.le
    go_wp2_with fail
    refine (hE R K aw1 bw1 _ 0 hRw1 (by omega) (by omega) (by omega)).mono ?_
    rintro e w4 ⟨⟨o2, n2, d2, m2, s2, A2, c2, l2⟩, rfl, hx2, a2, b2, ha2, hb2, hR2, hk2⟩
    have tr2_w4 : ExOk (fun g => w.heap.size + 1 ≤ g) w4 (.mk o2 n2 d2 m2 s2 A2 c2 l2) := hx2.imp fun g hg _ => by omega
    clear hx2
    have r_w4 := (hk2.block w.heap.size (by omega) (fun e => by injection e with e; omega)).trans r_w3
    have kk_w4 := kk_w3.trans hk2
    have row1_w4 := (hk2.block w2.heap.size (by omega) (fun e => by injection e with e; omega)).trans row1_w3
    have tr1_w4 := tr1_w3.kp hk2 (by omega)
    have hz_w4 := hk2.size
    clear r_w3 kk_w3 hk2 row1_w3 tr1_w3
    have hle_2 := hR2.le
    dsimp only [Ex.agg]
    go_upto_region 10 with (fail)
    obtain ⟨V4, hV4⟩ : ∃ V, V = w4.alloc (.cells #[.int .i64 o2, .int .i64 n2, .int .i64 d2, .int .i64 m2, .string s2, .slice A2 l2.length c2] 120) := ⟨_, rfl⟩
    have hk_V4 : Kp R w4 V4 := by rw [hV4]; exact Kp.alloc _ _ _
    have row2_n : V4.heap[w4.heap.size]? = some (.cells (Ex.cells (.mk o2 n2 d2 m2 s2 A2 c2 l2)).toArray 120 (0, 0)) := by rw [hV4]; exact heap_alloc_new _ _
    have hR_V4 : Rdr V4 R K a2 b2 := by rw [hV4]; exact hR2.alloc _
    have hzz_V4 : w4.heap.size < V4.heap.size := by rw [hV4]; simp
    rw [← hV4]
    clear hV4
    have r_V4 := (hk_V4.block w.heap.size (by omega) (fun e => by injection e with e; omega)).trans r_w4
    have kk_V4 := kk_w4.trans hk_V4
    have row1_V4 := (hk_V4.block w2.heap.size (by omega) (fun e => by injection e with e; omega)).trans row1_w4
    have tr1_V4 := tr1_w4.kp hk_V4 (by omega)
    have tr2_V4 := tr2_w4.kp hk_V4 (by omega)
    have hz_V4 := hk_V4.size
    clear r_w4 kk_w4 hk_V4 row1_w4 tr1_w4 tr2_w4
    go_wp2_with fail
    refine (want_any hR_V4 _).mono ?_
    rintro e w5 ⟨rfl, aw2, bw2, haw2, hbw2, hRw2, hkw2⟩
    have r_w5 := (hkw2.block w.heap.size (by omega) (fun e => by injection e with e; omega)).trans r_V4
    have kk_w5 := kk_V4.trans hkw2
    have row1_w5 := (hkw2.block w2.heap.size (by omega) (fun e => by injection e with e; omega)).trans row1_V4
    have row2_w5 := (hkw2.block w4.heap.size (by omega) (fun e => by injection e with e; omega)).trans row2_n
    have tr1_w5 := tr1_V4.kp hkw2 (by omega)
    have tr2_w5 := tr2_V4.kp hkw2 (by omega)
    have hz_w5 := hkw2.size
    clear r_V4 kk_V4 hkw2 row1_V4 row2_n tr1_V4 tr2_V4
    have hlew_2 := hRw2.le
    go_wp2_with fail
    refine (hE R K aw2 bw2 _ 0 hRw2 (by omega) (by omega) (by omega)).mono ?_
    rintro e w6 ⟨⟨o3, n3, d3, m3, s3, A3, c3, l3⟩, rfl, hx3, a3, b3, ha3, hb3, hR3, hk3⟩
    have tr3_w6 : ExOk (fun g => w.heap.size + 1 ≤ g) w6 (.mk o3 n3 d3 m3 s3 A3 c3 l3) := hx3.imp fun g hg _ => by omega
    clear hx3
    have r_w6 := (hk3.block w.heap.size (by omega) (fun e => by injection e with e; omega)).trans r_w5
    have kk_w6 := kk_w5.trans hk3
    have row1_w6 := (hk3.block w2.heap.size (by omega) (fun e => by injection e with e; omega)).trans row1_w5
    have row2_w6 := (hk3.block w4.heap.size (by omega) (fun e => by injection e with e; omega)).trans row2_w5
    have tr1_w6 := tr1_w5.kp hk3 (by omega)
    have tr2_w6 := tr2_w5.kp hk3 (by omega)
    have hz_w6 := hk3.size
    clear r_w5 kk_w5 hk3 row1_w5 row2_w5 tr1_w5 tr2_w5
    have hle_3 := hR3.le
    dsimp only [Ex.agg]
    go_upto_region 12 with (fail)
    obtain ⟨V6, hV6⟩ : ∃ V, V = w6.alloc (.cells #[.int .i64 o3, .int .i64 n3, .int .i64 d3, .int .i64 m3, .string s3, .slice A3 l3.length c3] 120) := ⟨_, rfl⟩
    have hk_V6 : Kp R w6 V6 := by rw [hV6]; exact Kp.alloc _ _ _
    have row3_n : V6.heap[w6.heap.size]? = some (.cells (Ex.cells (.mk o3 n3 d3 m3 s3 A3 c3 l3)).toArray 120 (0, 0)) := by rw [hV6]; exact heap_alloc_new _ _
    have hR_V6 : Rdr V6 R K a3 b3 := by rw [hV6]; exact hR3.alloc _
    have hzz_V6 : w6.heap.size < V6.heap.size := by rw [hV6]; simp
    rw [← hV6]
    clear hV6
    have r_V6 := (hk_V6.block w.heap.size (by omega) (fun e => by injection e with e; omega)).trans r_w6
    have kk_V6 := kk_w6.trans hk_V6
    have row1_V6 := (hk_V6.block w2.heap.size (by omega) (fun e => by injection e with e; omega)).trans row1_w6
    have row2_V6 := (hk_V6.block w4.heap.size (by omega) (fun e => by injection e with e; omega)).trans row2_w6
    have tr1_V6 := tr1_w6.kp hk_V6 (by omega)
    have tr2_V6 := tr2_w6.kp hk_V6 (by omega)
    have tr3_V6 := tr3_w6.kp hk_V6 (by omega)
    have hz_V6 := hk_V6.size
    clear r_w6 kk_w6 hk_V6 row1_w6 row2_w6 tr1_w6 tr2_w6 tr3_w6
    obtain ⟨p10, p11, p12, p13, p14, p15⟩ := ex_row row1_V6
    obtain ⟨p20, p21, p22, p23, p24, p25⟩ := ex_row row2_V6
    obtain ⟨p30, p31, p32, p33, p34, p35⟩ := ex_row row3_n
    have hnew := ex_box (P := fun g => w.heap.size + 1 ≤ g) (W := V6) (xs := [(.mk o1 n1 d1 m1 s1 A1 c1 l1), (.mk o2 n2 d2 m2 s2 A2 c2 l2), (.mk o3 n3 d3 m3 s3 A3 c3 l3)]) (o := 21) (by omega) (by omega) (fun x hx => by
      rcases List.mem_cons.1 hx with rfl | hx
      · exact tr1_V6
      · rcases List.mem_cons.1 hx with rfl | hx
        · exact tr2_V6
        · rw [List.mem_singleton.1 hx]; exact tr3_V6)
    have r3 := (Below.heap_alloc V6 (.cells (flat Ex.cells [(.mk o1 n1 d1 m1 s1 A1 c1 l1), (.mk o2 n2 d2 m2 s2 A2 c2 l2), (.mk o3 n3 d3 m3 s3 A3 c3 l3)]).toArray 120) w.heap.size (by omega)).trans r_V6
    go_wp2_with (refine wpList_store_row (by rfl) 120 (.tmp 4) (.tmp 37) (by rfl) w.heap.size _ _ (Ex.cells (.mk 21 0 0 0 ⟨#[]⟩ (some ⟨V6.heap.size, 0, none⟩) 3 [(.mk o1 n1 d1 m1 s1 A1 c1 l1), (.mk o2 n2 d2 m2 s2 A2 c2 l2), (.mk o3 n3 d3 m3 s3 A3 c3 l3)])) (by rfl) (by rfl) r3 (by rfl) (by kernel_rfl) (ex_one _) ?_; intro W' hw' hg' hs')
    obtain ⟨y0, y1, y2, y3, y4, y5⟩ := ex_row hw'
    exact bodyPost_ret (v := Ex.agg (.mk 21 0 0 0 ⟨#[]⟩ (some ⟨V6.heap.size, 0, none⟩) 3 [(.mk o1 n1 d1 m1 s1 A1 c1 l1), (.mk o2 n2 d2 m2 s2 A2 c2 l2), (.mk o3 n3 d3 m3 s3 A3 c3 l3)])) (by simp [results, Tryz.f60, go_sem, y0, y1, y2, y3, y4, y5, Ex.agg]) rfl
      ⟨_, rfl, (hnew.own hg' (by omega)).imp (fun g hg _ => by omega), a3, b3, by omega, (fun h => by cases h), (hR_V6.alloc _).own hg' hlt, (kk_V6.trans (Kp.alloc _ _ _)).own hg' (Nat.le_refl _)⟩
  · go_wp2_with fail
    refine (hE R K a false _ 1 hR1 (by omega) (by omega) (by omega)).mono ?_
    rintro e w2 ⟨⟨o, n, d, m, s, A, c, l⟩, rfl, hx, a2, b2, ha2, hb2, hR2, hk2⟩
    have r2 := (hk2.block w.heap.size (by omega) (fun e => by injection e with e; omega)).trans r1
    have hz2 := hk2.size
    clear r1
    dsimp only [Ex.agg]
    go_wp2_with (refine wpList_store_row (by rfl) 120 (.tmp 4) (.tmp 22) (by rfl) w.heap.size _ _ (Ex.cells (.mk o n d m s A c l)) (by rfl) (by rfl) r2 (by rfl) (by kernel_rfl) (ex_one _) ?_; intro W' hw' hg' hs')
    obtain ⟨y0, y1, y2, y3, y4, y5⟩ := ex_row hw'
    exact bodyPost_ret (v := Ex.agg (.mk o n d m s A c l)) (by simp [results, Tryz.f60, go_sem, y0, y1, y2, y3, y4, y5, Ex.agg]) rfl
      ⟨_, rfl, (hx.own hg' (by omega)).imp (fun g hg _ => by omega), a2, b2, ha2, hb2, hR2.own hg' hlt, (hkk1.trans hk2).own hg' (Nat.le_refl _)⟩

theorem set6 {W : World} {g : Nat} {a0 a1 a2 a3 a4 a5 : Value} {t : TypeId} (h : W.heap[g]? = some (.cells #[a0, a1, a2, a3, a4, a5] t (0, 0))) (u0 u1 u2 u3 u4 u5 : Value) :
    ((((((W.setCell ⟨g, 0, none⟩ u0).setCell ⟨g, 1, none⟩ u1).setCell ⟨g, 2, none⟩ u2).setCell ⟨g, 3, none⟩ u3).setCell ⟨g, 4, none⟩ u4).setCell ⟨g, 5, none⟩ u5).heap[g]? = some (.cells #[u0, u1, u2, u3, u4, u5] t (0, 0)) ∧
    W.grownBy ((((((W.setCell ⟨g, 0, none⟩ u0).setCell ⟨g, 1, none⟩ u1).setCell ⟨g, 2, none⟩ u2).setCell ⟨g, 3, none⟩ u3).setCell ⟨g, 4, none⟩ u4).setCell ⟨g, 5, none⟩ u5) (some g) := by
  have h0 := heap_setCell_same W g 0 _ _ u0 h
  have h1 := heap_setCell_same _ g 1 _ _ u1 h0
  have h2 := heap_setCell_same _ g 2 _ _ u2 h1
  have h3 := heap_setCell_same _ g 3 _ _ u3 h2
  have h4 := heap_setCell_same _ g 4 _ _ u4 h3
  have h5 := heap_setCell_same _ g 5 _ _ u5 h4
  refine ⟨h5.trans (by simp), (((((Kp.set W 0 u0).trans (Kp.set _ 1 u1)).trans (Kp.set _ 2 u2)).trans (Kp.set _ 3 u3)).trans (Kp.set _ 4 u4)).trans (Kp.set _ 5 u5)⟩
/-- What a round leaves: the operation's node in the block E. -/
def BinDone (R : Nat) (K : RC) (a' : Nat) (w : World) (E : Nat) (wx : World) : Prop := ∃ (a4 : Nat) (b4 : Bool) (x : Ex), a' + 1 ≤ a4 ∧ Rdr wx R K a4 b4 ∧ wx.heap[w.heap.size]? = some (.cells ex0.cells.toArray 120 (0, 0)) ∧ wx.heap[E]? = some (.cells x.cells.toArray 120 (0, 0)) ∧ ExOk (fun g => w.heap.size + 1 ≤ g ∧ g ≠ E) wx x ∧ Kp R w wx
theorem bin_done {R : Nat} {K : RC} {a' a4 : Nat} {b4 : Bool} {w w4 : World} {E : Nat} {o m d q o2 m2 d2 q2 r0 : Int} {s s2 : ByteArray} {A A2 : Option Addr} {c c2 : Nat} {l l2 : List Ex} (ha : a' + 1 ≤ a4) (hR : Rdr w4 R K a4 b4)
    (hr : w4.heap[w.heap.size]? = some (.cells ex0.cells.toArray 120 (0, 0))) (hE : w4.heap[E]? = some (.cells (Ex.cells (.mk o m d q s A c l)).toArray 120 (0, 0)))
    (hx : ExOk (fun g => w.heap.size + 1 ≤ g ∧ g ≠ E) w4 (.mk o m d q s A c l)) (hx2 : ExOk (fun g => w.heap.size + 1 ≤ g ∧ g ≠ E) w4 (.mk o2 m2 d2 q2 s2 A2 c2 l2)) (hk : Kp R w w4) (hRE : R < E) (hw : w.heap.size + 1 ≤ E) (hr0 : 0 ≤ r0 ∧ r0 ≤ 21) :
    BinDone R K a' w E (((((((w4.setCell ⟨E, 0, none⟩ (.int .i64 r0)).setCell ⟨E, 1, none⟩ (.int .i64 0)).setCell ⟨E, 2, none⟩ (.int .i64 0)).setCell ⟨E, 3, none⟩ (.int .i64 0)).setCell ⟨E, 4, none⟩ (.string ⟨#[]⟩)).setCell ⟨E, 5, none⟩ (.slice (some ⟨w4.heap.size, 0, none⟩) 2 2)).alloc
      (.cells #[.int .i64 o, .int .i64 m, .int .i64 d, .int .i64 q, .string s, .slice A l.length c, .int .i64 o2, .int .i64 m2, .int .i64 d2, .int .i64 q2, .string s2, .slice A2 l2.length c2] 120)) := by
  have hEl : E < w4.heap.size := (Array.getElem?_eq_some_iff.1 hE).1
  have hwl : w.heap.size < w4.heap.size := (Array.getElem?_eq_some_iff.1 hr).1
  obtain ⟨g1, g2⟩ := set6 hE (.int .i64 r0) (.int .i64 0) (.int .i64 0) (.int .i64 0) (.string ⟨#[]⟩) (.slice (some ⟨w4.heap.size, 0, none⟩) 2 2)
  have hs : ((((((w4.setCell ⟨E, 0, none⟩ (.int .i64 r0)).setCell ⟨E, 1, none⟩ (.int .i64 0)).setCell ⟨E, 2, none⟩ (.int .i64 0)).setCell ⟨E, 3, none⟩ (.int .i64 0)).setCell ⟨E, 4, none⟩ (.string ⟨#[]⟩)).setCell ⟨E, 5, none⟩ (.slice (some ⟨w4.heap.size, 0, none⟩) 2 2)).heap.size = w4.heap.size := by simp [World.setCell]
  revert g1 g2 hs
  generalize ((((((w4.setCell ⟨E, 0, none⟩ (.int .i64 r0)).setCell ⟨E, 1, none⟩ (.int .i64 0)).setCell ⟨E, 2, none⟩ (.int .i64 0)).setCell ⟨E, 3, none⟩ (.int .i64 0)).setCell ⟨E, 4, none⟩ (.string ⟨#[]⟩)).setCell ⟨E, 5, none⟩ (.slice (some ⟨w4.heap.size, 0, none⟩) 2 2)) = S
  intro g1 g2 hs
  have hnew := ex_box (P := fun g => w.heap.size + 1 ≤ g ∧ g ≠ E) (W := S) (xs := [.mk o m d q s A c l, .mk o2 m2 d2 q2 s2 A2 c2 l2]) (o := r0) hr0 (by rw [hs]; omega) (fun x hx' => by
    rcases List.mem_cons.1 hx' with rfl | hx'
    · exact hx.own g2 (by omega)
    · rw [List.mem_singleton.1 hx']; exact hx2.own g2 (by omega))
  have hA : ∀ o, Below S.heap.size S (S.alloc o) := fun o => (Below.refl _ S).alloc (Nat.le_refl _) o
  refine ⟨a4, b4, .mk r0 0 0 0 ⟨#[]⟩ (some ⟨S.heap.size, 0, none⟩) 2 [.mk o m d q s A c l, .mk o2 m2 d2 q2 s2 A2 c2 l2], ha, (hR.own g2 hRE).alloc _, ?_, ?_, hnew, (hk.own g2 (by omega)).trans (Kp.alloc _ _ _)⟩
  · exact ((hA _).block _ (by omega)).trans ((g2.block _ hwl (fun e => by injection e with e; omega)).trans hr)
  · rw [hs]
    exact ((hA _).block _ (by omega)).trans g1
set_option maxRecDepth 100000 in
set_option maxHeartbeats 8000000 in
theorem exprL_any {f : Nat} (hE : EC f) {R : Nat} {K : RC} {a : Nat} {w : World} {n : Int} (h : Rdr w R K a false) (hn0 : 1 ≤ n) (hn6 : n ≤ 6) (hn3 : n ≠ 3) (hf : 10 * (K.L.length - a) + (9 - n.toNat) ≤ f + 1) : Calls Tryz.prog 60 #[.pointer (some ⟨R, 0, none⟩), .int .i64 n] w (RetEx R K a false w) := by
  have hlt := h.lt
  have hle := h.le
  obtain ⟨V, hV, r0, hz, hR, hk⟩ := ex_start h
  have c3 : V.cell? ⟨R, 3, none⟩ = some (.bool false) := by rw [cell_of_row _ _ _ _ _ _ hR.row]; rfl
  have d0 : (n == 0) = false := beq_eq_false_iff_ne.2 (by omega)
  have d3 : (n == 3) = false := beq_eq_false_iff_ne.2 hn3
  have d7 : (n == 7) = false := beq_eq_false_iff_ne.2 (by omega)
  obtain ⟨b4, hb4⟩ : ∃ b, (n == 4) = b := ⟨_, rfl⟩
  go_enter Tryz.func60, Tryz.ntmps60
  go_upto_region 1 with (fail)
  rw [← hV]
  clear hV
  go_wp2_with fail
  refine (hE R K a false _ (n + 1) hR (by omega) (by omega) (by omega)).mono ?_
  rintro e w1 ⟨⟨o1, n1, m1, q1, s1, A1, k1, l1⟩, rfl, hx, a1, b1, ha1, hb1, hR1, hk1⟩
  have r1 := (hk1.block w.heap.size (by omega) (fun e => by injection e with e; omega)).trans r0
  have hz1 := hk1.size
  have hx1 : ExOk (fun g => w.heap.size + 1 ≤ g ∧ g ≠ w1.heap.size) w1 (.mk o1 n1 m1 q1 s1 A1 k1 l1) := hx.imp fun g hg hl => by omega
  have hkk1 := hk.trans hk1
  clear r0 c3 hk1 hx hk
  dsimp only [Ex.agg]
  go_upto_block 1 with (fail)
  obtain ⟨U, hU⟩ : ∃ U, U = w1.alloc (.cells #[.int .i64 o1, .int .i64 n1, .int .i64 m1, .int .i64 q1, .string s1, .slice A1 l1.length k1] 120) := ⟨_, rfl⟩
  have row0 : U.heap[w1.heap.size]? = some (.cells (Ex.cells (.mk o1 n1 m1 q1 s1 A1 k1 l1)).toArray 120 (0, 0)) := by rw [hU]; exact heap_alloc_new _ _
  have hRU : Rdr U R K a1 b1 := by rw [hU]; exact hR1.alloc _
  have hkU : Kp R w U := by rw [hU]; exact hkk1.trans (Kp.alloc _ _ _)
  have rU : U.heap[w.heap.size]? = some (.cells ex0.cells.toArray 120 (0, 0)) := by rw [hU]; exact (Below.heap_alloc _ _ _ (by omega)).trans r1
  have hxU : ExOk (fun g => w.heap.size + 1 ≤ g ∧ g ≠ w1.heap.size) U (.mk o1 n1 m1 q1 s1 A1 k1 l1) := by rw [hU]; exact hx1.bel ((Below.refl _ _).alloc (Nat.le_refl _) _)
  have hzU : w1.heap.size < U.heap.size := by rw [hU]; simp
  rw [← hU]
  clear hU hR1 hkk1 r1 hx1 hR
  have hEw : w.heap.size + 1 ≤ w1.heap.size := by omega
  generalize w1.heap.size = E at *
  go_wp2_with fail
  go_loopg [9] (K.L.length + 1) (fun g v wr => ∃ (a' : Nat) (b' : Bool) (x : Ex), K.L.length + 1 - a' ≤ g ∧ a ≤ a' ∧ Rdr wr R K a' b' ∧ wr.heap[w.heap.size]? = some (.cells ex0.cells.toArray 120 (0, 0)) ∧ wr.heap[E]? = some (.cells x.cells.toArray 120 (0, 0)) ∧ ExOk (fun g => w.heap.size + 1 ≤ g ∧ g ≠ E) wr x ∧ Kp R w wr)
  case atStart =>
    exact ⟨a1, b1, _, by omega, ha1, hRU, rU, row0, hxU, hkU⟩
  case round =>
    clear hRU hkU rU row0 hxU
    obtain ⟨a', b', ⟨o, m, d, q, s, A, c, l⟩, hg, haa, hR, r, row, hx, hkk⟩ := hrel
    have hsz := hkk.size
    have hla := hR.le
    have hRE : R < E := by omega
    have b3 : wr.cell? ⟨R, 3, none⟩ = some (.bool b') := by rw [cell_of_row _ _ _ _ _ _ hR.row]; rfl
    obtain ⟨p0, p1, p2, p3, p4, p5⟩ := ex_row row
    cases b'
    · go_wp2_with fail
      refine (binary_any hR n).mono ?_
      rintro e w2 ⟨r0, rfl, hr1, hr2, hrn, hb2⟩
      have hR2 := hR.to hb2
      have hwl : w.heap.size < wr.heap.size := (Array.getElem?_eq_some_iff.1 r).1
      have r2 := (hb2.block w.heap.size hwl).trans r
      have hEl : E < wr.heap.size := (Array.getElem?_eq_some_iff.1 row).1
      have row2 := (hb2.block E hEl).trans row
      have hx2 := hx.bel hb2
      have hkk2 := hkk.trans (Kp.of hb2)
      have hz2 := hb2.size
      clear hb2 hR r row hx hkk p0 p1 p2 p3 p4 p5 b3
      by_cases hr0 : r0 = 0
      · subst hr0
        clear hrn
        obtain ⟨p0, p1, p2, p3, p4, p5⟩ := ex_row row2
        go_wp2_with (refine wpList_store_row (by rfl) 120 (.tmp 4) (.tmp 83) (by rfl) w.heap.size _ _ (Ex.cells (.mk o m d q s A c l)) (by rfl) (by rfl) r2 (by rfl) (by kernel_rfl) (ex_one _) ?_; intro W' hw' hg' hs')
        obtain ⟨y0, y1, y2, y3, y4, y5⟩ := ex_row hw'
        exact bodyPost_ret (v := Ex.agg (.mk o m d q s A c l)) (by simp [results, Tryz.f60, go_sem, y0, y1, y2, y3, y4, y5, Ex.agg]) rfl
          ⟨_, rfl, (hx2.own hg' (by omega)).imp (fun g hg _ => by omega), a', false, haa, (fun h => h), hR2.own hg' hlt, hkk2.own hg' (Nat.le_refl _)⟩
      · obtain ⟨-, hal⟩ := hrn hr0
        have dr : (r0 == 0) = false := beq_eq_false_iff_ne.2 hr0
        have q1 : w2.cell? ⟨R, 1, none⟩ = some (.int .i64 (a' : Int)) := by rw [cell_of_row _ _ _ _ _ _ hR2.row]; rfl
        have z1 := frozen_of_row w2 R 1 _ _ hR2.row
        have hL := hR2.len
        clear hr0 hrn
        go_upto_region 24 with (fail)
        obtain ⟨U3, hU3⟩ : ∃ U, U = w2.setCell ⟨R, 1, none⟩ (.int .i64 ((a' : Int) + 1)) := ⟨_, rfl⟩
        have hk3 : Kp R w2 U3 := by rw [hU3]; exact Kp.set _ 1 _
        have hR3 : Rdr U3 R K (a' + 1) false := by rw [hU3]; exact hR2.set 1 (.int .i64 ((a' : Int) + 1)) (by simp) hal
        have r3 := (hk3.block w.heap.size (by omega) (fun e => by injection e with e; omega)).trans r2
        have row3 := (hk3.block E (by omega) (fun e => by injection e with e; omega)).trans row2
        have hx3 := hx2.kp hk3 (by omega)
        have hkk3 := hkk2.trans hk3
        have hz3 := hk3.size
        rw [← hU3]
        clear hU3 hk3 hR2 r2 row2 hx2 hkk2 q1 z1
        have hE3 : E < U3.heap.size := (Array.getElem?_eq_some_iff.1 row3).1
        obtain ⟨p0, p1, p2, p3, p4, p5⟩ := ex_row row3
        have hwn : IntKind.i64.wrap (n + 1) = n + 1 := IntWalk.i64_in _ (by omega)
        have hR3d : Rdr U3.drew R K (a' + 1) false := hR3.to (Below.refl _ _).drew
        have hrE : 0 ≤ r0 ∧ r0 ≤ 21 := by omega
        go_cut [] from 73 to 80 (fun wx => BinDone R K a' w E wx)
        case first =>
         go_region_with (first
           | (go_at_call 60; refine (hE R K (a' + 1) false U3.drew (n + 1) hR3d (by omega) (by omega) (by omega)).mono ?_; rintro e w4 ⟨⟨o4, m4, d4, q4, s4, A4, c4, l4⟩, rfl, hx4, a4, b4', ha4, hb4', hR4, hk4⟩; dsimp only [Ex.agg]
              have row4 := (hk4.block E hE3 (fun e => by injection e with e; omega)).trans row3
              obtain ⟨k0, k1', k2, k3, k4, k5⟩ := ex_row row4
              have z0 := frozen_of_row w4 E 0 _ _ row4
              have z1 := frozen_of_row w4 E 1 _ _ row4
              have z2 := frozen_of_row w4 E 2 _ _ row4
              have z3 := frozen_of_row w4 E 3 _ _ row4
              have z4 := frozen_of_row w4 E 4 _ _ row4
              have z5 := frozen_of_row w4 E 5 _ _ row4
              have hE4 : E < w4.heap.size := (Array.getElem?_eq_some_iff.1 row4).1))
         all_goals
          go_wp2_with fail
          go_meet
          have hd3 : U3.drew.heap.size = U3.heap.size := rfl
          exact bin_done (by omega) hR4 ((hk4.block w.heap.size (by omega) (fun e => by injection e with e; omega)).trans r3) row4 ((hx3.bel (Below.refl _ _).drew).kp hk4 (by omega)) (hx4.imp fun g hg hl => by omega) (hkk3.trans ((Kp.of (Below.refl _ _).drew).trans hk4)) hRE hEw hrE
        case rest =>
          obtain ⟨a5, b5, ⟨o5, m5, d5, q5, s5, A5, c5, l5⟩, ha5, hR5, r5, row5, hx5, hkk5⟩ := hcut
          have hla5 := hR5.le
          clear p0 p1 p2 p3 p4 p5 hR3 hR3d r3 row3 hx3 hkk3
          obtain ⟨p0, p1, p2, p3, p4, p5⟩ := ex_row row5
          cases b4
          · go_wp2_with fail
            go_roundg (K.L.length + 1 - a5)
            case measure => omega
            case rel => exact ⟨a5, b5, _, Nat.le_refl _, by omega, hR5, r5, row5, hx5, hkk5⟩
          · go_wp2_with (refine wpList_store_row (by rfl) 120 (.tmp 4) (.tmp 83) (by rfl) w.heap.size _ _ (Ex.cells (.mk o5 m5 d5 q5 s5 A5 c5 l5)) (by rfl) (by rfl) r5 (by rfl) (by kernel_rfl) (ex_one _) ?_; intro W' hw' hg' hs')
            obtain ⟨y0, y1, y2, y3, y4, y5⟩ := ex_row hw'
            exact bodyPost_ret (v := Ex.agg (.mk o5 m5 d5 q5 s5 A5 c5 l5)) (by simp [results, Tryz.f60, go_sem, y0, y1, y2, y3, y4, y5, Ex.agg]) rfl
              ⟨_, rfl, (hx5.own hg' (by omega)).imp (fun g hg _ => by omega), a5, b5, by omega, (fun h => by cases h), hR5.own hg' hlt, hkk5.own hg' (Nat.le_refl _)⟩
    · go_wp2_with (refine wpList_store_row (by rfl) 120 (.tmp 4) (.tmp 83) (by rfl) w.heap.size _ _ (Ex.cells (.mk o m d q s A c l)) (by rfl) (by rfl) r (by rfl) (by kernel_rfl) (ex_one _) ?_; intro W' hw' hg' hs')
      obtain ⟨y0, y1, y2, y3, y4, y5⟩ := ex_row hw'
      exact bodyPost_ret (v := Ex.agg (.mk o m d q s A c l)) (by simp [results, Tryz.f60, go_sem, y0, y1, y2, y3, y4, y5, Ex.agg]) rfl
        ⟨_, rfl, (hx.own hg' (by omega)).imp (fun g hg _ => by omega), a', true, haa, (fun _ => rfl), hR.own hg' hlt, hkk.own hg' (Nat.le_refl _)⟩

theorem call_done {R : Nat} {K : RC} {a' a4 : Nat} {b4 : Bool} {w w4 : World} {E G : Nat} {o m d q o2 m2 d2 q2 r0 : Int} {s s2 : ByteArray} {A A2 : Option Addr} {c c2 : Nat} {l l2 : List Ex} (ha : a' + 1 ≤ a4) (hR : Rdr w4 R K a4 b4)
    (hr : w4.heap[w.heap.size]? = some (.cells ex0.cells.toArray 120 (0, 0))) (hE : w4.heap[E]? = some (.cells (Ex.cells (.mk r0 0 0 0 ⟨#[]⟩ (some ⟨G, 0, none⟩) 1 [.mk o m d q s A c l])).toArray 120 (0, 0)))
    (hx : ExOk (fun g => w.heap.size + 1 ≤ g ∧ g ≠ E) w4 (.mk o m d q s A c l)) (hx2 : ExOk (fun g => w.heap.size + 1 ≤ g ∧ g ≠ E) w4 (.mk o2 m2 d2 q2 s2 A2 c2 l2)) (hk : Kp R w w4) (hRE : R < E) (hw : w.heap.size + 1 ≤ E) (hr0 : 0 ≤ r0 ∧ r0 ≤ 21) :
    BinDone R K a' w E ((w4.setCell ⟨E, 5, none⟩ (.slice (some ⟨w4.heap.size, 0, none⟩) 2 2)).alloc
      (.cells #[.int .i64 o, .int .i64 m, .int .i64 d, .int .i64 q, .string s, .slice A l.length c, .int .i64 o2, .int .i64 m2, .int .i64 d2, .int .i64 q2, .string s2, .slice A2 l2.length c2] 120)) := by
  have hEl : E < w4.heap.size := (Array.getElem?_eq_some_iff.1 hE).1
  have hwl : w.heap.size < w4.heap.size := (Array.getElem?_eq_some_iff.1 hr).1
  have g1 := heap_setCell_same w4 E 5 _ _ (.slice (some ⟨w4.heap.size, 0, none⟩) 2 2) hE
  have g2 : w4.grownBy (w4.setCell ⟨E, 5, none⟩ (.slice (some ⟨w4.heap.size, 0, none⟩) 2 2)) (some E) := Kp.set w4 5 _
  have hs : (w4.setCell ⟨E, 5, none⟩ (.slice (some ⟨w4.heap.size, 0, none⟩) 2 2)).heap.size = w4.heap.size := by simp [World.setCell]
  revert g1 g2 hs
  generalize w4.setCell ⟨E, 5, none⟩ (.slice (some ⟨w4.heap.size, 0, none⟩) 2 2) = S
  intro g1 g2 hs
  have hnew := ex_box (P := fun g => w.heap.size + 1 ≤ g ∧ g ≠ E) (W := S) (xs := [.mk o m d q s A c l, .mk o2 m2 d2 q2 s2 A2 c2 l2]) (o := r0) hr0 (by rw [hs]; omega) (fun x hx' => by
    rcases List.mem_cons.1 hx' with rfl | hx'
    · exact hx.own g2 (by omega)
    · rw [List.mem_singleton.1 hx']; exact hx2.own g2 (by omega))
  have hA : ∀ o, Below S.heap.size S (S.alloc o) := fun o => (Below.refl _ S).alloc (Nat.le_refl _) o
  refine ⟨a4, b4, .mk r0 0 0 0 ⟨#[]⟩ (some ⟨S.heap.size, 0, none⟩) 2 [.mk o m d q s A c l, .mk o2 m2 d2 q2 s2 A2 c2 l2], ha, (hR.own g2 hRE).alloc _, ?_, ?_, hnew, (hk.own g2 (by omega)).trans (Kp.alloc _ _ _)⟩
  · exact ((hA _).block _ (by omega)).trans ((g2.block _ hwl (fun e => by injection e with e; omega)).trans hr)
  · rw [hs]
    exact ((hA _).block _ (by omega)).trans g1
set_option maxRecDepth 100000 in
set_option maxHeartbeats 8000000 in
theorem callX_any {f : Nat} (hE : EC f) {R : Nat} {K : RC} {a : Nat} {w : World} {op : Int} (h : Rdr w R K a false) (hal : a < K.L.length) (ho0 : 0 ≤ op) (ho1 : op ≤ 21) (hf : 10 * (K.L.length - a) ≤ f + 1) : Calls Tryz.prog 124 #[.pointer (some ⟨R, 0, none⟩), .int .i64 op] w (RetEx R K a false w) := by
  have hlt := h.lt
  have hL := h.len
  obtain ⟨V, hV, r0, hz, hR, hk⟩ := ex_start h
  have q1 : V.cell? ⟨R, 1, none⟩ = some (.int .i64 (a : Int)) := by rw [cell_of_row _ _ _ _ _ _ hR.row]; rfl
  have z1 := frozen_of_row V R 1 _ _ hR.row
  go_enter Tryz.func124, Tryz.ntmps124
  go_upto_region 1 with (fail)
  rw [← hV]
  clear hV
  go_upto_region 2 with (fail)
  obtain ⟨U, hU⟩ : ∃ U, U = V.setCell ⟨R, 1, none⟩ (.int .i64 ((a : Int) + 1)) := ⟨_, rfl⟩
  have hk1 : Kp R V U := by rw [hU]; exact Kp.set _ 1 _
  have hR1 : Rdr U R K (a + 1) false := by rw [hU]; exact hR.set 1 (.int .i64 ((a : Int) + 1)) (by simp) hal
  have r1 := (hk1.block w.heap.size (by omega) (fun e => by injection e with e; omega)).trans r0
  have hkk1 := hk.trans hk1
  have hz1 := hk1.size
  rw [← hU]
  clear hU hk1 hk hR r0 q1 z1
  go_wp2_with fail
  refine (want_any hR1 _).mono ?_
  rintro e w1 ⟨rfl, a1, b1, ha1, hb1, hR2, hk2⟩
  have r2 := (hk2.block w.heap.size (by omega) (fun e => by injection e with e; omega)).trans r1
  have hkk2 := hkk1.trans hk2
  have hz2 := hk2.size
  have hle2 := hR2.le
  clear r1 hkk1 hk2 hR1
  go_wp2_with fail
  refine (hE R K a1 b1 _ 0 hR2 (by omega) (by omega) (by omega)).mono ?_
  rintro e w3 ⟨⟨o, m, d, q, s, A, c, l⟩, rfl, hx, a3, b3, ha3, hb3, hR3, hk3⟩
  have r3 := (hk3.block w.heap.size (by omega) (fun e => by injection e with e; omega)).trans r2
  have hkk3 := hkk2.trans hk3
  have hz3 := hk3.size
  have hle3 := hR3.le
  have hx3 : ExOk (fun g => w.heap.size + 1 ≤ g ∧ g ≠ w3.heap.size + 1) w3 (.mk o m d q s A c l) := hx.imp fun g hg hl => by omega
  clear r2 hkk2 hk3 hR2 hx
  dsimp only [Ex.agg]
  go_upto_region 4 with (fail)
  obtain ⟨E, hEe⟩ : ∃ E, E = w3.heap.size + 1 := ⟨_, rfl⟩
  rw [← hEe] at hx3
  obtain ⟨S, hS⟩ : ∃ S, S = (w3.alloc (.cells #[.int .i64 o, .int .i64 m, .int .i64 d, .int .i64 q, .string s, .slice A l.length c] 120)).alloc (.cells #[.int .i64 op, .int .i64 0, .int .i64 0, .int .i64 0, .string ⟨#[]⟩, .slice (some ⟨w3.heap.size, 0, none⟩) 1 1] 120) := ⟨_, rfl⟩
  have hbS : Below w3.heap.size w3 S := by rw [hS]; exact ((Below.refl _ w3).alloc (Nat.le_refl _) _).alloc (by simp) _
  have hRS : Rdr S R K a3 b3 := hR3.to hbS
  have rowG : S.heap[w3.heap.size]? = some (.cells (Ex.cells (.mk o m d q s A c l)).toArray 120 (0, 0)) := by rw [hS]; exact (Below.heap_alloc _ _ _ (by simp)).trans (heap_alloc_new w3 _)
  have rowE : S.heap[E]? = some (.cells (Ex.cells (.mk op 0 0 0 ⟨#[]⟩ (some ⟨w3.heap.size, 0, none⟩) 1 [(.mk o m d q s A c l)])).toArray 120 (0, 0)) := by rw [hS, hEe]; exact heap_alloc2_new w3 _ _
  have rS := (hbS.block w.heap.size (by omega)).trans r3
  have hxS := hx3.bel hbS
  have hkS := hkk3.trans (Kp.of hbS)
  have hzS : w3.heap.size + 2 = S.heap.size := by rw [hS]; simp
  have hzS' : w3.heap.size < S.heap.size := by omega
  have hES : E < S.heap.size := by omega
  have hEw : w.heap.size + 1 ≤ E := by omega
  have hGE : w3.heap.size ≠ E := by omega
  have hGw : w.heap.size + 1 ≤ w3.heap.size := by omega
  have hRG : R ≠ w3.heap.size := by omega
  have hRE : R < E := by omega
  rw [← hS, ← hEe]
  clear hS hbS hR3 r3 hkk3 hx3 hzS hEe
  generalize w3.heap.size = G at *
  have hnode : ExOk (fun g => w.heap.size + 1 ≤ g ∧ g ≠ E) S (.mk op 0 0 0 ⟨#[]⟩ (some ⟨G, 0, none⟩) 1 [(.mk o m d q s A c l)]) :=
    ExOk.node (o := op) (n := 0) (d := 0) (m := 0) (s := ⟨#[]⟩) (g := G) (l := [(.mk o m d q s A c l)]) ⟨ho0, ho1, ⟨by omega, by omega, by omega, by omega⟩, by omega, by omega, by decide⟩ (by simp) ⟨hGw, hGE⟩ rowG (fun x hx => by rw [List.mem_singleton.1 hx]; exact hxS)
  go_wp2_with fail
  refine (args_any op _).mono ?_
  rintro e z1 ⟨rr, rfl, hrr1, hrr2, rfl⟩
  by_cases hr2 : rr = 2
  · have dr : (rr == 2) = true := beq_iff_eq.2 hr2
    clear hr2
    go_wp2_with fail
    refine (want_any hRS _).mono ?_
    rintro e w4 ⟨rfl, a4, b4, ha4, hb4, hR4, hk4⟩
    have r4 := (hk4.block w.heap.size (by omega) (fun e => by injection e with e; omega)).trans rS
    have rowG4 := (hk4.block G (by omega) (fun e => by injection e with e; omega)).trans rowG
    have rowE4 := (hk4.block E (by omega) (fun e => by injection e with e; omega)).trans rowE
    have hx4 := hxS.kp hk4 (by omega)
    have hkk4 := hkS.trans hk4
    have hz4 := hk4.size
    have hle4 := hR4.le
    clear hk4 rS rowG rowE hxS hkS hRS hnode
    obtain ⟨p0, p1, p2, p3, p4, p5⟩ := ex_row rowE4
    obtain ⟨t0, t1, t2, t3, t4, t5⟩ := ex_row rowG4
    have hR4d : Rdr w4.drew R K a4 b4 := hR4.to (Below.refl _ _).drew
    have hE4 : E < w4.heap.size := (Array.getElem?_eq_some_iff.1 rowE4).1
    have hG4 : G < w4.heap.size := (Array.getElem?_eq_some_iff.1 rowG4).1
    go_upto_region 6 with (fail)
    go_cut [] from 25 to 32 (fun wx => BinDone R K a w E wx)
    case first =>
     go_region_with (first
           | (go_at_call 60; refine (hE R K a4 b4 w4.drew 0 hR4d (by omega) (by omega) (by omega)).mono ?_; rintro e w5 ⟨⟨o5, m5, d5, q5, s5, A5, c5, l5⟩, rfl, hx5, a5, b5, ha5, hb5, hR5, hk5⟩; dsimp only [Ex.agg]
              have rowE5 := (hk5.block E hE4 (fun e => by injection e with e; omega)).trans rowE4
              have rowG5 := (hk5.block G hG4 (fun e => by injection e with e; omega)).trans rowG4
              obtain ⟨k0, k1', k2, k3, k4, k5⟩ := ex_row rowE5
              obtain ⟨j0, j1, j2, j3, j4, j5⟩ := ex_row rowG5
              have z5 := frozen_of_row w5 E 5 _ _ rowE5
              have hE5 : E < w5.heap.size := (Array.getElem?_eq_some_iff.1 rowE5).1
              have hG5 : G < w5.heap.size := (Array.getElem?_eq_some_iff.1 rowG5).1))
     all_goals
      go_wp2_with fail
      go_meet
      have hd3 : w4.drew.heap.size = w4.heap.size := rfl
      exact call_done (by omega) hR5 ((hk5.block w.heap.size (by omega) (fun e => by injection e with e; omega)).trans r4) rowE5 ((hx4.bel (Below.refl _ _).drew).kp hk5 (by omega)) (hx5.imp fun g hg hl => by omega) (hkk4.trans ((Kp.of (Below.refl _ _).drew).trans hk5)) hRE hEw ⟨ho0, ho1⟩
    case rest =>
      obtain ⟨a6, b6, ⟨o6, m6, d6, q6, s6, A6, c6, l6⟩, ha6, hR6, r6, row6, hx6, hkk6⟩ := hcut
      have hle6 := hR6.le
      have hE6 : E < wc.heap.size := (Array.getElem?_eq_some_iff.1 row6).1
      have hw6 : w.heap.size < wc.heap.size := (Array.getElem?_eq_some_iff.1 r6).1
      clear p0 p1 p2 p3 p4 p5 t0 t1 t2 t3 t4 t5 hR4 hR4d r4 rowE4 rowG4 hx4 hkk4
      go_wp2_with fail
      refine (want_any hR6 _).mono ?_
      rintro e w9 ⟨rfl, a9, b9, ha9, hb9, hRZ, hk9⟩
      have rZ := (hk9.block w.heap.size (by omega) (fun e => by injection e with e; omega)).trans r6
      have rowZ := (hk9.block E (by omega) (fun e => by injection e with e; omega)).trans row6
      have hxZ := hx6.kp hk9 (by omega)
      have hkZ := hkk6.trans hk9
      clear hk9
      obtain ⟨p0, p1, p2, p3, p4, p5⟩ := ex_row rowZ
      go_wp2_with (refine wpList_store_row (by rfl) 120 (.tmp 4) (.tmp 35) (by rfl) w.heap.size _ _ (Ex.cells (.mk o6 m6 d6 q6 s6 A6 c6 l6)) (by rfl) (by rfl) rZ (by rfl) (by kernel_rfl) (ex_one _) ?_; intro W' hw' hg' hs')
      obtain ⟨y0, y1, y2, y3, y4, y5⟩ := ex_row hw'
      exact bodyPost_ret (v := Ex.agg (.mk o6 m6 d6 q6 s6 A6 c6 l6)) (by simp [results, Tryz.f124, go_sem, y0, y1, y2, y3, y4, y5, Ex.agg]) rfl
        ⟨_, rfl, (hxZ.own hg' (by omega)).imp (fun g hg _ => by omega), a9, b9, by omega, (fun h => by cases h), hRZ.own hg' hlt, hkZ.own hg' (Nat.le_refl _)⟩
  · have dr : (rr == 2) = false := beq_eq_false_iff_ne.2 hr2
    clear hr2
    go_wp2_with fail
    refine (want_any hRS _).mono ?_
    rintro e w9 ⟨rfl, a9, b9, ha9, hb9, hRZ, hk9⟩
    have rZ := (hk9.block w.heap.size (by omega) (fun e => by injection e with e; omega)).trans rS
    have rowZ := (hk9.block E (by omega) (fun e => by injection e with e; omega)).trans rowE
    have hxZ := hnode.kp hk9 (by omega)
    have hkZ := hkS.trans hk9
    clear hk9
    obtain ⟨p0, p1, p2, p3, p4, p5⟩ := ex_row rowZ
    go_wp2_with (refine wpList_store_row (by rfl) 120 (.tmp 4) (.tmp 35) (by rfl) w.heap.size _ _ (Ex.cells (.mk op 0 0 0 ⟨#[]⟩ (some ⟨G, 0, none⟩) 1 [(.mk o m d q s A c l)])) (by rfl) (by rfl) rZ (by rfl) (by kernel_rfl) (ex_one _) ?_; intro W' hw' hg' hs')
    obtain ⟨y0, y1, y2, y3, y4, y5⟩ := ex_row hw'
    exact bodyPost_ret (v := Ex.agg (.mk op 0 0 0 ⟨#[]⟩ (some ⟨G, 0, none⟩) 1 [(.mk o m d q s A c l)])) (by simp [results, Tryz.f124, go_sem, y0, y1, y2, y3, y4, y5, Ex.agg]) rfl
      ⟨_, rfl, (hxZ.own hg' (by omega)).imp (fun g hg _ => by omega), a9, b9, by omega, (fun h => by cases h), hRZ.own hg' hlt, hkZ.own hg' (Nat.le_refl _)⟩

theorem exb0 {o : Int} {s : ByteArray} (h0 : 0 ≤ o) (h1 : o ≤ 21) (hs : s.size ≤ 100000) : ExB o 0 0 0 s := ⟨h0, h1, ⟨by omega, by omega, by omega, by omega⟩, by omega, by omega, hs⟩
set_option maxRecDepth 100000 in
set_option maxHeartbeats 8000000 in
/-- A number. -/
theorem factor_num {R : Nat} {K : RC} {a : Nat} {w : World} (h : Rdr w R K a false) (hv : kdB K a false 2 = true) : Calls Tryz.prog 90 #[.pointer (some ⟨R, 0, none⟩)] w (RetEx R K a false w) := by
  obtain ⟨-, x, hx, hx1⟩ := kdB_true hv
  have HV := Lib.hid hv
  have hlt := h.lt
  have hal := (List.getElem?_eq_some_iff.1 hx).1
  have hL := h.len
  have hxo := (h.ok x (List.mem_of_getElem? hx)).1
  clear hv
  obtain ⟨V, hV, r0, hz, hR, hk⟩ := ex_start h
  go_enter Tryz.func90, Tryz.ntmps90
  go_upto_block 0 with (fail)
  rw [← hV]
  clear hV
  go_wp2_with fail
  refine (kind_fn hR HV.out).mono ?_
  rintro e w1 ⟨rfl, q1, rfl⟩
  obtain ⟨W, hW⟩ : ∃ W, W = V.drewN q1 := ⟨_, rfl⟩
  have h1 : Rdr W R K a false := by rw [hW]; exact hR.to (below_N _ _)
  have hk1 : Kp R w W := by rw [hW]; exact hk.trans (Kp.of (below_N _ _))
  have r1 : W.heap[w.heap.size]? = some (.cells ex0.cells.toArray 120 (0, 0)) := by rw [hW]; exact r0
  rw [← hW]
  clear hW hR hk r0
  have c0 : W.cell? ⟨R, 0, none⟩ = some (.slice K.A K.L.length K.c) := by rw [cell_of_row _ _ _ _ _ _ h1.row]; rfl
  have c1 : W.cell? ⟨R, 1, none⟩ = some (.int .i64 (a : Int)) := by rw [cell_of_row _ _ _ _ _ _ h1.row]; rfl
  obtain ⟨_, g, o, hA, hgR, hc⟩ := h1.toks.elem tk_len hx (by omega)
  have e1 : W.cell? ⟨g, o + a * 3 + 1, none⟩ = some (.string x.t) := hc 1 _ rfl
  have hlo : (0 : Int) ≤ (a : Int) := by omega
  have hhi : (a : Int) < (K.L.length : Int) := by omega
  have hRW := h1.lt
  have hgW : g < W.heap.size := by omega
  rw [hA] at c0
  clear hx hx1 hc
  have HA := Lib.hid hA
  clear hA
  have c0A := (World.cell?_alloc_lt W (.cells #[.int .i64 0, .int .i64 0] 38) ⟨R, 0, none⟩ hRW).trans c0
  have c1A := (World.cell?_alloc_lt W (.cells #[.int .i64 0, .int .i64 0] 38) ⟨R, 1, none⟩ hRW).trans c1
  have e1A := (World.cell?_alloc_lt W (.cells #[.int .i64 0, .int .i64 0] 38) ⟨g, o + a * 3 + 1, none⟩ hgW).trans e1
  have hn1 : R ≠ W.heap.size := by omega
  have hn2 : g ≠ W.heap.size := by omega
  have hn3 : ¬ W.heap.size = R := by omega
  have hn4 : ¬ W.heap.size = g := by omega
  go_upto_region 2 with (fail)
  go_cut [3, 4, 5] from 11 to 26 (fun v d k wx => ∃ (dim : Int) (ok : Bool), d = .int .i64 dim ∧ k = .bool ok ∧ 0 ≤ dim ∧ dim ≤ 4 ∧ FrIn W v wx)
  case first =>
     go_region_held3 (fun w' => w'.cell? ⟨R, 0, none⟩ = some (.slice (some ⟨g, o, none⟩) K.L.length K.c) ∧ w'.cell? ⟨R, 1, none⟩ = some (.int .i64 (a : Int)) ∧ w'.cell? ⟨g, o + a * 3 + 1, none⟩ = some (.string x.t)) (go_keep)
      (first
        | (go_at_call 38; ((with_reducible refine (decimal_any x.t hxo W.drew).mono ?_)); rintro e w2 ⟨nn, dd, dim, ok, rfl, hf, hd0, hd4, hb2⟩
           have k0 := (hb2.cell (p := ⟨R, 0, none⟩) (by simp <;> omega)).trans c0
           have k1 := (hb2.cell (p := ⟨R, 1, none⟩) (by simp <;> omega)).trans c1
           have k2 := (hb2.cell (p := ⟨g, o + a * 3 + 1, none⟩) (by simp <;> omega)).trans e1
           have hbW := (Below.refl W.heap.size W).drew.trans hb2)
        | (go_at_call 38; ((with_reducible refine (decimal_any x.t hxo (W.alloc (.cells #[.int .i64 0, .int .i64 0] 38)).drew).mono ?_)); rintro e w2 ⟨nn, dd, dim, ok, rfl, hf, hd0, hd4, hb2⟩
           have k0 := (hb2.cell (p := ⟨R, 0, none⟩) (by simp <;> omega)).trans c0A
           have k1 := (hb2.cell (p := ⟨R, 1, none⟩) (by simp <;> omega)).trans c1A
           have k2 := (hb2.cell (p := ⟨g, o + a * 3 + 1, none⟩) (by simp <;> omega)).trans e1A
           have hbW := ((Below.refl W.heap.size W).alloc (Nat.le_refl _) (.cells #[.int .i64 0, .int .i64 0] 38)).drew.trans (hb2.mono (by simp))
           have hrw := (hb2.block W.heap.size (by simp)).trans (heap_alloc_new W (.cells #[.int .i64 0, .int .i64 0] 38))
           have m0 : w2.cell? ⟨W.heap.size, 0, none⟩ = some (.int .i64 0) := by rw [cell_of_row _ _ _ _ _ _ hrw]; rfl
           have m1 : w2.cell? ⟨W.heap.size, 1, none⟩ = some (.int .i64 0) := by rw [cell_of_row _ _ _ _ _ _ hrw]; rfl
           have z0 := frozen_of_row w2 W.heap.size 0 _ _ hrw
           have z1 := frozen_of_row w2 W.heap.size 1 _ _ hrw))
     all_goals (go_wp2_with fail; go_meet)
     · exact ⟨_, _, rfl, rfl, hd0, hd4, frIn_new hf hbW _⟩
     · exact ⟨_, _, rfl, rfl, hd0, hd4, frIn_old hf hbW hrw⟩
  case rest =>
     obtain ⟨dim, ok, rfl, rfl, hd0, hd4, Pb, nn, dd, rfl, hPb, p0, p1, hf, hbx⟩ := hcut
     have h2 := h1.to hbx
     have hk2 : Kp R w wc := hk1.trans (Kp.of hbx)
     have hw1 : w.heap.size < W.heap.size := (Array.getElem?_eq_some_iff.1 r1).1
     have r2 := (hbx.block w.heap.size hw1).trans r1
     have HF := Lib.hid hf
     clear c0 c1 e1 c0A c1A e1A hf h1 hk1 r1 hbx
     have hne : R ≠ Pb := by omega
     have q1' : wc.cell? ⟨R, 1, none⟩ = some (.int .i64 (a : Int)) := by rw [cell_of_row _ _ _ _ _ _ h2.row]; rfl
     have z1' := frozen_of_row wc R 1 _ _ h2.row
     go_upto_region 4 with (fail)
     obtain ⟨U, hU⟩ : ∃ U, U = wc.setCell ⟨R, 1, none⟩ (.int .i64 ((a : Int) + 1)) := ⟨_, rfl⟩
     have hk3 : Kp R wc U := by rw [hU]; exact Kp.set _ 1 _
     have hR3 : Rdr U R K (a + 1) false := by rw [hU]; exact h2.set 1 (.int .i64 ((a : Int) + 1)) (by simp) hal
     have hwc : w.heap.size < wc.heap.size := (Array.getElem?_eq_some_iff.1 r2).1
     have r3 := (hk3.block w.heap.size hwc (fun e => by injection e with e; omega)).trans r2
     have u0 : U.cell? ⟨Pb, 0, none⟩ = some (.int .i64 nn) := by rw [hU, World.cell?_setCell_far _ _ _ _ hne]; exact p0
     have u1 : U.cell? ⟨Pb, 1, none⟩ = some (.int .i64 dd) := by rw [hU, World.cell?_setCell_far _ _ _ _ hne]; exact p1
     have hkk3 := hk2.trans hk3
     rw [← hU]
     clear hU hk3 h2 r2 p0 p1 q1' z1' hk2
     go_wp2_with (refine wpList_store_row (by rfl) 120 (.tmp 2) (.tmp 36) (by rfl) w.heap.size _ _ (Ex.cells (.mk 1 nn dd dim ⟨#[]⟩ none 0 [])) (by rfl) (by rfl) r3 (by rfl) (by kernel_rfl) (ex_one _) ?_; intro W' hw' hg' hs')
     obtain ⟨y0, y1, y2, y3, y4, y5⟩ := ex_row hw'
     exact bodyPost_ret (v := Ex.agg (.mk 1 nn dd dim ⟨#[]⟩ none 0 [])) (by simp [results, Tryz.f90, go_sem, y0, y1, y2, y3, y4, y5, Ex.agg]) rfl
       ⟨_, rfl, ((show ExOk (fun g => w.heap.size ≤ g) W' (.mk 1 nn dd dim ⟨#[]⟩ none 0 []) from .leaf ⟨by omega, by omega, HF.out, hd0, hd4, by decide⟩)).imp (fun g hg _ => by omega), (a + 1), false, by omega, (fun h => by cases h), hR3.own hg' hlt, hkk3.own hg' (Nat.le_refl _)⟩
set_option maxRecDepth 100000 in
set_option maxHeartbeats 8000000 in
theorem factor_any {f : Nat} (hE : EC f) (hC : CC f) {R : Nat} {K : RC} {a : Nat} {w : World} (h : Rdr w R K a false) (hf : 10 * (K.L.length - a) + 1 ≤ f + 1) : Calls Tryz.prog 90 #[.pointer (some ⟨R, 0, none⟩)] w (RetEx R K a false w) := by
  obtain ⟨v, hv⟩ : ∃ v, kdB K a false 2 = v := ⟨_, rfl⟩
  cases v with
  | true => exact factor_num h hv
  | false =>
  have HV := Lib.hid hv
  have hlt := h.lt
  have hle := h.le
  have hL := h.len
  clear hv
  obtain ⟨V, hV, r0, hz, hR, hk⟩ := ex_start h
  go_enter Tryz.func90, Tryz.ntmps90
  go_upto_block 0 with (fail)
  rw [← hV]
  clear hV
  go_wp2_with fail
  refine (kind_fn hR HV.out).mono ?_
  rintro e w1 ⟨rfl, q1, rfl⟩
  obtain ⟨W, hW⟩ : ∃ W, W = V.drewN q1 := ⟨_, rfl⟩
  have hR1 : Rdr W R K a false := by rw [hW]; exact hR.to (below_N _ _)
  have hk1 : Kp R w W := by rw [hW]; exact hk.trans (Kp.of (below_N _ _))
  have r1 : W.heap[w.heap.size]? = some (.cells ex0.cells.toArray 120 (0, 0)) := by rw [hW]; exact r0
  have hz1 : w.heap.size < W.heap.size := (Array.getElem?_eq_some_iff.1 r1).1
  rw [← hW]
  clear hW hR hk r0 hz
  go_wp2_with fail
  refine (take_any hR1 _).mono ?_
  rintro e t2 ⟨v2, rfl, hv2, hkt2⟩
  have r3 := (hkt2.block w.heap.size (by omega) (fun e => by injection e with e; omega)).trans r1
  have hk3 := hk1.trans hkt2
  have hz3 := hkt2.size
  clear r1 hk1 hkt2
  rcases hv2 with ⟨rfl, -, hR2⟩ | ⟨rfl, hR2⟩
  · have hle2 := hR2.le
    go_wp2_with fail
    refine (hE R K (a + 1) false _ 7 hR2 (by omega) (by omega) (by omega)).mono ?_
    rintro e t4 ⟨⟨o, m, d, q, s, A, c, l⟩, rfl, hx, a4, b4, ha4, hb4, hR4, hkt4⟩
    have hxE : ExOk (fun g => w.heap.size + 1 ≤ g) t4 (.mk o m d q s A c l) := hx.imp fun g hg _ => by omega
    clear hx
    have r5 := (hkt4.block w.heap.size (by omega) (fun e => by injection e with e; omega)).trans r3
    have hk5 := hk3.trans hkt4
    have hz5 := hkt4.size
    clear r3 hk3 hkt4
    dsimp only [Ex.agg]
    have hnew := ex_box (P := fun g => w.heap.size + 1 ≤ g) (W := t4) (xs := [(.mk o m d q s A c l)]) (o := 4) (by omega) (by omega) (fun x hx => by rw [List.mem_singleton.1 hx]; exact hxE)
    have rr := (Below.heap_alloc t4 (.cells (flat Ex.cells [(.mk o m d q s A c l)]).toArray 120) w.heap.size (by omega)).trans r5
    go_wp2_with (refine wpList_store_row (by rfl) 120 (.tmp 2) (.tmp 43) (by rfl) w.heap.size _ _ (Ex.cells (.mk 4 0 0 0 ⟨#[]⟩ (some ⟨t4.heap.size, 0, none⟩) 1 [(.mk o m d q s A c l)])) (by rfl) (by rfl) rr (by rfl) (by kernel_rfl) (ex_one _) ?_; intro W' hw' hg' hs')
    obtain ⟨y0, y1, y2, y3, y4, y5⟩ := ex_row hw'
    exact bodyPost_ret (v := Ex.agg (.mk 4 0 0 0 ⟨#[]⟩ (some ⟨t4.heap.size, 0, none⟩) 1 [(.mk o m d q s A c l)])) (by simp [results, Tryz.f90, go_sem, y0, y1, y2, y3, y4, y5, Ex.agg]) rfl
      ⟨_, rfl, (hnew.own hg' (by omega)).imp (fun g hg _ => by omega), a4, b4, by omega, (fun h => by cases h), (hR4.alloc _).own hg' hlt, (hk5.trans (Kp.alloc _ _ _)).own hg' (Nat.le_refl _)⟩
  go_wp2_with fail
  refine (take_any hR2 _).mono ?_
  rintro e t6 ⟨v6, rfl, hv6, hkt6⟩
  have r7 := (hkt6.block w.heap.size (by omega) (fun e => by injection e with e; omega)).trans r3
  have hk7 := hk3.trans hkt6
  have hz7 := hkt6.size
  clear r3 hk3 hkt6
  rcases hv6 with ⟨rfl, -, hR6⟩ | ⟨rfl, hR6⟩
  · have hle6 := hR6.le
    go_wp2_with fail
    refine (hE R K (a + 1) false _ 0 hR6 (by omega) (by omega) (by omega)).mono ?_
    rintro e t8 ⟨⟨o, m, d, q, s, A, c, l⟩, rfl, hx, a8, b8, ha8, hb8, hR8, hkt8⟩
    have hxE : ExOk (fun g => w.heap.size + 1 ≤ g) t8 (.mk o m d q s A c l) := hx.imp fun g hg _ => by omega
    clear hx
    have r9 := (hkt8.block w.heap.size (by omega) (fun e => by injection e with e; omega)).trans r7
    have hk9 := hk7.trans hkt8
    have hz9 := hkt8.size
    clear r7 hk7 hkt8
    dsimp only [Ex.agg]
    go_upto_region 9 with (fail)
    obtain ⟨U, hU⟩ : ∃ U, U = t8.alloc (.cells #[.int .i64 o, .int .i64 m, .int .i64 d, .int .i64 q, .string s, .slice A l.length c] 120) := ⟨_, rfl⟩
    have hkU : Kp R t8 U := by rw [hU]; exact Kp.alloc _ _ _
    have rowU : U.heap[t8.heap.size]? = some (.cells (Ex.cells (.mk o m d q s A c l)).toArray 120 (0, 0)) := by rw [hU]; exact heap_alloc_new _ _
    have hRU : Rdr U R K a8 b8 := by rw [hU]; exact hR8.alloc _
    have hxU := hxE.kp hkU (by omega)
    have hzU : t8.heap.size < U.heap.size := by rw [hU]; simp
    rw [← hU]
    clear hU hxE
    have r10 := (hkU.block w.heap.size (by omega) (fun e => by injection e with e; omega)).trans r9
    have hk10 := hk9.trans hkU
    have hz10 := hkU.size
    clear r9 hk9 hkU
    go_wp2_with fail
    refine (want_any hRU _).mono ?_
    rintro e t11 ⟨rfl, a11, b11, ha11, hb11, hR11, hkt11⟩
    have hxW := hxU.kp hkt11 (by omega)
    have rowW := (hkt11.block t8.heap.size (by omega) (fun e => by injection e with e; omega)).trans rowU
    have r12 := (hkt11.block w.heap.size (by omega) (fun e => by injection e with e; omega)).trans r10
    have hk12 := hk10.trans hkt11
    have hz12 := hkt11.size
    clear r10 hk10 hkt11
    obtain ⟨p0, p1, p2, p3, p4, p5⟩ := ex_row rowW
    go_wp2_with (refine wpList_store_row (by rfl) 120 (.tmp 2) (.tmp 51) (by rfl) w.heap.size _ _ (Ex.cells (.mk o m d q s A c l)) (by rfl) (by rfl) r12 (by rfl) (by kernel_rfl) (ex_one _) ?_; intro W' hw' hg' hs')
    obtain ⟨y0, y1, y2, y3, y4, y5⟩ := ex_row hw'
    exact bodyPost_ret (v := Ex.agg (.mk o m d q s A c l)) (by simp [results, Tryz.f90, go_sem, y0, y1, y2, y3, y4, y5, Ex.agg]) rfl
      ⟨_, rfl, (hxW.own hg' (by omega)).imp (fun g hg _ => by omega), a11, b11, by omega, (fun h => by cases h), hR11.own hg' hlt, hk12.own hg' (Nat.le_refl _)⟩
  go_wp2_with fail
  refine (take_any hR6 _).mono ?_
  rintro e t13 ⟨v13, rfl, hv13, hkt13⟩
  have r14 := (hkt13.block w.heap.size (by omega) (fun e => by injection e with e; omega)).trans r7
  have hk14 := hk7.trans hkt13
  have hz14 := hkt13.size
  clear r7 hk7 hkt13
  rcases hv13 with ⟨rfl, -, hR13⟩ | ⟨rfl, hR13⟩
  · have hle13 := hR13.le
    go_wp2_with fail
    refine (want_any hR13 _).mono ?_
    rintro e t15 ⟨rfl, a15, b15, ha15, hb15, hR15, hkt15⟩
    have r16 := (hkt15.block w.heap.size (by omega) (fun e => by injection e with e; omega)).trans r14
    have hk16 := hk14.trans hkt15
    have hz16 := hkt15.size
    clear r14 hk14 hkt15
    go_wp2_with fail
    refine (rwhole_any hR15 1 45 (by omega) (by omega)).mono ?_
    rintro e t17 ⟨nb, rfl, hnb0, hnb1, a17, b17, ha17, hb17, hR17, hkt17⟩
    have r18 := (hkt17.block w.heap.size (by omega) (fun e => by injection e with e; omega)).trans r16
    have hk18 := hk16.trans hkt17
    have hz18 := hkt17.size
    clear r16 hk16 hkt17
    go_wp2_with fail
    refine (want_any hR17 _).mono ?_
    rintro e t19 ⟨rfl, a19, b19, ha19, hb19, hR19, hkt19⟩
    have r20 := (hkt19.block w.heap.size (by omega) (fun e => by injection e with e; omega)).trans r18
    have hk20 := hk18.trans hkt19
    have hz20 := hkt19.size
    clear r18 hk18 hkt19
    go_wp2_with (refine wpList_store_row (by rfl) 120 (.tmp 2) (.tmp 63) (by rfl) w.heap.size _ _ (Ex.cells (.mk 3 nb 1 0 ⟨#[]⟩ none 0 [])) (by rfl) (by rfl) r20 (by rfl) (by kernel_rfl) (ex_one _) ?_; intro W' hw' hg' hs')
    obtain ⟨y0, y1, y2, y3, y4, y5⟩ := ex_row hw'
    exact bodyPost_ret (v := Ex.agg (.mk 3 nb 1 0 ⟨#[]⟩ none 0 [])) (by simp [results, Tryz.f90, go_sem, y0, y1, y2, y3, y4, y5, Ex.agg]) rfl
      ⟨_, rfl, ((show ExOk (fun g => w.heap.size ≤ g) W' (.mk 3 nb 1 0 ⟨#[]⟩ none 0 []) from .leaf ⟨by omega, by omega, ⟨by omega, by omega, by omega, by omega⟩, by omega, by omega, by decide⟩)).imp (fun g hg _ => by omega), a19, b19, by omega, (fun h => by cases h), hR19.own hg' hlt, hk20.own hg' (Nat.le_refl _)⟩
  go_wp2_with fail
  refine (is_any hR13 _).mono ?_
  rintro e t21 ⟨v21, rfl, hv21, hbt21⟩
  have hR21 := hR13.to hbt21
  have hkt21 : Kp R _ t21 := Kp.of hbt21
  clear hbt21
  have r22 := (hkt21.block w.heap.size (by omega) (fun e => by injection e with e; omega)).trans r14
  have hk22 := hk14.trans hkt21
  have hz22 := hkt21.size
  clear r14 hk14 hkt21
  cases v21
  rotate_left
  · obtain ⟨-, x21, hx21, -⟩ := hv21 rfl
    have hal := (List.getElem?_eq_some_iff.1 hx21).1
    clear hx21 hv21
    go_wp2_with fail
    refine (hC R K a _ 6 hR21 hal (by omega) (by omega) (by omega)).mono ?_
    rintro e t23 ⟨⟨o, m, d, q, s, A, c, l⟩, rfl, hx, a23, b23, ha23, hb23, hR23, hkt23⟩
    have hxE : ExOk (fun g => w.heap.size + 1 ≤ g) t23 (.mk o m d q s A c l) := hx.imp fun g hg _ => by omega
    clear hx
    have r24 := (hkt23.block w.heap.size (by omega) (fun e => by injection e with e; omega)).trans r22
    have hk24 := hk22.trans hkt23
    have hz24 := hkt23.size
    clear r22 hk22 hkt23
    dsimp only [Ex.agg]
    go_wp2_with (refine wpList_store_row (by rfl) 120 (.tmp 2) (.tmp 68) (by rfl) w.heap.size _ _ (Ex.cells (.mk o m d q s A c l)) (by rfl) (by rfl) r24 (by rfl) (by kernel_rfl) (ex_one _) ?_; intro W' hw' hg' hs')
    obtain ⟨y0, y1, y2, y3, y4, y5⟩ := ex_row hw'
    exact bodyPost_ret (v := Ex.agg (.mk o m d q s A c l)) (by simp [results, Tryz.f90, go_sem, y0, y1, y2, y3, y4, y5, Ex.agg]) rfl
      ⟨_, rfl, (hxE.own hg' (by omega)).imp (fun g hg _ => by omega), a23, b23, by omega, (fun h => by cases h), hR23.own hg' hlt, hk24.own hg' (Nat.le_refl _)⟩
  go_wp2_with fail
  refine (is_any hR21 _).mono ?_
  rintro e t25 ⟨v25, rfl, hv25, hbt25⟩
  have hR25 := hR21.to hbt25
  have hkt25 : Kp R _ t25 := Kp.of hbt25
  clear hbt25
  have r26 := (hkt25.block w.heap.size (by omega) (fun e => by injection e with e; omega)).trans r22
  have hk26 := hk22.trans hkt25
  have hz26 := hkt25.size
  clear r22 hk22 hkt25
  cases v25
  rotate_left
  · obtain ⟨-, x25, hx25, -⟩ := hv25 rfl
    have hal := (List.getElem?_eq_some_iff.1 hx25).1
    clear hx25 hv25
    go_wp2_with fail
    refine (hC R K a _ 19 hR25 hal (by omega) (by omega) (by omega)).mono ?_
    rintro e t27 ⟨⟨o, m, d, q, s, A, c, l⟩, rfl, hx, a27, b27, ha27, hb27, hR27, hkt27⟩
    have hxE : ExOk (fun g => w.heap.size + 1 ≤ g) t27 (.mk o m d q s A c l) := hx.imp fun g hg _ => by omega
    clear hx
    have r28 := (hkt27.block w.heap.size (by omega) (fun e => by injection e with e; omega)).trans r26
    have hk28 := hk26.trans hkt27
    have hz28 := hkt27.size
    clear r26 hk26 hkt27
    dsimp only [Ex.agg]
    go_wp2_with (refine wpList_store_row (by rfl) 120 (.tmp 2) (.tmp 73) (by rfl) w.heap.size _ _ (Ex.cells (.mk o m d q s A c l)) (by rfl) (by rfl) r28 (by rfl) (by kernel_rfl) (ex_one _) ?_; intro W' hw' hg' hs')
    obtain ⟨y0, y1, y2, y3, y4, y5⟩ := ex_row hw'
    exact bodyPost_ret (v := Ex.agg (.mk o m d q s A c l)) (by simp [results, Tryz.f90, go_sem, y0, y1, y2, y3, y4, y5, Ex.agg]) rfl
      ⟨_, rfl, (hxE.own hg' (by omega)).imp (fun g hg _ => by omega), a27, b27, by omega, (fun h => by cases h), hR27.own hg' hlt, hk28.own hg' (Nat.le_refl _)⟩
  go_wp2_with fail
  refine (is_any hR25 _).mono ?_
  rintro e t29 ⟨v29, rfl, hv29, hbt29⟩
  have hR29 := hR25.to hbt29
  have hkt29 : Kp R _ t29 := Kp.of hbt29
  clear hbt29
  have r30 := (hkt29.block w.heap.size (by omega) (fun e => by injection e with e; omega)).trans r26
  have hk30 := hk26.trans hkt29
  have hz30 := hkt29.size
  clear r26 hk26 hkt29
  cases v29
  rotate_left
  · obtain ⟨-, x29, hx29, -⟩ := hv29 rfl
    have hal := (List.getElem?_eq_some_iff.1 hx29).1
    clear hx29 hv29
    go_wp2_with fail
    refine (hC R K a _ 20 hR29 hal (by omega) (by omega) (by omega)).mono ?_
    rintro e t31 ⟨⟨o, m, d, q, s, A, c, l⟩, rfl, hx, a31, b31, ha31, hb31, hR31, hkt31⟩
    have hxE : ExOk (fun g => w.heap.size + 1 ≤ g) t31 (.mk o m d q s A c l) := hx.imp fun g hg _ => by omega
    clear hx
    have r32 := (hkt31.block w.heap.size (by omega) (fun e => by injection e with e; omega)).trans r30
    have hk32 := hk30.trans hkt31
    have hz32 := hkt31.size
    clear r30 hk30 hkt31
    dsimp only [Ex.agg]
    go_wp2_with (refine wpList_store_row (by rfl) 120 (.tmp 2) (.tmp 78) (by rfl) w.heap.size _ _ (Ex.cells (.mk o m d q s A c l)) (by rfl) (by rfl) r32 (by rfl) (by kernel_rfl) (ex_one _) ?_; intro W' hw' hg' hs')
    obtain ⟨y0, y1, y2, y3, y4, y5⟩ := ex_row hw'
    exact bodyPost_ret (v := Ex.agg (.mk o m d q s A c l)) (by simp [results, Tryz.f90, go_sem, y0, y1, y2, y3, y4, y5, Ex.agg]) rfl
      ⟨_, rfl, (hxE.own hg' (by omega)).imp (fun g hg _ => by omega), a31, b31, by omega, (fun h => by cases h), hR31.own hg' hlt, hk32.own hg' (Nat.le_refl _)⟩
  go_wp2_with fail
  refine (name_any hR29).mono ?_
  rintro e t33 ⟨nm, rfl, hnm, a33, b33, ha33, hb33, hR33, hkt33⟩
  have r34 := (hkt33.block w.heap.size (by omega) (fun e => by injection e with e; omega)).trans r30
  have hk34 := hk30.trans hkt33
  have hz34 := hkt33.size
  clear r30 hk30 hkt33
  go_wp2_with (refine wpList_store_row (by rfl) 120 (.tmp 2) (.tmp 81) (by rfl) w.heap.size _ _ (Ex.cells (.mk 2 0 0 0 nm none 0 [])) (by rfl) (by rfl) r34 (by rfl) (by kernel_rfl) (ex_one _) ?_; intro W' hw' hg' hs')
  obtain ⟨y0, y1, y2, y3, y4, y5⟩ := ex_row hw'
  exact bodyPost_ret (v := Ex.agg (.mk 2 0 0 0 nm none 0 [])) (by simp [results, Tryz.f90, go_sem, y0, y1, y2, y3, y4, y5, Ex.agg]) rfl
    ⟨_, rfl, ((show ExOk (fun g => w.heap.size ≤ g) W' (.mk 2 0 0 0 nm none 0 []) from .leaf (exb0 (by omega) (by omega) hnm))).imp (fun g hg _ => by omega), a33, b33, by omega, (fun h => by cases h), hR33.own hg' hlt, hk34.own hg' (Nat.le_refl _)⟩

theorem efc (f : Nat) : EC f ∧ FC f ∧ CC f := by
  induction f with
  | zero => exact ⟨fun R K a b w n h h0 h7 hf => by omega, fun R K a w h hf => by omega, fun R K a w op h hal h0 h1 hf => by omega⟩
  | succ f ih =>
    obtain ⟨hE, hF, hC⟩ := ih
    refine ⟨?_, fun R K a w h hf => factor_any hE hC h hf, fun R K a w op h hal h0 h1 hf => callX_any hE h hal h0 h1 hf⟩
    intro R K a b w n h h0 h7 hf
    cases b with
    | true => exact expr_bad h n
    | false =>
      by_cases e0 : n = 0
      · subst e0; exact expr0_any hE h (by simpa using hf)
      · by_cases e3 : n = 3
        · subst e3; exact expr3 hE h (by simpa using hf)
        · by_cases e7 : n = 7
          · subst e7; exact expr7 hF h (by have := hf; simp at this; omega)
          · exact exprL_any hE h (by omega) (by omega) e3 hf
/-- What expr does. -/
theorem expr_any {R : Nat} {K : RC} {a : Nat} {b : Bool} {w : World} {n : Int} (h : Rdr w R K a b) (h0 : 0 ≤ n) (h7 : n ≤ 7) : Calls Tryz.prog 60 #[.pointer (some ⟨R, 0, none⟩), .int .i64 n] w (RetEx R K a b w) :=
  (efc _).1 R K a b w n h h0 h7 (Nat.le_refl _)
end Go.Proofs.YtghmmcdeejhcjaaGreat
