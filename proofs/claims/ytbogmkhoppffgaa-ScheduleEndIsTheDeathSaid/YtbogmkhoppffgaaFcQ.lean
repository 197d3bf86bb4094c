/- Facts merged fact by fact: the reference. -/
import Derived.Test.YtbogmkhoppffgaaFcO
import Derived.Test.YtbogmkhoppffgaaFcJ
import Derived.Test.YtbogmkhoppffgaaFactB
import Derived.Test.YtbogmkhoppffgaaInsA
namespace Go.Proofs.Ytbogmkhoppffgaa
open Go.RowKit

theorem fc_take : ∀ (l : List Fc) (k : Nat), flat Fc.cells (l.take k) = (flat Fc.cells l).take (k * 14)
  | [], k => by simp [flat]
  | y :: l, 0 => by simp [flat]
  | y :: l, k + 1 => by
    rw [List.take_succ_cons, flat_cons, flat_cons, List.take_append, fc_take l k, fc_len, List.take_of_length_le (l := y.cells) (i := (k + 1) * 14) (by rw [fc_len]; omega), show (k + 1) * 14 - 14 = k * 14 by omega]
theorem fc_drop : ∀ (l : List Fc) (k : Nat), flat Fc.cells (l.drop k) = (flat Fc.cells l).drop (k * 14)
  | [], k => by simp [flat]
  | y :: l, 0 => by simp [flat]
  | y :: l, k + 1 => by
    rw [List.drop_succ_cons, flat_cons, List.drop_append, fc_drop l k, fc_len, List.drop_of_length_le (l := y.cells) (i := (k + 1) * 14) (by rw [fc_len]; omega), show (k + 1) * 14 - 14 = k * 14 by omega, List.nil_append]
/-! A whole element stored into a row of one's own. -/
def setL : List Value → Nat → List Value → List Value
  | xs, _, [] => xs
  | xs, o, v :: r => setL (xs.set o v) (o + 1) r
theorem setL_left : ∀ (vs a b : List Value) (o : Nat), o + vs.length ≤ a.length → setL (a ++ b) o vs = setL a o vs ++ b
  | [], _, _, _, _ => rfl
  | v :: r, a, b, o, h => by
    rw [List.length_cons] at h
    show setL ((a ++ b).set o v) (o + 1) r = setL (a.set o v) (o + 1) r ++ b
    rw [List.set_append_left _ _ (by omega), setL_left r _ _ _ (by rw [List.length_set]; omega)]
theorem setL_right : ∀ (vs a b : List Value) (o : Nat), setL (a ++ b) (a.length + o) vs = a ++ setL b o vs
  | [], _, _, _ => rfl
  | v :: r, a, b, o => by
    show setL ((a ++ b).set (a.length + o) v) (a.length + o + 1) r = a ++ setL (b.set o v) (o + 1) r
    rw [List.set_append_right _ _ (by omega), show a.length + o - a.length = o by omega, Nat.add_assoc]
    exact setL_right r a _ (o + 1)
theorem setL_full : ∀ (vs p a : List Value), vs.length = a.length → setL (p ++ a) p.length vs = p ++ vs
  | [], p, a, h => by
    have e : a = [] := List.eq_nil_of_length_eq_zero h.symm
    rw [e]
    rfl
  | v :: r, p, [], h => by simp at h
  | v :: r, p, x :: a, h => by
    show setL ((p ++ x :: a).set p.length v) (p.length + 1) r = p ++ v :: r
    rw [List.set_append_right _ _ (Nat.le_refl _), Nat.sub_self, List.set_cons_zero, show p ++ v :: a = (p ++ [v]) ++ a by simp, show p.length + 1 = (p ++ [v]).length by simp, setL_full r (p ++ [v]) a (by simpa using h)]
    simp
theorem fc_setL (y : Fc) : ∀ (O : List Fc) (k : Nat), k < O.length → setL (flat Fc.cells O) (k * 14) y.cells = flat Fc.cells (O.set k y)
  | [], k, h => by simp at h
  | x :: O, 0, _ => by
    rw [flat_cons, List.set_cons_zero, flat_cons, Nat.zero_mul, setL_left _ _ _ _ (by rw [fc_len, fc_len]; omega)]
    have := setL_full y.cells [] x.cells rfl
    rw [List.nil_append, List.nil_append] at this
    rw [show setL x.cells 0 y.cells = y.cells from this]
  | x :: O, k + 1, h => by
    rw [List.length_cons] at h
    rw [flat_cons, List.set_cons_succ, flat_cons, show (k + 1) * 14 = x.cells.length + k * 14 by rw [fc_len]; omega, setL_right, fc_setL y O k (by omega)]
theorem own_putF {base e sz n cap g : Nat} : ∀ (vs xs : List Value) (o : Nat) (w : World), w.ownsRow base e sz (.slice (some ⟨g, 0, none⟩) n cap) n xs → (w.setCells g o vs).ownsRow base e sz (.slice (some ⟨g, 0, none⟩) n cap) n (setL xs o vs) ∧ Below g w (w.setCells g o vs)
  | [], _, _, w, h => ⟨h, Below.refl _ _⟩
  | v :: r, xs, o, w, h => by
    obtain ⟨h1, h2⟩ := h.stored o v
    obtain ⟨h3, h4⟩ := own_putF r (xs.set o v) (o + 1) _ h1
    refine ⟨h3, Below.trans ?_ h4⟩
    obtain ⟨q1, q2, q3, q4, q5⟩ := h2
    have hg : g < w.heap.size := by
      rcases h.2 with ⟨e0, _⟩ | ⟨g', _, _, e0, _, hg, _⟩
      · cases e0
      · injection e0 with e0
        injection e0 with e0
        injection e0 with e0
        subst e0
        exact (Array.getElem?_eq_some_iff.1 hg).1
    exact ⟨q1, q2, q3, q4, fun i hi => q5 i (by omega) (by intro e; injection e with e; omega)⟩
theorem set_sameF : ∀ (O : List Fc) (k : Nat) (z : Fc), O[k]? = some z → O.set k z = O
  | [], _, _, h => by simp at h
  | x :: O, 0, z, h => by
    have : x = z := by simpa using h
    rw [this, List.set_cons_zero]
  | x :: O, k + 1, z, h => by rw [List.set_cons_succ, set_sameF O k z (by simpa using h)]
theorem rless_to {x y : Fc} (hx : Vld x) (hy : Vld y) (hc : cmpF x y = 0) {b : Bool} (hb : lessF x y = b) (w : World) : Calls Try.prog 18 #[.agg #[.int .i64 x.i, .int .i64 x.n, .int .i64 x.v, .bool x.g, .int .i64 x.p, .int .i64 x.k, .int .i64 x.s, .int .i64 x.f, .int .i64 x.t, .int .i64 x.e, .int .i64 x.h, .int .i64 x.c, .int .i64 x.a, .int .i64 x.r], .agg #[.int .i64 y.i, .int .i64 y.n, .int .i64 y.v, .bool y.g, .int .i64 y.p, .int .i64 y.k, .int .i64 y.s, .int .i64 y.f, .int .i64 y.t, .int .i64 y.e, .int .i64 y.h, .int .i64 y.c, .int .i64 y.a, .int .i64 y.r]] w fun e w' => e = .returned (.bool b) ∧ Below w.heap.size w w' := by
  rw [← hb]
  exact rlessF hx hy hc w
/-- A fact stored into a row of one's own. -/
theorem wpList_store_own {ops : Array Oper} {rest : List Oper} {op : Oper} {a : Act} {w : World} {Q : Exit → Act → World → Prop} (hgd : op.guard = none) (x y : Operand) (ho : op.op = .store 40 x y)
    (base g k n cap : Nat) (O : List Fc) (f : Fc) (hx : a.eval x = .pointer (some ⟨g, k * 14, none⟩)) (hy : a.eval y = f.agg) (hown : w.ownsRow base 40 14 (.slice (some ⟨g, 0, none⟩) n cap) n (flat Fc.cells O)) (hk : k < O.length)
    (h : ∀ W' : World, W'.ownsRow base 40 14 (.slice (some ⟨g, 0, none⟩) n cap) n (flat Fc.cells (O.set k f)) → Below base w W' → wpList Try.prog ops Q rest (a.put op.dst undef) W') : wpList Try.prog ops Q (op :: rest) a w := by
  have hl := hown.1
  rw [fc_flen] at hl
  have hrow : base ≤ g ∧ ∃ cur, w.heap[g]? = some (.cells cur 40 (0, 0)) ∧ n ≤ cap ∧ cur.size = cap * 14 := by
    rcases hown.2 with ⟨e0, _⟩ | ⟨g', cap', cur, e0, hb, hg, hnc, _, hcs, _⟩
    · cases e0
    · injection e0 with e0 _ e2
      injection e0 with e0
      injection e0 with e0
      subst e0 e2
      exact ⟨hb, cur, hg, hnc, hcs⟩
  obtain ⟨hbg, cur, hg, hnc, hcs⟩ := hrow
  refine wpList_store_mid hgd _ x y ho g (k * 14) f.cells.toArray hx hy ?_ (by kernel_rfl) (all_oneCell_toArray (by intro v hv; simp only [Fc.cells, List.mem_cons, List.not_mem_nil, or_false] at hv; rcases hv with rfl | rfl | rfl | rfl | rfl | rfl | rfl | rfl | rfl | rfl | rfl | rfl | rfl | rfl <;> rfl)) ?_
  · intro j hj
    have hj' : j < 14 := hj
    refine ⟨?_, frozen_of_row w g _ _ _ hg⟩
    have hlt : k * 14 + j < cur.size := by omega
    rw [cell_of_row w g _ _ _ _ hg]
    simp [hlt]
  · obtain ⟨h1, h2⟩ := own_putF f.cells (flat Fc.cells O) (k * 14) w hown
    rw [fc_setL f O k hk] at h1
    exact h _ h1 (h2.mono hbg)

set_option maxRecDepth 100000 in
set_option maxHeartbeats 16000000 in
theorem rmerge_any {A : Option Addr} {n c : Nat} {L : List Fc} {w : World} (hL : Rd w w.heap.size 14 A n (flat Fc.cells L)) (hl : L.length = n) (hv : ∀ x ∈ L, Vld x) (hn : n ≤ 900) :
    Calls Try.prog 9 #[.slice A n c, .slice none 0 0] w (RetFs w (mrgF L)) := by
  obtain ⟨i0, hi0, hz0, hz1, hz2⟩ := info_parts info_fact
  have HL := Lib.hid hl
  have HV := Lib.hid hv
  clear hl hv
  go_enter Try.func9, Try.ntmps9
  go_wp2_with fail
  go_loopw [5, 6] (fun v i wr => ∃ (k m c1 : Nat) (A1 : Option Addr), k ≤ n ∧ i = .int .i64 (k : Int) ∧ v = .slice A1 m c1 ∧ (mrgF (L.take k)).length = m ∧ wr.ownsRow w.heap.size 40 14 (.slice A1 m c1) m (flat Fc.cells (mrgF (L.take k))) ∧ Below w.heap.size w wr) (fun _ i _ => n - (intOf i).toNat)
  case atStart => exact ⟨0, 0, 0, none, by omega, rfl, rfl, rfl, World.ownsRow_nil _ _ _ _, Below.refl _ _⟩
  case round =>
    obtain ⟨k, m, c1, A1, hk, rfl, rfl, hm, hown, hb⟩ := hrel
    have hwsz := hb.size
    have hml := mrgF_len L k
    rw [hm] at hml
    obtain ⟨_, _, e0, hnc1, hcm1, _⟩ := own_form hown
    injection e0 with ea _ e1
    subst ea e1
    have HM := Lib.hid hm
    have HCM := Lib.hid hcm1
    have HKV := Lib.hid (mrgF_vld HV.out k)
    have HAS := Lib.hid (mrgF_asc (L.take k))
    clear hm hcm1
    by_cases hlt : k < n
    · have hkl : k < L.length := by rw [HL.out]; exact hlt
      obtain ⟨x, hx⟩ : ∃ x, L[k]? = some x := ⟨_, List.getElem?_eq_getElem hkl⟩
      have HVX := Lib.hid (HV.out x (List.mem_of_getElem? hx))
      have HST := Lib.hid (mrgF_take hx)
      obtain ⟨_, g, o, rfl, hgb, f0⟩ := fc_cells (hL.below hb) hx
      have hlo : (0 : Int) ≤ (k : Int) := by omega
      have hhi : (k : Int) < (n : Int) := by omega
      clear hx hkl
      obtain ⟨O, hO⟩ : ∃ O, O = mrgF (L.take k) := ⟨_, rfl⟩
      rw [← hO] at hown HM HKV HST HAS
      clear hO
      go_upto_region 7 with (fail)
      have hr0 := heap_alloc_new wr (.cells #[.int .i64 0, .int .i64 0, .int .i64 0, .bool false, .int .i64 0, .int .i64 0, .int .i64 0, .int .i64 0, .int .i64 0, .int .i64 0, .int .i64 0, .int .i64 0, .int .i64 0, .int .i64 0] 40)
      have hbA := (Below.refl wr.heap.size wr).alloc (Nat.le_refl _) (.cells #[.int .i64 0, .int .i64 0, .int .i64 0, .bool false, .int .i64 0, .int .i64 0, .int .i64 0, .int .i64 0, .int .i64 0, .int .i64 0, .int .i64 0, .int .i64 0, .int .i64 0, .int .i64 0] 40)
      obtain ⟨U, hU⟩ : ∃ U, U = wr.alloc (.cells #[.int .i64 0, .int .i64 0, .int .i64 0, .bool false, .int .i64 0, .int .i64 0, .int .i64 0, .int .i64 0, .int .i64 0, .int .i64 0, .int .i64 0, .int .i64 0, .int .i64 0, .int .i64 0] 40) := ⟨_, rfl⟩
      rw [← hU] at hr0 hbA ⊢
      clear hU
      have fU := f0.below hbA (show g < wr.heap.size by omega)
      obtain ⟨p0, p1, p2, p3, p4, p5, p6, p7, p8, p9, p10, p11, p12, p13⟩ := fU
      go_wp2_with (refine wpList_store_whole (by rfl) 40 (.tmp 7) (.tmp 25) (by rfl) wr.heap.size _ _ x.cells (by rfl) (by rfl) hr0 (by rfl) (by kernel_rfl) (by intro v hv; simp only [Fc.cells, List.mem_cons, List.not_mem_nil, or_false] at hv; rcases hv with rfl | rfl | rfl | rfl | rfl | rfl | rfl | rfl | rfl | rfl | rfl | rfl | rfl | rfl <;> rfl) ?_; intro W hrow hbS; have fx : FcAt W wr.heap.size 0 x := fcAt_row hrow; obtain ⟨t0, t1, t2, t3, t4, t5, t6, t7, t8, t9, t10, t11, t12, t13⟩ := fx.of0)
      have hbW := hbA.trans (hbS _ (Nat.le_refl _))
      have hzW : wr.heap.size < W.heap.size := (Array.getElem?_eq_some_iff.1 hrow).1
      have hownW := own_underF hown hbW
      have fx0 : FcAt W wr.heap.size 0 x := fcAt_row hrow
      clear hr0 hbA hrow hbS hown f0 p0 p1 p2 p3 p4 p5 p6 p7 p8 p9 p10 p11 p12 p13 t0 t1 t2 t3 t4 t5 t6 t7 t8 t9 t10 t11 t12 t13
      refine (rvalidE HVX.out _).mono ?_
      rintro e w1 ⟨rfl, hb1⟩
      have fx1 := fx0.to hb1 hzW
      have hown1 := own_underF hownW hb1
      have hz1' := hb1.size
      have hbw1 := hb.trans ((hbW.mono hwsz).trans (hb1.mono (by omega)))
      clear hownW fx0 hbW hb1
      obtain ⟨K, hK⟩ : ∃ K, K = wr.heap.size := ⟨_, rfl⟩
      rw [← hK] at fx1 hzW hwsz ⊢
      have hzK : K < w1.heap.size := by omega
      clear hzW hz1' hgb hb hK
      go_wp2_with fail
      go_loopw [8] (fun i wq => ∃ a : Nat, a ≤ m ∧ i = .int .i64 (a : Int) ∧ (∀ q ∈ O.drop a, 0 < cmpF q x) ∧ FcAt wq K 0 x ∧ K < wq.heap.size ∧ wq.ownsRow w.heap.size 40 14 (.slice A1 m c1) m (flat Fc.cells O) ∧ Below w.heap.size w wq) (fun i _ => (intOf i).toNat)
      case atStart => exact ⟨m, Nat.le_refl _, rfl, (by rw [List.drop_of_length_le (by rw [HM.out]; exact Nat.le_refl m)]; intro q hq; cases hq), fx1, hzK, hown1, hbw1⟩
      case round =>
        obtain ⟨a, ha, rfl, hgt, fxq, hzK2, hownq, hbq⟩ := hrel
        have HGT := Lib.hid hgt
        have hqsz := hbq.size
        clear hgt fx1 hzK hown1 hbw1
        by_cases h0 : a = 0
        · have g1 : decide ((0 : Int) < (a : Int)) = false := decide_eq_false (by omega)
          have g2 : decide (0 < a) = false := decide_eq_false (by omega)
          have HA0 := Lib.hid h0
          clear h0
          have fxd : FcAt wr.drew K 0 x := fxq
          obtain ⟨t0, t1, t2, t3, t4, t5, t6, t7, t8, t9, t10, t11, t12, t13⟩ := fxq.of0
          go_upto_region 11 with (fail)
          go_quiet (fail)
          have hq1 : Below wr.heap.size wr (wr.drewN nq) := below_drewN (Below.refl _ _) nq
          obtain ⟨V1, hV1⟩ : ∃ V1, V1 = wr.drewN nq := ⟨_, rfl⟩
          rw [← hV1] at hq1 ⊢
          clear hV1 fxd
          have fx7 := fxq.to hq1 hzK2
          have own7 := own_underF hownq hq1
          have hb7 := hbq.trans (hq1.mono hqsz)
          have hz7 : K < V1.heap.size := Nat.lt_of_lt_of_le hzK2 hq1.size
          go_upto_region 13 with (fail)
          go_quiet (fail)
          have hq2 : Below V1.heap.size V1 (V1.drewN nq) := below_drewN (Below.refl _ _) nq
          obtain ⟨V, hV2⟩ : ∃ V, V = V1.drewN nq := ⟨_, rfl⟩
          rw [← hV2] at hq2 ⊢
          clear hV2
          have fx8 := fx7.to hq2 hz7
          have own8 := own_underF own7 hq2
          have hb8 := hb7.trans (hq2.mono hb7.size)
          have hz8 : K < V.heap.size := Nat.lt_of_lt_of_le hz7 hq2.size
          have HIN : Hid (insF x O = O.take a ++ x :: O.drop a) := Lib.hid (insF_new HAS.out HGT.out (.inl HA0.out))
          clear fx7 own7 hb7 hq1 hq2 t0 t1 t2 t3 t4 t5 t6 t7 t8 t9 t10 t11 t12 t13
          go_upto_region 16 with (fail)
          have hk0 : (0 : Int) ≤ (a : Int) := by omega
          have hkc : (a : Int) ≤ (c1 : Int) := by omega
          have hki : (a : Int) ≤ (m : Int) := by omega
          have ht : Rd V V.heap.size 14 (A1) a (flat Fc.cells (O.take a)) := by rw [fc_take]; exact (Rd.ofOwn own8).take ha
          have hd : Rd V V.heap.size 14 (if c1 = a then A1 else Option.map (fun x : Addr => x.add (a * 14)) A1) (m - a) (flat Fc.cells (O.drop a)) := by rw [fc_drop]; exact (Rd.ofOwn own8).drop ha hnc1
          have hwV := hb8.size
          obtain ⟨t0, t1, t2, t3, t4, t5, t6, t7, t8, t9, t10, t11, t12, t13⟩ := fx8.of0
          go_region_held3 (fun w' => (w'.cell? ⟨K, 0, none⟩ = some (.int .i64 x.i) ∧ w'.cell? ⟨K, 1, none⟩ = some (.int .i64 x.n) ∧ w'.cell? ⟨K, 2, none⟩ = some (.int .i64 x.v) ∧ w'.cell? ⟨K, 3, none⟩ = some (.bool x.g) ∧ w'.cell? ⟨K, 4, none⟩ = some (.int .i64 x.p) ∧ w'.cell? ⟨K, 5, none⟩ = some (.int .i64 x.k) ∧ w'.cell? ⟨K, 6, none⟩ = some (.int .i64 x.s) ∧ w'.cell? ⟨K, 7, none⟩ = some (.int .i64 x.f) ∧ w'.cell? ⟨K, 8, none⟩ = some (.int .i64 x.t) ∧ w'.cell? ⟨K, 9, none⟩ = some (.int .i64 x.e) ∧ w'.cell? ⟨K, 10, none⟩ = some (.int .i64 x.h) ∧ w'.cell? ⟨K, 11, none⟩ = some (.int .i64 x.c) ∧ w'.cell? ⟨K, 12, none⟩ = some (.int .i64 x.a) ∧ w'.cell? ⟨K, 13, none⟩ = some (.int .i64 x.r))) (go_keep)
            (first
              | (refine step_append_rd (by rfl) (.const (.slice none 0 0)) (.tmp 78) 24 (by rfl) V.heap.size 40 i0 _ 14 112 Try.underlying24 hi0 hz0 hz1 hz2 rfl (by omega) (.slice none 0 0) 0 [] (by rfl) (World.ownsRow_nil _ _ _ _) V.heap.size (A1) a c1 (flat Fc.cells (O.take a)) (by rfl) (by first | exact ht | exact ht.alloc (Nat.le_refl _) _) (fc_one _) (by unfold maxLen; omega) (by omega) (by simp) ?_
                 intro v1 w1 hown1 hg1 hat1
                 rw [Nat.zero_add, List.nil_append] at hown1
                 have b1 : Below V.heap.size V w1 := by first | exact (Below.refl _ _).drew.grown hg1 (Nat.le_refl _) (by simp [Value.ownBlock]) | exact ((Below.refl _ _).alloc (Nat.le_refl _) _).drew.grown hg1 (by simp) (by simp [Value.ownBlock])
                 have lo1 : ∀ g, v1.ownBlock = some g → V.heap.size ≤ g := fun g e => (hown1.lt g e).1
                 have bz1 := b1.size
                 have f1 := fx8.below b1 hz8
                 obtain ⟨p0, p1, p2, p3, p4, p5, p6, p7, p8, p9, p10, p11, p12, p13⟩ := f1.of0)
              | (refine step_append_rd (by rfl) (.tmp 79) (.tmp 81) 24 (by rfl) V.heap.size 40 i0 _ 14 112 Try.underlying24 hi0 hz0 hz1 hz2 rfl (by omega) v1 a (flat Fc.cells (O.take a)) (by rfl) (by first | exact hown1 | exact hown1.alloc _) (w1.heap.size + 1) (some ⟨_, 0, none⟩) 1 1 x.cells (by rfl) (by first | exact Rd.built (cs := x.cells.toArray) (heap_alloc_new w1 _) (by omega) rfl | exact Rd.built (cs := x.cells.toArray) ((hg1.block V.heap.size (by simp) (by simp [Value.ownBlock])).trans (heap_alloc_new V _)) (by omega) rfl) (by intro u hu; simp only [Fc.cells, List.mem_cons, List.not_mem_nil, or_false] at hu; rcases hu with rfl | rfl | rfl | rfl | rfl | rfl | rfl | rfl | rfl | rfl | rfl | rfl | rfl | rfl <;> rfl) (by unfold maxLen; omega) (by omega) (by first | exact bz1 | (simp; omega)) ?_
                 intro v2 w2 hown2 hg2 hat2
                 have b2 : Below V.heap.size V w2 := by first | exact b1.grown hg2 b1.size lo1 | exact (b1.alloc b1.size (.cells x.cells.toArray 40)).grown hg2 (by simp; omega) lo1
                 have lo2 : ∀ g, v2.ownBlock = some g → V.heap.size ≤ g := fun g e => (hown2.lt g e).1
                 have f2 := fx8.below b2 hz8
                 obtain ⟨q0, q1, q2, q3, q4, q5, q6, q7, q8, q9, q10, q11, q12, q13⟩ := f2.of0)
              | (refine step_append_rd (by rfl) (.tmp 82) (.tmp 85) 24 (by rfl) V.heap.size 40 i0 _ 14 112 Try.underlying24 hi0 hz0 hz1 hz2 rfl (by omega) v2 (a + 1) (flat Fc.cells (O.take a) ++ x.cells) (by rfl) hown2 V.heap.size _ (m - a) (c1 - a) (flat Fc.cells (O.drop a)) (by rfl) (hd.below b2) (fc_one _) (by unfold maxLen; omega) (by omega) b2.size ?_
                 intro v3 w3 hown3 hg3 hat3
                 have b3 : Below V.heap.size V w3 := b2.grown hg3 b2.size lo2
                 have f3 := fx8.below b3 hz8
                 obtain ⟨r0, r1, r2, r3, r4, r5, r6, r7, r8, r9, r10, r11, r12, r13⟩ := f3.of0))
          all_goals
            obtain ⟨A3, c3, rfl, hnc3, hcm3, hA3⟩ := own_form hown3
            have hbf := hb8.trans (b3.mono hwV)
            have hownf := ownsRow_base hown3 hwV
            clear t0 t1 t2 t3 t4 t5 t6 t7 t8 t9 t10 t11 t12 t13 p0 p1 p2 p3 p4 p5 p6 p7 p8 p9 p10 p11 p12 p13 q0 q1 q2 q3 q4 q5 q6 q7 q8 q9 q10 q11 q12 q13 r0 r1 r2 r3 r4 r5 r6 r7 r8 r9 r10 r11 r12 r13
            go_wp2_with fail
            go_roundw
            case rel => exact ⟨k + 1, a + 1 + (m - a), c3, A3, by omega, by go_num, rfl, by rw [HST.out, HIN.out, List.length_append, List.length_cons, List.length_take, List.length_drop, HM.out]; omega, by rw [HST.out, HIN.out, flat_append, flat_cons, ← List.append_assoc]; exact hownf, hbf⟩
            case measure => simp [intOf]; omega
        · obtain ⟨z, hz⟩ : ∃ z, O[a - 1]? = some z := ⟨_, List.getElem?_eq_getElem (by rw [HM.out]; omega)⟩
          have HZ := Lib.hid hz
          have HVZ := Lib.hid (HKV.out z (List.mem_of_getElem? hz))
          obtain ⟨_, gz, oz, hA1, hgz, fz⟩ := fc_cells (Rd.ofOwn hownq) hz
          subst hA1
          have hoz : oz = 0 := by
            obtain ⟨A', c', e0, _, _, hA'⟩ := own_form hownq
            injection e0 with e0 _ _
            obtain ⟨g', e, _⟩ := hA' (by omega)
            rw [← e0] at e
            injection e with e
            injection e
          subst hoz
          rw [Nat.zero_add] at fz
          obtain ⟨d, hd⟩ : ∃ d, idF z x = d := ⟨_, rfl⟩
          have HD := Lib.hid hd
          clear hz hd
          have h1 : (0 : Int) < (a : Int) := by omega
          have hown3 := own_drewF hownq
          have hbq3 := hbq.drew
          have h2 : (0 : Int) ≤ (a : Int) - 1 := by omega
          have h4 : (1 : Int) ≤ (a : Int) := by omega
          have h5 : 1 ≤ a := by omega
          have h6 : 0 < a := by omega
          have hw2 : ((a : Int) - 1).toNat = a - 1 := Int.toNat_sub a 1
          have hw1 : IntKind.i64.wrap ((a : Int) - 1) = (a : Int) - 1 := IntWalk.i64_in _ (by omega)
          have h3 : (a : Int) - 1 < (m : Int) := by omega
          have fzd : FcAt wr.drew gz ((a - 1) * 14) z := fz
          have fxd : FcAt wr.drew K 0 x := fxq
          obtain ⟨p0, p1, p2, p3, p4, p5, p6, p7, p8, p9, p10, p11, p12, p13⟩ := fz
          obtain ⟨t0, t1, t2, t3, t4, t5, t6, t7, t8, t9, t10, t11, t12, t13⟩ := fxq.of0
          go_upto_region 11 with (fail)
          have hzq : K < wr.drew.heap.size := hzK2
          have hgzd : gz < wr.drew.heap.size := hgz
          go_region_held3 (fun w' => (w'.cell? ⟨gz, (a - 1) * 14, none⟩ = some (.int .i64 z.i) ∧ w'.cell? ⟨gz, (a - 1) * 14 + 1, none⟩ = some (.int .i64 z.n) ∧ w'.cell? ⟨gz, (a - 1) * 14 + 2, none⟩ = some (.int .i64 z.v) ∧ w'.cell? ⟨gz, (a - 1) * 14 + 3, none⟩ = some (.bool z.g) ∧ w'.cell? ⟨gz, (a - 1) * 14 + 4, none⟩ = some (.int .i64 z.p) ∧ w'.cell? ⟨gz, (a - 1) * 14 + 5, none⟩ = some (.int .i64 z.k) ∧ w'.cell? ⟨gz, (a - 1) * 14 + 6, none⟩ = some (.int .i64 z.s) ∧ w'.cell? ⟨gz, (a - 1) * 14 + 7, none⟩ = some (.int .i64 z.f) ∧ w'.cell? ⟨gz, (a - 1) * 14 + 8, none⟩ = some (.int .i64 z.t) ∧ w'.cell? ⟨gz, (a - 1) * 14 + 9, none⟩ = some (.int .i64 z.e) ∧ w'.cell? ⟨gz, (a - 1) * 14 + 10, none⟩ = some (.int .i64 z.h) ∧ w'.cell? ⟨gz, (a - 1) * 14 + 11, none⟩ = some (.int .i64 z.c) ∧ w'.cell? ⟨gz, (a - 1) * 14 + 12, none⟩ = some (.int .i64 z.a) ∧ w'.cell? ⟨gz, (a - 1) * 14 + 13, none⟩ = some (.int .i64 z.r)) ∧ (w'.cell? ⟨K, 0, none⟩ = some (.int .i64 x.i) ∧ w'.cell? ⟨K, 1, none⟩ = some (.int .i64 x.n) ∧ w'.cell? ⟨K, 2, none⟩ = some (.int .i64 x.v) ∧ w'.cell? ⟨K, 3, none⟩ = some (.bool x.g) ∧ w'.cell? ⟨K, 4, none⟩ = some (.int .i64 x.p) ∧ w'.cell? ⟨K, 5, none⟩ = some (.int .i64 x.k) ∧ w'.cell? ⟨K, 6, none⟩ = some (.int .i64 x.s) ∧ w'.cell? ⟨K, 7, none⟩ = some (.int .i64 x.f) ∧ w'.cell? ⟨K, 8, none⟩ = some (.int .i64 x.t) ∧ w'.cell? ⟨K, 9, none⟩ = some (.int .i64 x.e) ∧ w'.cell? ⟨K, 10, none⟩ = some (.int .i64 x.h) ∧ w'.cell? ⟨K, 11, none⟩ = some (.int .i64 x.c) ∧ w'.cell? ⟨K, 12, none⟩ = some (.int .i64 x.a) ∧ w'.cell? ⟨K, 13, none⟩ = some (.int .i64 x.r))) (go_keep)
            (first
              | (go_at_call 17; ((with_reducible refine (rid_to HVZ.out HVX.out HD.out _).mono ?_)); rintro e u ⟨rfl, hbu⟩
                 have fzu := fzd.to hbu hgzd
                 have fxu := fxd.to hbu hzq
                 obtain ⟨s0, s1, s2, s3, s4, s5, s6, s7, s8, s9, s10, s11, s12, s13⟩ := fzu
                 obtain ⟨r0, r1, r2, r3, r4, r5, r6, r7, r8, r9, r10, r11, r12, r13⟩ := fxu.of0))
          have hownu := own_underF hown3 hbu
          have hbfu := hbq3.trans (hbu.mono hbq3.size)
          have hzu : K < u.heap.size := Nat.lt_of_lt_of_le hzK2 hbu.size
          have fxu : FcAt u K 0 x := fxd.to hbu hzq
          have fzv : FcAt u gz ((a - 1) * 14) z := fzd.to hbu hgzd
          by_cases hd0 : 0 < d
          · have hd1 : decide (0 < d) = true := decide_eq_true hd0
            have HGT2 : Hid (∀ q ∈ O.drop (a - 1), 0 < cmpF q x) := Lib.hid (by
              intro q hq
              have hal : a - 1 < O.length := by rw [HM.out]; omega
              rw [List.drop_eq_getElem_cons hal] at hq
              rcases List.mem_cons.1 hq with rfl | hq
              · have e : O[a - 1] = z := (List.getElem?_eq_some_iff.1 HZ.out).2
                rw [e]
                exact (idF_pos z x).1 (by rw [HD.out]; exact hd0)
              · rw [show a - 1 + 1 = a by omega] at hq
                exact HGT.out q hq)
            clear fzd fxd p0 p1 p2 p3 p4 p5 p6 p7 p8 p9 p10 p11 p12 p13 t0 t1 t2 t3 t4 t5 t6 t7 t8 t9 t10 t11 t12 t13 s0 s1 s2 s3 s4 s5 s6 s7 s8 s9 s10 s11 s12 s13 r0 r1 r2 r3 r4 r5 r6 r7 r8 r9 r10 r11 r12 r13
            go_wp2_with fail
            go_roundw
            case rel => exact ⟨a - 1, by omega, by congr 1; omega, HGT2.out, fxu, hzu, hownu, hbfu⟩
            case measure => simp [intOf]; omega
          · have hd1 : decide (0 < d) = false := decide_eq_false hd0
            clear fzd fxd p0 p1 p2 p3 p4 p5 p6 p7 p8 p9 p10 p11 p12 p13 t0 t1 t2 t3 t4 t5 t6 t7 t8 t9 t10 t11 t12 t13 s0 s1 s2 s3 s4 s5 s6 s7 s8 s9 s10 s11 s12 s13 r0 r1 r2 r3 r4 r5 r6 r7 r8 r9 r10 r11 r12 r13
            have fze : FcAt u.drew gz ((a - 1) * 14) z := fzv
            have fxe : FcAt u.drew K 0 x := fxu
            have hzq2 : K < u.drew.heap.size := hzu
            have hgz2 : gz < u.drew.heap.size := Nat.lt_of_lt_of_le hgz hbu.size
            have hown5 := own_drewF hownu
            have hb5 := hbfu.drew
            obtain ⟨p0, p1, p2, p3, p4, p5, p6, p7, p8, p9, p10, p11, p12, p13⟩ := fzv
            obtain ⟨t0, t1, t2, t3, t4, t5, t6, t7, t8, t9, t10, t11, t12, t13⟩ := fxu.of0
            go_upto_region 13 with (fail)
            go_region_held3 (fun w' => (w'.cell? ⟨gz, (a - 1) * 14, none⟩ = some (.int .i64 z.i) ∧ w'.cell? ⟨gz, (a - 1) * 14 + 1, none⟩ = some (.int .i64 z.n) ∧ w'.cell? ⟨gz, (a - 1) * 14 + 2, none⟩ = some (.int .i64 z.v) ∧ w'.cell? ⟨gz, (a - 1) * 14 + 3, none⟩ = some (.bool z.g) ∧ w'.cell? ⟨gz, (a - 1) * 14 + 4, none⟩ = some (.int .i64 z.p) ∧ w'.cell? ⟨gz, (a - 1) * 14 + 5, none⟩ = some (.int .i64 z.k) ∧ w'.cell? ⟨gz, (a - 1) * 14 + 6, none⟩ = some (.int .i64 z.s) ∧ w'.cell? ⟨gz, (a - 1) * 14 + 7, none⟩ = some (.int .i64 z.f) ∧ w'.cell? ⟨gz, (a - 1) * 14 + 8, none⟩ = some (.int .i64 z.t) ∧ w'.cell? ⟨gz, (a - 1) * 14 + 9, none⟩ = some (.int .i64 z.e) ∧ w'.cell? ⟨gz, (a - 1) * 14 + 10, none⟩ = some (.int .i64 z.h) ∧ w'.cell? ⟨gz, (a - 1) * 14 + 11, none⟩ = some (.int .i64 z.c) ∧ w'.cell? ⟨gz, (a - 1) * 14 + 12, none⟩ = some (.int .i64 z.a) ∧ w'.cell? ⟨gz, (a - 1) * 14 + 13, none⟩ = some (.int .i64 z.r)) ∧ (w'.cell? ⟨K, 0, none⟩ = some (.int .i64 x.i) ∧ w'.cell? ⟨K, 1, none⟩ = some (.int .i64 x.n) ∧ w'.cell? ⟨K, 2, none⟩ = some (.int .i64 x.v) ∧ w'.cell? ⟨K, 3, none⟩ = some (.bool x.g) ∧ w'.cell? ⟨K, 4, none⟩ = some (.int .i64 x.p) ∧ w'.cell? ⟨K, 5, none⟩ = some (.int .i64 x.k) ∧ w'.cell? ⟨K, 6, none⟩ = some (.int .i64 x.s) ∧ w'.cell? ⟨K, 7, none⟩ = some (.int .i64 x.f) ∧ w'.cell? ⟨K, 8, none⟩ = some (.int .i64 x.t) ∧ w'.cell? ⟨K, 9, none⟩ = some (.int .i64 x.e) ∧ w'.cell? ⟨K, 10, none⟩ = some (.int .i64 x.h) ∧ w'.cell? ⟨K, 11, none⟩ = some (.int .i64 x.c) ∧ w'.cell? ⟨K, 12, none⟩ = some (.int .i64 x.a) ∧ w'.cell? ⟨K, 13, none⟩ = some (.int .i64 x.r))) (go_keep)
              (first
                | (go_at_call 17; ((with_reducible refine (rid_to HVZ.out HVX.out HD.out _).mono ?_)); rintro e v ⟨rfl, hbv⟩
                   have fz7 := fze.to hbv hgz2
                   have fx7 := fxe.to hbv hzq2
                   obtain ⟨s0, s1, s2, s3, s4, s5, s6, s7, s8, s9, s10, s11, s12, s13⟩ := fz7
                   obtain ⟨r0, r1, r2, r3, r4, r5, r6, r7, r8, r9, r10, r11, r12, r13⟩ := fx7.of0))
            have hownv := own_underF hown5 hbv
            have hbfv := hb5.trans (hbv.mono hb5.size)
            have hzv : K < v.heap.size := Nat.lt_of_lt_of_le hzu hbv.size
            have hgzv : gz < v.heap.size := Nat.lt_of_lt_of_le hgz2 hbv.size
            have fxv : FcAt v K 0 x := fxe.to hbv hzq2
            have fzw : FcAt v gz ((a - 1) * 14) z := fze.to hbv hgz2
            clear fze fxe p0 p1 p2 p3 p4 p5 p6 p7 p8 p9 p10 p11 p12 p13 t0 t1 t2 t3 t4 t5 t6 t7 t8 t9 t10 t11 t12 t13 s0 s1 s2 s3 s4 s5 s6 s7 s8 s9 s10 s11 s12 s13 r0 r1 r2 r3 r4 r5 r6 r7 r8 r9 r10 r11 r12 r13
            by_cases hde : d = 0
            · have hde1 : (d == 0) = true := beq_iff_eq.2 hde
              have HC0 : Hid (cmpF z x = 0) := Lib.hid ((idF_zero z x).1 (by rw [HD.out]; exact hde))
              clear hde
              obtain ⟨lb, hlb⟩ : ∃ lb, lessF z x = lb := ⟨_, rfl⟩
              have HLB := Lib.hid hlb
              clear hlb
              have fz8 : FcAt v.drew gz ((a - 1) * 14) z := fzw
              have fx8 : FcAt v.drew K 0 x := fxv
              have hzd8 : K < v.drew.heap.size := hzv
              have hgd8 : gz < v.drew.heap.size := hgzv
              have own8 := own_drewF hownv
              have hb8 := hbfv.drew
              obtain ⟨p0, p1, p2, p3, p4, p5, p6, p7, p8, p9, p10, p11, p12, p13⟩ := fzw
              obtain ⟨t0, t1, t2, t3, t4, t5, t6, t7, t8, t9, t10, t11, t12, t13⟩ := fxv.of0
              go_upto_region 14 with (fail)
              go_region_held3 (fun w' => (w'.cell? ⟨gz, (a - 1) * 14, none⟩ = some (.int .i64 z.i) ∧ w'.cell? ⟨gz, (a - 1) * 14 + 1, none⟩ = some (.int .i64 z.n) ∧ w'.cell? ⟨gz, (a - 1) * 14 + 2, none⟩ = some (.int .i64 z.v) ∧ w'.cell? ⟨gz, (a - 1) * 14 + 3, none⟩ = some (.bool z.g) ∧ w'.cell? ⟨gz, (a - 1) * 14 + 4, none⟩ = some (.int .i64 z.p) ∧ w'.cell? ⟨gz, (a - 1) * 14 + 5, none⟩ = some (.int .i64 z.k) ∧ w'.cell? ⟨gz, (a - 1) * 14 + 6, none⟩ = some (.int .i64 z.s) ∧ w'.cell? ⟨gz, (a - 1) * 14 + 7, none⟩ = some (.int .i64 z.f) ∧ w'.cell? ⟨gz, (a - 1) * 14 + 8, none⟩ = some (.int .i64 z.t) ∧ w'.cell? ⟨gz, (a - 1) * 14 + 9, none⟩ = some (.int .i64 z.e) ∧ w'.cell? ⟨gz, (a - 1) * 14 + 10, none⟩ = some (.int .i64 z.h) ∧ w'.cell? ⟨gz, (a - 1) * 14 + 11, none⟩ = some (.int .i64 z.c) ∧ w'.cell? ⟨gz, (a - 1) * 14 + 12, none⟩ = some (.int .i64 z.a) ∧ w'.cell? ⟨gz, (a - 1) * 14 + 13, none⟩ = some (.int .i64 z.r)) ∧ (w'.cell? ⟨K, 0, none⟩ = some (.int .i64 x.i) ∧ w'.cell? ⟨K, 1, none⟩ = some (.int .i64 x.n) ∧ w'.cell? ⟨K, 2, none⟩ = some (.int .i64 x.v) ∧ w'.cell? ⟨K, 3, none⟩ = some (.bool x.g) ∧ w'.cell? ⟨K, 4, none⟩ = some (.int .i64 x.p) ∧ w'.cell? ⟨K, 5, none⟩ = some (.int .i64 x.k) ∧ w'.cell? ⟨K, 6, none⟩ = some (.int .i64 x.s) ∧ w'.cell? ⟨K, 7, none⟩ = some (.int .i64 x.f) ∧ w'.cell? ⟨K, 8, none⟩ = some (.int .i64 x.t) ∧ w'.cell? ⟨K, 9, none⟩ = some (.int .i64 x.e) ∧ w'.cell? ⟨K, 10, none⟩ = some (.int .i64 x.h) ∧ w'.cell? ⟨K, 11, none⟩ = some (.int .i64 x.c) ∧ w'.cell? ⟨K, 12, none⟩ = some (.int .i64 x.a) ∧ w'.cell? ⟨K, 13, none⟩ = some (.int .i64 x.r))) (go_keep)
                (first
                  | (go_at_call 18; ((with_reducible refine (rless_to HVZ.out HVX.out HC0.out HLB.out _).mono ?_)); rintro e y ⟨rfl, hby⟩
                     have fz9 := fz8.to hby hgd8
                     have fx9 := fx8.to hby hzd8
                     obtain ⟨s0, s1, s2, s3, s4, s5, s6, s7, s8, s9, s10, s11, s12, s13⟩ := fz9
                     obtain ⟨r0, r1, r2, r3, r4, r5, r6, r7, r8, r9, r10, r11, r12, r13⟩ := fx9.of0))
              have hown9 := own_underF own8 hby
              have hb9 := hb8.trans (hby.mono hb8.size)
              cases lb with
              | false =>
                have HIN : Hid (insF x O = O) := Lib.hid (by rw [insF_there HAS.out HZ.out HC0.out, show grF z x = z by unfold grF; rw [HLB.out]; rfl, set_sameF O _ z HZ.out])
                clear fz8 fx8 p0 p1 p2 p3 p4 p5 p6 p7 p8 p9 p10 p11 p12 p13 t0 t1 t2 t3 t4 t5 t6 t7 t8 t9 t10 t11 t12 t13 s0 s1 s2 s3 s4 s5 s6 s7 s8 s9 s10 s11 s12 s13 r0 r1 r2 r3 r4 r5 r6 r7 r8 r9 r10 r11 r12 r13
                go_wp2_with fail
                go_roundw
                case rel => exact ⟨k + 1, m, c1, _, by omega, by go_num, rfl, by rw [HST.out, HIN.out]; exact HM.out, by rw [HST.out, HIN.out]; exact hown9, hb9⟩
                case measure => simp [intOf]; omega
              | true =>
                have HIN : Hid (insF x O = O.set (a - 1) x) := Lib.hid (by rw [insF_there HAS.out HZ.out HC0.out, show grF z x = x by unfold grF; rw [HLB.out]; rfl])
                have hka : a - 1 < O.length := by rw [HM.out]; omega
                go_wp2_with (refine wpList_store_own (by rfl) (.tmp 75) (.tmp 74) (by rfl) w.heap.size gz (a - 1) m c1 O x (by rfl) (by rfl) hown9 hka ?_; intro W5 hown5' hb5')
                have hbf := hb9.trans hb5'
                clear fz8 fx8 p0 p1 p2 p3 p4 p5 p6 p7 p8 p9 p10 p11 p12 p13 t0 t1 t2 t3 t4 t5 t6 t7 t8 t9 t10 t11 t12 t13 s0 s1 s2 s3 s4 s5 s6 s7 s8 s9 s10 s11 s12 s13 r0 r1 r2 r3 r4 r5 r6 r7 r8 r9 r10 r11 r12 r13
                go_wp2_with fail
                go_roundw
                case rel => exact ⟨k + 1, m, c1, _, by omega, by go_num, rfl, by rw [HST.out, HIN.out, List.length_set]; exact HM.out, by rw [HST.out, HIN.out]; exact hown5', hbf⟩
                case measure => simp [intOf]; omega
            · have hde1 : (d == 0) = false := beq_eq_false_iff_ne.2 hde
              have HCN : Hid (cmpF z x < 0) := Lib.hid (by
                have q1 := idF_zero z x
                have q2 := idF_pos z x
                rw [HD.out] at q1 q2
                omega)
              have HIN : Hid (insF x O = O.take a ++ x :: O.drop a) := Lib.hid (insF_new HAS.out HGT.out (.inr ⟨z, HZ.out, HCN.out⟩))
              clear hde
              go_upto_region 16 with (fail)
              have hk0 : (0 : Int) ≤ (a : Int) := by omega
              have hkc : (a : Int) ≤ (c1 : Int) := by omega
              have hki : (a : Int) ≤ (m : Int) := by omega
              have ht : Rd v v.heap.size 14 (some ⟨gz, 0, none⟩) a (flat Fc.cells (O.take a)) := by rw [fc_take]; exact (Rd.ofOwn hownv).take ha
              have hd : Rd v v.heap.size 14 (if c1 = a then some ⟨gz, 0, none⟩ else some ⟨gz, a * 14, none⟩) (m - a) (flat Fc.cells (O.drop a)) := by rw [fc_drop]; simpa [addAt] using (Rd.ofOwn hownv).drop ha hnc1
              have hwV := hbfv.size
              obtain ⟨t0, t1, t2, t3, t4, t5, t6, t7, t8, t9, t10, t11, t12, t13⟩ := fxv.of0
              go_region_held3 (fun w' => (w'.cell? ⟨K, 0, none⟩ = some (.int .i64 x.i) ∧ w'.cell? ⟨K, 1, none⟩ = some (.int .i64 x.n) ∧ w'.cell? ⟨K, 2, none⟩ = some (.int .i64 x.v) ∧ w'.cell? ⟨K, 3, none⟩ = some (.bool x.g) ∧ w'.cell? ⟨K, 4, none⟩ = some (.int .i64 x.p) ∧ w'.cell? ⟨K, 5, none⟩ = some (.int .i64 x.k) ∧ w'.cell? ⟨K, 6, none⟩ = some (.int .i64 x.s) ∧ w'.cell? ⟨K, 7, none⟩ = some (.int .i64 x.f) ∧ w'.cell? ⟨K, 8, none⟩ = some (.int .i64 x.t) ∧ w'.cell? ⟨K, 9, none⟩ = some (.int .i64 x.e) ∧ w'.cell? ⟨K, 10, none⟩ = some (.int .i64 x.h) ∧ w'.cell? ⟨K, 11, none⟩ = some (.int .i64 x.c) ∧ w'.cell? ⟨K, 12, none⟩ = some (.int .i64 x.a) ∧ w'.cell? ⟨K, 13, none⟩ = some (.int .i64 x.r))) (go_keep)
                (first
                  | (refine step_append_rd (by rfl) (.const (.slice none 0 0)) (.tmp 78) 24 (by rfl) v.heap.size 40 i0 _ 14 112 Try.underlying24 hi0 hz0 hz1 hz2 rfl (by omega) (.slice none 0 0) 0 [] (by rfl) (World.ownsRow_nil _ _ _ _) v.heap.size (some ⟨gz, 0, none⟩) a c1 (flat Fc.cells (O.take a)) (by rfl) (by first | exact ht | exact ht.alloc (Nat.le_refl _) _) (fc_one _) (by unfold maxLen; omega) (by omega) (by simp) ?_
                     intro v1 w1 hown1 hg1 hat1
                     rw [Nat.zero_add, List.nil_append] at hown1
                     have b1 : Below v.heap.size v w1 := by first | exact (Below.refl _ _).drew.grown hg1 (Nat.le_refl _) (by simp [Value.ownBlock]) | exact ((Below.refl _ _).alloc (Nat.le_refl _) _).drew.grown hg1 (by simp) (by simp [Value.ownBlock])
                     have lo1 : ∀ g, v1.ownBlock = some g → v.heap.size ≤ g := fun g e => (hown1.lt g e).1
                     have bz1 := b1.size
                     have f1 := fxv.below b1 hzv
                     obtain ⟨p0, p1, p2, p3, p4, p5, p6, p7, p8, p9, p10, p11, p12, p13⟩ := f1.of0)
                  | (refine step_append_rd (by rfl) (.tmp 79) (.tmp 81) 24 (by rfl) v.heap.size 40 i0 _ 14 112 Try.underlying24 hi0 hz0 hz1 hz2 rfl (by omega) v1 a (flat Fc.cells (O.take a)) (by rfl) (by first | exact hown1 | exact hown1.alloc _) (w1.heap.size + 1) (some ⟨_, 0, none⟩) 1 1 x.cells (by rfl) (by first | exact Rd.built (cs := x.cells.toArray) (heap_alloc_new w1 _) (by omega) rfl | exact Rd.built (cs := x.cells.toArray) ((hg1.block v.heap.size (by simp) (by simp [Value.ownBlock])).trans (heap_alloc_new v _)) (by omega) rfl) (by intro u hu; simp only [Fc.cells, List.mem_cons, List.not_mem_nil, or_false] at hu; rcases hu with rfl | rfl | rfl | rfl | rfl | rfl | rfl | rfl | rfl | rfl | rfl | rfl | rfl | rfl <;> rfl) (by unfold maxLen; omega) (by omega) (by first | exact bz1 | (simp; omega)) ?_
                     intro v2 w2 hown2 hg2 hat2
                     have b2 : Below v.heap.size v w2 := by first | exact b1.grown hg2 b1.size lo1 | exact (b1.alloc b1.size (.cells x.cells.toArray 40)).grown hg2 (by simp; omega) lo1
                     have lo2 : ∀ g, v2.ownBlock = some g → v.heap.size ≤ g := fun g e => (hown2.lt g e).1
                     have f2 := fxv.below b2 hzv
                     obtain ⟨q0, q1, q2, q3, q4, q5, q6, q7, q8, q9, q10, q11, q12, q13⟩ := f2.of0)
                  | (refine step_append_rd (by rfl) (.tmp 82) (.tmp 85) 24 (by rfl) v.heap.size 40 i0 _ 14 112 Try.underlying24 hi0 hz0 hz1 hz2 rfl (by omega) v2 (a + 1) (flat Fc.cells (O.take a) ++ x.cells) (by rfl) hown2 v.heap.size _ (m - a) (c1 - a) (flat Fc.cells (O.drop a)) (by rfl) (hd.below b2) (fc_one _) (by unfold maxLen; omega) (by omega) b2.size ?_
                     intro v3 w3 hown3 hg3 hat3
                     have b3 : Below v.heap.size v w3 := b2.grown hg3 b2.size lo2
                     have f3 := fxv.below b3 hzv
                     obtain ⟨r0, r1, r2, r3, r4, r5, r6, r7, r8, r9, r10, r11, r12, r13⟩ := f3.of0))
              all_goals
                obtain ⟨A3, c3, rfl, hnc3, hcm3, hA3⟩ := own_form hown3
                have hbf := hbfv.trans (b3.mono hwV)
                have hownf := ownsRow_base hown3 hwV
                clear t0 t1 t2 t3 t4 t5 t6 t7 t8 t9 t10 t11 t12 t13 p0 p1 p2 p3 p4 p5 p6 p7 p8 p9 p10 p11 p12 p13 q0 q1 q2 q3 q4 q5 q6 q7 q8 q9 q10 q11 q12 q13 r0 r1 r2 r3 r4 r5 r6 r7 r8 r9 r10 r11 r12 r13
                go_wp2_with fail
                go_roundw
                case rel => exact ⟨k + 1, a + 1 + (m - a), c3, A3, by omega, by go_num, rfl, by rw [HST.out, HIN.out, List.length_append, List.length_cons, List.length_take, List.length_drop, HM.out]; omega, by rw [HST.out, HIN.out, flat_append, flat_cons, ← List.append_assoc]; exact hownf, hbf⟩
                case measure => simp [intOf]; omega
    · have hkN : L.take k = L := List.take_of_length_le (by have := HL.out; omega)
      rw [hkN] at hown HM
      go_wp2_with fail
      go_ret
      exact ⟨A1, m, c1, rfl, HM.out, hown, hb⟩
end Go.Proofs.Ytbogmkhoppffgaa
