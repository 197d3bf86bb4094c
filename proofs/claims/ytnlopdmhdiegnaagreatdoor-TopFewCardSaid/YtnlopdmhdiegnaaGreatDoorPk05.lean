/- Lemmas (no conditions): Tkc, Tkd -/
import Derived.Test.YtnlopdmhdiegnaaGreatDoorPk03
set_option linter.unusedSimpArgs false
set_option linter.unusedVariables false
set_option maxRecDepth 100000
set_option maxHeartbeats 64000000
namespace Go.Proofs.YtnlopdmhdiegnaaGreatDoor
open Go.RowKit
section
theorem floorP_one (x : Nat) (hx : x <= 1000000000000000) (w : World) :
  Calls Tryz.prog 94 #[.agg #[.int .i64 (x : Int), .int .i64 1]] w fun e w' => e = .returned (.tuple #[.int .i64 (x : Int), .int .i64 0]) /\ Below w.heap.size w w' := by
 have hv := fun u => validP_ok x 1 hx (by omega) (by omega) (Nat.gcd_one_right x) u
 have d1 : (x : Int).tdiv 1 = (x : Int) := Int.tdiv_one _
 have d2 : (x : Int).tmod 1 = 0 := Int.tmod_one _
 have hr := heap_alloc_new w (.cells #[.int .i64 (x : Int), .int .i64 1] 49)
 have hbel := (Below.refl w.heap.size w).alloc (Nat.le_refl _) (.cells #[.int .i64 (x : Int), .int .i64 1] 49)
 go_enter Tryz.func94, Tryz.ntmps94
 go_wp2_with fail
 refine (hv _).mono ?_
 rintro e w1 ⟨rfl, hb⟩
 have r1 := (hb.block w.heap.size (by simp)).trans hr
 have f0 : w1.cell? ⟨w.heap.size, 0, none⟩ = some (.int .i64 (x : Int)) := by rw [cell_of_row _ _ _ _ _ _ r1]; rfl
 have f1 : w1.cell? ⟨w.heap.size, 1, none⟩ = some (.int .i64 1) := by rw [cell_of_row _ _ _ _ _ _ r1]; rfl
 have hbb := hbel.trans (hb.mono hbel.size)
 clear r1 hr hb hbel hv
 go_wp2_with fail
 go_ret2
 exact ⟨rfl, hbb⟩
theorem cut_none (l : By) (h : ∀ c ∈ l, c ≠ 46) : Lib.cut l [46] = (l, [], false) := by
 have hi : Lib.index l [46] = -1 := by
  refine Lib.index_none fun j _ => ?_
  unfold Lib.occAt
  cases hd : l.drop j with
  | nil => rfl
  | cons b r =>
   have hb : b ∈ l := List.mem_of_mem_drop (i := j) (by rw [hd]; exact List.mem_cons_self)
   have := h b hb
   simp [List.isPrefixOf, Ne.symm this]
 unfold Lib.cut
 rw [hi]
 rfl
theorem bs_list (l : By) : (bs l).data.toList = l := rfl
theorem dgl_no46 (n : Nat) : ∀ c ∈ dgl n, c ≠ 46 := by
 intro c hc e
 have := dgl_dig n c hc
 rw [e] at this
 exact absurd this.1 (by decide)
def sufB (dim : Nat) : By := if dim = 3 then [100] else if dim = 4 then [109] else []
theorem ne_int {a b : Nat} (h : a ≠ b) : ((a : Int) == (b : Int)) = false := beq_eq_false_iff_ne.2 (by omega)
structure Suf (S L : ByteArray) (dim : Int) : Prop where
 pos : 0 < S.size
 d : dim = 3 -> S[S.size - 1]!.toNat = 100 /\ S.extract 0 (S.size - 1) = L
 m : dim = 4 -> S[S.size - 1]!.toNat = 109 /\ S.extract 0 (S.size - 1) = L
 n : dim = 2 -> S[S.size - 1]!.toNat ≠ 100 /\ S[S.size - 1]!.toNat ≠ 109 /\ S = L
theorem bs_bang (l : By) (k : Nat) (h : k < l.length) : (bs l)[k]! = l[k] := by
 rw [getElem!_pos (bs l) k (by rw [bs_size]; exact h), bs_get]
theorem suf_ok (l : By) (dim : Int) (hl : ∀ c ∈ l, 48 <= c.toNat /\ c.toNat <= 57) (hp : 1 <= l.length) (hd : dim = 2 ∨ dim = 3 ∨ dim = 4) : Suf (bs (l ++ sufB dim.toNat)) (bs l) dim := by
 rcases hd with rfl | rfl | rfl
 ·have e : l ++ sufB (2 : Int).toNat = l := by simp [sufB]
  rw [e]
  refine ⟨by rw [bs_size]; omega, fun h => (by cases h), fun h => (by cases h), fun _ => ?_⟩
  rw [bs_size, bs_bang l (l.length - 1) (by omega)]
  have := hl _ (List.getElem_mem (show l.length - 1 < l.length by omega))
  exact ⟨by omega, by omega, rfl⟩
 ·have e : l ++ sufB (3 : Int).toNat = l ++ [100] := by simp [sufB]
  rw [e]
  refine ⟨by rw [bs_size]; simp, fun _ => ?_, fun h => (by cases h), fun h => (by cases h)⟩
  have e2 : (l ++ [(100 : UInt8)]).length - 1 = l.length := by simp
  rw [bs_size, e2, bs_bang _ _ (by simp), bs_ext]
  simp
 ·have e : l ++ sufB (4 : Int).toNat = l ++ [109] := by simp [sufB]
  rw [e]
  refine ⟨by rw [bs_size]; simp, fun h => (by cases h), fun _ => ?_, fun h => (by cases h)⟩
  have e2 : (l ++ [(109 : UInt8)]).length - 1 = l.length := by simp
  rw [bs_size, e2, bs_bang _ _ (by simp), bs_ext]
  simp
theorem arr2_law (k : Nat) (hk : k < 2) (u : World) : (Instr.index 272 (.agg #[.int .i64 2, .int .i64 5]) (.int .i64 (k : Int))).run Tryz.prog u = .ok (.int .i64 (if k = 0 then 2 else 5)) u := by
 unfold Instr.index
 match k, hk with
 | 0, _ => simp [run_underlying Tryz.underlying272, asIntOf, part, go_sem]
 | 1, _ => simp [run_underlying Tryz.underlying272, asIntOf, part, go_sem]
theorem iter_box (w1 : World) (g : Nat) (w : World) (hb : Below g w w1) (hg : g < w1.heap.size) (hr : w1.heap[g]? = some (.cells #[.int .i64 0, .int .i64 0] 49)) :
  ∃ W3, (w1.setCell ⟨g, 1, none⟩ (.int .i64 1)).iter ⟨#[]⟩ 0 = W3 /\ (∀ ty, (Instr.next (.pointer (some ⟨w1.heap.size, 0, none⟩)) true ty).run Tryz.prog W3 = .ok (.tuple #[.bool false]) W3) /\ Below g w W3 /\ W3.heap[g]? = some (.cells #[.int .i64 0, .int .i64 1] 49) := by
 refine ⟨_, rfl, fun ty => ?_, ?_, ?_⟩
 ·have h := run_next_end (P := Tryz.prog) (w1.setCell ⟨g, 1, none⟩ (.int .i64 1)) ⟨#[]⟩ 0 ty (by decide)
  have e : (w1.setCell ⟨g, 1, none⟩ (.int .i64 1)).heap.size = w1.heap.size := by simp
  rw [e] at h
  exact h
 ·exact (hb.setCell (p := ⟨g, 1, none⟩) (Nat.le_refl _) _).alloc (by simp; omega) _
 ·show ((w1.setCell ⟨g, 1, none⟩ (.int .i64 1)).alloc (.stringIter ⟨#[]⟩ 0)).heap[g]? = _
  rw [(Go.MapKept.heap_alloc _ _).2 g (by simp; exact hg), heap_setCell_same w1 g 1 _ _ (.int .i64 1) hr]
  rfl
theorem dec_core (S : ByteArray) (l : By) (dim : Int) (n : Nat) (hS : Suf S (bs l) dim) (hd : dim = 2 ∨ dim = 3 ∨ dim = 4) (hsl : S.size <= 100000) (hp : 1 <= l.length) (h9 : l.length <= 9) (hdg : ∀ c ∈ l, 48 <= c.toNat /\ c.toNat <= 57) (hv : valD l = n) (hn : n < 1000000000)
  (hz : l.length ≠ 1 -> ∃ c r, l = c :: r /\ c.toNat ≠ 48) (hct : Lib.cut l [46] = (l, [], false)) (w : World) (m : Int) (hm : w.cell? ⟨2, 0, none⟩ = some (.int .i64 m)) (h3 : 3 <= w.heap.size) :
  Calls Tryz.prog 93 #[.string S] w fun e w' => e = .returned (.tuple #[.agg #[.int .i64 (n : Int), .int .i64 1], .int .i64 dim, .bool true]) /\ Below w.heap.size w w' := by
 have hsz := bs_size l
 obtain ⟨hpos, hsd, hsm, hsn⟩ := hS
 have hlt : S.size - 1 < S.size := by omega
 rw [getElem!_pos S (S.size - 1) hlt] at hsd hsm hsn
 obtain ⟨L, hL⟩ : ∃ L, bs l = L := ⟨_, rfl⟩
 rw [hL] at hsd hsm hsn hsz
 have hd0 : decide (0 < S.size) = true := decide_eq_true hpos
 have hw : ((S.size : Int) - 1).toNat = S.size - 1 := by omega
 have hlo : (0 : Int) <= (S.size : Int) - 1 := by omega
 have hcutC := fun (u : World) (hu : u.cell? ⟨2, 0, none⟩ = some (.int .i64 m)) => Tryz.strings_Cut L (bs [46]) m u (by omega) hu
 have hcutD : ∀ (u : World) (hu : u.cell? ⟨2, 0, none⟩ = some (.int .i64 m)), Calls Tryz.prog 155 #[.string L, .string ⟨#[46]⟩] u fun e w' => e = .returned (.tuple #[.string L, .string ⟨#[]⟩, .bool false]) /\ ∃ n, w' = u.drewN n := by
  intro u hu
  have h := hcutC u hu
  rw [<- hL, bs_list, bs_list, hct] at h
  rw [<- hL]
  exact h
 clear hcutC
 have hnat := fun u => natural_ok l hdg h9 u
 rw [hv] at hnat
 have hnat0 : ∀ u : World, Calls Tryz.prog 156 #[.string ⟨#[]⟩] u fun e w' => e = .returned (.tuple #[.int .i64 0, .bool true]) /\ u = w' := fun u => natural_ok [] (fun c h => by cases h) (by simp) u
 obtain ⟨b2, hb2⟩ : ∃ b, ((n : Int) % 2 == 0) = b := ⟨_, rfl⟩
 obtain ⟨b5, hb5⟩ : ∃ b, ((n : Int) % 5 == 0) = b := ⟨_, rfl⟩
 rw [hL] at hnat
 have hzb : decide (1 < (L.size : Int)) = true -> ∃ h0 : 0 < L.size, (((L[0]'h0).toNat : Int) == 48) = false := by
  intro h
  have h := of_decide_eq_true h
  have h0 : 0 < L.size := by omega
  refine ⟨h0, ?_⟩
  obtain ⟨c, r, e, hc⟩ := hz (by omega)
  subst hL
  subst e
  rw [bs_get]
  exact ne_int hc
 have q1 : decide ((L.size : Int) < 1) = false := decide_eq_false (by omega)
 have q2 : decide (9 < (L.size : Int)) = false := decide_eq_false (by omega)
 obtain ⟨o, ho⟩ : ∃ o, decide (1 < (L.size : Int)) = o := ⟨_, rfl⟩
 clear hz hct hv hdg
 have hbel := (Below.refl w.heap.size w).alloc (Nat.le_refl _) (.cells #[.int .i64 0, .int .i64 0] 49)
 have hr := heap_alloc_new w (.cells #[.int .i64 0, .int .i64 0] 49)
 have hm2 : (w.alloc (.cells #[.int .i64 0, .int .i64 0] 49)).cell? ⟨2, 0, none⟩ = some (.int .i64 m) := by rw [hbel.cell (by show 2 < _; omega)]; exact hm
 have HSZ := Lib.hid hsz
 clear hsz hm
 generalize hW : w.alloc (.cells #[.int .i64 0, .int .i64 0] 49) = W at hbel hr hm2
 have hC := hcutD W hm2
 clear hcutD hm2
 rcases hd with rfl | rfl | rfl
 case' inl =>
  obtain ⟨e1, e2, rfl⟩ := hsn rfl
  have d1 : ((S[S.size - 1].toNat : Int) == 100) = false := ne_int e1
  have d2 : ((S[S.size - 1].toNat : Int) == 109) = false := ne_int e2
  clear e1 e2
 case' inr.inl =>
  obtain ⟨e1, e2⟩ := hsd rfl
  have d1 : ((S[S.size - 1].toNat : Int) == 100) = true := by rw [e1]; rfl
  clear e1
 case' inr.inr =>
  obtain ⟨e1, e2⟩ := hsm rfl
  have d1 : ((S[S.size - 1].toNat : Int) == 100) = false := by rw [e1]; rfl
  have d2 : ((S[S.size - 1].toNat : Int) == 109) = true := by rw [e1]; rfl
  clear e1
 all_goals
  clear hsd hsm hsn
  go_enter Tryz.func93, Tryz.ntmps93
  go_wp2_with fail
  refine hC.mono ?_
  rintro e w1 ⟨rfl, q, hw1⟩
  have hb1 : Below w.heap.size w w1 := by rw [hw1]; exact below_to_drewN hbel q
  have hr1 : w1.heap[w.heap.size]? = some (.cells #[.int .i64 0, .int .i64 0] 49) := by rw [hw1]; exact hr
  have f0 : w1.cell? ⟨w.heap.size, 0, none⟩ = some (.int .i64 0) := by rw [cell_of_row _ _ _ _ _ _ hr1]; rfl
  have f1 : w1.cell? ⟨w.heap.size, 1, none⟩ = some (.int .i64 0) := by rw [cell_of_row _ _ _ _ _ _ hr1]; rfl
  have y0 := frozen_of_row w1 w.heap.size 0 _ _ hr1
  have y1 := frozen_of_row w1 w.heap.size 1 _ _ hr1
  clear hw1 hr hbel hW hC hL
  cases o
  case' true => obtain ⟨h0, hz1⟩ := hzb ho
  all_goals
   clear hzb
   go_wp2_with fail
   refine (hnat _).mono ?_
   rintro e w2 ⟨rfl, rfl⟩
   go_wp2_with fail
   refine (hnat0 _).mono ?_
   rintro e w2 ⟨rfl, rfl⟩
   go_wp2_with fail
   obtain ⟨W3, hW3, hnx, hb3, hr3⟩ := iter_box w1 w.heap.size w hb1 (gis hr1).1 hr1
   rw [hW3]
   clear hW3 f0 f1 y0 y1 hr1
   have f0 : W3.cell? ⟨w.heap.size, 0, none⟩ = some (.int .i64 0) := by rw [cell_of_row _ _ _ _ _ _ hr3]; rfl
   have f1 : W3.cell? ⟨w.heap.size, 1, none⟩ = some (.int .i64 1) := by rw [cell_of_row _ _ _ _ _ _ hr3]; rfl
   have y0 := frozen_of_row W3 w.heap.size 0 _ _ hr3
   have y1 := frozen_of_row W3 w.heap.size 1 _ _ hr3
   refine wp_loop_rounds 1 ?_
   rw [rounds_succ]
   go_wp2_with fail
   clear hnx
   have a0 : ∀ u, (Instr.index 272 (.agg #[.int .i64 2, .int .i64 5]) (.int .i64 0)).run Tryz.prog u = .ok (.int .i64 2) u := fun u => arr2_law 0 (by omega) u
   have a1 : ∀ u, (Instr.index 272 (.agg #[.int .i64 2, .int .i64 5]) (.int .i64 1)).run Tryz.prog u = .ok (.int .i64 5) u := fun u => arr2_law 1 (by omega) u
   cases b2 <;> cases b5
   all_goals
    refine wp_loop_rounds 3 ?_
    rw [rounds_succ]
    go_wp2_with fail
    refine wp_loop_rounds 1 ?_
    rw [rounds_succ]
    go_wp2_with fail
    rw [rounds_succ]
    go_wp2_with fail
    refine wp_loop_rounds 1 ?_
    rw [rounds_succ]
    go_wp2_with fail
    rw [rounds_succ]
    go_wp2_with fail
    exact bodyPost_ret (v := .tuple #[.agg #[.int .i64 (n : Int), .int .i64 1], .int .i64 _, .bool true]) (by simp [results, Tryz.f93, go_sem, f0, f1]) rfl ⟨rfl, ((hb3.setCell (p := ⟨w.heap.size, 0, none⟩) (Nat.le_refl _) _).setCell (p := ⟨w.heap.size, 0, none⟩) (Nat.le_refl _) _).setCell (p := ⟨w.heap.size, 1, none⟩) (Nat.le_refl _) _⟩
end
section
def Ml (w : World) : Prop := 3 <= w.heap.size /\ ∃ m : Int, w.cell? ⟨2, 0, none⟩ = some (.int .i64 m)
theorem Ml.below {n : Nat} {w v : World} (h : Ml w) (hb : Below n w v) (hn : 3 <= n) : Ml v := by
 obtain ⟨h3, m, hm⟩ := h
 exact ⟨Nat.le_trans h3 hb.size, m, by rw [hb.cell (by show 2 < _; omega)]; exact hm⟩
theorem Ml.kp {w v : World} (h : Ml w) (hb : Below w.heap.size w v) : Ml v := h.below hb h.1
theorem dec_ok (n : Nat) (dim : Int) (hd : dim = 2 ∨ dim = 3 ∨ dim = 4) (hn : n < 1000000000) (w : World) (hw : Ml w) :
  Calls Tryz.prog 93 #[.string (bs (dgl n ++ sufB dim.toNat))] w fun e w' => e = .returned (.tuple #[.agg #[.int .i64 (n : Int), .int .i64 1], .int .i64 dim, .bool true]) /\ Below w.heap.size w w' := by
 obtain ⟨h3, m, hm⟩ := hw
 have h9 := dgl_len 8 n hn
 refine dec_core _ (dgl n) dim n (suf_ok _ _ (dgl_dig n) (dgl_pos n) hd) hd ?_ (dgl_pos n) h9 (dgl_dig n) (valD_dgl n) hn (dgl_zero n) (cut_none _ (dgl_no46 n)) w m hm h3
 rw [bs_size, List.length_append]
 have : (sufB dim.toNat).length <= 1 := by rcases hd with rfl | rfl | rfl <;> decide
 omega
theorem whole_ok (n : Nat) (hn : n < 1000000000) (w : World) (hw : Ml w) :
  Calls Tryz.prog 47 #[.string (bs (dgl n))] w fun e w' => e = .returned (.tuple #[.int .i64 (n : Int), .bool true]) /\ Below w.heap.size w w' := by
 have hdec := dec_ok n 2 (.inl rfl) hn w hw
 have e0 : dgl n ++ sufB (2 : Int).toNat = dgl n := by simp [sufB]
 rw [e0] at hdec
 have hfl := fun u => floorP_one n (by omega) u
 go_enter Tryz.func47, Tryz.ntmps47
 go_wp2_with fail
 refine hdec.mono ?_
 rintro e w1 ⟨rfl, hb1⟩
 go_wp2_with fail
 obtain ⟨W, hW, hbW, hr⟩ : ∃ W, w1.alloc (.cells #[.int .i64 (n : Int), .int .i64 1] 49) = W /\ Below w.heap.size w W /\ W.heap[w1.heap.size]? = some (.cells #[.int .i64 (n : Int), .int .i64 1] 49) :=
  ⟨_, rfl, hb1.alloc hb1.size _, heap_alloc_new w1 _⟩
 rw [hW]
 clear hW
 have f0 : W.cell? ⟨w1.heap.size, 0, none⟩ = some (.int .i64 (n : Int)) := by rw [cell_of_row _ _ _ _ _ _ hr]; rfl
 have f1 : W.cell? ⟨w1.heap.size, 1, none⟩ = some (.int .i64 1) := by rw [cell_of_row _ _ _ _ _ _ hr]; rfl
 go_wp2_with fail
 refine (hfl _).mono ?_
 rintro e w2 ⟨rfl, hb2⟩
 have r1 := (hb2.block w1.heap.size (gis hr).1).trans hr
 have g1 : w2.cell? ⟨w1.heap.size, 1, none⟩ = some (.int .i64 1) := by rw [cell_of_row _ _ _ _ _ _ r1]; rfl
 have hbb := hbW.trans (hb2.mono hbW.size)
 clear f0 f1 hr r1 hb2 hbW hb1 hfl hdec
 go_upto_region 3 with (fail)
 go_quiet (fail)
 go_wp2_with fail
 go_ret2
 exact ⟨rfl, below_to_drewN hbb _⟩
theorem extent_word (s : ByteArray) (a n : Nat) (hn1 : 1 <= n) (hn : n <= 12) (hsz : a + n <= s.size) (hs : s.size <= 100000) (h0 : letV (atB s a) = true) (hb : ∀ i, a <= i -> i < a + n -> inwV (atB s i) = true) (he : inwV (atB s (a + n)) = false) (w : World) :
  Calls Tryz.prog 152 #[.string s, .int .i64 (a : Int)] w fun e w' => e = .returned (.tuple #[.int .i64 ((a + n : Nat) : Int), .int .i64 1]) /\ w = w' := by
 have ha : a < s.size := by omega
 rw [atB_lt ha] at h0
 have H0 := Lib.hid h0
 have HB := Lib.hid hb
 have HE := Lib.hid he
 clear h0 hb he
 go_enter Tryz.func152, Tryz.ntmps152
 go_wp2_with fail
 refine (lower_to H0.out _).mono ?_
 rintro e w1 ⟨rfl, rfl⟩
 go_wp2_with fail
 go_loop [4] (fun x => ∃ m : Nat, a <= m /\ m <= a + n /\ x = .int .i64 (m : Int)) (fun x => a + n - (intOf x).toNat)
 case atStart => exact ⟨a, by omega, by omega, rfl⟩
 case round =>
  obtain ⟨m, hm1, hm2, rfl⟩ := hrel
  by_cases hlt : m < a + n
  ·have hms : m < s.size := by omega
   have hi := HB.out m hm1 hlt
   rw [atB_lt hms] at hi
   have HI := Lib.hid hi
   clear hi
   go_wp2_with fail
   refine (inword_to HI.out _).mono ?_
   rintro e w1 ⟨rfl, rfl⟩
   go_wp2_with fail
   go_round
   case rel => exact ⟨m + 1, by omega, by omega, by go_num⟩
   case measure => simp [intOf]; omega
  ·obtain rfl : m = a + n := by omega
   have q1 : decide (((a + n : Nat) : Int) - (a : Int) <= 12) = true := decide_eq_true (by omega)
   by_cases hms : a + n < s.size
   ·have hi := HE.out
    rw [atB_lt hms] at hi
    have HI := Lib.hid hi
    clear hi
    go_wp2_with fail
    refine (inword_to HI.out _).mono ?_
    rintro e w1 ⟨rfl, rfl⟩
    go_wp2_with fail
    go_ret2
    exact ⟨rfl, rfl⟩
   ·go_wp2_with fail
    go_ret2
    exact ⟨rfl, rfl⟩
def numB (c : Int) : Bool := inwV c || (c == 46)
theorem numB_word {c : Int} (h : numB c = false) : inwV c = false /\ (c == 46) = false := by
 simp only [numB, Bool.or_eq_false_iff] at h
 exact h
theorem digV_let {c : Int} (h : digV c = true) : letV c = false := by
 simp only [digV, letV, Bool.and_eq_true, decide_eq_true_eq, Bool.and_eq_false_iff, decide_eq_false_iff_not] at *
 omega
theorem extent_number (s : ByteArray) (a n k : Nat) (dim : Int) (hd : dim = 2 ∨ dim = 3 ∨ dim = 4) (hk : k < 1000000000) (hn1 : 1 <= n) (hsz : a + n <= s.size) (hs : s.size <= 100000) (hx : s.extract a (a + n) = bs (dgl k ++ sufB dim.toNat)) (h0 : digV (atB s a) = true)
  (hb : ∀ i, a <= i -> i < a + n -> inwV (atB s i) = true) (he : numB (atB s (a + n)) = false) (w : World) (hw : Ml w) :
  Calls Tryz.prog 152 #[.string s, .int .i64 (a : Int)] w fun e w' => e = .returned (.tuple #[.int .i64 ((a + n : Nat) : Int), .int .i64 2]) /\ Below w.heap.size w w' := by
 have ha : a < s.size := by omega
 rw [atB_lt ha] at h0
 have H0 := Lib.hid h0
 have HB := Lib.hid hb
 have HE := Lib.hid (numB_word he)
 have hdec := dec_ok k dim hd hk w hw
 rw [<- hx] at hdec
 clear h0 hb he hx
 go_enter Tryz.func152, Tryz.ntmps152
 go_wp2_with fail
 refine (lower_to (digV_let H0.out) _).mono ?_
 rintro e w1 ⟨rfl, rfl⟩
 go_wp2_with fail
 refine (tdigit_to H0.out _).mono ?_
 rintro e w1 ⟨rfl, rfl⟩
 go_wp2_with fail
 go_loop [4] (fun x => ∃ m : Nat, a <= m /\ m <= a + n /\ x = .int .i64 (m : Int)) (fun x => a + n - (intOf x).toNat)
 case atStart => exact ⟨a, by omega, by omega, rfl⟩
 case round =>
  obtain ⟨m, hm1, hm2, rfl⟩ := hrel
  by_cases hlt : m < a + n
  ·have hms : m < s.size := by omega
   have hi := HB.out m hm1 hlt
   rw [atB_lt hms] at hi
   have HI := Lib.hid hi
   clear hi
   go_wp2_with fail
   refine (inword_to HI.out _).mono ?_
   rintro e w1 ⟨rfl, rfl⟩
   go_wp2_with fail
   go_round
   case rel => exact ⟨m + 1, by omega, by omega, by go_num⟩
   case measure => simp [intOf]; omega
  ·obtain rfl : m = a + n := by omega
   by_cases hms : a + n < s.size
   ·obtain ⟨hi, hj⟩ := HE.out
    rw [atB_lt hms] at hi hj
    have HI := Lib.hid hi
    clear hi
    go_wp2_with fail
    refine (inword_to HI.out _).mono ?_
    rintro e w1 ⟨rfl, rfl⟩
    go_wp2_with fail
    all_goals
     first
      | (exfalso; omega)
      | (refine hdec.mono ?_
         rintro e w1 ⟨rfl, hb1⟩
         go_wp2_with fail
         go_ret2
         exact ⟨rfl, hb1.alloc hb1.size _⟩)
   ·go_wp2_with fail
    all_goals
     refine hdec.mono ?_
     rintro e w1 ⟨rfl, hb1⟩
     go_wp2_with fail
     go_ret2
     exact ⟨rfl, hb1.alloc hb1.size _⟩
end
end Go.Proofs.YtnlopdmhdiegnaaGreatDoor
