/- The bytes of a number appended: by the reference, by the program. -/
import Derived.Test.YtbogmkhoppffgaaFcA
import Derived.Lib.Hide
namespace Go.Proofs.Ytbogmkhoppffgaa
open Go.RowKit

def bys (l : List Int) : List Value := l.map (Value.int .u8)
theorem bys_length (l : List Int) : (bys l).length = l.length := by simp [bys]
theorem bys_append (l m : List Int) : bys (l ++ m) = bys l ++ bys m := by simp [bys]
theorem info_byte : (Try.prog.info? 5).map (fun i => (i.zero, i.size, i.bytes)) = some (some (.int .u8 0), 1, 1) := by kernel_rfl

/-- Bytes in a row of the call's own are returned. -/
def RetBy (w : World) (base : Nat) (zs : List Int) (e : Ending) (w' : World) : Prop := ∃ A c, e = .returned (.slice A zs.length c) ∧ w'.ownsRow base 5 1 (.slice A zs.length c) zs.length (bys zs) ∧ Below base w w'
set_option maxRecDepth 100000 in
set_option maxHeartbeats 4000000 in
theorem big_any {A : Option Addr} {c n : Nat} {zs : List Int} {x : Int} {m base : Nat} {w : World} (h : w.ownsRow base 5 1 (.slice A n c) n (bys zs)) (hn : zs.length = n) (hz : n ≤ 1000) (_h0 : 0 ≤ x) (_h1 : x ≤ 4611686018427387904) (hm : m ≤ 8) (hbase : base ≤ w.heap.size) :
    Calls Try.prog 49 #[.slice A n c, .int .i64 x, .int .i64 (m : Int)] w (RetBy w base (zs ++ beL x m)) := by
  obtain ⟨i0, hi0, hz0, hz1, hz2⟩ := info_parts info_byte
  have hw0 : IntKind.i64.wrap ((m : Int) - 1) = (m : Int) - 1 := IntWalk.i64_in _ (by omega)
  have HN := Lib.hid hn
  clear hn
  go_enter Try.func49, Try.ntmps49
  go_wp2_with fail
  go_loopw [0, 7] (fun v i wr => ∃ (j : Nat) (ys : List Int), j ≤ m ∧ ys.length + j = n + m ∧ i = .int .i64 ((j : Int) - 1) ∧ ys ++ beL x j = zs ++ beL x m ∧ wr.ownsRow base 5 1 v ys.length (bys ys) ∧ Below base w wr) (fun _ i _ => (intOf i + 1).toNat)
  case atStart => exact ⟨m, zs, by omega, by rw [HN.out], rfl, rfl, by rw [HN.out]; exact h, Below.refl _ _⟩
  case round =>
    obtain ⟨j, ys, hj, hyl, rfl, hys, hown, hb⟩ := hrel
    have HY := Lib.hid hys
    have hbz := hb.size
    clear hys h
    obtain ⟨A2, c2, rfl, _, _, _⟩ := own_form hown
    by_cases hlt : 0 < j
    · obtain ⟨k, rfl⟩ : ∃ k, j = k + 1 := ⟨j - 1, by omega⟩
      have hd : decide ((0 : Int) ≤ ((k + 1 : Nat) : Int) - 1) = true := decide_eq_true (by omega)
      have hyl2 : ys.length ≤ 1008 := by omega
      have HYL := Lib.hid hyl
      clear hyl
      go_wp2_with (at_builtin; go_loud (refine wpList_append_rd (by rfl) (.tmp 14) (.tmp 21) 63 (by rfl) base 5 i0 _ 1 1 Try.underlying63 hi0 hz0 hz1 hz2 rfl (by omega) (.slice A2 ys.length c2) ys.length (bys ys) (by rfl) (hown.alloc _) (wr.heap.size + 1) (some ⟨wr.heap.size, 0, none⟩) 1 1 [.int .u8 (x / 2 ^ (8 * k) % 256)] (by rfl) (Rd.built (heap_alloc_new wr _) (by omega) rfl) (by intro u hu; simp at hu; rcases hu with rfl; rfl) (by unfold maxLen; omega) (by omega) (by simp; omega) ?_); intro v4 w4 hown4 hg4 hat4)
      have hb4 := (hb.alloc (by omega) (.cells #[.int .u8 (x / 2 ^ (8 * k) % 256)] 5)).grown hg4 (by simp <;> omega) (fun g e => (hown.lt g e).1)
      have el : (ys ++ [byt x k]).length = ys.length + 1 := by simp
      have HT : Hid ((ys ++ [byt x k]) ++ beL x k = zs ++ beL x m) := Lib.hid (by rw [← HY.out, List.append_assoc]; rfl)
      refine ⟨⟨k, ys ++ [byt x k], by omega, by rw [el]; have := HYL.out; omega, by go_num, HT.out, ?_, hb4⟩, by simp [intOf] <;> omega⟩
      rw [el, bys_append]
      exact hown4
    · obtain rfl : j = 0 := by omega
      have hd : decide ((0 : Int) ≤ ((0 : Nat) : Int) - 1) = false := decide_eq_false (by omega)
      have hd2 : ¬ (0 : Int) ≤ ((0 : Nat) : Int) - 1 := by omega
      have HE : Hid (ys = zs ++ beL x m) := Lib.hid (by rw [← HY.out]; simp [beL])
      go_wp2_with fail
      go_ret
      refine ⟨A2, c2, ?_, ?_, hb⟩
      · rw [← HE.out]; rfl
      · rw [← HE.out]; exact hown
/-- Blocks other than the row's own stand; the row is the old one or a new one. -/
def GrF (w w' : World) (b b' : Option Nat) : Prop := w.grownBy w' b ∧ (b' = b ∨ ∃ g, b' = some g ∧ w.heap.size ≤ g)
theorem GrF.refl (w : World) (b : Option Nat) : GrF w w b b := ⟨⟨rfl, rfl, rfl, Nat.le_refl _, fun _ _ _ => rfl⟩, .inl rfl⟩
theorem GrF.step {w wr w4 : World} {b br b4 : Option Nat} (h : GrF w wr b br) (o : Obj) (hg : (wr.alloc o).grownBy w4 br) (hat : b4 = br ∨ b4 = some (wr.alloc o).heap.size) : GrF w w4 b b4 := by
  have h2 := grownBy_trans (World.grownBy_alloc wr o br) hg
  obtain ⟨h1, h3⟩ := h
  refine ⟨⟨h2.os.trans h1.os, h2.tape.trans h1.tape, h2.output.trans h1.output, Nat.le_trans h1.size h2.size, fun i hi hne => (h2.block i (Nat.lt_of_lt_of_le hi h1.size) ?_).trans (h1.block i hi hne)⟩, ?_⟩
  · rcases h3 with rfl | ⟨g, rfl, hg⟩
    · exact hne
    · intro e
      injection e with e
      omega
  · rcases hat with rfl | rfl
    · exact h3
    · exact .inr ⟨_, rfl, by have := h1.size; simp; omega⟩
/-- The same, and what else stands. -/
def RetBg (w : World) (base : Nat) (b : Option Nat) (zs : List Int) (e : Ending) (w' : World) : Prop := ∃ A c, e = .returned (.slice A zs.length c) ∧ w'.ownsRow base 5 1 (.slice A zs.length c) zs.length (bys zs) ∧ Below base w w' ∧ GrF w w' b (Value.slice A zs.length c).ownBlock
set_option maxRecDepth 100000 in
set_option maxHeartbeats 4000000 in
theorem appn_any {A B : Option Addr} {c n q cq : Nat} {zs xs : List Int} {m base : Nat} {w : World} (h : w.ownsRow base 5 1 (.slice A n c) n (bys zs)) (hn : zs.length = n) (hz : n ≤ 1000) (hx : Rd w w.heap.size 1 B q (ints xs)) (hne : ∀ g o, B = some ⟨g, o, none⟩ → (Value.slice A n c).ownBlock ≠ some g) (hq : q ≤ 8) (h01 : ∀ x ∈ xs, 0 ≤ x ∧ x ≤ 4611686018427387904) (hm : m ≤ 8) (hbase : base ≤ w.heap.size) :
    Calls Try.prog 85 #[.slice A n c, .int .i64 (m : Int), .slice B q cq] w (RetBg w base (Value.slice A n c).ownBlock (zs ++ xs.flatMap fun x => beL x m)) := by
  obtain ⟨i0, hi0, hz0, hz1, hz2⟩ := info_parts info_byte
  have hw0 : IntKind.i64.wrap ((m : Int) - 1) = (m : Int) - 1 := IntWalk.i64_in _ (by omega)
  have HN := Lib.hid hn
  have HQ := Lib.hid hx.len1
  have HX := Lib.hid h01
  clear hn h01
  go_enter Try.func85, Try.ntmps85
  go_wp2_with fail
  go_loopw [0, 12] (fun v i wr => ∃ (k : Nat) (ys : List Int), k ≤ q ∧ ys.length = n + m * k ∧ i = .int .i64 (k : Int) ∧ ys = zs ++ (xs.take k).flatMap (fun x => beL x m) ∧ wr.ownsRow base 5 1 v ys.length (bys ys) ∧ Below base w wr ∧ GrF w wr (Value.slice A n c).ownBlock v.ownBlock) (fun _ i _ => q - (intOf i).toNat)
  case atStart => exact ⟨0, zs, by omega, by rw [HN.out]; simp, rfl, by simp, by rw [HN.out]; exact h, Below.refl _ _, GrF.refl _ _⟩
  case round =>
    obtain ⟨k, ys, hk, hyl, rfl, hys, hown, hb, hgf⟩ := hrel
    have HY := Lib.hid hys
    have hbz := hb.size
    clear hys h
    obtain ⟨A2, c2, rfl, _, _, _⟩ := own_form hown
    have hmk : m * k ≤ 64 := Nat.le_trans (Nat.mul_le_mul hm (show k ≤ 8 by omega)) (by omega)
    by_cases hlt : k < q
    · obtain ⟨x, hxx⟩ : ∃ x, xs[k]? = some x := ⟨_, List.getElem?_eq_getElem (by rw [HQ.out]; exact hlt)⟩
      obtain ⟨_, g, o, rfl, hgb, e00⟩ := hx.int hxx
      have e0 := hgf.1.cell e00 (fun e => hne g o rfl e.symm)
      clear e00
      obtain ⟨h0, h1⟩ := HX.out x (List.mem_of_getElem? hxx)
      have hlo : (0 : Int) ≤ (k : Int) := by omega
      have hhi : (k : Int) < (q : Int) := by omega
      have HXX := Lib.hid hxx
      have HYL := Lib.hid hyl
      clear hxx hyl
      obtain ⟨N, hN⟩ : ∃ N, N = ys.length := ⟨_, rfl⟩
      rw [← hN] at hown hgf ⊢
      have HNN := Lib.hid hN.symm
      have hN2 : N ≤ 1064 := by have h1 := HYL.out; have h2 := HNN.out; omega
      clear hN
      obtain ⟨wo, rfl⟩ : ∃ wo : World, wo = wr := ⟨_, rfl⟩
      go_wp2_with fail
      go_loopw [0, 9] (fun v i wn => ∃ (j : Nat) (us : List Int), j ≤ m ∧ us.length + j = N + m ∧ i = .int .i64 ((j : Int) - 1) ∧ us ++ beL x j = ys ++ beL x m ∧ wn.ownsRow base 5 1 v us.length (bys us) ∧ Below base w wn ∧ GrF w wn (Value.slice A n c).ownBlock v.ownBlock) (fun _ i _ => (intOf i + 1).toNat)
      case atStart => exact ⟨m, ys, by omega, by rw [HNN.out], rfl, rfl, by rw [HNN.out]; exact hown, hb, hgf⟩
      case round =>
        clear hown hb e0 hbz hgf
        obtain ⟨j, us, hj, hul, rfl, hus, hown, hb, hgf⟩ := hrel
        have HU := Lib.hid hus
        have hbz := hb.size
        clear hus
        obtain ⟨A3, c3, rfl, _, _, _⟩ := own_form hown
        by_cases hlt2 : 0 < j
        · obtain ⟨i, rfl⟩ : ∃ i, j = i + 1 := ⟨j - 1, by omega⟩
          have hd : decide ((0 : Int) ≤ ((i + 1 : Nat) : Int) - 1) = true := decide_eq_true (by omega)
          have hul2 : us.length ≤ 1072 := by omega
          have HUL := Lib.hid hul
          clear hul
          go_wp2_with (at_builtin; go_loud (refine wpList_append_rd (by rfl) (.tmp 22) (.tmp 28) 63 (by rfl) base 5 i0 _ 1 1 Try.underlying63 hi0 hz0 hz1 hz2 rfl (by omega) (.slice A3 us.length c3) us.length (bys us) (by rfl) (hown.alloc _) (wr.heap.size + 1) (some ⟨wr.heap.size, 0, none⟩) 1 1 [.int .u8 (x / 2 ^ (8 * i) % 256)] (by rfl) (Rd.built (heap_alloc_new wr _) (by omega) rfl) (by intro u hu; simp at hu; rcases hu with rfl; rfl) (by unfold maxLen; omega) (by omega) (by simp; omega) ?_); intro v4 w4 hown4 hg4 hat4)
          have hb4 := (hb.alloc (by omega) (.cells #[.int .u8 (x / 2 ^ (8 * i) % 256)] 5)).grown hg4 (by simp <;> omega) (fun g e => (hown.lt g e).1)
          have el : (us ++ [byt x i]).length = us.length + 1 := by simp
          have HT : Hid ((us ++ [byt x i]) ++ beL x i = ys ++ beL x m) := Lib.hid (by rw [← HU.out, List.append_assoc]; rfl)
          refine ⟨⟨i, us ++ [byt x i], by omega, by rw [el]; have := HUL.out; omega, by go_num, HT.out, ?_, hb4, hgf.step _ hg4 hat4⟩, by simp [intOf] <;> omega⟩
          rw [el, bys_append]
          exact hown4
        · obtain rfl : j = 0 := by omega
          have hd : decide ((0 : Int) ≤ ((0 : Nat) : Int) - 1) = false := decide_eq_false (by omega)
          have hd2 : ¬ (0 : Int) ≤ ((0 : Nat) : Int) - 1 := by omega
          have HE : Hid (us = zs ++ (xs.take (k + 1)).flatMap (fun x => beL x m)) := Lib.hid (by
            have h1 := HU.out
            rw [show beL x 0 = [] from rfl, List.append_nil] at h1
            rw [h1, HY.out, List.take_add_one, HXX.out]
            simp)
          have hul2 : us.length = n + m * (k + 1) := by have h1 := HYL.out; have h2 := HNN.out; rw [Nat.mul_succ]; omega
          go_wp2_with fail
          go_roundw
          case rel => exact ⟨k + 1, us, by omega, hul2, by go_num, HE.out, hown, hb, hgf⟩
          case measure => simp [intOf]; omega
    · have HE : Hid (ys = zs ++ xs.flatMap (fun x => beL x m)) := Lib.hid (by
        have := HY.out
        rwa [List.take_of_length_le (by rw [HQ.out]; omega)] at this)
      go_wp2_with fail
      go_ret
      refine ⟨A2, c2, ?_, ?_, hb, ?_⟩
      · rw [← HE.out]; rfl
      · rw [← HE.out]; exact hown
      · rw [← HE.out]; exact hgf
end Go.Proofs.Ytbogmkhoppffgaa
