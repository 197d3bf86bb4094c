/- pensiontop: laws, works, awards that the walks lean on (no conditions) -/
import Derived.Test.YtnlopdmhdiegnaaGreatDoorPk
import Derived.Test.YtnlopdmhdiegnaaGreatDoorRows
import Derived.LaidLaws
import Derived.ShapedOpen
import Derived.Lib.LaidTab
set_option linter.unusedSimpArgs false
set_option linter.unusedVariables false
set_option maxRecDepth 100000
set_option maxHeartbeats 64000000
namespace Go.Proofs.YtnlopdmhdiegnaaGreatDoor
section
open Go.RowKit

theorem mt_four {w : World} (h : Mt w) : 4 <= w.heap.size := by
 have h1 := h.tp
 unfold Lib.TabIs World.var? at h1
 rw [show Tryz.prog.globalNamed "internal/strconv.uint64pow10" = some 3 by kernel_rfl] at h1
 simp only [Option.bind_some] at h1
 rcases Nat.lt_or_ge 3 w.heap.size with h' | h'
 ·exact h'
 ·rw [Array.getElem?_eq_none h'] at h1; cases h1
abbrev fcZero : Obj := .cells #[.int .i64 0, .int .i64 0, .int .i64 0, .bool false, .int .i64 0, .int .i64 0, .int .i64 0, .int .i64 0, .int .i64 0, .int .i64 0, .int .i64 0, .int .i64 0, .int .i64 0, .int .i64 0] 34
abbrev wkCells (n st f t a : Int) : Array Value := #[.int .i64 st, .int .i64 n, .int .i64 1, .bool false, .int .i64 1, .int .i64 1, .int .i64 st, .int .i64 f, .int .i64 t, .int .i64 st, .int .i64 100, .int .i64 1, .int .i64 a, .int .i64 0]
theorem wk_cells (n st f t a : Int) : (wkF st n f t a).cells = (wkCells n st f t a).toList := rfl
theorem work_ok (n st f t a : Int) (w : World) : Calls Tryz.prog 8 #[.int .i64 n, .int .i64 st, .int .i64 f, .int .i64 t, .int .i64 a] w fun e w' => e = .returned (.agg (wkCells n st f t a)) /\ Below w.heap.size w w' := by
 obtain ⟨W, hW, bW, rW⟩ := box_new w fcZero
 obtain ⟨F, hF⟩ : ∃ F, ((((((((((((((W.setCell ⟨w.heap.size, 0, none⟩ (.int .i64 st)).setCell ⟨w.heap.size, 1, none⟩ (.int .i64 n)).setCell ⟨w.heap.size, 2, none⟩ (.int .i64 1)).setCell ⟨w.heap.size, 3, none⟩ (.bool false)).setCell ⟨w.heap.size, 4, none⟩ (.int .i64 1)).setCell ⟨w.heap.size, 5, none⟩ (.int .i64 1)).setCell ⟨w.heap.size, 6, none⟩ (.int .i64 st)).setCell ⟨w.heap.size, 7, none⟩ (.int .i64 f)).setCell ⟨w.heap.size, 8, none⟩ (.int .i64 t)).setCell ⟨w.heap.size, 9, none⟩ (.int .i64 st)).setCell ⟨w.heap.size, 10, none⟩ (.int .i64 100)).setCell ⟨w.heap.size, 11, none⟩ (.int .i64 1)).setCell ⟨w.heap.size, 12, none⟩ (.int .i64 a)).setCell ⟨w.heap.size, 13, none⟩ (.int .i64 0)) = F := ⟨_, rfl⟩
 obtain ⟨rF, kF⟩ := setCells_at (vs := [.int .i64 st, .int .i64 n, .int .i64 1, .bool false, .int .i64 1, .int .i64 1, .int .i64 st, .int .i64 f, .int .i64 t, .int .i64 st, .int .i64 100, .int .i64 1, .int .i64 a, .int .i64 0]) rW rfl
 have hFF : W.setCells w.heap.size 0 [.int .i64 st, .int .i64 n, .int .i64 1, .bool false, .int .i64 1, .int .i64 1, .int .i64 st, .int .i64 f, .int .i64 t, .int .i64 st, .int .i64 100, .int .i64 1, .int .i64 a, .int .i64 0] = F := hF
 rw [hFF] at rF kF
 have hbF : Below w.heap.size w F := bW.trans (kF.bel (lRf) (gis rW).1)
 have HFIN := hID (And.intro rF hbF)
 clear rF kF hFF hbF
 have x0 : W.cell? ⟨w.heap.size, 0, none⟩ = some (.int .i64 0) := by rw [cOr rW]; rfl
 have x1 : W.cell? ⟨w.heap.size, 1, none⟩ = some (.int .i64 0) := by rw [cOr rW]; rfl
 have x2 : W.cell? ⟨w.heap.size, 2, none⟩ = some (.int .i64 0) := by rw [cOr rW]; rfl
 have x3 : W.cell? ⟨w.heap.size, 3, none⟩ = some (.bool false) := by rw [cOr rW]; rfl
 have x4 : W.cell? ⟨w.heap.size, 4, none⟩ = some (.int .i64 0) := by rw [cOr rW]; rfl
 have x5 : W.cell? ⟨w.heap.size, 5, none⟩ = some (.int .i64 0) := by rw [cOr rW]; rfl
 have x6 : W.cell? ⟨w.heap.size, 6, none⟩ = some (.int .i64 0) := by rw [cOr rW]; rfl
 have x7 : W.cell? ⟨w.heap.size, 7, none⟩ = some (.int .i64 0) := by rw [cOr rW]; rfl
 have x8 : W.cell? ⟨w.heap.size, 8, none⟩ = some (.int .i64 0) := by rw [cOr rW]; rfl
 have x9 : W.cell? ⟨w.heap.size, 9, none⟩ = some (.int .i64 0) := by rw [cOr rW]; rfl
 have x10 : W.cell? ⟨w.heap.size, 10, none⟩ = some (.int .i64 0) := by rw [cOr rW]; rfl
 have x11 : W.cell? ⟨w.heap.size, 11, none⟩ = some (.int .i64 0) := by rw [cOr rW]; rfl
 have x12 : W.cell? ⟨w.heap.size, 12, none⟩ = some (.int .i64 0) := by rw [cOr rW]; rfl
 have x13 : W.cell? ⟨w.heap.size, 13, none⟩ = some (.int .i64 0) := by rw [cOr rW]; rfl
 have z0 := fZr 0 rW
 have z1 := fZr 1 rW
 have z2 := fZr 2 rW
 have z3 := fZr 3 rW
 have z4 := fZr 4 rW
 have z5 := fZr 5 rW
 have z6 := fZr 6 rW
 have z7 := fZr 7 rW
 have z8 := fZr 8 rW
 have z9 := fZr 9 rW
 have z10 := fZr 10 rW
 have z11 := fZr 11 rW
 have z12 := fZr 12 rW
 have z13 := fZr 13 rW
 dsimp only [fcZero] at hW
 go_enter Tryz.func8, Tryz.ntmps8
 go_upto_region 1 with (fail)
 clear hW
 go_wp2_with fail
 clear hF
 obtain ⟨rF, hbF⟩ := HFIN.out
 have s0 : F.cell? ⟨w.heap.size, 0, none⟩ = some (.int .i64 st) := by rw [cOr rF]; rfl
 have s1 : F.cell? ⟨w.heap.size, 1, none⟩ = some (.int .i64 n) := by rw [cOr rF]; rfl
 have s2 : F.cell? ⟨w.heap.size, 2, none⟩ = some (.int .i64 1) := by rw [cOr rF]; rfl
 have s3 : F.cell? ⟨w.heap.size, 3, none⟩ = some (.bool false) := by rw [cOr rF]; rfl
 have s4 : F.cell? ⟨w.heap.size, 4, none⟩ = some (.int .i64 1) := by rw [cOr rF]; rfl
 have s5 : F.cell? ⟨w.heap.size, 5, none⟩ = some (.int .i64 1) := by rw [cOr rF]; rfl
 have s6 : F.cell? ⟨w.heap.size, 6, none⟩ = some (.int .i64 st) := by rw [cOr rF]; rfl
 have s7 : F.cell? ⟨w.heap.size, 7, none⟩ = some (.int .i64 f) := by rw [cOr rF]; rfl
 have s8 : F.cell? ⟨w.heap.size, 8, none⟩ = some (.int .i64 t) := by rw [cOr rF]; rfl
 have s9 : F.cell? ⟨w.heap.size, 9, none⟩ = some (.int .i64 st) := by rw [cOr rF]; rfl
 have s10 : F.cell? ⟨w.heap.size, 10, none⟩ = some (.int .i64 100) := by rw [cOr rF]; rfl
 have s11 : F.cell? ⟨w.heap.size, 11, none⟩ = some (.int .i64 1) := by rw [cOr rF]; rfl
 have s12 : F.cell? ⟨w.heap.size, 12, none⟩ = some (.int .i64 a) := by rw [cOr rF]; rfl
 have s13 : F.cell? ⟨w.heap.size, 13, none⟩ = some (.int .i64 0) := by rw [cOr rF]; rfl
 exact bodyPost_ret (v := .agg (wkCells n st f t a)) (by simp [results, Tryz.f8, go_sem, s0, s1, s2, s3, s4, s5, s6, s7, s8, s9, s10, s11, s12, s13]) rfl ⟨rfl, hbF⟩
theorem grown_at {w w' : World} {base e sz n g : Nat} {v : Value} {xs : List Value} {o : Obj} (ho : w.ownsRow base e sz v n xs) (hg : w.grownBy w' v.ownBlock) (hr : w.heap[g]? = some o) (hb : g < base) : w'.heap[g]? = some o :=
 (hg.block g (gis hr).1 (fun e => by have := (ho.lt g e.symm).1; omega)).trans hr
theorem info_state : (Tryz.prog.info? 58).map (fun i => (i.zero, i.size, i.bytes)) = some (some (.agg #[.int .i64 0, .string ⟨#[]⟩, .int .i64 0, .slice none 0 0]), 4, 56) := by kernel_rfl
abbrev lxBox (SA : Option Addr) (k sc : Nat) (T : Nat) : Obj := .cells #[.slice SA k sc, .slice (some ⟨T, 0, none⟩) 1 1, .slice none 0 0] 28
theorem sts_ok : ∀ k : Nat, k <= 6 -> okM (-1) (sts k) = true
 | 0, _ => by decide | 1, _ => by decide | 2, _ => by decide | 3, _ => by decide | 4, _ => by decide | 5, _ => by decide | 6, _ => by decide
 | k + 7, h => by omega
theorem stx_base {w : World} {lo lo' : Nat} {D : Sd} {x : St} (h : StX w lo D x) (hl : lo' <= lo) : StX w lo' D x := by
 obtain ⟨v, h1, h2⟩ := h.ex
 exact ⟨h.c1, lTr hl h.low, v, h1, h2.base hl⟩
structure Lw (w : World) (lo : Nat) (nm : By) (cr : Bool) (N M k : Nat) (md : Int) (SA : Option Addr) (sc T : Nat) (x : St) (MA : Option Addr) (mc : Nat) : Prop where
 rS : w.ownsRow lo 58 4 (.slice SA k sc) k (flat (saCells nm x) (List.range k))
 rM : w.ownsRow lo 3 1 (.slice MA k mc) k (ints (sts k))
 rT : w.heap[T]? = some (ruBox k md MA mc)
 rlo : lo <= T
 rX : StX w lo (Sd.of cr N M) x
theorem Lw.kp {w w' : World} {lo : Nat} {nm : By} {cr : Bool} {N M k : Nat} {md : Int} {SA : Option Addr} {sc T : Nat} {x : St} {MA : Option Addr} {mc R : Nat} (h : Lw w lo nm cr N M k md SA sc T x MA mc) (hk : Kp R w w') (hR : R < lo) : Lw w' lo nm cr N M k md SA sc T x MA mc := by
 have := h.rlo
 exact ⟨own_kp h.rS hk hR, own_kp h.rM hk hR, hk.at h.rT (by omega), h.rlo, h.rX.kp hk hR⟩
theorem Lw.base {w : World} {lo lo' : Nat} {nm : By} {cr : Bool} {N M k : Nat} {md : Int} {SA : Option Addr} {sc T : Nat} {x : St} {MA : Option Addr} {mc : Nat} (h : Lw w lo nm cr N M k md SA sc T x MA mc) (hl : lo' <= lo) : Lw w lo' nm cr N M k md SA sc T x MA mc := by
 obtain ⟨v, h1, h2⟩ := h.rX.ex
 exact ⟨own_baseI h.rS hl, own_baseI h.rM hl, h.rT, lTr hl h.rlo, ⟨h.rX.c1, lTr hl h.rX.low, v, h1, h2.base hl⟩⟩
theorem Lw.rd {w : World} {lo : Nat} {nm : By} {cr : Bool} {N M k : Nat} {md : Int} {SA : Option Addr} {sc T : Nat} {x : St} {MA : Option Addr} {mc : Nat} (h : Lw w lo nm cr N M k md SA sc T x MA mc) :
  Rd w w.heap.size 4 SA k (flat (saCells nm x) (List.range k)) /\ StR w w.heap.size (Sd.of cr N M) x /\ Rus w w.heap.size (some ⟨T, 0, none⟩) 1 [⟨⟨0, md, 730, 25, sts k⟩, MA, mc⟩] := by
 have hlT : T < w.heap.size := (gis h.rT).1
 refine ⟨Rd.ofOwn h.rS, h.rX.rd, ?_, rfl, fun u hu => ?_⟩
 ·have h1 := Rd.built (m := 1) (sz := 5) h.rT hlT rfl
  have h2 : flat Rv.cells [⟨⟨0, md, 730, 25, sts k⟩, MA, mc⟩] = [.int .i64 0, .int .i64 md, .int .i64 730, .int .i64 25, .slice MA (sts k).length mc] := rfl
  rw [h2, sts_len]
  exact h1
 ·rw [List.mem_singleton.1 hu]
  show Rd w w.heap.size 1 MA (sts k).length (ints (sts k))
  rw [sts_len]
  exact Rd.ofOwn h.rM
def RetLw (w : World) (nm : By) (cr : Bool) (N M k : Nat) (md : Int) (e : Ending) (w' : World) : Prop :=
 ∃ (SA : Option Addr) (sc T : Nat) (x : St) (MA : Option Addr) (mc : Nat), e = .returned (.tuple #[.agg #[.slice SA k sc, .slice (some ⟨T, 0, none⟩) 1 1, .slice none 0 0], .bool true]) /\ Lw w' w.heap.size nm cr N M k md SA sc T x MA mc /\ Below w.heap.size w w'
theorem same_ok {nm : By} (hn : Nm nm) (cr : Bool) {N M k : Nat} {md : Int} (hN : N < 1000000000) (hM : M < 1000000000) (hk : k <= 6) (hmd : 0 <= md /\ md <= 73049) {w : World} (hw : Mt w) :
  Calls Tryz.prog 7 #[.string (bs (txt (statT nm cr N M))), .int .i64 (k : Int), .int .i64 md] w (RetLw w nm cr N M k md) := by
 obtain ⟨i0, hi0, hz0, hz1, hz2⟩ := info_parts info_state
 obtain ⟨i1, hi1, hy0, hy1, hy2⟩ := info_parts info_int
 obtain ⟨W, hW, bW, rW⟩ := box_new w (.cells #[.slice none 0 0, .slice none 0 0, .slice none 0 0] 28)
 have lW := (gis rW).1
 have hzW := bW.size
 have h4 := mt_four hw
 have hld := load_stat hn cr hN hM (hw.kp bW) (lTr h4 hzW)
 clear hw hn hN hM hmd
 generalize bs (txt (statT nm cr N M)) = T0 at *
 go_enter Tryz.func7, Tryz.ntmps7
 go_upto_region 1 with (fail)
 clear hW
 go_wp2_with fail
 refine hld.mono ?_
 rintro e w1 ⟨x, rfl, hx, b1⟩
 clear hld
 have HX0 := hID hx
 clear hx
 unfold St.agg
 go_upto_region 2 with (fail)
 obtain ⟨W2, hW2, b2, r2⟩ := st_new w1 nm x
 dsimp only [stBox] at hW2
 rw [hW2]
 clear hW2
 go_upto_region 3 with (fail)
 obtain ⟨W3, hW3, b3, r3⟩ := box_new W2 (ruBox 0 md none 0)
 have hz3 : W3.heap.size = W2.heap.size + 1 := by rw [<- hW3]; simp
 dsimp only [ruBox] at hW3
 rw [hW3]
 obtain ⟨W4, hW4, b4, r4⟩ := box_new W3 (lxBox none 0 0 W2.heap.size)
 have hz5 : W4.heap.size = W3.heap.size + 1 := by rw [<- hW4]; simp
 dsimp only [lxBox] at hW4
 rw [hW4]
 clear hW3 hW4
 have lS := (gis r2).1
 have hSw : w1.heap.size < W2.heap.size := lS
 have hz4 : W4.heap.size = W2.heap.size + 2 := by
  omega
 have r3' := (b4.block _ (gis r3).1).trans r3
 have hb4 : Below W2.heap.size W2 W4 := b3.trans (b4.mono b3.size)
 have HSX := hID (fun (u : World) (hu : Below W2.heap.size W2 u) => (hu.block _ lS).trans r2)
 have HX := hID (fun (u : World) (hu : Below W2.heap.size W2 u) (F : World) (hk : Kp w.heap.size u F) => (stx_base ((HX0.out.kp (Kp.of (R := w.heap.size) (b2.trans (hu.mono b2.size))) (Nat.lt_succ_of_lt lW)).kp hk (Nat.lt_succ_of_lt lW)) (Nat.le_succ_of_le hzW)))
 clear HX0
 have hb12 := bW.trans (b1.mono hzW)
 have hb2 := hb12.trans (b2.mono hb12.size)
 have HLO := hID (fun (u : World) (hu : Below W2.heap.size W2 u) => hb2.trans (hu.mono hb2.size))
 have HWZ := hID (fun (u : World) (hu : Below W2.heap.size W2 u) => (hu.block _ (lLt lW (lTr b1.size b2.size))).trans ((b2.block _ (lLt lW b1.size)).trans ((b1.block _ lW).trans rW)))
 have hlw : w.heap.size < W2.heap.size := lLt lW (lTr b1.size b2.size)
 rw [hz3] at r4
 clear r2 r3 b3 b4 b2 b1 rW lW hz3
 generalize hS : w1.heap.size = S at *
 generalize hT : W2.heap.size = T at *
 go_wp2_with fail
 go_loopw [12] (fun i wr => ∃ (j sc mc : Nat) (SA MA : Option Addr), j <= k /\ i = .int .i64 (j : Int) /\ wr.heap[T + 1]? = some (lxBox SA j sc T) /\ wr.heap[T]? = some (ruBox j md MA mc) /\ wr.ownsRow (T + 2) 58 4 (.slice SA j sc) j (flat (saCells nm x) (List.range j)) /\ wr.ownsRow (T + 2) 3 1 (.slice MA j mc) j (ints (sts j)) /\ Below T W2 wr /\ T + 2 <= wr.heap.size) (fun i _ => k - (intOf i).toNat)
 case atStart => exact ⟨0, 0, 0, none, none, by omega, rfl, r4, r3', World.ownsRow_nil _ _ _ _, World.ownsRow_nil _ _ _ _, hb4, by omega⟩
 case round =>
  obtain ⟨j, sc, mc, SA, MA, hj, rfl, rX, rT, hoS, hoM, hb, hws⟩ := hrel
  obtain ⟨x0, x1, x2⟩ : wr.cell? ⟨T + 1, 0, none⟩ = some (.slice SA j sc) /\ wr.cell? ⟨T + 1, 1, none⟩ = some (.slice (some ⟨T, 0, none⟩) 1 1) /\ wr.cell? ⟨T + 1, 2, none⟩ = some (.slice none 0 0) := by
   refine ⟨?_, ?_, ?_⟩ <;> rw [cOr rX] <;> rfl
  by_cases hlt : j < k
  ·have hlo : (0 : Int) <= (j : Int) := by omega
   have hhi : (j : Int) < (k : Int) := by omega
   obtain ⟨g0, g1, g2⟩ := stbox (HSX.out _ hb)
   have hoSa := hoS.alloc (.cells #[.int .i64 (j : Int), .string (bs nm), .int .i64 1, .slice (some ⟨x.b, 0, none⟩) 1 x.c] 58)
   go_upto_region 7 with (at_builtin; go_loud (refine wpList_append_rd (by rfl) (.tmp 30) (.tmp 34) 24 (by rfl) (T + 2) 58 i0 _ 4 56 Tryz.underlying24 hi0 hz0 hz1 hz2 rfl (by omega) (.slice SA j sc) j (flat (saCells nm x) (List.range j)) (by rfl) (hoS.alloc _) (wr.heap.size + 1) (some ⟨wr.heap.size, 0, none⟩) 1 1 [.int .i64 (j : Int), .string (bs nm), .int .i64 1, .slice (some ⟨x.b, 0, none⟩) 1 x.c] (by rfl) (Rd.built (hAn wr _) (by omega) rfl) (by intro u hu; simp at hu; rcases hu with rfl | rfl | rfl | rfl <;> rfl) (by unfold maxLen; omega) (by omega) (by simp; omega) ?_); intro v4 w4 hown4 hg4 hat4; obtain ⟨A4, c4, rfl, _, _, _⟩ := own_form hown4; have rX4 := grown_at hoSa hg4 (row_alloc _ rX) (by omega); have rT4 := grown_at hoSa hg4 (row_alloc _ rT) (by omega); have z0 : w4.cell? ⟨T + 1, 0, none⟩ = some (.slice SA j sc) := (by rw [cOr rX4]; rfl); have y0 := fZr 0 rX4)
   have hrow : flat (saCells nm x) (List.range j) ++ [.int .i64 (j : Int), .string (bs nm), .int .i64 1, .slice (some ⟨x.b, 0, none⟩) 1 x.c] = flat (saCells nm x) (List.range (j + 1)) := by rw [List.range_succ, flat_append, flat_one]; rfl
   rw [hrow] at hown4
   obtain ⟨u5, hu5⟩ : ∃ u, w4.setCell ⟨T + 1, 0, none⟩ (.slice A4 (j + 1) c4) = u := ⟨_, rfl⟩
   have hb4 := (hb.alloc (by omega) (.cells #[.int .i64 (j : Int), .string (bs nm), .int .i64 1, .slice (some ⟨x.b, 0, none⟩) 1 x.c] 58)).grown hg4 (by simp; omega) (fun g e => by have := (hoSa.lt g e).1; omega)
   have rX5 : u5.heap[T + 1]? = some (lxBox A4 (j + 1) c4 T) := by rw [<- hu5]; exact hSs w4 (T + 1) 0 _ _ _ rX4
   have rT5 : u5.heap[T]? = some (ruBox j md MA mc) := by rw [<- hu5]; exact (heap_setCell_other w4 ⟨T + 1, 0, none⟩ T _ (by show T ≠ T + 1; omega)).trans rT4
   have hoS5 : u5.ownsRow (T + 2) 58 4 (.slice A4 (j + 1) c4) (j + 1) (flat (saCells nm x) (List.range (j + 1))) := by rw [<- hu5]; exact own_kp hown4 (Kp.set w4 0 _) (by omega)
   have hoM5 : u5.ownsRow (T + 2) 3 1 (.slice MA j mc) j (ints (sts j)) := by
    rw [<- hu5]
    exact own_kp ((hoM.alloc _).kept hg4 (own_apart (hoM.alloc _) hoSa (by decide))) (Kp.set w4 0 _) (by omega)
   have hb5 : Below T W2 u5 := by rw [<- hu5]; exact hb4.setCell (p := ⟨T + 1, 0, none⟩) (by show T <= T + 1; omega) _
   have hw5 : wr.heap.size <= u5.heap.size := by
    rw [<- hu5]
    have := hg4.size
    simp at this ⊢
    omega
   rw [hu5]
   clear hu5 rX4 rT4 z0 y0 hown4 hg4 hb4 hoSa hoS hoM rX rT x0 x1 x2 g0 g1 g2 hrow
   obtain ⟨x1, t4⟩ : u5.cell? ⟨T + 1, 1, none⟩ = some (.slice (some ⟨T, 0, none⟩) 1 1) /\ u5.cell? ⟨T, 4, none⟩ = some (.slice MA j mc) := ⟨by rw [cOr rX5]; rfl, by rw [cOr rT5]; rfl⟩
   go_upto_region 8 with (fail)
   have hoMa := hoM5.alloc (.cells #[.int .i64 (j : Int)] 3)
   have x1a : (u5.alloc (.cells #[.int .i64 (j : Int)] 3)).cell? ⟨T + 1, 1, none⟩ = some (.slice (some ⟨T, 0, none⟩) 1 1) := (by rw [cOr (row_alloc _ rX5)]; rfl)
   go_region_held3 (fun w' => w'.cell? ⟨T + 1, 1, none⟩ = some (.slice (some ⟨T, 0, none⟩) 1 1)) (first | exact x1 | exact x1a | exact x1b | exact x1c | (rw [World.cell?_setCell_far _ _ _ _ (by show T ≠ T + 1; omega)]; first | exact x1 | exact x1b)) ((refine step_append_rd (by rfl) (.tmp 44) (.tmp 46) 45 (by rfl) (T + 2) 3 i1 _ 1 8 Tryz.underlying45 hi1 hy0 hy1 hy2 rfl (by omega) (.slice MA j mc) j (ints (sts j)) (by rfl) (hoM5.alloc _) (u5.heap.size + 1) (some ⟨u5.heap.size, 0, none⟩) 1 1 [.int .i64 (j : Int)] (by rfl) (Rd.built (hAn u5 _) (by omega) rfl) (by intro u hu; simp at hu; subst hu; rfl) (by unfold maxLen; omega) (by omega) (by simp; omega) ?_; intro v6 w6 hown6 hg6 hat6; obtain ⟨A6, c6, rfl, _, _, _⟩ := own_form hown6; have rX6 : w6.heap[T + 1]? = some (lxBox A4 (j + 1) c4 T) := (hg6.block (T + 1) (by simp; omega) (fun e => by have := (hoMa.lt (T + 1) e.symm).1; omega)).trans (row_alloc _ rX5); have rT6 : w6.heap[T]? = some (ruBox j md MA mc) := (hg6.block T (by simp; omega) (fun e => by have := (hoMa.lt T e.symm).1; omega)).trans (row_alloc _ rT5); have x1b : w6.cell? ⟨T + 1, 1, none⟩ = some (.slice (some ⟨T, 0, none⟩) 1 1) := (by rw [cOr rX6]; rfl); have t4b : w6.cell? ⟨T, 4, none⟩ = some (.slice MA j mc) := (by rw [cOr rT6]; rfl); have y4b := fZr 4 rT6; have x1c : (w6.setCell ⟨T, 4, none⟩ (.slice A6 (j + 1) c6)).cell? ⟨T + 1, 1, none⟩ = some (.slice (some ⟨T, 0, none⟩) 1 1) := (by rw [World.cell?_setCell_far _ _ _ _ (by show T ≠ T + 1; omega)]; exact x1b)))
   have hr2 : ints (sts j) ++ [Value.int .i64 (j : Int)] = ints (sts (j + 1)) := by simp [sts, ints, List.range_succ]
   rw [hr2] at hown6
   obtain ⟨w7, hw7⟩ : ∃ u, w6.setCell ⟨T, 4, none⟩ (.slice A6 (j + 1) c6) = u := ⟨_, rfl⟩
   have rX7 : w7.heap[T + 1]? = some (lxBox A4 (j + 1) c4 T) := by rw [<- hw7]; exact (heap_setCell_other w6 ⟨T, 4, none⟩ (T + 1) _ (by show T + 1 ≠ T; omega)).trans rX6
   have rT7 : w7.heap[T]? = some (ruBox (j + 1) md A6 c6) := by rw [<- hw7]; exact hSs w6 T 4 _ _ _ rT6
   have hoSd : (u5.alloc (.cells #[.int .i64 (j : Int)] 3)).drew.ownsRow (T + 2) 58 4 (.slice A4 (j + 1) c4) (j + 1) (flat (saCells nm x) (List.range (j + 1))) := hoS5.alloc _
   have hoMd : (u5.alloc (.cells #[.int .i64 (j : Int)] 3)).drew.ownsRow (T + 2) 3 1 (.slice MA j mc) j (ints (sts j)) := hoMa
   have hoS7 : w7.ownsRow (T + 2) 58 4 (.slice A4 (j + 1) c4) (j + 1) (flat (saCells nm x) (List.range (j + 1))) := by
    rw [<- hw7]
    exact own_kp (hoSd.kept hg6 (own_apart hoSd hoMd (by decide))) (Kp.set w6 4 _) (by omega)
   have hoM7 : w7.ownsRow (T + 2) 3 1 (.slice A6 (j + 1) c6) (j + 1) (ints (sts (j + 1))) := by rw [<- hw7]; exact own_kp hown6 (Kp.set w6 4 _) (by omega)
   have hb7 : Below T W2 w7 := by
    rw [<- hw7]
    have hbd : Below T W2 (u5.alloc (.cells #[.int .i64 (j : Int)] 3)).drew := Below.drew (hb5.alloc (by omega) (.cells #[.int .i64 (j : Int)] 3))
    exact (hbd.grown (w' := w6) hg6 (by simp; omega) (fun g e => by have := (hoMd.lt g e).1; omega)).setCell (p := ⟨T, 4, none⟩) (lRf) _
   have hs7 : T + 2 <= w7.heap.size := by
    rw [<- hw7]
    have := hg6.size
    simp at this ⊢
    omega
   rw [hw7]
   go_wp2_with fail
   go_roundw
   case rel => exact ⟨j + 1, c4, c6, A4, A6, by omega, by rfl, rX7, rT7, hoS7, hoM7, hb7, hs7⟩
   case measure => simp [intOf]; omega
  ·obtain rfl : j = k := by omega
   have hlt0 : decide ((j : Int) < (j : Int)) = false := by simp
   have rZ := HWZ.out wr hb
   have hbw := HLO.out wr hb
   obtain ⟨F, hF⟩ : ∃ F, (((wr.setCell ⟨w.heap.size, 0, none⟩ (.slice SA j sc)).setCell ⟨w.heap.size, 1, none⟩ (.slice (some ⟨T, 0, none⟩) 1 1)).setCell ⟨w.heap.size, 2, none⟩ (.slice none 0 0)) = F := ⟨_, rfl⟩
   obtain ⟨rF, kF⟩ := setCells_at (vs := [.slice SA j sc, .slice (some ⟨T, 0, none⟩) 1 1, .slice none 0 0]) rZ rfl
   have hFF : wr.setCells w.heap.size 0 [.slice SA j sc, .slice (some ⟨T, 0, none⟩) 1 1, .slice none 0 0] = F := hF
   rw [hFF] at rF kF
   have lZ := (gis rZ).1
   have hbF : Below w.heap.size w F := hbw.trans (kF.bel (lRf) lZ)
   have hXF := HX.out wr hb F kF
   have hwT : w.heap.size <= T := by omega
   have hLF : Lw F w.heap.size nm cr N M j md SA sc T x MA mc := ⟨own_baseI (own_kp hoS kF (by omega)) (by omega), own_baseI (own_kp hoM kF (by omega)) (by omega), kF.at rT (by omega), hwT, hXF⟩
   have HFIN := hID (And.intro rF (And.intro hLF hbF))
   clear hXF hLF rF kF hFF hbF hbw rT hoS hoM
   obtain ⟨y0, y1, y2⟩ : wr.cell? ⟨w.heap.size, 0, none⟩ = some (.slice none 0 0) /\ wr.cell? ⟨w.heap.size, 1, none⟩ = some (.slice none 0 0) /\ wr.cell? ⟨w.heap.size, 2, none⟩ = some (.slice none 0 0) := by
    refine ⟨?_, ?_, ?_⟩ <;> rw [cOr rZ] <;> rfl
   have z0 := fZr 0 rZ
   have z1 := fZr 1 rZ
   have z2 := fZr 2 rZ
   go_wp2_with fail
   clear hF
   obtain ⟨rF, hLF, hbF⟩ := HFIN.out
   obtain ⟨s0, s1, s2⟩ : F.cell? ⟨w.heap.size, 0, none⟩ = some (.slice SA j sc) /\ F.cell? ⟨w.heap.size, 1, none⟩ = some (.slice (some ⟨T, 0, none⟩) 1 1) /\ F.cell? ⟨w.heap.size, 2, none⟩ = some (.slice none 0 0) := by
    refine ⟨?_, ?_, ?_⟩ <;> rw [cOr rF] <;> rfl
   exact bodyPost_ret (v := .tuple #[.agg #[.slice SA j sc, .slice (some ⟨T, 0, none⟩) 1 1, .slice none 0 0], .bool true]) (by simp [results, Tryz.f7, go_sem, s0, s1, s2]) rfl ⟨SA, sc, T, x, MA, mc, rfl, hLF, hbF⟩
end
section
open Go.RowKit

def preFew : By := [115, 116, 97, 116, 117, 116, 101, 32, 102, 101, 119, 32, 99, 117, 114, 114, 101, 110, 99, 121, 32, 49, 32, 123, 32, 102, 114, 111, 109, 32, 64, 49, 57, 48, 48, 45, 48, 49, 45, 48, 49, 32, 123, 32, 114, 111, 117, 110, 100, 32, 100, 111, 119, 110, 32, 49, 59, 32, 103, 114, 97, 110, 116, 32, 111, 108, 100, 32, 105, 102, 32, 105, 110, 115, 117, 114, 101, 100, 32, 62, 61, 32]
def preFlat : By := [115, 116, 97, 116, 117, 116, 101, 32, 102, 108, 97, 116, 32, 99, 117, 114, 114, 101, 110, 99, 121, 32, 49, 32, 123, 32, 102, 114, 111, 109, 32, 64, 49, 57, 48, 48, 45, 48, 49, 45, 48, 49, 32, 123, 32, 114, 111, 117, 110, 100, 32, 100, 111, 119, 110, 32, 49, 59, 32, 99, 114, 101, 100, 105, 116, 32, 118, 111, 108, 117, 110, 116, 97, 114, 121, 59, 32, 103, 114, 97, 110, 116, 32, 111, 108, 100, 32, 105, 102, 32, 105, 110, 115, 117, 114, 101, 100, 32, 62, 61, 32, 49, 100, 32, 112, 97, 121, 32]
def midB : By := [100, 32, 112, 97, 121, 32]
def endB : By := [109, 59, 32, 125, 32, 125]
theorem txt_few (N M : Nat) : txt (statT fewB false N M) = (((preFew ++ dgl N) ++ midB) ++ dgl M) ++ endB := by
 simp [statT, headT, grantT, txt, fewB, insB, day0, dgl_one, preFew, midB, endB]
theorem txt_one (M : Nat) : txt (statT fewB false 1 M) = ((preFew ++ [49, 100, 32, 112, 97, 121, 32]) ++ dgl M) ++ endB := by
 rw [txt_few, dgl_one]
 simp [midB]
theorem txt_flat (M : Nat) : txt (statT flatB true 1 M) = (preFlat ++ dgl M) ++ endB := by
 simp [statT, headT, grantT, credT, txt, flatB, insB, day0, dgl_one, preFlat, endB]
theorem bsz (n : Nat) (hn : n < 1000000000) : (bs (dgl n)).size <= 9 := by rw [bs_size]; exact dgl_len 8 n hn
abbrev lwZero : Obj := .cells #[.slice none 0 0, .slice none 0 0, .slice none 0 0] 28
theorem flat_ok {w : World} (hw : Mt w) : Calls Tryz.prog 14 #[.int .i64 1, .int .i64 77] w (RetLw w flatB true 1 77 1 0) := by
 obtain ⟨W, hW, bW, rW⟩ := box_new w lwZero
 have lW := (gis rW).1
 have hzW := bW.size
 have hdg := fun u => tdigits_ok 77 (by omega) u
 have hsz := bsz 77 (by omega)
 have hT : (bs preFlat ++ bs (dgl 77)) ++ bs endB = bs (txt (statT flatB true 1 77)) := by rw [bs_append, bs_append, txt_flat]
 have HSA := hID (fun (u : World) (hu : Below W.heap.size W u) => same_ok (k := 1) (md := 0) (N := 1) (M := 77) nm_flat true (by omega) (by omega) (by omega) ⟨by decide, by decide⟩ (hw.kp (bW.trans (hu.mono hzW))))
 rw [<- hT] at HSA
 clear hT hw
 generalize bs (dgl 77) = D at *
 dsimp only [lwZero] at hW
 go_enter Tryz.func14, Tryz.ntmps14
 go_upto_region 1 with (fail)
 clear hW
 go_wp2_with fail
 refine (hdg _).mono ?_
 rintro e w1 ⟨rfl, b1⟩
 have hsa := HSA.out w1 b1
 clear HSA hdg
 go_wp2_with fail
 refine hsa.mono ?_
 rintro e w2 ⟨SA, sc, T, x, MA, mc, rfl, hL, b2⟩
 have b12 := b1.trans (b2.mono b1.size)
 have rZ := (b12.block _ lW).trans rW
 obtain ⟨F, hF⟩ : ∃ F, (((w2.setCell ⟨w.heap.size, 0, none⟩ (.slice SA 1 sc)).setCell ⟨w.heap.size, 1, none⟩ (.slice (some ⟨T, 0, none⟩) 1 1)).setCell ⟨w.heap.size, 2, none⟩ (.slice none 0 0)) = F := ⟨_, rfl⟩
 obtain ⟨rF, kF⟩ := setCells_at (vs := [.slice SA 1 sc, .slice (some ⟨T, 0, none⟩) 1 1, .slice none 0 0]) rZ rfl
 have hFF : w2.setCells w.heap.size 0 [.slice SA 1 sc, .slice (some ⟨T, 0, none⟩) 1 1, .slice none 0 0] = F := hF
 rw [hFF] at rF kF
 have hbF : Below w.heap.size w F := (bW.trans (b12.mono hzW)).trans (kF.bel (lRf) (gis rZ).1)
 have hLF := (hL.kp kF (lLt lW b1.size)).base (lTr hzW b1.size)
 have HFIN := hID (And.intro rF (And.intro hLF hbF))
 clear rF kF hFF hbF hLF hL hsa
 obtain ⟨y0, y1, y2⟩ : w2.cell? ⟨w.heap.size, 0, none⟩ = some (.slice none 0 0) /\ w2.cell? ⟨w.heap.size, 1, none⟩ = some (.slice none 0 0) /\ w2.cell? ⟨w.heap.size, 2, none⟩ = some (.slice none 0 0) := by
  refine ⟨?_, ?_, ?_⟩ <;> rw [cOr rZ] <;> rfl
 have z0 := fZr 0 rZ
 have z1 := fZr 1 rZ
 have z2 := fZr 2 rZ
 go_wp2_with fail
 clear hF
 obtain ⟨rF, hLF, hbF⟩ := HFIN.out
 obtain ⟨s0, s1, s2⟩ : F.cell? ⟨w.heap.size, 0, none⟩ = some (.slice SA 1 sc) /\ F.cell? ⟨w.heap.size, 1, none⟩ = some (.slice (some ⟨T, 0, none⟩) 1 1) /\ F.cell? ⟨w.heap.size, 2, none⟩ = some (.slice none 0 0) := by
  refine ⟨?_, ?_, ?_⟩ <;> rw [cOr rF] <;> rfl
 exact bodyPost_ret (v := .tuple #[.agg #[.slice SA 1 sc, .slice (some ⟨T, 0, none⟩) 1 1, .slice none 0 0], .bool true]) (by simp [results, Tryz.f14, go_sem, s0, s1, s2]) rfl ⟨SA, sc, T, x, MA, mc, rfl, hLF, hbF⟩
def bnL (SA : Option Addr) (k sc : Nat) (RA : Option Addr) (rc : Nat) (d md : Int) : Bn := ⟨SA, k, sc, RA, rc, d, md, none, 0⟩
theorem lw_pur {SA : Option Addr} {k sc T rc n N M d mc : Nat} {MA : Option Addr} {nm : By} {md : Int} {L : List Fc} {ws : List Sp} (hmd : 0 <= md /\ md <= 73049) (hl : L.length = n) (hW : Wks ws L) (hw : WOk 0 ws) (hk : ws.length <= k) (h0 : 0 < k) (h6 : k <= 6) (hn : Nm nm) (hN : N < 1000000000) (hM : M < 1000000) (hd : d <= 73048) (hwd : ∀ s ∈ ws, s.t <= (d : Int)) :
  Pur (bnL SA k sc (some ⟨T, 0, none⟩) rc (d : Int) md) nm N M n L ws ⟨⟨0, md, 730, 25, sts k⟩, MA, mc⟩ d :=
 ⟨h0, h6, hn, hN, hM, ⟨rfl, rfl, rfl, hmd, sts_ok k h6, by show (sts k).length <= 6; rw [sts_len]; exact h6⟩, rfl, rfl, rfl, hd, hl, hW, hw, hk, hwd⟩
theorem lw_inp {w : World} {lo : Nat} {nm : By} {cr : Bool} {N M k n : Nat} {md d : Int} {SA A : Option Addr} {sc T rc : Nat} {x : St} {MA : Option Addr} {mc : Nat} {L : List Fc} (h : Lw w lo nm cr N M k md SA sc T x MA mc) (hL : Rd w w.heap.size 14 A n (flat Fc.cells L)) :
  Inp w w.heap.size (bnL SA k sc (some ⟨T, 0, none⟩) rc d md) x nm cr N M ⟨⟨0, md, 730, 25, sts k⟩, MA, mc⟩ A n L :=
 ⟨h.rd.1, h.rd.2.1, h.rd.2.2, hL⟩
theorem Lw.under {w w' : World} {lo : Nat} {nm : By} {cr : Bool} {N M k : Nat} {md : Int} {SA : Option Addr} {sc T : Nat} {x : St} {MA : Option Addr} {mc : Nat} (h : Lw w lo nm cr N M k md SA sc T x MA mc) (h0 : 0 < lo) (hb : Below w.heap.size w w') : Lw w' lo nm cr N M k md SA sc T x MA mc :=
 h.kp (Kp.of (R := 0) hb) h0
theorem awk_row (XA : Option Addr) (xc : Nat) : awdC [⟨30000, 30010⟩] 0 1 77 31000 (0, XA, xc) = [.int .i64 ((0 : Nat) : Int), .int .i64 1, .int .i64 ((31000 : Nat) : Int), .int .i64 0, .bool false, .int .i64 77, .int .i64 77, .int .i64 77, .int .i64 10, .int .i64 10, .int .i64 77, .slice XA 2 xc] := by
 have h : fW [⟨30000, 30010⟩] 0 0 = false /\ frW [⟨30000, 30010⟩] 0 0 = (10, 10) /\ aI [⟨30000, 30010⟩] 0 1 77 0 = 77 /\ aT [⟨30000, 30010⟩] 0 1 77 0 = 77 /\ aP [⟨30000, 30010⟩] 0 1 77 0 = 77 /\ aA [⟨30000, 30010⟩] 0 1 77 0 = 77 /\ aS [⟨30000, 30010⟩] 0 1 77 0 = 2 := by decide
 exact awdC_eq h.1 h.2.1 h.2.2.1 h.2.2.2.1 h.2.2.2.2.1 h.2.2.2.2.2.1 h.2.2.2.2.2.2
theorem wks1 : Wks [⟨30000, 30010⟩] [wkF 0 1 30000 30010 500] := by
 refine ⟨rfl, fun k s hs => ?_⟩
 match k, hs with
 | 0, hs => obtain rfl := Option.some.inj hs; exact ⟨1, 500, rfl, by decide, by decide, by decide, by decide⟩
 | k + 1, hs => simp at hs
theorem tawake_ok {w : World} (hw : Mt w) : Calls Tryz.prog 10 #[] w fun e w' => e = .returned (.bool true) /\ Below w.heap.size w w' := by
 have hfl := flat_ok hw
 have h4 := mt_four hw
 have HMT := hID (fun (u : World) (hu : Below w.heap.size w u) => hw.kp hu)
 clear hw
 go_enter Tryz.func10, Tryz.ntmps10
 go_wp2_with fail
 refine hfl.mono ?_
 rintro e w1 ⟨SA, sc, T, x, MA, mc, rfl, hL, b1⟩
 clear hfl
 go_upto_region 2 with (fail)
 obtain ⟨V, hV, bV, rV⟩ := lw_new w1 SA 1 sc (some ⟨T, 0, none⟩) 1
 dsimp only [lwBox] at hV
 rw [hV]
 clear hV
 have lV := (gis rV).1
 have hLV := hL.under (by omega) bV
 have b1V := b1.trans (bV.mono b1.size)
 clear hL
 go_wp2_with fail
 refine (work_ok _ _ _ _ _ _).mono ?_
 rintro e w2 ⟨rfl, b2⟩
 dsimp only [wkCells]
 go_upto_region 3 with (fail)
 obtain ⟨U, hU, bU, rU⟩ := box_new w2 (.cells (wkCells 1 0 30000 30010 500) 34)
 dsimp only [wkCells] at hU
 rw [hU]
 clear hU
 have lU := (gis rU).1
 have b2U := b2.trans (bU.mono b2.size)
 have hLU := hLV.under (by omega) b2U
 have hbU := b1V.trans (b2U.mono b1V.size)
 have rVU := (b2U.block _ lV).trans rV
 have hrd : Rd U U.heap.size 14 (some ⟨w2.heap.size, 0, none⟩) 1 (flat Fc.cells [wkF 0 1 30000 30010 500]) := Rd.built rU lU rfl
 have hof := of_award (s := 0) (c := 1) (lw_pur (SA := SA) (k := 1) (sc := sc) (T := T) (rc := 1) (n := 1) (N := 1) (M := 77) (d := 31000) (mc := mc) (MA := MA) (nm := flatB) (md := 0) ⟨by decide, by decide⟩ rfl wks1 ⟨by decide, by decide, by decide, trivial⟩ (Nat.le_refl 1) (by decide) (by decide) nm_flat (by decide) (by decide) (by decide) (fun s hs => by rw [List.mem_singleton.1 hs]; decide)) (lw_inp (rc := 1) (d := ((31000 : Nat) : Int)) hLU hrd) (show (0 : Nat) < 1 by decide) (HMT.out U hbU)
 unfold bnL at hof
 dsimp only at hof
 obtain ⟨c0, c1, c2⟩ := lwbox rVU
 clear hLV hLU hrd rU
 go_wp2_with fail
 refine hof.mono ?_
 rintro e w3 ⟨⟨XA, xc, rfl⟩, b3⟩
 rw [awk_row]
 clear hof c0 c1 c2
 have hb3 := hbU.trans (b3.mono hbU.size)
 go_wp2_with fail
 go_ret
 exact ⟨rfl, hb3.alloc (by have := hb3.size; omega) _⟩
end
section
open Go.RowKit

theorem pickI (n k : Int) (h1 : 1 <= k) (h2 : k <= 200000) (w : World) : Calls Tryz.prog 5 #[.int .i64 n, .int .i64 k] w fun e w' => ∃ p : Int, e = .returned (.int .i64 p) /\ (0 <= p /\ p < k) /\ w = w' := by
 refine (pick_any n k w (by omega)).mono ?_
 rintro e w' ⟨rfl, rfl⟩
 exact ⟨_, rfl, pick_bd n k h1, rfl⟩
theorem tdigitsI {z : Int} (n : Nat) (h : z = (n : Int)) (hn : n < 1000000000) (w : World) : Calls Tryz.prog 6 #[.int .i64 z] w fun e w' => e = .returned (.string (bs (dgl n))) /\ Below w.heap.size w w' := by
 subst h
 exact tdigits_ok n hn w
theorem all_of {lo : Nat} {SA A MA : Option Addr} {k sc T mc n c N M d : Nat} {x : St} {nm : By} {cr : Bool} {md : Int} {L : List Fc} {ws : List Sp} {w : World} (hLw : Lw w lo nm cr N M k md SA sc T x MA mc) (hmd : 0 <= md /\ md <= 73049) (hL : Rd w w.heap.size 14 A n (flat Fc.cells L)) (hl : L.length = n) (hW : Wks ws L) (hw : WOk 0 ws) (hk : ws.length <= k) (h0 : 0 < k) (h6 : k <= 6) (hn : Nm nm) (hN : N < 1000000000) (hM : M < 1000000) (hd : d <= 73048) (hwd : ∀ s ∈ ws, s.t <= (d : Int)) (hm : Mt w) :
  Calls Tryz.prog 9 #[.agg #[.slice SA k sc, .slice (some ⟨T, 0, none⟩) 1 1, .slice none 0 0], .slice A n c, .int .i64 1, .int .i64 (d : Int)] w (RetAw w ws md N M d k) :=
 all_award (b := bnL SA k sc (some ⟨T, 0, none⟩) 1 (d : Int) md) (lw_pur hmd hl hW hw hk h0 h6 hn hN hM hd hwd) (lw_inp hLw hL) hm
theorem awd_len (ws : List Sp) (md : Int) (N M d : Nat) (x : Nat × Option Addr × Nat) : (awdC ws md N M d x).length = 12 := rfl
theorem aw_cells {w : World} {base e k c : Nat} {A : Option Addr} {Y : List (Nat × Option Addr × Nat)} {ws : List Sp} {md : Int} {N M d : Nat} (h : w.ownsRow base e 12 (.slice A k c) k (flat (awdC ws md N M d) Y)) (hl : Y.length = k) (hY : ∀ (i : Nat) (x : Nat × Option Addr × Nat), Y[i]? = some x -> x.1 = i) (h0 : 0 < k) :
  ∃ b o, A = some ⟨b, o, none⟩ /\ b < w.heap.size /\ ∀ i, i < k -> ∃ XA xc, ∀ (j : Nat) (u : Value), (awdC ws md N M d (i, XA, xc))[j]? = some u -> w.cell? ⟨b, o + i * 12 + j, none⟩ = some u := by
 obtain ⟨y0, hy0⟩ : ∃ y, Y[0]? = some y := ⟨_, List.getElem?_eq_getElem (by omega)⟩
 obtain ⟨_, b, o, rfl, hb, _⟩ := (Rd.ofOwn h).elem (awd_len ws md N M d) hy0 (by omega)
 refine ⟨b, o, rfl, hb, fun i hi => ?_⟩
 obtain ⟨⟨i', XA, xc⟩, hy⟩ : ∃ y, Y[i]? = some y := ⟨_, List.getElem?_eq_getElem (by omega)⟩
 obtain ⟨_, b', o', e', _, hc⟩ := (Rd.ofOwn h).elem (awd_len ws md N M d) hy (by omega)
 obtain ⟨rfl, rfl⟩ : b = b' /\ o = o' := by simpa using e'
 obtain rfl : i' = i := hY i _ hy
 exact ⟨XA, xc, fun j u hu => hc j u hu⟩
theorem lw_box {w : World} {lo : Nat} {nm : By} {cr : Bool} {N M k : Nat} {md : Int} {SA : Option Addr} {sc T : Nat} {x : St} {MA : Option Addr} {mc : Nat} (h : Lw w lo nm cr N M k md SA sc T x MA mc) (h0 : 0 < lo) :
  ∃ V, w.alloc (.cells #[.slice SA k sc, .slice (some ⟨T, 0, none⟩) 1 1, .slice none 0 0] 28) = V /\ Below w.heap.size w V /\ V.heap[w.heap.size]? = some (lwBox SA k sc (some ⟨T, 0, none⟩) 1) /\ Lw V lo nm cr N M k md SA sc T x MA mc := by
 obtain ⟨V, hV, bV, rV⟩ := lw_new w SA k sc (some ⟨T, 0, none⟩) 1
 exact ⟨V, hV, bV, rV, h.under h0 bV⟩
end
section
open Go.ChangeShapes Go.WideShapes Go.ChangeAt Go.RowKit

theorem laid_tail {P : Program} {x : String × DataW Unit} {r : List (String × DataW Unit)} {w : World} (h : laidMet P (x :: r) w) : laidMet P r w := by
 obtain ⟨ps, hv, hnd, hrows⟩ := h
 obtain ⟨n, d⟩ := x
 obtain ⟨g, t, cs, fuel, p, q, _, _, _, _, hq, rfl⟩ := hv
 exact ⟨q, hq, List.Nodup.sublist (List.sublist_append_right _ _) hnd, fun b off hm => hrows b off (List.mem_append_right _ hm)⟩
theorem int_of_shape {P : Program} {w : World} {g : Nat} {t : TypeId} {zero : Array Value} {k : IntKind} (h : w.ShapedOpen P) (hg : g < P.globals.size)
  (h0 : ((begin P (fun _ _ => 0) default).world.heap[g]?).bind Obj.row? = some (zero, t)) (hz : zero.size = 1)
  (hb : P.buildable t = true) (hc : P.cellTypes P.depth t = some [t]) (hu : P.underlying t = some (.int k)) : g < w.heap.size /\ ∃ m, w.cell? ⟨g, 0, none⟩ = some (.int k m) := by
 obtain ⟨cs, hh, hs, hr⟩ := h.1 g zero t hg h0
 obtain ⟨ts, hts, _, hall⟩ := hr hb
 rw [hc] at hts
 cases hts
 have h1 : 0 < cs.size := by omega
 obtain ⟨u, hu', hok⟩ := hall 0 cs[0] (by simp [h1])
 have : u = t := by simpa using hu'.symm
 subst this
 have hcell : w.cell? ⟨g, 0, none⟩ = some cs[0] := by simp [World.cell?, hh, h1]
 refine ⟨(gis hh).1, ?_⟩
 rw [hcell]
 unfold Cell.ok at hok
 rw [hu] at hok
 cases hv : cs[0] <;> rw [hv] at hok <;> first | (simp at hok; done) | (simp at hok; obtain ⟨rfl, _⟩ := hok; exact ⟨_, rfl⟩) | exact ⟨_, rfl⟩ | (simp at hok; subst hok; exact ⟨_, rfl⟩)
theorem gPow : Tryz.prog.globalNamed "internal/strconv.uint64pow10" = some 3 := by kernel_rfl
theorem gPowType : (Tryz.prog.globals[3]?).map (·.type) = some 471 := by kernel_rfl
theorem mt_of_laid {W : World} (h : laidMetH Tryz.prog Rows.topFewRow.laid W) (hS : W.ShapedOpen Tryz.prog) : Mt W := by
 have hl : laidMet Tryz.prog Rows.topFewRow.laid W := h
 obtain ⟨h2, m, hm⟩ := int_of_shape (P := Tryz.prog) (g := 2) (t := 3) (zero := #[.int .i64 0]) (k := .i64) hS (of_decide_eq_true (by kernel_rfl)) (by kernel_rfl) rfl (by kernel_rfl) (by kernel_rfl) Tryz.underlying3
 exact ⟨⟨h2, m, hm⟩, Lib.tabIs_of_head (rest := []) gPow gPowType Tryz.underlying471 Tryz.underlying63 (by kernel_rfl) (by kernel_rfl) (laid_tail (laid_tail hl))⟩
end
end Go.Proofs.YtnlopdmhdiegnaaGreatDoor
