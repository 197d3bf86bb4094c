/- Who claims a day, which state is closest, the decision about a day. -/
import Derived.Test.YtkncfhdfobcjeaaOvC
import Derived.Test.YtkncfhdfobcjeaaSpCont
import Derived.Test.YtkncfhdfobcjeaaSpSi
import Derived.Test.YtkncfhdfobcjeaaSpPs
namespace Go.Proofs.Ytkncfhdfobcjeaa
open Go.RowKit

theorem rk_hit {C : List Pr} {x : Int} {k : Nat} (hk : k < 7) (h0 : ∀ q : Nat, q < k → stL C ((q : Int) + 1) x = []) (h1 : stL C ((k : Int) + 1) x ≠ []) : rkC C x = some ((k : Int) + 1) := by
  have h1' : (!(stL C ((k : Int) + 1) x).isEmpty) = true := by simpa using h1
  have c : k = 0 ∨ k = 1 ∨ k = 2 ∨ k = 3 ∨ k = 4 ∨ k = 5 ∨ k = 6 := by omega
  refine List.find?_eq_some_iff_append.2 ⟨h1', (List.range k).map (fun q : Nat => (q : Int) + 1), (List.range (6 - k)).map (fun q : Nat => ((k + 1 + q : Nat) : Int) + 1), ?_, fun a ha => ?_⟩
  · rcases c with rfl | rfl | rfl | rfl | rfl | rfl | rfl <;> rfl
  · obtain ⟨q, hq, rfl⟩ := List.mem_map.1 ha
    rw [h0 q (List.mem_range.1 hq)]
    rfl
theorem rk_none {C : List Pr} {x : Int} (h0 : ∀ q : Nat, q < 7 → stL C ((q : Int) + 1) x = []) : rkC C x = none := by
  unfold rkC
  refine List.find?_eq_none.2 fun r hr => ?_
  have : ∃ q : Nat, q < 7 ∧ r = (q : Int) + 1 := by
    simp [ranks] at hr
    rcases hr with rfl | rfl | rfl | rfl | rfl | rfl | rfl
    · exact ⟨0, by omega, rfl⟩
    · exact ⟨1, by omega, rfl⟩
    · exact ⟨2, by omega, rfl⟩
    · exact ⟨3, by omega, rfl⟩
    · exact ⟨4, by omega, rfl⟩
    · exact ⟨5, by omega, rfl⟩
    · exact ⟨6, by omega, rfl⟩
  obtain ⟨q, hq, rfl⟩ := this
  rw [h0 q hq]
  simp
/-- The first i states that claim a day with a rank. -/
def stT (C : List Pr) (r x : Int) (i : Nat) : List Int := (states.take i).filter fun s => Dd C s r x
theorem states_at {i : Nat} (h : i < 6) : states[i]? = some (i : Int) := by
  have c : i = 0 ∨ i = 1 ∨ i = 2 ∨ i = 3 ∨ i = 4 ∨ i = 5 := by omega
  rcases c with rfl | rfl | rfl | rfl | rfl | rfl <;> rfl
theorem stT_succ (C : List Pr) (r x : Int) {i : Nat} (h : i < 6) : stT C r x (i + 1) = if Dd C (i : Int) r x = true then stT C r x i ++ [(i : Int)] else stT C r x i := by
  unfold stT
  rw [List.take_add_one, states_at h, Option.toList_some, List.filter_append, List.filter_cons]
  by_cases hc : Dd C (i : Int) r x = true
  · rw [if_pos hc, if_pos hc]; rfl
  · rw [if_neg hc, if_neg hc, List.filter_nil, List.append_nil]
theorem stT_all (C : List Pr) (r x : Int) : stT C r x 6 = stL C r x := rfl
theorem stT_length (C : List Pr) (r x : Int) (i : Nat) : (stT C r x i).length ≤ i := Nat.le_trans (List.length_filter_le _ _) (by rw [List.length_take]; omega)
theorem stL_bd {C : List Pr} {r x s : Int} (h : s ∈ stL C r x) : ∃ i : Nat, i < 6 ∧ s = (i : Int) := by
  have := ((mem_stL C r x s).1 h).1
  simp [states] at this
  rcases this with rfl | rfl | rfl | rfl | rfl | rfl
  · exact ⟨0, by omega, rfl⟩
  · exact ⟨1, by omega, rfl⟩
  · exact ⟨2, by omega, rfl⟩
  · exact ⟨3, by omega, rfl⟩
  · exact ⟨4, by omega, rfl⟩
  · exact ⟨5, by omega, rfl⟩
/-- The least rank and the states that claim the day with it, or 0. -/
def RetCl (w : World) (C : List Pr) (x : Int) (e : Ending) (w' : World) : Prop :=
  Below w.heap.size w w' ∧ ((rkC C x = none ∧ e = .returned (.tuple #[.int .i64 0, .slice none 0 0])) ∨
    ∃ (r : Int) (A : Option Addr) (c : Nat), rkC C x = some r ∧ 1 ≤ r ∧ r ≤ 7 ∧ e = .returned (.tuple #[.int .i64 r, .slice A (stL C r x).length c]) ∧ (stL C r x).length ≤ 6 ∧ w'.ownsRow w.heap.size 3 1 (.slice A (stL C r x).length c) (stL C r x).length (ints (stL C r x)))

set_option maxRecDepth 100000 in
set_option maxHeartbeats 2000000 in
theorem claimants_any {w : World} {base g : Nat} {C : List Pr} (x : Int) (h : Bd w base g C) (hC : C.length ≤ 100) :
    Calls Try.prog 72 #[.pointer (some ⟨g, 0, none⟩), .int .i64 x] w (RetCl w C x) := by
  obtain ⟨i1, hi1, hy0, hy1, hy2⟩ := info_parts info_int
  go_enter Try.func72, Try.ntmps72
  go_wp2_with fail
  go_loopw [5, 6] (fun v i wr => ∃ (k : Nat) (A : Option Addr) (c : Nat), k ≤ 7 ∧ i = .int .i64 (k : Int) ∧ v = .slice A 0 c ∧ (∀ q : Nat, q < k → stL C ((q : Int) + 1) x = []) ∧ wr.ownsRow w.heap.size 3 1 (.slice A 0 c) 0 [] ∧ Below w.heap.size w wr) (fun _ i _ => 7 - (intOf i).toNat)
  case atStart => exact ⟨0, none, 0, by omega, rfl, rfl, fun q hq => by omega, World.ownsRow_nil _ _ _ _, Below.refl _ _⟩
  case round =>
    obtain ⟨k, A0, c0, hk, rfl, rfl, hno, hown0, hb⟩ := hrel
    have HNO := Lib.hid hno
    clear hno
    obtain ⟨wo, rfl⟩ : ∃ wo : World, wo = wr := ⟨_, rfl⟩
    by_cases hlt : k < 7
    · have hlo : (0 : Int) ≤ (k : Int) := by omega
      have hhi : (k : Int) < 7 := by omega
      go_wp2_with fail
      go_loopw [5, 12] (fun v i wr => ∃ (a : Nat), a ≤ 6 ∧ i = .int .i64 (a : Int) ∧ wr.ownsRow w.heap.size 3 1 v (stT C ((k : Int) + 1) x a).length (ints (stT C ((k : Int) + 1) x a)) ∧ Below w.heap.size w wr) (fun _ i _ => 6 - (intOf i).toNat)
      case atStart => exact ⟨0, by omega, rfl, hown0, hb⟩
      case round =>
        clear hown0 hb
        obtain ⟨a, ha, rfl, hown, hb⟩ := hrel
        have hwsz := hb.size
        obtain ⟨A1, c1, rfl, hnc1, hcm1, hA1⟩ := own_form hown
        have hstl := stT_length C ((k : Int) + 1) x a
        by_cases hla : a < 6
        · obtain ⟨A, N, c, l, hc, hds, hN, hD⟩ := (h.under hb).at hla hlt
          have hdx := hD x
          have HDX := Lib.hid hdx
          have hst := stT_succ C ((k : Int) + 1) x hla
          rw [← hdx] at hst
          have HST := Lib.hid hst
          have hlo2 : (0 : Int) ≤ (a : Int) := by omega
          have hhi2 : (a : Int) < 6 := by omega
          clear hdx hst hD
          generalize stT C ((k : Int) + 1) x a = O at *
          go_wp2_with fail
          refine (contains_any x hds (by omega)).mono ?_
          rintro e w2 ⟨rfl, hb2⟩
          have hown2 := own_under hown hb2
          have hbb2 := hb.trans (hb2.mono hwsz)
          have hz2 := hbb2.size
          clear hown hb hb2 hc hds
          cases hd : dset l x with
          | false =>
            rw [hd] at HST
            clear hd HDX
            go_wp2_with fail
            go_roundw
            case rel => exact ⟨a + 1, by omega, by go_num, by rw [HST.out]; exact hown2, hbb2⟩
            case measure => simp [intOf]; omega
          | true =>
            rw [hd] at HST
            clear hd HDX
            go_wp2_with (at_builtin; go_loud (refine wpList_append_rd (by rfl) (.tmp 24) (.tmp 26) 25 (by rfl) w.heap.size 3 i1 _ 1 8 Try.underlying25 hi1 hy0 hy1 hy2 rfl (by omega) _ O.length (ints O) (by rfl) (hown2.alloc _) (w2.heap.size + 1) (some ⟨w2.heap.size, 0, none⟩) 1 1 [.int .i64 (a : Int)] (by rfl) (Rd.built (heap_alloc_new w2 _) (by omega) rfl) (by intro u hu; simp at hu; rcases hu with rfl; rfl) (by unfold maxLen; omega) (by omega) (by simp; omega) ?_); intro v4 w4 hown4 hg4 hat4)
            have e1' : (O ++ [(a : Int)]).length = O.length + 1 := by simp
            have hb4 := (hbb2.alloc hz2 (.cells #[.int .i64 (a : Int)] 3)).grown hg4 (by simp; omega) (fun g e => (hown2.lt g e).1)
            have E1 := Lib.hid e1'
            clear e1'
            go_roundw
            case rel => exact ⟨a + 1, by omega, by go_num, by rw [HST.out, if_pos trivial, E1.out, ints_append]; exact hown4, hb4⟩
            case measure => simp [intOf]; omega
        · obtain rfl : a = 6 := by omega
          rw [stT_all] at *
          by_cases hS : stL C ((k : Int) + 1) x = []
          · have HNO2 : Hid (∀ q : Nat, q < k + 1 → stL C ((q : Int) + 1) x = []) := fun q hq => by
              by_cases e : q = k
              · rw [e]; exact hS
              · exact HNO.out q (by omega)
            rw [hS] at hown ⊢
            clear hS HNO hstl
            have hown' : wr.ownsRow w.heap.size 3 1 (.slice A1 0 c1) 0 [] := hown
            go_wp2_with fail
            go_roundw
            case rel => exact ⟨k + 1, A1, c1, by omega, by go_num, rfl, HNO2.out, hown', hb⟩
            case measure => simp [intOf]; omega
          · have hrk := rk_hit hlt HNO.out hS
            have hlp := List.length_pos_iff.2 hS
            have HRK := Lib.hid hrk
            have hlp2 : (0 : Int) < ((stL C ((k : Int) + 1) x).length : Int) := by omega
            clear hS HNO hrk
            generalize hL : stL C ((k : Int) + 1) x = L at *
            have HL := Lib.hid hL
            clear hL
            go_wp2_with fail
            go_ret2
            refine ⟨hb, .inr ⟨(k : Int) + 1, A1, c1, HRK.out, by omega, by omega, ?_, ?_, ?_⟩⟩
            · rw [HL.out]; rfl
            · rw [HL.out]; exact hstl
            · rw [HL.out]; exact hown
    · have hn7 := rk_none (C := C) (x := x) fun q hq => HNO.out q (by omega)
      have HN7 := Lib.hid hn7
      clear hn7 HNO
      go_wp2_with fail
      go_ret2
      exact ⟨hb, .inl ⟨HN7.out, rfl⟩⟩

/-- A number of the list, read. -/
theorem own_at {w : World} {base n c : Nat} {A : Option Addr} {L : List Int} (h : w.ownsRow base 3 1 (.slice A n c) n (ints L)) {k : Nat} {s : Int} (hs : L[k]? = some s) : ∃ g, A = some ⟨g, 0, none⟩ ∧ k < n ∧ w.cell? ⟨g, k, none⟩ = some (.int .i64 s) := by
  have hl : L.length = n := by have := h.1; rw [ints_length] at this; omega
  have hk := (List.getElem?_eq_some_iff.1 hs).1
  obtain ⟨_, g, rfl, _, hc⟩ := own_int h (by intro e; rw [e] at hk; simp at hk)
  refine ⟨g, rfl, by omega, ?_⟩
  have := hc k hk
  rw [Nat.zero_add] at this
  rw [this, show L.getD k 0 = s by simp [List.getD, hs]]
theorem bestP_take (P : Int → Int) (a : Int) {r : List Int} {k : Nat} {s : Int} (hs : r[k]? = some s) : bestP P a (r.take (k + 1)) = if P (bestP P a (r.take k)) < P s then s else bestP P a (r.take k) := by
  rw [take_snocI hs, bestP_snoc]
theorem bestF_take (F : Int → Int) (a : Int) {r : List Int} {k : Nat} {s : Int} (hs : r[k]? = some s) : bestF F a (r.take (k + 1)) = if F s < F (bestF F a (r.take k)) then s else bestF F a (r.take k) := by
  rw [take_snocI hs, bestF_snoc]

set_option maxRecDepth 100000 in
set_option maxHeartbeats 4000000 in
theorem closest_any {w : World} {base base2 g n c : Nat} {A : Option Addr} {C : List Pr} {L : List Int} (d : Int) (h : Bd w base g C) (hL : w.ownsRow base2 3 1 (.slice A n c) n (ints L)) (hne : L ≠ []) (hst : ∀ s ∈ L, ∃ i : Nat, i < 6 ∧ s = (i : Int)) (hn : n ≤ 6) (hC : C.length ≤ 100) (hd0 : 0 ≤ d) (hd1 : d ≤ 73049) (hnc : n ≤ c) :
    Calls Try.prog 73 #[.pointer (some ⟨g, 0, none⟩), .slice A n c, .int .i64 d] w fun e w' => e = .returned (.int .i64 (clo (fun s => prevD (Dd C s 1) d) (fun s => follD (Dd C s 1) d) L)) ∧ Below w.heap.size w w' := by
  obtain ⟨a, r, rfl⟩ : ∃ a r, L = a :: r := by
    cases L with
    | nil => exact absurd rfl hne
    | cons a r => exact ⟨a, r, rfl⟩
  have hlen : (a :: r).length = n := by have := hL.1; rw [ints_length] at this; omega
  obtain ⟨gL, rfl, hn0, hc0⟩ := own_at hL (k := 0) (s := a) rfl
  have hmem := fun k => bestP_mem (fun s => prevD (Dd C s 1) d) (r.take k) a
  have hmem2 : ∀ k, ∃ i : Nat, i < 6 ∧ bestP (fun s => prevD (Dd C s 1) d) a (r.take k) = (i : Int) := fun k => by
    refine hst _ ?_
    rcases List.mem_cons.1 (hmem k) with h1 | h1
    · rw [h1]; simp
    · exact List.mem_cons_of_mem _ (List.mem_of_mem_take h1)
  have HM := Lib.hid hmem2
  have HST := Lib.hid hst
  have HLEN := Lib.hid hlen
  have hn1 : (1 : Int) ≤ (n : Int) := by omega
  have hnc' : (n : Int) ≤ (c : Int) := by omega
  have hr1 : r.length = n - 1 := by simp at hlen; omega
  have HR1 := Lib.hid hr1
  clear hmem hmem2 hst hlen hne hr1
  by_cases hc1 : c = 1
  · subst hc1
    go_enter Try.func73, Try.ntmps73
    go_upto_region 3 with (fail)
    go_loopw [7, 18] (fun v i wr => ∃ k : Nat, k ≤ n - 1 ∧ i = .int .i64 (k : Int) ∧ v = .int .i64 (bestP (fun s => prevD (Dd C s 1) d) a (r.take k)) ∧ Below w.heap.size w wr) (fun _ i _ => n - 1 - (intOf i).toNat)
    case atStart => exact ⟨0, by omega, rfl, rfl, Below.refl _ _⟩
    case round =>
      obtain ⟨k, hk, rfl, rfl, hb⟩ := hrel
      have hwsz := hb.size
      obtain ⟨ib, hib, eib⟩ := HM.out k
      by_cases hlt : k < n - 1
      · exfalso
        omega
      · have hkr : r.take k = r := List.take_of_length_le (by have := HR1.out; omega)
        have hbd := h.under hb
        rw [hkr] at eib
        rw [hkr, eib]
        have hcl : clo (fun s => prevD (Dd C s 1) d) (fun s => follD (Dd C s 1) d) (a :: r) = if 0 ≤ prevD (Dd C (ib : Int) 1) d then (ib : Int) else bestF (fun s => follD (Dd C s 1) d) (ib : Int) (a :: r) := by
          show (if 0 ≤ prevD (Dd C (bestP (fun s => prevD (Dd C s 1) d) a r) 1) d then bestP (fun s => prevD (Dd C s 1) d) a r else bestF (fun s => follD (Dd C s 1) d) (bestP (fun s => prevD (Dd C s 1) d) a r) (a :: r)) = _
          rw [eib]
        have HCL := Lib.hid hcl
        clear hkr eib hcl
        go_wp2_with fail
        refine (previous_any ib d hbd hib hC hd0 hd1).mono ?_
        rintro e w2 ⟨rfl, hb2⟩
        have hbb2 := hb.trans (hb2.mono hwsz)
        clear hb2 hbd hb
        by_cases hp : 0 ≤ prevD (Dd C (ib : Int) 1) d
        · have HR : Hid (clo (fun s => prevD (Dd C s 1) d) (fun s => follD (Dd C s 1) d) (a :: r) = (ib : Int)) := by have := HCL.out; rw [if_pos hp] at this; exact this
          have hpd : decide (0 ≤ prevD (Dd C (ib : Int) 1) d) = true := by simpa using hp
          clear HCL
          generalize prevD (Dd C (ib : Int) 1) d = pb at *
          go_wp2_with fail
          go_ret
          exact ⟨ret_int HR.out.symm, hbb2⟩
        · have HR : Hid (clo (fun s => prevD (Dd C s 1) d) (fun s => follD (Dd C s 1) d) (a :: r) = bestF (fun s => follD (Dd C s 1) d) (ib : Int) (a :: r)) := by have := HCL.out; rw [if_neg hp] at this; exact this
          have hpd : decide (0 ≤ prevD (Dd C (ib : Int) 1) d) = false := by simpa using hp
          clear HCL
          generalize prevD (Dd C (ib : Int) 1) d = pb at *
          have hmf : ∀ j, ∃ i : Nat, i < 6 ∧ bestF (fun s => follD (Dd C s 1) d) (ib : Int) ((a :: r).take j) = (i : Int) := fun j => by
            rcases List.mem_cons.1 (bestF_mem (fun s => follD (Dd C s 1) d) ((a :: r).take j) (ib : Int)) with h1 | h1
            · exact ⟨ib, hib, h1⟩
            · exact HST.out _ (List.mem_of_mem_take h1)
          have HMF := Lib.hid hmf
          clear hmf HM
          have hz2 := hbb2.size
          go_wp2_with fail
          go_loopw [7, 41] (fun v i wr => ∃ j : Nat, j ≤ n ∧ i = .int .i64 (j : Int) ∧ v = .int .i64 (bestF (fun s => follD (Dd C s 1) d) (ib : Int) ((a :: r).take j)) ∧ Below w.heap.size w wr) (fun _ i _ => n - (intOf i).toNat)
          case atStart => exact ⟨0, by omega, rfl, rfl, hbb2⟩
          case round =>
            clear hbb2 hz2
            obtain ⟨j, hj, rfl, rfl, hb⟩ := hrel
            have hwsz := hb.size
            obtain ⟨jb, hjb, ejb⟩ := HMF.out j
            by_cases hlj : j < n
            · obtain ⟨s, hs⟩ : ∃ s, (a :: r)[j]? = some s := ⟨_, List.getElem?_eq_getElem (by have := HLEN.out; omega)⟩
              obtain ⟨is, his, eis⟩ := HST.out s (List.mem_of_getElem? hs)
              obtain ⟨_, eA, hkn, hck⟩ := own_at (own_under hL hb) hs
              injection eA with eA
              injection eA with eA
              subst eA
              have hbt := bestF_take (fun s => follD (Dd C s 1) d) (ib : Int) hs
              rw [ejb, eis] at hbt
              have hbt2 : bestF (fun s => follD (Dd C s 1) d) (ib : Int) ((a :: r).take (j + 1)) = if follD (Dd C (is : Int) 1) d < follD (Dd C (jb : Int) 1) d then (is : Int) else (jb : Int) := hbt
              have HBT := Lib.hid hbt2
              rw [eis] at hck
              have hlo : (0 : Int) ≤ (j : Int) := by omega
              have hhi : (j : Int) < (n : Int) := by omega
              have hbd := h.under hb
              clear hbt hbt2 hs eis
              rw [ejb]
              clear ejb
              go_wp2_with fail
              refine (following_any is d hbd his hC hd0 hd1).mono ?_
              rintro e w5 ⟨rfl, hb2⟩
              have hbd2 := hbd.under hb2
              have hbb2 := hb.trans (hb2.mono hwsz)
              go_wp2_with fail
              refine (following_any jb d hbd2 hjb hC hd0 hd1).mono ?_
              rintro e w3 ⟨rfl, hb3⟩
              have hbb3 := hbb2.trans (hb3.mono hbb2.size)
              clear hb2 hb3 hbb2 hbd hbd2 hb hck
              generalize follD (Dd C (is : Int) 1) d = ps at *
              generalize follD (Dd C (jb : Int) 1) d = pq at *
              by_cases hp2 : ps < pq
              · have HB2 : Hid (bestF (fun s => follD (Dd C s 1) d) (ib : Int) ((a :: r).take (j + 1)) = (is : Int)) := by have := HBT.out; rw [if_pos hp2] at this; exact this
                clear HBT
                go_wp2_with fail
                go_roundw
                case rel => exact ⟨j + 1, by omega, by go_num, by rw [HB2.out], hbb3⟩
                case measure => simp [intOf]; omega
              · have HB2 : Hid (bestF (fun s => follD (Dd C s 1) d) (ib : Int) ((a :: r).take (j + 1)) = (jb : Int)) := by have := HBT.out; rw [if_neg hp2] at this; exact this
                clear HBT
                go_wp2_with fail
                go_roundw
                case rel => exact ⟨j + 1, by omega, by go_num, by rw [HB2.out], hbb3⟩
                case measure => simp [intOf]; omega
            · have hjr : (a :: r).take j = a :: r := List.take_of_length_le (by have := HLEN.out; omega)
              have hre := HR.out
              rw [← hjr] at hre
              rw [ejb] at hre
              rw [hjr] at hre
              rw [ejb]
              have HRE := Lib.hid hre
              clear hjr hre ejb
              go_wp2_with fail
              go_ret
              exact ⟨ret_int HRE.out.symm, hb⟩
  go_enter Try.func73, Try.ntmps73
  go_upto_region 3 with (fail)
  go_loopw [7, 18] (fun v i wr => ∃ k : Nat, k ≤ n - 1 ∧ i = .int .i64 (k : Int) ∧ v = .int .i64 (bestP (fun s => prevD (Dd C s 1) d) a (r.take k)) ∧ Below w.heap.size w wr) (fun _ i _ => n - 1 - (intOf i).toNat)
  case atStart => exact ⟨0, by omega, rfl, rfl, Below.refl _ _⟩
  case round =>
    obtain ⟨k, hk, rfl, rfl, hb⟩ := hrel
    have hwsz := hb.size
    obtain ⟨ib, hib, eib⟩ := HM.out k
    by_cases hlt : k < n - 1
    · obtain ⟨s, hs⟩ : ∃ s, r[k]? = some s := ⟨_, List.getElem?_eq_getElem (by have := HR1.out; omega)⟩
      obtain ⟨is, his, eis⟩ := HST.out s (List.mem_cons_of_mem _ (List.mem_of_getElem? hs))
      obtain ⟨_, eA, hkn, hck⟩ := own_at (own_under hL hb) (k := k + 1) (s := s) (by simpa using hs)
      injection eA with eA
      injection eA with eA
      subst eA
      have hbt := bestP_take (fun s => prevD (Dd C s 1) d) a hs
      rw [eib, eis] at hbt
      have hbt2 : bestP (fun s => prevD (Dd C s 1) d) a (r.take (k + 1)) = if prevD (Dd C (ib : Int) 1) d < prevD (Dd C (is : Int) 1) d then (is : Int) else (ib : Int) := hbt
      have HBT := Lib.hid hbt2
      have hck2 : wr.cell? ⟨gL, 1 + k, none⟩ = some (.int .i64 (is : Int)) := by rw [Nat.add_comm, ← eis]; exact hck
      have hlo : (0 : Int) ≤ (k : Int) := by omega
      have hhi : (k : Int) < ((n - 1 : Nat) : Int) := by omega
      have hbd := h.under hb
      clear hck hbt hbt2 hs eis
      rw [eib]
      clear eib
      go_wp2_with fail
      refine (previous_any is d hbd his hC hd0 hd1).mono ?_
      rintro e w2 ⟨rfl, hb2⟩
      have hbd2 := hbd.under hb2
      have hbb2 := hb.trans (hb2.mono hwsz)
      go_wp2_with fail
      refine (previous_any ib d hbd2 hib hC hd0 hd1).mono ?_
      rintro e w3 ⟨rfl, hb3⟩
      have hbb3 := hbb2.trans (hb3.mono hbb2.size)
      clear hb2 hb3 hbb2 hbd hbd2 hb hck2
      generalize prevD (Dd C (is : Int) 1) d = ps at *
      generalize prevD (Dd C (ib : Int) 1) d = pb at *
      by_cases hp : pb < ps
      · have HB2 : Hid (bestP (fun s => prevD (Dd C s 1) d) a (r.take (k + 1)) = (is : Int)) := by have := HBT.out; rw [if_pos hp] at this; exact this
        clear HBT
        go_wp2_with fail
        go_roundw
        case rel => exact ⟨k + 1, by omega, by go_num, by rw [HB2.out], hbb3⟩
        case measure => simp [intOf]; omega
      · have HB2 : Hid (bestP (fun s => prevD (Dd C s 1) d) a (r.take (k + 1)) = (ib : Int)) := by have := HBT.out; rw [if_neg hp] at this; exact this
        clear HBT
        go_wp2_with fail
        go_roundw
        case rel => exact ⟨k + 1, by omega, by go_num, by rw [HB2.out], hbb3⟩
        case measure => simp [intOf]; omega
    · have hkr : r.take k = r := List.take_of_length_le (by have := HR1.out; omega)
      have hbd := h.under hb
      rw [hkr] at eib
      rw [hkr, eib]
      have hcl : clo (fun s => prevD (Dd C s 1) d) (fun s => follD (Dd C s 1) d) (a :: r) = if 0 ≤ prevD (Dd C (ib : Int) 1) d then (ib : Int) else bestF (fun s => follD (Dd C s 1) d) (ib : Int) (a :: r) := by
        show (if 0 ≤ prevD (Dd C (bestP (fun s => prevD (Dd C s 1) d) a r) 1) d then bestP (fun s => prevD (Dd C s 1) d) a r else bestF (fun s => follD (Dd C s 1) d) (bestP (fun s => prevD (Dd C s 1) d) a r) (a :: r)) = _
        rw [eib]
      have HCL := Lib.hid hcl
      clear hkr eib hcl
      go_wp2_with fail
      refine (previous_any ib d hbd hib hC hd0 hd1).mono ?_
      rintro e w2 ⟨rfl, hb2⟩
      have hbb2 := hb.trans (hb2.mono hwsz)
      clear hb2 hbd hb
      by_cases hp : 0 ≤ prevD (Dd C (ib : Int) 1) d
      · have HR : Hid (clo (fun s => prevD (Dd C s 1) d) (fun s => follD (Dd C s 1) d) (a :: r) = (ib : Int)) := by have := HCL.out; rw [if_pos hp] at this; exact this
        have hpd : decide (0 ≤ prevD (Dd C (ib : Int) 1) d) = true := by simpa using hp
        clear HCL
        generalize prevD (Dd C (ib : Int) 1) d = pb at *
        go_wp2_with fail
        go_ret
        exact ⟨ret_int HR.out.symm, hbb2⟩
      · have HR : Hid (clo (fun s => prevD (Dd C s 1) d) (fun s => follD (Dd C s 1) d) (a :: r) = bestF (fun s => follD (Dd C s 1) d) (ib : Int) (a :: r)) := by have := HCL.out; rw [if_neg hp] at this; exact this
        have hpd : decide (0 ≤ prevD (Dd C (ib : Int) 1) d) = false := by simpa using hp
        clear HCL
        generalize prevD (Dd C (ib : Int) 1) d = pb at *
        have hmf : ∀ j, ∃ i : Nat, i < 6 ∧ bestF (fun s => follD (Dd C s 1) d) (ib : Int) ((a :: r).take j) = (i : Int) := fun j => by
          rcases List.mem_cons.1 (bestF_mem (fun s => follD (Dd C s 1) d) ((a :: r).take j) (ib : Int)) with h1 | h1
          · exact ⟨ib, hib, h1⟩
          · exact HST.out _ (List.mem_of_mem_take h1)
        have HMF := Lib.hid hmf
        clear hmf HM
        have hz2 := hbb2.size
        go_wp2_with fail
        go_loopw [7, 41] (fun v i wr => ∃ j : Nat, j ≤ n ∧ i = .int .i64 (j : Int) ∧ v = .int .i64 (bestF (fun s => follD (Dd C s 1) d) (ib : Int) ((a :: r).take j)) ∧ Below w.heap.size w wr) (fun _ i _ => n - (intOf i).toNat)
        case atStart => exact ⟨0, by omega, rfl, rfl, hbb2⟩
        case round =>
          clear hbb2 hz2
          obtain ⟨j, hj, rfl, rfl, hb⟩ := hrel
          have hwsz := hb.size
          obtain ⟨jb, hjb, ejb⟩ := HMF.out j
          by_cases hlj : j < n
          · obtain ⟨s, hs⟩ : ∃ s, (a :: r)[j]? = some s := ⟨_, List.getElem?_eq_getElem (by have := HLEN.out; omega)⟩
            obtain ⟨is, his, eis⟩ := HST.out s (List.mem_of_getElem? hs)
            obtain ⟨_, eA, hkn, hck⟩ := own_at (own_under hL hb) hs
            injection eA with eA
            injection eA with eA
            subst eA
            have hbt := bestF_take (fun s => follD (Dd C s 1) d) (ib : Int) hs
            rw [ejb, eis] at hbt
            have hbt2 : bestF (fun s => follD (Dd C s 1) d) (ib : Int) ((a :: r).take (j + 1)) = if follD (Dd C (is : Int) 1) d < follD (Dd C (jb : Int) 1) d then (is : Int) else (jb : Int) := hbt
            have HBT := Lib.hid hbt2
            rw [eis] at hck
            have hlo : (0 : Int) ≤ (j : Int) := by omega
            have hhi : (j : Int) < (n : Int) := by omega
            have hbd := h.under hb
            clear hbt hbt2 hs eis
            rw [ejb]
            clear ejb
            go_wp2_with fail
            refine (following_any is d hbd his hC hd0 hd1).mono ?_
            rintro e w5 ⟨rfl, hb2⟩
            have hbd2 := hbd.under hb2
            have hbb2 := hb.trans (hb2.mono hwsz)
            go_wp2_with fail
            refine (following_any jb d hbd2 hjb hC hd0 hd1).mono ?_
            rintro e w3 ⟨rfl, hb3⟩
            have hbb3 := hbb2.trans (hb3.mono hbb2.size)
            clear hb2 hb3 hbb2 hbd hbd2 hb hck
            generalize follD (Dd C (is : Int) 1) d = ps at *
            generalize follD (Dd C (jb : Int) 1) d = pq at *
            by_cases hp2 : ps < pq
            · have HB2 : Hid (bestF (fun s => follD (Dd C s 1) d) (ib : Int) ((a :: r).take (j + 1)) = (is : Int)) := by have := HBT.out; rw [if_pos hp2] at this; exact this
              clear HBT
              go_wp2_with fail
              go_roundw
              case rel => exact ⟨j + 1, by omega, by go_num, by rw [HB2.out], hbb3⟩
              case measure => simp [intOf]; omega
            · have HB2 : Hid (bestF (fun s => follD (Dd C s 1) d) (ib : Int) ((a :: r).take (j + 1)) = (jb : Int)) := by have := HBT.out; rw [if_neg hp2] at this; exact this
              clear HBT
              go_wp2_with fail
              go_roundw
              case rel => exact ⟨j + 1, by omega, by go_num, by rw [HB2.out], hbb3⟩
              case measure => simp [intOf]; omega
          · have hjr : (a :: r).take j = a :: r := List.take_of_length_le (by have := HLEN.out; omega)
            have hre := HR.out
            rw [← hjr] at hre
            rw [ejb] at hre
            rw [hjr] at hre
            rw [ejb]
            have HRE := Lib.hid hre
            clear hjr hre ejb
            go_wp2_with fail
            go_ret
            exact ⟨ret_int HRE.out.symm, hb⟩

/-- The decision about a day as the program gives it. -/
def atV (C : List Pr) (x : Int) : Value := match atC C x with
  | some (s, r) => .tuple #[.int .i64 s, .int .i64 r, .bool true]
  | none => .tuple #[.int .i64 (-1), .int .i64 0, .bool false]
theorem atV_some {C : List Pr} {x r : Int} (h : rkC C x = some r) : atV C x = .tuple #[.int .i64 (cloC C r x), .int .i64 r, .bool true] := by unfold atV atC; rw [h]; rfl
theorem atV_none {C : List Pr} {x : Int} (h : rkC C x = none) : atV C x = .tuple #[.int .i64 (-1), .int .i64 0, .bool false] := by unfold atV atC; rw [h]; rfl
set_option maxHeartbeats 1000000 in
theorem at_any {w : World} {base g : Nat} {C : List Pr} (d : Int) (h : Bd w base g C) (hC : C.length ≤ 100) (hd0 : 0 ≤ d) (hd1 : d ≤ 73049) :
    Calls Try.prog 56 #[.pointer (some ⟨g, 0, none⟩), .int .i64 d] w fun e w' => e = .returned (atV C d) ∧ Below w.heap.size w w' := by
  go_enter Try.func56, Try.ntmps56
  go_wp2_with fail
  refine (claimants_any d h hC).mono ?_
  rintro e w1 ⟨hb1, hcl⟩
  rcases hcl with ⟨hrk, rfl⟩ | ⟨r, A, c, hrk, hr1, hr7, rfl, hl6, hown⟩
  · have HV := Lib.hid (atV_none hrk)
    clear hrk
    go_wp2_with fail
    go_ret3
    exact ⟨congrArg Ending.returned HV.out.symm, hb1⟩
  · have HV := Lib.hid (atV_some hrk)
    obtain ⟨_, hne⟩ := rkC_some hrk
    have hrb : (r == 0) = false := beq_eq_false_iff_ne.2 (by omega)
    have hst : ∀ s ∈ stL C r d, ∃ i : Nat, i < 6 ∧ s = (i : Int) := fun s hs => stL_bd hs
    have HVD : Hid (cloC C r d = clo (fun s => prevD (Dd C s 1) d) (fun s => follD (Dd C s 1) d) (stL C r d)) := rfl
    obtain ⟨_, _, hvf, hnc, _, _⟩ := own_form hown
    injection hvf with hvA _ hvc
    subst hvA hvc
    clear hrk
    generalize stL C r d = L at *
    go_wp2_with fail
    refine (closest_any d (h.under hb1) hown hne hst hl6 hC hd0 hd1 hnc).mono ?_
    rintro e w2 ⟨rfl, hb2⟩
    go_wp2_with fail
    go_ret3
    refine ⟨?_, hb1.trans (hb2.mono hb1.size)⟩
    rw [HV.out, HVD.out]
    rfl
set_option maxHeartbeats 2000000 in
theorem cvalid_any (n : Int) (w : World) : Calls Try.prog 42 #[.int .i64 n] w fun e w' => e = .returned (.bool (isD n)) ∧ w = w' := by
  by_cases h1 : 0 ≤ n
  · have d1 : decide (0 ≤ n) = true := by simpa using h1
    by_cases h2 : n ≤ 73048
    · have d2 : decide (n ≤ 73048) = true := by simpa using h2
      go_enter Try.func42, Try.ntmps42
      go_wp2
      go_ret
      exact ⟨ret_bool (by simp [isD]; omega), rfl⟩
    · have d2 : decide (n ≤ 73048) = false := by simpa using h2
      go_enter Try.func42, Try.ntmps42
      go_wp2
      go_ret
      exact ⟨ret_bool (by simp [isD]; omega), rfl⟩
  · have d1 : decide (0 ≤ n) = false := by simpa using h1
    go_enter Try.func42, Try.ntmps42
    go_wp2
    go_ret
    exact ⟨ret_bool (by simp [isD]; omega), rfl⟩
theorem atV_off {C : List Pr} {x : Int} (h : isD x = false) : atV C x = .tuple #[.int .i64 (-1), .int .i64 0, .bool false] := atV_none (by
  refine rk_none fun q _ => List.filter_eq_nil_iff.2 fun s _ => ?_
  have : Dd C s ((q : Int) + 1) x = false := by unfold Dd; exact dset_off h
  rw [this]
  simp)
set_option maxHeartbeats 2000000 in
theorem oat_any {A : Option Addr} {n c : Nat} {C : List Pr} {w : World} (d : Int) (h : Rd w w.heap.size 4 A n (flat Pr.cells C)) (hn : C.length = n) (hn2 : n ≤ 100) :
    Calls Try.prog 35 #[.slice A n c, .int .i64 d] w fun e w' => e = .returned (atV C d) ∧ Below w.heap.size w w' := by
  have HN := Lib.hid hn
  clear hn
  cases hd : isD d with
  | false =>
    have HV := Lib.hid (atV_off (C := C) hd)
    have HD := Lib.hid hd
    clear hd
    go_enter Try.func35, Try.ntmps35
    go_wp2_with fail
    refine (cvalid_any d w).mono ?_
    rintro e _ ⟨rfl, rfl⟩
    rw [HD.out]
    go_wp2_with fail
    go_ret3
    exact ⟨congrArg Ending.returned HV.out.symm, Below.refl _ _⟩
  | true =>
    have hdd := (isD_iff d).1 hd
    have HD := Lib.hid hd
    clear hd
    go_enter Try.func35, Try.ntmps35
    go_wp2_with fail
    refine (cvalid_any d w).mono ?_
    rintro e _ ⟨rfl, rfl⟩
    rw [HD.out]
    go_wp2_with fail
    refine (collect_any h HN.out (by omega)).mono ?_
    rintro e w1 ⟨g, rfl, hg, hbd, hb1⟩
    go_wp2_with fail
    refine (at_any d hbd (by have := HN.out; omega) hdd.1 (by omega)).mono ?_
    rintro e w2 ⟨rfl, hb2⟩
    have hbb := hb1.trans (hb2.mono hb1.size)
    unfold atV
    cases hat : atC C d with
    | none =>
      have HAT := Lib.hid hat
      clear hat
      go_wp2_with fail
      go_ret3
      exact ⟨congrArg Ending.returned (by unfold atV; rw [HAT.out]; rfl), hbb⟩
    | some p =>
      obtain ⟨s, r⟩ := p
      have HAT := Lib.hid hat
      clear hat
      go_wp2_with fail
      go_ret3
      exact ⟨congrArg Ending.returned (by unfold atV; rw [HAT.out]; rfl), hbb⟩
end Go.Proofs.Ytkncfhdfobcjeaa
