/- Lemmas (no conditions): Tok, Spans -/
import Derived.Test.YtnlopdmhdiegnaaGreatDoorPk01
set_option linter.unusedSimpArgs false
set_option linter.unusedVariables false
set_option maxRecDepth 100000
set_option maxHeartbeats 64000000
namespace Go.Proofs.YtnlopdmhdiegnaaGreatDoor
open Go.RowKit
section
abbrev By := List UInt8
def bs (l : By) : ByteArray := ⟨l.toArray⟩
theorem bs_size (l : By) : (bs l).size = l.length := by show l.toArray.size = _; simp
theorem bs_append (l r : By) : bs l ++ bs r = bs (l ++ r) := by
 apply ByteArray.ext
 simp [bs]
theorem bs_get (l : By) (k : Nat) (h : k < (bs l).size) : (bs l)[k] = l[k]'(by rw [bs_size] at h; exact h) := by
 simp [bs, ByteArray.getElem_eq_getElem_data]
theorem bs_ext (l : By) (a b : Nat) : (bs l).extract a b = bs ((l.take b).drop a) := by
 apply ByteArray.ext
 simp [bs, ByteArray.data_extract]
 rw [List.drop_take]
def dgl (n : Nat) : By := if h : n < 10 then [UInt8.ofNat (48 + n)] else dgl (n / 10) ++ [UInt8.ofNat (48 + n % 10)]
termination_by n
decreasing_by omega
theorem dgl_lt {n : Nat} (h : n < 10) : dgl n = [UInt8.ofNat (48 + n)] := by rw [dgl, dif_pos h]
theorem dgl_ge {n : Nat} (h : ¬ n < 10) : dgl n = dgl (n / 10) ++ [UInt8.ofNat (48 + n % 10)] := by rw [dgl, dif_neg h]
theorem u8_dig {k : Nat} (h : k < 10) : (UInt8.ofNat (48 + k)).toNat = 48 + k := by
 rw [UInt8.toNat_ofNat']
 omega
theorem dgl_dig : ∀ (n : Nat), ∀ c ∈ dgl n, 48 <= c.toNat /\ c.toNat <= 57 := by
 intro n
 induction n using Nat.strongRecOn with
 | _ n ih =>
  intro c hc
  by_cases h : n < 10
  ·rw [dgl_lt h] at hc
   rw [List.mem_singleton.1 hc, u8_dig h]
   omega
  ·rw [dgl_ge h] at hc
   rcases List.mem_append.1 hc with hc | hc
   ·exact ih (n / 10) (by omega) c hc
   ·rw [List.mem_singleton.1 hc, u8_dig (Nat.mod_lt n (show 0 < 10 by omega))]
    have := Nat.mod_lt n (show 0 < 10 by omega)
    omega
theorem dgl_pos (n : Nat) : 1 <= (dgl n).length := by
 by_cases h : n < 10
 ·rw [dgl_lt h]; simp
 ·rw [dgl_ge h]; simp
theorem dgl_len : ∀ (k n : Nat), n < 10 ^ (k + 1) -> (dgl n).length <= k + 1
 | 0, n, h => by rw [dgl_lt (by simpa using h)]; simp
 | k + 1, n, h => by
  by_cases hn : n < 10
  ·rw [dgl_lt hn]; simp
  ·rw [dgl_ge hn, List.length_append]
   have := dgl_len k (n / 10) (by
    have : 10 ^ (k + 1 + 1) = 10 ^ (k + 1) * 10 := Nat.pow_succ ..
    omega)
   simp
   omega
theorem dgl_head : ∀ (n : Nat), 1 <= n -> ∃ c r, dgl n = c :: r /\ c.toNat ≠ 48 := by
 intro n
 induction n using Nat.strongRecOn with
 | _ n ih =>
  intro h1
  by_cases h : n < 10
  ·exact ⟨_, [], dgl_lt h, by rw [u8_dig h]; omega⟩
  ·obtain ⟨c, r, e, hc⟩ := ih (n / 10) (by omega) (by omega)
   exact ⟨c, r ++ [UInt8.ofNat (48 + n % 10)], by rw [dgl_ge h, e]; rfl, hc⟩
theorem dgl_zero (n : Nat) (h : (dgl n).length ≠ 1) : ∃ c r, dgl n = c :: r /\ c.toNat ≠ 48 := by
 refine dgl_head n ?_
 rcases Nat.eq_zero_or_pos n with rfl | h0
 ·rw [dgl_lt (by omega)] at h; simp at h
 ·exact h0
def valD (l : By) : Nat := l.foldl (fun x c => 10 * x + (c.toNat - 48)) 0
theorem valD_snoc (l : By) (c : UInt8) : valD (l ++ [c]) = 10 * valD l + (c.toNat - 48) := by simp [valD, List.foldl_append]
theorem valD_dgl : ∀ (n : Nat), valD (dgl n) = n := by
 intro n
 induction n using Nat.strongRecOn with
 | _ n ih =>
  by_cases h : n < 10
  ·rw [dgl_lt h]
   show 10 * 0 + ((UInt8.ofNat (48 + n)).toNat - 48) = n
   rw [u8_dig h]
   omega
  ·rw [dgl_ge h, valD_snoc, ih (n / 10) (by omega), u8_dig (Nat.mod_lt _ (by omega))]
   omega
theorem valD_lt : ∀ (k : Nat) (l : By), l.length = k -> (∀ c ∈ l, 48 <= c.toNat /\ c.toNat <= 57) -> valD l < 10 ^ k
 | 0, l, hl, _ => by
  obtain rfl := List.eq_nil_of_length_eq_zero hl
  simp [valD]
 | k + 1, l, hl, h => by
  have hne : l ≠ [] := by intro e; rw [e] at hl; cases hl
  obtain ⟨r, c, rfl⟩ : ∃ r c, l = r ++ [c] := ⟨l.dropLast, l.getLast hne, (List.dropLast_concat_getLast hne).symm⟩
  have h1 := valD_lt k r (by simpa using hl) fun x hx => h x (List.mem_append_left _ hx)
  have h2 := h c (List.mem_append_right _ (by simp))
  rw [valD_snoc]
  have : 10 ^ (k + 1) = 10 ^ k * 10 := Nat.pow_succ ..
  omega
end
section
structure Sp where
 f : Int
 t : Int
def inS (s : Sp) (x : Int) : Bool := decide (s.f <= x) && decide (x < s.t)
theorem inS_iff (s : Sp) (x : Int) : inS s x = true ↔ s.f <= x /\ x < s.t := by simp [inS]
theorem inS_false (s : Sp) (x : Int) : inS s x = false ↔ ¬(s.f <= x /\ x < s.t) := by rw [<- inS_iff]; simp
def cov (l : List Sp) (x : Int) : Bool := l.any fun s => inS s x
theorem cov_nil (x : Int) : cov [] x = false := rfl
theorem cov_cons (s : Sp) (r : List Sp) (x : Int) : cov (s :: r) x = (inS s x || cov r x) := rfl
theorem cov_append (a b : List Sp) (x : Int) : cov (a ++ b) x = (cov a x || cov b x) := by simp [cov, List.any_append]
theorem cov_iff (l : List Sp) (x : Int) : cov l x = true ↔ ∃ s ∈ l, s.f <= x /\ x < s.t := by simp [cov, inS]
def NormFrom : Int -> List Sp -> Prop
 | _, [] => True
 | b, s :: r => b < s.f /\ s.f < s.t /\ s.t <= 73049 /\ NormFrom s.t r
def Norm (l : List Sp) : Prop := NormFrom (-1) l
theorem NormFrom.weak : ∀ {l : List Sp} {b b' : Int}, NormFrom b l -> b' <= b -> NormFrom b' l
 | [], _, _, _, _ => trivial
 | _ :: _, _, _, ⟨h1, h2⟩, h => ⟨by omega, h2⟩
theorem cov_low : ∀ {l : List Sp} {b x : Int}, NormFrom b l -> x <= b -> cov l x = false
 | [], _, _, _, _ => rfl
 | s :: r, b, x, ⟨h1, h2, _, h4⟩, hx => by
  rw [cov_cons, cov_low h4 (by omega), Bool.or_false, inS_false]
  omega
theorem cov_high : ∀ {l : List Sp} {b x : Int}, NormFrom b l -> 73049 <= x -> cov l x = false
 | [], _, _, _, _ => rfl
 | s :: r, b, x, ⟨h1, h2, h3, h4⟩, hx => by
  rw [cov_cons, cov_high h4 hx, Bool.or_false, inS_false]
  omega
theorem norm_ext : ∀ {a b : List Sp} {lo : Int}, NormFrom lo a -> NormFrom lo b -> (∀ x, cov a x = cov b x) -> a = b
 | [], [], _, _, _, _ => rfl
 | [], s :: r, _, _, ⟨h1, h2, _, _⟩, h => by
  have := h s.f
  rw [cov_nil, cov_cons, (inS_iff s s.f).2 (by omega)] at this
  simp at this
 | s :: r, [], _, ⟨h1, h2, _, _⟩, _, h => by
  have := h s.f
  rw [cov_nil, cov_cons, (inS_iff s s.f).2 (by omega)] at this
  simp at this
 | s :: r, p :: q, lo, ⟨a1, a2, a3, a4⟩, ⟨b1, b2, b3, b4⟩, h => by
  have hf : s.f = p.f := by
   rcases Int.lt_trichotomy s.f p.f with hl | hl | hl
   ·have := h s.f
    rw [cov_cons, cov_cons, (inS_iff s s.f).2 (by omega), cov_low b4 (by omega), (inS_false p s.f).2 (by omega)] at this
    simp at this
   ·exact hl
   ·have := h p.f
    rw [cov_cons, cov_cons, (inS_iff p p.f).2 (by omega), cov_low a4 (by omega), (inS_false s p.f).2 (by omega)] at this
    simp at this
  have ht : s.t = p.t := by
   rcases Int.lt_trichotomy s.t p.t with hl | hl | hl
   ·have := h s.t
    rw [cov_cons, cov_cons, (inS_iff p s.t).2 (by omega), cov_low a4 (by omega), (inS_false s s.t).2 (by omega)] at this
    simp at this
   ·exact hl
   ·have := h p.t
    rw [cov_cons, cov_cons, (inS_iff s p.t).2 (by omega), cov_low b4 (by omega), (inS_false p p.t).2 (by omega)] at this
    simp at this
  have hs : s = p := by
   cases s
   cases p
   simp only at hf ht
   rw [hf, ht]
  subst hs
  congr 1
  refine norm_ext a4 b4 fun x => ?_
  have := h x
  rw [cov_cons, cov_cons] at this
  by_cases hx : x <= s.t
  ·rw [cov_low a4 hx, cov_low b4 hx]
  ·rw [(inS_false s x).2 (by omega), Bool.false_or, Bool.false_or] at this
   exact this
def Upto (l : List Sp) (k : Int) : Prop := ∀ s ∈ l, s.t <= k
def addS : List Sp -> Int -> Int -> List Sp
 | [], a, b => [⟨a, b⟩]
 | [s], a, b => if s.t = a then [⟨s.f, b⟩] else [s, ⟨a, b⟩]
 | s :: s' :: r, a, b => s :: addS (s' :: r) a b
theorem addS_norm : ∀ {l : List Sp} {lo a b : Int}, NormFrom lo l -> Upto l a -> lo < a -> a < b -> b <= 73049 -> NormFrom lo (addS l a b)
 | [], lo, a, b, _, _, h1, h2, h3 => ⟨h1, h2, h3, trivial⟩
 | [s], lo, a, b, ⟨n1, n2, n3, _⟩, hu, h1, h2, h3 => by
  have hs : s.t <= a := hu s (by simp)
  unfold addS
  split
  ·exact ⟨n1, by show s.f < b; omega, h3, trivial⟩
  ·exact ⟨n1, n2, n3, by show s.t < a; omega, h2, h3, trivial⟩
 | s :: s' :: r, lo, a, b, ⟨n1, n2, n3, n4⟩, hu, h1, h2, h3 => by
  have hs : s'.t <= a := hu s' (by simp)
  obtain ⟨m1, m2, m3, m4⟩ := n4
  exact ⟨n1, n2, n3, addS_norm ⟨m1, m2, m3, m4⟩ (fun x hx => hu x (by simp [hx])) (by omega) h2 h3⟩
theorem addS_upto : ∀ {l : List Sp} {a b : Int}, Upto l a -> a <= b -> Upto (addS l a b) b
 | [], a, b, _, _ => by intro s hs; simp [addS] at hs; subst hs; exact Int.le_refl _
 | [s], a, b, hu, h => by
  have h1 : s.t <= a := hu s (by simp)
  intro x hx
  unfold addS at hx
  split at hx
  ·simp at hx; subst hx; exact Int.le_refl _
  ·simp at hx
   rcases hx with rfl | rfl
   ·omega
   ·exact Int.le_refl _
 | s :: s' :: r, a, b, hu, h => by
  have h1 : s.t <= a := hu s (by simp)
  intro x hx
  rcases List.mem_cons.1 (show x ∈ s :: addS (s' :: r) a b from hx) with rfl | hx
  ·omega
  ·exact addS_upto (fun y hy => hu y (by simp [hy])) h x hx
theorem addS_cov : ∀ {l : List Sp} {lo a b : Int}, NormFrom lo l -> Upto l a -> a < b -> ∀ x, cov (addS l a b) x = (cov l x || inS ⟨a, b⟩ x)
 | [], _, a, b, _, _, _, x => by simp [addS, cov]
 | [s], lo, a, b, ⟨_, n2, _, _⟩, hu, h, x => by
  have h1 : s.t <= a := hu s (by simp)
  unfold addS
  split
  ·rename_i he
   rw [cov_cons, cov_cons, cov_nil, Bool.or_false, Bool.or_false, Bool.eq_iff_iff, Bool.or_eq_true, inS_iff, inS_iff, inS_iff]
   simp only
   omega
  ·rw [cov_cons, cov_cons, cov_cons, cov_nil, Bool.or_false, Bool.or_false]
 | s :: s' :: r, lo, a, b, ⟨_, _, _, n4⟩, hu, h, x => by
  show cov (s :: addS (s' :: r) a b) x = _
  rw [cov_cons, addS_cov n4 (fun y hy => hu y (by simp [hy])) h x, cov_cons s (s' :: r), Bool.or_assoc]
def nfTo (S : Int -> Bool) : Nat -> List Sp
 | 0 => []
 | k + 1 => if S k = true then addS (nfTo S k) k (k + 1) else nfTo S k
theorem nfTo_spec (S : Int -> Bool) : ∀ k : Nat, k <= 73049 -> NormFrom (-1) (nfTo S k) /\ Upto (nfTo S k) k /\ ∀ x, cov (nfTo S k) x = (decide (0 <= x) && decide (x < (k : Int)) && S x)
 | 0, _ => ⟨trivial, fun s hs => by simp [nfTo] at hs, fun x => by
   show false = _
   by_cases h : 0 <= x
   ·have : ¬ x < ((0 : Nat) : Int) := by omega
    simp only [this, decide_false, Bool.and_false, Bool.false_and]
   ·simp [h]⟩
 | k + 1, hk => by
  obtain ⟨h1, h2, h3⟩ := nfTo_spec S k (by omega)
  have hlt : ∀ x : Int, x ≠ k -> decide (x < ((k + 1 : Nat) : Int)) = decide (x < (k : Int)) := fun x hx => by
   rw [decide_eq_decide]
   omega
  unfold nfTo
  split
  ·rename_i hs
   refine ⟨addS_norm h1 h2 (by omega) (by omega) (by omega), addS_upto h2 (by omega), fun x => ?_⟩
   rw [addS_cov h1 h2 (by omega), h3 x]
   by_cases hx : x = k
   ·subst hx
    rw [hs, (inS_iff ⟨(k : Int), (k : Int) + 1⟩ k).2 ⟨by show (k : Int) <= k; omega, by show (k : Int) < k + 1; omega⟩, Bool.or_true]
    have e1 : (0 : Int) <= (k : Int) := by omega
    have e2 : (k : Int) < ((k + 1 : Nat) : Int) := by omega
    simp only [e1, e2, decide_true, Bool.and_true]
   ·rw [(inS_false ⟨(k : Int), (k : Int) + 1⟩ x).2 (by show ¬((k : Int) <= x /\ x < k + 1); omega), Bool.or_false, hlt x hx]
  ·rename_i hs
   refine ⟨h1, fun s hm => by have := h2 s hm; omega, fun x => ?_⟩
   rw [h3 x]
   by_cases hx : x = k
   ·subst hx
    have : S k = false := by simpa using hs
    rw [this, Bool.and_false, Bool.and_false]
   ·rw [hlt x hx]
@[irreducible] def nf (S : Int -> Bool) : List Sp := nfTo S 73049
def isD (x : Int) : Bool := decide (0 <= x) && decide (x < 73049)
theorem isD_iff (x : Int) : isD x = true ↔ 0 <= x /\ x < 73049 := by simp [isD]
theorem nf_norm (S : Int -> Bool) : Norm (nf S) := by unfold nf; exact (nfTo_spec S 73049 (Nat.le_refl _)).1
theorem nf_cov (S : Int -> Bool) (x : Int) : cov (nf S) x = (isD x && S x) := by unfold nf; exact (nfTo_spec S 73049 (Nat.le_refl _)).2.2 x
def dset (l : List Sp) (x : Int) : Bool := isD x && cov l x
theorem norm_isD {l : List Sp} (h : Norm l) (x : Int) : (isD x && cov l x) = cov l x := by
 cases hx : isD x with
 | true => rfl
 | false =>
  rw [Bool.false_and]
  have : ¬(0 <= x /\ x < 73049) := by rw [<- isD_iff, hx]; simp
  by_cases h0 : 0 <= x
  ·exact (cov_high h (by omega)).symm
  ·exact (cov_low h (by omega)).symm
theorem nf_unique {m : List Sp} {S : Int -> Bool} (h : Norm m) (hS : ∀ x, isD x = true -> cov m x = S x) : m = nf S := by
 refine norm_ext h (nf_norm S) fun x => ?_
 rw [nf_cov, <- norm_isD h]
 cases hx : isD x with
 | true => rw [hS x hx]
 | false => rfl
theorem nf_congr {S T : Int -> Bool} (h : ∀ x, isD x = true -> S x = T x) : nf S = nf T :=
 nf_unique (nf_norm S) fun x hx => by rw [nf_cov, hx, Bool.true_and, h x hx]
theorem nf_self {m : List Sp} (h : Norm m) : nf (dset m) = m := (nf_unique h fun x hx => by rw [dset, hx, Bool.true_and]).symm
theorem dset_nf (S : Int -> Bool) (x : Int) : dset (nf S) x = (isD x && S x) := by unfold dset; rw [nf_cov, <- Bool.and_assoc, Bool.and_self]
theorem dset_isD (l : List Sp) (x : Int) : (isD x && dset l x) = dset l x := by unfold dset; rw [<- Bool.and_assoc, Bool.and_self]
theorem nf_empty : nf (fun _ => false) = [] := (nf_unique (m := []) trivial fun _ _ => rfl).symm
def cutS (s : Sp) : Sp := ⟨max s.f 0, min s.t 73049⟩
theorem inS_cut (s : Sp) (x : Int) : inS (cutS s) x = (isD x && inS s x) := by
 rw [Bool.eq_iff_iff, Bool.and_eq_true, inS_iff, inS_iff, isD_iff]
 simp only [cutS]
 omega
def cutL : List Sp -> List Sp
 | [] => []
 | s :: r => if (cutS s).f < (cutS s).t then cutS s :: cutL r else cutL r
theorem cutL_cov : ∀ (l : List Sp) (x : Int), cov (cutL l) x = dset l x
 | [], x => by simp [cutL, dset, cov]
 | s :: r, x => by
  have ih := cutL_cov r x
  have e : dset (s :: r) x = (inS (cutS s) x || dset r x) := by rw [inS_cut, dset, cov_cons, Bool.and_or_distrib_left]; rfl
  rw [e]
  unfold cutL
  split
  ·rw [cov_cons, ih]
  ·rw [ih, (inS_false (cutS s) x).2 (by omega), Bool.false_or]
def Fit (s : Sp) : Prop := 0 <= s.f /\ s.f < s.t /\ s.t <= 73049
theorem cutL_fit : ∀ (l : List Sp), ∀ s ∈ cutL l, Fit s
 | [], s, h => by simp [cutL] at h
 | p :: r, s, h => by
  unfold cutL at h
  split at h
  ·rename_i hlt
   rcases List.mem_cons.1 h with rfl | h
   ·refine ⟨?_, hlt, ?_⟩
    ·simp only [cutS]; omega
    ·simp only [cutS]; omega
   ·exact cutL_fit r s h
  ·exact cutL_fit r s h
theorem cutL_length : ∀ (l : List Sp), (cutL l).length <= l.length
 | [] => Nat.le_refl 0
 | s :: r => by
  have := cutL_length r
  unfold cutL
  split <;> simp <;> omega
theorem cutL_snoc : ∀ (l : List Sp) (s : Sp), cutL (l ++ [s]) = if (cutS s).f < (cutS s).t then cutL l ++ [cutS s] else cutL l
 | [], s => by
  show cutL [s] = _
  unfold cutL
  split <;> rfl
 | p :: r, s => by
  show cutL (p :: (r ++ [s])) = _
  unfold cutL
  rw [cutL_snoc r s]
  split <;> split <;> rfl
def mrgS : List Sp -> Sp -> List Sp
 | [], s => [s]
 | [p], s => if s.f <= p.t then [⟨p.f, max p.t s.t⟩] else [p, s]
 | p :: p' :: r, s => p :: mrgS (p' :: r) s
theorem mrgS_snoc : ∀ (l : List Sp) (p s : Sp), mrgS (l ++ [p]) s = if s.f <= p.t then l ++ [⟨p.f, max p.t s.t⟩] else l ++ [p, s]
 | [], p, s => rfl
 | [q], p, s => by
  show q :: mrgS [p] s = _
  unfold mrgS
  split <;> rfl
 | q :: q' :: r, p, s => by
  show q :: mrgS ((q' :: r) ++ [p]) s = _
  rw [mrgS_snoc (q' :: r) p s]
  split <;> rfl
theorem mrgS_length : ∀ (l : List Sp) (s : Sp), (mrgS l s).length <= l.length + 1
 | [], _ => Nat.le_refl 1
 | [p], s => by unfold mrgS; split <;> simp
 | p :: p' :: r, s => by
  have := mrgS_length (p' :: r) s
  show (p :: mrgS (p' :: r) s).length <= _
  simp only [List.length_cons] at *
  omega
def Begin (l : List Sp) (k : Int) : Prop := ∀ s ∈ l, s.f <= k
theorem mrgS_ok : ∀ {l : List Sp} {lo : Int} {s : Sp}, NormFrom lo l -> Begin l s.f -> lo < s.f -> Fit s -> NormFrom lo (mrgS l s) /\ Begin (mrgS l s) s.f /\ ∀ x, cov (mrgS l s) x = (cov l x || inS s x)
 | [], lo, s, _, _, h, hf => ⟨⟨h, hf.2.1, hf.2.2, trivial⟩, fun p hp => by simp [mrgS] at hp; subst hp; exact Int.le_refl _, fun x => by simp [mrgS, cov]⟩
 | [p], lo, s, ⟨n1, n2, n3, _⟩, hb, h, hf => by
  obtain ⟨f1, f2, f3⟩ := hf
  have hp : p.f <= s.f := hb p (by simp)
  unfold mrgS
  split
  ·refine ⟨⟨n1, by show p.f < max p.t s.t; omega, by show max p.t s.t <= 73049; omega, trivial⟩, fun q hq => ?_, fun x => ?_⟩
   ·simp at hq; subst hq; exact hp
   ·rw [cov_cons, cov_cons, cov_nil, Bool.or_false, Bool.or_false, Bool.eq_iff_iff, Bool.or_eq_true, inS_iff, inS_iff, inS_iff]
    simp only
    omega
  ·refine ⟨⟨n1, n2, n3, by show p.t < s.f; omega, f2, f3, trivial⟩, fun q hq => ?_, fun x => ?_⟩
   ·simp at hq
    rcases hq with rfl | rfl
    ·exact hp
    ·exact Int.le_refl _
   ·rw [cov_cons, cov_cons, cov_cons, cov_nil, Bool.or_false, Bool.or_false]
 | p :: p' :: r, lo, s, ⟨n1, n2, n3, n4⟩, hb, h, hf => by
  have hp : p.f <= s.f := hb p (by simp)
  have hp' : p'.f <= s.f := hb p' (by simp)
  have hlt : p.t < s.f := by have := n4.1; omega
  obtain ⟨h1, h2, h3⟩ := mrgS_ok n4 (fun q hq => hb q (by simp [hq])) hlt hf
  refine ⟨⟨n1, n2, n3, h1⟩, fun q hq => ?_, fun x => ?_⟩
  ·rcases List.mem_cons.1 (show q ∈ p :: mrgS (p' :: r) s from hq) with rfl | hq
   ·exact hp
   ·exact h2 q hq
  ·show cov (p :: mrgS (p' :: r) s) x = _
   rw [cov_cons, h3 x, cov_cons p (p' :: r), Bool.or_assoc]
def Asc : List Sp -> Prop
 | [] => True
 | s :: r => (∀ p ∈ r, s.f <= p.f) /\ Asc r
theorem mrg_all : ∀ (l out : List Sp) (_ : Asc l) (_ : ∀ s ∈ l, Fit s) (_ : NormFrom (-1) out) (_ : ∀ s ∈ l, Begin out s.f),
  NormFrom (-1) (l.foldl mrgS out) /\ ∀ x, cov (l.foldl mrgS out) x = (cov out x || cov l x)
 | [], out, _, _, hn, _ => ⟨hn, fun x => by simp [cov_nil]⟩
 | s :: l, out, ⟨ha, hr⟩, hf, hn, hb => by
  have hs := hf s (by simp)
  obtain ⟨h1, h2, h3⟩ := mrgS_ok hn (hb s (by simp)) (by have := hs.1; omega) hs
  obtain ⟨h4, h5⟩ := mrg_all l (mrgS out s) hr (fun p hp => hf p (by simp [hp])) h1 fun p hp q hq => Int.le_trans (h2 q hq) (ha p hp)
  refine ⟨h4, fun x => ?_⟩
  rw [List.foldl_cons, h5 x, h3 x, cov_cons, Bool.or_assoc]
theorem make_eq {l k : List Sp} (hp : k.Perm (cutL l)) (ha : Asc k) : k.foldl mrgS [] = nf (dset l) := by
 obtain ⟨h1, h2⟩ := mrg_all k [] ha (fun s hs => cutL_fit l s (hp.mem_iff.1 hs)) trivial (fun _ _ q hq => by simp at hq)
 refine nf_unique h1 fun x hx => ?_
 rw [h2 x, cov_nil, Bool.false_or, <- cutL_cov, Bool.eq_iff_iff, cov_iff, cov_iff]
 constructor
 ·rintro ⟨s, hs, h⟩; exact ⟨s, hp.mem_iff.1 hs, h⟩
 ·rintro ⟨s, hs, h⟩; exact ⟨s, hp.mem_iff.2 hs, h⟩
theorem foldl_mrg_length : ∀ (l out : List Sp), (l.foldl mrgS out).length <= out.length + l.length
 | [], out => by simp
 | s :: l, out => by
  have h1 := foldl_mrg_length l (mrgS out s)
  have h2 := mrgS_length out s
  simp only [List.foldl_cons, List.length_cons]
  omega
def itxN : Nat -> List Sp -> List Sp -> List Sp
 | 0, _, _ => []
 | _ + 1, [], _ => []
 | _ + 1, _ :: _, [] => []
 | n + 1, p :: a, q :: b => (if max p.f q.f < min p.t q.t then [⟨max p.f q.f, min p.t q.t⟩] else []) ++ (if p.t < q.t then itxN n a (q :: b) else itxN n (p :: a) b)
theorem itxN_nil (n : Nat) (a b : List Sp) (h : a = [] ∨ b = []) : itxN n a b = [] := by
 cases n with
 | zero => rfl
 | succ n =>
  rcases h with rfl | rfl
  ·rfl
  ·cases a <;> rfl
theorem inS_both (p q : Sp) (x : Int) : inS ⟨max p.f q.f, min p.t q.t⟩ x = (inS p x && inS q x) := by
 rw [Bool.eq_iff_iff, Bool.and_eq_true, inS_iff, inS_iff, inS_iff]
 simp only
 omega
theorem itxN_ok : ∀ (n : Nat) (a b : List Sp) (la lb : Int), a.length + b.length <= n -> NormFrom la a -> NormFrom lb b -> NormFrom (max la lb) (itxN n a b) /\ ∀ x, cov (itxN n a b) x = (cov a x && cov b x)
 | 0, a, b, la, lb, hn, ha, hb => by
  have : a = [] := List.eq_nil_of_length_eq_zero (by omega)
  subst this
  exact ⟨trivial, fun x => by simp [itxN, cov_nil]⟩
 | n + 1, [], b, la, lb, hn, ha, hb => ⟨trivial, fun x => by simp [itxN, cov_nil]⟩
 | n + 1, p :: a, [], la, lb, hn, ha, hb => ⟨trivial, fun x => by simp [itxN, cov_nil]⟩
 | n + 1, p :: a, q :: b, la, lb, hn, ha, hb => by
  obtain ⟨a1, a2, a3, a4⟩ := ha
  obtain ⟨b1, b2, b3, b4⟩ := hb
  simp only [List.length_cons] at hn
  have hside : ∃ rest, (if p.t < q.t then itxN n a (q :: b) else itxN n (p :: a) b) = rest /\ NormFrom (min p.t q.t) rest /\ NormFrom (max la lb) rest ∧
    ∀ x, (inS ⟨max p.f q.f, min p.t q.t⟩ x || cov rest x) = (cov (p :: a) x && cov (q :: b) x) := by
   refine ⟨_, rfl, ?_⟩
   by_cases hlt : p.t < q.t
   ·rw [if_pos hlt]
    obtain ⟨h1, h2⟩ := itxN_ok n a (q :: b) p.t lb (by simp only [List.length_cons]; omega) a4 ⟨b1, b2, b3, b4⟩
    refine ⟨h1.weak (by omega), h1.weak (by omega), fun x => ?_⟩
    rw [h2 x, inS_both, cov_cons p a, cov_cons q b]
    cases hp : inS p x with
    | false => simp
    | true =>
     have := (inS_iff p x).1 hp
     rw [cov_low b4 (by omega), cov_low a4 (by omega)]
     simp
   ·rw [if_neg hlt]
    obtain ⟨h1, h2⟩ := itxN_ok n (p :: a) b la q.t (by simp only [List.length_cons]; omega) ⟨a1, a2, a3, a4⟩ b4
    refine ⟨h1.weak (by omega), h1.weak (by omega), fun x => ?_⟩
    rw [h2 x, inS_both, cov_cons p a, cov_cons q b]
    cases hq : inS q x with
    | false => simp
    | true =>
     have := (inS_iff q x).1 hq
     rw [cov_low b4 (by omega), cov_low a4 (by omega)]
     simp
  obtain ⟨rest, hr, h1, h2, h3⟩ := hside
  unfold itxN
  rw [hr]
  by_cases hm : max p.f q.f < min p.t q.t
  ·rw [if_pos hm]
   refine ⟨⟨by show max la lb < max p.f q.f; omega, hm, by show min p.t q.t <= 73049; omega, h1⟩, fun x => ?_⟩
   rw [<- h3 x]
   rfl
  ·rw [if_neg hm]
   refine ⟨h2, fun x => ?_⟩
   rw [<- h3 x, (inS_false ⟨_, _⟩ x).2 (by simp only; omega), Bool.false_or]
   rfl
theorem itx_eq {a b : List Sp} (ha : Norm a) (hb : Norm b) {n : Nat} (hn : a.length + b.length <= n) : itxN n a b = nf fun x => cov a x && cov b x := by
 obtain ⟨h1, h2⟩ := itxN_ok n a b (-1) (-1) hn ha hb
 exact nf_unique (h1.weak (by omega)) fun x _ => h2 x
def cnt (S : Int -> Bool) : Nat -> Int
 | 0 => 0
 | k + 1 => cnt S k + (if S k = true then 1 else 0)
theorem cnt_congr {S T : Int -> Bool} : ∀ k : Nat, (∀ i : Nat, i < k -> S i = T i) -> cnt S k = cnt T k
 | 0, _ => rfl
 | k + 1, h => by
  unfold cnt
  rw [cnt_congr k fun i hi => h i (by omega), h k (by omega)]
theorem cnt_add (S T : Int -> Bool) : ∀ k : Nat, cnt (fun x => S x || T x) k + cnt (fun x => S x && T x) k = cnt S k + cnt T k
 | 0 => rfl
 | k + 1 => by
  have ih := cnt_add S T k
  unfold cnt
  cases S k <;> cases T k <;> simp <;> omega
theorem cnt_none : ∀ k : Nat, cnt (fun _ => false) k = 0
 | 0 => rfl
 | k + 1 => by unfold cnt; rw [cnt_none k]; rfl
theorem cnt_or {S T : Int -> Bool} (h : ∀ x, (S x && T x) = false) (k : Nat) : cnt (fun x => S x || T x) k = cnt S k + cnt T k := by
 have h1 := cnt_add S T k
 have h2 : cnt (fun x => S x && T x) k = 0 := by
  rw [cnt_congr (T := fun _ => false) k fun i _ => h i, cnt_none]
 omega
theorem cnt_inS {s : Sp} (h0 : 0 <= s.f) (h1 : s.f < s.t) : ∀ k : Nat, cnt (inS s) k = if s.f < k then min s.t k - s.f else 0
 | 0 => by
  have : ¬ s.f < ((0 : Nat) : Int) := by omega
  rw [if_neg this]
  rfl
 | k + 1 => by
  have ih := cnt_inS h0 h1 k
  unfold cnt
  rw [ih]
  by_cases hf : s.f < k
  ·rw [if_pos hf, if_pos (show s.f < ((k + 1 : Nat) : Int) by omega)]
   by_cases ht : (k : Int) < s.t
   ·rw [(inS_iff s k).2 (by omega), if_pos rfl]
    omega
   ·rw [(inS_false s k).2 (by omega), if_neg (by simp)]
    omega
  ·rw [if_neg hf]
   by_cases hk : s.f = k
   ·rw [(inS_iff s k).2 (by omega), if_pos rfl, if_pos (show s.f < ((k + 1 : Nat) : Int) by omega)]
    omega
   ·rw [(inS_false s k).2 (by omega), if_neg (by simp), if_neg (show ¬ s.f < ((k + 1 : Nat) : Int) by omega)]
    rfl
def befL : List Sp -> Int -> Int
 | [], _ => 0
 | s :: r, d => (if s.f < d then min s.t d - s.f else 0) + befL r d
theorem befL_cnt : ∀ {l : List Sp} {lo : Int}, NormFrom lo l -> -1 <= lo -> ∀ k : Nat, befL l k = cnt (cov l) k
 | [], _, _, _, k => (cnt_none k).symm
 | s :: r, lo, ⟨h1, h2, h3, h4⟩, h, k => by
  have ih := befL_cnt h4 (by omega) k
  have e : cnt (cov (s :: r)) k = cnt (inS s) k + cnt (cov r) k := by
   rw [<- cnt_or (fun x => ?_) k]
   ·exact cnt_congr k fun i _ => cov_cons s r i
   ·cases hp : inS s x with
    | false => rfl
    | true =>
     have := (inS_iff s x).1 hp
     rw [cov_low h4 (by omega)]
     rfl
  unfold befL
  rw [e, ih, cnt_inS (by omega) h2]
def lenL : List Sp -> Int
 | [] => 0
 | s :: r => (s.t - s.f) + lenL r
theorem befL_len : ∀ {l : List Sp} {lo d : Int}, NormFrom lo l -> 73049 <= d -> befL l d = lenL l
 | [], _, _, _, _ => rfl
 | s :: r, lo, d, ⟨h1, h2, h3, h4⟩, hd => by
  unfold befL lenL
  rw [befL_len h4 hd, if_pos (by omega)]
  omega
theorem befL_len2 : ∀ {l : List Sp} {lo : Int}, NormFrom lo l -> befL l 73049 = lenL l := fun h => befL_len h (Int.le_refl _)
theorem lenL_nn : ∀ {l : List Sp} {lo : Int}, NormFrom lo l -> 0 <= lenL l
 | [], _, _ => Int.le_refl 0
 | s :: r, lo, ⟨h1, h2, h3, h4⟩ => by
  have := lenL_nn h4
  unfold lenL
  omega
theorem lenL_bd : ∀ {l : List Sp} {lo : Int}, NormFrom lo l -> lo <= 73049 -> lenL l <= 73049 - lo
 | [], lo, _, h => by unfold lenL; omega
 | s :: r, lo, ⟨h1, h2, h3, h4⟩, h => by
  have := lenL_bd h4 h3
  unfold lenL
  omega
end
end Go.Proofs.YtnlopdmhdiegnaaGreatDoor
