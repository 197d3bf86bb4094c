/- Facts in plain Lean: which fields a kind uses, when a fact is valid, its bytes, an order, merged lists. No program of the seat is named here. -/
import Derived.Lib.Bytealg
namespace Go.Proofs.Ytbogmkhoppffgaa

structure Fc where
  i : Int
  n : Int
  v : Int
  g : Bool
  p : Int
  k : Int
  s : Int
  f : Int
  t : Int
  e : Int
  h : Int
  c : Int
  a : Int
  r : Int
/-- The letters of the fields that a kind uses: S P T H C A R. -/
def useL (k : Int) : List UInt8 :=
  if k = 1 then [83, 80, 84, 72, 67, 65]
  else if k = 2 then [83, 80, 72, 67, 65]
  else if k = 3 then [83, 80, 72, 67, 65]
  else if k = 4 then [83, 80, 84]
  else if k = 5 then [83, 80]
  else if k = 6 then [83, 80, 67, 65]
  else if k = 7 then [83, 80]
  else if k = 8 then [83, 80]
  else if k = 9 then [83, 80]
  else if k = 10 then [83, 80, 82]
  else if k = 11 then [80]
  else if k = 12 then [80]
  else if k = 13 then [80]
  else if k = 14 then [80, 82]
  else []
theorem kinds {k : Int} (h1 : 1 ≤ k) (h2 : k ≤ 14) : k = 1 ∨ k = 2 ∨ k = 3 ∨ k = 4 ∨ k = 5 ∨ k = 6 ∨ k = 7 ∨ k = 8 ∨ k = 9 ∨ k = 10 ∨ k = 11 ∨ k = 12 ∨ k = 13 ∨ k = 14 := by omega
/-- A field: in its range if it is used, else 0. -/
def FldOk (U : List UInt8) (l : UInt8) (x lo hi : Int) : Prop := (l ∈ U → lo ≤ x ∧ x ≤ hi) ∧ (l ∉ U → x = 0)
structure Vld (x : Fc) : Prop where
  i : 0 ≤ x.i ∧ x.i ≤ 5
  n : 1 ≤ x.n ∧ x.n ≤ 999
  v : 1 ≤ x.v ∧ x.v ≤ 99
  p : 1 ≤ x.p ∧ x.p ≤ 99
  k : 1 ≤ x.k ∧ x.k ≤ 14
  sp : 0 ≤ x.f ∧ x.f < x.t ∧ x.t ≤ 73049
  s : FldOk (useL x.k) 83 x.s 0 5
  e : FldOk (useL x.k) 84 x.e 0 5
  h : FldOk (useL x.k) 72 x.h 1 100
  c : FldOk (useL x.k) 67 x.c 1 999
  a : FldOk (useL x.k) 65 x.a 0 1000000000
  r : FldOk (useL x.k) 82 x.r 1 99
  q4 : x.k = 4 → x.s ≠ x.e
  q1 : x.k = 11 ∨ x.k = 12 → x.t = x.f + 1
  q2 : x.k = 10 ∨ x.k = 14 → x.r ≠ x.p
theorem FldOk.bd {U : List UInt8} {l : UInt8} {x lo hi : Int} (h : FldOk U l x lo hi) (hlo : 0 ≤ lo) (hhi : 0 ≤ hi) : 0 ≤ x ∧ x ≤ hi := by
  by_cases hm : l ∈ U
  · have := h.1 hm
    omega
  · have := h.2 hm
    omega
/-- The numbers of a valid fact are small. -/
theorem Vld.small {x : Fc} (h : Vld x) : (0 ≤ x.s ∧ x.s ≤ 5) ∧ (0 ≤ x.e ∧ x.e ≤ 5) ∧ (0 ≤ x.h ∧ x.h ≤ 100) ∧ (0 ≤ x.c ∧ x.c ≤ 999) ∧ (0 ≤ x.a ∧ x.a ≤ 1000000000) ∧ (0 ≤ x.r ∧ x.r ≤ 99) :=
  ⟨h.s.bd (by omega) (by omega), h.e.bd (by omega) (by omega), h.h.bd (by omega) (by omega), h.c.bd (by omega) (by omega), h.a.bd (by omega) (by omega), h.r.bd (by omega) (by omega)⟩

/-! Bytes. -/
/-- Byte number j of a number from 0 on. -/
def byt (x : Int) (j : Nat) : Int := x / 2 ^ (8 * j) % 256
theorem byt_bd (x : Int) (j : Nat) : 0 ≤ byt x j ∧ byt x j ≤ 255 := by
  unfold byt
  have h1 := Int.emod_nonneg (x / 2 ^ (8 * j)) (show (256 : Int) ≠ 0 by omega)
  have h2 := Int.emod_lt_of_pos (x / 2 ^ (8 * j)) (show (0 : Int) < 256 by omega)
  omega
/-- The last m bytes, the most significant one first. -/
def beL (x : Int) : Nat → List Int
  | 0 => []
  | m + 1 => byt x m :: beL x m
theorem beL_length (x : Int) : ∀ m, (beL x m).length = m
  | 0 => rfl
  | m + 1 => by simp [beL, beL_length x m]
theorem beL_bd (x : Int) : ∀ m, ∀ b ∈ beL x m, 0 ≤ b ∧ b ≤ 255
  | 0, b, h => by cases h
  | m + 1, b, h => by
    rcases List.mem_cons.1 h with rfl | h
    · exact byt_bd x m
    · exact beL_bd x m b h
/-- The bytes of the field of a letter. -/
def encL (x : Fc) (l : UInt8) : List Int :=
  if l = 83 then beL x.s 1 else if l = 80 then beL x.f 3 ++ beL x.t 3 else if l = 84 then beL x.e 1 else if l = 72 then beL x.h 1 else if l = 67 then beL x.c 2 else if l = 65 then beL x.a 4 else if l = 82 then beL x.r 1 else []
def headL (x : Fc) : List Int := beL x.i 1 ++ beL x.n 2 ++ beL x.v 1 ++ beL (if x.g = true then 1 else 0) 1 ++ beL x.p 1 ++ beL x.k 1
def bodyL (x : Fc) (U : List UInt8) : List Int := U.flatMap (encL x)
def bysL (x : Fc) : List Int := headL x ++ bodyL x (useL x.k)
theorem bodyL_snoc (x : Fc) (U : List UInt8) (l : UInt8) : bodyL x (U ++ [l]) = bodyL x U ++ encL x l := by simp [bodyL]
theorem bodyL_take (x : Fc) {U : List UInt8} {j : Nat} {l : UInt8} (h : U[j]? = some l) : bodyL x (U.take (j + 1)) = bodyL x (U.take j) ++ encL x l := by
  rw [List.take_add_one, h]
  exact bodyL_snoc x _ _
theorem encL_length (x : Fc) (l : UInt8) : (encL x l).length ≤ 6 := by
  unfold encL
  repeat' split
  all_goals simp [beL_length]
theorem bodyL_length (x : Fc) : ∀ U : List UInt8, (bodyL x U).length ≤ 6 * U.length
  | [] => by simp [bodyL]
  | l :: U => by
    have h1 := bodyL_length x U
    have h2 := encL_length x l
    have e : bodyL x (l :: U) = encL x l ++ bodyL x U := rfl
    rw [e, List.length_append, List.length_cons]
    omega
theorem ite_len {c : Prop} [Decidable c] {a b : List UInt8} {n : Nat} (ha : a.length ≤ n) (hb : b.length ≤ n) : (if c then a else b).length ≤ n := by
  by_cases h : c
  · rw [if_pos h]; exact ha
  · rw [if_neg h]; exact hb
theorem useL_length (k : Int) : (useL k).length ≤ 6 := by
  unfold useL
  iterate 14 (refine ite_len (by decide) ?_)
  decide
theorem headL_length (x : Fc) : (headL x).length = 7 := by simp [headL, beL_length]

/-! The order. -/
/-- Bytes compared. -/
def bytesOfI (l : List Int) : List UInt8 := l.map fun z => z.toNat.toUInt8
def lessF (x y : Fc) : Bool := decide (Lib.compareBytes (bytesOfI (bysL x)) (bytesOfI (bysL y)) < 0)
/-- Issuer and number compared: below 0, 0, above 0. -/
def cmpF (x y : Fc) : Int := if x.i < y.i then -1 else if y.i < x.i then 1 else if x.n < y.n then -1 else if y.n < x.n then 1 else 0
theorem cmpF_zero {x y : Fc} : cmpF x y = 0 ↔ x.i = y.i ∧ x.n = y.n := by
  unfold cmpF
  constructor
  · intro h
    split at h
    · omega
    · split at h
      · omega
      · split at h
        · omega
        · split at h
          · omega
          · omega
  · rintro ⟨h1, h2⟩
    rw [if_neg (by omega), if_neg (by omega), if_neg (by omega), if_neg (by omega)]
def grF (x y : Fc) : Fc := if lessF x y = true then y else x

/-! Merged lists. -/
/-- A fact inserted into an ascending list. -/
def insF (f : Fc) : List Fc → List Fc
  | [] => [f]
  | x :: l => if cmpF x f < 0 then x :: insF f l else if cmpF x f = 0 then grF x f :: l else f :: x :: l
def mrgF (L : List Fc) : List Fc := L.foldl (fun o f => insF f o) []
theorem mrgF_snoc (L : List Fc) (f : Fc) : mrgF (L ++ [f]) = insF f (mrgF L) := by
  unfold mrgF
  rw [List.foldl_append]
  rfl
theorem mrgF_take {L : List Fc} {j : Nat} {f : Fc} (h : L[j]? = some f) : mrgF (L.take (j + 1)) = insF f (mrgF (L.take j)) := by
  rw [List.take_add_one, h]
  exact mrgF_snoc _ _
theorem insF_mem (f : Fc) : ∀ (l : List Fc) (x : Fc), x ∈ insF f l → x = f ∨ x ∈ l
  | [], x, h => by
    have : x = f := by simpa [insF] using h
    exact .inl this
  | y :: l, x, h => by
    unfold insF at h
    split at h
    · rcases List.mem_cons.1 h with rfl | h
      · exact .inr (by simp)
      · rcases insF_mem f l x h with h | h
        · exact .inl h
        · exact .inr (by simp [h])
    · split at h
      · rcases List.mem_cons.1 h with rfl | h
        · unfold grF
          split
          · exact .inl rfl
          · exact .inr (by simp)
        · exact .inr (by simp [h])
      · rcases List.mem_cons.1 h with rfl | h
        · exact .inl rfl
        · exact .inr h
theorem mrgF_mem : ∀ (L o : List Fc) (x : Fc), x ∈ L.foldl (fun o f => insF f o) o → x ∈ L ∨ x ∈ o
  | [], o, x, h => .inr h
  | f :: L, o, x, h => by
    rcases mrgF_mem L (insF f o) x h with h | h
    · exact .inl (by simp [h])
    · rcases insF_mem f o x h with rfl | h
      · exact .inl (by simp)
      · exact .inr h
theorem insF_length (f : Fc) : ∀ l : List Fc, (insF f l).length ≤ l.length + 1
  | [] => by simp [insF]
  | y :: l => by
    have := insF_length f l
    unfold insF
    split
    · simp; omega
    · split
      · simp
      · simp
theorem mrgF_length : ∀ (L o : List Fc), (L.foldl (fun o f => insF f o) o).length ≤ o.length + L.length
  | [], o => by simp
  | f :: L, o => by
    have h1 := mrgF_length L (insF f o)
    have h2 := insF_length f o
    simp only [List.foldl_cons, List.length_cons]
    omega

/-- The merge of two lists, as the program does it. -/
def mergeF : Nat → List Fc → List Fc → List Fc
  | 0, a, b => a ++ b
  | _ + 1, [], b => b
  | _ + 1, x :: a, [] => x :: a
  | m + 1, x :: a, y :: b => if cmpF x y < 0 then x :: mergeF m a (y :: b) else if 0 < cmpF x y then y :: mergeF m (x :: a) b else grF x y :: mergeF m a b
theorem mergeF_nil (m : Nat) (a : List Fc) : mergeF m a [] = a := by
  cases m with
  | zero => simp [mergeF]
  | succ m => cases a <;> rfl
theorem mergeF_one : ∀ (m : Nat) (a : List Fc) (f : Fc), a.length < m → mergeF m a [f] = insF f a
  | 0, a, f, h => by omega
  | m + 1, [], f, h => rfl
  | m + 1, x :: a, f, h => by
    unfold mergeF insF
    split
    · rw [mergeF_one m a f (by simp at h; omega)]
    · rename_i h1
      split
      · rename_i h2
        rw [mergeF_nil, if_neg (by omega)]
      · rename_i h2
        rw [mergeF_nil, if_pos (by omega)]

/-! What is asked of a merged list. -/
def ofP (p : Int) (L : List Fc) : List Fc := L.filter fun x => x.p == p
/-- The least day on which current facts of a kind begin. -/
def minD (k : Int) : List Fc → Option Int
  | [] => none
  | x :: l => if (!x.g && x.k == k) = true then some (match minD k l with | none => x.f | some d => min x.f d) else minD k l
/-- The same, from the front. -/
def stepD (k : Int) (o : Option Int) (x : Fc) : Option Int := if (!x.g && x.k == k) = true then (match o with | none => some x.f | some d => if x.f < d then some x.f else some d) else o
def firD (k : Int) (L : List Fc) : Option Int := L.foldl (stepD k) none
theorem firD_snoc (k : Int) (L : List Fc) (x : Fc) : firD k (L ++ [x]) = stepD k (firD k L) x := by
  unfold firD
  rw [List.foldl_append]
  rfl
theorem firD_take {k : Int} {L : List Fc} {j : Nat} {x : Fc} (h : L[j]? = some x) : firD k (L.take (j + 1)) = stepD k (firD k (L.take j)) x := by
  rw [List.take_add_one, h]
  exact firD_snoc _ _ _
theorem firD_cur (k : Int) (L : List Fc) : firD k (L.filter fun x => !x.g) = firD k L := by
  unfold firD
  generalize (none : Option Int) = o
  induction L generalizing o with
  | nil => rfl
  | cons x L ih =>
    rw [List.filter_cons]
    cases hg : x.g with
    | true =>
      simp only [Bool.not_true, Bool.false_eq_true, if_false, List.foldl_cons]
      have e : stepD k o x = o := by simp [stepD, hg]
      rw [e, ih]
    | false =>
      simp only [Bool.not_false, if_true, List.foldl_cons]
      rw [ih]
theorem firD_mem {k : Int} : ∀ (L : List Fc) (o : Option Int) (d : Int), L.foldl (stepD k) o = some d → o = some d ∨ ∃ x ∈ L, d = x.f
  | [], o, d, h => .inl h
  | x :: L, o, d, h => by
    rcases firD_mem L (stepD k o x) d h with h | ⟨y, hy, e⟩
    · unfold stepD at h
      split at h
      · split at h
        · exact .inr ⟨x, by simp, by simpa using h.symm⟩
        · split at h
          · exact .inr ⟨x, by simp, by simpa using h.symm⟩
          · exact .inl h
      · exact .inl h
    · exact .inr ⟨y, by simp [hy], e⟩

/-! Less of the reference: issuer and number, then the version, then the bytes. -/
theorem cmpB_cons (a : UInt8) (l m : List UInt8) : Lib.compareBytes (a :: l) (a :: m) = Lib.compareBytes l m := by
  show (if a < a then -1 else if a < a then 1 else Lib.compareBytes l m) = _
  rw [if_neg (UInt8.lt_irrefl a), if_neg (UInt8.lt_irrefl a)]
theorem byt_small {x : Int} (h0 : 0 ≤ x) (h1 : x ≤ 255) : byt x 0 = x := by
  unfold byt
  rw [Nat.mul_zero, Int.pow_zero, Int.ediv_one, Int.emod_eq_of_lt h0 (by omega)]
theorem u8_lt {x y : Int} (h0 : 0 ≤ x) (h1 : x ≤ 255) (k0 : 0 ≤ y) (k1 : y ≤ 255) : x.toNat.toUInt8 < y.toNat.toUInt8 ↔ x < y := by
  rw [UInt8.lt_iff_toNat_lt]
  have e1 : x.toNat.toUInt8.toNat = x.toNat := by
    rw [Nat.toUInt8, UInt8.toNat_ofNat']
    omega
  have e2 : y.toNat.toUInt8.toNat = y.toNat := by
    rw [Nat.toUInt8, UInt8.toNat_ofNat']
    omega
  rw [e1, e2]
  omega
theorem bysL_form (x : Fc) : ∃ r, bytesOfI (bysL x) = (byt x.i 0).toNat.toUInt8 :: (byt x.n 1).toNat.toUInt8 :: (byt x.n 0).toNat.toUInt8 :: (byt x.v 0).toNat.toUInt8 :: r := ⟨_, rfl⟩
theorem lessF_v {x y : Fc} (hx : Vld x) (hy : Vld y) (h0 : cmpF x y = 0) (hne : x.v ≠ y.v) : lessF x y = decide (x.v < y.v) := by
  obtain ⟨h1, h2⟩ := cmpF_zero.1 h0
  obtain ⟨r, hr⟩ := bysL_form x
  obtain ⟨r', hr'⟩ := bysL_form y
  have a := hx.v
  have b := hy.v
  unfold lessF
  rw [hr, hr', h1, h2, cmpB_cons, cmpB_cons, cmpB_cons, byt_small (by omega) (by omega), byt_small (by omega) (by omega)]
  show decide ((if x.v.toNat.toUInt8 < y.v.toNat.toUInt8 then (-1 : Int) else if y.v.toNat.toUInt8 < x.v.toNat.toUInt8 then 1 else Lib.compareBytes r r') < 0) = _
  by_cases h : x.v < y.v
  · rw [if_pos ((u8_lt (by omega) (by omega) (by omega) (by omega)).2 h), decide_eq_true h]
    rfl
  · rw [if_neg (fun e => h ((u8_lt (by omega) (by omega) (by omega) (by omega)).1 e)), if_pos ((u8_lt (by omega) (by omega) (by omega) (by omega)).2 (by omega)), decide_eq_false h]
    rfl
end Go.Proofs.Ytbogmkhoppffgaa
