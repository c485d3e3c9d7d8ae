/- Plain facts on the 32-bit cyclic sum, on natural numbers alone; no Go here. -/
import Derived.KernelRfl
namespace Go.Proofs.Ytklpodfgncabpaa

/-- One shift of the sum's register. -/
def cstep (x : Nat) : Nat := x / 2 ^^^ (if x % 2 = 1 then 3988292384 else 0)
def csteps : Nat → Nat → Nat
  | 0, x => x
  | n + 1, x => csteps n (cstep x)
def cbyte (x c : Nat) : Nat := csteps 8 (x ^^^ c)
def cbytes (x : Nat) (l : List UInt8) : Nat := l.foldl (fun x c => cbyte x c.toNat) x
def csum (l : List UInt8) : Nat := cbytes 4294967295 l ^^^ 4294967295

theorem csteps_succ (n x : Nat) : csteps (n + 1) x = cstep (csteps n x) := by
  induction n generalizing x with
  | zero => rfl
  | succ n ih => rw [csteps, ih, ← csteps]

theorem cstep_lt {x : Nat} (h : x < 4294967296) : cstep x < 4294967296 := by
  unfold cstep
  have h2 : x / 2 < 2 ^ 32 := by omega
  refine Nat.xor_lt_two_pow (n := 32) h2 ?_
  split <;> omega
theorem csteps_lt (n : Nat) {x : Nat} (h : x < 4294967296) : csteps n x < 4294967296 := by
  induction n generalizing x with
  | zero => exact h
  | succ n ih => exact ih (cstep_lt h)
theorem cbyte_lt {x : Nat} (h : x < 4294967296) (c : UInt8) : cbyte x c.toNat < 4294967296 :=
  csteps_lt 8 (Nat.xor_lt_two_pow (n := 32) h (by have := c.toNat_lt; omega))
theorem cbytes_lt (l : List UInt8) {x : Nat} (h : x < 4294967296) : cbytes x l < 4294967296 := by
  induction l generalizing x with
  | nil => exact h
  | cons c l ih => exact ih (cbyte_lt h c)
theorem csum_lt (l : List UInt8) : csum l < 4294967296 := Nat.xor_lt_two_pow (n := 32) (cbytes_lt l (by decide)) (by decide)
theorem cbytes_append (l m : List UInt8) (x : Nat) : cbytes x (l ++ m) = cbytes (cbytes x l) m := by
  unfold cbytes; rw [List.foldl_append]

/-! linearity -/
theorem xor4 (a b c d : Nat) : (a ^^^ b) ^^^ (c ^^^ d) = (a ^^^ c) ^^^ (b ^^^ d) := by
  rw [Nat.xor_assoc, Nat.xor_assoc, ← Nat.xor_assoc b, Nat.xor_comm b c, Nat.xor_assoc c]
theorem xor_half (x y : Nat) : (x ^^^ y) / 2 = x / 2 ^^^ y / 2 := by
  have h := Nat.shiftRight_xor_distrib (a := x) (b := y) (i := 1)
  simpa [Nat.shiftRight_eq_div_pow] using h
theorem xor_odd (x y : Nat) : (x ^^^ y) % 2 = (x % 2 + y % 2) % 2 := by
  have h := Nat.testBit_xor x y 0
  simp only [Nat.testBit_zero] at h
  have h1 := Nat.mod_two_eq_zero_or_one x
  have h2 := Nat.mod_two_eq_zero_or_one y
  have h3 := Nat.mod_two_eq_zero_or_one (x ^^^ y)
  rcases h1 with h1 | h1 <;> rcases h2 with h2 | h2 <;> rcases h3 with h3 | h3 <;> simp [h1, h2, h3] at h ⊢
theorem cstep_xor (x y : Nat) : cstep (x ^^^ y) = cstep x ^^^ cstep y := by
  unfold cstep
  rw [xor_half, xor4]
  congr 1
  rw [xor_odd]
  have h1 := Nat.mod_two_eq_zero_or_one x
  have h2 := Nat.mod_two_eq_zero_or_one y
  rcases h1 with h1 | h1 <;> rcases h2 with h2 | h2 <;> simp [h1, h2]
theorem csteps_xor (n x y : Nat) : csteps n (x ^^^ y) = csteps n x ^^^ csteps n y := by
  induction n generalizing x y with
  | zero => rfl
  | succ n ih => rw [csteps, cstep_xor, ih]; rfl
theorem cbyte_xor (x y c d : Nat) : cbyte (x ^^^ y) (c ^^^ d) = cbyte x c ^^^ cbyte y d := by
  unfold cbyte; rw [xor4, csteps_xor]

theorem cbytes_xor (x y : Nat) : ∀ (a b : List UInt8), a.length = b.length → cbytes (x ^^^ y) (List.zipWith (fun p q => p ^^^ q) a b) = cbytes x a ^^^ cbytes y b := by
  intro a
  induction a generalizing x y with
  | nil => intro b h; obtain rfl : b = [] := List.eq_nil_of_length_eq_zero h.symm; rfl
  | cons p a ih =>
    intro b h
    cases b with
    | nil => simp at h
    | cons q b =>
      have := ih (cbyte x p.toNat) (cbyte y q.toNat) b (by simpa using h)
      show cbytes (cbyte (x ^^^ y) (p ^^^ q).toNat) (List.zipWith _ a b) = _
      rw [UInt8.toNat_xor, cbyte_xor]
      exact this
theorem csum_xor3 (a b c : List UInt8) (h1 : a.length = b.length) (h2 : a.length = c.length) :
    csum (List.zipWith (fun p q => p ^^^ q) (List.zipWith (fun p q => p ^^^ q) a b) c) = csum a ^^^ csum b ^^^ csum c := by
  unfold csum
  have e1 := cbytes_xor (4294967295 ^^^ 4294967295) 4294967295 (List.zipWith (fun p q => p ^^^ q) a b) c (by simp; omega)
  have e2 := cbytes_xor 4294967295 4294967295 a b h1
  rw [e2] at e1
  rw [Nat.xor_self, Nat.zero_xor] at e1
  rw [e1]
  generalize cbytes 4294967295 a = x
  generalize cbytes 4294967295 b = y
  generalize cbytes 4294967295 c = z
  rw [xor4 x, Nat.xor_self, Nat.xor_zero, Nat.xor_assoc, Nat.xor_assoc]

theorem cstep_zero : cstep 0 = 0 := rfl
theorem csteps_zero (n : Nat) : csteps n 0 = 0 := by
  induction n with
  | zero => rfl
  | succ n ih => rw [csteps, cstep_zero, ih]

/-- Nothing but 0 goes to 0. -/
theorem cstep_eq_zero {x : Nat} (h : x < 4294967296) (hz : cstep x = 0) : x = 0 := by
  unfold cstep at hz
  by_cases h1 : x % 2 = 1
  · rw [if_pos h1] at hz
    have hb := congrArg (fun n => Nat.testBit n 31) hz
    simp only [Nat.testBit_xor, Nat.zero_testBit] at hb
    have h2 : Nat.testBit (x / 2) 31 = false := Nat.testBit_lt_two_pow (by omega)
    rw [h2] at hb
    exact absurd hb (by decide)
  · rw [if_neg h1, Nat.xor_zero] at hz
    omega
theorem csteps_eq_zero (n : Nat) {x : Nat} (h : x < 4294967296) (hz : csteps n x = 0) : x = 0 := by
  induction n generalizing x with
  | zero => exact hz
  | succ n ih => exact cstep_eq_zero h (ih (cstep_lt h) hz)

/-! ### A list of bytes as one great number: its bits in the order in which they are taken. -/
def cval : List UInt8 → Nat
  | [] => 0
  | c :: l => c.toNat ^^^ (cval l <<< 8)
theorem cstep_double (y : Nat) : cstep (2 * y) = y := by
  unfold cstep
  rw [if_neg (by omega), Nat.xor_zero]
  omega
theorem csteps_shift (m y : Nat) : csteps m (y <<< m) = y := by
  induction m with
  | zero => simp [csteps]
  | succ m ih =>
    rw [csteps, show y <<< (m + 1) = 2 * (y <<< m) from by rw [Nat.shiftLeft_succ], cstep_double, ih]
theorem csteps_add (m n x : Nat) : csteps (m + n) x = csteps n (csteps m x) := by
  induction m generalizing x with
  | zero => rw [Nat.zero_add]; rfl
  | succ m ih => rw [show m + 1 + n = (m + n) + 1 from by omega, csteps, ih]; rfl
theorem cbytes_val (l : List UInt8) (x : Nat) : cbytes x l = csteps (8 * l.length) (x ^^^ cval l) := by
  induction l generalizing x with
  | nil => simp [cbytes, cval, csteps]
  | cons c l ih =>
    show cbytes (cbyte x c.toNat) l = _
    rw [ih, show 8 * (c :: l).length = 8 + 8 * l.length from by simp; omega, csteps_add]
    congr 1
    rw [cval, ← Nat.xor_assoc, csteps_xor, csteps_shift]
    rfl
theorem shift_bit (r j : Nat) : (2 ^ r) <<< j = 2 ^ (r + j) := by rw [Nat.shiftLeft_eq, ← Nat.pow_add]
/-- One bit of one byte turned. -/
theorem cval_set (l : List UInt8) (j r : Nat) (hj : j < l.length) (u : UInt8) (hu : u.toNat = l[j].toNat ^^^ 2 ^ r) : cval (l.set j u) = cval l ^^^ 2 ^ (8 * j + r) := by
  induction l generalizing j with
  | nil => simp at hj
  | cons c l ih =>
    cases j with
    | zero =>
      simp only [List.getElem_cons_zero] at hu
      simp only [List.set_cons_zero, cval]
      rw [hu, Nat.mul_zero, Nat.zero_add, Nat.xor_assoc, Nat.xor_assoc, Nat.xor_comm (2 ^ r)]
    | succ j =>
      simp only [List.getElem_cons_succ] at hu
      simp only [List.set_cons_succ, cval]
      rw [ih j (by simpa using hj) hu, Nat.shiftLeft_xor_distrib, ← Nat.xor_assoc, shift_bit]
      congr 2
      omega

/-- The bits that have been turned so far, as a word at the burst's begin. -/
structure Burst (b F : List UInt8) (k i : Nat) (turned : Bool) (W : Nat) : Prop where
  len : F.length = b.length
  lt : W < 2 ^ i
  val : cval F = cval b ^^^ (W <<< k)
  told : turned = decide (W ≠ 0)
theorem Burst.start (b : List UInt8) (k : Nat) : Burst b b k 0 false 0 := ⟨rfl, by decide, by simp, rfl⟩
theorem Burst.skip {b F : List UInt8} {k i : Nat} {t : Bool} {W : Nat} (h : Burst b F k i t W) : Burst b F k (i + 1) t W := ⟨h.len, Nat.lt_trans h.lt (Nat.pow_lt_pow_right (by decide) (by omega)), h.val, h.told⟩
theorem Burst.turn {b F : List UInt8} {k i : Nat} {t : Bool} {W : Nat} (h : Burst b F k i t W) (hn : k + i < 8 * b.length) (u : UInt8)
    (hu : u.toNat = (F[(k + i) / 8]'(by rw [h.len]; omega)).toNat ^^^ 2 ^ ((k + i) % 8)) : Burst b (F.set ((k + i) / 8) u) k (i + 1) true (W ^^^ 2 ^ i) := by
  refine ⟨by simpa using h.len, ?_, ?_, ?_⟩
  · exact Nat.xor_lt_two_pow (Nat.lt_trans h.lt (Nat.pow_lt_pow_right (by decide) (by omega))) (Nat.pow_lt_pow_right (by decide) (by omega))
  · rw [cval_set F _ _ (by rw [h.len]; omega) u hu, h.val, Nat.shiftLeft_xor_distrib, shift_bit, Nat.xor_assoc]
    congr 3
    omega
  · symm
    rw [decide_eq_true_eq]
    intro hz
    have := congrArg (fun n => Nat.testBit n i) hz
    simp only [Nat.testBit_xor, Nat.testBit_two_pow_self, Nat.zero_testBit, Nat.testBit_lt_two_pow h.lt] at this
    exact absurd this (by decide)
theorem Burst.sums {b F : List UInt8} {k : Nat} {t : Bool} {W : Nat} (h : Burst b F k 32 t W) (hk : k < 8 * b.length) : (decide (csum F ≠ csum b)) = t := by
  rw [h.told]
  have e : cbytes 4294967295 F = cbytes 4294967295 b ^^^ csteps (8 * b.length - k) W := by
    rw [cbytes_val, cbytes_val, h.len, h.val, ← Nat.xor_assoc, csteps_xor]
    congr 1
    rw [show 8 * b.length = k + (8 * b.length - k) from by omega, csteps_add, csteps_shift]
    congr 1
    omega
  have hz : csum F = csum b ↔ W = 0 := by
    unfold csum
    rw [e]
    generalize cbytes 4294967295 b = x
    constructor
    · intro hx
      have h1 := congrArg (fun n => n ^^^ 4294967295) hx
      simp only [Nat.xor_assoc, Nat.xor_self, Nat.xor_zero] at h1
      have h2 : csteps (8 * b.length - k) W = 0 := by
        have := congrArg (fun n => x ^^^ n) h1
        simp only [← Nat.xor_assoc, Nat.xor_self, Nat.zero_xor] at this
        exact this
      exact csteps_eq_zero _ h.lt h2
    · rintro rfl
      rw [csteps_zero, Nat.xor_zero]
  simp only [ne_eq, hz]
end Go.Proofs.Ytklpodfgncabpaa
