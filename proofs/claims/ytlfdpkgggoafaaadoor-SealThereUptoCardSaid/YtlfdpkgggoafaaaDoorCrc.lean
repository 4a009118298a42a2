/-
  The check sum in plain numbers: by nibbles (the program) and bit by bit (the reference). Nothing of the program is in it.
-/
namespace Go.Proofs.YtlfdpkgggoafaaaDoor.Crc

def nibs : List Nat := [0, 274646895, 549293790, 820201905, 1098587580, 1361435347, 1640403810, 1905808397, 2197175160, 2460548119, 2722870694, 2987750089, 3280807620, 3553878443, 3811616794, 4084100981]
def nib (i : Nat) : Nat := nibs.getD i 0
def half (s : Nat) : Nat := (s / 16) ^^^ nib (s % 16)
def one (s c : Nat) : Nat := half (half (s ^^^ c))
def over (s : Nat) : List UInt8 → Nat
  | [] => s
  | c :: r => over (one s c.toNat) r

def sum (l : List UInt8) : Nat := over 4294967295 l ^^^ 4294967295

theorem nib_lt (i : Nat) : nib i < 4294967296 := by
  unfold nib nibs
  rcases i with _|_|_|_|_|_|_|_|_|_|_|_|_|_|_|_|i <;> simp
theorem xor_lt {a b : Nat} (ha : a < 4294967296) (hb : b < 4294967296) : a ^^^ b < 4294967296 := Nat.xor_lt_two_pow (n := 32) ha hb
theorem half_lt {s : Nat} (h : s < 4294967296) : half s < 4294967296 := xor_lt (by omega) (nib_lt _)
theorem one_lt {s c : Nat} (h : s < 4294967296) (hc : c < 4294967296) : one s c < 4294967296 := half_lt (half_lt (xor_lt h hc))
theorem over_lt (l : List UInt8) : ∀ {s : Nat}, s < 4294967296 → over s l < 4294967296 := by
  induction l with
  | nil => intro s h; exact h
  | cons c r ih => intro s h; exact ih (one_lt h (by have := c.toNat_lt; omega))
theorem over_append (l r : List UInt8) : ∀ s, over s (l ++ r) = over (over s l) r := by
  induction l with
  | nil => intro s; rfl
  | cons c l ih => intro s; exact ih _
theorem over_snoc (l : List UInt8) (c : UInt8) (s : Nat) : over s (l ++ [c]) = one (over s l) c.toNat := over_append l [c] s
theorem over_take (l : List UInt8) (k : Nat) (h : k < l.length) (s : Nat) : over s (l.take (k + 1)) = one (over s (l.take k)) l[k].toNat := by
  rw [List.take_succ_eq_append_getElem h, over_snoc]

/-- One bit of the check sum. -/
def bit (s : Nat) : Nat := if s % 2 = 1 then (s / 2) ^^^ 2197175160 else s / 2
def bits : Nat → Nat → Nat
  | 0, s => s
  | k + 1, s => bit (bits k s)
def oneR (s c : Nat) : Nat := bits 8 (s ^^^ c)
def overR (s : Nat) : List UInt8 → Nat
  | [] => s
  | c :: r => overR (oneR s c.toNat) r
theorem bit_lt {s : Nat} (h : s < 4294967296) : bit s < 4294967296 := by
  unfold bit
  split
  · exact xor_lt (by omega) (by decide)
  · omega
theorem bits_lt {s : Nat} (h : s < 4294967296) : ∀ k, bits k s < 4294967296
  | 0 => h
  | k + 1 => bit_lt (bits_lt h k)
theorem oneR_lt {s c : Nat} (h : s < 4294967296) (hc : c < 4294967296) : oneR s c < 4294967296 := bits_lt (xor_lt h hc) 8
theorem overR_lt (l : List UInt8) : ∀ {s : Nat}, s < 4294967296 → overR s l < 4294967296 := by
  induction l with
  | nil => intro s h; exact h
  | cons c r ih => intro s h; exact ih (oneR_lt h (by have := c.toNat_lt; omega))
theorem overR_append (l r : List UInt8) : ∀ s, overR s (l ++ r) = overR (overR s l) r := by
  induction l with
  | nil => intro s; rfl
  | cons c l ih => intro s; exact ih _
theorem overR_take (l : List UInt8) (k : Nat) (h : k < l.length) (s : Nat) : overR s (l.take (k + 1)) = oneR (overR s (l.take k)) l[k].toNat := by
  rw [List.take_succ_eq_append_getElem h, overR_append]
  rfl


theorem bit_eq (s : Nat) : bit s = (s / 2) ^^^ (if s % 2 = 1 then 2197175160 else 0) := by
  unfold bit
  split <;> simp
theorem xor_half (a b : Nat) : (a ^^^ b) / 2 = (a / 2) ^^^ (b / 2) := by
  have h := Nat.shiftRight_xor_distrib (a := a) (b := b) (i := 1)
  simpa [Nat.shiftRight_eq_div_pow] using h
theorem xor_odd (a b : Nat) : (a ^^^ b) % 2 = (a % 2 + b % 2) % 2 := by
  have h : decide ((a ^^^ b) % 2 = 1) = (decide (a % 2 = 1) ^^ decide (b % 2 = 1)) := by
    rw [← Nat.testBit_zero, ← Nat.testBit_zero, ← Nat.testBit_zero]
    exact Nat.testBit_xor a b 0
  generalize (a ^^^ b) = x at h
  by_cases hx : x % 2 = 1 <;> by_cases ha : a % 2 = 1 <;> by_cases hb : b % 2 = 1 <;> simp [hx, ha, hb] at h <;> omega
theorem bit_xor (a b : Nat) : bit (a ^^^ b) = bit a ^^^ bit b := by
  rw [bit_eq, bit_eq a, bit_eq b, xor_half, xor_odd]
  generalize a / 2 = x
  generalize b / 2 = y
  have e1 : ∀ p : Nat, x ^^^ y ^^^ p = x ^^^ (y ^^^ p) := fun p => Nat.xor_assoc x y p
  by_cases ha : a % 2 = 1 <;> by_cases hb : b % 2 = 1
  · rw [if_neg (by omega), if_pos ha, if_pos hb]
    rw [Nat.xor_zero, Nat.xor_assoc, Nat.xor_comm y, ← Nat.xor_assoc 2197175160, Nat.xor_self, Nat.zero_xor]
  · rw [if_pos (by omega), if_pos ha, if_neg hb, Nat.xor_zero, Nat.xor_assoc, Nat.xor_assoc, Nat.xor_comm y]
  · rw [if_pos (by omega), if_neg ha, if_pos hb, Nat.xor_zero, Nat.xor_assoc]
  · rw [if_neg (by omega), if_neg ha, if_neg hb, Nat.xor_zero, Nat.xor_zero, Nat.xor_zero]
theorem bits_xor (a b : Nat) : ∀ k, bits k (a ^^^ b) = bits k a ^^^ bits k b
  | 0 => rfl
  | k + 1 => by show bit (bits k (a ^^^ b)) = bit (bits k a) ^^^ bit (bits k b); rw [bits_xor a b k, bit_xor]
theorem bits_four (q : Nat) : bits 4 (16 * q) = q := by
  have h : ∀ m, bit (2 * m) = m := fun m => by
    unfold bit
    rw [if_neg (by omega)]
    omega
  show bit (bit (bit (bit (16 * q)))) = q
  rw [show 16 * q = 2 * (8 * q) by omega, h, show 8 * q = 2 * (4 * q) by omega, h, show 4 * q = 2 * (2 * q) by omega, h, h]
theorem bits_nib : ∀ r, r < 16 → bits 4 r = nib r := by decide
theorem split16 (s : Nat) : s = (16 * (s / 16)) ^^^ (s % 16) := by
  apply Nat.eq_of_testBit_eq
  intro i
  rw [Nat.testBit_xor, show 16 * (s / 16) = 2 ^ 4 * (s / 16) from rfl, show s % 16 = s % 2 ^ 4 from rfl, Nat.testBit_two_pow_mul, Nat.testBit_mod_two_pow]
  by_cases hi : i < 4
  · simp [hi, show ¬ 4 ≤ i by omega]
  · simp [hi, show 4 ≤ i by omega]
    rw [show s / 16 = s / 2 ^ 4 from rfl, Nat.testBit_div_two_pow, Nat.sub_add_cancel (by omega)]
theorem half_eq (s : Nat) : half s = bits 4 s := by
  conv => rhs; rw [split16 s, bits_xor, bits_four, bits_nib _ (Nat.mod_lt _ (by decide))]
  rfl
theorem bits_add (s : Nat) (j : Nat) : ∀ k, bits (j + k) s = bits k (bits j s)
  | 0 => rfl
  | k + 1 => by show bit (bits (j + k) s) = bit (bits k (bits j s)); rw [bits_add s j k]
theorem one_eq (s c : Nat) : one s c = oneR s c := by
  unfold one oneR
  rw [half_eq, half_eq, ← bits_add]
theorem over_eq (l : List UInt8) : ∀ s, over s l = overR s l := by
  induction l with
  | nil => intro s; rfl
  | cons c r ih => intro s; show over (one s _) r = overR (oneR s _) r; rw [ih, one_eq]
theorem xor_ones (x : Nat) (h : x < 4294967296) : x ^^^ 4294967295 = 4294967295 - x := by
  apply Nat.eq_of_testBit_eq
  intro i
  rw [Nat.testBit_xor, show (4294967295 : Nat) - x = 2 ^ 32 - (x + 1) by omega, Nat.testBit_two_pow_sub_succ (by simpa using h), show (4294967295 : Nat) = 2 ^ 32 - 1 from rfl, Nat.testBit_two_pow_sub_one]
  by_cases hi : i < 32
  · simp [hi]
  · simp [hi]
    exact Nat.testBit_lt_two_pow (Nat.lt_of_lt_of_le (show x < 2 ^ 32 from h) (Nat.pow_le_pow_right (by decide) (by omega)))
theorem sum_eq (l : List UInt8) : (sum l : Int) = 4294967295 - (overR 4294967295 l : Int) := by
  have h := over_lt l (s := 4294967295) (by decide)
  unfold sum
  rw [xor_ones _ h, ← over_eq]
  omega

theorem bit_top {s : Nat} (h : s < 4294967296) : (bit s).testBit 31 = decide (s % 2 = 1) := by
  rw [bit_eq, Nat.testBit_xor]
  have h1 : (s / 2).testBit 31 = false := Nat.testBit_lt_two_pow (show s / 2 < 2 ^ 31 by omega)
  rw [h1]
  by_cases ho : s % 2 = 1
  · simp [ho]; decide
  · simp [ho]
theorem bit_inj {a b : Nat} (ha : a < 4294967296) (hb : b < 4294967296) (h : bit a = bit b) : a = b := by
  have h1 := bit_top ha
  have h2 := bit_top hb
  rw [h, h2] at h1
  have h3 : (b % 2 = 1) ↔ (a % 2 = 1) := by simpa using h1
  rw [bit_eq, bit_eq b] at h
  have h4 : (if a % 2 = 1 then 2197175160 else 0) = (if b % 2 = 1 then 2197175160 else 0) := by
    by_cases ho : a % 2 = 1
    · rw [if_pos ho, if_pos (h3.2 ho)]
    · rw [if_neg ho, if_neg (fun q => ho (h3.1 q))]
  rw [h4] at h
  have h5 : a / 2 = b / 2 := by
    have := congrArg (fun x => x ^^^ (if b % 2 = 1 then 2197175160 else 0)) h
    simpa [Nat.xor_assoc] using this
  omega
theorem bits_inj {a b : Nat} (ha : a < 4294967296) (hb : b < 4294967296) : ∀ k, bits k a = bits k b → a = b
  | 0, h => h
  | k + 1, h => bits_inj ha hb k (bit_inj (bits_lt ha k) (bits_lt hb k) h)
theorem xor_cancel {a b c : Nat} (h : a ^^^ c = b ^^^ c) : a = b := by
  have := congrArg (fun x => x ^^^ c) h
  simpa [Nat.xor_assoc] using this
theorem oneR_inj {a b c : Nat} (ha : a < 4294967296) (hb : b < 4294967296) (hc : c < 4294967296) (h : oneR a c = oneR b c) : a = b :=
  xor_cancel (bits_inj (xor_lt ha hc) (xor_lt hb hc) 8 h)
theorem overR_inj (l : List UInt8) : ∀ {a b : Nat}, a < 4294967296 → b < 4294967296 → overR a l = overR b l → a = b := by
  induction l with
  | nil => intro a b _ _ h; exact h
  | cons c l ih =>
    intro a b ha hb h
    have hc : c.toNat < 4294967296 := by have := c.toNat_lt; omega
    exact oneR_inj ha hb hc (ih (oneR_lt ha hc) (oneR_lt hb hc) h)
theorem overR_byte (l r : List UInt8) (c c' : UInt8) {s : Nat} (hs : s < 4294967296) (h : overR s (l ++ c :: r) = overR s (l ++ c' :: r)) : c = c' := by
  rw [overR_append, overR_append] at h
  have hl := overR_lt l hs
  have h1 : c.toNat < 4294967296 := by have := c.toNat_lt; omega
  have h2 : c'.toNat < 4294967296 := by have := c'.toNat_lt; omega
  have h3 := overR_inj r (oneR_lt hl h1) (oneR_lt hl h2) h
  have h4 := bits_inj (xor_lt hl h1) (xor_lt hl h2) 8 h3
  rw [Nat.xor_comm, Nat.xor_comm _ c'.toNat] at h4
  exact UInt8.toNat_inj.1 (xor_cancel h4)
theorem sum_byte (l r : List UInt8) (c c' : UInt8) (h : sum (l ++ c :: r) = sum (l ++ c' :: r)) : c = c' := by
  unfold sum at h
  have h1 := xor_cancel h
  rw [over_eq, over_eq] at h1
  exact overR_byte l r c c' (by decide) h1

end Go.Proofs.YtlfdpkgggoafaaaDoor.Crc
