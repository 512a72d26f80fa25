/- plain: CRC registers -/
namespace Crc

/-- one bit of the register -/
def step1 (p r : Nat) : Nat := (r >>> 1) ^^^ (if r % 2 = 1 then p else 0)
def step4 (p r : Nat) : Nat := step1 p (step1 p (step1 p (step1 p r)))
def step8 (p r : Nat) : Nat := step4 p (step4 p r)
/-- the register behind one byte -/
def byte (p r x : Nat) : Nat := step8 p (r ^^^ x)
/-- the register behind bytes -/
def run (p r : Nat) (bs : List Nat) : Nat := bs.foldl (byte p) r
/-- n bytes that are 0 -/
def zeros (p n r : Nat) : Nat := match n with | 0 => r | n + 1 => zeros p n (step8 p r)

theorem xor_shift (a b k : Nat) : (a ^^^ b) >>> k = (a >>> k) ^^^ (b >>> k) := by
  apply Nat.eq_of_testBit_eq; intro i; simp [Nat.testBit_shiftRight, Nat.testBit_xor]

theorem xor_mod2 (a b : Nat) : (a ^^^ b) % 2 = (a % 2 + b % 2) % 2 := by
  have := @Nat.xor_mod_two_pow a b 1
  simp at this
  rw [this]
  have ha : a % 2 = 0 ∨ a % 2 = 1 := by omega
  have hb : b % 2 = 0 ∨ b % 2 = 1 := by omega
  rcases ha with h | h <;> rcases hb with h' | h' <;> rw [h, h'] <;> rfl

theorem xor4 (a b c d : Nat) : (a ^^^ b) ^^^ (c ^^^ d) = (a ^^^ c) ^^^ (b ^^^ d) := by
  rw [Nat.xor_assoc, ← Nat.xor_assoc b c d, Nat.xor_comm b c, Nat.xor_assoc c b d, ← Nat.xor_assoc]

theorem step1_xor (p a b : Nat) : step1 p (a ^^^ b) = step1 p a ^^^ step1 p b := by
  unfold step1
  rw [xor_shift, xor_mod2, xor4]
  congr 1
  have ha : a % 2 = 0 ∨ a % 2 = 1 := by omega
  have hb : b % 2 = 0 ∨ b % 2 = 1 := by omega
  rcases ha with h | h <;> rcases hb with h' | h' <;> simp [h, h']

theorem step4_xor (p a b : Nat) : step4 p (a ^^^ b) = step4 p a ^^^ step4 p b := by simp [step4, step1_xor]
theorem step8_xor (p a b : Nat) : step8 p (a ^^^ b) = step8 p a ^^^ step8 p b := by simp [step8, step4_xor]
theorem zeros_xor (p n a b : Nat) : zeros p n (a ^^^ b) = zeros p n a ^^^ zeros p n b := by
  induction n generalizing a b with
  | zero => rfl
  | succ n ih => simp only [zeros, step8_xor, ih]

theorem zeros_add (p n m r : Nat) : zeros p (n + m) r = zeros p m (zeros p n r) := by
  induction n generalizing r with
  | zero => simp [zeros]
  | succ n ih => rw [Nat.succ_add]; simp only [zeros, ih]

theorem zeros_succ' (p n r : Nat) : zeros p (n + 1) r = step8 p (zeros p n r) := by
  rw [zeros_add]; rfl

theorem run_xor (p : Nat) (bs : List Nat) (a b : Nat) : run p (a ^^^ b) bs = zeros p bs.length a ^^^ run p b bs := by
  induction bs generalizing a b with
  | nil => rfl
  | cons x bs ih =>
    show run p (byte p (a ^^^ b) x) bs = zeros p bs.length (step8 p a) ^^^ run p (byte p b x) bs
    rw [← ih, byte, byte, Nat.xor_assoc, step8_xor]

theorem run_append (p r : Nat) (as bs : List Nat) : run p r (as ++ bs) = run p (run p r as) bs := by simp [run]

/-- P: the polynomial has bit 31 and no further one -/
theorem step1_lt {p r : Nat} (hp : p < 2 ^ 32) (hr : r < 2 ^ 32) : step1 p r < 2 ^ 32 := by
  unfold step1
  apply Nat.xor_lt_two_pow
  · rw [Nat.shiftRight_eq_div_pow]; omega
  · split <;> omega
theorem step4_lt {p r : Nat} (hp : p < 2 ^ 32) (hr : r < 2 ^ 32) : step4 p r < 2 ^ 32 := step1_lt hp (step1_lt hp (step1_lt hp (step1_lt hp hr)))
theorem step8_lt {p r : Nat} (hp : p < 2 ^ 32) (hr : r < 2 ^ 32) : step8 p r < 2 ^ 32 := step4_lt hp (step4_lt hp hr)
theorem zeros_lt {p r : Nat} (n : Nat) (hp : p < 2 ^ 32) (hr : r < 2 ^ 32) : zeros p n r < 2 ^ 32 := by
  induction n generalizing r with
  | zero => exact hr
  | succ n ih => exact ih (step8_lt hp hr)
theorem byte_lt {p r x : Nat} (hp : p < 2 ^ 32) (hr : r < 2 ^ 32) (hx : x < 256) : byte p r x < 2 ^ 32 :=
  step8_lt hp (Nat.xor_lt_two_pow hr (by omega))
theorem run_lt {p r : Nat} {bs : List Nat} (hp : p < 2 ^ 32) (hr : r < 2 ^ 32) (hb : ∀ x ∈ bs, x < 256) : run p r bs < 2 ^ 32 := by
  induction bs generalizing r with
  | nil => exact hr
  | cons x bs ih => exact ih (byte_lt hp hr (hb x (by simp))) (fun y hy => hb y (by simp [hy]))

theorem step1_ne {p r : Nat} (hp : p.testBit 31 = true) (hr : r < 2 ^ 32) (h : r ≠ 0) : step1 p r ≠ 0 := by
  intro h0
  have hb : (r >>> 1).testBit 31 = false := by
    rw [Nat.testBit_shiftRight]; exact Nat.testBit_lt_two_pow (by omega)
  unfold step1 at h0
  split at h0
  · have : ((r >>> 1) ^^^ p).testBit 31 = true := by rw [Nat.testBit_xor, hb, hp]; rfl
    rw [h0] at this; simp at this
  · rename_i hm
    simp only [Nat.xor_zero, Nat.shiftRight_eq_div_pow] at h0
    omega
theorem step4_ne {p r : Nat} (hp32 : p < 2 ^ 32) (hp : p.testBit 31 = true) (hr : r < 2 ^ 32) (h : r ≠ 0) : step4 p r ≠ 0 := by
  have l1 := step1_lt hp32 hr
  have l2 := step1_lt hp32 l1
  have l3 := step1_lt hp32 l2
  exact step1_ne hp l3 (step1_ne hp l2 (step1_ne hp l1 (step1_ne hp hr h)))
theorem step8_ne {p r : Nat} (hp32 : p < 2 ^ 32) (hp : p.testBit 31 = true) (hr : r < 2 ^ 32) (h : r ≠ 0) : step8 p r ≠ 0 :=
  step4_ne hp32 hp (step4_lt hp32 hr) (step4_ne hp32 hp hr h)
theorem zeros_ne {p r : Nat} (n : Nat) (hp32 : p < 2 ^ 32) (hp : p.testBit 31 = true) (hr : r < 2 ^ 32) (h : r ≠ 0) : zeros p n r ≠ 0 := by
  induction n generalizing r with
  | zero => exact h
  | succ n ih => exact ih (step8_lt hp32 hr) (step8_ne hp32 hp hr h)
theorem xor_ne {a b : Nat} (h : a ≠ b) : a ^^^ b ≠ 0 := by
  intro h0; apply h; apply Nat.eq_of_testBit_eq; intro i
  have := congrArg (fun x => Nat.testBit x i) h0
  simp [Nat.testBit_xor] at this; exact this
theorem xor_eq_zero {a b : Nat} (h : a ^^^ b = 0) : a = b := Classical.byContradiction fun hh => xor_ne hh h
theorem zeros_inj {p a b : Nat} (n : Nat) (hp32 : p < 2 ^ 32) (hp : p.testBit 31 = true) (ha : a < 2 ^ 32) (hb : b < 2 ^ 32) (h : zeros p n a = zeros p n b) : a = b := by
  refine Classical.byContradiction fun hh => zeros_ne n hp32 hp (Nat.xor_lt_two_pow ha hb) (xor_ne hh) ?_
  rw [zeros_xor, h, Nat.xor_self]

/-- one other byte: another register -/
theorem run_turn {p r x y : Nat} {as bs : List Nat} (hp32 : p < 2 ^ 32) (hp : p.testBit 31 = true) (hr : r < 2 ^ 32)
    (ha : ∀ z ∈ as, z < 256) (hx : x < 256) (hy : y < 256)
    (h : run p r (as ++ x :: bs) = run p r (as ++ y :: bs)) : x = y := by
  rw [run_append, run_append] at h
  have hs : run p r as < 2 ^ 32 := run_lt hp32 hr ha
  generalize run p r as = s at *
  change run p (byte p s x) bs = run p (byte p s y) bs at h
  have e : byte p s x = (byte p s x ^^^ byte p s y) ^^^ byte p s y := by rw [Nat.xor_assoc, Nat.xor_self, Nat.xor_zero]
  rw [e, run_xor] at h
  have hz : zeros p bs.length (byte p s x ^^^ byte p s y) = 0 := by
    have := congrArg (· ^^^ run p (byte p s y) bs) h
    simpa [Nat.xor_assoc] using this
  have hlt := Nat.xor_lt_two_pow (byte_lt hp32 hs hx) (byte_lt hp32 hs hy)
  have h0 : byte p s x ^^^ byte p s y = 0 := Classical.byContradiction fun hh => zeros_ne _ hp32 hp hlt hh hz
  unfold byte at h0
  rw [← step8_xor, xor4, Nat.xor_self, Nat.zero_xor] at h0
  exact Classical.byContradiction fun hh => step8_ne hp32 hp (Nat.xor_lt_two_pow (by omega) (by omega)) (xor_ne hh) h0

/-! the nibble tables -/
theorem low4 (p r : Nat) (h : r % 16 = 0) : step4 p r = r / 16 := by
  unfold step4 step1
  simp only [Nat.shiftRight_eq_div_pow]
  rw [if_neg (by omega : ¬ r % 2 = 1)]
  simp only [Nat.xor_zero]
  rw [if_neg (by omega)]
  simp only [Nat.xor_zero]
  rw [if_neg (by omega)]
  simp only [Nat.xor_zero]
  rw [if_neg (by omega)]
  simp only [Nat.xor_zero]
  omega
theorem split4 (r : Nat) : r = (16 * (r / 16)) ^^^ (r % 16) := by
  have h := (Nat.two_pow_add_eq_or_of_lt (i := 4) (b := r % 16) (by omega) (r / 16))
  have h2 : (16 * (r / 16)) ^^^ (r % 16) = (16 * (r / 16)) ||| (r % 16) := by
    apply Nat.eq_of_testBit_eq; intro i
    rw [Nat.testBit_xor, Nat.testBit_or]
    by_cases hi : i < 4
    · have : (16 * (r / 16)).testBit i = false := by
        rw [show 16 * (r / 16) = 2 ^ 4 * (r / 16) from rfl, Nat.testBit_two_pow_mul]
        simp; omega
      rw [this]; simp
    · have : (r % 16).testBit i = false := Nat.testBit_lt_two_pow (Nat.lt_of_lt_of_le (show r % 16 < 2 ^ 4 by omega) (Nat.pow_le_pow_right (by omega) (by omega)))
      rw [this]; simp
  rw [h2, show 16 * (r / 16) = 2 ^ 4 * (r / 16) from rfl, ← h]
  omega
/-- four steps by a table -/
theorem step4_tab (p r : Nat) : step4 p r = (r / 16) ^^^ step4 p (r % 16) := by
  conv => lhs; rw [split4 r, step4_xor, low4 p (16 * (r / 16)) (by omega)]
  congr 1
  omega

def polyZip : Nat := 0xEDB88320
def polySeal : Nat := 0x82F63B78
def zipTable : List Nat := [
  0x00000000, 0x1db71064, 0x3b6e20c8, 0x26d930ac, 0x76dc4190, 0x6b6b51f4, 0x4db26158, 0x5005713c,
  0xedb88320, 0xf00f9344, 0xd6d6a3e8, 0xcb61b38c, 0x9b64c2b0, 0x86d3d2d4, 0xa00ae278, 0xbdbdf21c]
def sealTable : List Nat := [
  0x00000000, 0x105ec76f, 0x20bd8ede, 0x30e349b1, 0x417b1dbc, 0x5125dad3, 0x61c69362, 0x7198540d,
  0x82f63b78, 0x92a8fc17, 0xa24bb5a6, 0xb21572c9, 0xc38d26c4, 0xd3d3e1ab, 0xe330a81a, 0xf36e6f75]
theorem zip_tab : ∀ k, k < 16 → zipTable.getD k 0 = step4 polyZip k := by decide +kernel
theorem seal_tab : ∀ k, k < 16 → sealTable.getD k 0 = step4 polySeal k := by decide +kernel
theorem zip_step4 (r : Nat) : (r / 16) ^^^ zipTable.getD (r % 16) 0 = step4 polyZip r := by
  rw [step4_tab, zip_tab _ (by omega)]
theorem seal_step4 (r : Nat) : (r / 16) ^^^ sealTable.getD (r % 16) 0 = step4 polySeal r := by
  rw [step4_tab, seal_tab _ (by omega)]

/-! linear maps by their columns -/
def Lin (L : Nat → Nat) : Prop := ∀ a b, L (a ^^^ b) = L a ^^^ L b
theorem Lin.zero {L : Nat → Nat} (h : Lin L) : L 0 = 0 := by
  have := h 0 0
  simpa using this
theorem lin_zeros (p n : Nat) : Lin (zeros p n) := zeros_xor p n
theorem mod_succ (a i : Nat) : a % 2 ^ (i + 1) = (a % 2 ^ i) ^^^ (a / 2 ^ i % 2 * 2 ^ i) := by
  apply Nat.eq_of_testBit_eq; intro j
  rw [Nat.testBit_xor, Nat.testBit_mod_two_pow, Nat.testBit_mod_two_pow, Nat.mul_comm, Nat.testBit_two_pow_mul]
  rcases Nat.lt_trichotomy j i with h | h | h
  · simp [h, show j < i + 1 by omega, show ¬ i ≤ j by omega]
  · subst h
    simp [Nat.testBit, Nat.shiftRight_eq_div_pow]
  · have h2 : (a / 2 ^ i % 2).testBit (j - i) = false := Nat.testBit_lt_two_pow (Nat.lt_of_lt_of_le (show a / 2 ^ i % 2 < 2 ^ 1 by omega) (Nat.pow_le_pow_right (by omega) (by omega)))
    simp [h2, show ¬ j < i by omega, show ¬ j < i + 1 by omega]
theorem lin_odd {L : Nat → Nat} (h : Lin L) (a i : Nat) (ho : a / 2 ^ i % 2 = 1) : L (a % 2 ^ (i + 1)) = L (a % 2 ^ i) ^^^ L (2 ^ i) := by
  rw [mod_succ, ho, h, Nat.one_mul]
theorem lin_even {L : Nat → Nat} (h : Lin L) (a i : Nat) (he : a / 2 ^ i % 2 = 0) : L (a % 2 ^ (i + 1)) = L (a % 2 ^ i) := by
  rw [mod_succ, he, h, Nat.zero_mul, h.zero, Nat.xor_zero]
attribute [irreducible] zeros
end Crc
