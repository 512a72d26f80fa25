/- plain: the count of a word's ones, by halves, quarters, bytes -/
import Derived.Lib.BitFns
namespace Pop

/-- f over the 8 bytes -/
def mp (f : Nat → Nat) : Nat → Nat → Nat
  | 0, _ => 0
  | n + 1, x => f (x % 256) + 256 * mp f n (x / 256)
theorem mp_congr {f g : Nat → Nat} (h : ∀ d, d < 256 → f d = g d) : ∀ n x, mp f n x = mp g n x
  | 0, _ => rfl
  | n + 1, x => by rw [mp, mp, h _ (Nat.mod_lt _ (by omega)), mp_congr h n]
theorem mp_div {f : Nat → Nat} (hf : ∀ d, d < 256 → f d < 256) (n x : Nat) : mp f (n + 1) x % 256 = f (x % 256) ∧ mp f (n + 1) x / 256 = mp f n (x / 256) := by
  have h := hf (x % 256) (Nat.mod_lt _ (by omega))
  rw [mp]
  omega
theorem mp_comp {f g : Nat → Nat} (hf : ∀ d, d < 256 → f d < 256) : ∀ n x, mp g n (mp f n x) = mp (fun d => g (f d)) n x
  | 0, _ => rfl
  | n + 1, x => by
    obtain ⟨h1, h2⟩ := mp_div hf n x
    rw [mp, h1, h2, mp_comp hf n, mp]
theorem and_split (a b c d : Nat) (ha : a < 256) (hb : b < 256) : (a + 256 * c) &&& (b + 256 * d) = (a &&& b) + 256 * (c &&& d) := by
  have hab : a &&& b < 2 ^ 8 := Nat.and_lt_two_pow (n := 8) a (by omega)
  apply Nat.eq_of_testBit_eq
  intro i
  rw [Nat.testBit_and, Nat.add_comm a, Nat.add_comm b, Nat.add_comm (a &&& b), show (256 : Nat) = 2 ^ 8 from rfl, Nat.testBit_two_pow_mul_add _ ha, Nat.testBit_two_pow_mul_add _ hb, Nat.testBit_two_pow_mul_add _ hab]
  split
  · rw [Nat.testBit_and]
  · rw [Nat.testBit_and]
/-- a mask: the byte m, n times -/
def mask (m : Nat) : Nat → Nat
  | 0 => 0
  | n + 1 => m + 256 * mask m n
theorem and_mask (m : Nat) (hm : m < 256) : ∀ n x, x &&& mask m n = mp (fun d => d &&& m) n x
  | 0, x => by simp [mask, mp]
  | n + 1, x => by
    rw [mask, mp, ← and_mask m hm n (x / 256), ← and_split _ _ _ _ (Nat.mod_lt _ (by omega)) hm]
    congr 1
    omega
/-- the word shifted by k, then masked: byte by byte, where the mask lets in no bit of the next byte -/
theorem shr_mask (k m : Nat) (hk : k ≤ 8) (hm : m < 2 ^ (8 - k)) : ∀ n x, (x / 2 ^ k) &&& mask m n = mp (fun d => (d / 2 ^ k) &&& m) n x := by
  have hm256 : m < 256 := Nat.lt_of_lt_of_le hm (by have : 2 ^ (8 - k) ≤ 2 ^ 8 := Nat.pow_le_pow_right (by omega) (by omega); omega)
  intro n
  induction n with
  | zero => intro x; simp [mask, mp]
  | succ n ih =>
    intro x
    rw [mask, mp, ← ih (x / 256)]
    have h256 : 2 ^ k * 2 ^ (8 - k) = 256 := by rw [← Nat.pow_add, Nat.add_sub_cancel' hk]
    have hpk : 0 < 2 ^ k := Nat.pow_pos (by omega)
    have hp8 : 0 < 2 ^ (8 - k) := Nat.pow_pos (by omega)
    generalize 2 ^ k = A at *
    generalize hB : 2 ^ (8 - k) = B at *
    -- x / A = (x % 256 / A + B * (x / 256 % A)) + 256 * (x / 256 / A)
    have e1 : x / A = x % 256 / A + B * (x / 256) := by
      conv => lhs; rw [← Nat.mod_add_div x 256, ← h256, Nat.mul_assoc, Nat.add_mul_div_left _ _ hpk]
      rw [h256]
    have hd : x % 256 / A < B := by
      rw [Nat.div_lt_iff_lt_mul hpk, Nat.mul_comm, h256]
      exact Nat.mod_lt _ (by omega)
    have e2 : x / A = (x % 256 / A + B * (x / 256 % A)) + 256 * (x / 256 / A) := by
      have := Nat.mod_add_div (x / 256) A
      rw [e1]
      conv => lhs; rw [← this]
      rw [Nat.mul_add, ← Nat.mul_assoc, Nat.mul_comm B A, h256]
      omega
    have hlt : x % 256 / A + B * (x / 256 % A) < 256 := by
      have h3 := Nat.mod_lt (x / 256) hpk
      have : B * (x / 256 % A) + B ≤ B * A := by rw [← Nat.mul_succ]; exact Nat.mul_le_mul_left _ h3
      rw [Nat.mul_comm B A, h256] at this
      omega
    rw [e2, and_split _ _ _ _ hlt hm256]
    congr 1
    -- the low bits
    apply Nat.eq_of_testBit_eq
    intro i
    rw [Nat.testBit_and, Nat.testBit_and]
    by_cases hi : i < 8 - k
    · rw [Nat.add_comm (x % 256 / A), ← hB, Nat.testBit_two_pow_mul_add _ (by rw [hB]; exact hd), if_pos hi]
    · have : m.testBit i = false := Nat.testBit_lt_two_pow (Nat.lt_of_lt_of_le (by rw [hB]; exact hm) (Nat.pow_le_pow_right (by omega) (by omega)))
      rw [this, Bool.and_false, Bool.and_false]
theorem mp_add {f g : Nat → Nat} : ∀ n x, mp f n x + mp g n x = mp (fun d => f d + g d) n x
  | 0, _ => rfl
  | n + 1, x => by rw [mp, mp, mp, ← mp_add n (x / 256)]; omega
theorem mp_lt {f : Nat → Nat} (hf : ∀ d, d < 256 → f d < 256) : ∀ n x, mp f n x < 256 ^ n
  | 0, _ => by simp [mp]
  | n + 1, x => by
    have h := hf (x % 256) (Nat.mod_lt _ (by omega))
    have := mp_lt hf n (x / 256)
    rw [mp, Nat.pow_succ]
    omega
theorem mp_id : ∀ n x, x < 256 ^ n → mp (fun d => d) n x = x
  | 0, x, h => by simp at h; simp [mp, h]
  | n + 1, x, h => by
    rw [mp, mp_id n (x / 256) (by rw [Nat.pow_succ] at h; omega)]
    omega
/-- nibbles: the word and its shift by 4 added, then masked -/
theorem nib {f : Nat → Nat} (hf : ∀ d, d < 256 → f d / 16 ≤ 4 ∧ f d % 16 ≤ 4) : ∀ n x, ((mp f n x) / 16 + mp f n x) &&& mask 15 n = mp (fun d => f d / 16 + f d % 16) n x := by
  intro n
  induction n with
  | zero => intro x; simp [mask, mp]
  | succ n ih =>
    intro x
    have h1 := hf (x % 256) (Nat.mod_lt _ (by omega))
    rw [mask, mp, mp, ← ih (x / 256)]
    have hc : mp f n (x / 256) % 16 ≤ 4 := by
      cases n with
      | zero => simp [mp]
      | succ n =>
        have h2 := hf (x / 256 % 256) (Nat.mod_lt _ (by omega))
        rw [mp]
        omega
    generalize f (x % 256) = d at h1
    generalize mp f n (x / 256) = c at hc
    have e : (d + 256 * c) / 16 + (d + 256 * c) = (d / 16 + 16 * (c % 16) + d) + 256 * (c / 16 + c) := by omega
    rw [e, and_split _ _ _ _ (by omega) (by omega)]
    congr 1
    rw [show (15 : Nat) = 2 ^ 4 - 1 from rfl, Nat.and_two_pow_sub_one_eq_mod]
    omega
def b1 (d : Nat) : Nat := (d / 2 &&& 85) + (d &&& 85)
def b2 (d : Nat) : Nat := (d / 4 &&& 51) + (d &&& 51)
def b12 (d : Nat) : Nat := b2 (b1 d)
def b3 (d : Nat) : Nat := b12 d / 16 + b12 d % 16
theorem b1_lt : ∀ d : Fin 256, b1 d < 256 := by decide +kernel
theorem b12_ok : ∀ d : Fin 256, b12 d < 256 ∧ b12 d / 16 ≤ 4 ∧ b12 d % 16 ≤ 4 ∧ b3 d = Go.Lib.popAux 8 d := by decide +kernel
theorem m85 : mask 85 8 = 6148914691236517205 := by decide
theorem m51 : mask 51 8 = 3689348814741910323 := by decide
theorem m15 : mask 15 8 = 1085102592571150095 := by decide
theorem popAux_le : ∀ n x, Go.Lib.popAux n x ≤ n
  | 0, _ => Nat.le_refl _
  | n + 1, x => by have := popAux_le n (x / 2); simp only [Go.Lib.popAux]; omega
theorem popAux_add : ∀ a b x, Go.Lib.popAux (a + b) x = Go.Lib.popAux a x + Go.Lib.popAux b (x / 2 ^ a)
  | 0, b, x => by simp [Go.Lib.popAux]
  | a + 1, b, x => by
    rw [show a + 1 + b = (a + b) + 1 by omega, Go.Lib.popAux, Go.Lib.popAux, popAux_add a b (x / 2), Nat.div_div_eq_div_mul, Nat.pow_succ, Nat.mul_comm 2]
    omega
theorem popAux_mod : ∀ a x, Go.Lib.popAux a (x % 2 ^ a) = Go.Lib.popAux a x
  | 0, x => rfl
  | a + 1, x => by
    rw [Go.Lib.popAux, Go.Lib.popAux, ← popAux_mod a (x / 2)]
    have h1 : x % 2 ^ (a + 1) % 2 = x % 2 := by rw [Nat.pow_succ]; exact Nat.mod_mul_left_mod _ _ _
    have h2 : x % 2 ^ (a + 1) / 2 = x / 2 % 2 ^ a := by rw [Nat.pow_succ, Nat.mul_comm, Nat.mod_mul_right_div_self]
    rw [h1, h2]
/-- THE THREE STEPS -/
def s1 (x : Nat) : Nat := (x / 2 &&& 6148914691236517205) + (x &&& 6148914691236517205)
def s2 (x : Nat) : Nat := (x / 4 &&& 3689348814741910323) + (x &&& 3689348814741910323)
def s3 (x : Nat) : Nat := (x / 16 + x) &&& 1085102592571150095
theorem s1_eq (x : Nat) : s1 x = mp b1 8 x := by
  unfold s1
  rw [← m85, and_mask 85 (by omega) 8 x, show x / 2 = x / 2 ^ 1 from rfl, shr_mask 1 85 (by omega) (by decide) 8 x, mp_add]
  rfl
theorem s2_eq (x : Nat) : s2 (s1 x) = mp b12 8 x := by
  unfold s2
  rw [← m51, and_mask 51 (by omega) 8 (s1 x), show s1 x / 4 = s1 x / 2 ^ 2 from rfl, shr_mask 2 51 (by omega) (by decide) 8 (s1 x), mp_add, s1_eq, mp_comp (fun d hd => b1_lt ⟨d, hd⟩)]
  rfl
theorem s3_eq (x : Nat) : s3 (s2 (s1 x)) = mp (Go.Lib.popAux 8) 8 x := by
  unfold s3
  rw [s2_eq, ← m15, nib (fun d hd => ⟨(b12_ok ⟨d, hd⟩).2.1, (b12_ok ⟨d, hd⟩).2.2.1⟩)]
  exact mp_congr (fun d hd => (b12_ok ⟨d, hd⟩).2.2.2) 8 x
theorem st1 (y y1 a : Nat) (h0 : y = a + 256 * y1) (ha : a ≤ 8) : y / 256 = y1 := by omega
theorem st2 (y y1 y2 y3 a b c : Nat) (h0 : y = a + 256 * y1) (h1 : y1 = b + 256 * y2) (h2 : y2 = c + 256 * y3) (ha : a ≤ 8) (hb : b ≤ 8) (hc : c ≤ 8) : (y + y1) / 65536 = y2 + y3 := by
  have e1 : y + y1 = (a + b + 256 * (b + c)) + 65536 * (y2 + y3) := by omega
  rw [e1, Nat.add_mul_div_left _ _ (by decide), Nat.div_eq_of_lt (by omega), Nat.zero_add]
theorem st3 (y y1 y2 y3 y4 y5 y6 h a b c d e f g : Nat) (h0 : y = a + 256 * y1) (h1 : y1 = b + 256 * y2) (h2 : y2 = c + 256 * y3) (h3 : y3 = d + 256 * y4) (h4 : y4 = e + 256 * y5) (h5 : y5 = f + 256 * y6) (h6 : y6 = g + 256 * h)
    (ha : a ≤ 8) (hb : b ≤ 8) (hc : c ≤ 8) (hd : d ≤ 8) (he : e ≤ 8) (hf : f ≤ 8) (hg : g ≤ 8) : ((y + y1) + (y2 + y3)) / 4294967296 = y4 + y5 + (y6 + h) := by
  have e1 : (y + y1) + (y2 + y3) = ((a + b + c + d) + 256 * (b + c + d + e) + 65536 * (c + d + e + f) + 16777216 * (d + e + f + g)) + 4294967296 * (y4 + y5 + (y6 + h)) := by omega
  rw [e1, Nat.add_mul_div_left _ _ (by decide), Nat.div_eq_of_lt (by omega), Nat.zero_add]
theorem le256 {a y m n x : Nat} (hx : x = a + 256 * y) (ha : a ≤ 8) (hy : y ≤ m) (h : 8 + 256 * m ≤ n) : x ≤ n := by omega
theorem fin8 (y y1 y2 y3 y4 y5 y6 h a b c d e f g : Nat) (h0 : y = a + 256 * y1) (h1 : y1 = b + 256 * y2) (h2 : y2 = c + 256 * y3) (h3 : y3 = d + 256 * y4) (h4 : y4 = e + 256 * y5) (h5 : y5 = f + 256 * y6) (h6 : y6 = g + 256 * h) (b0 : y ≤ 578721382704613384)
    (ha : a ≤ 8) (hb : b ≤ 8) (hc : c ≤ 8) (hd : d ≤ 8) (he : e ≤ 8) (hf : f ≤ 8) (hg : g ≤ 8) (hh : h ≤ 8) :
    y + y1 < 18446744073709551616 ∧ (y + y1) + (y2 + y3) < 18446744073709551616 ∧ ((y + y1) + (y2 + y3)) + (y4 + y5 + (y6 + h)) < 18446744073709551616 ∧ (((y + y1) + (y2 + y3)) + (y4 + y5 + (y6 + h))) % 128 = a + b + c + d + e + f + g + h := by
  have l1 : y1 ≤ y := by omega
  have l2 : y2 ≤ y1 := by omega
  have l3 : y3 ≤ y2 := by omega
  have l4 : y4 ≤ y3 := by omega
  have l5 : y5 ≤ y4 := by omega
  have l6 : y6 ≤ y5 := by omega
  have l7 : h ≤ y6 := by omega
  have e1 : y + y1 + (y2 + y3) + (y4 + y5 + (y6 + h)) = (a + b + c + d + e + f + g + h) + 128 * (2 * (y1 + y2 + y3 + y4 + y5 + y6 + h)) := by omega
  clear h0 h1 h2 h3 h4 h5 h6
  refine ⟨by omega, by omega, by omega, ?_⟩
  rw [e1, Nat.add_mul_mod_self_left, Nat.mod_eq_of_lt (by omega)]
theorem sum8 (y y1 y2 y3 y4 y5 y6 h a b c d e f g : Nat) (h0 : y = a + 256 * y1) (h1 : y1 = b + 256 * y2) (h2 : y2 = c + 256 * y3) (h3 : y3 = d + 256 * y4) (h4 : y4 = e + 256 * y5) (h5 : y5 = f + 256 * y6) (h6 : y6 = g + 256 * h)
    (ha : a ≤ 8) (hb : b ≤ 8) (hc : c ≤ 8) (hd : d ≤ 8) (he : e ≤ 8) (hf : f ≤ 8) (hg : g ≤ 8) (hh : h ≤ 8) :
    y + y / 256 < 18446744073709551616 ∧ (y + y / 256) + (y + y / 256) / 65536 < 18446744073709551616 ∧ ((y + y / 256) + (y + y / 256) / 65536) + ((y + y / 256) + (y + y / 256) / 65536) / 4294967296 < 18446744073709551616 ∧
      (((y + y / 256) + (y + y / 256) / 65536) + ((y + y / 256) + (y + y / 256) / 65536) / 4294967296) % 128 = a + b + c + d + e + f + g + h := by
  have b6 := le256 h6 hg hh (show 8 + 256 * 8 ≤ 2056 by omega)
  have b5 := le256 h5 hf b6 (show 8 + 256 * 2056 ≤ 526344 by omega)
  have b4 := le256 h4 he b5 (show 8 + 256 * 526344 ≤ 134744072 by omega)
  have b3 := le256 h3 hd b4 (show 8 + 256 * 134744072 ≤ 34494482440 by omega)
  have b2 := le256 h2 hc b3 (show 8 + 256 * 34494482440 ≤ 8830587504648 by omega)
  have b1 := le256 h1 hb b2 (show 8 + 256 * 8830587504648 ≤ 2260630401189896 by omega)
  have b0 := le256 h0 ha b1 (show 8 + 256 * 2260630401189896 ≤ 578721382704613384 by omega)
  rw [st1 y y1 a h0 ha, st2 y y1 y2 y3 a b c h0 h1 h2 ha hb hc, st3 y y1 y2 y3 y4 y5 y6 h a b c d e f g h0 h1 h2 h3 h4 h5 h6 ha hb hc hd he hf hg]
  exact fin8 y y1 y2 y3 y4 y5 y6 h a b c d e f g h0 h1 h2 h3 h4 h5 h6 b0 ha hb hc hd he hf hg hh
theorem sum8n (y a b c d e f g h : Nat) (hy : y = a + 256 * (b + 256 * (c + 256 * (d + 256 * (e + 256 * (f + 256 * (g + 256 * h))))))) (ha : a ≤ 8) (hb : b ≤ 8) (hc : c ≤ 8) (hd : d ≤ 8) (he : e ≤ 8) (hf : f ≤ 8) (hg : g ≤ 8) (hh : h ≤ 8) :
    y + y / 256 < 18446744073709551616 ∧ (y + y / 256) + (y + y / 256) / 65536 < 18446744073709551616 ∧ ((y + y / 256) + (y + y / 256) / 65536) + ((y + y / 256) + (y + y / 256) / 65536) / 4294967296 < 18446744073709551616 ∧
      (((y + y / 256) + (y + y / 256) / 65536) + ((y + y / 256) + (y + y / 256) / 65536) / 4294967296) % 128 = a + b + c + d + e + f + g + h :=
  sum8 y (b + 256 * (c + 256 * (d + 256 * (e + 256 * (f + 256 * (g + 256 * h)))))) (c + 256 * (d + 256 * (e + 256 * (f + 256 * (g + 256 * h))))) (d + 256 * (e + 256 * (f + 256 * (g + 256 * h)))) (e + 256 * (f + 256 * (g + 256 * h))) (f + 256 * (g + 256 * h)) (g + 256 * h) h a b c d e f g hy rfl rfl rfl rfl rfl rfl ha hb hc hd he hf hg hh
theorem pop64 (x : Nat) (hx : x < 18446744073709551616) : ∃ y, s3 (s2 (s1 x)) = y ∧ y + y / 256 < 18446744073709551616 ∧ (y + y / 256) + (y + y / 256) / 65536 < 18446744073709551616 ∧ ((y + y / 256) + (y + y / 256) / 65536) + ((y + y / 256) + (y + y / 256) / 65536) / 4294967296 < 18446744073709551616 ∧
      (((y + y / 256) + (y + y / 256) / 65536) + ((y + y / 256) + (y + y / 256) / 65536) / 4294967296) % 128 = Go.Lib.onesCount x := by
  refine ⟨_, rfl, ?_⟩
  have e := s3_eq x
  simp only [mp, Nat.mul_zero, Nat.add_zero] at e
  have P : ∀ z, Go.Lib.popAux 8 (z % 256) = Go.Lib.popAux 8 z := fun z => popAux_mod 8 z
  simp only [P, Nat.div_div_eq_div_mul] at e
  have h := sum8n _ _ _ _ _ _ _ _ _ e (popAux_le 8 _) (popAux_le 8 _) (popAux_le 8 _) (popAux_le 8 _) (popAux_le 8 _) (popAux_le 8 _) (popAux_le 8 _) (popAux_le 8 _)
  refine ⟨h.1, h.2.1, h.2.2.1, h.2.2.2.trans ?_⟩
  rw [Go.Lib.onesCount, show 64 = 8 + (8 + (8 + (8 + (8 + (8 + (8 + 8)))))) from rfl]
  simp only [popAux_add, Nat.div_div_eq_div_mul]
  simp only [Nat.reducePow, Nat.reduceMul]
  clear e h P hx
  omega
end Pop
