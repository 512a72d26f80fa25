/- plain: numbers in bytes; instructions and programs; the one pass over them; the ways -/
namespace Nm

/-- the number that bytes make -/
def val : List Nat → Nat
  | [] => 0
  | x :: r => x % 128 + 128 * val r
/-- from index i on, f bytes at most: how many bytes it has, the error (1 short, 2 varint) -/
def num : Nat → Nat → List Nat → Nat × Nat
  | 0, _, _ => (0, 1)
  | f + 1, i, bs =>
    match bs[i]? with
    | none => (0, 1)
    | some x => if i = 9 ∧ 1 < x then (0, 2) else if 128 ≤ x then num f (i + 1) bs else if x = 0 ∧ 0 < i then (0, 2) else (i + 1, 0)

theorem val_app (xs : List Nat) (x : Nat) : val (xs ++ [x]) = val xs + x % 128 * 128 ^ xs.length := by
  induction xs with
  | nil => simp [val]
  | cons y r ih =>
    simp only [List.cons_append, val, ih, List.length_cons, Nat.pow_succ]
    rw [Nat.mul_add, Nat.add_assoc]
    congr 2
    rw [Nat.mul_comm 128, Nat.mul_assoc]
theorem val_lt (xs : List Nat) : val xs < 128 ^ xs.length := by
  induction xs with
  | nil => simp [val]
  | cons y r ih =>
    simp only [val, List.length_cons, Nat.pow_succ]
    have := Nat.mod_lt y (show 0 < 128 by decide)
    have : val r + 1 ≤ 128 ^ r.length := ih
    omega
theorem val_take {bs : List Nat} {i x : Nat} (h : bs[i]? = some x) : val (bs.take (i + 1)) = val (bs.take i) + x % 128 * 128 ^ i := by
  obtain ⟨hl, _⟩ := List.getElem?_eq_some_iff.1 h
  rw [List.take_add_one, h, Option.toList_some, val_app, List.length_take, Nat.min_eq_left (by omega)]
theorem val_take_lt (bs : List Nat) (i : Nat) : val (bs.take i) < 128 ^ i := by
  refine Nat.lt_of_lt_of_le (val_lt _) (Nat.pow_le_pow_right (by decide) ?_)
  rw [List.length_take]
  omega
theorem num_take {f i : Nat} (bs : List Nat) (h : i + f ≤ 10) : num f i (bs.take 10) = num f i bs := by
  induction f generalizing i with
  | zero => rfl
  | succ f ih =>
    rw [num, num, List.getElem?_take, if_pos (by omega)]
    cases hb : bs[i]? with
    | none => rfl
    | some x => simp only [ih (i := i + 1) (by omega)]
/-- what a good answer tells -/
theorem num_ok {f i n : Nat} {bs : List Nat} (hf : i + f ≤ 10) (h : num f i bs = (n, 0)) : i < n ∧ n ≤ 10 ∧ n ≤ bs.length ∧ ∃ x, bs[n - 1]? = some x ∧ x < 128 ∧ (n = 10 → x ≤ 1) ∧ (1 < n → 0 < x) := by
  induction f generalizing i with
  | zero => simp [num] at h
  | succ f ih =>
    rw [num] at h
    cases hb : bs[i]? with
    | none => rw [hb] at h; simp at h
    | some x =>
      obtain ⟨hl, _⟩ := List.getElem?_eq_some_iff.1 hb
      rw [hb] at h
      simp only at h
      split at h
      · simp at h
      · split at h
        · have := ih (by omega) h
          exact ⟨by omega, this.2⟩
        · split at h
          · simp at h
          · simp only [Prod.mk.injEq, and_true] at h
            subst h
            refine ⟨by omega, by omega, by omega, x, by simpa using hb, by omega, by omega, by omega⟩
theorem num_err {f i : Nat} (bs : List Nat) : (num f i bs).2 = 0 ∨ num f i bs = (0, 1) ∨ num f i bs = (0, 2) := by
  induction f generalizing i with
  | zero => exact .inr (.inl rfl)
  | succ f ih =>
    rw [num]
    cases bs[i]? with
    | none => exact .inr (.inl rfl)
    | some x =>
      simp only
      split
      · exact .inr (.inr rfl)
      · split
        · exact ih
        · split
          · exact .inr (.inr rfl)
          · exact .inl rfl
theorem val_ok {n : Nat} {bs : List Nat} (h : num 10 0 bs = (n, 0)) : val (bs.take n) < 18446744073709551616 := by
  obtain ⟨h1, h2, h3, x, hx, hx128, hx10, _⟩ := num_ok (by omega) h
  obtain ⟨m, rfl⟩ : ∃ m, n = m + 1 := ⟨n - 1, by omega⟩
  simp only [Nat.add_sub_cancel] at hx
  rw [val_take hx]
  have hv := val_take_lt bs m
  by_cases hm : m = 9
  · subst hm
    have := hx10 rfl
    have : x % 128 = x := by omega
    rw [this]
    have e : (128 : Nat) ^ 9 = 9223372036854775808 := by decide
    rw [e] at *
    have : x * 9223372036854775808 ≤ 1 * 9223372036854775808 := Nat.mul_le_mul_right _ (by omega)
    omega
  · have hp : 128 ^ (m + 1) ≤ 128 ^ 9 := Nat.pow_le_pow_right (by decide) (by omega)
    have e : (128 : Nat) ^ 9 = 9223372036854775808 := by decide
    have hs : 128 ^ (m + 1) = 128 ^ m * 128 := Nat.pow_succ ..
    have hx2 : x % 128 * 128 ^ m ≤ 127 * 128 ^ m := Nat.mul_le_mul_right _ (by omega)
    rw [e] at hp
    omega
theorem val_drop_le (l : List Nat) (j : Nat) : val (l.drop j) ≤ val l := by
  induction l generalizing j with
  | nil => simp
  | cons x r ih =>
    cases j with
    | zero => simp
    | succ j =>
      have := ih j
      rw [List.drop_succ_cons, val]
      omega
theorem val_drop {l : List Nat} {j x : Nat} (h : l[j]? = some x) : val (l.drop j) = x % 128 + 128 * val (l.drop (j + 1)) := by
  rw [List.drop_eq_getElem?_toList_append, h]
  rfl
end Nm
namespace Uv
/-- seven bits a byte, the lowest first; at most f + 1 bytes -/
def uvf : Nat → Nat → List Nat
  | 0, x => [x]
  | f + 1, x => if x < 128 then [x] else (x % 128 + 128) :: uvf f (x / 128)
def uv (x : Nat) : List Nat := uvf 9 x
theorem uvf_small (f x : Nat) (h : x < 128) : uvf f x = [x] := by
  cases f with
  | zero => rfl
  | succ f => rw [uvf, if_pos h]
theorem uvf_great (f x : Nat) (h : 128 ≤ x) : uvf (f + 1) x = (x % 128 + 128) :: uvf f (x / 128) := by rw [uvf, if_neg (by omega)]
theorem uvf_lt : ∀ (f x : Nat), x < 128 ^ (f + 1) → ∀ y ∈ uvf f x, y < 256
  | 0, x, h, y, hy => by
    simp [uvf] at hy
    subst hy
    simp at h
    omega
  | f + 1, x, h, y, hy => by
    by_cases hx : x < 128
    · rw [uvf_small _ _ hx] at hy; simp at hy; omega
    · rw [uvf_great _ _ (by omega)] at hy
      rcases List.mem_cons.1 hy with rfl | hy
      · omega
      · refine uvf_lt f (x / 128) ?_ y hy
        rw [Nat.div_lt_iff_lt_mul (by omega)]
        rw [Nat.pow_succ] at h
        exact h
theorem uv_lt (x : Nat) (h : x < 18446744073709551616) : ∀ y ∈ uv x, y < 256 := uvf_lt 9 x (by omega)
theorem uvf_len : ∀ (f x : Nat), (uvf f x).length ≤ f + 1 ∧ 1 ≤ (uvf f x).length
  | 0, x => by simp [uvf]
  | f + 1, x => by
    have := uvf_len f (x / 128)
    rw [uvf]
    split <;> simp <;> omega
theorem uv_len (x : Nat) : (uv x).length ≤ 10 ∧ 1 ≤ (uv x).length := uvf_len 9 x
theorem or128 : ∀ y, y < 256 → y ||| 128 = y % 128 + 128 := by decide +kernel
/-- the four bytes of a word -/
def word (v : Nat) : List Nat := [v % 256, v / 256 % 256, v / 65536 % 256, v / 16777216 % 256]
/-- the numbers of 64 bits are below this -/
def u64 : Nat := 18446744073709551616
theorem u64_eq : u64 = 18446744073709551616 := rfl
theorem half_u64 {x : Nat} (k : Nat) (h : x < u64) : x / k < u64 := Nat.lt_of_le_of_lt (Nat.div_le_self _ _) h
theorem start_u64 {x : Nat} (h : x < u64) : x < 128 ^ (9 + 1) := by rw [u64_eq] at h; omega
end Uv
namespace Vf
/-- an instruction: operation, A, B -/
abbrev Ins := Nat × Nat × Nat
/-- the height behind an instruction -/
def eff (x : Ins) (h : Nat) : Option Nat :=
  if x.1 = 0 then (if h = 1 then some h else none)
  else if x.1 ≤ 5 then some (h + 1)
  else if x.1 ≤ 10 then (if 2 ≤ h then some (h - 1) else none)
  else if x.1 = 14 then (if x.2.1 ≤ h then some (h - x.2.1 + 1) else none)
  else (if 1 ≤ h then some h else none)
/-- what is asked of the operands, by the tables' sizes -/
def opnd (T : Nat × Nat × Nat) (x : Ins) : Bool :=
  if x.1 = 3 then decide (x.2.1 < T.1) else if x.1 = 4 then decide (x.2.1 < T.2.1) else if x.1 = 5 then decide (x.2.1 < T.2.2)
  else if x.1 = 14 then decide (1 ≤ x.2.1 ∧ 1 ≤ x.2.2 ∧ x.2.2 ≤ x.2.1) else true
abbrev At := List (Option Nat)
/-- instruction i goes well, by the heights at -/
def Loc (T : Nat × Nat × Nat) (c : List Ins) (at_ : At) (i : Nat) : Prop :=
  ∃ x h h', c[i]? = some x ∧ at_[i]? = some (some h) ∧ opnd T x = true ∧ eff x h = some h' ∧ (x.1 = 0 ↔ i + 1 = c.length) ∧
    (i + 1 < c.length → at_[i + 1]? = some (some h')) ∧ (x.1 = 15 ∨ x.1 = 16 → i + 1 + x.2.1 < c.length ∧ at_[i + 1 + x.2.1]? = some (some h'))
def Good (T : Nat × Nat × Nat) (c : List Ins) (H : List Nat) : Prop :=
  H.length = c.length ∧ 0 < c.length ∧ H[0]? = some 0 ∧ ∀ i, i < c.length → Loc T c (H.map some) i
theorem some_get {H : List Nat} {k h : Nat} : (H.map some)[k]? = some (some h) ↔ H[k]? = some h := by
  simp [List.getElem?_map]
theorem loc_parts {T : Nat × Nat × Nat} {c : List Ins} {at_ : At} {i : Nat} (h : Loc T c at_ i) {x : Ins} (hx : c[i]? = some x) {g : Nat} (hg : at_[i]? = some (some g)) :
    ∃ h', opnd T x = true ∧ eff x g = some h' ∧ (x.1 = 0 ↔ i + 1 = c.length) ∧ (i + 1 < c.length → at_[i + 1]? = some (some h')) ∧ (x.1 = 15 ∨ x.1 = 16 → i + 1 + x.2.1 < c.length ∧ at_[i + 1 + x.2.1]? = some (some h')) := by
  obtain ⟨x', h0, h', e1, e2, h3⟩ := h
  rw [hx] at e1
  rw [hg] at e2
  simp only [Option.some.injEq] at e1 e2
  subst e1 e2
  exact ⟨h', h3⟩
/-- the heights agree with those of every good list -/
def Agree (T : Nat × Nat × Nat) (c : List Ins) (at_ : At) : Prop := ∀ H : List Nat, Good T c H → ∀ k h : Nat, at_[k]? = some (some h) → H[k]? = some h
structure Inv (T : Nat × Nat × Nat) (c : List Ins) (at_ : At) (i : Nat) : Prop where
  len : at_.length = c.length
  lt : i < c.length
  now : ∃ h, at_[i]? = some (some h)
  zero : at_[0]? = some (some 0)
  done : ∀ j, j < i → Loc T c at_ j
  agree : Agree T c at_
def at0 (n : Nat) : At := some 0 :: List.replicate (n - 1) none
theorem at0_len {n : Nat} (h : 0 < n) : (at0 n).length = n := by simp [at0]; omega
theorem inv_start (T : Nat × Nat × Nat) (c : List Ins) (h : 0 < c.length) : Inv T c (at0 c.length) 0 := by
  refine ⟨at0_len h, h, ⟨0, rfl⟩, rfl, fun j hj => absurd hj (by omega), fun H hH k g hk => ?_⟩
  match k, hk with
  | 0, hk => simp [at0] at hk; subst hk; exact hH.2.2.1
  | k + 1, hk =>
    simp only [at0, List.getElem?_cons_succ, List.getElem?_replicate] at hk
    split at hk <;> simp at hk
theorem get_lt {α : Type} {l : List α} {k : Nat} {x : α} (h : l[k]? = some x) : k < l.length := (List.getElem?_eq_some_iff.1 h).1
theorem set_get {at_ : At} {k : Nat} {v : Option Nat} (j : Nat) : (at_.set k v)[j]? = if k = j then (if j < at_.length then some v else none) else at_[j]? := by
  rw [List.getElem?_set]
  split
  · rename_i e; rw [e]
  · rfl
/-- a height is laid where none lies yet, or the same one -/
def fits (at_ : At) (k h : Nat) : Prop := at_[k]? = some none ∨ at_[k]? = some (some h)
theorem set_keeps {at_ : At} {k h : Nat} (hf : fits at_ k h) {j g : Nat} (hj : at_[j]? = some (some g)) : (at_.set k (some h))[j]? = some (some g) := by
  rw [set_get]
  split
  · rename_i e
    subst e
    rcases hf with hf | hf
    · rw [hf] at hj; cases hj
    · rw [if_pos (get_lt hj)]
      rw [hf] at hj
      exact hj
  · exact hj
theorem set_now {at_ : At} {k h : Nat} (hf : fits at_ k h) : (at_.set k (some h))[k]? = some (some h) := by
  rw [set_get, if_pos rfl, if_pos]
  rcases hf with hf | hf <;> exact get_lt hf
theorem loc_keeps {T : Nat × Nat × Nat} {c : List Ins} {at_ : At} {k h i : Nat} (hf : fits at_ k h) (hl : Loc T c at_ i) : Loc T c (at_.set k (some h)) i := by
  obtain ⟨x, g, h', e1, e2, e3, e4, e5, e6, e7⟩ := hl
  exact ⟨x, g, h', e1, set_keeps hf e2, e3, e4, e5, fun hi => set_keeps hf (e6 hi), fun hx => ⟨(e7 hx).1, set_keeps hf (e7 hx).2⟩⟩
/-- what a good list says of instruction i -/
theorem good_at {T : Nat × Nat × Nat} {c : List Ins} {at_ : At} {i : Nat} (I : Inv T c at_ i) {x : Ins} (hx : c[i]? = some x) {g : Nat} (hg : at_[i]? = some (some g)) {H : List Nat} (hH : Good T c H) :
    ∃ h', opnd T x = true ∧ eff x g = some h' ∧ (x.1 = 0 ↔ i + 1 = c.length) ∧ (i + 1 < c.length → H[i + 1]? = some h') ∧ (x.1 = 15 ∨ x.1 = 16 → i + 1 + x.2.1 < c.length ∧ H[i + 1 + x.2.1]? = some h') := by
  obtain ⟨h', h1, h2, h3, h4, h5⟩ := loc_parts (hH.2.2.2 i I.lt) hx (some_get.2 (I.agree H hH i g hg))
  exact ⟨h', h1, h2, h3, fun hi => some_get.1 (h4 hi), fun hx => ⟨(h5 hx).1, some_get.1 (h5 hx).2⟩⟩
theorem bad_op {T : Nat × Nat × Nat} {c : List Ins} {at_ : At} {i : Nat} (I : Inv T c at_ i) {x : Ins} (hx : c[i]? = some x) {g : Nat} (hg : at_[i]? = some (some g))
    (hb : opnd T x = false ∨ eff x g = none ∨ ¬ (x.1 = 0 ↔ i + 1 = c.length)) : ¬ ∃ H, Good T c H := by
  rintro ⟨H, hH⟩
  obtain ⟨h', h1, h2, h3, _⟩ := good_at I hx hg hH
  rcases hb with hb | hb | hb
  · rw [hb] at h1; cases h1
  · rw [hb] at h2; cases h2
  · exact hb h3
theorem bad_next {T : Nat × Nat × Nat} {c : List Ins} {at_ : At} {i : Nat} (I : Inv T c at_ i) {x : Ins} (hx : c[i]? = some x) {g h' : Nat} (hg : at_[i]? = some (some g)) (he : eff x g = some h') (hi : i + 1 < c.length) (hf : ¬ fits at_ (i + 1) h') : ¬ ∃ H, Good T c H := by
  rintro ⟨H, hH⟩
  obtain ⟨h2, _, e2, _, h4, _⟩ := good_at I hx hg hH
  rw [he] at e2
  obtain rfl := Option.some.inj e2
  apply hf
  have hl : i + 1 < at_.length := by rw [I.len]; exact hi
  obtain ⟨o, ho⟩ : ∃ o, at_[i + 1]? = some o := ⟨_, List.getElem?_eq_getElem hl⟩
  cases o with
  | none => exact .inl ho
  | some q =>
    have := I.agree H hH _ _ ho
    rw [h4 hi] at this
    obtain rfl := Option.some.inj this
    exact .inr ho
/-- the next one is laid -/
theorem lay_next {T : Nat × Nat × Nat} {c : List Ins} {at_ : At} {i : Nat} (I : Inv T c at_ i) {x : Ins} (hx : c[i]? = some x) {g h' : Nat} (hg : at_[i]? = some (some g)) (he : eff x g = some h') (hi : i + 1 < c.length) (hf : fits at_ (i + 1) h') :
    Inv T c (at_.set (i + 1) (some h')) i := by
  refine ⟨by rw [List.length_set]; exact I.len, I.lt, ⟨g, set_keeps hf hg⟩, set_keeps hf I.zero, fun j hj => loc_keeps hf (I.done j hj), fun H hH k q hk => ?_⟩
  rw [set_get] at hk
  split at hk
  · rename_i e
    subst e
    split at hk
    · simp only [Option.some.injEq] at hk
      subst hk
      obtain ⟨h2, _, e2, _, h4, _⟩ := good_at I hx hg hH
      rw [he] at e2
      obtain rfl := Option.some.inj e2
      exact h4 hi
    · cases hk
  · exact I.agree H hH k q hk
theorem bad_far {T : Nat × Nat × Nat} {c : List Ins} {at_ : At} {i : Nat} (I : Inv T c at_ i) {x : Ins} (hx : c[i]? = some x) {g : Nat} (hg : at_[i]? = some (some g)) (hj : x.1 = 15 ∨ x.1 = 16) (hi : ¬ i + 1 + x.2.1 < c.length) : ¬ ∃ H, Good T c H := by
  rintro ⟨H, hH⟩
  obtain ⟨h2, _, e2, _, _, h5⟩ := good_at I hx hg hH
  exact hi (h5 hj).1
theorem bad_jump {T : Nat × Nat × Nat} {c : List Ins} {at_ : At} {i : Nat} (I : Inv T c at_ i) {x : Ins} (hx : c[i]? = some x) {g h' : Nat} (hg : at_[i]? = some (some g)) (he : eff x g = some h') (hj : x.1 = 15 ∨ x.1 = 16) (hi : i + 1 + x.2.1 < c.length) (hf : ¬ fits at_ (i + 1 + x.2.1) h') : ¬ ∃ H, Good T c H := by
  rintro ⟨H, hH⟩
  obtain ⟨h2, _, e2, _, _, h5⟩ := good_at I hx hg hH
  rw [he] at e2
  obtain rfl := Option.some.inj e2
  apply hf
  have hl : i + 1 + x.2.1 < at_.length := by rw [I.len]; exact hi
  obtain ⟨o, ho⟩ : ∃ o, at_[i + 1 + x.2.1]? = some o := ⟨_, List.getElem?_eq_getElem hl⟩
  cases o with
  | none => exact .inl ho
  | some q =>
    have := I.agree H hH _ _ ho
    rw [(h5 hj).2] at this
    obtain rfl := Option.some.inj this
    exact .inr ho
theorem lay_jump {T : Nat × Nat × Nat} {c : List Ins} {at_ : At} {i : Nat} (I : Inv T c at_ i) {x : Ins} (hx : c[i]? = some x) {g h' : Nat} (hg : at_[i]? = some (some g)) (he : eff x g = some h') (hj : x.1 = 15 ∨ x.1 = 16) (_hi : i + 1 + x.2.1 < c.length) (hf : fits at_ (i + 1 + x.2.1) h') :
    Inv T c (at_.set (i + 1 + x.2.1) (some h')) i := by
  refine ⟨by rw [List.length_set]; exact I.len, I.lt, ⟨g, set_keeps hf hg⟩, set_keeps hf I.zero, fun j hj => loc_keeps hf (I.done j hj), fun H hH k q hk => ?_⟩
  rw [set_get] at hk
  split at hk
  · rename_i e
    subst e
    split at hk
    · simp only [Option.some.injEq] at hk
      subst hk
      obtain ⟨h2, _, e2, _, _, h5⟩ := good_at I hx hg hH
      rw [he] at e2
      obtain rfl := Option.some.inj e2
      exact (h5 hj).2
    · cases hk
  · exact I.agree H hH k q hk
/-- on to the next instruction -/
theorem go_next {T : Nat × Nat × Nat} {c : List Ins} {at_ : At} {i : Nat} (I : Inv T c at_ i) {x : Ins} (hx : c[i]? = some x) {g h' : Nat} (hg : at_[i]? = some (some g)) (he : eff x g = some h') (ho : opnd T x = true) (h0 : x.1 ≠ 0) (hi : i + 1 < c.length)
    (hn : at_[i + 1]? = some (some h')) (hj : x.1 = 15 ∨ x.1 = 16 → i + 1 + x.2.1 < c.length ∧ at_[i + 1 + x.2.1]? = some (some h')) : Inv T c at_ (i + 1) := by
  refine ⟨I.len, hi, ⟨h', hn⟩, I.zero, fun j hjl => ?_, I.agree⟩
  by_cases e : j = i
  · subst e
    exact ⟨x, g, h', hx, hg, ho, he, ⟨fun h => absurd h h0, fun h => by omega⟩, fun _ => hn, hj⟩
  · exact I.done j (by omega)
/-- the last one -/
theorem go_end {T : Nat × Nat × Nat} {c : List Ins} {at_ : At} {i : Nat} (I : Inv T c at_ i) {x : Ins} (hx : c[i]? = some x) {g h' : Nat} (hg : at_[i]? = some (some g)) (he : eff x g = some h') (ho : opnd T x = true) (h0 : x.1 = 0) (hi : i + 1 = c.length) :
    ∃ H, at_ = H.map some ∧ Good T c H := by
  have hall : ∀ j, j < c.length → ∃ h, at_[j]? = some (some h) := fun j hj => by
    by_cases e : j = i
    · subst e; exact ⟨g, hg⟩
    · obtain ⟨_, h, _, _, h2, _⟩ := I.done j (by omega)
      exact ⟨h, h2⟩
  refine ⟨at_.map (·.getD 0), ?_, ?_⟩
  · apply List.ext_getElem?
    intro j
    by_cases hj : j < c.length
    · obtain ⟨h, hh⟩ := hall j hj
      simp [hh]
    · rw [List.getElem?_eq_none (by rw [I.len]; omega), List.getElem?_eq_none (by simp; rw [I.len]; omega)]
  · have hm : (at_.map (·.getD 0)).map some = at_ := by
      apply List.ext_getElem?
      intro j
      by_cases hj : j < c.length
      · obtain ⟨h, hh⟩ := hall j hj
        simp [hh]
      · rw [List.getElem?_eq_none (by simp; rw [I.len]; omega), List.getElem?_eq_none (by rw [I.len]; omega)]
    refine ⟨by simp [I.len], by omega, ?_, fun j hj => ?_⟩
    · simp [I.zero]
    · rw [hm]
      by_cases e : j = i
      · subst e
        exact ⟨x, g, h', hx, hg, ho, he, ⟨fun _ => hi, fun _ => h0⟩, fun h => absurd h (by omega), fun h => by omega⟩
      · exact I.done j (by omega)
theorem good_unique {T : Nat × Nat × Nat} {c : List Ins} {H K : List Nat} (h : Good T c H) (k : Good T c K) : H = K := by
  have hall : ∀ i, i < c.length → H[i]? = K[i]? := by
    intro i
    induction i with
    | zero => intro _; rw [h.2.2.1, k.2.2.1]
    | succ i ih =>
      intro hi
      obtain ⟨x, g, h', e1, e2, _, e4, _, e6, _⟩ := h.2.2.2 i (by omega)
      have hk := ih (by omega)
      rw [some_get.1 e2] at hk
      obtain ⟨k', _, e4', _, e6', _⟩ := loc_parts (k.2.2.2 i (by omega)) e1 (some_get.2 hk.symm)
      rw [e4] at e4'
      obtain rfl := Option.some.inj e4'
      rw [some_get.1 (e6 hi), some_get.1 (e6' hi)]
  apply List.ext_getElem?
  intro i
  by_cases hi : i < c.length
  · exact hall i hi
  · rw [List.getElem?_eq_none (by rw [h.1]; omega), List.getElem?_eq_none (by rw [k.1]; omega)]
/-- the greatest height -/
def mx (H : List Nat) : Nat := H.foldl max 0
theorem foldl_max : ∀ (l : List Nat) (m : Nat), l.foldl max m = max m (l.foldl max 0)
  | [], m => by simp
  | x :: r, m => by
    rw [List.foldl_cons, List.foldl_cons, foldl_max r (max m x), foldl_max r (max 0 x)]
    omega
theorem mx_snoc (l : List Nat) (x : Nat) : mx (l ++ [x]) = max (mx l) x := by
  simp [mx, List.foldl_append]
theorem mx_le {l : List Nat} {x : Nat} (h : x ∈ l) : x ≤ mx l := by
  induction l with
  | nil => cases h
  | cons y r ih =>
    unfold mx
    rw [List.foldl_cons, foldl_max]
    rcases List.mem_cons.1 h with rfl | h
    · omega
    · have := ih h
      unfold mx at this
      omega
theorem mx_bound {l : List Nat} {b : Nat} (h : ∀ x ∈ l, x ≤ b) : mx l ≤ b := by
  induction l with
  | nil => simp [mx]
  | cons y r ih =>
    unfold mx
    rw [List.foldl_cons, foldl_max]
    have h1 := h y (by simp)
    have h2 := ih (fun x hx => h x (by simp [hx]))
    unfold mx at h2
    omega
/-- a good list's heights: at most the number of instructions ahead -/
theorem good_le {T : Nat × Nat × Nat} {c : List Ins} {H : List Nat} (h : Good T c H) : ∀ i g : Nat, H[i]? = some g → g ≤ i := by
  intro i
  induction i with
  | zero => intro g hg; rw [h.2.2.1] at hg; simp at hg; omega
  | succ i ih =>
    intro g hg
    have hl := get_lt hg
    rw [h.1] at hl
    obtain ⟨x, q, h', e1, e2, e3, e4, _, e6, _⟩ := h.2.2.2 i (by omega)
    have hq := ih q (some_get.1 e2)
    rw [some_get.1 (e6 hl)] at hg
    obtain rfl := Option.some.inj hg
    unfold eff at e4
    unfold opnd at e3
    split at e4
    · split at e4 <;> simp at e4; omega
    · split at e4
      · simp at e4; omega
      · split at e4
        · split at e4 <;> simp at e4; omega
        · split at e4
          · rename_i h14
            split at e4 <;> simp at e4
            rw [if_neg (by omega), if_neg (by omega), if_neg (by omega), if_pos h14] at e3
            simp at e3
            omega
          · split at e4 <;> simp at e4; omega
theorem good_last {T : Nat × Nat × Nat} {c : List Ins} {H : List Nat} (h : Good T c H) : H[c.length - 1]? = some 1 := by
  have h0 := h.2.1
  obtain ⟨x, q, h', e1, e2, e3, e4, e5, _⟩ := h.2.2.2 (c.length - 1) (by omega)
  have hx : x.1 = 0 := e5.2 (by omega)
  rw [some_get.1 e2]
  unfold eff at e4
  rw [if_pos hx] at e4
  split at e4
  · rename_i h1; rw [h1]
  · cases e4
theorem good_mx {T : Nat × Nat × Nat} {c : List Ins} {H : List Nat} (h : Good T c H) : mx H ≤ c.length := by
  refine mx_bound fun x hx => ?_
  obtain ⟨i, hi⟩ := List.mem_iff_getElem?.1 hx
  have := good_le h i x hi
  have := get_lt hi
  rw [h.1] at this
  omega
/-- bigger tables do as well -/
theorem good_more {T U : Nat × Nat × Nat} {c : List Ins} {H : List Nat} (h : Good T c H) (h1 : T.1 ≤ U.1) (h2 : T.2.1 ≤ U.2.1) (h3 : T.2.2 ≤ U.2.2) : Good U c H := by
  refine ⟨h.1, h.2.1, h.2.2.1, fun i hi => ?_⟩
  obtain ⟨x, q, h', e1, e2, e3, e4⟩ := h.2.2.2 i hi
  refine ⟨x, q, h', e1, e2, ?_, e4⟩
  unfold opnd at *
  split
  · rename_i k; rw [if_pos k] at e3; simp at *; omega
  · rename_i k; rw [if_neg k] at e3
    split
    · rename_i k; rw [if_pos k] at e3; simp at *; omega
    · rename_i k; rw [if_neg k] at e3
      split
      · rename_i k; rw [if_pos k] at e3; simp at *; omega
      · rename_i k; rw [if_neg k] at e3; exact e3
/-! the ways -/
/-- instruction i goes well, and those that it goes on with have been seen -/
def Dn (T : Nat × Nat × Nat) (c : List Ins) (hs : List Nat) (seen : List Bool) (i : Nat) : Prop :=
  ∃ x h h', c[i]? = some x ∧ hs[i]? = some h ∧ opnd T x = true ∧ eff x h = some h' ∧ (x.1 = 0 ↔ i + 1 = c.length) ∧
    (i + 1 < c.length → seen[i + 1]? = some true ∧ hs[i + 1]? = some h') ∧ (x.1 = 15 ∨ x.1 = 16 → i + 1 + x.2.1 < c.length ∧ seen[i + 1 + x.2.1]? = some true ∧ hs[i + 1 + x.2.1]? = some h')
structure Wv (T : Nat × Nat × Nat) (c : List Ins) (hs : List Nat) (seen : List Bool) (todo : List Nat) (p : Option Nat) : Prop where
  hlen : hs.length = c.length
  slen : seen.length = c.length
  zero : seen[0]? = some true ∧ hs[0]? = some 0
  todo_seen : ∀ i ∈ todo, seen[i]? = some true
  pend : ∀ i, p = some i → seen[i]? = some true
  done : ∀ i, seen[i]? = some true → i ∉ todo → p ≠ some i → Dn T c hs seen i
  agree : ∀ H : List Nat, Good T c H → ∀ i : Nat, seen[i]? = some true → H[i]? = hs[i]?
theorem wv_start (T : Nat × Nat × Nat) (c : List Ins) (h : 0 < c.length) : Wv T c (List.replicate c.length 0) ((List.replicate c.length false).set 0 true) [0] none := by
  have h0 : ((List.replicate c.length false).set 0 true)[0]? = some true := by simp [h]
  have only : ∀ i, ((List.replicate c.length false).set 0 true)[i]? = some true → i = 0 := by
    intro i hi
    rw [List.getElem?_set] at hi
    split at hi
    · rename_i e; exact e.symm
    · rw [List.getElem?_replicate] at hi
      split at hi <;> simp at hi
  refine ⟨by simp, by simp, ⟨h0, by simp [h]⟩, fun i hi => ?_, fun i hi => (by cases hi), fun i hi hn _ => ?_, fun H hH i hi => ?_⟩
  · simp at hi; subst hi; exact h0
  · exact absurd (by simp [only i hi]) hn
  · rw [only i hi, hH.2.2.1]; simp [h]
theorem wv_now {T : Nat × Nat × Nat} {c : List Ins} {hs : List Nat} {seen : List Bool} {todo : List Nat} {i : Nat} (W : Wv T c hs seen todo (some i)) {x : Ins} (hx : c[i]? = some x) {g : Nat} (hg : hs[i]? = some g) {H : List Nat} (hH : Good T c H) :
    ∃ h', opnd T x = true ∧ eff x g = some h' ∧ (x.1 = 0 ↔ i + 1 = c.length) ∧ (i + 1 < c.length → H[i + 1]? = some h') ∧ (x.1 = 15 ∨ x.1 = 16 → i + 1 + x.2.1 < c.length ∧ H[i + 1 + x.2.1]? = some h') := by
  have hi : H[i]? = some g := (W.agree H hH i (W.pend i rfl)).trans hg
  obtain ⟨h', h1, h2, h3, h4, h5⟩ := loc_parts (hH.2.2.2 i (get_lt hx)) hx (some_get.2 hi)
  exact ⟨h', h1, h2, h3, fun hi => some_get.1 (h4 hi), fun hx => ⟨(h5 hx).1, some_get.1 (h5 hx).2⟩⟩
/-- one is taken off the stack -/
theorem wv_pop {T : Nat × Nat × Nat} {c : List Ins} {hs : List Nat} {seen : List Bool} {todo : List Nat} {i : Nat} (W : Wv T c hs seen (todo ++ [i]) none) : Wv T c hs seen todo (some i) :=
  ⟨W.hlen, W.slen, W.zero, fun j hj => W.todo_seen j (by simp [hj]), fun j hj => by cases hj; exact W.todo_seen i (by simp),
    fun j hj hn hp => W.done j hj (fun hm => by
      rcases List.mem_append.1 hm with hm | hm
      · exact hn hm
      · simp at hm; exact hp (by rw [hm])) (by simp), W.agree⟩
theorem wv_bad {T : Nat × Nat × Nat} {c : List Ins} {hs : List Nat} {seen : List Bool} {todo : List Nat} {i : Nat} (W : Wv T c hs seen todo (some i)) {x : Ins} (hx : c[i]? = some x) {g : Nat} (hg : hs[i]? = some g)
    (hb : opnd T x = false ∨ eff x g = none ∨ ¬ (x.1 = 0 ↔ i + 1 = c.length) ∨ ((x.1 = 15 ∨ x.1 = 16) ∧ ¬ i + 1 + x.2.1 < c.length)) : ¬ ∃ H, Good T c H := by
  rintro ⟨H, hH⟩
  obtain ⟨h', h1, h2, h3, h4, h5⟩ := wv_now W hx hg hH
  rcases hb with hb | hb | hb | ⟨hb, hc⟩
  · rw [hb] at h1; cases h1
  · rw [hb] at h2; cases h2
  · exact hb h3
  · exact hc (h5 hb).1
/-- instruction t is come to -/
theorem wv_new {T : Nat × Nat × Nat} {c : List Ins} {hs : List Nat} {seen : List Bool} {todo : List Nat} {i : Nat} (W : Wv T c hs seen todo (some i)) (t h : Nat) (ht : seen[t]? = some false) (hH : ∀ H : List Nat, Good T c H → H[t]? = some h) :
    Wv T c (hs.set t h) (seen.set t true) (todo ++ [t]) (some i) := by
  have hts : t < seen.length := get_lt ht
  have hth : t < hs.length := by rw [W.hlen, ← W.slen]; exact hts
  have ks : ∀ {j : Nat}, seen[j]? = some true → (seen.set t true)[j]? = some true := by
    intro j hj
    rw [List.getElem?_set]
    split
    · rfl
    · exact hj
  have kh : ∀ {j : Nat}, seen[j]? = some true → (hs.set t h)[j]? = hs[j]? := by
    intro j hj
    rw [List.getElem?_set]
    split
    · rename_i e; subst e; rw [ht] at hj; cases hj
    · rfl
  refine ⟨by rw [List.length_set]; exact W.hlen, by rw [List.length_set]; exact W.slen, ⟨ks W.zero.1, (kh W.zero.1).trans W.zero.2⟩, fun j hj => ?_, fun j hj => ks (W.pend j hj), fun j hj hn hp => ?_, fun H hG j hj => ?_⟩
  · rcases List.mem_append.1 hj with hj | hj
    · exact ks (W.todo_seen j hj)
    · simp at hj; subst hj
      rw [List.getElem?_set, if_pos rfl, if_pos hts]
  · have hne : j ≠ t := fun e => hn (by simp [e])
    have hj' : seen[j]? = some true := by
      rw [List.getElem?_set, if_neg (fun e => hne e.symm)] at hj
      exact hj
    obtain ⟨x, g, h', e1, e2, e3, e4, e5, e6, e7⟩ := W.done j hj' (fun hm => hn (by simp [hm])) hp
    exact ⟨x, g, h', e1, (kh hj').trans e2, e3, e4, e5, fun hl => ⟨ks (e6 hl).1, (kh (e6 hl).1).trans (e6 hl).2⟩, fun hx => ⟨(e7 hx).1, ks (e7 hx).2.1, (kh (e7 hx).2.1).trans (e7 hx).2.2⟩⟩
  · by_cases e : j = t
    · subst e
      rw [hH H hG, List.getElem?_set, if_pos rfl, if_pos hth]
    · rw [List.getElem?_set, if_neg (fun h => e h.symm)] at hj ⊢
      exact W.agree H hG j hj
theorem wv_clash {T : Nat × Nat × Nat} {c : List Ins} {hs : List Nat} {seen : List Bool} {todo : List Nat} {p : Option Nat} (W : Wv T c hs seen todo p) (t h g : Nat) (ht : seen[t]? = some true) (hg : hs[t]? = some g) (hne : g ≠ h) (hH : ∀ H : List Nat, Good T c H → H[t]? = some h) : ¬ ∃ H, Good T c H := by
  rintro ⟨H, hG⟩
  have h1 := W.agree H hG t ht
  rw [hH H hG, hg] at h1
  exact hne (Option.some.inj h1).symm
theorem wv_done {T : Nat × Nat × Nat} {c : List Ins} {hs : List Nat} {seen : List Bool} {todo : List Nat} {i : Nat} (W : Wv T c hs seen todo (some i)) (hd : Dn T c hs seen i) : Wv T c hs seen todo none :=
  ⟨W.hlen, W.slen, W.zero, W.todo_seen, fun j hj => (by cases hj), fun j hj hn _ => by
    by_cases e : j = i
    · subst e; exact hd
    · exact W.done j hj hn (fun h => e (Option.some.inj h).symm), W.agree⟩
theorem wv_end {T : Nat × Nat × Nat} {c : List Ins} {hs : List Nat} {seen : List Bool} (W : Wv T c hs seen [] none) (h0 : 0 < c.length) : Good T c hs := by
  have hall : ∀ i, i < c.length → seen[i]? = some true := by
    intro i
    induction i with
    | zero => intro _; exact W.zero.1
    | succ i ih =>
      intro hi
      obtain ⟨x, g, h', _, _, _, _, _, e6, _⟩ := W.done i (ih (by omega)) (by simp) (by simp)
      exact (e6 hi).1
  refine ⟨W.hlen, h0, W.zero.2, fun i hi => ?_⟩
  obtain ⟨x, g, h', e1, e2, e3, e4, e5, e6, e7⟩ := W.done i (hall i hi) (by simp) (by simp)
  exact ⟨x, g, h', e1, some_get.2 e2, e3, e4, e5, fun hl => some_get.2 (e6 hl).2, fun hx => ⟨(e7 hx).1, some_get.2 (e7 hx).2.2⟩⟩
def unseen (seen : List Bool) : Nat := seen.count false
theorem unseen_set {seen : List Bool} {t : Nat} (ht : seen[t]? = some false) : unseen (seen.set t true) + 1 = unseen seen := by
  unfold unseen
  induction seen generalizing t with
  | nil => cases ht
  | cons b r ih =>
    cases t with
    | zero => simp at ht; subst ht; simp
    | succ t =>
      simp at ht
      have := ih ht
      cases b <;> simp <;> omega
end Vf
namespace Vf
/-! instructions out of bytes -/
def nargs (k : Nat) : Nat := [0, 0, 0, 1, 2, 2, 0, 0, 0, 0, 0, 0, 1, 1, 2, 1, 1].getD k 0
/-- the instruction whose first byte is op, out of what comes behind it; how many bytes that takes -/
def one (op : Nat) (t : List Nat) : Option (Ins × Nat) :=
  if 17 ≤ op then none
  else if nargs op = 0 then some ((op, 0, 0), 0)
  else if (Nm.num 10 0 t).2 ≠ 0 then none
  else if nargs op = 1 then some ((op, Nm.val (t.take (Nm.num 10 0 t).1), 0), (Nm.num 10 0 t).1)
  else if (Nm.num 10 0 (t.drop (Nm.num 10 0 t).1)).2 ≠ 0 then none
  else some ((op, Nm.val (t.take (Nm.num 10 0 t).1), Nm.val ((t.drop (Nm.num 10 0 t).1).take (Nm.num 10 0 (t.drop (Nm.num 10 0 t).1)).1)), (Nm.num 10 0 t).1 + (Nm.num 10 0 (t.drop (Nm.num 10 0 t).1)).1)
def decf : Nat → List Nat → Option (List Ins)
  | _, [] => some []
  | 0, _ :: _ => none
  | f + 1, op :: t =>
    match one op t with
    | none => none
    | some (x, k) =>
      match decf f (t.drop k) with
      | none => none
      | some l => some (x :: l)
def dc (bs : List Nat) : Option (List Ins) := decf bs.length bs
theorem decf_fuel : ∀ (f g : Nat) (bs : List Nat), bs.length ≤ f → bs.length ≤ g → decf f bs = decf g bs
  | f, g, [], _, _ => by cases f <;> cases g <;> rfl
  | 0, _, _ :: _, h, _ => by simp at h
  | _ + 1, 0, _ :: _, _, h => by simp at h
  | f + 1, g + 1, op :: t, h1, h2 => by
    rw [decf, decf]
    cases one op t with
    | none => rfl
    | some q =>
      obtain ⟨x, k⟩ := q
      simp only
      rw [decf_fuel f g (t.drop k) (by simp at *; omega) (by simp at *; omega)]
theorem dc_nil : dc [] = some [] := rfl
theorem dc_cons (op : Nat) (t : List Nat) : dc (op :: t) = match one op t with
    | none => none
    | some (x, k) => (dc (t.drop k)).map (x :: ·) := by
  rw [dc, List.length_cons, decf]
  cases one op t with
  | none => rfl
  | some q =>
    obtain ⟨x, k⟩ := q
    simp only
    rw [dc, decf_fuel t.length (t.drop k).length (t.drop k) (by simp) (Nat.le_refl _)]
    cases decf (t.drop k).length (t.drop k) <;> rfl
/-- from a place on, behind what has been read -/
def dcAt (bs : List Nat) (p : Nat) (acc : List Ins) : Option (List Ins) := (dc (bs.drop p)).map (acc ++ ·)
theorem dcAt_start (bs : List Nat) : dcAt bs 0 [] = dc bs := by
  rw [dcAt, List.drop_zero]
  cases dc bs <;> simp
theorem dcAt_end {bs : List Nat} {p : Nat} {acc : List Ins} (h : bs.length ≤ p) : dcAt bs p acc = some acc := by
  rw [dcAt, List.drop_eq_nil_of_le h, dc_nil]; simp
theorem drop_get {bs : List Nat} {p op : Nat} (h : bs[p]? = some op) : bs.drop p = op :: bs.drop (p + 1) := by
  rw [List.drop_eq_getElem?_toList_append, h]; rfl
theorem dcAt_bad {bs : List Nat} {p op : Nat} {acc : List Ins} (h : bs[p]? = some op) (ho : one op (bs.drop (p + 1)) = none) : dcAt bs p acc = none := by
  rw [dcAt, drop_get h, dc_cons, ho]; rfl
theorem dcAt_step {bs : List Nat} {p op k : Nat} {x : Ins} {acc : List Ins} (h : bs[p]? = some op) (ho : one op (bs.drop (p + 1)) = some (x, k)) : dcAt bs p acc = dcAt bs (p + 1 + k) (acc ++ [x]) := by
  rw [dcAt, drop_get h, dc_cons, ho, dcAt]
  simp only [List.drop_drop]
  cases dc (bs.drop (p + 1 + k)) <;> simp
theorem one_lt {op k : Nat} {t : List Nat} {x : Ins} (h : one op t = some (x, k)) : x.1 = op ∧ op < 17 ∧ x.2.1 < 18446744073709551616 ∧ x.2.2 < 18446744073709551616 ∧ k ≤ t.length := by
  unfold one at h
  split at h
  · cases h
  · split at h
    · simp only [Option.some.injEq, Prod.mk.injEq] at h
      obtain ⟨rfl, rfl⟩ := h
      refine ⟨rfl, by omega, by simp, by simp, by omega⟩
    · split at h
      · cases h
      · rename_i hn
        obtain ⟨n, hn1⟩ : ∃ n, Nm.num 10 0 t = (n, 0) := ⟨_, Prod.ext rfl (by omega)⟩
        have hv := Nm.val_ok hn1
        obtain ⟨_, _, hn2, _⟩ := Nm.num_ok (by omega) hn1
        rw [hn1] at h
        simp only at h
        split at h
        · simp only [Option.some.injEq, Prod.mk.injEq] at h
          obtain ⟨rfl, rfl⟩ := h
          exact ⟨rfl, by omega, hv, by simp, hn2⟩
        · split at h
          · cases h
          · rename_i hm
            obtain ⟨m, hm1⟩ : ∃ m, Nm.num 10 0 (t.drop n) = (m, 0) := ⟨_, Prod.ext rfl (by omega)⟩
            have hv2 := Nm.val_ok hm1
            obtain ⟨_, _, hm2, _⟩ := Nm.num_ok (by omega) hm1
            rw [hm1] at h
            simp only [Option.some.injEq, Prod.mk.injEq] at h
            obtain ⟨rfl, rfl⟩ := h
            rw [List.length_drop] at hm2
            exact ⟨rfl, by omega, hv, hv2, by omega⟩
/-- an instruction that fits into memory -/
def Fit (x : Ins) : Prop := x.1 < 17 ∧ x.2.1 < 18446744073709551616 ∧ x.2.2 < 18446744073709551616
theorem decf_fit : ∀ (f : Nat) (bs : List Nat) (c : List Ins), decf f bs = some c → (∀ x ∈ c, Fit x) ∧ c.length ≤ bs.length
  | f, [], c, h => by
    have : c = [] := by cases f <;> (rw [decf] at h; exact (Option.some.inj h).symm)
    subst this
    simp
  | 0, _ :: _, c, h => by simp [decf] at h
  | f + 1, op :: t, c, h => by
    rw [decf] at h
    cases ho : one op t with
    | none => rw [ho] at h; cases h
    | some q =>
      obtain ⟨x, k⟩ := q
      rw [ho] at h
      simp only at h
      cases hd : decf f (t.drop k) with
      | none => rw [hd] at h; cases h
      | some l =>
        rw [hd] at h
        simp only [Option.some.injEq] at h
        subst h
        obtain ⟨h1, h2⟩ := decf_fit f _ l hd
        obtain ⟨e1, e2, e3, e4, _⟩ := one_lt ho
        refine ⟨fun y hy => ?_, by simp at *; omega⟩
        rcases List.mem_cons.1 hy with rfl | hy
        · exact ⟨by omega, e3, e4⟩
        · exact h1 y hy
theorem dc_fit {bs : List Nat} {c : List Ins} (h : dc bs = some c) : (∀ x ∈ c, Fit x) ∧ c.length ≤ bs.length := decf_fit _ _ _ h
/-! programs -/
structure Nr where
  cs : List Int
  os : List Int
  slop : Int
structure Prg where
  avgs : List Int
  cur : List (Int × ByteArray)
  nears : List Nr
  all : Bool
  drive : List Int
  code : List Nat
def fieldOf (cur : List (Int × ByteArray)) (c : Int) : Int := ((cur[c.toNat]?).map (·.1)).getD 0
/-- place i of a phrase is good -/
def nrOk1 (cur : List (Int × ByteArray)) (n : Nr) (i : Nat) : Prop :=
  0 ≤ n.cs.getD i 0 ∧ n.cs.getD i 0 < cur.length ∧ 0 ≤ n.os.getD i 0 ∧ n.os.getD i 0 < 2147483647 ∧ fieldOf cur (n.cs.getD i 0) = fieldOf cur (n.cs.getD 0 0)
def nrOk (cur : List (Int × ByteArray)) (n : Nr) : Prop := 1 ≤ n.cs.length ∧ n.os.length = n.cs.length ∧ 0 ≤ n.slop ∧ n.slop < 2147483647 ∧ ∀ i, i < n.cs.length → nrOk1 cur n i
def curOk (k : Nat) (x : Int × ByteArray) : Prop := 0 ≤ x.1 ∧ x.1 < k ∧ x.2.size ≤ 64
def drvOk (drive : List Int) (m : Nat) (k : Nat) : Prop := 0 ≤ drive.getD k 0 ∧ drive.getD k 0 < m ∧ (0 < k → drive.getD (k - 1) 0 < drive.getD k 0)
/-- the tables are good -/
def tabOk (P : Prg) : Prop :=
  1 ≤ P.avgs.length ∧ P.avgs.length ≤ 16 ∧ (∀ a ∈ P.avgs, 0 ≤ a) ∧ (∀ x ∈ P.cur, curOk P.avgs.length x) ∧ (∀ n ∈ P.nears, nrOk P.cur n) ∧ (P.all = true → P.drive = []) ∧ (∀ k, k < P.drive.length → drvOk P.drive P.cur.length k)
def sz (P : Prg) : Nat × Nat × Nat := (P.avgs.length, P.cur.length, P.nears.length)
/-- the heights of a good program -/
noncomputable def ans (P : Prg) : Option (List Nat) := by
  classical exact match dc P.code with
    | none => none
    | some c => if h : tabOk P ∧ ∃ H, Good (sz P) c H then some (Classical.choose h.2) else none
theorem ans_some {P : Prg} {c : List Ins} {H : List Nat} (hd : dc P.code = some c) (ht : tabOk P) (hg : Good (sz P) c H) : ans P = some H := by
  have h : tabOk P ∧ ∃ H, Good (sz P) c H := ⟨ht, H, hg⟩
  unfold ans
  rw [hd]
  simp only
  rw [dif_pos h]
  exact congrArg some (good_unique (Classical.choose_spec h.2) hg)
theorem ans_none {P : Prg} (h : ∀ c, dc P.code = some c → tabOk P → ¬ ∃ H, Good (sz P) c H) : ans P = none := by
  unfold ans
  cases hd : dc P.code with
  | none => rfl
  | some c =>
    simp only
    rw [dif_neg]
    rintro ⟨ht, hg⟩
    exact h c hd ht hg
theorem ans_is {P : Prg} {H : List Nat} (h : ans P = some H) : ∃ c, dc P.code = some c ∧ tabOk P ∧ Good (sz P) c H := by
  unfold ans at h
  cases hd : dc P.code with
  | none => rw [hd] at h; cases h
  | some c =>
    rw [hd] at h
    simp only at h
    split at h
    · rename_i k
      have := Classical.choose_spec k.2
      rw [Option.some.inj h] at this
      exact ⟨c, rfl, k.1, this⟩
    · cases h
theorem ans_len {P : Prg} {H : List Nat} (h : ans P = some H) : 0 < H.length ∧ H.length ≤ P.code.length ∧ mx H ≤ H.length ∧ (∀ x ∈ H, x ≤ H.length) ∧ H[0]? = some 0 ∧ H[H.length - 1]? = some 1 := by
  obtain ⟨c, hd, _, hg⟩ := ans_is h
  have h1 := (dc_fit hd).2
  have h2 := good_mx hg
  have h3 := hg.1
  have h4 := hg.2.1
  refine ⟨by omega, by omega, by omega, fun x hx => ?_, hg.2.2.1, ?_⟩
  · have := mx_le hx; omega
  · rw [h3]; exact good_last hg
end Vf
