/- plain: a good program stays good with more behind its tables -/
import Derived.Test.YtbimpoabiafdaaaDoorPl
namespace Vf
theorem opnd_mono {a b c a' b' c' : Nat} (h1 : a ≤ a') (h2 : b ≤ b') (h3 : c ≤ c') {x : Ins} (h : opnd (a, b, c) x = true) : opnd (a', b', c') x = true := by
  unfold opnd at *
  split
  · rename_i e; rw [if_pos e] at h; simp at h ⊢; omega
  · rename_i e3; rw [if_neg e3] at h
    split
    · rename_i e; rw [if_pos e] at h; simp at h ⊢; omega
    · rename_i e4; rw [if_neg e4] at h
      split
      · rename_i e; rw [if_pos e] at h; simp at h ⊢; omega
      · rename_i e5; rw [if_neg e5] at h; exact h
theorem good_mono {a b c a' b' c' : Nat} (h1 : a ≤ a') (h2 : b ≤ b') (h3 : c ≤ c') {l : List Ins} {H : List Nat} (h : Good (a, b, c) l H) : Good (a', b', c') l H :=
  ⟨h.1, h.2.1, h.2.2.1, fun i hi => by
    obtain ⟨x, g, h', e1, e2, e3, e4, e5⟩ := h.2.2.2 i hi
    exact ⟨x, g, h', e1, e2, opnd_mono h1 h2 h3 e3, e4, e5⟩⟩
theorem fieldOf_app (cur cs : List (Int × ByteArray)) {c : Int} (h0 : 0 ≤ c) (h : c < cur.length) : fieldOf (cur ++ cs) c = fieldOf cur c := by
  unfold fieldOf
  rw [List.getElem?_append_left (by omega)]
theorem nrOk_app {cur : List (Int × ByteArray)} (cs : List (Int × ByteArray)) {n : Nr} (h : nrOk cur n) : nrOk (cur ++ cs) n := by
  obtain ⟨h1, h2, h3, h4, h5⟩ := h
  refine ⟨h1, h2, h3, h4, fun i hi => ?_⟩
  obtain ⟨k1, k2, k3, k4, k5⟩ := h5 i hi
  obtain ⟨z1, z2, _⟩ := h5 0 (by omega)
  exact ⟨k1, by rw [List.length_append]; omega, k3, k4, by rw [fieldOf_app _ _ k1 k2, fieldOf_app _ _ z1 z2]; exact k5⟩
theorem curOk_mono {k m : Nat} (h : k ≤ m) {x : Int × ByteArray} (hx : curOk k x) : curOk m x := ⟨hx.1, by have := hx.2.1; omega, hx.2.2⟩
theorem more_ans {P Q : Prg} {H : List Nat} (h : ans P = some H) (hc : Q.code = P.code) (as : List Int) (ha : Q.avgs = P.avgs ++ as) (ha0 : ∀ a ∈ as, 0 ≤ a) (hl : Q.avgs.length ≤ 16) (cs : List (Int × ByteArray)) (hcur : Q.cur = P.cur ++ cs)
    (hcs : ∀ x ∈ cs, curOk Q.avgs.length x) (ns : List Nr) (hn : Q.nears = P.nears ++ ns) (hns : ∀ n ∈ ns, nrOk Q.cur n) (hall : Q.all = true → Q.drive = []) (hd : ∀ k, k < Q.drive.length → drvOk Q.drive Q.cur.length k) : ans Q = some H := by
  obtain ⟨c, h1, ⟨t1, t2, t3, t4, t5, t6, t7⟩, h3⟩ := ans_is h
  have la : P.avgs.length ≤ Q.avgs.length := by rw [ha, List.length_append]; omega
  refine ans_some (by rw [hc]; exact h1) ⟨by omega, hl, fun a hm => ?_, fun x hm => ?_, fun n hm => ?_, hall, hd⟩ ?_
  · rw [ha] at hm
    rcases List.mem_append.1 hm with hm | hm
    · exact t3 a hm
    · exact ha0 a hm
  · rw [hcur] at hm
    rcases List.mem_append.1 hm with hm | hm
    · exact curOk_mono la (t4 x hm)
    · exact hcs x hm
  · rw [hn] at hm
    rcases List.mem_append.1 hm with hm | hm
    · rw [hcur]; exact nrOk_app cs (t5 n hm)
    · exact hns n hm
  · exact good_mono la (by rw [hcur, List.length_append]; omega) (by rw [hn, List.length_append]; omega) h3
/-- the phrase that the law lays -/
def lastNr (n : Nat) : Nr := ⟨[(n : Int) - 1, (n : Int) - 1], [0, 5], 3⟩
theorem last_ok {cur : List (Int × ByteArray)} (h : 0 < cur.length) : nrOk cur (lastNr cur.length) := by
  refine ⟨by simp [lastNr], by simp [lastNr], by simp [lastNr], by simp [lastNr], fun i hi => ?_⟩
  have hi2 : i < 2 := by simpa [lastNr] using hi
  match i, hi2 with
  | 0, _ => refine ⟨?_, ?_, ?_, ?_, rfl⟩ <;> simp [lastNr] <;> omega
  | 1, _ => refine ⟨?_, ?_, ?_, ?_, ?_⟩ <;> simp [lastNr] <;> omega
theorem one_drv {m : Nat} {d : Int} (h0 : 0 ≤ d) (h : d < m) : ∀ k, k < [d].length → drvOk [d] m k := by
  intro k hk
  have : k = 0 := by simpa using hk
  subst this
  exact ⟨by simpa using h0, by simpa using h, fun h => absurd h (by omega)⟩
/-- the averages that the law adds; the cursors -/
def moreA : List Int → List Int → List Int
  | l, [] => l
  | l, a :: r => moreA (if l.length < 16 then l ++ [((a % 18446744073709551616) % 100000)] else l) r
def moreC (k : Nat) : List (Int × ByteArray) → List ByteArray → List (Int × ByteArray)
  | l, [] => l
  | l, t :: r => moreC k (if t.size ≤ 64 then l ++ [((k : Int) - 1, t)] else l) r
theorem moreA_ok : ∀ (r l : List Int), l.length ≤ 16 → ∃ as, moreA l r = l ++ as ∧ (∀ a ∈ as, 0 ≤ a) ∧ (moreA l r).length ≤ 16
  | [], l, h => ⟨[], by simp [moreA], by simp, by simpa [moreA] using h⟩
  | a :: r, l, h => by
    rw [moreA]
    by_cases h16 : l.length < 16
    · rw [if_pos h16]
      obtain ⟨as, e, h0, hl⟩ := moreA_ok r (l ++ [((a % 18446744073709551616) % 100000)]) (by simp; omega)
      refine ⟨((a % 18446744073709551616) % 100000) :: as, by rw [e]; simp, fun b hb => ?_, hl⟩
      rcases List.mem_cons.1 hb with rfl | hb
      · omega
      · exact h0 b hb
    · rw [if_neg h16]
      exact moreA_ok r l h
theorem moreC_ok (k : Nat) (hk : 0 < k) : ∀ (r : List ByteArray) (l : List (Int × ByteArray)), ∃ cs, moreC k l r = l ++ cs ∧ (∀ x ∈ cs, curOk k x) ∧ cs.length ≤ r.length
  | [], l => ⟨[], by simp [moreC], by simp, by simp⟩
  | t :: r, l => by
    rw [moreC]
    by_cases h64 : t.size ≤ 64
    · rw [if_pos h64]
      obtain ⟨cs, e, h0, hl⟩ := moreC_ok k hk r (l ++ [((k : Int) - 1, t)])
      refine ⟨((k : Int) - 1, t) :: cs, by rw [e]; simp, fun x hx => ?_, by simp; omega⟩
      rcases List.mem_cons.1 hx with rfl | hx
      · exact ⟨by simp; omega, by simp; omega, h64⟩
      · exact h0 x hx
    · rw [if_neg h64]
      obtain ⟨cs, e, h0, hl⟩ := moreC_ok k hk r l
      exact ⟨cs, e, h0, by simp; omega⟩
theorem moreA_snoc : ∀ (r l : List Int) (x : Int), moreA l (r ++ [x]) = if (moreA l r).length < 16 then moreA l r ++ [((x % 18446744073709551616) % 100000)] else moreA l r
  | [], l, x => by rw [List.nil_append, moreA, moreA, moreA]
  | a :: r, l, x => by rw [List.cons_append, moreA, moreA, moreA_snoc r]
theorem moreC_snoc (k : Nat) : ∀ (r : List ByteArray) (l : List (Int × ByteArray)) (t : ByteArray), moreC k l (r ++ [t]) = if t.size ≤ 64 then moreC k l r ++ [((k : Int) - 1, t)] else moreC k l r
  | [], l, t => by rw [List.nil_append, moreC, moreC, moreC]
  | a :: r, l, t => by rw [List.cons_append, moreC, moreC, moreC_snoc k r]
theorem more_zero {P : Prg} {H : List Nat} (h : ans P = some H) (zs : List Int) (ts : List ByteArray) (h0 : (moreC (moreA P.avgs zs).length P.cur ts).length = 0) : ans ⟨moreA P.avgs zs, moreC (moreA P.avgs zs).length P.cur ts, P.nears, P.all, P.drive, P.code⟩ = some H := by
  obtain ⟨_, _, ht, _⟩ := ans_is h
  obtain ⟨az, e1, e2, e3⟩ := moreA_ok zs P.avgs ht.2.1
  have hp : 0 < (moreA P.avgs zs).length := by rw [e1, List.length_append]; have := ht.1; omega
  obtain ⟨cs, k1, k2, k3⟩ := moreC_ok _ hp ts P.cur
  have hc : P.cur.length = 0 := by rw [k1, List.length_append] at h0; omega
  refine more_ans h rfl az e1 e2 e3 cs k1 k2 [] (by simp) (by simp) ht.2.2.2.2.2.1 (fun k hk => ?_)
  have := (ht.2.2.2.2.2.2 k hk)
  have h1 := this.1
  have h2 := this.2.1
  rw [hc] at h2
  simp only [Int.ofNat_zero] at h2
  exact absurd h1 (by omega)
theorem more_pos {P : Prg} {H : List Nat} (h : ans P = some H) (zs : List Int) (ts : List ByteArray) (h0 : 0 < (moreC (moreA P.avgs zs).length P.cur ts).length) (d : Int) (hd0 : 0 ≤ d) (hd : d < (moreC (moreA P.avgs zs).length P.cur ts).length) :
    ans ⟨moreA P.avgs zs, moreC (moreA P.avgs zs).length P.cur ts, P.nears ++ [lastNr (moreC (moreA P.avgs zs).length P.cur ts).length], false, [d], P.code⟩ = some H := by
  obtain ⟨_, _, ht, _⟩ := ans_is h
  obtain ⟨az, e1, e2, e3⟩ := moreA_ok zs P.avgs ht.2.1
  have hp : 0 < (moreA P.avgs zs).length := by rw [e1, List.length_append]; have := ht.1; omega
  obtain ⟨cs, k1, k2, k3⟩ := moreC_ok _ hp ts P.cur
  exact more_ans h rfl az e1 e2 e3 cs k1 k2 [lastNr _] rfl (by intro n hn; simp at hn; subst hn; exact last_ok h0) (fun h => by cases h) (one_drv hd0 hd)
end Vf
