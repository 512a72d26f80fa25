/- what lies in memory: lists of numbers, cursors, phrases, instructions; programs -/
import Derived.Test.YtbimpoabiafdaaaDoorBase
namespace Go.Proofs.YtbimpoabiafdaaaDoor
open Go.RowKit Vf

theorem lt_keep {w w' : World} {a : Addr} {x : Value} (h : w.cell? a = some x) (hb : Below w.heap.size w w') : w'.cell? a = some x := (hb.cell (World.block_lt_of_cell? w _ h)).trans h
/-- a list of numbers that lies in memory -/
def Ints (w : World) (v : Value) (zs : List Int) : Prop :=
  (v = .slice none 0 0 ∧ zs = []) ∨ ∃ ad cap, v = .slice (some ad) zs.length cap ∧ zs.length ≤ cap ∧ cap ≤ 9223372036854775807 ∧ ∀ (k : Nat) (x : Int), zs[k]? = some x → w.cell? (ad.add k) = some (.int .i64 x)
theorem ints_keep {w w' : World} {v : Value} {zs : List Int} (h : Ints w v zs) (hb : Below w.heap.size w w') : Ints w' v zs := by
  rcases h with h | ⟨ad, cap, h1, h2, h3, h4⟩
  · exact .inl h
  · exact .inr ⟨ad, cap, h1, h2, h3, fun k x hk => lt_keep (h4 k x hk) hb⟩
theorem ints_form {w : World} {v : Value} {zs : List Int} (h : Ints w v zs) : ∃ ao cap, v = .slice ao zs.length cap := by
  rcases h with ⟨rfl, rfl⟩ | ⟨ad, cap, rfl, _⟩
  · exact ⟨_, _, rfl⟩
  · exact ⟨_, _, rfl⟩
theorem ints_get {w : World} {ao : Option Addr} {n cap : Nat} {zs : List Int} (h : Ints w (.slice ao n cap) zs) {i : Nat} {x : Int} (hx : zs[i]? = some x) : ∃ ad, ao = some ad ∧ w.cell? (ad.add i) = some (.int .i64 x) := by
  rcases h with ⟨_, rfl⟩ | ⟨ad, c, hv, _, _, hc⟩
  · simp at hx
  · simp only [Value.slice.injEq] at hv
    exact ⟨ad, hv.1, hc i x hx⟩
/-- a list of cursors -/
def Leafs (w : World) (v : Value) (l : List (Int × ByteArray)) : Prop :=
  (v = .slice none 0 0 ∧ l = []) ∨ ∃ ad cap, v = .slice (some ad) l.length cap ∧ l.length ≤ cap ∧ cap ≤ 9223372036854775807 ∧ ∀ (k : Nat) (x : Int × ByteArray), l[k]? = some x →
    w.cell? (ad.add (k * 2)) = some (.int .i64 x.1) ∧ w.cell? ⟨(ad.add (k * 2)).block, (ad.add (k * 2)).off + 1, none⟩ = some (.string x.2)
theorem leafs_keep {w w' : World} {v : Value} {l : List (Int × ByteArray)} (h : Leafs w v l) (hb : Below w.heap.size w w') : Leafs w' v l := by
  rcases h with h | ⟨ad, cap, h1, h2, h3, h4⟩
  · exact .inl h
  · exact .inr ⟨ad, cap, h1, h2, h3, fun k x hk => ⟨lt_keep (h4 k x hk).1 hb, lt_keep (h4 k x hk).2 hb⟩⟩
theorem leafs_form {w : World} {v : Value} {l : List (Int × ByteArray)} (h : Leafs w v l) : ∃ ao cap, v = .slice ao l.length cap := by
  rcases h with ⟨rfl, rfl⟩ | ⟨ad, cap, rfl, _⟩
  · exact ⟨_, _, rfl⟩
  · exact ⟨_, _, rfl⟩
theorem leafs_get {w : World} {ao : Option Addr} {n cap : Nat} {l : List (Int × ByteArray)} (h : Leafs w (.slice ao n cap) l) {i : Nat} {x : Int × ByteArray} (hx : l[i]? = some x) :
    ∃ ad, ao = some ad ∧ w.cell? (ad.add (i * 2)) = some (.int .i64 x.1) ∧ w.cell? ⟨(ad.add (i * 2)).block, (ad.add (i * 2)).off + 1, none⟩ = some (.string x.2) := by
  rcases h with ⟨_, rfl⟩ | ⟨ad, c, hv, _, _, hc⟩
  · simp at hx
  · simp only [Value.slice.injEq] at hv
    exact ⟨ad, hv.1, hc i x hx⟩
/-- a phrase -/
def NrAt (w : World) (ad : Addr) (n : Nr) : Prop :=
  ∃ va vb, w.cell? ad = some va ∧ w.cell? ⟨ad.block, ad.off + 1, none⟩ = some vb ∧ w.cell? ⟨ad.block, ad.off + 2, none⟩ = some (.int .i64 n.slop) ∧ Ints w va n.cs ∧ Ints w vb n.os
theorem nr_keep {w w' : World} {ad : Addr} {n : Nr} (h : NrAt w ad n) (hb : Below w.heap.size w w') : NrAt w' ad n := by
  obtain ⟨va, vb, h1, h2, h3, h4, h5⟩ := h
  exact ⟨va, vb, lt_keep h1 hb, lt_keep h2 hb, lt_keep h3 hb, ints_keep h4 hb, ints_keep h5 hb⟩
def Nrs (w : World) (v : Value) (l : List Nr) : Prop :=
  (v = .slice none 0 0 ∧ l = []) ∨ ∃ ad cap, v = .slice (some ad) l.length cap ∧ l.length ≤ cap ∧ cap ≤ 9223372036854775807 ∧ ∀ (k : Nat) (x : Nr), l[k]? = some x → NrAt w (ad.add (k * 3)) x
theorem nrs_keep {w w' : World} {v : Value} {l : List Nr} (h : Nrs w v l) (hb : Below w.heap.size w w') : Nrs w' v l := by
  rcases h with h | ⟨ad, cap, h1, h2, h3, h4⟩
  · exact .inl h
  · exact .inr ⟨ad, cap, h1, h2, h3, fun k x hk => nr_keep (h4 k x hk) hb⟩
theorem nrs_form {w : World} {v : Value} {l : List Nr} (h : Nrs w v l) : ∃ ao cap, v = .slice ao l.length cap := by
  rcases h with ⟨rfl, rfl⟩ | ⟨ad, cap, rfl, _⟩
  · exact ⟨_, _, rfl⟩
  · exact ⟨_, _, rfl⟩
theorem nrs_get {w : World} {ao : Option Addr} {n cap : Nat} {l : List Nr} (h : Nrs w (.slice ao n cap) l) {i : Nat} {x : Nr} (hx : l[i]? = some x) : ∃ ad, ao = some ad ∧ NrAt w (ad.add (i * 3)) x := by
  rcases h with ⟨_, rfl⟩ | ⟨ad, c, hv, _, _, hc⟩
  · simp at hx
  · simp only [Value.slice.injEq] at hv
    exact ⟨ad, hv.1, hc i x hx⟩
/-- the cells of instructions -/
def insCells (c : List Ins) : List Value := c.flatMap fun x => [.int .i64 (x.1 : Nat), .int .u64 (x.2.1 : Nat), .int .u64 (x.2.2 : Nat)]
theorem insCells_len (c : List Ins) : (insCells c).length = 3 * c.length := by
  induction c with
  | nil => rfl
  | cons x r ih => simp only [insCells, List.flatMap_cons, List.length_append, List.length_cons, List.length_nil] at *; omega
theorem insCells_app (c d : List Ins) : insCells (c ++ d) = insCells c ++ insCells d := by simp [insCells]
theorem insCells_get {c : List Ins} {i : Nat} {x : Ins} (h : c[i]? = some x) : (insCells c)[i * 3]? = some (.int .i64 (x.1 : Nat)) ∧ (insCells c)[i * 3 + 1]? = some (.int .u64 (x.2.1 : Nat)) ∧ (insCells c)[i * 3 + 2]? = some (.int .u64 (x.2.2 : Nat)) := by
  induction c generalizing i with
  | nil => simp at h
  | cons y r ih =>
    cases i with
    | zero =>
      simp at h; subst h
      simp [insCells]
    | succ i =>
      simp at h
      obtain ⟨h1, h2, h3⟩ := ih h
      simp only [insCells, List.flatMap_cons] at *
      have e0 : (i + 1) * 3 = i * 3 + 3 := by omega
      have e1 : i * 3 + 3 + 1 = i * 3 + 1 + 3 := by omega
      have e2 : i * 3 + 3 + 2 = i * 3 + 2 + 3 := by omega
      rw [e0, e1, e2]
      refine ⟨?_, ?_, ?_⟩
      · rw [List.getElem?_append_right (by simp)]; simpa using h1
      · rw [List.getElem?_append_right (by simp)]; simpa using h2
      · rw [List.getElem?_append_right (by simp)]; simpa using h3
/-- a list of instructions that lies in memory -/
def Inss (w : World) (v : Value) (c : List Ins) : Prop :=
  (v = .slice none 0 0 ∧ c = []) ∨ ∃ ad cap, v = .slice (some ad) c.length cap ∧ c.length ≤ cap ∧ cap ≤ 9223372036854775807 ∧ ∀ (k : Nat) (x : Ins), c[k]? = some x →
    w.cell? (ad.add (k * 3)) = some (.int .i64 (x.1 : Nat)) ∧ w.cell? ⟨(ad.add (k * 3)).block, (ad.add (k * 3)).off + 1, none⟩ = some (.int .u64 (x.2.1 : Nat)) ∧ w.cell? ⟨(ad.add (k * 3)).block, (ad.add (k * 3)).off + 2, none⟩ = some (.int .u64 (x.2.2 : Nat))
theorem inss_keep {w w' : World} {v : Value} {l : List Ins} (h : Inss w v l) (hb : Below w.heap.size w w') : Inss w' v l := by
  rcases h with h | ⟨ad, cap, h1, h2, h3, h4⟩
  · exact .inl h
  · exact .inr ⟨ad, cap, h1, h2, h3, fun k x hk => ⟨lt_keep (h4 k x hk).1 hb, lt_keep (h4 k x hk).2.1 hb, lt_keep (h4 k x hk).2.2 hb⟩⟩
theorem inss_form {w : World} {v : Value} {l : List Ins} (h : Inss w v l) : ∃ ao cap, v = .slice ao l.length cap := by
  rcases h with ⟨rfl, rfl⟩ | ⟨ad, cap, rfl, _⟩
  · exact ⟨_, _, rfl⟩
  · exact ⟨_, _, rfl⟩
theorem inss_get {w : World} {ao : Option Addr} {n cap : Nat} {l : List Ins} (h : Inss w (.slice ao n cap) l) {i : Nat} {x : Ins} (hx : l[i]? = some x) :
    ∃ ad, ao = some ad ∧ w.cell? (ad.add (i * 3)) = some (.int .i64 (x.1 : Nat)) ∧ w.cell? ⟨(ad.add (i * 3)).block, (ad.add (i * 3)).off + 1, none⟩ = some (.int .u64 (x.2.1 : Nat)) ∧ w.cell? ⟨(ad.add (i * 3)).block, (ad.add (i * 3)).off + 2, none⟩ = some (.int .u64 (x.2.2 : Nat)) := by
  rcases h with ⟨_, rfl⟩ | ⟨ad, c, hv, _, _, hc⟩
  · simp at hx
  · simp only [Value.slice.injEq] at hv
    exact ⟨ad, hv.1, hc i x hx⟩
/-- an own row of instructions -/
def InOwn (w : World) (B : Nat) (v : Value) (c : List Ins) : Prop := w.ownsRow B 56 3 v c.length (insCells c)
theorem inown_inss {w : World} {B : Nat} {v : Value} {c : List Ins} (h : InOwn w B v c) : Inss w v c := by
  rcases h.2 with ⟨rfl, h0⟩ | ⟨g, cap, cur, rfl, hb, hh, hn, hm, hs, ht⟩
  · exact .inl ⟨rfl, List.eq_nil_of_length_eq_zero h0⟩
  · refine .inr ⟨⟨g, 0, none⟩, cap, rfl, hn, by unfold maxLen at hm; omega, fun k x hk => ?_⟩
    obtain ⟨h1, h2, h3⟩ := insCells_get hk
    have hc := World.ownsRow.cells h (g := g) rfl
    have e0 := hc _ _ h1
    have e1 := hc _ _ h2
    have e2 := hc _ _ h3
    rw [Addr.add_lit, Nat.zero_add] at e0 e1 e2
    refine ⟨?_, ?_, ?_⟩
    · rw [Addr.add_lit, Nat.zero_add]; exact e0
    · rw [Addr.add_lit, Nat.zero_add]; exact e1
    · rw [Addr.add_lit, Nat.zero_add]; exact e2
theorem inown_keep {w w' : World} {B : Nat} {v : Value} {c : List Ins} (h : InOwn w B v c) (hb : Below w.heap.size w w') : InOwn w' B v c := row_keepTy h (keepTy_below hb 56)
/-- a program that lies in memory -/
structure PrgAt (w : World) (va vc vn vd vb : Value) (P : Prg) : Prop where
  avgs : Ints w va P.avgs
  cur : Leafs w vc P.cur
  nears : Nrs w vn P.nears
  drive : Ints w vd P.drive
  code : Src w vb P.code
theorem PrgAt.keep {w w' : World} {va vc vn vd vb : Value} {P : Prg} (h : PrgAt w va vc vn vd vb P) (hb : Below w.heap.size w w') : PrgAt w' va vc vn vd vb P :=
  ⟨ints_keep h.avgs hb, leafs_keep h.cur hb, nrs_keep h.nears hb, ints_keep h.drive hb, src_keep h.code hb⟩
/-- no list is longer than this -/
structure Little (P : Prg) (k : Nat) : Prop where
  avgs : P.avgs.length ≤ k
  cur : P.cur.length ≤ k
  nears : P.nears.length ≤ k
  drive : P.drive.length ≤ k
  code : P.code.length ≤ k
  cs : ∀ n ∈ P.nears, n.cs.length ≤ k ∧ n.os.length ≤ k
  ch : ∀ x ∈ P.cur, x.2.size ≤ k
end Go.Proofs.YtbimpoabiafdaaaDoor
