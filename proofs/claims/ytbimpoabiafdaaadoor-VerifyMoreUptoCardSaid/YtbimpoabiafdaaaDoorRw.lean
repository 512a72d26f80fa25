/- own rows, each in a block of its own; a region's orders by an invariant -/
import Derived.Test.YtbimpoabiafdaaaDoorAl
import Derived.Maps.AppendAt
import Derived.Deep.RegionHeld
namespace Go.Proofs.YtbimpoabiafdaaaDoor
open Go.RowKit Vf
/-- a row: its elements' type and size, its header, its length, its cells -/
structure Ro where
  e : TypeId
  s : Nat
  v : Value
  n : Nat
  xs : List Value
def Ro.at (r : Ro) (w : World) (B : Nat) : Prop := w.ownsRow B r.e r.s r.v r.n r.xs
/-- own rows, pairwise apart -/
def Fa (w : World) (B : Nat) (R : Nat → Option Ro) : Prop :=
  (∀ (j : Nat) (r : Ro), R j = some r → r.at w B) ∧ ∀ (i j : Nat) (r s : Ro), i ≠ j → R i = some r → R j = some s → ∀ g, r.v.ownBlock = some g → s.v.ownBlock ≠ some g
def upd (R : Nat → Option Ro) (j : Nat) (r : Ro) : Nat → Option Ro := fun k => if k = j then some r else R k
theorem fa_put {w w' : World} {B j : Nat} {R : Nat → Option Ro} {row : Option Nat} {r' : Ro} (h : Fa w B R) (hr : ∀ (k : Nat) (s : Ro), k ≠ j → R k = some s → ∀ g, s.v.ownBlock = some g → row ≠ some g) (h' : r'.at w' B) (hg : w.grownBy w' row)
    (hat : ∀ g, r'.v.ownBlock = some g → row = some g ∨ w.heap.size ≤ g) : Fa w' B (upd R j r') := by
  have lt : ∀ (k : Nat) (s : Ro), R k = some s → ∀ q, s.v.ownBlock = some q → q < w.heap.size := fun k s hs q hq => (World.ownsRow.lt (h.1 k s hs) q hq).2
  have apart : ∀ (k : Nat) (s : Ro), k ≠ j → R k = some s → ∀ g, r'.v.ownBlock = some g → s.v.ownBlock ≠ some g := fun k s hk hs g hg' e => by
    rcases hat g hg' with h1 | h1
    · exact hr k s hk hs g e h1
    · have := lt k s hs g e; omega
  refine ⟨fun k r hk => ?_, fun i k r s hik hi hk g hgr => ?_⟩
  · unfold upd at hk
    split at hk
    · simp only [Option.some.injEq] at hk; subst hk; exact h'
    · rename_i hne
      refine World.ownsRow.kept (h.1 k r hk) hg ?_
      cases hb : r.v.ownBlock with
      | none => exact .inl rfl
      | some g => exact .inr (fun e => hr k r hne hk g hb e.symm)
  · unfold upd at hi hk
    split at hi
    · simp only [Option.some.injEq] at hi
      subst hi
      split at hk
      · rename_i e1 e2; exact absurd (e1.trans e2.symm) hik
      · rename_i hne; exact apart k s hne hk g hgr
    · split at hk
      · rename_i hne _
        simp only [Option.some.injEq] at hk
        subst hk
        exact fun e => apart i r hne hi g e hgr
      · exact h.2 i k r s hik hi hk g hgr
theorem fa_new {w : World} {B j : Nat} {R : Nat → Option Ro} (e : TypeId) (s : Nat) (h : Fa w B R) (hB : B ≤ w.heap.size) : Fa (w.alloc (.cells #[] e)) B (upd R j ⟨e, s, .slice (some ⟨w.heap.size, 0, none⟩) 0 0, 0, []⟩) := by
  refine fa_put (row := none) h (fun _ _ _ _ _ _ => by simp) ?_ (grown_of_below ((Below.refl _ _).alloc (Nat.le_refl _) _)) (fun g hg => .inr ?_)
  · exact World.ownsRow_lit (base := B) (e := e) (size := s) w #[] 0 hB (by simp [maxLen]) (by simp)
  · simp only [Value.ownBlock, Option.some.injEq] at hg; omega
theorem fa_grow {w w' : World} {B j : Nat} {R : Nat → Option Ro} {r r' : Ro} (h : Fa w B R) (hj : R j = some r) (h' : r'.at w' B) (hg : w.grownBy w' r.v.ownBlock) (hat : r'.v.ownBlock = r.v.ownBlock ∨ r'.v.ownBlock = some w.heap.size) : Fa w' B (upd R j r') := by
  refine fa_put h (fun k s hk hs g hsg e => ?_) h' hg (fun g hg' => ?_)
  · exact h.2 j k r s (fun e' => hk e'.symm) hj hs g e hsg
  · rcases hat with h1 | h1
    · exact .inl (h1 ▸ hg')
    · right; rw [h1] at hg'; simp only [Option.some.injEq] at hg'; omega
theorem fa_below {w w' : World} {B : Nat} {R : Nat → Option Ro} (h : Fa w B R) (hb : Below w.heap.size w w') : Fa w' B R :=
  ⟨fun j r hj => World.ownsRow.kept (row := none) (h.1 j r hj) (grown_of_below hb) (by cases r.v.ownBlock <;> simp), h.2⟩
theorem fa_none (w : World) (B : Nat) : Fa w B (fun _ => none) := ⟨fun _ _ h => (by cases h), fun _ _ _ _ _ h _ => (by cases h)⟩
/-- four rows -/
def R4 (a b c d : Option Ro) : Nat → Option Ro
  | 0 => a
  | 1 => b
  | 2 => c
  | 3 => d
  | _ => none
theorem upd0 (a b c d : Option Ro) (r : Ro) : upd (R4 a b c d) 0 r = R4 (some r) b c d := by funext k; unfold upd; match k with | 0 => rfl | 1 => rfl | 2 => rfl | 3 => rfl | _ + 4 => rfl
theorem upd1 (a b c d : Option Ro) (r : Ro) : upd (R4 a b c d) 1 r = R4 a (some r) c d := by funext k; unfold upd; match k with | 0 => rfl | 1 => rfl | 2 => rfl | 3 => rfl | _ + 4 => rfl
theorem upd2 (a b c d : Option Ro) (r : Ro) : upd (R4 a b c d) 2 r = R4 a b (some r) d := by funext k; unfold upd; match k with | 0 => rfl | 1 => rfl | 2 => rfl | 3 => rfl | _ + 4 => rfl
theorem upd3 (a b c d : Option Ro) (r : Ro) : upd (R4 a b c d) 3 r = R4 a b c (some r) := by funext k; unfold upd; match k with | 0 => rfl | 1 => rfl | 2 => rfl | 3 => rfl | _ + 4 => rfl
theorem r4_none : R4 none none none none = fun _ => none := by funext k; match k with | 0 => rfl | 1 => rfl | 2 => rfl | 3 => rfl | _ + 4 => rfl
/-- cells that an append takes -/
def SrcC (w : World) (v : Value) (m s : Nat) (xs : List Value) : Prop :=
  xs.length = m * s ∧ ((v = .slice none 0 0 ∧ m = 0) ∨ ∃ ad c, v = .slice (some ad) m c ∧ ∀ (j : Nat) (u : Value), xs[j]? = some u → w.cell? (ad.add j) = some u)
theorem srcc_keep {w w' : World} {v : Value} {m s : Nat} {xs : List Value} (h : SrcC w v m s xs) (hb : Below w.heap.size w w') : SrcC w' v m s xs := by
  obtain ⟨h0, h | ⟨ad, c, h1, h2⟩⟩ := h
  · exact ⟨h0, .inl h⟩
  · exact ⟨h0, .inr ⟨ad, c, h1, fun j u hj => lt_keep (h2 j u hj) hb⟩⟩
def intCells (zs : List Int) : List Value := zs.map fun z => .int .i64 z
theorem intCells_len (zs : List Int) : (intCells zs).length = zs.length := by simp [intCells]
theorem intCells_one (zs : List Int) : ∀ u ∈ intCells zs, u.oneCell' = true := by
  intro u hu
  simp only [intCells, List.mem_map] at hu
  obtain ⟨z, _, rfl⟩ := hu
  rfl
theorem srcc_ints {w : World} {v : Value} {zs : List Int} (h : Ints w v zs) : SrcC w v zs.length 1 (intCells zs) := by
  refine ⟨by simp [intCells], ?_⟩
  rcases h with ⟨h1, rfl⟩ | ⟨ad, cap, h1, _, _, h2⟩
  · exact .inl ⟨h1, rfl⟩
  · refine .inr ⟨ad, cap, h1, fun j u hj => ?_⟩
    simp only [intCells, List.getElem?_map, Option.map_eq_some_iff] at hj
    obtain ⟨z, hz, rfl⟩ := hj
    exact h2 j z hz
theorem srcc_src {w : World} {v : Value} {bs : List Nat} (h : Src w v bs) : SrcC w v bs.length 1 (u8s bs) := by
  refine ⟨by simp [u8s], ?_⟩
  rcases h with ⟨_, ⟨h1, rfl⟩ | ⟨ad, cap, h1, _, _, h2⟩⟩
  · exact .inl ⟨h1, rfl⟩
  · refine .inr ⟨ad, cap, h1, fun j u hj => ?_⟩
    simp only [u8s, List.getElem?_map, Option.map_eq_some_iff] at hj
    obtain ⟨z, hz, rfl⟩ := hj
    exact h2 j z hz
def leafCells (l : List (Int × ByteArray)) : List Value := l.flatMap fun x => [.int .i64 x.1, .string x.2]
theorem leafCells_len (l : List (Int × ByteArray)) : (leafCells l).length = l.length * 2 := by
  induction l with
  | nil => rfl
  | cons x r ih => simp only [leafCells, List.flatMap_cons, List.length_append, List.length_cons, List.length_nil] at *; omega
theorem leafCells_one (l : List (Int × ByteArray)) : ∀ u ∈ leafCells l, u.oneCell' = true := by
  intro u hu
  simp only [leafCells, List.mem_flatMap, List.mem_cons, List.not_mem_nil, or_false] at hu
  obtain ⟨x, _, rfl | rfl⟩ := hu <;> rfl
theorem leafCells_get {l : List (Int × ByteArray)} {i : Nat} {x : Int × ByteArray} (h : l[i]? = some x) : (leafCells l)[i * 2]? = some (.int .i64 x.1) ∧ (leafCells l)[i * 2 + 1]? = some (.string x.2) := by
  induction l generalizing i with
  | nil => simp at h
  | cons y r ih =>
    cases i with
    | zero =>
      simp at h; subst h
      simp [leafCells]
    | succ i =>
      simp at h
      obtain ⟨h1, h2⟩ := ih h
      simp only [leafCells, List.flatMap_cons] at *
      have e0 : (i + 1) * 2 = i * 2 + 2 := by omega
      have e1 : i * 2 + 2 + 1 = i * 2 + 1 + 2 := by omega
      rw [e0, e1]
      refine ⟨?_, ?_⟩
      · rw [List.getElem?_append_right (by simp)]; simpa using h1
      · rw [List.getElem?_append_right (by simp)]; simpa using h2
theorem leafCells_app (l m : List (Int × ByteArray)) : leafCells (l ++ m) = leafCells l ++ leafCells m := by simp [leafCells]
theorem srcc_leafs {w : World} {v : Value} {l : List (Int × ByteArray)} (h : Leafs w v l) : SrcC w v l.length 2 (leafCells l) := by
  refine ⟨leafCells_len l, ?_⟩
  rcases h with ⟨h1, rfl⟩ | ⟨ad, cap, h1, _, _, h2⟩
  · exact .inl ⟨h1, rfl⟩
  · refine .inr ⟨ad, cap, h1, fun j u hj => ?_⟩
    have hjl := (List.getElem?_eq_some_iff.1 hj).1
    rw [leafCells_len] at hjl
    have hil : j / 2 < l.length := by omega
    have hx : l[j / 2]? = some l[j / 2] := List.getElem?_eq_getElem hil
    obtain ⟨c0, c1⟩ := h2 _ _ hx
    obtain ⟨d0, d1⟩ := leafCells_get hx
    by_cases hp : j % 2 = 0
    · have e : j / 2 * 2 = j := by omega
      rw [e] at c0 d0
      rw [d0] at hj
      obtain rfl := Option.some.inj hj
      exact c0
    · have e : j / 2 * 2 + 1 = j := by omega
      rw [e] at d1
      rw [d1] at hj
      obtain rfl := Option.some.inj hj
      have e2 : (⟨(ad.add (j / 2 * 2)).block, (ad.add (j / 2 * 2)).off + 1, none⟩ : Addr) = ad.add j := by
        have hb : ∀ k : Nat, (ad.add k).block = ad.block ∧ (ad.add k).off = ad.off + k := fun k => by
          unfold Addr.add
          split
          · rename_i h; subst h; simp
          · simp
        rw [(hb _).1, (hb _).2]
        unfold Addr.add
        rw [if_neg (by omega)]
        congr 1
        omega
      rw [← e2]
      exact c1
set_option maxRecDepth 100000 in
theorem run_row (w : World) (B : Nat) (t ty e : TypeId) (i : TypeInfo) (z : Value) (size bytes : Nat) (ht : Tryd.prog.underlying t = some (.slice e)) (hi : Tryd.prog.info? e = some i) (hz : i.zero = some z)
    (hsize : i.size = size) (hby : i.bytes = bytes) (hzs : z.cells.size = size) (hsz : 0 < size) (v xv : Value) (n m : Nat) (xs news : List Value) (hown : w.ownsRow B e size v n xs) (hs : SrcC w xv m size news) (h1 : ∀ u ∈ news, u.oneCell' = true)
    (h63 : n + m ≤ maxLen) (hbytes : (n + m) * bytes ≤ 140737488355328) (hB : B ≤ w.heap.size) :
    ∃ v' w', (Builtin.append_ #[t, t] ty #[v, xv]).run Tryd.prog w = .ok v' w' ∧ w'.ownsRow B e size v' (n + m) (xs ++ news) ∧ w.grownBy w' v.ownBlock ∧ (v'.ownBlock = v.ownBlock ∨ v'.ownBlock = some w.heap.size) := by
  obtain ⟨hl, ⟨rfl, rfl⟩ | ⟨ad, c, rfl, hc⟩⟩ := hs
  · have hn : news = [] := List.eq_nil_of_length_eq_zero (by rw [hl]; omega)
    subst hn
    refine ⟨v, w, run_append_owned_none (P := Tryd.prog) (w := w) B t ty e i size ht hi v n xs hown, ?_, ⟨rfl, rfl, rfl, Nat.le_refl _, fun _ _ _ => rfl⟩, .inl rfl⟩
    rw [List.append_nil]
    exact hown
  · obtain ⟨v', w', k1, k2, k3, _, k5⟩ := run_append_own_at (P := Tryd.prog) w B t ty e i z size bytes ht hi hz hsize hby hzs hsz v n xs hown ad m c news hl hc h1 h63 hbytes hB
    exact ⟨v', w', k1, k2, k3, k5⟩
theorem step_run {ops : Array Oper} {o : Oper} {a : Act} {K : Act → World → Prop} {Q : Exit → Act → World → Prop} {E : Prop} (t : TypeId) (w w' : World) (v u v' : Value) (hgd : o.guard = none) (s y : Operand)
    (ho : o.op = .call { callee := .builtin .append, args := #[s, y], argTypes := #[t, t] }) (hs : a.eval s = v) (hy : a.eval y = u) (hr : (Builtin.append_ #[t, t] o.type #[v, u]).run Tryd.prog w = .ok v' w') (h : K (a.put o.dst v') w') :
    if Region.wanted o (yielded ops a.tmps) = true then Oper.wp Tryd.prog o a w K Q else E := by
  have hw : Region.wanted o (yielded ops a.tmps) = true := by simp [Region.wanted, hgd]
  rw [if_pos hw]
  unfold Oper.wp execOp
  simp only [ho, resolve, invoke, builtin, Sem.run_bind, Sem.run_pure, Result.andThen_ok, List.map_toArray, List.map_cons, List.map_nil, hs, hy, hr]
  exact h
/-- whatever order: an invariant that each operation that may come up keeps -/
theorem anyH_inv {P : Program} {md : Region.Mode} {ops : Array Oper} {Q : Exit → Act → World → Prop} {S : World → Prop} (m : Nat) (I : Nat → Array Bool → Act → World → Prop)
    (h0 : ∀ listed a w, I 0 listed a w → wpAnyH P md ops Q S m listed a w)
    (hs : ∀ k listed a w, I (k + 1) listed a w → Region.ready md ops listed ≠ [] ∧ ∀ i ∈ Region.ready md ops listed, wpOp P ops Q i (fun a' w' => S w' ∧ I k (listed.setIfInBounds i true) a' w') a w) :
    ∀ k listed a w, I k listed a w → wpAnyH P md ops Q S (m + k) listed a w
  | 0, listed, a, w, h => h0 listed a w h
  | k + 1, listed, a, w, h => ⟨fun h' => absurd h' (hs k listed a w h).1, fun i hi => wpOp_mono (fun _ _ h' => ⟨h'.1, anyH_inv m I h0 hs k _ _ _ h'.2⟩) ((hs k listed a w h).2 i hi)⟩
theorem info63 : (Tryd.prog.info? 63).map (fun i => (i.zero, i.size, i.bytes)) = some (some (.agg #[.int .i64 0, .string ByteArray.empty]), 2, 24) := by kernel_rfl
theorem info65 : (Tryd.prog.info? 65).map (fun i => (i.zero, i.size, i.bytes)) = some (some (.agg #[.slice none 0 0, .slice none 0 0, .int .i64 0]), 3, 56) := by kernel_rfl
end Go.Proofs.YtbimpoabiafdaaaDoor
