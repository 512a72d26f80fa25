/- rows of numbers, lists that came in -/
import Derived.Test.YtmkbbekeimnajaaDoorBase
import Derived.Maps.AppendAt
import Derived.Deep.RegionHeld
import Derived.WalkSmall
namespace Go.Proofs.YtmkbbekeimnajaaDoor
open Go.RowKit
theorem lt_keep {w w' : World} {a : Addr} {x : Value} (h : w.cell? a = some x) (hb : Below w.heap.size w w') : w'.cell? a = some x := (hb.cell (World.block_lt_of_cell? w _ h)).trans h

/-- a list of numbers that lies in memory -/
def Ints (w : World) (v : Value) (zs : List Int) : Prop :=
  (v = .slice none 0 0 ∧ zs = []) ∨ ∃ ad cap, v = .slice (some ad) zs.length cap ∧ zs.length ≤ cap ∧ cap ≤ 9223372036854775807 ∧ ∀ (k : Nat) (x : Int), zs[k]? = some x → w.cell? (ad.add k) = some (.int .i64 x)

theorem ints_keep {w w' : World} {v : Value} {zs : List Int} (h : Ints w v zs) (hb : Below w.heap.size w w') : Ints w' v zs := by
  rcases h with h | ⟨ad, cap, h1, h2, h3, h4⟩
  · exact .inl h
  · exact .inr ⟨ad, cap, h1, h2, h3, fun k x hk => lt_keep (h4 k x hk) hb⟩

theorem ints_form {w : World} {v : Value} {zs : List Int} (h : Ints w v zs) : ∃ ao cap, v = .slice ao zs.length cap := by
  rcases h with ⟨rfl, rfl⟩ | ⟨ad, cap, rfl, _⟩
  · exact ⟨_, _, rfl⟩
  · exact ⟨_, _, rfl⟩

theorem ints_get {w : World} {ao : Option Addr} {n cap : Nat} {zs : List Int} (h : Ints w (.slice ao n cap) zs) {i : Nat} {x : Int} (hx : zs[i]? = some x) : ∃ ad, ao = some ad ∧ w.cell? (ad.add i) = some (.int .i64 x) := by
  rcases h with ⟨_, rfl⟩ | ⟨ad, c, hv, _, _, hc⟩
  · simp at hx
  · simp only [Value.slice.injEq] at hv
    exact ⟨ad, hv.1, hc i x hx⟩

/-- cells that an append takes -/
def SrcC (w : World) (v : Value) (m s : Nat) (xs : List Value) : Prop :=
  xs.length = m * s ∧ ((v = .slice none 0 0 ∧ m = 0) ∨ ∃ ad c, v = .slice (some ad) m c ∧ ∀ (j : Nat) (u : Value), xs[j]? = some u → w.cell? (ad.add j) = some u)

theorem srcc_keep {w w' : World} {v : Value} {m s : Nat} {xs : List Value} (h : SrcC w v m s xs) (hb : Below w.heap.size w w') : SrcC w' v m s xs := by
  obtain ⟨h0, h | ⟨ad, c, h1, h2⟩⟩ := h
  · exact ⟨h0, .inl h⟩
  · exact ⟨h0, .inr ⟨ad, c, h1, fun j u hj => lt_keep (h2 j u hj) hb⟩⟩

def intCells (zs : List Int) : List Value := zs.map fun z => .int .i64 z

theorem intCells_len (zs : List Int) : (intCells zs).length = zs.length := by simp [intCells]

theorem intCells_one (zs : List Int) : ∀ u ∈ intCells zs, u.oneCell' = true := by
  intro u hu
  simp only [intCells, List.mem_map] at hu
  obtain ⟨z, _, rfl⟩ := hu
  rfl

theorem srcc_ints {w : World} {v : Value} {zs : List Int} (h : Ints w v zs) : SrcC w v zs.length 1 (intCells zs) := by
  refine ⟨by simp [intCells], ?_⟩
  rcases h with ⟨h1, rfl⟩ | ⟨ad, cap, h1, _, _, h2⟩
  · exact .inl ⟨h1, rfl⟩
  · refine .inr ⟨ad, cap, h1, fun j u hj => ?_⟩
    simp only [intCells, List.getElem?_map, Option.map_eq_some_iff] at hj
    obtain ⟨z, hz, rfl⟩ := hj
    exact h2 j z hz

theorem srcc_src {w : World} {v : Value} {bs : List Nat} (h : Src w v bs) : SrcC w v bs.length 1 (u8s bs) := by
  refine ⟨by simp [u8s], ?_⟩
  rcases h with ⟨_, ⟨h1, rfl⟩ | ⟨ad, cap, h1, _, _, h2⟩⟩
  · exact .inl ⟨h1, rfl⟩
  · refine .inr ⟨ad, cap, h1, fun j u hj => ?_⟩
    simp only [u8s, List.getElem?_map, Option.map_eq_some_iff] at hj
    obtain ⟨z, hz, rfl⟩ := hj
    exact h2 j z hz

set_option maxRecDepth 100000 in
theorem run_row (w : World) (B : Nat) (t ty e : TypeId) (i : TypeInfo) (z : Value) (size bytes : Nat) (ht : Tryd.prog.underlying t = some (.slice e)) (hi : Tryd.prog.info? e = some i) (hz : i.zero = some z)
    (hsize : i.size = size) (hby : i.bytes = bytes) (hzs : z.cells.size = size) (hsz : 0 < size) (v xv : Value) (n m : Nat) (xs news : List Value) (hown : w.ownsRow B e size v n xs) (hs : SrcC w xv m size news) (h1 : ∀ u ∈ news, u.oneCell' = true)
    (h63 : n + m ≤ maxLen) (hbytes : (n + m) * bytes ≤ 140737488355328) (hB : B ≤ w.heap.size) :
    ∃ v' w', (Builtin.append_ #[t, t] ty #[v, xv]).run Tryd.prog w = .ok v' w' ∧ w'.ownsRow B e size v' (n + m) (xs ++ news) ∧ w.grownBy w' v.ownBlock ∧ (v'.ownBlock = v.ownBlock ∨ v'.ownBlock = some w.heap.size) := by
  obtain ⟨hl, ⟨rfl, rfl⟩ | ⟨ad, c, rfl, hc⟩⟩ := hs
  · have hn : news = [] := List.eq_nil_of_length_eq_zero (by rw [hl]; omega)
    subst hn
    refine ⟨v, w, run_append_owned_none (P := Tryd.prog) (w := w) B t ty e i size ht hi v n xs hown, ?_, ⟨rfl, rfl, rfl, Nat.le_refl _, fun _ _ _ => rfl⟩, .inl rfl⟩
    rw [List.append_nil]
    exact hown
  · obtain ⟨v', w', k1, k2, k3, _, k5⟩ := run_append_own_at (P := Tryd.prog) w B t ty e i z size bytes ht hi hz hsize hby hzs hsz v n xs hown ad m c news hl hc h1 h63 hbytes hB
    exact ⟨v', w', k1, k2, k3, k5⟩

theorem step_run {ops : Array Oper} {o : Oper} {a : Act} {K : Act → World → Prop} {Q : Exit → Act → World → Prop} {E : Prop} (t : TypeId) (w w' : World) (v u v' : Value) (hgd : o.guard = none) (s y : Operand)
    (ho : o.op = .call { callee := .builtin .append, args := #[s, y], argTypes := #[t, t] }) (hs : a.eval s = v) (hy : a.eval y = u) (hr : (Builtin.append_ #[t, t] o.type #[v, u]).run Tryd.prog w = .ok v' w') (h : K (a.put o.dst v') w') :
    if Region.wanted o (yielded ops a.tmps) = true then Oper.wp Tryd.prog o a w K Q else E := by
  have hw : Region.wanted o (yielded ops a.tmps) = true := by simp [Region.wanted, hgd]
  rw [if_pos hw]
  unfold Oper.wp execOp
  simp only [ho, resolve, invoke, builtin, Sem.run_bind, Sem.run_pure, Result.andThen_ok, List.map_toArray, List.map_cons, List.map_nil, hs, hy, hr]
  exact h

/-- whatever order: an invariant that each operation that may come up keeps -/
theorem anyH_inv {P : Program} {md : Region.Mode} {ops : Array Oper} {Q : Exit → Act → World → Prop} {S : World → Prop} (m : Nat) (I : Nat → Array Bool → Act → World → Prop)
    (h0 : ∀ listed a w, I 0 listed a w → wpAnyH P md ops Q S m listed a w)
    (hs : ∀ k listed a w, I (k + 1) listed a w → Region.ready md ops listed ≠ [] ∧ ∀ i ∈ Region.ready md ops listed, wpOp P ops Q i (fun a' w' => S w' ∧ I k (listed.setIfInBounds i true) a' w') a w) :
    ∀ k listed a w, I k listed a w → wpAnyH P md ops Q S (m + k) listed a w
  | 0, listed, a, w, h => h0 listed a w h
  | k + 1, listed, a, w, h => ⟨fun h' => absurd h' (hs k listed a w h).1, fun i hi => wpOp_mono (fun _ _ h' => ⟨h'.1, anyH_inv m I h0 hs k _ _ _ h'.2⟩) ((hs k listed a w h).2 i hi)⟩

theorem info3 : (Tryd.prog.info? 3).map (fun i => (i.zero, i.size, i.bytes)) = some (some (.int .i64 0), 1, 8) := by kernel_rfl

theorem row_full' {w : World} {B g n : Nat} {e : TypeId} {xs : List Value} (h : w.ownsRow B e 1 (.slice (some ⟨g, 0, none⟩) n n) n xs) : w.heap[g]? = some (.cells xs.toArray e (0, 0)) := by
  rcases h.2 with ⟨h0, _⟩ | ⟨g', cap, cur, hv, _, hg, _, _, hs, ht⟩
  · cases h0
  · simp only [Value.slice.injEq, Option.some.injEq, Addr.mk.injEq] at hv
    obtain ⟨⟨rfl, _⟩, _, rfl⟩ := hv
    rw [hg]
    have : cur.toList = xs := by rw [← ht, List.take_of_length_le (by simp; omega)]
    rw [← this]
theorem wpList_run {ops : Array Oper} {rest : List Oper} {o : Oper} {a : Act} {Q : Exit → Act → World → Prop} (t : TypeId) (w w' : World) (v u v' : Value) (hgd : o.guard = none) (s y : Operand)
    (ho : o.op = .call { callee := .builtin .append, args := #[s, y], argTypes := #[t, t] }) (hs : a.eval s = v) (hy : a.eval y = u) (hr : (Builtin.append_ #[t, t] o.type #[v, u]).run Tryd.prog w = .ok v' w') (h : wpList Tryd.prog ops Q rest (a.put o.dst v') w') :
    wpList Tryd.prog ops Q (o :: rest) a w := by
  refine wpList_plain hgd fun K hK => ?_
  unfold Oper.wp execOp
  simp only [ho, resolve, invoke, builtin, Sem.run_bind, Sem.run_pure, Result.andThen_ok, List.map_toArray, List.map_cons, List.map_nil, hs, hy, hr]
  exact hK _ _ h
theorem grown_set (w : World) (g i : Nat) (x : Value) : w.grownBy (w.setCell ⟨g, i, none⟩ x) (some g) :=
  ⟨rfl, rfl, rfl, by rw [World.size_setCell]; exact Nat.le_refl _, fun k _ hne => Below.heap_setCell w _ _ k (fun e => hne (by rw [e]))⟩
theorem info83 : (Tryd.prog.info? 83).map (fun i => (i.zero, i.size, i.bytes)) = some (some (.int .u64 0), 1, 8) := by kernel_rfl
theorem info4 : (Tryd.prog.info? 4).map (fun i => (i.zero, i.size, i.bytes)) = some (some (.bool false), 1, 1) := by kernel_rfl
theorem cells2 {w : World} {p : Nat} {a b : Value} {t : TypeId} {fr : Nat × Nat} (h : w.heap[p]? = some (.cells #[a, b] t fr)) : w.cell? ⟨p, 0, none⟩ = some a ∧ w.cell? ⟨p, 1, none⟩ = some b := by
  refine ⟨?_, ?_⟩
  · rw [cell_at h]; rfl
  · rw [cell_at h]; rfl
theorem keepTy_at {w : World} {p i : Nat} {cs : Array Value} {t0 t : TypeId} {fr : Nat × Nat} (h : w.heap[p]? = some (.cells cs t0 fr)) (ht : t0 ≠ t) (x : Value) : KeepTy w (w.setCell ⟨p, i, none⟩ x) t := by
  intro k cs' fr' hk
  have hne : k ≠ p := by
    rintro rfl
    rw [h] at hk
    simp only [Option.some.injEq, Obj.cells.injEq] at hk
    exact ht hk.2.1
  exact (Below.heap_setCell w ⟨p, i, none⟩ x k hne).trans hk
theorem srcc_one {w : World} {Y : Nat} {z : Int} (h : w.heap[Y]? = some (.cells #[.int .i64 z] 3 (0, 0))) : SrcC w (.slice (some ⟨Y, 0, none⟩) 1 1) 1 1 (intCells [z]) :=
  ⟨rfl, .inr ⟨⟨Y, 0, none⟩, 1, rfl, fun j u hj => by
    have e : w.cell? ((⟨Y, 0, none⟩ : Addr).add j) = w.cell? ⟨Y, j, none⟩ := by rw [Addr.add_lit, Nat.zero_add]
    rw [e, cell_at h]
    simpa [intCells] using hj⟩⟩
theorem get_lt' {α : Type} {l : List α} {k : Nat} {x : α} (h : l[k]? = some x) : k < l.length := (List.getElem?_eq_some_iff.1 h).1
theorem srcc_byte {w : World} {Y x : Nat} (h : w.heap[Y]? = some (.cells #[.int .u8 (x : Nat)] 5 (0, 0))) : SrcC w (.slice (some ⟨Y, 0, none⟩) 1 1) 1 1 (u8s [x]) :=
  ⟨rfl, .inr ⟨⟨Y, 0, none⟩, 1, rfl, fun j u hj => by
    have e : w.cell? ((⟨Y, 0, none⟩ : Addr).add j) = w.cell? ⟨Y, j, none⟩ := by rw [Addr.add_lit, Nat.zero_add]
    rw [e, cell_at h]
    simpa [u8s] using hj⟩⟩
end Go.Proofs.YtmkbbekeimnajaaDoor
