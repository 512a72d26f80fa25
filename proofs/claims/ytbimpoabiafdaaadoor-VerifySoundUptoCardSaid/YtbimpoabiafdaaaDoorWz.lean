/- the law's ways: what holds while one instruction's successors are gone through -/
import Derived.Test.YtbimpoabiafdaaaDoorWa
namespace Go.Proofs.YtbimpoabiafdaaaDoor
open Go.RowKit Vf
structure WyIn (P : Prg) (c : List Ins) (W wr : World) (g1 g2 B : Nat) (hs : List Nat) (seen : List Bool) (v : Value) (todo : List Nat) (i q h' M : Nat) (ts : List Nat) (j : Nat) : Prop where
  at_ : WayAt wr g1 g2 B hs seen v todo
  wv : Wv (sz P) c hs seen todo (some i)
  sum : todo.length + unseen seen = M
  high : ∀ g ∈ hs, g + unseen seen ≤ c.length
  hq : hs[i]? = some q
  done : ∀ k t : Nat, k < j → ts[k]? = some t → seen[t]? = some true ∧ hs[t]? = some h'
  below : Below W.heap.size W wr
section
variable {P : Prg} {c : List Ins} {W wr wr' : World} {g1 g2 B : Nat} {hs : List Nat} {seen : List Bool} {v v' : Value} {todo : List Nat} {i q h' M : Nat} {ts : List Nat} {j t : Nat}
theorem wyin_keep (h : WyIn P c W wr g1 g2 B hs seen v todo i q h' M ts j) (hb : Below wr.heap.size wr wr') : WyIn P c W wr' g1 g2 B hs seen v todo i q h' M ts j :=
  ⟨wa_keep h.at_ hb, h.wv, h.sum, h.high, h.hq, h.done, h.below.trans (hb.mono h.below.size)⟩
theorem wyin_old (h : WyIn P c W wr g1 g2 B hs seen v todo i q h' M ts j) (ht : ts[j]? = some t) (h1 : seen[t]? = some true) (h2 : hs[t]? = some h') : WyIn P c W wr g1 g2 B hs seen v todo i q h' M ts (j + 1) :=
  ⟨h.at_, h.wv, h.sum, h.high, h.hq, fun k u hk hu => by
    by_cases e : k = j
    · subst e
      obtain rfl : t = u := Option.some.inj (ht.symm.trans hu)
      exact ⟨h1, h2⟩
    · exact h.done k u (by omega) hu, h.below⟩
theorem wyin_new (h : WyIn P c W wr g1 g2 B hs seen v todo i q h' M ts j) (ht : ts[j]? = some t) (h1 : seen[t]? = some false) (hH : ∀ H : List Nat, Vf.Good (sz P) c H → H[t]? = some h') (hle : h' ≤ q + 1)
    (hw : WayAt wr' g1 g2 B (hs.set t h') (seen.set t true) v' (todo ++ [t])) (hb : Below W.heap.size W wr') : WyIn P c W wr' g1 g2 B (hs.set t h') (seen.set t true) v' (todo ++ [t]) i q h' M ts (j + 1) := by
  have hu := unseen_set h1
  have hs1 := h.sum
  have hqn := h.high q (List.mem_of_getElem? h.hq)
  have hpi := h.wv.pend i rfl
  have hne : t ≠ i := fun e => by rw [e, hpi] at h1; cases h1
  have htl : t < hs.length := by rw [h.wv.hlen, ← h.wv.slen]; exact get_lt h1
  refine ⟨hw, wv_new h.wv t h' h1 hH, by rw [List.length_append, List.length_singleton]; omega, fun g hg => ?_, ?_, fun k u hk hku => ?_, hb⟩
  · rcases List.mem_or_eq_of_mem_set hg with hg | hg
    · have := h.high g hg; omega
    · omega
  · rw [List.getElem?_set_ne hne]; exact h.hq
  · by_cases e : t = u
    · subst e
      rw [List.getElem?_set_self (get_lt h1), List.getElem?_set_self htl]
      exact ⟨rfl, rfl⟩
    · rw [List.getElem?_set_ne e, List.getElem?_set_ne e]
      by_cases ek : k = j
      · subst ek
        exact absurd (Option.some.inj (ht.symm.trans hku)) e
      · exact h.done k u (by omega) hku
/-- the successors of instruction i -/
def Succ (c : List Ins) (x : Ins) (i : Nat) (ts : List Nat) : Prop :=
  (ts = [i + 1] ∧ ¬ (x.1 = 15 ∨ x.1 = 16)) ∨ (ts = [i + 1, i + 1 + x.2.1] ∧ (x.1 = 15 ∨ x.1 = 16) ∧ i + 1 + x.2.1 < c.length)
theorem succ_goal {x : Ins} (W : Wv (sz P) c hs seen todo (some i)) (hx : c[i]? = some x) (hq : hs[i]? = some q) (hst : opnd (sz P) x = true ∧ eff x q = some h') (hlt : i + 1 < c.length) (hS : Succ c x i ts) (ht : ts[j]? = some t) :
    t < c.length ∧ ∀ H : List Nat, Vf.Good (sz P) c H → H[t]? = some h' := by
  have key : ∀ H : List Nat, Vf.Good (sz P) c H → H[i + 1]? = some h' ∧ (x.1 = 15 ∨ x.1 = 16 → H[i + 1 + x.2.1]? = some h') := fun H hH => by
    obtain ⟨h2, _, e2, _, h4, h5⟩ := wv_now W hx hq hH
    rw [hst.2] at e2
    obtain rfl := Option.some.inj e2
    exact ⟨h4 hlt, fun k => (h5 k).2⟩
  rcases hS with ⟨rfl, _⟩ | ⟨rfl, hj, hl⟩
  · match j, ht with
    | 0, ht =>
      simp at ht; subst ht
      exact ⟨hlt, fun H hH => (key H hH).1⟩
  · match j, ht with
    | 0, ht =>
      simp at ht; subst ht
      exact ⟨hlt, fun H hH => (key H hH).1⟩
    | 1, ht =>
      simp at ht; subst ht
      exact ⟨hl, fun H hH => (key H hH).2 hj⟩
theorem wyin_end {x : Ins} (h : WyIn P c W wr g1 g2 B hs seen v todo i q h' M ts j) (hj : ts.length ≤ j) (hx : c[i]? = some x) (hst : opnd (sz P) x = true ∧ eff x q = some h') (h0 : x.1 ≠ 0) (hlt : i + 1 < c.length) (hS : Succ c x i ts) : Wv (sz P) c hs seen todo none := by
  refine wv_done h.wv ⟨x, q, h', hx, h.hq, hst.1, hst.2, ⟨fun k => absurd k h0, fun k => by omega⟩, fun _ => ?_, fun k => ?_⟩
  · rcases hS with ⟨rfl, _⟩ | ⟨rfl, _, _⟩
    · exact h.done 0 (i + 1) (by simp at hj; omega) rfl
    · exact h.done 0 (i + 1) (by simp at hj; omega) rfl
  · rcases hS with ⟨rfl, hn⟩ | ⟨rfl, _, hl⟩
    · exact absurd k hn
    · exact ⟨hl, h.done 1 (i + 1 + x.2.1) (by simp at hj; omega) rfl⟩
theorem wyin_start (hw : WayAt wr g1 g2 B hs seen v todo) (W' : Wv (sz P) c hs seen todo (some i)) (hs' : todo.length + unseen seen = M) (hh : ∀ g ∈ hs, g + unseen seen ≤ c.length) (hq : hs[i]? = some q) (hb : Below W.heap.size W wr) :
    WyIn P c W wr g1 g2 B hs seen v todo i q h' M ts 0 := ⟨hw, W', hs', hh, hq, fun k _ hk => by omega, hb⟩
end
theorem wa_keepY {w w' : World} {Y g1 g2 B : Nat} {hs : List Nat} {seen : List Bool} {v : Value} {todo : List Nat} (h : WayAt w g1 g2 B hs seen v todo) (hb : Below Y w w') (h1 : g1 < Y) (h2 : g2 < Y) (h0 : ∀ k, v.ownBlock = some k → k < Y) : WayAt w' g1 g2 B hs seen v todo := by
  refine ⟨(hb.block _ h1).trans h.h, (hb.block _ h2).trans h.s, ?_, h.ne, h.l1, h.l2, Nat.le_trans h.hB hb.size⟩
  refine ⟨h.t.1, ?_⟩
  rcases h.t.2 with hn | ⟨g, cap, cur, rfl, hbg, hh, rest⟩
  · exact .inl hn
  · exact .inr ⟨g, cap, cur, rfl, hbg, (hb.block _ (h0 g rfl)).trans hh, rest⟩
/-- the successors in memory: in a block that is none of the others -/
def TsAt (w : World) (Y g1 g2 : Nat) (v : Value) (ts : List Nat) : Prop := v.ownBlock ≠ some Y ∧ Y ≠ g1 ∧ Y ≠ g2 ∧ ∃ cs : Array Value, w.heap[Y]? = some (.cells cs 3 (0, 0)) ∧ ∀ k t : Nat, ts[k]? = some t → cs[k]? = some (.int .i64 (t : Nat))
theorem tsat_cell {w : World} {Y g1 g2 : Nat} {v : Value} {ts : List Nat} (h : TsAt w Y g1 g2 v ts) {k t : Nat} (hk : ts[k]? = some t) : w.cell? ⟨Y, k, none⟩ = some (.int .i64 (t : Nat)) := by
  obtain ⟨_, _, _, cs, hh, hc⟩ := h
  rw [cell_at hh]
  exact hc k t hk
theorem tsat_keep {w w' : World} {Y g1 g2 : Nat} {v : Value} {ts : List Nat} (h : TsAt w Y g1 g2 v ts) (hb : Below w.heap.size w w') : TsAt w' Y g1 g2 v ts := by
  obtain ⟨h1, h2, h3, cs, hh, hc⟩ := h
  exact ⟨h1, h2, h3, cs, (hb.block _ (heap_lt hh)).trans hh, hc⟩
theorem tsat_set {w : World} {Y g1 g2 : Nat} {v : Value} {ts : List Nat} (h : TsAt w Y g1 g2 v ts) {g : Nat} (hg : g = g1 ∨ g = g2) (k : Nat) (x : Value) : TsAt (w.setCell ⟨g, k, none⟩ x) Y g1 g2 v ts := by
  obtain ⟨h1, h2, h3, cs, hh, hc⟩ := h
  exact ⟨h1, h2, h3, cs, heap_else hh (by rcases hg with rfl | rfl <;> assumption) x, hc⟩
theorem tsat_grown {w w' : World} {Y g1 g2 : Nat} {v v' : Value} {ts : List Nat} (h : TsAt w Y g1 g2 v ts) (hg : w.grownBy w' v.ownBlock) (hat : v'.ownBlock = v.ownBlock ∨ v'.ownBlock = some w.heap.size) : TsAt w' Y g1 g2 v' ts := by
  obtain ⟨h1, h2, h3, cs, hh, hc⟩ := h
  have hl := heap_lt hh
  refine ⟨fun e => ?_, h2, h3, cs, (hg.block _ hl (fun e => h1 e.symm)).trans hh, hc⟩
  rcases hat with h | h
  · rw [h] at e; exact h1 e
  · rw [h] at e; simp only [Option.some.injEq] at e; omega
theorem ts_one {w : World} {Y g1 g2 x : Nat} {v : Value} (h0 : ∀ k, v.ownBlock = some k → k < Y) (h1 : g1 < Y) (h2 : g2 < Y) (hY : w.heap[Y]? = some (.cells #[.int .i64 ((x : Int) + 1)] 3 (0, 0))) : TsAt w Y g1 g2 v [x + 1] :=
  ⟨fun e => by have := h0 Y e; omega, by omega, by omega, _, hY, fun k t hk => by
    match k, hk with
    | 0, hk => simp at hk; subst hk; simp⟩
set_option maxRecDepth 100000 in
/-- a second successor is put behind the first -/
theorem append_ts {ops : Array Oper} {rest : List Oper} {o : Oper} {a : Act} {Q : Exit → Act → World → Prop} (w : World) (Y g1 g2 g : Nat) (v0 : Value) (x y : Nat) (hgd : o.guard = none) (s z : Operand)
    (ho : o.op = .call { callee := .builtin .append, args := #[s, z], argTypes := #[22, 22] }) (hs : a.eval s = .slice (some ⟨Y, 0, none⟩) 1 1) (hz : a.eval z = .slice (some ⟨g, 0, none⟩) 1 1)
    (hY : w.heap[Y]? = some (.cells #[.int .i64 (x : Nat)] 3 (0, 0))) (hh : w.heap[g]? = some (.cells #[.int .i64 (y : Nat)] 3 (0, 0))) (h1 : g1 < Y) (h2 : g2 < Y) (h0 : ∀ k, v0.ownBlock = some k → k < Y)
    (h : ∀ G cap w', TsAt w' G g1 g2 v0 [x, y] → 2 ≤ cap → cap ≤ 9223372036854775807 → Below Y w w' → wpList Tryd.prog ops Q rest (a.put o.dst (.slice (some ⟨G, 0, none⟩) 2 cap)) w') :
    wpList Tryd.prog ops Q (o :: rest) a w := by
  obtain ⟨i0, hi, hz0, hz1, hz2⟩ := info_parts info3
  have hrow : w.ownsRow Y 3 1 (.slice (some ⟨Y, 0, none⟩) 1 1) 1 (nats [x]) := ⟨rfl, .inr ⟨Y, 1, #[.int .i64 (x : Nat)], rfl, Nat.le_refl _, hY, Nat.le_refl _, by simp [maxLen], rfl, rfl⟩⟩
  refine wpList_append_own_at w hgd s z 22 ho Y 3 i0 (.int .i64 0) 1 8 Tryd.underlying22 hi hz0 hz1 hz2 rfl (by decide) (.slice (some ⟨Y, 0, none⟩) 1 1) 1 (nats [x]) hs hrow ⟨g, 0, none⟩ 1 1 (nats [y]) hz rfl ?_ (nats_one _) (by simp only [maxLen]; omega) (by omega) (Nat.le_of_lt (heap_lt hY)) ?_
  · intro j u hu
    have e : w.cell? ((⟨g, 0, none⟩ : Addr).add j) = w.cell? ⟨g, j, none⟩ := by rw [Addr.add_lit, Nat.zero_add]
    rw [e, cell_at hh]
    simpa [nats] using hu
  · intro v' w' hown' hg _ hat
    have hb : Below Y w w' := (Below.refl Y w).grown hg (Nat.le_of_lt (heap_lt hY)) (fun k hk => by simp only [Value.ownBlock, Option.some.injEq] at hk; omega)
    rcases hown'.2 with ⟨_, h0'⟩ | ⟨G, cap, cur, rfl, hb', hh', hn, hm, hsz, htk⟩
    · cases h0'
    · refine h G cap w' ⟨fun e => ?_, by omega, by omega, cur, hh', fun k t hk => ?_⟩ hn (by unfold maxLen at hm; omega) hb
      · have := h0 G e; omega
      · have hk2 : k < 2 := get_lt hk
        have h3 : (cur.toList.take ((1 + 1) * 1))[k]? = (nats [x] ++ nats [y])[k]? := by rw [htk]
        rw [List.getElem?_take, if_pos (by omega)] at h3
        match k, hk2, hk with
        | 0, _, hk => simp at hk; subst hk; simpa [nats] using h3
        | 1, _, hk => simp at hk; subst hk; simpa [nats] using h3
end Go.Proofs.YtbimpoabiafdaaaDoor
