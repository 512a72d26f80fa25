/- concordmem.OwnInts -/
import Derived.Test.YtbimpoabiafdaaaDoorOwi
import Derived.Deep.RegionHeldLaw
import Derived.Deep.DeepCutAuto
namespace Go.Proofs.YtbimpoabiafdaaaDoor
open Go.RowKit Vf
def markH (i j : Int) : Int := IntKind.u64.wrap (IntKind.u64.wrap (IntKind.u64.wrap (wrap64 (i + 1)) * 11400714819323198485) + IntKind.u64.wrap (IntKind.u64.wrap (wrap64 (j + 1)) * 13787848793156543929))
def mark (i j : Int) : Int := wrap64 (wrap64 (IntKind.u64.wrap (bits .xor .u64 (markH i j) (markH i j / 536870912) * 10723151780598845931) / 8589934592) + 1)
def mb (i j : Nat) : Int := mark i j
set_option maxRecDepth 100000 in
theorem mark_any (w : World) (i j : Nat) :
    Calls Tryd.prog 29 #[.int .i64 i, .int .i64 j] w fun e w' => e = .returned (.int .i64 (mb i j)) ∧ w = w' := by
  go_enter Tryd.func29, Tryd.ntmps29
  go_wp2
  go_ret
  exact ⟨rfl, rfl⟩
theorem owi_ints {w : World} {B : Nat} {v : Value} {zs : List Int} (h : OwI w B v zs) : Ints w v zs := own_ints h
theorem ints_one {w : World} {v : Value} {zs : List Int} (h : Ints w v zs) : v.oneCell' = true := by
  obtain ⟨a, c, rfl⟩ := ints_form h
  rfl
/-- the headers of some rows, in a block of their own -/
def Heads (w : World) (L : Nat) (vs : List Value) : Prop := ∃ cs : Array Value, w.heap[L]? = some (.cells cs 22 (0, 0)) ∧ ∀ (k : Nat) (v : Value), vs[k]? = some v → cs[k]? = some v
def mrow (i n : Nat) : List Int := (List.range n).map (mb i)
theorem mrow_len (i n : Nat) : (mrow i n).length = n := by simp [mrow]
theorem mrow_lt (i n : Nat) : ∀ x ∈ mrow i n, x = x := fun _ _ => rfl
theorem mrow_succ (i n : Nat) : mrow i (n + 1) = mrow i n ++ [mb i n] := by simp [mrow, List.range_succ]
theorem mrow_get (i n j : Nat) (h : j < n) : (mrow i n)[j]? = some (mb i j) := by simp [mrow, h]
theorem heads_cell {w : World} {L : Nat} {vs : List Value} (h : Heads w L vs) {k : Nat} {v : Value} (hv : vs[k]? = some v) : w.cell? ⟨L, k, none⟩ = some v := by
  obtain ⟨cs, hh, hc⟩ := h
  rw [cell_at hh]
  exact hc k v hv
theorem heads_free {w : World} {L : Nat} {vs : List Value} (h : Heads w L vs) (k : Nat) : w.frozen? ⟨L, k, none⟩ = false := by
  obtain ⟨cs, hh, hc⟩ := h
  exact free_at hh k
theorem heads_set {w : World} {L : Nat} {vs : List Value} (h : Heads w L vs) (k : Nat) (v : Value) : Heads (w.setCell ⟨L, k, none⟩ v) L (vs.set k v) := by
  obtain ⟨cs, hh, hc⟩ := h
  refine ⟨_, heap_set hh v, fun j u hj => ?_⟩
  by_cases hjk : j = k
  · subst hjk
    have hl : j < vs.length := by have := (List.getElem?_eq_some_iff.1 hj).1; simpa using this
    rw [List.getElem?_set_self hl, Option.some.injEq] at hj
    subst hj
    have hl2 : j < cs.size := by
      have := hc j vs[j] (List.getElem?_eq_getElem hl)
      exact (Array.getElem?_eq_some_iff.1 this).1
    rw [Array.getElem?_setIfInBounds_self_of_lt hl2]
  · rw [List.getElem?_set_ne (fun e => hjk e.symm)] at hj
    rw [Array.getElem?_setIfInBounds_ne (fun e => hjk e.symm)]
    exact hc j u hj
theorem heads_block {w w' : World} {L : Nat} {vs : List Value} (h : Heads w L vs) (hb : w'.heap[L]? = w.heap[L]?) : Heads w' L vs := by
  obtain ⟨cs, hh, hc⟩ := h
  exact ⟨cs, hb.trans hh, hc⟩
theorem heads_lt {w : World} {L : Nat} {vs : List Value} (h : Heads w L vs) : L < w.heap.size := by
  obtain ⟨cs, hh, hc⟩ := h
  exact heap_lt hh
theorem heads_rows {w : World} {B L : Nat} {vs : List Value} {rows : List Rw} (h : Heads w L vs) (hF : Fam w B rows) : ¬ InRows rows L := by
  rintro ⟨k, r, hr, hg⟩
  obtain ⟨cs, hh, _⟩ := h
  exact owi_type (hF.1 k r hr).1 hh (by decide) hg
/-- headers stay where a row grows -/
theorem heads_grown {w w' : World} {B L g cap : Nat} {x : Int} {vs : List Value} {v : Value} {bs : List Int} (h : Heads w L vs) (ho : OwI w B v bs) (hg : Grown w B v bs x g cap w') : Heads w' L vs := by
  refine heads_block h ?_
  rcases hg.2 with ⟨rfl, h1⟩ | ⟨_, h1⟩
  · refine h1.block L (heads_lt h) (fun e => ?_)
    obtain ⟨cs, hh, _⟩ := h
    exact owi_type ho hh (by decide) (by rw [e]; rfl)
  · exact h1.block L (heads_lt h)

/-- the rows of which the first i are marked, and of row i the first j bytes -/
def marked (rows : List Rw) (i j : Nat) : List Rw := rows.mapIdx fun k r => (r.1, if k < i then mrow k r.2.length else if k = i then mrow i j ++ r.2.drop j else r.2)
theorem marked_len (rows : List Rw) (i j : Nat) : (marked rows i j).length = rows.length := by simp [marked]
theorem marked_get (rows : List Rw) (i j k : Nat) : (marked rows i j)[k]? = rows[k]?.map fun r => (r.1, if k < i then mrow k r.2.length else if k = i then mrow i j ++ r.2.drop j else r.2) := by simp [marked]
theorem marked_zero (rows : List Rw) : marked rows 0 0 = rows := by
  apply List.ext_getElem?
  intro k
  rw [marked_get]
  cases hk : rows[k]? with
  | none => rfl
  | some r =>
    simp only [Option.map_some, Nat.not_lt_zero, if_false, Option.some.injEq]
    by_cases h : k = 0
    · subst h; simp [mrow]
    · rw [if_neg h]
theorem marked_next (rows : List Rw) (i : Nat) (r : Rw) (h : rows[i]? = some r) : marked rows i r.2.length = marked rows (i + 1) 0 := by
  apply List.ext_getElem?
  intro k
  rw [marked_get, marked_get]
  cases hk : rows[k]? with
  | none => rfl
  | some r' =>
    simp only [Option.map_some, Option.some.injEq, Prod.mk.injEq, true_and]
    rcases Nat.lt_trichotomy k i with h1 | h1 | h1
    · rw [if_pos h1, if_pos (by omega)]
    · subst h1
      rw [if_neg (by omega), if_pos rfl, if_pos (by omega)]
      obtain rfl : r = r' := Option.some.inj (h.symm.trans hk)
      simp
    · rw [if_neg (by omega), if_neg (by omega), if_neg (by omega)]
      by_cases h2 : k = i + 1
      · rw [if_pos h2]; simp [mrow]
      · rw [if_neg h2]
theorem marked_step (rows : List Rw) (i j : Nat) (r : Rw) (h : rows[i]? = some r) (hj : j < r.2.length) :
    (marked rows i j).set i (r.1, (mrow i j ++ r.2.drop j).set j (mb i j)) = marked rows i (j + 1) := by
  have hil := (List.getElem?_eq_some_iff.1 h).1
  apply List.ext_getElem?
  intro k
  by_cases hk : k = i
  · subst hk
    rw [List.getElem?_set_self (by rw [marked_len]; exact hil), marked_get, h]
    simp only [Option.map_some, Option.some.injEq, Prod.mk.injEq, true_and]
    rw [if_neg (by omega), if_pos trivial, mrow_succ, List.append_assoc]
    rw [List.set_append_right _ _ (by rw [mrow_len]; exact Nat.le_refl _), mrow_len, Nat.sub_self]
    rw [List.drop_eq_getElem_cons hj]
    rfl
  · rw [List.getElem?_set_ne (fun e => hk e.symm), marked_get, marked_get]
    cases hr : rows[k]? with
    | none => rfl
    | some r' => simp only [Option.map_some, if_neg hk]
/-- what the rows hold while they grow -/
def Cont (rows cur : List Rw) (i q : Nat) : Prop := ∀ (k : Nat) (r : Rw), rows[k]? = some r → ∃ v, cur[k]? = some (v, mrow k (r.2.length + if k < i then q + 1 else q))
theorem cont_start (rows : List Rw) (n : Nat) (hn : rows.length = n) : Cont rows (marked rows n 0) 0 0 := by
  intro k r hr
  have hk := (List.getElem?_eq_some_iff.1 hr).1
  exact ⟨r.1, by rw [marked_get, hr]; simp; omega⟩
theorem cont_next {rows cur : List Rw} {n q : Nat} (hn : rows.length = n) (h : Cont rows cur n q) : Cont rows cur 0 (q + 1) := by
  intro k r hr
  have hk := (List.getElem?_eq_some_iff.1 hr).1
  obtain ⟨v, hv⟩ := h k r hr
  exact ⟨v, by rw [hv, if_pos (by omega), if_neg (by omega)]⟩
theorem cont_step {rows cur : List Rw} {i q : Nat} {r : Rw} {v : Value} (h : Cont rows cur i q) (hr : rows[i]? = some r) (hil : i < cur.length) :
    Cont rows (cur.set i (v, mrow i (r.2.length + q) ++ [mb i (r.2.length + q)])) (i + 1) q := by
  intro k r' hr'
  by_cases hk : k = i
  · subst hk
    obtain rfl : r = r' := Option.some.inj (hr.symm.trans hr')
    refine ⟨v, ?_⟩
    rw [List.getElem?_set_self hil, if_pos (by omega), ← mrow_succ]
    rfl
  · obtain ⟨u, hu⟩ := h k r' hr'
    refine ⟨u, ?_⟩
    rw [List.getElem?_set_ne (fun e => hk e.symm), hu]
    by_cases h1 : k < i
    · rw [if_pos h1, if_pos (by omega)]
    · rw [if_neg h1, if_neg (by omega)]
theorem info22 : (Tryd.prog.info? 22).map (fun i => (i.zero, i.size, i.bytes)) = some (some (.slice none 0 0), 1, 24) := by kernel_rfl
theorem owi_cells {w : World} {B g n cap : Nat} {xs : List Int} (h : OwI w B (.slice (some ⟨g, 0, none⟩) n cap) xs) (j : Nat) (x : Int) (hx : xs[j]? = some x) : w.cell? ⟨g, j, none⟩ = some (.int .i64 x) ∧ w.frozen? ⟨g, j, none⟩ = false := by
  have hj := (List.getElem?_eq_some_iff.1 hx).1
  rcases h.2 with ⟨h, _⟩ | ⟨g', cap', cur, hv, hb, hh, hn, hm, hs, ht⟩
  · simp at h
  · simp only [Value.slice.injEq, Option.some.injEq, Addr.mk.injEq] at hv
    obtain ⟨⟨rfl, _⟩, _, rfl⟩ := hv
    refine ⟨?_, free_at hh j⟩
    have hu : (intCells xs)[j]? = some (.int .i64 x) := by simp [intCells, hx]
    rw [← ht, List.getElem?_take, if_pos (by omega), Array.getElem?_toList] at hu
    rw [cell_at hh]
    exact hu
theorem owi_cap {w : World} {B g n cap : Nat} {xs : List Int} (h : OwI w B (.slice (some ⟨g, 0, none⟩) n cap) xs) : n ≤ cap ∧ cap ≤ 9223372036854775807 := by
  rcases h.2 with ⟨h, _⟩ | ⟨g', cap', cur, hv, hb, hh, hn, hm, hs, ht⟩
  · simp at h
  · simp only [Value.slice.injEq, Option.some.injEq, Addr.mk.injEq] at hv
    obtain ⟨⟨rfl, _⟩, rfl, rfl⟩ := hv
    exact ⟨hn, hm⟩

theorem inrows_marked (rows : List Rw) (i j : Nat) : InRows (marked rows i j) = InRows rows := by
  funext g
  apply propext
  constructor
  · rintro ⟨k, r, hr, hg⟩
    rw [marked_get] at hr
    obtain ⟨r', h1, rfl⟩ := Option.map_eq_some_iff.1 hr
    exact ⟨k, r', h1, hg⟩
  · rintro ⟨k, r, hr, hg⟩
    exact ⟨k, (r.1, if k < i then mrow k r.2.length else if k = i then mrow i j ++ r.2.drop j else r.2), by rw [marked_get, hr, Option.map_some], hg⟩
theorem heads_alloc {w : World} {L : Nat} {vs : List Value} (h : Heads w L vs) (o : Obj) : Heads (w.alloc o) L vs := heads_block h (Below.heap_alloc _ _ _ (heads_lt h))
theorem step_growH {ops : Array Oper} {o : Oper} {a : Act} {K : Act → World → Prop} {Q : Exit → Act → World → Prop} {E : Prop} (w : World) (B : Nat) (v : Value) (cur : List Int) (x : Int) (hgd : o.guard = none) (s y : Operand)
    (ho : o.op = .call { callee := .builtin .append, args := #[s, y], argTypes := #[22, 22] }) (hs : a.eval s = v) (ad : Addr) (c : Nat) (hy : a.eval y = .slice (some ad) 1 c)
    (hown : OwI w B v cur) (hnew : w.cell? ad = some (.int .i64 x)) (hl : cur.length + 1 ≤ 17592186044416) (hB : B ≤ w.heap.size) (G k : Nat) (vs : List Value) (hH : Heads w G vs) (hk : vs[k]? = some v)
    (h : ∀ g cap w', Grown w B v cur x g cap w' → w'.cell? ⟨G, k, none⟩ = some v → w'.frozen? ⟨G, k, none⟩ = false → K (a.put o.dst (.slice (some ⟨g, 0, none⟩) (cur.length + 1) cap)) w') :
    if Region.wanted o (yielded ops a.tmps) = true then Oper.wp Tryd.prog o a w K Q else E :=
  step_grow w B v cur x hgd s y ho hs ad c hy hown hnew hl hB fun g cap w' hg => h g cap w' hg (heads_cell (heads_grown hH hown hg) hk) (heads_free (heads_grown hH hown hg) k)
theorem lit_own (w : World) : (w.alloc (.cells #[] 22)).ownsRow w.heap.size 22 1 (.slice (some ⟨w.heap.size, 0, none⟩) 0 0) 0 [] := by
  have h := World.ownsRow_lit (base := w.heap.size) (e := 22) (size := 1) w #[] 0 (Nat.le_refl _) (by simp [maxLen]) (by simp)
  simpa using h
theorem heads_own {w : World} {B G n cap : Nat} {vs : List Value} (h : w.ownsRow B 22 1 (.slice (some ⟨G, 0, none⟩) n cap) n vs) : Heads w G vs ∧ n ≤ cap ∧ cap ≤ 9223372036854775807 ∧ B ≤ G := by
  rcases h.2 with ⟨h0, _⟩ | ⟨g', cap', cur, hv, hb, hh, hn, hm, hs, ht⟩
  · cases h0
  · simp only [Value.slice.injEq, Option.some.injEq, Addr.mk.injEq] at hv
    obtain ⟨⟨rfl, _⟩, _, rfl⟩ := hv
    refine ⟨⟨cur, hh, fun k v hk => ?_⟩, hn, hm, hb⟩
    have hkl := (List.getElem?_eq_some_iff.1 hk).1
    rw [← ht, List.getElem?_take] at hk
    split at hk
    · simpa using hk
    · cases hk

set_option maxRecDepth 100000 in
set_option maxHeartbeats 4000000 in
theorem owni_any (w : World) (B L n cap : Nat) (rows : List Rw) (hn : rows.length = n) (hn0 : 0 < n) (hnl : n ≤ 1099511627776) (hcap : n ≤ cap) (hcm : cap ≤ 9223372036854775807) (hH : Heads w L (rows.map (·.1))) (hF : Fam w B rows) (hB : B ≤ w.heap.size)
    (hl : ∀ (k : Nat) (r : Rw), rows[k]? = some r → r.2.length ≤ 1099511627776) :
    Calls Tryd.prog 17 #[.slice (some ⟨L, 0, none⟩) n cap] w fun e w' => e = .returned (.bool true) ∧ (∀ (k : Nat) (r : Rw), rows[k]? = some r → OwI w' B r.1 (mrow k r.2.length)) ∧ Foot w w' (InRows rows) := by
  have HN := hide hn
  have HH := hide hH
  have HF := hide hF
  have HL := hide hl
  have HNL := heads_rows hH hF
  have HNI := hide HNL
  have row : ∀ i, i < n → ∃ r, rows[i]? = some r := fun i hi => ⟨_, List.getElem?_eq_getElem (by rw [hn]; exact hi)⟩
  have HR := hide row
  have hLl := heads_lt hH
  clear hn hH hF hl HNL row
  go_enter Tryd.func17, Tryd.ntmps17
  go_wp2_with fail
  go_loopw [15] (fun c wr => ∃ i : Nat, i ≤ n ∧ c = .int .i64 i ∧ Fam wr B (marked rows i 0) ∧ Foot w wr (InRows rows)) (fun c _ => n - (intOf c).toNat)
  case atStart => exact ⟨0, by omega, rfl, by rw [marked_zero]; exact HF.out, Foot.refl _ _⟩
  case round =>
    obtain ⟨i, hi, rfl, hf, hft⟩ := hrel
    have HFa := hide hf
    have HFt := hide hft
    have hsr := hft.size
    clear hf hft
    have HHr := hide (heads_block HH.out (HFt.out.block L hLl HNI.out))
    by_cases hlt : i < n
    · obtain ⟨r, hr⟩ := HR.out i hlt
      have hi1 : (i : Int) < (n : Int) := by omega
      have hc0 : wr.cell? ⟨L, i, none⟩ = some r.1 := heads_cell HHr.out (k := i) (by rw [List.getElem?_map, hr]; rfl)
      obtain ⟨ro, m, rc, hm, hv⟩ : ∃ ro m rc, r.2.length = m ∧ r.1 = .slice ro m rc := by
        obtain ⟨ao, c, h⟩ := ints_form (owi_ints (HF.out.1 i r hr).1)
        exact ⟨ao, _, c, rfl, h⟩
      rw [hv] at hc0
      have HRr := hide hr
      have HM := hide hm
      have HV := hide hv
      clear hr hm hv
      go_wp2_with fail
      go_loopw [22] (fun c wr => ∃ j : Nat, j ≤ m ∧ c = .int .i64 j ∧ Fam wr B (marked rows i j) ∧ Foot w wr (InRows rows)) (fun c _ => m - (intOf c).toNat)
      case atStart => exact ⟨0, by omega, rfl, HFa.out, HFt.out⟩
      case round =>
        obtain ⟨j, hj, rfl, hf, hft⟩ := hrel
        have HFb := hide hf
        have HFu := hide hft
        clear hf hft
        by_cases hjm : j < m
        · have hj1 : (j : Int) < (m : Int) := by omega
          have hget : (marked rows i j)[i]? = some (r.1, mrow i j ++ r.2.drop j) := by
            rw [marked_get, HRr.out]
            simp
          have hown : OwI wr B r.1 (mrow i j ++ r.2.drop j) := (HFb.out.1 i _ hget).1
          have hlen : (mrow i j ++ r.2.drop j).length = m := by rw [List.length_append, mrow_len, List.length_drop, HM.out]; omega
          obtain ⟨g, c', hg⟩ := owi_form hown (by omega)
          rw [hlen, HV.out] at hg
          simp only [Value.slice.injEq] at hg
          obtain ⟨rfl, _, rfl⟩ := hg
          obtain ⟨x, hx⟩ : ∃ x, (mrow i j ++ r.2.drop j)[j]? = some x := ⟨_, List.getElem?_eq_getElem (by omega)⟩
          have hown2 := hown
          simp only [HV.out] at hown2
          obtain ⟨hc1, hf1⟩ := owi_cells hown2 j x hx
          have hrc := owi_cap hown2
          have HG := hide hget
          have HMk := hide (mark_any wr i j)
          clear hx hown hown2 hlen hget
          go_wp2_with fail
          refine HMk.out.mono ?_
          rintro e w' ⟨rfl, rfl⟩
          go_wp2_with fail
          have hfp := fam_put HFb.out i j (mb i j) (by rw [HG.out, HV.out]) rfl
          rw [← HV.out, marked_step rows i j r HRr.out (by rw [HM.out]; exact hjm)] at hfp
          have hS : InRows rows g := ⟨i, r, HRr.out, by rw [HV.out]; rfl⟩
          exact ⟨⟨j + 1, by omega, by simp, hfp, HFu.out.setCell _ _ (.inl hS)⟩, by simp [intOf]; omega⟩
        · obtain rfl : j = m := by omega
          go_wp2_with fail
          refine ⟨⟨i + 1, by omega, by simp, ?_, HFu.out⟩, by simp [intOf]; omega⟩
          rw [← marked_next rows i r HRr.out, HM.out]
          exact HFb.out
    · obtain rfl : i = n := by omega
      obtain ⟨i0, hi0, hz0, hz1, hz2⟩ := info_parts info22
      have hlen : (rows.map (·.1)).length = i * 1 := by rw [List.length_map, HN.out]; omega
      have HLE := hide hlen
      have HNW := hide (show ∀ j u, (rows.map (·.1))[j]? = some u → (wr.alloc (.cells #[] 22)).cell? ((⟨L, 0, none⟩ : Addr).add j) = some u from fun j u hu => by
        have e : ((⟨L, 0, none⟩ : Addr).add j) = ⟨L, j, none⟩ := by rw [Addr.add_lit, Nat.zero_add]
        rw [e, ← heads_cell HHr.out hu]
        exact World.cell?_of_block (Below.heap_alloc _ _ _ (heads_lt HHr.out)))
      have HON := hide (show ∀ u ∈ rows.map (·.1), u.oneCell' = true from fun u hu => by
        obtain ⟨k, hk⟩ := List.mem_iff_getElem?.1 hu
        rw [List.getElem?_map] at hk
        obtain ⟨r, hr, rfl⟩ := Option.map_eq_some_iff.1 hk
        exact ints_one (owi_ints (HF.out.1 k r hr).1))
      clear hlen
      go_wp2_with (refine wpList_append_lies _ rfl (.tmp 33) (.tmp 34) 47 rfl wr.heap.size 22 i0 (.slice none 0 0) 1 24 Tryd.underlying47 hi0 hz0 hz1 hz2 rfl (by decide) _ 0 [] rfl (lit_own wr) ⟨L, 0, none⟩ i cap _ rfl HLE.out HNW.out HON.out hn0 (by simp only [maxLen]; omega) (by omega) (by rw [World.size_alloc]; omega) _ rfl ?_)
      intro G capG w2 hown hgr hat hlt2
      obtain ⟨hHG, hcG, hcmG, hGB⟩ := heads_own hown
      have hb2 : Below wr.heap.size wr w2 := ((Below.refl wr.heap.size wr).alloc (Nat.le_refl _) _).grown hgr (by rw [World.size_alloc]; omega) (fun k hk => by simp only [Value.ownBlock, Option.some.injEq] at hk; omega)
      have hGw : w.heap.size ≤ G := by omega
      have HST := hide (st_start (w0 := w) (fam_keep HFa.out hb2) (by rw [inrows_marked]; exact HFt.out.keep hb2))
      have HHG := hide (show Heads w2 G ((marked rows i 0).map (·.1)) from by
        have e : (marked rows i 0).map (·.1) = rows.map (·.1) := by
          apply List.ext_getElem?
          intro k
          rw [List.getElem?_map, List.getElem?_map, marked_get]
          cases rows[k]? <;> rfl
        rw [e]; exact hHG)
      have HCO := hide (cont_start rows i HN.out)
      clear hown hgr hat hlt2 hHG hb2 HNW HON HLE
      go_wp2_with fail
      go_loopw [7] (fun c wr => ∃ q : Nat, q ≤ 80 ∧ c = .int .i64 q ∧ ∃ cur, St w wr B (marked rows i 0) cur ∧ Heads wr G (cur.map (·.1)) ∧ Cont rows cur 0 q) (fun c _ => 80 - (intOf c).toNat)
      case atStart => exact ⟨0, by omega, rfl, _, HST.out, HHG.out, HCO.out⟩
      case round =>
        obtain ⟨q, hq, rfl, cur, hst, hhg, hco⟩ := hrel
        have HS1 := hide hst
        have HG1 := hide hhg
        have HC1 := hide hco
        clear hst hhg hco
        by_cases hq8 : q < 80
        · have hq1 : (q : Int) < 80 := by omega
          go_wp2_with fail
          go_loopw [42] (fun c wr => ∃ k : Nat, k ≤ i ∧ c = .int .i64 k ∧ ∃ cur, St w wr B (marked rows i 0) cur ∧ Heads wr G (cur.map (·.1)) ∧ Cont rows cur k q) (fun c _ => i - (intOf c).toNat)
          case atStart => exact ⟨0, by omega, rfl, _, HS1.out, HG1.out, HC1.out⟩
          case round =>
            obtain ⟨k, hk, rfl, cur2, hst, hhg, hco⟩ := hrel
            have HS2 := hide hst
            have HG2 := hide hhg
            have HC2 := hide hco
            clear hst hhg hco
            by_cases hki : k < i
            · have hk1 : (k : Int) < (i : Int) := by omega
              obtain ⟨r, hr⟩ := HR.out k hki
              obtain ⟨v, hv⟩ := HC2.out k r hr
              rw [if_neg (by omega)] at hv
              obtain ⟨m, hm⟩ : ∃ m, r.2.length + q = m := ⟨_, rfl⟩
              have hml : m ≤ 1099511627900 := by have := HL.out k r hr; omega
              rw [hm] at hv
              have HOV := hide (show OwI wr B v (mrow k m) from (HS2.out.fam.1 k _ hv).1)
              obtain ⟨vo, vc, hvf⟩ : ∃ vo vc, v = .slice vo m vc := by
                obtain ⟨ao, c, h⟩ := ints_form (owi_ints HOV.out)
                rw [mrow_len] at h
                exact ⟨ao, c, h⟩
              have hc0 : wr.cell? ⟨G, k, none⟩ = some v := heads_cell HG2.out (k := k) (by rw [List.getElem?_map, hv]; rfl)
              have hf0 := heads_free HG2.out k
              subst hvf
              have HMk := hide (fun w => mark_any w k m)
              have HM := hide hm
              have HRr := hide hr
              have HV := hide hv
              have hwB : B ≤ wr.heap.size := by have := HS2.out.foot.size; omega
              clear hm hr hv
              go_wp2_with fail
              have hcA : ∀ o, (wr.alloc o).cell? ⟨G, k, none⟩ = some (.slice vo m vc) := fun o => heads_cell (heads_alloc HG2.out o) (by rw [List.getElem?_map, HV.out]; rfl)
              have HLM := hide (show (mrow k m).length + 1 ≤ 17592186044416 by rw [mrow_len]; omega)
              have HWB := hide (fun o => (show B ≤ (wr.alloc o).heap.size by rw [World.size_alloc]; omega))
              have HKV := hide (show (cur2.map (·.1))[k]? = some (.slice vo m vc) by rw [List.getElem?_map, HV.out]; rfl)
              go_region_law (first
                | (go_simp; go_at_call 29; refine (HMk.out _).mono ?_; rintro e w' ⟨rfl, rfl⟩)
                | (refine step_growH _ B (.slice vo m vc) (mrow k m) (mb k m) rfl (.tmp 55) (.tmp 59) rfl rfl ⟨wr.heap.size, 0, none⟩ 1 rfl (World.ownsRow.alloc HOV.out _) (cell_of_one (heap_new rfl _)) HLM.out (HWB.out _) G k _ (heads_alloc HG2.out _) HKV.out ?_; intro g cap1 w5 hgrown hc5 hf5)
                )
              all_goals
                have hsd := st_drew (st_keep HS2.out ((Below.refl wr.heap.size wr).alloc (Nat.le_refl _) (.cells #[.int .i64 (mb k m)] 3)))
                have hsg := st_grow hsd k HV.out rfl hgrown
                have h5 : Heads w5 G (cur2.map (·.1)) := heads_grown (show Heads (wr.alloc (.cells #[.int .i64 (mb k m)] 3)).drew G _ from heads_alloc HG2.out _)
                  (show OwI (wr.alloc (.cells #[.int .i64 (mb k m)] 3)).drew B _ _ from World.ownsRow.alloc HOV.out _) hgrown
                have hil := (List.getElem?_eq_some_iff.1 HV.out).1
                have hcn := cont_step (v := .slice (some ⟨g, 0, none⟩) ((mrow k m).length + 1) cap1) HC2.out HRr.out hil
                rw [HM.out] at hcn
                obtain ⟨cs, hh, hhc⟩ := h5
                have hso := st_other hsg hh (by decide) hGw k (.slice (some ⟨g, 0, none⟩) ((mrow k m).length + 1) cap1)
                have hh6 := heads_set ⟨cs, hh, hhc⟩ k (.slice (some ⟨g, 0, none⟩) ((mrow k m).length + 1) cap1)
                rw [← List.map_set (f := Prod.fst) (a := (Value.slice (some ⟨g, 0, none⟩) ((mrow k m).length + 1) cap1, mrow k m ++ [mb k m]))] at hh6
                have HSO := hide hso
                have HH6 := hide hh6
                have HCN := hide hcn
                clear hsd hsg hcn hso hh6 hh hhc hgrown hc5 hf5 hcA hc0 hf0
                go_wp2_with fail
                exact ⟨⟨k + 1, by omega, by simp, _, HSO.out, HH6.out, HCN.out⟩, by simp [intOf]; omega⟩
            · obtain rfl : k = i := by omega
              go_wp2_with fail
              exact ⟨⟨q + 1, by omega, by simp, _, HS2.out, HG2.out, cont_next HN.out HC2.out⟩, by simp [intOf]; omega⟩
        · obtain rfl : q = 80 := by omega
          have hori : ∀ (k : Nat) (r : Rw), rows[k]? = some r → OwI wr B r.1 (mrow k r.2.length) := fun k r hr => by
            have hk := (List.getElem?_eq_some_iff.1 hr).1
            have h := st_orig HS1.out k (r.1, mrow k r.2.length) (by rw [marked_get, hr, Option.map_some, if_pos (by have := HN.out; omega)])
            exact h
          have hLr := heads_block HH.out (HS1.out.foot.block L hLl (by rw [inrows_marked]; exact HNI.out))
          have HOR := hide hori
          have HLR := hide hLr
          have hW4 : ∃ w4, w4 = wr := ⟨_, rfl⟩
          obtain ⟨w4, hw4⟩ := hW4
          subst hw4
          clear hori hLr
          go_wp2_with fail
          go_loopw [65] (fun c wr => ∃ k : Nat, k ≤ i ∧ c = .int .i64 k ∧ ∃ d, wr = w4.drewN d) (fun c _ => i - (intOf c).toNat)
          case atStart => exact ⟨0, by omega, rfl, 0, rfl⟩
          case round =>
            obtain ⟨k, hk, rfl, d, rfl⟩ := hrel
            by_cases hki : k < i
            · have hk1 : (k : Int) < (i : Int) := by omega
              obtain ⟨r, hr⟩ := HR.out k hki
              obtain ⟨v, hv⟩ := HC1.out k r hr
              rw [if_neg (by omega)] at hv
              obtain ⟨M, hM⟩ : ∃ M, r.2.length + 80 = M := ⟨_, rfl⟩
              have hml : M ≤ 1099511627900 := by have := HL.out k r hr; omega
              rw [hM] at hv
              have HOV := hide (show OwI w4 B v (mrow k M) from (HS1.out.fam.1 k _ hv).1)
              obtain ⟨g, vc, hvf⟩ := owi_form HOV.out (by rw [mrow_len]; omega)
              rw [mrow_len] at hvf
              have hc0 : w4.cell? ⟨G, k, none⟩ = some v := heads_cell HG1.out (k := k) (by rw [List.getElem?_map, hv]; rfl)
              subst hvf
              have hvcc := owi_cap HOV.out
              obtain ⟨m, hm⟩ : ∃ m, r.2.length = m := ⟨_, rfl⟩
              have hmM : m + 80 = M := by omega
              have hcL : w4.cell? ⟨L, k, none⟩ = some r.1 := heads_cell HLR.out (k := k) (by rw [List.getElem?_map, hr]; rfl)
              have HO1 := hide (HOR.out k r hr)
              obtain ⟨ro, rc, hrf⟩ : ∃ ro rc, r.1 = .slice ro m rc := by
                obtain ⟨ao, c, h⟩ := ints_form (owi_ints HO1.out)
                rw [mrow_len, hm] at h
                exact ⟨ao, c, h⟩
              rw [hm, hrf] at HO1
              rw [hrf] at hcL
              have HMM := hide hmM
              clear hr hv hM hm hrf hmM
              go_wp2_with fail
              go_loopw [72] (fun c wr => ∃ j : Nat, j ≤ M ∧ c = .int .i64 j ∧ ∃ d, wr = w4.drewN d) (fun c _ => M - (intOf c).toNat)
              case atStart => exact ⟨0, by omega, rfl, d, rfl⟩
              case round =>
                obtain ⟨j, hj, rfl, d2, rfl⟩ := hrel
                by_cases hjM : j < M
                · have hj1 : (j : Int) < (M : Int) := by omega
                  have hcj := (owi_cells HOV.out j (mb k j) (mrow_get k M j hjM)).1
                  have hcj : (w4.drewN d2).cell? ⟨g, j, none⟩ = some (.int .i64 (mb k j)) := hcj
                  have hcL2 : (w4.drewN d2).cell? ⟨L, k, none⟩ = some (.slice ro m rc) := hcL
                  have HO2 := hide (show OwI (w4.drewN d2) B (.slice ro m rc) (mrow k m) from HO1.out)
                  generalize hwq : w4.drewN d2 = wq at hcj hcL2 HO2 ⊢
                  have HWQ := hide hwq
                  have HMk := hide fun q => mark_any (wq.drewN q) k j
                  clear hwq
                  go_wp2_with fail
                  go_quiet (first | (go_at_call 29; exact Calls.quiet_of_same ((HMk.out _).mono fun e w1 h => ⟨h.1, h.2.symm⟩)))
                  go_wp2_with fail
                  by_cases hjm : j < m
                  · have hj2 : (j : Int) < (m : Int) := by omega
                    obtain ⟨g0, c0, hg0⟩ := owi_form HO2.out (by rw [mrow_len]; omega)
                    rw [mrow_len] at hg0
                    simp only [Value.slice.injEq] at hg0
                    obtain ⟨rfl, _, rfl⟩ := hg0
                    have hcj2 := (owi_cells HO2.out j (mb k j) (mrow_get k m j hjm)).1
                    have hrcc := owi_cap HO2.out
                    go_quiet (fail)
                    go_wp2_with fail
                    exact ⟨⟨j + 1, by omega, by simp, _, by rw [← HWQ.out, World.drewN_drewN]⟩, by simp [intOf]; omega⟩
                  · have hd : decide ((j : Int) < (m : Int)) = false := by simp; omega
                    go_quiet (fail)
                    go_wp2_with fail
                    exact ⟨⟨j + 1, by omega, by simp, _, by rw [← HWQ.out, World.drewN_drewN]⟩, by simp [intOf]; omega⟩
                · obtain rfl : j = M := by omega
                  go_wp2_with fail
                  exact ⟨⟨k + 1, by omega, by simp, _, rfl⟩, by simp [intOf]; omega⟩
            · obtain rfl : k = i := by omega
              go_wp2_with fail
              go_ret
              refine ⟨rfl, fun k r hr => HOR.out k r hr, ?_⟩
              have h := HS1.out.foot.drewN d
              rw [inrows_marked] at h
              exact h
end Go.Proofs.YtbimpoabiafdaaaDoor
