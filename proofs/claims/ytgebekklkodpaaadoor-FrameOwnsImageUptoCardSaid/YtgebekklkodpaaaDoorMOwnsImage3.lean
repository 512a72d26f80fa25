/- texts of this proof, one behind the other: Ow OwW Og2 Co Sd Same Ak Bs Bf -/
import Derived.Test.YtgebekklkodpaaaDoorMOwnsImage0
import Derived.Test.YtgebekklkodpaaaDoorMOwnsImage1
import Derived.Test.YtgebekklkodpaaaDoorMOwnsImage2
import Derived.Deep.RegionHeldLaw
import Derived.Deep.OwnRows
import Derived.Laws.CopyOwn
import Derived.RegionIn
import Derived.Deep.RegionHeld3
/-! Ow: concordmem.Own -/
namespace Go.Proofs.YtgebekklkodpaaaDoor
open Go.RowKit

/-- the headers of some rows, in a block of their own -/
def Heads (w : World) (L : Nat) (vs : List Value) : Prop := ∃ cs : Array Value, w.heap[L]? = some (.cells cs 25 (0, 0)) ∧ ∀ (k : Nat) (v : Value), vs[k]? = some v → cs[k]? = some v
def mrow (i n : Nat) : List Nat := (List.range n).map (mb i)
theorem mrow_len (i n : Nat) : (mrow i n).length = n := by simp [mrow]
theorem mrow_lt (i n : Nat) : ∀ x ∈ mrow i n, x < 256 := by
  intro x hx
  simp only [mrow, List.mem_map, List.mem_range] at hx
  obtain ⟨j, _, rfl⟩ := hx
  exact mb_lt i j
theorem mrow_succ (i n : Nat) : mrow i (n + 1) = mrow i n ++ [mb i n] := by simp [mrow, List.range_succ]
theorem mrow_get (i n j : Nat) (h : j < n) : (mrow i n)[j]? = some (mb i j) := by simp [mrow, h]
theorem heads_cell {w : World} {L : Nat} {vs : List Value} (h : Heads w L vs) {k : Nat} {v : Value} (hv : vs[k]? = some v) : w.cell? ⟨L, k, none⟩ = some v := by
  obtain ⟨cs, hh, hc⟩ := h
  rw [cell_at hh]
  exact hc k v hv
theorem heads_free {w : World} {L : Nat} {vs : List Value} (h : Heads w L vs) (k : Nat) : w.frozen? ⟨L, k, none⟩ = false := by
  obtain ⟨cs, hh, hc⟩ := h
  exact free_at hh k
theorem heads_set {w : World} {L : Nat} {vs : List Value} (h : Heads w L vs) (k : Nat) (v : Value) : Heads (w.setCell ⟨L, k, none⟩ v) L (vs.set k v) := by
  obtain ⟨cs, hh, hc⟩ := h
  refine ⟨_, heap_set hh v, fun j u hj => ?_⟩
  by_cases hjk : j = k
  · subst hjk
    have hl : j < vs.length := by have := (List.getElem?_eq_some_iff.1 hj).1; simpa using this
    rw [List.getElem?_set_self hl, Option.some.injEq] at hj
    subst hj
    have hl2 : j < cs.size := by
      have := hc j vs[j] (List.getElem?_eq_getElem hl)
      exact (Array.getElem?_eq_some_iff.1 this).1
    rw [Array.getElem?_setIfInBounds_self_of_lt hl2]
  · rw [List.getElem?_set_ne (fun e => hjk e.symm)] at hj
    rw [Array.getElem?_setIfInBounds_ne (fun e => hjk e.symm)]
    exact hc j u hj
theorem heads_block {w w' : World} {L : Nat} {vs : List Value} (h : Heads w L vs) (hb : w'.heap[L]? = w.heap[L]?) : Heads w' L vs := by
  obtain ⟨cs, hh, hc⟩ := h
  exact ⟨cs, hb.trans hh, hc⟩
theorem heads_lt {w : World} {L : Nat} {vs : List Value} (h : Heads w L vs) : L < w.heap.size := by
  obtain ⟨cs, hh, hc⟩ := h
  exact heap_lt hh
theorem heads_rows {w : World} {B L : Nat} {vs : List Value} {rows : List Rw} (h : Heads w L vs) (hF : Fam w B rows) : ¬ InRows rows L := by
  rintro ⟨k, r, hr, hg⟩
  obtain ⟨cs, hh, _⟩ := h
  exact own_type (hF.1 k r hr).1 hh (by decide) hg
/-- headers stay where a row grows -/
theorem heads_grown {w w' : World} {B L x g cap : Nat} {vs : List Value} {v : Value} {bs : List Nat} (h : Heads w L vs) (ho : Own w B v bs) (hg : Grown w B v bs x g cap w') : Heads w' L vs := by
  refine heads_block h ?_
  rcases hg.2 with ⟨rfl, h1⟩ | ⟨_, h1⟩
  · refine h1.block L (heads_lt h) (fun e => ?_)
    obtain ⟨cs, hh, _⟩ := h
    exact own_type ho hh (by decide) (by rw [e]; rfl)
  · exact h1.block L (heads_lt h)

/-- the rows of which the first i are marked, and of row i the first j bytes -/
def marked (rows : List Rw) (i j : Nat) : List Rw := rows.mapIdx fun k r => (r.1, if k < i then mrow k r.2.length else if k = i then mrow i j ++ r.2.drop j else r.2)
theorem marked_len (rows : List Rw) (i j : Nat) : (marked rows i j).length = rows.length := by simp [marked]
theorem marked_get (rows : List Rw) (i j k : Nat) : (marked rows i j)[k]? = rows[k]?.map fun r => (r.1, if k < i then mrow k r.2.length else if k = i then mrow i j ++ r.2.drop j else r.2) := by simp [marked]
theorem marked_zero (rows : List Rw) : marked rows 0 0 = rows := by
  apply List.ext_getElem?
  intro k
  rw [marked_get]
  cases hk : rows[k]? with
  | none => rfl
  | some r =>
    simp only [Option.map_some, Nat.not_lt_zero, if_false, Option.some.injEq]
    by_cases h : k = 0
    · subst h; simp [mrow]
    · rw [if_neg h]
theorem marked_next (rows : List Rw) (i : Nat) (r : Rw) (h : rows[i]? = some r) : marked rows i r.2.length = marked rows (i + 1) 0 := by
  apply List.ext_getElem?
  intro k
  rw [marked_get, marked_get]
  cases hk : rows[k]? with
  | none => rfl
  | some r' =>
    simp only [Option.map_some, Option.some.injEq, Prod.mk.injEq, true_and]
    rcases Nat.lt_trichotomy k i with h1 | h1 | h1
    · rw [if_pos h1, if_pos (by omega)]
    · subst h1
      rw [if_neg (by omega), if_pos rfl, if_pos (by omega)]
      obtain rfl : r = r' := Option.some.inj (h.symm.trans hk)
      simp
    · rw [if_neg (by omega), if_neg (by omega), if_neg (by omega)]
      by_cases h2 : k = i + 1
      · rw [if_pos h2]; simp [mrow]
      · rw [if_neg h2]
theorem marked_step (rows : List Rw) (i j : Nat) (r : Rw) (h : rows[i]? = some r) (hj : j < r.2.length) :
    (marked rows i j).set i (r.1, (mrow i j ++ r.2.drop j).set j (mb i j)) = marked rows i (j + 1) := by
  have hil := (List.getElem?_eq_some_iff.1 h).1
  apply List.ext_getElem?
  intro k
  by_cases hk : k = i
  · subst hk
    rw [List.getElem?_set_self (by rw [marked_len]; exact hil), marked_get, h]
    simp only [Option.map_some, Option.some.injEq, Prod.mk.injEq, true_and]
    rw [if_neg (by omega), if_pos trivial, mrow_succ, List.append_assoc]
    rw [List.set_append_right _ _ (by rw [mrow_len]; exact Nat.le_refl _), mrow_len, Nat.sub_self]
    rw [List.drop_eq_getElem_cons hj]
    rfl
  · rw [List.getElem?_set_ne (fun e => hk e.symm), marked_get, marked_get]
    cases hr : rows[k]? with
    | none => rfl
    | some r' => simp only [Option.map_some, if_neg hk]
/-- what the rows hold while they grow -/
def Cont (rows cur : List Rw) (i q : Nat) : Prop := ∀ (k : Nat) (r : Rw), rows[k]? = some r → ∃ v, cur[k]? = some (v, mrow k (r.2.length + if k < i then q + 1 else q))
theorem cont_start (rows : List Rw) (n : Nat) (hn : rows.length = n) : Cont rows (marked rows n 0) 0 0 := by
  intro k r hr
  have hk := (List.getElem?_eq_some_iff.1 hr).1
  exact ⟨r.1, by rw [marked_get, hr]; simp; omega⟩
theorem cont_next {rows cur : List Rw} {n q : Nat} (hn : rows.length = n) (h : Cont rows cur n q) : Cont rows cur 0 (q + 1) := by
  intro k r hr
  have hk := (List.getElem?_eq_some_iff.1 hr).1
  obtain ⟨v, hv⟩ := h k r hr
  exact ⟨v, by rw [hv, if_pos (by omega), if_neg (by omega)]⟩
theorem cont_step {rows cur : List Rw} {i q : Nat} {r : Rw} {v : Value} (h : Cont rows cur i q) (hr : rows[i]? = some r) (hil : i < cur.length) :
    Cont rows (cur.set i (v, mrow i (r.2.length + q) ++ [mb i (r.2.length + q)])) (i + 1) q := by
  intro k r' hr'
  by_cases hk : k = i
  · subst hk
    obtain rfl : r = r' := Option.some.inj (hr.symm.trans hr')
    refine ⟨v, ?_⟩
    rw [List.getElem?_set_self hil, if_pos (by omega), ← mrow_succ]
    rfl
  · obtain ⟨u, hu⟩ := h k r' hr'
    refine ⟨u, ?_⟩
    rw [List.getElem?_set_ne (fun e => hk e.symm), hu]
    by_cases h1 : k < i
    · rw [if_pos h1, if_pos (by omega)]
    · rw [if_neg h1, if_neg (by omega)]
theorem info25 : (Tryd.prog.info? 25).map (fun i => (i.zero, i.size, i.bytes)) = some (some (.slice none 0 0), 1, 24) := by kernel_rfl
end Go.Proofs.YtgebekklkodpaaaDoor

/-! OwW: concordmem.Own: the walk -/
namespace Go.Proofs.YtgebekklkodpaaaDoor
open Go.RowKit

theorem own_cells {w : World} {B g n cap : Nat} {xs : List Nat} (h : Own w B (.slice (some ⟨g, 0, none⟩) n cap) xs) (j x : Nat) (hx : xs[j]? = some x) : w.cell? ⟨g, j, none⟩ = some (.int .u8 (x : Nat)) ∧ w.frozen? ⟨g, j, none⟩ = false := by
  have hj := (List.getElem?_eq_some_iff.1 hx).1
  rcases h.2 with ⟨h, _⟩ | ⟨g', cap', cur, hv, hb, hh, hn, hm, hs, ht⟩
  · simp at h
  · simp only [Value.slice.injEq, Option.some.injEq, Addr.mk.injEq] at hv
    obtain ⟨⟨rfl, _⟩, _, rfl⟩ := hv
    refine ⟨?_, free_at hh j⟩
    have hu : (u8s xs)[j]? = some (.int .u8 (x : Nat)) := by simp [u8s, hx]
    rw [← ht, List.getElem?_take, if_pos (by omega), Array.getElem?_toList] at hu
    rw [cell_at hh]
    exact hu
theorem own_cap {w : World} {B g n cap : Nat} {xs : List Nat} (h : Own w B (.slice (some ⟨g, 0, none⟩) n cap) xs) : n ≤ cap ∧ cap ≤ 9223372036854775807 := by
  rcases h.2 with ⟨h, _⟩ | ⟨g', cap', cur, hv, hb, hh, hn, hm, hs, ht⟩
  · simp at h
  · simp only [Value.slice.injEq, Option.some.injEq, Addr.mk.injEq] at hv
    obtain ⟨⟨rfl, _⟩, rfl, rfl⟩ := hv
    exact ⟨hn, hm⟩

theorem inrows_marked (rows : List Rw) (i j : Nat) : InRows (marked rows i j) = InRows rows := by
  funext g
  apply propext
  constructor
  · rintro ⟨k, r, hr, hg⟩
    rw [marked_get] at hr
    obtain ⟨r', h1, rfl⟩ := Option.map_eq_some_iff.1 hr
    exact ⟨k, r', h1, hg⟩
  · rintro ⟨k, r, hr, hg⟩
    exact ⟨k, (r.1, if k < i then mrow k r.2.length else if k = i then mrow i j ++ r.2.drop j else r.2), by rw [marked_get, hr, Option.map_some], hg⟩
theorem heads_alloc {w : World} {L : Nat} {vs : List Value} (h : Heads w L vs) (o : Obj) : Heads (w.alloc o) L vs := heads_block h (Below.heap_alloc _ _ _ (heads_lt h))
theorem step_growH {ops : Array Oper} {o : Oper} {a : Act} {K : Act → World → Prop} {Q : Exit → Act → World → Prop} {E : Prop} (w : World) (B : Nat) (v : Value) (cur : List Nat) (x : Nat) (hgd : o.guard = none) (s y : Operand)
    (ho : o.op = .call { callee := .builtin .append, args := #[s, y], argTypes := #[25, 25] }) (hs : a.eval s = v) (ad : Addr) (c : Nat) (hy : a.eval y = .slice (some ad) 1 c)
    (hown : Own w B v cur) (hnew : w.cell? ad = some (.int .u8 (x : Nat))) (hl : cur.length + 1 ≤ 140737488355328) (hB : B ≤ w.heap.size) (G k : Nat) (vs : List Value) (hH : Heads w G vs) (hk : vs[k]? = some v)
    (h : ∀ g cap w', Grown w B v cur x g cap w' → w'.cell? ⟨G, k, none⟩ = some v → w'.frozen? ⟨G, k, none⟩ = false → K (a.put o.dst (.slice (some ⟨g, 0, none⟩) (cur.length + 1) cap)) w') :
    if Region.wanted o (yielded ops a.tmps) = true then Oper.wp Tryd.prog o a w K Q else E :=
  step_grow w B v cur x hgd s y ho hs ad c hy hown hnew hl hB fun g cap w' hg => h g cap w' hg (heads_cell (heads_grown hH hown hg) hk) (heads_free (heads_grown hH hown hg) k)
theorem lit_own (w : World) : (w.alloc (.cells #[] 25)).ownsRow w.heap.size 25 1 (.slice (some ⟨w.heap.size, 0, none⟩) 0 0) 0 [] := by
  have h := World.ownsRow_lit (base := w.heap.size) (e := 25) (size := 1) w #[] 0 (Nat.le_refl _) (by simp [maxLen]) (by simp)
  simpa using h
theorem heads_own {w : World} {B G n cap : Nat} {vs : List Value} (h : w.ownsRow B 25 1 (.slice (some ⟨G, 0, none⟩) n cap) n vs) : Heads w G vs ∧ n ≤ cap ∧ cap ≤ 9223372036854775807 ∧ B ≤ G := by
  rcases h.2 with ⟨h0, _⟩ | ⟨g', cap', cur, hv, hb, hh, hn, hm, hs, ht⟩
  · cases h0
  · simp only [Value.slice.injEq, Option.some.injEq, Addr.mk.injEq] at hv
    obtain ⟨⟨rfl, _⟩, _, rfl⟩ := hv
    refine ⟨⟨cur, hh, fun k v hk => ?_⟩, hn, hm, hb⟩
    have hkl := (List.getElem?_eq_some_iff.1 hk).1
    rw [← ht, List.getElem?_take] at hk
    split at hk
    · simpa using hk
    · cases hk

set_option maxRecDepth 100000 in
set_option maxHeartbeats 4000000 in
theorem own_any (w : World) (B L n cap : Nat) (rows : List Rw) (hn : rows.length = n) (hn0 : 0 < n) (hnl : n ≤ 1099511627776) (hcap : n ≤ cap) (hcm : cap ≤ 9223372036854775807) (hH : Heads w L (rows.map (·.1))) (hF : Fam w B rows) (hB : B ≤ w.heap.size)
    (hl : ∀ (k : Nat) (r : Rw), rows[k]? = some r → r.2.length ≤ 140737488355000) :
    Calls Tryd.prog 40 #[.slice (some ⟨L, 0, none⟩) n cap] w fun e w' => e = .returned (.bool true) ∧ (∀ (k : Nat) (r : Rw), rows[k]? = some r → Own w' B r.1 (mrow k r.2.length)) ∧ Foot w w' (InRows rows) := by
  have HN := hide hn
  have HH := hide hH
  have HF := hide hF
  have HL := hide hl
  have HNL := heads_rows hH hF
  have HNI := hide HNL
  have row : ∀ i, i < n → ∃ r, rows[i]? = some r := fun i hi => ⟨_, List.getElem?_eq_getElem (by rw [hn]; exact hi)⟩
  have HR := hide row
  have hLl := heads_lt hH
  clear hn hH hF hl HNL row
  go_enter Tryd.func40, Tryd.ntmps40
  go_wp2_with fail
  go_loopw [15] (fun c wr => ∃ i : Nat, i ≤ n ∧ c = .int .i64 i ∧ Fam wr B (marked rows i 0) ∧ Foot w wr (InRows rows)) (fun c _ => n - (intOf c).toNat)
  case atStart => exact ⟨0, by omega, rfl, by rw [marked_zero]; exact HF.out, Foot.refl _ _⟩
  case round =>
    obtain ⟨i, hi, rfl, hf, hft⟩ := hrel
    have HFa := hide hf
    have HFt := hide hft
    have hsr := hft.size
    clear hf hft
    have HHr := hide (heads_block HH.out (HFt.out.block L hLl HNI.out))
    by_cases hlt : i < n
    · obtain ⟨r, hr⟩ := HR.out i hlt
      have hi1 : (i : Int) < (n : Int) := by omega
      have hc0 : wr.cell? ⟨L, i, none⟩ = some r.1 := heads_cell HHr.out (k := i) (by rw [List.getElem?_map, hr]; rfl)
      obtain ⟨ro, m, rc, hm, hv⟩ : ∃ ro m rc, r.2.length = m ∧ r.1 = .slice ro m rc := by
        obtain ⟨ao, c, h⟩ := src_form (own_src (HF.out.1 i r hr).1 (HF.out.1 i r hr).2)
        exact ⟨ao, _, c, rfl, h⟩
      rw [hv] at hc0
      have HRr := hide hr
      have HM := hide hm
      have HV := hide hv
      clear hr hm hv
      go_wp2_with fail
      go_loopw [22] (fun c wr => ∃ j : Nat, j ≤ m ∧ c = .int .i64 j ∧ Fam wr B (marked rows i j) ∧ Foot w wr (InRows rows)) (fun c _ => m - (intOf c).toNat)
      case atStart => exact ⟨0, by omega, rfl, HFa.out, HFt.out⟩
      case round =>
        obtain ⟨j, hj, rfl, hf, hft⟩ := hrel
        have HFb := hide hf
        have HFu := hide hft
        clear hf hft
        by_cases hjm : j < m
        · have hj1 : (j : Int) < (m : Int) := by omega
          have hget : (marked rows i j)[i]? = some (r.1, mrow i j ++ r.2.drop j) := by
            rw [marked_get, HRr.out]
            simp
          have hown : Own wr B r.1 (mrow i j ++ r.2.drop j) := (HFb.out.1 i _ hget).1
          have hlen : (mrow i j ++ r.2.drop j).length = m := by rw [List.length_append, mrow_len, List.length_drop, HM.out]; omega
          obtain ⟨g, c', hg⟩ := own_form hown (by omega)
          rw [hlen, HV.out] at hg
          simp only [Value.slice.injEq] at hg
          obtain ⟨rfl, _, rfl⟩ := hg
          obtain ⟨x, hx⟩ : ∃ x, (mrow i j ++ r.2.drop j)[j]? = some x := ⟨_, List.getElem?_eq_getElem (by omega)⟩
          have hown2 := hown
          simp only [HV.out] at hown2
          obtain ⟨hc1, hf1⟩ := own_cells hown2 j x hx
          have hrc := own_cap hown2
          have HG := hide hget
          have hbw : IntKind.u8.wrap (mark i j) = (mb i j : Int) := mb_wrap i j
          have HMk := hide (mark_any wr i j)
          clear hx hown hown2 hlen hget
          go_wp2_with fail
          refine HMk.out.mono ?_
          rintro e w' ⟨rfl, rfl⟩
          go_wp2_with fail
          have hfp := fam_put HFb.out i j (mb i j) (by rw [HG.out, HV.out]) (mb_lt i j)
          rw [← HV.out, marked_step rows i j r HRr.out (by rw [HM.out]; exact hjm)] at hfp
          have hS : InRows rows g := ⟨i, r, HRr.out, by rw [HV.out]; rfl⟩
          exact ⟨⟨j + 1, by omega, by simp, hfp, HFu.out.setCell _ _ (.inl hS)⟩, by simp [intOf]; omega⟩
        · obtain rfl : j = m := by omega
          go_wp2_with fail
          refine ⟨⟨i + 1, by omega, by simp, ?_, HFu.out⟩, by simp [intOf]; omega⟩
          rw [← marked_next rows i r HRr.out, HM.out]
          exact HFb.out
    · obtain rfl : i = n := by omega
      obtain ⟨i0, hi0, hz0, hz1, hz2⟩ := info_parts info25
      have hlen : (rows.map (·.1)).length = i * 1 := by rw [List.length_map, HN.out]; omega
      have HLE := hide hlen
      have HNW := hide (show ∀ j u, (rows.map (·.1))[j]? = some u → (wr.alloc (.cells #[] 25)).cell? ((⟨L, 0, none⟩ : Addr).add j) = some u from fun j u hu => by
        have e : ((⟨L, 0, none⟩ : Addr).add j) = ⟨L, j, none⟩ := by rw [Addr.add_lit, Nat.zero_add]
        rw [e, ← heads_cell HHr.out hu]
        exact World.cell?_of_block (Below.heap_alloc _ _ _ (heads_lt HHr.out)))
      have HON := hide (show ∀ u ∈ rows.map (·.1), u.oneCell' = true from fun u hu => by
        obtain ⟨k, hk⟩ := List.mem_iff_getElem?.1 hu
        rw [List.getElem?_map] at hk
        obtain ⟨r, hr, rfl⟩ := Option.map_eq_some_iff.1 hk
        exact src_one (own_src (HF.out.1 k r hr).1 (HF.out.1 k r hr).2))
      clear hlen
      go_wp2_with (refine wpList_append_lies _ rfl (.tmp 34) (.tmp 35) 62 rfl wr.heap.size 25 i0 (.slice none 0 0) 1 24 Tryd.underlying62 hi0 hz0 hz1 hz2 rfl (by decide) _ 0 [] rfl (lit_own wr) ⟨L, 0, none⟩ i cap _ rfl HLE.out HNW.out HON.out hn0 (by simp only [maxLen]; omega) (by omega) (by rw [World.size_alloc]; omega) _ rfl ?_)
      intro G capG w2 hown hgr hat hlt2
      obtain ⟨hHG, hcG, hcmG, hGB⟩ := heads_own hown
      have hb2 : Below wr.heap.size wr w2 := ((Below.refl wr.heap.size wr).alloc (Nat.le_refl _) _).grown hgr (by rw [World.size_alloc]; omega) (fun k hk => by simp only [Value.ownBlock, Option.some.injEq] at hk; omega)
      have hGw : w.heap.size ≤ G := by omega
      have HST := hide (st_start (w0 := w) (fam_keep HFa.out hb2) (by rw [inrows_marked]; exact HFt.out.keep hb2))
      have HHG := hide (show Heads w2 G ((marked rows i 0).map (·.1)) from by
        have e : (marked rows i 0).map (·.1) = rows.map (·.1) := by
          apply List.ext_getElem?
          intro k
          rw [List.getElem?_map, List.getElem?_map, marked_get]
          cases rows[k]? <;> rfl
        rw [e]; exact hHG)
      have HCO := hide (cont_start rows i HN.out)
      clear hown hgr hat hlt2 hHG hb2 HNW HON HLE
      go_wp2_with fail
      go_loopw [7] (fun c wr => ∃ q : Nat, q ≤ 80 ∧ c = .int .i64 q ∧ ∃ cur, St w wr B (marked rows i 0) cur ∧ Heads wr G (cur.map (·.1)) ∧ Cont rows cur 0 q) (fun c _ => 80 - (intOf c).toNat)
      case atStart => exact ⟨0, by omega, rfl, _, HST.out, HHG.out, HCO.out⟩
      case round =>
        obtain ⟨q, hq, rfl, cur, hst, hhg, hco⟩ := hrel
        have HS1 := hide hst
        have HG1 := hide hhg
        have HC1 := hide hco
        clear hst hhg hco
        by_cases hq8 : q < 80
        · have hq1 : (q : Int) < 80 := by omega
          go_wp2_with fail
          go_loopw [43] (fun c wr => ∃ k : Nat, k ≤ i ∧ c = .int .i64 k ∧ ∃ cur, St w wr B (marked rows i 0) cur ∧ Heads wr G (cur.map (·.1)) ∧ Cont rows cur k q) (fun c _ => i - (intOf c).toNat)
          case atStart => exact ⟨0, by omega, rfl, _, HS1.out, HG1.out, HC1.out⟩
          case round =>
            obtain ⟨k, hk, rfl, cur2, hst, hhg, hco⟩ := hrel
            have HS2 := hide hst
            have HG2 := hide hhg
            have HC2 := hide hco
            clear hst hhg hco
            by_cases hki : k < i
            · have hk1 : (k : Int) < (i : Int) := by omega
              obtain ⟨r, hr⟩ := HR.out k hki
              obtain ⟨v, hv⟩ := HC2.out k r hr
              rw [if_neg (by omega)] at hv
              obtain ⟨m, hm⟩ : ∃ m, r.2.length + q = m := ⟨_, rfl⟩
              have hml : m ≤ 140737488355080 := by have := HL.out k r hr; omega
              rw [hm] at hv
              have HOV := hide (show Own wr B v (mrow k m) from (HS2.out.fam.1 k _ hv).1)
              obtain ⟨vo, vc, hvf⟩ : ∃ vo vc, v = .slice vo m vc := by
                obtain ⟨ao, c, h⟩ := src_form (own_src HOV.out (mrow_lt k m))
                rw [mrow_len] at h
                exact ⟨ao, c, h⟩
              have hc0 : wr.cell? ⟨G, k, none⟩ = some v := heads_cell HG2.out (k := k) (by rw [List.getElem?_map, hv]; rfl)
              have hf0 := heads_free HG2.out k
              subst hvf
              have hbw : IntKind.u8.wrap (mark k m) = (mb k m : Int) := mb_wrap k m
              have HMk := hide (fun w => mark_any w k m)
              have HM := hide hm
              have HRr := hide hr
              have HV := hide hv
              have hwB : B ≤ wr.heap.size := by have := HS2.out.foot.size; omega
              clear hm hr hv
              go_wp2_with fail
              have hcA : ∀ o, (wr.alloc o).cell? ⟨G, k, none⟩ = some (.slice vo m vc) := fun o => heads_cell (heads_alloc HG2.out o) (by rw [List.getElem?_map, HV.out]; rfl)
              have HLM := hide (show (mrow k m).length + 1 ≤ 140737488355328 by rw [mrow_len]; omega)
              have HWB := hide (fun o => (show B ≤ (wr.alloc o).heap.size by rw [World.size_alloc]; omega))
              have HKV := hide (show (cur2.map (·.1))[k]? = some (.slice vo m vc) by rw [List.getElem?_map, HV.out]; rfl)
              go_region_law? (first
                | (go_simp; go_at_call 70; refine (HMk.out _).mono ?_; rintro e w' ⟨rfl, rfl⟩)
                | (refine step_growH _ B (.slice vo m vc) (mrow k m) (mb k m) rfl (.tmp 56) (.tmp 61) rfl rfl ⟨wr.heap.size, 0, none⟩ 1 rfl (World.ownsRow.alloc HOV.out _) (cell_of_one (heap_new rfl _)) HLM.out (HWB.out _) G k _ (heads_alloc HG2.out _) HKV.out ?_; intro g cap1 w5 hgrown hc5 hf5)
                )
              all_goals
                have hsd := st_drew (st_keep HS2.out ((Below.refl wr.heap.size wr).alloc (Nat.le_refl _) (.cells #[.int .u8 (mb k m : Nat)] 5)))
                have hsg := st_grow hsd k HV.out (mb_lt k m) hgrown
                have h5 : Heads w5 G (cur2.map (·.1)) := heads_grown (show Heads (wr.alloc (.cells #[.int .u8 (mb k m : Nat)] 5)).drew G _ from heads_alloc HG2.out _)
                  (show Own (wr.alloc (.cells #[.int .u8 (mb k m : Nat)] 5)).drew B _ _ from World.ownsRow.alloc HOV.out _) hgrown
                have hil := (List.getElem?_eq_some_iff.1 HV.out).1
                have hcn := cont_step (v := .slice (some ⟨g, 0, none⟩) ((mrow k m).length + 1) cap1) HC2.out HRr.out hil
                rw [HM.out] at hcn
                obtain ⟨cs, hh, hhc⟩ := h5
                have hso := st_other hsg hh (by decide) hGw k (.slice (some ⟨g, 0, none⟩) ((mrow k m).length + 1) cap1)
                have hh6 := heads_set ⟨cs, hh, hhc⟩ k (.slice (some ⟨g, 0, none⟩) ((mrow k m).length + 1) cap1)
                rw [← List.map_set (f := Prod.fst) (a := (Value.slice (some ⟨g, 0, none⟩) ((mrow k m).length + 1) cap1, mrow k m ++ [mb k m]))] at hh6
                have HSO := hide hso
                have HH6 := hide hh6
                have HCN := hide hcn
                clear hsd hsg hcn hso hh6 hh hhc hgrown hc5 hf5 hcA hc0 hf0 hbw
                go_wp2_with fail
                exact ⟨⟨k + 1, by omega, by simp, _, HSO.out, HH6.out, HCN.out⟩, by simp [intOf]; omega⟩
            · obtain rfl : k = i := by omega
              go_wp2_with fail
              exact ⟨⟨q + 1, by omega, by simp, _, HS2.out, HG2.out, cont_next HN.out HC2.out⟩, by simp [intOf]; omega⟩
        · obtain rfl : q = 80 := by omega
          have hori : ∀ (k : Nat) (r : Rw), rows[k]? = some r → Own wr B r.1 (mrow k r.2.length) := fun k r hr => by
            have hk := (List.getElem?_eq_some_iff.1 hr).1
            have h := st_orig HS1.out k (r.1, mrow k r.2.length) (by rw [marked_get, hr, Option.map_some, if_pos (by have := HN.out; omega)])
            exact h
          have hLr := heads_block HH.out (HS1.out.foot.block L hLl (by rw [inrows_marked]; exact HNI.out))
          have HOR := hide hori
          have HLR := hide hLr
          have hW4 : ∃ w4, w4 = wr := ⟨_, rfl⟩
          obtain ⟨w4, hw4⟩ := hW4
          subst hw4
          clear hori hLr
          go_wp2_with fail
          go_loopw [67] (fun c wr => ∃ k : Nat, k ≤ i ∧ c = .int .i64 k ∧ ∃ d, wr = w4.drewN d) (fun c _ => i - (intOf c).toNat)
          case atStart => exact ⟨0, by omega, rfl, 0, rfl⟩
          case round =>
            obtain ⟨k, hk, rfl, d, rfl⟩ := hrel
            by_cases hki : k < i
            · have hk1 : (k : Int) < (i : Int) := by omega
              obtain ⟨r, hr⟩ := HR.out k hki
              obtain ⟨v, hv⟩ := HC1.out k r hr
              rw [if_neg (by omega)] at hv
              obtain ⟨M, hM⟩ : ∃ M, r.2.length + 80 = M := ⟨_, rfl⟩
              have hml : M ≤ 140737488355080 := by have := HL.out k r hr; omega
              rw [hM] at hv
              have HOV := hide (show Own w4 B v (mrow k M) from (HS1.out.fam.1 k _ hv).1)
              obtain ⟨g, vc, hvf⟩ := own_form HOV.out (by rw [mrow_len]; omega)
              rw [mrow_len] at hvf
              have hc0 : w4.cell? ⟨G, k, none⟩ = some v := heads_cell HG1.out (k := k) (by rw [List.getElem?_map, hv]; rfl)
              subst hvf
              have hvcc := own_cap HOV.out
              obtain ⟨m, hm⟩ : ∃ m, r.2.length = m := ⟨_, rfl⟩
              have hmM : m + 80 = M := by omega
              have hcL : w4.cell? ⟨L, k, none⟩ = some r.1 := heads_cell HLR.out (k := k) (by rw [List.getElem?_map, hr]; rfl)
              have HO1 := hide (HOR.out k r hr)
              obtain ⟨ro, rc, hrf⟩ : ∃ ro rc, r.1 = .slice ro m rc := by
                obtain ⟨ao, c, h⟩ := src_form (own_src HO1.out (mrow_lt k _))
                rw [mrow_len, hm] at h
                exact ⟨ao, c, h⟩
              rw [hm, hrf] at HO1
              rw [hrf] at hcL
              have HMM := hide hmM
              clear hr hv hM hm hrf hmM
              go_wp2_with fail
              go_loopw [74] (fun c wr => ∃ j : Nat, j ≤ M ∧ c = .int .i64 j ∧ ∃ d, wr = w4.drewN d) (fun c _ => M - (intOf c).toNat)
              case atStart => exact ⟨0, by omega, rfl, d, rfl⟩
              case round =>
                obtain ⟨j, hj, rfl, d2, rfl⟩ := hrel
                by_cases hjM : j < M
                · have hj1 : (j : Int) < (M : Int) := by omega
                  have hcj := (own_cells HOV.out j (mb k j) (mrow_get k M j hjM)).1
                  have hbw : IntKind.u8.wrap (mark k j) = (mb k j : Int) := mb_wrap k j
                  have hcj : (w4.drewN d2).cell? ⟨g, j, none⟩ = some (.int .u8 (mb k j : Nat)) := hcj
                  have hcL2 : (w4.drewN d2).cell? ⟨L, k, none⟩ = some (.slice ro m rc) := hcL
                  have HO2 := hide (show Own (w4.drewN d2) B (.slice ro m rc) (mrow k m) from HO1.out)
                  generalize hwq : w4.drewN d2 = wq at hcj hcL2 HO2 ⊢
                  have HWQ := hide hwq
                  have HMk := hide fun q => mark_any (wq.drewN q) k j
                  clear hwq
                  go_wp2_with fail
                  go_quiet (first | (go_at_call 70; exact Calls.quiet_of_same ((HMk.out _).mono fun e w1 h => ⟨h.1, h.2.symm⟩)))
                  go_wp2_with fail
                  by_cases hjm : j < m
                  · have hj2 : (j : Int) < (m : Int) := by omega
                    obtain ⟨g0, c0, hg0⟩ := own_form HO2.out (by rw [mrow_len]; omega)
                    rw [mrow_len] at hg0
                    simp only [Value.slice.injEq] at hg0
                    obtain ⟨rfl, _, rfl⟩ := hg0
                    have hcj2 := (own_cells HO2.out j (mb k j) (mrow_get k m j hjm)).1
                    have hrcc := own_cap HO2.out
                    go_quiet (fail)
                    go_wp2_with fail
                    exact ⟨⟨j + 1, by omega, by simp, _, by rw [← HWQ.out, World.drewN_drewN]⟩, by simp [intOf]; omega⟩
                  · have hd : decide ((j : Int) < (m : Int)) = false := by simp; omega
                    go_quiet (fail)
                    go_wp2_with fail
                    exact ⟨⟨j + 1, by omega, by simp, _, by rw [← HWQ.out, World.drewN_drewN]⟩, by simp [intOf]; omega⟩
                · obtain rfl : j = M := by omega
                  go_wp2_with fail
                  exact ⟨⟨k + 1, by omega, by simp, _, rfl⟩, by simp [intOf]; omega⟩
            · obtain rfl : k = i := by omega
              go_wp2_with fail
              go_ret
              refine ⟨rfl, fun k r hr => HOR.out k r hr, ?_⟩
              have h := HS1.out.foot.drewN d
              rw [inrows_marked] at h
              exact h
end Go.Proofs.YtgebekklkodpaaaDoor

/-! Og2: plain: rows that Own is asked of -/
namespace Go.Proofs.YtgebekklkodpaaaDoor
open Go.RowKit

/-- a block known whole is an own row -/
theorem own_block {w : World} {B g : Nat} {bs : List Nat} (h : w.heap[g]? = some (.cells (u8s bs).toArray 5 (0, 0))) (hB : B ≤ g) (hl : bs.length ≤ 9223372036854775807) : Own w B (.slice (some ⟨g, 0, none⟩) bs.length bs.length) bs := by
  have h := row_of_heap h hB (by rw [u8s_len]; exact hl)
  rw [u8s_len] at h
  exact h
/-- the part with which a block begins -/
theorem own_front {w : World} {B g : Nat} {bs rest : List Nat} (h : w.heap[g]? = some (.cells (u8s (bs ++ rest)).toArray 5 (0, 0))) (hB : B ≤ g) (cap : Nat) (hc : cap = bs.length + rest.length) (hl : bs.length + rest.length ≤ 9223372036854775807) :
    Own w B (.slice (some ⟨g, 0, none⟩) bs.length cap) bs := by
  subst hc
  refine ⟨by simp [u8s], .inr ⟨g, _, _, rfl, hB, h, by omega, by simpa [maxLen] using hl, by simp [u8s], ?_⟩⟩
  simp [u8s]
theorem rows3 {P : Rw → Prop} {a b c : Rw} (ha : P a) (hb : P b) (hc : P c) : ∀ (k : Nat) (r : Rw), [a, b, c][k]? = some r → P r := by
  intro k r hk
  match k, hk with
  | 0, hk => simp at hk; exact hk ▸ ha
  | 1, hk => simp at hk; exact hk ▸ hb
  | 2, hk => simp at hk; exact hk ▸ hc
theorem own_news {w : World} {B g n cap : Nat} {bs : List Nat} (h : Own w B (.slice (some ⟨g, 0, none⟩) n cap) bs) : ∀ (j : Nat) (u : Value), (u8s bs)[j]? = some u → w.cell? ((⟨g, 0, none⟩ : Addr).add j) = some u :=
  World.ownsRow.cells h (g := g) rfl
set_option maxRecDepth 100000 in
/-- append, as an equation -/
theorem run_append_any (w : World) (B : Nat) (ty : TypeId) (v : Value) (cur : List Nat) (hown : Own w B v cur) (ad : Addr) (m c : Nat) (bs : List Nat) (hm : bs.length = m) (hnew : ∀ (j : Nat) (u : Value), (u8s bs)[j]? = some u → w.cell? (ad.add j) = some u)
    (hl : cur.length + bs.length ≤ 140737488355328) (hB : B ≤ w.heap.size) :
    ∃ v' w', (Builtin.append_ #[25, 25] ty #[v, .slice (some ad) m c]).run Tryd.prog w = .ok v' w' ∧ Own w' B v' (cur ++ bs) ∧ Below B w w' := by
  obtain ⟨i0, hi, hz0, hz1, hz2⟩ := info_parts info5
  subst hm
  obtain ⟨v', w', hrun, h1, h2, _⟩ := run_append_own (P := Tryd.prog) w B 25 ty 5 i0 (.int .u8 0) 1 1 Tryd.underlying25 hi hz0 hz1 hz2 rfl (by decide) v cur.length (u8s cur) hown ad bs.length c (u8s bs) (by simp [u8s_len]) hnew (u8s_one _) (by simp only [maxLen]; omega) (by omega) hB
  refine ⟨v', w', hrun, ?_, (Below.refl B w).grown h2 hB (fun k hk => (World.ownsRow.lt hown k hk).1)⟩
  unfold Own
  rw [u8s_app, List.length_append]
  exact h1
/-- append at an operation that stands behind a guard -/
theorem append_guarded {ops : Array Oper} {rest : List Oper} {o : Oper} {a : Act} {Q : Exit → Act → World → Prop} (w : World) (B : Nat) (hw : Region.wanted o (yielded ops a.tmps) = true) (s x : Operand)
    (ho : o.op = .call { callee := .builtin .append, args := #[s, x], argTypes := #[25, 25] }) (v : Value) (cur : List Nat) (hs : a.eval s = v) (hown : Own w B v cur) (ad : Addr) (m c : Nat) (hx : a.eval x = .slice (some ad) m c) (bs : List Nat) (hm : bs.length = m)
    (hnew : ∀ (j : Nat) (u : Value), (u8s bs)[j]? = some u → w.cell? (ad.add j) = some u) (hl : cur.length + bs.length ≤ 140737488355328) (hB : B ≤ w.heap.size)
    (h : ∀ v' w', Own w' B v' (cur ++ bs) → Below B w w' → wpList Tryd.prog ops Q rest (a.put o.dst v') w') :
    wpList Tryd.prog ops Q (o :: rest) a w := by
  obtain ⟨v', w', hrun, h1, h2⟩ := run_append_any w B o.type v cur hown ad m c bs hm hnew hl hB
  rw [wpList, if_pos hw]
  left
  unfold Oper.wp execOp
  simp only [ho, resolve, invoke, builtin, Sem.run_bind, Sem.run_pure, Result.andThen_ok, List.map_toArray, List.map_cons, List.map_nil, hs, hx, hrun]
  exact h v' w' h1 h2
/-- three rows in three blocks -/
theorem fam3 {w : World} {B g1 g2 g3 n1 n2 n3 c1 c2 c3 : Nat} {x1 x2 x3 : List Nat}
    (h1 : Own w B (.slice (some ⟨g1, 0, none⟩) n1 c1) x1) (h2 : Own w B (.slice (some ⟨g2, 0, none⟩) n2 c2) x2) (h3 : Own w B (.slice (some ⟨g3, 0, none⟩) n3 c3) x3)
    (l1 : ∀ x ∈ x1, x < 256) (l2 : ∀ x ∈ x2, x < 256) (l3 : ∀ x ∈ x3, x < 256) (e12 : g1 < g2) (e23 : g2 < g3) :
    Fam w B [(.slice (some ⟨g1, 0, none⟩) n1 c1, x1), (.slice (some ⟨g2, 0, none⟩) n2 c2, x2), (.slice (some ⟨g3, 0, none⟩) n3 c3, x3)] := by
  refine ⟨fun i r hr => rows3 (P := fun r => Own w B r.1 r.2 ∧ ∀ x ∈ r.2, x < 256) ⟨h1, l1⟩ ⟨h2, l2⟩ ⟨h3, l3⟩ i r hr, ?_⟩
  intro i j r s hij hr hs g hg
  have key : ∀ (k : Nat) (r : Rw), [((Value.slice (some ⟨g1, 0, none⟩) n1 c1, x1) : Rw), (.slice (some ⟨g2, 0, none⟩) n2 c2, x2), (.slice (some ⟨g3, 0, none⟩) n3 c3, x3)][k]? = some r → r.1.ownBlock = some (if k = 0 then g1 else if k = 1 then g2 else g3) ∧ k < 3 := by
    intro k r hk
    match k, hk with
    | 0, hk => simp at hk; subst hk; exact ⟨rfl, by omega⟩
    | 1, hk => simp at hk; subst hk; exact ⟨rfl, by omega⟩
    | 2, hk => simp at hk; subst hk; exact ⟨rfl, by omega⟩
  obtain ⟨k1, l1⟩ := key i r hr
  obtain ⟨k2, l2⟩ := key j s hs
  rw [k1] at hg
  rw [k2, ← hg]
  intro e
  have e' := Option.some.inj e
  have hi : i = 0 ∨ i = 1 ∨ i = 2 := by omega
  have hj : j = 0 ∨ j = 1 ∨ j = 2 := by omega
  rcases hi with rfl | rfl | rfl <;> rcases hj with rfl | rfl | rfl <;> simp at e' hij <;> omega
theorem heads3 {w : World} {L : Nat} {v1 v2 v3 : Value} (h : w.heap[L]? = some (.cells #[v1, v2, v3] 25 (0, 0))) : Heads w L [v1, v2, v3] :=
  ⟨_, h, fun k v hk => by simpa using hk⟩
/-- what lay below the rows stays -/
theorem foot_below {w w' : World} {B : Nat} {rows : List Rw} (h : Foot w w' (InRows rows)) (hF : Fam w B rows) (hB : B ≤ w.heap.size) : Below B w w' :=
  h.below (fun g ⟨k, r, hr, hg⟩ => (World.ownsRow.lt (hF.1 k r hr).1 g hg).1) hB
theorem errs_below {B : Nat} {w w' : World} {E : Nat → Addr} {ids : List Nat} (h : Errs w E ids) (hb : Below B w w') (hB : w.heap.size ≤ B) (hg : ∀ g ∈ ids, g < B) : Errs w' E ids := h.below hb hB hg
theorem made_zeros (n : Nat) : madeCells #[Value.int .u8 0] n = (u8s (List.replicate n 0)).toArray := by
  apply Array.ext_getElem?
  intro j
  by_cases hj : j < n
  · simp [madeCells, u8s, hj, Nat.mod_one]
  · simp [madeCells, u8s, hj]
/-- a row stays where its block does -/
theorem own_by {w w' : World} {B : Nat} {v : Value} {bs : List Nat} (h : Own w B v bs) (hk : ∀ g, v.ownBlock = some g → w'.heap[g]? = w.heap[g]?) : Own w' B v bs := by
  refine ⟨h.1, ?_⟩
  rcases h.2 with h | ⟨g, cap, cur, rfl, hb, hh, hn⟩
  · exact .inl h
  · exact .inr ⟨g, cap, cur, rfl, hb, (hk g rfl).trans hh, hn⟩
/-- the whole block of a row -/
theorem own_array {w : World} {B g n cap : Nat} {bs : List Nat} (h : Own w B (.slice (some ⟨g, 0, none⟩) n cap) bs) : ∃ cur : List Value, w.heap[g]? = some (.cells cur.toArray 5 (0, 0)) ∧ cur.length = cap := by
  rcases h.2 with ⟨h, _⟩ | ⟨g', cap', cur, hv, hb, hh, hn, hm, hs, ht⟩
  · simp at h
  · simp only [Value.slice.injEq, Option.some.injEq, Addr.mk.injEq] at hv
    obtain ⟨⟨rfl, _⟩, _, rfl⟩ := hv
    exact ⟨cur.toList, by simpa using hh, by simp only [Array.length_toList]; omega⟩
/-- a block over whose beginning a list was copied -/
theorem src_front {w : World} {g N cap : Nat} {cur : List Value} {bs : List Nat} {fr : Nat × Nat} (h : w.heap[g]? = some (.cells (splice cur 0 (u8s bs)).toArray 5 fr)) (hx : ∀ x ∈ bs, x < 256) (hn : bs.length = N) (hN : N ≤ cap) (hc : cap ≤ 9223372036854775807) :
    Src w (.slice (some ⟨g, 0, none⟩) N cap) bs := by
  subst hn
  refine ⟨hx, .inr ⟨_, cap, rfl, hN, hc, fun k x hk => ?_⟩⟩
  have e : (⟨g, 0, none⟩ : Addr).add k = ⟨g, k, none⟩ := by rw [Addr.add_lit, Nat.zero_add]
  rw [e, cell_at h]
  have hkl := (List.getElem?_eq_some_iff.1 hk).1
  simp only [splice, List.take_zero, List.nil_append, List.getElem?_toArray]
  rw [List.getElem?_append_left (by rw [u8s_len]; exact hkl)]
  simp [u8s, hk]
/-- make([]byte, n) at a step of a region that draws -/
theorem step_make {ops : Array Oper} {o : Oper} {a : Act} {K : Act → World → Prop} {Q : Exit → Act → World → Prop} {E : Prop} (w : World) (hw : Region.wanted o (yielded ops a.tmps) = true) (l c : Operand) (ho : o.op = Op.makeSlice 25 l c)
    (n : Nat) (hl : a.eval l = .int .i64 (n : Int)) (hc : a.eval c = .int .i64 (n : Int)) (hn : n ≤ 140737488355328)
    (h : ∀ g w', Src w' (.slice (some ⟨g, 0, none⟩) n n) (List.replicate n 0) → Below w.heap.size w w' → K (a.put o.dst (.slice (some ⟨g, 0, none⟩) n n)) w') :
    if Region.wanted o (yielded ops a.tmps) = true then Oper.wp Tryd.prog o a w K Q else E := by
  obtain ⟨i0, hi0, hz0, hz1, hz2⟩ := info_parts info5
  have hrun := run_make_row (P := Tryd.prog) 25 5 i0 (.int .u8 0) Tryd.underlying25 hi0 hz0 hz1 rfl .i64 .i64 n (by rw [hz2]; omega) (by omega) w
  rw [if_pos hw]
  unfold Oper.wp execOp
  simp only [ho, hl, hc, hrun, Sem.run_bind, Sem.run_pure, Result.andThen_ok]
  refine h w.heap.size _ ?_ ((Below.refl w.heap.size w).alloc (Nat.le_refl _) _)
  rw [made_zeros]
  have h := src_block (heap_new (w := w) rfl (.cells (u8s (List.replicate n 0)).toArray 5)) (fun x hx => by have := List.eq_of_mem_replicate hx; omega) (by simp; omega)
  rw [List.length_replicate] at h
  exact h
def dErrs : List Nat := [0, 1, 2, 6]
theorem dErrs_lt {B : Nat} (h : 17 ≤ B) : ∀ g ∈ dErrs, g < B := by
  intro g hg
  have : g ≤ 16 := by revert hg; revert g; decide
  omega
end Go.Proofs.YtgebekklkodpaaaDoor

/-! Co: plain: lists that a loop collects, each in a box, by the types of their blocks -/
namespace Go.Proofs.YtgebekklkodpaaaDoor
open Go.RowKit

/-- the block that turns is no block of cells of type e -/
def NotTy (w : World) (row : Option Nat) (e : TypeId) : Prop := ∀ r, row = some r → ∀ cs fr, w.heap[r]? ≠ some (.cells cs e fr)
theorem notTy_none (w : World) (e : TypeId) : NotTy w none e := fun _ h => by cases h
theorem notTy_row {w : World} {B e s n : Nat} {v : Value} {xs : List Value} (h : w.ownsRow B e s v n xs) {t : TypeId} (hne : e ≠ t) : NotTy w v.ownBlock t := by
  intro r hr cs fr hc
  rcases h.2 with ⟨rfl, _⟩ | ⟨g, cap, cur, rfl, _, hh, _⟩
  · simp [Value.ownBlock] at hr
  · simp only [Value.ownBlock, Option.some.injEq] at hr
    subst hr
    rw [hh] at hc
    simp only [Option.some.injEq, Obj.cells.injEq] at hc
    exact hne hc.2.1
theorem notTy_box {w : World} {P : Nat} {e : TypeId} {v : Value} (h : Boxed w P e v) {t : TypeId} (hne : e ≠ t) : NotTy w (some P) t := by
  intro r hr cs fr hc
  obtain rfl := Option.some.inj hr
  rw [show w.heap[P]? = _ from h] at hc
  simp only [Option.some.injEq, Obj.cells.injEq] at hc
  exact hne hc.2.1
theorem notTy_obj {w : World} {row : Option Nat} (h : ∀ r, row = some r → ∃ o : Obj, w.heap[r]? = some o ∧ o.isCells = false) (t : TypeId) : NotTy w row t := by
  intro r hr cs fr hc
  obtain ⟨o, ho, hn⟩ := h r hr
  rw [hc] at ho
  cases ho
  cases hn
theorem row_kept {w w' : World} {B e s n : Nat} {v : Value} {xs : List Value} {row : Option Nat} (h : w.ownsRow B e s v n xs) (hg : w.grownBy w' row) (ht : NotTy w row e) : w'.ownsRow B e s v n xs := by
  refine World.ownsRow.kept h hg ?_
  rcases h.2 with ⟨rfl, _⟩ | ⟨g, cap, cur, rfl, _, hh, _⟩
  · exact .inl rfl
  · exact .inr (fun e' => ht g (by simpa [Value.ownBlock] using e'.symm) _ _ hh)
theorem box_kept {w w' : World} {P : Nat} {t : TypeId} {v : Value} {row : Option Nat} (h : Boxed w P t v) (hg : w.grownBy w' row) (ht : NotTy w row t) : Boxed w' P t v :=
  h.kept hg (fun e => ht P e.symm _ _ h)
theorem fam_kept {w w' : World} {B : Nat} {rows : List Rw} {row : Option Nat} (h : Fam w B rows) (hg : w.grownBy w' row) (ht : NotTy w row 5) : Fam w' B rows :=
  ⟨fun i r hr => ⟨row_kept (h.1 i r hr).1 hg ht, (h.1 i r hr).2⟩, h.2⟩
theorem kept_kept {w w' : World} {Bx g : Nat} {bs : List Nat} {row : Option Nat} (h : Kept w Bx g bs) (hg : w.grownBy w' row) (h1 : NotTy w row 25) (h2 : NotTy w row 5) : Kept w' Bx g bs :=
  ⟨(hg.block _ (heap_lt h.1) (fun e => h1 Bx e.symm _ _ h.1)).trans h.1, (hg.block _ (heap_lt h.2) (fun e => h2 g e.symm _ _ h.2)).trans h.2⟩
theorem fam_snoc {w : World} {B : Nat} {rows : List Rw} {v : Value} {bs : List Nat} (h : Fam w B rows) (ho : Own w B v bs) (hx : ∀ x ∈ bs, x < 256) (hne : ∀ r ∈ rows, ∀ g, r.1.ownBlock = some g → v.ownBlock ≠ some g) : Fam w B (rows ++ [(v, bs)]) := by
  have get : ∀ (k : Nat) (r : Rw), (rows ++ [(v, bs)])[k]? = some r → (rows[k]? = some r ∧ k < rows.length) ∨ (k = rows.length ∧ r = (v, bs)) := by
    intro k r hk
    by_cases hl : k < rows.length
    · rw [List.getElem?_append_left hl] at hk
      exact .inl ⟨hk, hl⟩
    · rw [List.getElem?_append_right (by omega)] at hk
      have hk0 : k - rows.length = 0 := by
        by_cases h0 : k - rows.length = 0
        · exact h0
        · obtain ⟨m, hm⟩ : ∃ m, k - rows.length = m + 1 := ⟨k - rows.length - 1, by omega⟩
          rw [hm] at hk
          simp at hk
      rw [hk0] at hk
      simp at hk
      exact .inr ⟨by omega, hk.symm⟩
  refine ⟨fun i r hr => ?_, fun i j r s hij hr hs g hg => ?_⟩
  · rcases get i r hr with ⟨h1, _⟩ | ⟨_, rfl⟩
    · exact h.1 i r h1
    · exact ⟨ho, hx⟩
  · rcases get i r hr with ⟨h1, l1⟩ | ⟨e1, rfl⟩
    · rcases get j s hs with ⟨h2, _⟩ | ⟨_, rfl⟩
      · exact h.2 i j r s hij h1 h2 g hg
      · exact hne r (List.mem_of_getElem? h1) g hg
    · rcases get j s hs with ⟨h2, _⟩ | ⟨e2, rfl⟩
      · intro e
        exact hne s (List.mem_of_getElem? h2) g e hg
      · omega

/-- rows of blocks whose bodies are own rows, pairwise apart -/
def BFam (w : World) (B : Nat) (v : Value) (its : List It) : Prop :=
  w.ownsRow B 47 2 v its.length (cellsOf its) ∧ (∀ x ∈ its, x.1 < 256) ∧ Fam w B (its.map fun x => (x.2.1, x.2.2))
theorem bfam_mem {w : World} {B : Nat} {v : Value} {its : List It} (h : BFam w B v its) {x : It} (hx : x ∈ its) : Own w B x.2.1 x.2.2 ∧ ∀ y ∈ x.2.2, y < 256 := by
  obtain ⟨k, hk⟩ := List.mem_iff_getElem?.1 hx
  exact h.2.2.1 k _ (by rw [List.getElem?_map, hk]; rfl)
theorem bfam_bown {w : World} {B : Nat} {v : Value} {its : List It} (h : BFam w B v its) : BOwn w B v its :=
  ⟨h.1, fun x hx => ⟨h.2.1 x hx, bod_own (bfam_mem h hx).1 (bfam_mem h hx).2⟩⟩
theorem bfam_kept {w w' : World} {B : Nat} {v : Value} {its : List It} {row : Option Nat} (h : BFam w B v its) (hg : w.grownBy w' row) (h1 : NotTy w row 47) (h2 : NotTy w row 5) : BFam w' B v its :=
  ⟨row_kept h.1 hg h1, h.2.1, fam_kept h.2.2 hg h2⟩
theorem bfam_below {w w' : World} {B : Nat} {v : Value} {its : List It} (h : BFam w B v its) (hb : Below w.heap.size w w') : BFam w' B v its :=
  bfam_kept h (grown_of_below hb) (notTy_none _ _) (notTy_none _ _)
theorem bfam_nil (w : World) (B : Nat) (h : B ≤ w.heap.size) : BFam (w.alloc (.cells #[] 47)) B (.slice (some ⟨w.heap.size, 0, none⟩) 0 0) [] := by
  refine ⟨?_, by simp, by simp [Fam]⟩
  have h := World.ownsRow_lit (base := B) (e := 47) (size := 2) w #[] 0 h (by simp [maxLen]) (by simp)
  simpa [cellsOf] using h
theorem iown_lit (w : World) (B : Nat) (h : B ≤ w.heap.size) : IOwn (w.alloc (.cells #[] 3)) B (.slice (some ⟨w.heap.size, 0, none⟩) 0 0) [] := by
  have h := World.ownsRow_lit (base := B) (e := 3) (size := 1) w #[] 0 h (by simp [maxLen]) (by simp)
  simpa [i64s, IOwn] using h
theorem row_shape {w : World} {B e s n : Nat} {v : Value} {xs : List Value} (h : w.ownsRow B e s v n xs) : ∃ ao cap, v = .slice ao n cap := by
  rcases h.2 with ⟨rfl, rfl⟩ | ⟨g, cap, cur, rfl, _⟩
  · exact ⟨none, 0, rfl⟩
  · exact ⟨_, cap, rfl⟩

set_option maxRecDepth 100000 in
/-- a number is appended, in a round -/
theorem append_intI {F : Fence} {n₀ : Nat} {ops : Array Oper} {rest : List Oper} {o : Oper} {a : Act} {Q : Exit → Act → World → Prop} (w : World) (B g n : Nat) (v : Value) (ns : List Nat) (hgd : o.guard = none) (s y : Operand)
    (ho : o.op = .call { callee := .builtin .append, args := #[s, y], argTypes := #[63, 63] }) (hs : a.eval s = v) (hy : a.eval y = .slice (some ⟨g, 0, none⟩) 1 1)
    (hown : IOwn w B v ns) (hh : w.heap[g]? = some (.cells #[.int .i64 (n : Nat)] 3 (0, 0))) (hl : ns.length ≤ 1099511627776) (hB : B ≤ w.heap.size)
    (h : ∀ g' cap' w', IOwn w' B (.slice (some ⟨g', 0, none⟩) (ns.length + 1) cap') (ns ++ [n]) → w.grownBy w' v.ownBlock → wpListIn F n₀ Tryd.prog ops Q rest (a.put o.dst (.slice (some ⟨g', 0, none⟩) (ns.length + 1) cap')) w') :
    wpListIn F n₀ Tryd.prog ops Q (o :: rest) a w := by
  obtain ⟨i0, hi, hz0, hz1, hz2⟩ := info_parts info3
  refine wpListIn_append_own w hgd s y 63 ho B 3 i0 (.int .i64 0) 1 8 Tryd.underlying63 hi hz0 hz1 hz2 rfl (by decide) v ns.length (i64s ns) hs hown ⟨g, 0, none⟩ 1 1 (i64s [n]) hy rfl ?_ ?_ (by simp only [maxLen]; omega) (by omega) hB ?_
  · intro j x hx
    have e : w.cell? ((⟨g, 0, none⟩ : Addr).add j) = w.cell? ⟨g, j, none⟩ := by rw [Addr.add_lit, Nat.zero_add]
    rw [e, cell_at hh]
    simpa [i64s] using hx
  · intro x hx
    simp only [i64s, List.map_cons, List.map_nil, List.mem_cons, List.not_mem_nil, or_false] at hx
    subst hx
    rfl
  · intro v' w' hown' hg _
    obtain ⟨g', cap', rfl⟩ := ownsRow_succ hown'
    refine h g' cap' w' ?_ hg
    unfold IOwn
    rw [i64s_app, List.length_append]
    exact hown'
set_option maxRecDepth 100000 in
/-- a block is appended, in a round -/
theorem append_blkI {F : Fence} {n₀ : Nat} {ops : Array Oper} {rest : List Oper} {o : Oper} {a : Act} {Q : Exit → Act → World → Prop} (w : World) (B g : Nat) (v : Value) (its : List It) (x : It) (hgd : o.guard = none) (s y : Operand)
    (ho : o.op = .call { callee := .builtin .append, args := #[s, y], argTypes := #[38, 38] }) (hs : a.eval s = v) (hy : a.eval y = .slice (some ⟨g, 0, none⟩) 1 1)
    (hown : BFam w B v its) (hx : x.1 < 256) (hbo : Own w B x.2.1 x.2.2) (hb256 : ∀ y ∈ x.2.2, y < 256) (hne : ∀ y ∈ its, ∀ g, y.2.1.ownBlock = some g → x.2.1.ownBlock ≠ some g)
    (hh : w.heap[g]? = some (.cells #[.int .u8 (x.1 : Nat), x.2.1] 47 (0, 0))) (hl : its.length ≤ 1099511627776) (hB : B ≤ w.heap.size)
    (h : ∀ g' cap' w', BFam w' B (.slice (some ⟨g', 0, none⟩) (its.length + 1) cap') (its ++ [x]) → w.grownBy w' v.ownBlock → wpListIn F n₀ Tryd.prog ops Q rest (a.put o.dst (.slice (some ⟨g', 0, none⟩) (its.length + 1) cap')) w') :
    wpListIn F n₀ Tryd.prog ops Q (o :: rest) a w := by
  obtain ⟨i0, hi, hz0, hz1, hz2⟩ := info_parts info47
  refine wpListIn_append_own w hgd s y 38 ho B 47 i0 (.agg #[.int .u8 0, .slice none 0 0]) 2 32 Tryd.underlying38 hi hz0 hz1 hz2 rfl (by decide) v its.length (cellsOf its) hs hown.1 ⟨g, 0, none⟩ 1 1 (cellsOf [x]) hy rfl ?_ ?_ (by simp only [maxLen]; omega) (by omega) hB ?_
  · intro j u hu
    have e : w.cell? ((⟨g, 0, none⟩ : Addr).add j) = w.cell? ⟨g, j, none⟩ := by rw [Addr.add_lit, Nat.zero_add]
    rw [e, cell_at hh]
    simpa [cellsOf] using hu
  · intro u hu
    simp only [cellsOf, List.flatMap_cons, List.flatMap_nil, List.append_nil, List.mem_cons, List.not_mem_nil, or_false] at hu
    rcases hu with rfl | rfl
    · rfl
    · exact src_one (own_src hbo hb256)
  · intro v' w' hown' hg _
    obtain ⟨g', cap', rfl⟩ := ownsRow_succ hown'
    refine h g' cap' w' ⟨?_, ?_, ?_⟩ hg
    · rw [cellsOf_app, List.length_append]
      exact hown'
    · intro y hy
      rcases List.mem_append.1 hy with hy | hy
      · exact hown.2.1 y hy
      · simp at hy
        subst hy
        exact hx
    · have h5 := notTy_row hown.1 (t := 5) (by decide)
      rw [List.map_append]
      refine fam_snoc (fam_kept hown.2.2 hg h5) (row_kept hbo hg h5) hb256 ?_
      intro r hr q hq
      obtain ⟨y, hy, rfl⟩ := List.mem_map.1 hr
      exact hne y hy q hq

theorem row_mono {w : World} {B B' e s n : Nat} {v : Value} {xs : List Value} (h : w.ownsRow B e s v n xs) (hB : B' ≤ B) : w.ownsRow B' e s v n xs := by
  refine ⟨h.1, ?_⟩
  rcases h.2 with h | ⟨g, cap, cur, rfl, hb, hh, hn⟩
  · exact .inl h
  · exact .inr ⟨g, cap, cur, rfl, by omega, hh, hn⟩
theorem fam_mono {w : World} {B B' : Nat} {rows : List Rw} (h : Fam w B rows) (hB : B' ≤ B) : Fam w B' rows := ⟨fun i r hr => ⟨row_mono (h.1 i r hr).1 hB, (h.1 i r hr).2⟩, h.2⟩
theorem bfam_mono {w : World} {B B' : Nat} {v : Value} {its : List It} (h : BFam w B v its) (hB : B' ≤ B) : BFam w B' v its := ⟨row_mono h.1 hB, h.2.1, fam_mono h.2.2 hB⟩
/-- all blocks of cells of type t lie as they lay -/
def KeepTy (W W' : World) (t : TypeId) : Prop := ∀ (k : Nat) (cs : Array Value) (fr : Nat × Nat), W.heap[k]? = some (.cells cs t fr) → W'.heap[k]? = some (.cells cs t fr)
theorem KeepTy.trans {A B C : World} {t : TypeId} (h : KeepTy A B t) (k : KeepTy B C t) : KeepTy A C t := fun i cs fr hi => k i cs fr (h i cs fr hi)
theorem keepTy_grown {W W' : World} {row : Option Nat} {t : TypeId} (hg : W.grownBy W' row) (hn : NotTy W row t) : KeepTy W W' t := fun k _ _ hk =>
  (hg.block k (heap_lt hk) (fun e => hn k e.symm _ _ hk)).trans hk
theorem keepTy_below {W W' : World} (hb : Below W.heap.size W W') (t : TypeId) : KeepTy W W' t := keepTy_grown (grown_of_below hb) (notTy_none _ _)
theorem row_keepTy {w w' : World} {B e s n : Nat} {v : Value} {xs : List Value} (h : w.ownsRow B e s v n xs) (hk : KeepTy w w' e) : w'.ownsRow B e s v n xs := by
  refine ⟨h.1, ?_⟩
  rcases h.2 with h | ⟨g, cap, cur, rfl, hb, hh, hn⟩
  · exact .inl h
  · exact .inr ⟨g, cap, cur, rfl, hb, hk _ _ _ hh, hn⟩
theorem box_keepTy {w w' : World} {P : Nat} {t : TypeId} {v : Value} (h : Boxed w P t v) (hk : KeepTy w w' t) : Boxed w' P t v := hk _ _ _ h
theorem fam_keepTy {w w' : World} {B : Nat} {rows : List Rw} (h : Fam w B rows) (hk : KeepTy w w' 5) : Fam w' B rows :=
  ⟨fun i r hr => ⟨row_keepTy (h.1 i r hr).1 hk, (h.1 i r hr).2⟩, h.2⟩
theorem bfam_keepTy {w w' : World} {B : Nat} {v : Value} {its : List It} (h : BFam w B v its) (h1 : KeepTy w w' 47) (h2 : KeepTy w w' 5) : BFam w' B v its :=
  ⟨row_keepTy h.1 h1, h.2.1, fam_keepTy h.2.2 h2⟩
theorem kept_keepTy {w w' : World} {Bx g : Nat} {bs : List Nat} (h : Kept w Bx g bs) (h1 : KeepTy w w' 25) (h2 : KeepTy w w' 5) : Kept w' Bx g bs :=
  ⟨h1 _ _ _ h.1, h2 _ _ _ h.2⟩
/-- the blocks that a Scan's loop must leave alone -/
def ScanS (Bx g : Nat) (k : Nat) : Prop := k < 17 ∨ k = Bx ∨ k = g
theorem scanS_same {W W' : World} {Bx g B : Nat} {bs : List Nat} (h : Kept W Bx g bs) (hb : Below B W W') (hB : 17 ≤ B) (h1 : KeepTy W W' 25) (h2 : KeepTy W W' 5) : Same (ScanS Bx g) W W' := by
  refine ⟨hb.size, fun k o hk ho => ?_⟩
  rcases hk with hk | rfl | rfl
  · exact (hb.block k (by omega)).trans ho
  · have e := h.1.symm.trans ho
    rw [← Option.some.inj e]
    exact h1 _ _ _ h.1
  · have e := h.2.symm.trans ho
    rw [← Option.some.inj e]
    exact h2 _ _ _ h.2
/-- 'out = append(out, ..)': the blocks of other types -/
theorem appended_keep {W w1 : World} {n₀ B : Nat} {t e : TypeId} {size : Nat} {v v' : Value} {k : Nat} {xs : List Value} {tmp : Obj}
    (hv : Boxed W B t v) (hte : t ≠ e) (hrow : W.ownsRow n₀ e size v k xs) (hgrow : (W.alloc tmp).grownBy w1 v.ownBlock) {q : TypeId} (hq1 : t ≠ q) (hq2 : e ≠ q) : KeepTy W (w1.setCell ⟨B, 0, none⟩ v') q := by
  have hv1 : Boxed w1 B t v := (hv.alloc tmp).kept hgrow (hv.not_row hte hrow)
  have h1 : KeepTy W (W.alloc tmp) q := keepTy_grown (World.grownBy_alloc W tmp none) (notTy_none _ _)
  have h2 : KeepTy (W.alloc tmp) w1 q := keepTy_grown hgrow (notTy_row (hrow.alloc tmp) hq2)
  have h3 : KeepTy w1 (w1.setCell ⟨B, 0, none⟩ v') q := keepTy_grown (grownBy_setCell' w1 B v') (notTy_box hv1 hq1)
  exact (h1.trans h2).trans h3
end Go.Proofs.YtgebekklkodpaaaDoor

/-! Sd: the law's 'scanned': what going over Scan tells, up to so many steps -/
namespace Go.Proofs.YtgebekklkodpaaaDoor
open Go.RowKit Go.Shelf
attribute [local go_sem] Oper.semAt_some

theorem func_nil (v : Value) : ∀ w : World, (binOp .eql 70 (.func (.func 71) #[] #[v]) .nilFunc).run Tryd.prog w = .ok (.bool false) w := by
  intro w
  kernel_rfl
/-- what the loop has collected -/
structure Coll (W0 W : World) (B P0 P1 P2 Bx gk M : Nat) (bs : List Nat) (pre : List Itm) : Prop where
  most : Boxed W P0 3 (.int .i64 (M : Nat))
  ints : ∃ ao cap, Boxed W P1 63 (.slice ao (pls pre).length cap) ∧ IOwn W B (.slice ao (pls pre).length cap) (pls pre)
  blks : ∃ ao cap, Boxed W P2 38 (.slice ao (pre.map (·.2)).length cap) ∧ BFam W B (.slice ao (pre.map (·.2)).length cap) (pre.map (·.2))
  kept : Kept W Bx gk bs
  below : Below W0.heap.size W0 W
theorem coll_kept {W0 W W' : World} {B P0 P1 P2 Bx gk M : Nat} {bs : List Nat} {pre : List Itm} {row : Option Nat} (h : Coll W0 W B P0 P1 P2 Bx gk M bs pre) (hg : W.grownBy W' row) (nt : ∀ t, NotTy W row t) (hr : ∀ r, row = some r → W0.heap.size ≤ r) :
    Coll W0 W' B P0 P1 P2 Bx gk M bs pre := by
  obtain ⟨a1, c1, b1, i1⟩ := h.ints
  obtain ⟨a2, c2, b2, i2⟩ := h.blks
  exact ⟨box_kept h.most hg (nt 3), ⟨a1, c1, box_kept b1 hg (nt 63), row_kept i1 hg (nt 3)⟩, ⟨a2, c2, box_kept b2 hg (nt 38), bfam_kept i2 hg (nt 47) (nt 5)⟩, kept_kept h.kept hg (nt 25) (nt 5), h.below.grown hg h.below.size hr⟩
theorem coll_below {W0 W W' : World} {B P0 P1 P2 Bx gk M : Nat} {bs : List Nat} {pre : List Itm} (h : Coll W0 W B P0 P1 P2 Bx gk M bs pre) (hb : Below W.heap.size W W') : Coll W0 W' B P0 P1 P2 Bx gk M bs pre :=
  coll_kept h (grown_of_below hb) (fun _ => notTy_none _ _) (fun _ e => by cases e)
/-- a block handed over: its row is new -/
structure Come (W : World) (B : Nat) (pre : List Itm) (x : Itm) : Prop where
  tag : x.2.1 < 256
  own : Own W B x.2.2.1 x.2.2.2
  lt : ∀ y ∈ x.2.2.2, y < 256
  apart : ∀ y ∈ pre, ∀ g, y.2.2.1.ownBlock = some g → x.2.2.1.ownBlock ≠ some g
theorem come_of {A C : World} {B : Nat} {v : Value} {pre : List Itm} {x : Itm} (h : BFam A B v (pre.map (·.2))) (hok : itOk A x C) (hB : B ≤ A.heap.size) : Come C B pre x := by
  obtain ⟨h1, gx, m, h2, h3, h4, h5, h6, h7⟩ := hok
  refine ⟨h1, ?_, h6, fun y hy g hg => ?_⟩
  · rw [h2, h3]
    exact own_block h5 (by omega) (by omega)
  · have hl := (World.ownsRow.lt (bfam_mem h (List.mem_map.2 ⟨y, hy, rfl⟩)).1 g hg).2
    rw [h2]
    intro e
    simp only [Value.ownBlock, Option.some.injEq] at e
    omega
theorem come_keepTy {W W' : World} {B : Nat} {pre : List Itm} {x : Itm} (h : Come W B pre x) (hk : KeepTy W W' 5) : Come W' B pre x := ⟨h.tag, row_keepTy h.own hk, h.lt, h.apart⟩

set_option maxRecDepth 100000 in
set_option maxHeartbeats 4000000 in
theorem scanned_any (w : World) (Z : Zip w) (E : Nat → Addr) (h0 : ErrAt w 0 (E 0)) (h1 : ErrAt w 1 (E 1)) (h2 : ErrAt w 2 (E 2)) (h6 : ErrAt w 6 (E 6)) (hg : 17 ≤ w.heap.size) (v : Value) (bs : List Nat) (hs : Src w v bs) (M : Nat) (hM : M ≤ 1000000000) (hl : bs.length ≤ 100000000) :
    Calls Tryd.prog 42 #[v, .int .i64 (M : Nat)] w fun e w' => ∃ v1 v2 its, e = .returned (.tuple #[v1, v2]) ∧ IOwn w' w.heap.size v1 ((scan (bs.length + 1) 0 bs).1.take M) ∧ BFam w' w.heap.size v2 its ∧ blOf its = (scan (bs.length + 1) 0 bs).2.take M ∧ Below w.heap.size w w' := by
  obtain ⟨ao, cap, rfl⟩ := src_form hs
  have HS := hide hs
  have HZ := hide Z
  have H0 := hide h0
  have H1 := hide h1
  have H2 := hide h2
  have H6 := hide h6
  clear hs Z h0 h1 h2 h6
  refine (callsIn_wide (n := 9)).1 ?_
  refine callsIn_of_wp_marks Tryd.func42 rfl trivial ?_ rfl
  simp only [Tryd.ntmps42, List.size_toArray, List.length_cons, List.length_nil, Nat.reduceAdd, Nat.reduceSub, Array.replicate_succ, Array.replicate_zero, List.push_toArray, List.append_toArray, List.nil_append, List.cons_append]
  gi_wp2_with fail
  have hsz : (((((w.alloc (Obj.cells #[Value.int IntKind.i64 (M : Nat)] 3)).alloc (Obj.cells #[] 3)).alloc (Obj.cells #[Value.slice (some { block := w.heap.size + 1, off := 0 }) 0 0] 63)).alloc (Obj.cells #[] 47)).alloc (Obj.cells #[Value.slice (some { block := w.heap.size + 1 + 1 + 1, off := 0 }) 0 0] 38)).heap.size = w.heap.size + 5 := by simp only [World.size_alloc]
  have f0 : Boxed (((((w.alloc (Obj.cells #[Value.int IntKind.i64 (M : Nat)] 3)).alloc (Obj.cells #[] 3)).alloc (Obj.cells #[Value.slice (some { block := w.heap.size + 1, off := 0 }) 0 0] 63)).alloc (Obj.cells #[] 47)).alloc (Obj.cells #[Value.slice (some { block := w.heap.size + 1 + 1 + 1, off := 0 }) 0 0] 38)) w.heap.size 3 (.int .i64 (M : Nat)) :=
    ((((Boxed.new w 3 (.int .i64 (M : Nat))).alloc _).alloc _).alloc _).alloc _
  have f1 : Boxed (((((w.alloc (Obj.cells #[Value.int IntKind.i64 (M : Nat)] 3)).alloc (Obj.cells #[] 3)).alloc (Obj.cells #[Value.slice (some { block := w.heap.size + 1, off := 0 }) 0 0] 63)).alloc (Obj.cells #[] 47)).alloc (Obj.cells #[Value.slice (some { block := w.heap.size + 1 + 1 + 1, off := 0 }) 0 0] 38)) (w.heap.size + 1 + 1) 63 (.slice (some ⟨w.heap.size + 1, 0, none⟩) 0 0) := by
    have h := Boxed.new ((w.alloc (Obj.cells #[Value.int IntKind.i64 (M : Nat)] 3)).alloc (Obj.cells #[] 3)) 63 (.slice (some ⟨w.heap.size + 1, 0, none⟩) 0 0)
    simp only [World.size_alloc] at h
    exact (h.alloc _).alloc _
  have f2 : Boxed (((((w.alloc (Obj.cells #[Value.int IntKind.i64 (M : Nat)] 3)).alloc (Obj.cells #[] 3)).alloc (Obj.cells #[Value.slice (some { block := w.heap.size + 1, off := 0 }) 0 0] 63)).alloc (Obj.cells #[] 47)).alloc (Obj.cells #[Value.slice (some { block := w.heap.size + 1 + 1 + 1, off := 0 }) 0 0] 38)) (w.heap.size + 1 + 1 + 1 + 1) 38 (.slice (some ⟨w.heap.size + 1 + 1 + 1, 0, none⟩) 0 0) := by
    have h := Boxed.new ((((w.alloc (Obj.cells #[Value.int IntKind.i64 (M : Nat)] 3)).alloc (Obj.cells #[] 3)).alloc (Obj.cells #[Value.slice (some { block := w.heap.size + 1, off := 0 }) 0 0] 63)).alloc (Obj.cells #[] 47)) 38 (.slice (some ⟨w.heap.size + 1 + 1 + 1, 0, none⟩) 0 0)
    simp only [World.size_alloc] at h
    exact h
  have i1 : IOwn (((((w.alloc (Obj.cells #[Value.int IntKind.i64 (M : Nat)] 3)).alloc (Obj.cells #[] 3)).alloc (Obj.cells #[Value.slice (some { block := w.heap.size + 1, off := 0 }) 0 0] 63)).alloc (Obj.cells #[] 47)).alloc (Obj.cells #[Value.slice (some { block := w.heap.size + 1 + 1 + 1, off := 0 }) 0 0] 38)) (w.heap.size + 1) (.slice (some ⟨w.heap.size + 1, 0, none⟩) 0 0) [] := by
    have h := iown_lit (w.alloc (Obj.cells #[Value.int IntKind.i64 (M : Nat)] 3)) (w.heap.size + 1) (by simp)
    simp only [World.size_alloc] at h
    exact ((World.ownsRow.alloc (World.ownsRow.alloc h _) _).alloc _)
  have i2 : BFam (((((w.alloc (Obj.cells #[Value.int IntKind.i64 (M : Nat)] 3)).alloc (Obj.cells #[] 3)).alloc (Obj.cells #[Value.slice (some { block := w.heap.size + 1, off := 0 }) 0 0] 63)).alloc (Obj.cells #[] 47)).alloc (Obj.cells #[Value.slice (some { block := w.heap.size + 1 + 1 + 1, off := 0 }) 0 0] 38)) (w.heap.size + 1) (.slice (some ⟨w.heap.size + 1 + 1 + 1, 0, none⟩) 0 0) [] := by
    have h := bfam_nil (((w.alloc (Obj.cells #[Value.int IntKind.i64 (M : Nat)] 3)).alloc (Obj.cells #[] 3)).alloc (Obj.cells #[Value.slice (some { block := w.heap.size + 1, off := 0 }) 0 0] 63)) (w.heap.size + 1) (by simp only [World.size_alloc]; omega)
    simp only [World.size_alloc] at h
    exact bfam_below h ((Below.refl _ _).alloc (Nat.le_refl _) _)
  have hb5 : Below w.heap.size w (((((w.alloc (Obj.cells #[Value.int IntKind.i64 (M : Nat)] 3)).alloc (Obj.cells #[] 3)).alloc (Obj.cells #[Value.slice (some { block := w.heap.size + 1, off := 0 }) 0 0] 63)).alloc (Obj.cells #[] 47)).alloc (Obj.cells #[Value.slice (some { block := w.heap.size + 1 + 1 + 1, off := 0 }) 0 0] 38)) :=
    (((((Below.refl w.heap.size w).alloc (Nat.le_refl _) _).alloc (by simp) _).alloc (by simp only [World.size_alloc]; omega) _).alloc (by simp only [World.size_alloc]; omega) _).alloc (by simp only [World.size_alloc]; omega) _
  have hsz5 := Nat.le_of_eq hsz.symm
  clear hsz
  generalize (((((w.alloc (Obj.cells #[Value.int IntKind.i64 (M : Nat)] 3)).alloc (Obj.cells #[] 3)).alloc (Obj.cells #[Value.slice (some { block := w.heap.size + 1, off := 0 }) 0 0] 63)).alloc (Obj.cells #[] 47)).alloc (Obj.cells #[Value.slice (some { block := w.heap.size + 1 + 1 + 1, off := 0 }) 0 0] 38)) = w5 at *
  have q1 : w.heap.size < w.heap.size + 1 + 1 := by omega
  have q2 : w.heap.size + 1 + 1 < w.heap.size + 1 + 1 + 1 + 1 := by omega
  have q3 : w.heap.size + 1 + 1 + 1 + 1 < w5.heap.size := by omega
  have q4 : w.heap.size + 1 ≤ w5.heap.size := by omega
  have q5 : w.heap.size < w.heap.size + 1 := by omega
  have q6 : w.heap.size + 1 ≤ w.heap.size + 1 + 1 := by omega
  clear hsz5
  generalize w.heap.size + 1 + 1 + 1 + 1 = P2 at *
  generalize w.heap.size + 1 + 1 + 1 = L2 at *
  generalize w.heap.size + 1 + 1 = P1 at *
  generalize w.heap.size + 1 = L1 at *
  have HSC := hide (scan_any w5 _ bs (src_keep HS.out hb5) (by omega))
  have F0 := hide f0
  have F1 := hide f1
  have F2 := hide f2
  have I1 := hide i1
  have I2 := hide i2
  have HB5 := hide hb5
  clear f0 f1 f2 i1 i2 hb5
  refine ⟨trivial, (callsIn_wide.2 HSC.out).mono ?_⟩
  rintro e w6 ⟨Bx, gk, rfl, hBx, hgk, hk, hb6⟩
  have g6 := grown_of_below hb6
  have HB6 := hide (HB5.out.trans (hb6.mono HB5.out.size))
  have z56 := hb6.size
  have F06 := hide (box_kept F0.out g6 (notTy_none _ _))
  have F16 := hide (box_kept F1.out g6 (notTy_none _ _))
  have F26 := hide (box_kept F2.out g6 (notTy_none _ _))
  have I16 := hide (row_kept I1.out g6 (notTy_none _ _))
  have I26 := hide (bfam_kept I2.out g6 (notTy_none _ _) (notTy_none _ _))
  have HK := hide hk
  have hBx6 := heap_lt hk.1
  have hgk6 := heap_lt hk.2
  clear hk hb6 g6 HSC F0 F1 F2 I1 I2
  have HTE := hide (scan_tells (ScanS Bx gk) 8 Bx gk bs w6 (zip_below HZ.out HB6.out (by omega)) E (err_below H0.out HB6.out (by omega)) (err_below H1.out HB6.out (by omega)) (err_below H2.out HB6.out (by omega)) (err_below H6.out HB6.out (by omega)) (fun k hk => .inl hk) (by omega) (.inr (.inl rfl)) (.inr (.inr rfl)) HK.out HS.out.1 hl)
  have hnf := func_nil (.pointer (some ⟨Bx, 0, none⟩))
  gi_wp2_with fail
  obtain ⟨Ac, hAc⟩ : ∃ Ac : Nat → Value → Value → Value → Act, Ac = fun bb at_ ag u => { tmps := #[.slice ao bs.length cap, .int .i64 (M : Nat), undef, .pointer (some ⟨w.heap.size, 0, none⟩), .slice none 0 0, .slice none 0 0, .pointer (some ⟨P1, 0, none⟩), .pointer (some ⟨P2, 0, none⟩), .func (.func 71) #[] #[.pointer (some ⟨Bx, 0, none⟩)], at_, .pointer (some ⟨bb, 0, none⟩), .slice (some ⟨L1, 0, none⟩) 0 0, .slice (some ⟨L2, 0, none⟩) 0 0, .slice ao bs.length cap, .func (.func 71) #[] #[.pointer (some ⟨Bx, 0, none⟩)], .func (.func 71) #[] #[.pointer (some ⟨Bx, 0, none⟩)], .bool false, u, .func (.func 71) #[] #[.pointer (some ⟨Bx, 0, none⟩)], at_, ag, undef, undef, undef, undef, undef, undef, undef, undef, undef, undef, undef, undef, undef, undef], defers := [] } := ⟨_, rfl⟩
  have c0 : Coll w w6 L1 w.heap.size P1 P2 Bx gk M bs [] := ⟨F06.out, ⟨some ⟨L1, 0, none⟩, 0, F16.out, I16.out⟩, ⟨some ⟨L2, 0, none⟩, 0, F26.out, I26.out⟩, HK.out, HB6.out⟩
  refine range_told (α := Itm) (encs := itEnc) (Ok := itOk) (Sa := scanAll bs) (Sp := scanPart bs) (S := ScanS Bx gk) rfl (by omega) (gf := 71) (lb := #[.pointer (some ⟨Bx, 0, none⟩)]) rfl trivial (enters_of Tryd.func71 (by kernel_rfl) rfl)
    HTE.out (by rintro k (h | rfl | rfl) <;> omega) (fun _ => rfl)
    (fun pre W => Coll w W L1 w.heap.size P1 P2 Bx gk M bs pre ∧ pre.length ≤ M ∧ w6.heap.size ≤ W.heap.size)
    (fun c pre W => c = .exit 0 ∧ ∃ p x, pre = p ++ [x] ∧ p.length = M ∧ Coll w W L1 w.heap.size P1 P2 Bx gk M bs p ∧ w6.heap.size ≤ W.heap.size)
    (fun pre x a' W => Coll w W L1 w.heap.size P1 P2 Bx gk M bs pre ∧ pre.length ≤ M ∧ w6.heap.size ≤ W.heap.size ∧ Come W L1 pre x ∧ ∃ bb, a' = Ac bb (.int .i64 (x.1 : Nat)) (.agg #[.int .u8 (x.2.1 : Nat), x.2.2.1]) undef ∧ W.heap[bb]? = some (.cells #[.int .u8 (x.2.1 : Nat), x.2.2.1] 47 (0, 0)))
    ?hI ?hIx ?hT ⟨c0, by simp, Nat.le_refl _⟩ ?assign ?body ?done ?stop
  case hI =>
    rintro pre A C row ⟨h, h1, h2⟩ hgr hr
    exact ⟨coll_kept h hgr (notTy_obj (fun r e => (hr r e).2)) (fun r e => by have := (hr r e).1; have := HB6.out.size; omega), h1, Nat.le_trans h2 hgr.size⟩
  case hIx =>
    rintro c pre A C row ⟨e0, p, x, e1, e2, h, h2⟩ hgr hr
    exact ⟨e0, p, x, e1, e2, coll_kept h hgr (notTy_obj (fun r e => (hr r e).2)) (fun r e => by have := (hr r e).1; have := HB6.out.size; omega), Nat.le_trans h2 hgr.size⟩
  case hT =>
    rintro a' ⟨pre, x⟩ A C row ⟨h, h1, h2, h3, bb, e, hbb⟩ hgr hr
    have nt := notTy_obj (fun r e => (hr r e).2)
    exact ⟨coll_kept h hgr nt (fun r e => by have := (hr r e).1; have := HB6.out.size; omega), h1, Nat.le_trans h2 hgr.size, come_keepTy h3 (keepTy_grown hgr (nt 5)), bb, e, keepTy_grown hgr (nt 47) _ _ _ hbb⟩
  case assign =>
    rintro l pre ⟨at_, t, v, body⟩ A C K ⟨h, h1, h2⟩ hb hok hzA hK
    obtain ⟨a2, c2, b2, i2⟩ := h.blks
    have hcm := come_of i2 hok (by omega)
    have hc := coll_below h hb
    clear i2 b2
    have hzC := hb.size
    obtain ⟨_, gx, m, hv, hm, _⟩ := hok
    simp only at hv hm
    subst hv
    have HM := hide hm
    clear hm
    have hw : Below C.heap.size C (C.alloc (.cells #[.int .u8 (t : Nat), .slice (some ⟨gx, 0, none⟩) m m] 47)) := (Below.refl C.heap.size C).alloc (Nat.le_refl _) _
    have hK' := hide (hK (Ac C.heap.size (.int .i64 (at_ : Nat)) (.agg #[.int .u8 (t : Nat), .slice (some ⟨gx, 0, none⟩) m m]) undef) _ ((KeepsOthers.alloc _ _).from _) (same_below hw)
      ⟨coll_below hc hw, h1, by have := hw.size; omega, come_keepTy hcm (keepTy_below hw 5), C.heap.size, rfl, heap_new rfl _⟩)
    clear hK hc hcm hw
    subst hAc
    dsimp only [itEnc]
    gi_wp2_with fail
    exact hK'.out
  case body =>
    rintro l pre ⟨at_, t, v, body⟩ a' W ⟨h, h1, h2, h3, bb, rfl, hbb⟩
    obtain ⟨a1, k1, b1, i1⟩ := h.ints
    obtain ⟨a2, k2, b2, i2⟩ := h.blks
    have HC := hide h
    have HCM := hide h3
    have hzW := h.below.size
    have e0 := h.most.cell
    have e1 := b1.cell
    have n1 : (pls pre).length = pre.length := by simp [pls]
    have n2 : (pre.map (·.2)).length = pre.length := by simp
    rw [n1] at e1 b1 i1
    rw [n2] at b2 i2
    have HI1 := hide i1
    have HI2 := hide i2
    have HBX1 := hide b1
    have HBX2 := hide b2
    subst hAc
    dsimp only at hbb ⊢
    by_cases hlt : pre.length < M
    · have hlt' : ¬ ((M : Int) ≤ (pre.length : Int)) := by omega
      have f1 := b1.frozen
      have HBB := hide hbb
      clear h h3 i1 i2 b1 b2 hbb
      gi_wp2_with (refine append_intI (W.alloc (.cells #[.int .i64 (at_ : Nat)] 3)) L1 W.heap.size at_ _ (pls pre) rfl (.tmp 25) (.tmp 27) rfl rfl rfl (World.ownsRow.alloc HI1.out _) (heap_new rfl _) (by simp only [pls, List.length_map]; omega) (by rw [World.size_alloc]; omega) ?_)
      intro g1 cap1 wa hoa hga
      obtain ⟨hv1, hv2, hr2, hko, hbw⟩ := HBX1.out.appended (by decide) HI1.out (by omega) (by omega) hoa hga
      have hk := fun q h1 h2 => appended_keep (v' := .slice (some ⟨g1, 0, none⟩) (pre.length + 1) cap1) (q := q) HBX1.out (by decide) HI1.out hga h1 h2
      have hc1 := hv1.cell
      have hf1 := hv1.frozen
      have HC3 := hide (box_keepTy HBX2.out (hk 38 (by decide) (by decide)))
      have HI3 := hide (bfam_keepTy HI2.out (hk 47 (by decide) (by decide)) (hk 5 (by decide) (by decide)))
      have HM3 := hide (come_keepTy HCM.out (hk 5 (by decide) (by decide)))
      have HX3 := hide (hk 47 (by decide) (by decide) _ _ _ HBB.out)
      have HS3 := hide (scanS_same HC.out.kept hbw (by omega) (hk 25 (by decide) (by decide)) (hk 5 (by decide) (by decide)))
      have HK3 := hide (kept_keepTy HC.out.kept (hk 25 (by decide) (by decide)) (hk 5 (by decide) (by decide)))
      have HB3 := hide hbw
      have HO3 := hide hko
      have HV3 := hide hv2
      have HR3 := hide hr2
      have e2 := HC3.out.cell
      have f2 := HC3.out.frozen
      have hb2 := cells2 HX3.out
      obtain ⟨d0, d1⟩ := hb2
      clear hoa hga hv1 hv2 hr2 hko hbw hk
      have hq4 : Below (wa.setCell ⟨P1, 0, none⟩ (.slice (some ⟨g1, 0, none⟩) (pre.length + 1) cap1)).heap.size (wa.setCell ⟨P1, 0, none⟩ (.slice (some ⟨g1, 0, none⟩) (pre.length + 1) cap1)) ((wa.setCell ⟨P1, 0, none⟩ (.slice (some ⟨g1, 0, none⟩) (pre.length + 1) cap1)).alloc (.cells #[.int .u8 (t : Nat), v] 47)) := (Below.refl _ _).alloc (Nat.le_refl _) _
      have HI4 := hide (bfam_below HI3.out hq4)
      have HM4 := hide (come_keepTy HM3.out (keepTy_below hq4 5))
      have hz3 := HB3.out.size
      have hz4 := hq4.size
      have HH4 := hide (show ((wa.setCell ⟨P1, 0, none⟩ (.slice (some ⟨g1, 0, none⟩) (pre.length + 1) cap1)).alloc (.cells #[.int .u8 (t : Nat), v] 47)).heap[wa.heap.size]? = some (.cells #[.int .u8 (t : Nat), v] 47 (0, 0)) from heap_new (by rw [World.size_setCell]) _)
      clear hq4
      have HAP := hide (fun (y : It) (hy : y ∈ pre.map fun (z : Itm) => z.2) (g : Nat) (hg : y.2.1.ownBlock = some g) => (by obtain ⟨z, hz, rfl⟩ := List.mem_map.1 hy; exact HM4.out.apart z hz g hg : v.ownBlock ≠ some g))
      have HLE := hide (show (pre.map fun (z : Itm) => z.2).length ≤ 1099511627776 by rw [n2]; omega)
      have HBE := hide (show L1 ≤ ((wa.setCell ⟨P1, 0, none⟩ (.slice (some ⟨g1, 0, none⟩) (pre.length + 1) cap1)).alloc (.cells #[.int .u8 (t : Nat), v] 47)).heap.size by omega)
      gi_wp2_with (refine append_blkI _ L1 wa.heap.size (.slice a2 pre.length k2) (pre.map fun (z : Itm) => z.2) (t, v, body) rfl (.tmp 29) (.tmp 31) rfl rfl rfl HI4.out HM4.out.tag HM4.out.own HM4.out.lt HAP.out HH4.out HLE.out HBE.out ?_)
      intro g2 cap2 wb hob hgb
      obtain ⟨hv1, hv2, hr2, hko, hbw⟩ := HC3.out.appended (by decide) HI3.out.1 (by omega) (by omega) hob.1 hgb
      have hk := fun q h1 h2 => appended_keep (v' := .slice (some ⟨g2, 0, none⟩) (pre.length + 1) cap2) (q := q) HC3.out (by decide) HI3.out.1 hgb h1 h2
      have hc1 := hv1.cell
      have hf1 := hv1.frozen
      have HOB := hide hob
      have HV5 := hide hv2
      have HB5' := hide hbw
      have HO5 := hide hko
      have HP5 := hide (box_keepTy HV3.out (hk 63 (by decide) (by decide)))
      have HR5 := hide (row_keepTy HR3.out (hk 3 (by decide) (by decide)))
      have HS5 := hide (scanS_same HK3.out hbw (by omega) (hk 25 (by decide) (by decide)) (hk 5 (by decide) (by decide)))
      have HK5 := hide (kept_keepTy HK3.out (hk 25 (by decide) (by decide)) (hk 5 (by decide) (by decide)))
      have HX5 := hide (show BFam (wb.setCell ⟨P2, 0, none⟩ (.slice (some ⟨g2, 0, none⟩) (pre.length + 1) cap2)) L1 (.slice (some ⟨g2, 0, none⟩) (pre.length + 1) cap2) (pre.map (fun (z : Itm) => z.2) ++ [(t, v, body)]) from by
        have hob' := hob
        exact ⟨row_keepTy hob'.1 (keepTy_grown (grownBy_setCell' wb P2 _) (notTy_box hv1 (by decide))), hob'.2.1, fam_keepTy hob'.2.2 (keepTy_grown (grownBy_setCell' wb P2 _) (notTy_box hv1 (by decide)))⟩)
      have h5 := hk 5 (by decide) (by decide)
      clear hv1 hv2 hko hbw hk hgb hob e2 f2 d0 d1
      gi_wp2_with fail
      have hbAll := HB3.out.trans HB5'.out
      have hn : (pls (pre ++ [(at_, t, v, body)])).length = pre.length + 1 := by simp [pls]
      have hp : pls (pre ++ [(at_, t, v, body)]) = pls pre ++ [at_] := by simp [pls]
      have hn2 : ((pre ++ [(at_, t, v, body)]).map fun (z : Itm) => z.2).length = pre.length + 1 := by simp
      have hp2 : (pre ++ [(at_, t, v, body)]).map (fun (z : Itm) => z.2) = pre.map (fun (z : Itm) => z.2) ++ [(t, v, body)] := by simp
      refine ⟨(HO3.out.trans HO5.out).from _, HS3.out.trans HS5.out, ⟨(hbAll.block _ q5).trans HC.out.most, ⟨some ⟨g1, 0, none⟩, cap1, ?_, ?_⟩, ⟨some ⟨g2, 0, none⟩, cap2, ?_, ?_⟩, HK5.out, HC.out.below.trans (hbAll.mono (by omega))⟩, by simp; omega, by have := hbAll.size; omega⟩
      · rw [hn]; exact HP5.out
      · have h := HR5.out
        rw [← hp, hn] at h
        unfold IOwn
        rw [hn]
        exact h
      · rw [hn2]; exact HV5.out
      · rw [hn2, hp2]
        exact HX5.out
    · have hge : pre.length = M := by omega
      have hle : ((M : Int) ≤ (pre.length : Int)) := by omega
      have HGE := hide hge
      clear h h3 i1 i2 b1 b2 hge
      gi_wp2_with fail
      exact ⟨KeepsFrom.refl _ _, rfl, pre, _, rfl, HGE.out, HC.out, h2⟩
  case done =>
    rintro D xs W hD ⟨e1, e2⟩ ⟨h, h1, h2⟩ hK
    obtain ⟨a1, k1, b1, i1⟩ := h.ints
    obtain ⟨a2, k2, b2, i2⟩ := h.blks
    have c1 := b1.cell
    have c2 := b2.cell
    have HC := hide h
    have HI1 := hide i1
    have HI2 := hide i2
    have HE1 := hide e1
    have HE2 := hide e2
    have HKd := hide hK
    clear h i1 i2 b1 b2 e1 e2 hK
    subst hAc
    gi_wp2_with fail
    gi_region
    all_goals gi_wp2_with fail
    refine ⟨by simp, .inl ⟨_, _, rfl, run_takeDeferred (show W.drew.heap[D]? = some (.deferred (some [])) from HKd.out), ?_⟩⟩
    have hgp : W.grownBy (W.drew.putObj D (.deferred none)) (some D) := by
      have h := grownBy_putObj' W.drew D (.deferred none)
      exact ⟨h.os, h.tape, h.output, h.size, h.block⟩
    have nt := notTy_obj (w := W) (row := some D) (fun r e => by cases e; exact ⟨_, HKd.out, rfl⟩)
    have hfin := coll_kept HC.out hgp nt (fun r e => by cases e; have := HB6.out.size; omega)
    have hx1 := row_mono (row_kept HI1.out hgp (nt 3)) (B' := w.heap.size) (by omega)
    have hx2 := bfam_mono (bfam_kept HI2.out hgp (nt 47) (nt 5)) (B' := w.heap.size) (by omega)
    have n2 : (xs.map fun (z : Itm) => z.2).length = xs.length := by simp
    rw [n2] at hx2
    refine ⟨_, results_tmp2 rfl _ _ _, _, _, xs.map (fun (z : Itm) => z.2), rfl, ?_, ?_, ?_, hfin.below⟩
    · rw [HE1.out, List.take_of_length_le (by simp only [pls, List.length_map]; omega)]
      exact hx1
    · exact hx2
    · rw [HE2.out, List.take_of_length_le (by simp only [bds, List.length_map]; omega)]
      simp [blOf, bds]
  case stop =>
    rintro D c pre W hD ⟨r1, r2, e1, e2⟩ ⟨rfl, p, x, rfl, hpM, h, h2⟩ hK
    obtain ⟨a1, k1, b1, i1⟩ := h.ints
    obtain ⟨a2, k2, b2, i2⟩ := h.blks
    have c1 := b1.cell
    have c2 := b2.cell
    have HC := hide h
    have HI1 := hide i1
    have HI2 := hide i2
    have HE1 := hide e1
    have HE2 := hide e2
    have HKd := hide hK
    have HPM := hide hpM
    clear h i1 i2 b1 b2 e1 e2 hK hpM
    subst hAc
    gi_wp2_with fail
    gi_region
    all_goals gi_wp2_with fail
    refine ⟨by simp, .inl ⟨_, _, rfl, run_takeDeferred (show W.drew.heap[D]? = some (.deferred (some [])) from HKd.out), ?_⟩⟩
    have hgp : W.grownBy (W.drew.putObj D (.deferred none)) (some D) := by
      have h := grownBy_putObj' W.drew D (.deferred none)
      exact ⟨h.os, h.tape, h.output, h.size, h.block⟩
    have nt := notTy_obj (w := W) (row := some D) (fun r e => by cases e; exact ⟨_, HKd.out, rfl⟩)
    have hfin := coll_kept HC.out hgp nt (fun r e => by cases e; have := HB6.out.size; omega)
    have hx1 := row_mono (row_kept HI1.out hgp (nt 3)) (B' := w.heap.size) (by omega)
    have hx2 := bfam_mono (bfam_kept HI2.out hgp (nt 47) (nt 5)) (B' := w.heap.size) (by omega)
    have n2 : (p.map fun (z : Itm) => z.2).length = p.length := by simp
    rw [n2] at hx2
    refine ⟨_, results_tmp2 rfl _ _ _, _, _, p.map (fun (z : Itm) => z.2), rfl, ?_, ?_, ?_, hfin.below⟩
    · rw [HE1.out]
      have e : pls (p ++ [x]) ++ r1 = pls p ++ ([x.1] ++ r1) := by simp [pls]
      rw [e, List.take_left' (by have := HPM.out; simpa [pls] using this)]
      exact hx1
    · exact hx2
    · rw [HE2.out]
      have e : bds (p ++ [x]) ++ r2 = bds p ++ ([(x.2.1, x.2.2.2)] ++ r2) := by simp [bds]
      rw [e, List.take_left' (by have := HPM.out; simpa [bds] using this)]
      simp [blOf, bds]
end Go.Proofs.YtgebekklkodpaaaDoor

/-! Same: sameBlocks of one and the same list -/
namespace Go.Proofs.YtgebekklkodpaaaDoor
open Go.RowKit

theorem blocks_form' {w : World} {v : Value} {bl : List Bl} (h : Blocks w v bl) : ∃ ao cap, v = .slice ao bl.length cap := by
  rcases h with ⟨rfl, rfl⟩ | ⟨ad, cap, rfl, _⟩
  · exact ⟨_, _, rfl⟩
  · exact ⟨_, _, rfl⟩
theorem blocks_get {w : World} {ao : Option Addr} {n cap : Nat} {bl : List Bl} (h : Blocks w (.slice ao n cap) bl) {i : Nat} {x : Bl} (hx : bl[i]? = some x) :
    ∃ ad bv, ao = some ad ∧ w.cell? (ad.add (i * 2)) = some (.int .u8 (x.1 : Int)) ∧ w.cell? ⟨(ad.add (i * 2)).block, (ad.add (i * 2)).off + 1, none⟩ = some bv ∧ Src w bv x.2 := by
  rcases h with ⟨_, rfl⟩ | ⟨ad, c, hv, _, _, hb⟩
  · simp at hx
  · simp only [Value.slice.injEq] at hv
    obtain ⟨_, bv, h1, h2, h3⟩ := hb i x hx
    rw [Nat.mul_comm] at h1 h2
    refine ⟨ad, bv, hv.1, h1, ?_, h3⟩
    exact h2

set_option maxRecDepth 100000 in
set_option maxHeartbeats 4000000 in
theorem same_blocks (w : World) (va vb : Value) (bl : List Bl) (ha : Blocks w va bl) (hb : Blocks w vb bl) (hl : bl.length ≤ 1099511627776) :
    Calls Tryd.prog 44 #[va, vb] w fun e w' => e = .returned (.bool true) ∧ ∃ q, w' = w.drewN q := by
  obtain ⟨aa, ca, rfl⟩ := blocks_form' ha
  obtain ⟨ab, cb, rfl⟩ := blocks_form' hb
  have HA := hide ha
  have HB := hide hb
  clear ha hb
  go_enter Tryd.func44, Tryd.ntmps44
  go_wp2_with fail
  go_loopw [13] (fun c wr => ∃ i : Nat, i ≤ bl.length ∧ c = .int .i64 i ∧ ∃ q, wr = w.drewN q) (fun c _ => bl.length - (intOf c).toNat)
  case atStart => exact ⟨0, by omega, rfl, 0, rfl⟩
  case round =>
    obtain ⟨i, hi, rfl, q, rfl⟩ := hrel
    by_cases hlt : i < bl.length
    · obtain ⟨x, hx⟩ : ∃ x, bl[i]? = some x := ⟨_, List.getElem?_eq_getElem hlt⟩
      obtain ⟨ad, bv, rfl, c0, c1, hs1⟩ := blocks_get HA.out hx
      obtain ⟨ad2, bv2, rfl, d0, d1, hs2⟩ := blocks_get HB.out hx
      have s1 := fun q => src_string (src_drew hs1 q)
      have s2 := fun q => src_string (src_drew hs2 q)
      obtain ⟨a1, k1, rfl⟩ := src_form hs1
      obtain ⟨a2, k2, rfl⟩ := src_form hs2
      generalize x.1 = t at c0 d0
      generalize x.2.length = n at c1 d1 s1 s2
      generalize bstr x.2 = X at s1 s2
      have hi1 : (i : Int) < (bl.length : Int) := by omega
      clear hs1 hs2 hx
      go_wp2_with fail
      go_quiet (fail)
      go_wp2_with fail
      exact ⟨⟨i + 1, by omega, by simp, _, rfl⟩, by simp [intOf]; omega⟩
    · obtain rfl : i = bl.length := by omega
      go_wp2_with fail
      go_ret
      exact ⟨rfl, q, rfl⟩

theorem blks_inl {n : Nat} {r : List Nat} {g : Nat} (h : blks n r = .inl g) : g = 5 ∨ g = 0 ∨ g = 1 ∨ g = 2 ∨ g = 6 := by
  induction n generalizing r with
  | zero =>
    rw [blks] at h
    split at h
    · cases h
    · cases h; exact .inl rfl
  | succ n ih =>
    rw [blks] at h
    split at h
    · rename_i hd
      cases h
      exact .inr (dec_inl hd)
    · split at h
      · rename_i hb
        cases h
        exact ih hb
      · cases h
theorem unp_inl {kind : Nat} {im : List Nat} {g : Nat} (h : unp kind im = .inl g) : g = 5 ∨ g = 0 ∨ g = 1 ∨ g = 2 ∨ g = 6 := by
  rw [unp] at h
  split at h
  · cases h; exact .inr (.inr (.inl rfl))
  · split at h
    · cases h; exact .inr (.inr (.inr (.inr rfl)))
    · split at h
      · cases h; exact .inr (.inl rfl)
      · split at h
        · rename_i hn
          rcases Nm.num_err (f := 10) (i := 0) ((im.take (im.length - 4)).drop 5) with h0 | h0 | h0
          · exact absurd h0 hn
          · rw [h0] at h; cases h; exact .inr (.inr (.inl rfl))
          · rw [h0] at h; cases h; exact .inr (.inr (.inr (.inl rfl)))
        · exact blks_inl h
theorem num_unp (w : World) (E : Nat → Addr) (h : Errs w E allErrs) {kind : Nat} {im : List Nat} {g : Nat} (hd : unp kind im = .inl g) :
    Calls Tryd.prog 26 #[.iface 124 (.pointer (some (E g)))] w fun e w' => e = .returned (.int .i64 (errNum g : Nat)) ∧ w = w' := by
  rcases unp_inl hd with rfl | rfl | rfl | rfl | rfl
  · exact num_5 w E h
  · exact num_0 w E h
  · exact num_1 w E h
  · exact num_2 w E h
  · exact num_6 w E h
theorem dec_size {r : List Nat} {i j : Nat} (h : dec r = .inr (i, j)) : j + 4 ≤ r.length := by
  cases r with
  | nil => simp [dec] at h
  | cons t r =>
    rw [dec] at h
    split at h
    · simp at h
    · split at h
      · simp at h
      · split at h
        · simp at h
        · split at h
          · simp at h
          · simp only [Sum.inr.injEq, Prod.mk.injEq] at h
            simp only [List.length_cons] at *
            omega
theorem blks_len {n : Nat} {r : List Nat} {bl : List Bl} (h : blks n r = .inr bl) : bl.length ≤ r.length := by
  induction n generalizing r bl with
  | zero =>
    rw [blks] at h
    split at h
    · cases h; simp
    · cases h
  | succ n ih =>
    rw [blks] at h
    split at h
    · cases h
    · rename_i i j hd
      split at h
      · cases h
      · rename_i hb
        cases h
        have := ih hb
        have hs := dec_size hd
        rw [List.length_drop] at this
        simp only [List.length_cons]
        omega
theorem unp_len {kind : Nat} {im : List Nat} {bl : List Bl} (h : unp kind im = .inr bl) (hl : im.length ≤ 100000000) : bl.length ≤ 100000000 := by
  rw [unp] at h
  split at h
  · cases h
  · split at h
    · cases h
    · split at h
      · cases h
      · split at h
        · cases h
        · have := blks_len h
          rw [List.length_drop, List.length_drop, List.length_take] at this
          omega
end Go.Proofs.YtgebekklkodpaaaDoor

/-! Ak: appends that tell what stays, by the types of the blocks; places of blocks one behind the other -/
namespace Go.Proofs.YtgebekklkodpaaaDoor
open Go.RowKit

set_option maxRecDepth 100000 in
theorem append_srcK {ops : Array Oper} {rest : List Oper} {o : Oper} {a : Act} {Q : Exit → Act → World → Prop} (w0 w : World) (B : Nat) (v xv : Value) (cur bs : List Nat) (hgd : o.guard = none) (s x : Operand)
    (ho : o.op = .call { callee := .builtin .append, args := #[s, x], argTypes := #[25, 25] }) (hs : a.eval s = v) (hx : a.eval x = xv)
    (hown : Own w B v cur) (hsrc : Src w xv bs) (hl : cur.length + bs.length ≤ 140737488355328) (hB : B ≤ w.heap.size) (hb : Below B w0 w)
    (h : ∀ v' w', Own w' B v' (cur ++ bs) → Below B w0 w' → (∀ t, 5 ≠ t → KeepTy w w' t) → wpList Tryd.prog ops Q rest (a.put o.dst v') w') : wpList Tryd.prog ops Q (o :: rest) a w := by
  obtain ⟨i0, hi, hz0, hz1, hz2⟩ := info_parts info5
  rcases hsrc with ⟨_, ⟨rfl, rfl⟩ | ⟨ad, cap, rfl, _, _, hc⟩⟩
  · refine wpList_append_own_none hgd s x 25 ho B 5 i0 1 Tryd.underlying25 hi v cur.length (u8s cur) hs hown hx (h v w ?_ hb (fun t _ k cs fr hk => hk))
    rw [List.append_nil]
    exact hown
  · refine wpList_append_own w hgd s x 25 ho B 5 i0 (.int .u8 0) 1 1 Tryd.underlying25 hi hz0 hz1 hz2 rfl (by decide) v cur.length (u8s cur) hs hown ad bs.length cap (u8s bs) hx (by simp [u8s_len]) (src_news hc) (u8s_one _) (by simp only [maxLen]; omega) (by omega) hB ?_
    intro v' w' hown' hg _
    refine h v' w' ?_ (hb.grown hg hB (fun k hk => (World.ownsRow.lt hown k hk).1)) (fun t ht => keepTy_grown hg (notTy_row hown ht))
    unfold Own
    rw [u8s_app, List.length_append]
    exact hown'
set_option maxRecDepth 100000 in
theorem append_intK {ops : Array Oper} {rest : List Oper} {o : Oper} {a : Act} {Q : Exit → Act → World → Prop} (w0 w : World) (B g n : Nat) (v : Value) (ns : List Nat) (hgd : o.guard = none) (s y : Operand)
    (ho : o.op = .call { callee := .builtin .append, args := #[s, y], argTypes := #[63, 63] }) (hs : a.eval s = v) (hy : a.eval y = .slice (some ⟨g, 0, none⟩) 1 1)
    (hown : IOwn w B v ns) (hh : w.heap[g]? = some (.cells #[.int .i64 (n : Nat)] 3 (0, 0))) (hl : ns.length ≤ 1099511627776) (hB : B ≤ w.heap.size) (hb : Below B w0 w)
    (h : ∀ v' w', IOwn w' B v' (ns ++ [n]) → Below B w0 w' → (∀ t, 3 ≠ t → KeepTy w w' t) → wpList Tryd.prog ops Q rest (a.put o.dst v') w') :
    wpList Tryd.prog ops Q (o :: rest) a w := by
  obtain ⟨i0, hi, hz0, hz1, hz2⟩ := info_parts info3
  refine wpList_append_own w hgd s y 63 ho B 3 i0 (.int .i64 0) 1 8 Tryd.underlying63 hi hz0 hz1 hz2 rfl (by decide) v ns.length (i64s ns) hs hown ⟨g, 0, none⟩ 1 1 (i64s [n]) hy rfl ?_ ?_ (by simp only [maxLen]; omega) (by omega) hB ?_
  · intro j x hx
    have e : w.cell? ((⟨g, 0, none⟩ : Addr).add j) = w.cell? ⟨g, j, none⟩ := by rw [Addr.add_lit, Nat.zero_add]
    rw [e, cell_at hh]
    simpa [i64s] using hx
  · intro x hx
    simp only [i64s, List.map_cons, List.map_nil, List.mem_cons, List.not_mem_nil, or_false] at hx
    subst hx
    rfl
  · intro v' w' hown' hg _
    refine h v' w' ?_ (hb.grown hg hB (fun k hk => (World.ownsRow.lt hown k hk).1)) (fun t ht => keepTy_grown hg (notTy_row hown ht))
    unfold IOwn
    rw [i64s_app, List.length_append]
    exact hown'

/-- a row of numbers, or its beginning, reads as a list -/
theorem iown_ints {w : World} {B : Nat} {v : Value} {ns : List Nat} (h : IOwn w B v ns) : Ints w v ns := by
  rcases h.2 with ⟨rfl, h0⟩ | ⟨g, cap, cur, rfl, _, hh, hn, hm, hs, ht⟩
  · rw [List.eq_nil_of_length_eq_zero h0]
    exact ⟨none, 0, rfl, by simp⟩
  · refine ⟨some ⟨g, 0, none⟩, cap, rfl, fun k n hk => ⟨_, rfl, ?_⟩⟩
    have hkl := (List.getElem?_eq_some_iff.1 hk).1
    have hu : (i64s ns)[k]? = some (.int .i64 (n : Nat)) := by simp [i64s, hk]
    rw [← ht, List.getElem?_take, if_pos (by omega), Array.getElem?_toList] at hu
    rw [Addr.add_lit, Nat.zero_add, cell_at hh]
    exact hu
theorem ints_take {w : World} {ao : Option Addr} {n cap : Nat} {ns : List Nat} (h : Ints w (.slice ao n cap) ns) (k : Nat) (hk : k ≤ ns.length) (c : Nat) : Ints w (.slice ao k c) (ns.take k) := by
  obtain ⟨ao', cap', e, hc⟩ := h
  simp only [Value.slice.injEq] at e
  obtain ⟨rfl, _, _⟩ := e
  refine ⟨ao, c, by rw [List.length_take, Nat.min_eq_left hk], fun j m hj => ?_⟩
  rw [List.getElem?_take] at hj
  split at hj
  · exact hc j m hj
  · cases hj
theorem iown_shape {w : World} {B : Nat} {v : Value} {ns : List Nat} (h : IOwn w B v ns) : ∃ ao cap, v = .slice ao ns.length cap ∧ ns.length ≤ cap ∧ cap ≤ 9223372036854775807 := by
  rcases h.2 with ⟨rfl, h0⟩ | ⟨g, cap, cur, rfl, _, hh, hn, hm, hs, ht⟩
  · exact ⟨none, 0, by rw [h0], by omega, by omega⟩
  · exact ⟨_, cap, rfl, hn, hm⟩
theorem iown_below {w w' : World} {B : Nat} {v : Value} {ns : List Nat} (h : IOwn w B v ns) (hb : Below w.heap.size w w') : IOwn w' B v ns := row_keepTy h (keepTy_below hb 3)

/-- where blocks one behind the other begin -/
def plcs : Nat → List Bl → List Nat
  | _, [] => []
  | a, x :: r => a :: plcs (a + (enc x.1 x.2).length) r
theorem plcs_len : ∀ (a : Nat) (bl : List Bl), (plcs a bl).length = bl.length
  | _, [] => rfl
  | a, x :: r => by rw [plcs, List.length_cons, List.length_cons, plcs_len]
theorem plcs_snoc : ∀ (a : Nat) (bl : List Bl) (x : Bl), plcs a (bl ++ [x]) = plcs a bl ++ [a + (encs bl).length]
  | a, [], x => by simp [plcs, encs]
  | a, y :: r, x => by
    rw [List.cons_append, plcs, plcs, plcs_snoc _ r x, List.cons_append]
    congr 3
    simp [encs]
    omega
theorem scan_encs : ∀ (bl : List Bl) (f a : Nat) (rest : List Nat), bl.length < f → (∀ x ∈ bl, x.1 ≠ 0 ∧ x.1 < 256 ∧ (∀ y ∈ x.2, y < 256) ∧ x.2.length < 18446744073709551616) → scan f a (encs bl ++ 0 :: rest) = (plcs a bl, bl)
  | [], f, a, rest, hf, _ => by
    rw [scan_err f a _ 0 (by simp [encs, dec])]
    rfl
  | x :: r, f, a, rest, hf, h => by
    obtain ⟨h0, h1, h2, h3⟩ := h x (by simp)
    obtain ⟨f', rfl⟩ : ∃ f', f = f' + 1 := ⟨f - 1, by simp at hf; omega⟩
    have he : encs (x :: r) ++ 0 :: rest = enc x.1 x.2 ++ (encs r ++ 0 :: rest) := by simp [encs]
    have hd := dec_enc x.1 x.2 (encs r ++ 0 :: rest) h0 h1 h2 h3
    have hlen := enc_length x.1 x.2
    rw [he, scan_ok f' a _ _ _ hd]
    have hj : 1 + (Uv.uv x.2.length).length + x.2.length + 4 = (enc x.1 x.2).length := hlen.symm
    rw [hj, List.drop_left, scan_encs r f' _ rest (by simp at hf; omega) (fun y hy => h y (by simp [hy]))]
    have e1 : (enc x.1 x.2 ++ (encs r ++ 0 :: rest)).getD 0 0 = x.1 := by simp [enc, encHead]
    have e2 : ((enc x.1 x.2 ++ (encs r ++ 0 :: rest)).take (1 + (Uv.uv x.2.length).length + x.2.length)).drop (1 + (Uv.uv x.2.length).length) = x.2 := by
      have e : enc x.1 x.2 ++ (encs r ++ 0 :: rest) = (([x.1] ++ Uv.uv x.2.length) ++ x.2) ++ (Uv.word (sum (encHead x.1 x.2)) ++ (encs r ++ 0 :: rest)) := by simp [enc, encHead]
      have hA : ([x.1] ++ Uv.uv x.2.length).length = 1 + (Uv.uv x.2.length).length := by simp; omega
      rw [e, List.take_left' (by simp; omega), List.drop_left' hA]
    rw [e1, e2]
    rfl
variable {F : Fence} {n : Nat} {P : Program}

def mk_ (D : Nat) : Deferred := { target := .collected D, args := #[] }
/-- the blocks of the marks: apart, new, no call in them -/
def Marks (W : World) (B : Nat) (Ds : List Nat) : Prop := Ds.Nodup ∧ ∀ D ∈ Ds, B ≤ D ∧ W.heap[D]? = some (.deferred (some []))
theorem marks_nil (W : World) (B : Nat) : Marks W B [] := ⟨List.nodup_nil, by simp⟩
/-- all blocks but those of the marks lie as they lay -/
def Past (W W' : World) (B : Nat) : Prop := Below B W W' ∧ ∀ (k : Nat) (cs : Array Value) (t : TypeId) (fr : Nat × Nat), W.heap[k]? = some (.cells cs t fr) → W'.heap[k]? = some (.cells cs t fr)
theorem leaves_marks {fn : Func} {tmps : Array Value} {R : Ending → World → Prop} {B : Nat} : ∀ (Ds : List Nat) (W : World), Marks W B Ds → B ≤ W.heap.size → (∀ W', Past W W' B → LeavesInM F n P fn tmps R [] .returning W') → LeavesInM F n P fn tmps R (Ds.map mk_) .returning W
  | [], W, _, _, h => h W ⟨Below.refl _ _, fun _ _ _ _ hk => hk⟩
  | D :: Ds, W, hM, hB, h => by
    obtain ⟨hnd, hall⟩ := hM
    obtain ⟨hBD, hD⟩ := hall D (by simp)
    have hg := grownBy_putObj' W D (.deferred none)
    refine ⟨by simp, .inl ⟨D, _, rfl, run_takeDeferred hD, ?_⟩⟩
    refine leaves_marks Ds _ ⟨(List.nodup_cons.1 hnd).2, fun D' hD' => ⟨(hall D' (by simp [hD'])).1, ?_⟩⟩ (Nat.le_trans hB hg.size) fun W' hp => h W' ⟨?_, fun k cs t fr hk => hp.2 k cs t fr ?_⟩
    · have hne : D' ≠ D := fun e => (List.nodup_cons.1 hnd).1 (e ▸ hD')
      exact (World.putObj_heap_other hne).trans (hall D' (by simp [hD'])).2
    · exact ((Below.refl B W).grown hg hB (fun k e => by cases e; exact hBD)).trans hp.1
    · refine (World.putObj_heap_other (fun e => ?_)).trans hk
      subst e
      rw [hk] at hD
      cases hD
theorem marks_keep {W W' : World} {B : Nat} {Ds : List Nat} (h : Marks W B Ds) (hk : ∀ D ∈ Ds, ∀ o, W.heap[D]? = some o → o.isCells = false → W'.heap[D]? = some o) : Marks W' B Ds :=
  ⟨h.1, fun D hD => ⟨(h.2 D hD).1, hk D hD _ (h.2 D hD).2 rfl⟩⟩
theorem marks_others {W W' : World} {B : Nat} {Ds : List Nat} (h : Marks W B Ds) (hk : KeepsOthers W W') : Marks W' B Ds := marks_keep h (fun D _ o ho hc => hk.same D o ho hc)
theorem marks_lt {W : World} {B : Nat} {Ds : List Nat} (h : Marks W B Ds) {D : Nat} (hD : D ∈ Ds) : D < W.heap.size := heap_lt (h.2 D hD).2
theorem marks_grown {W W' : World} {B : Nat} {Ds : List Nat} {row : Option Nat} (h : Marks W B Ds) (hg : W.grownBy W' row) (hr : ∀ r, row = some r → r ∉ Ds) : Marks W' B Ds :=
  marks_keep h (fun D hD o ho _ => (hg.block D (heap_lt ho) (fun e => hr D e.symm hD)).trans ho)
theorem marks_below {W W' : World} {B : Nat} {Ds : List Nat} (h : Marks W B Ds) (hb : Below W.heap.size W W') : Marks W' B Ds := marks_grown h (grown_of_below hb) (fun _ e => by cases e)
theorem marks_cons {W : World} {B D : Nat} {Ds : List Nat} (h : Marks W B Ds) (hD : W.heap[D]? = some (.deferred (some []))) (hn : D ∉ Ds) (hB : B ≤ D) : Marks W B (D :: Ds) :=
  ⟨List.nodup_cons.2 ⟨hn, h.1⟩, fun D' hD' => by
    rcases List.mem_cons.1 hD' with rfl | hD'
    · exact ⟨hB, hD⟩
    · exact h.2 D' hD'⟩

theorem bod_at {w w' : World} {v : Value} {bs : List Nat} (h : Bod w v bs) (hk : ∀ (k : Nat) (cs : Array Value) (fr : Nat × Nat), v.ownBlock = some k → w.heap[k]? = some (.cells cs 5 fr) → w'.heap[k]? = some (.cells cs 5 fr)) : Bod w' v bs := by
  refine ⟨?_, fun g hg => ?_⟩
  · rcases h.1 with ⟨h1, h2 | ⟨ad, cap, rfl, h3, h4, hc⟩⟩
    · exact ⟨h1, .inl h2⟩
    · obtain ⟨cs, fr, hh⟩ := h.2 _ rfl
      refine ⟨h1, .inr ⟨ad, cap, rfl, h3, h4, fun k y hky => ?_⟩⟩
      rw [← hc k y hky]
      exact World.cell?_of_block (by rw [add_blk, hh]; exact hk _ _ _ rfl hh)
  · obtain ⟨cs, fr, hh⟩ := h.2 g hg
    exact ⟨cs, fr, hk _ _ _ hg hh⟩
end Go.Proofs.YtgebekklkodpaaaDoor

/-! Bs: the law's 'bodies': the bodies of blocks, as a list of its own -/
namespace Go.Proofs.YtgebekklkodpaaaDoor
open Go.RowKit

/-- a row of lists' headers -/
def HOwn (w : World) (B : Nat) (v : Value) (vs : List Value) : Prop := w.ownsRow B 25 1 v vs.length vs
set_option maxRecDepth 100000 in
/-- headers are appended -/
theorem append_heads {ops : Array Oper} {rest : List Oper} {o : Oper} {a : Act} {Q : Exit → Act → World → Prop} (w0 w : World) (B : Nat) (v : Value) (vs us : List Value) (hgd : o.guard = none) (s y : Operand)
    (ho : o.op = .call { callee := .builtin .append, args := #[s, y], argTypes := #[62, 62] }) (hs : a.eval s = v) (ad : Addr) (m c : Nat) (hy : a.eval y = .slice (some ad) m c) (hm : us.length = m)
    (hown : HOwn w B v vs) (hnew : ∀ (j : Nat) (u : Value), us[j]? = some u → w.cell? (ad.add j) = some u) (hone : ∀ u ∈ us, u.oneCell' = true) (hl : vs.length + m ≤ 2199023255552) (hB : B ≤ w.heap.size) (hb : Below B w0 w)
    (h : ∀ v' w', HOwn w' B v' (vs ++ us) → Below B w0 w' → (∀ t, 25 ≠ t → KeepTy w w' t) → wpList Tryd.prog ops Q rest (a.put o.dst v') w') :
    wpList Tryd.prog ops Q (o :: rest) a w := by
  obtain ⟨i0, hi, hz0, hz1, hz2⟩ := info_parts info25
  refine wpList_append_own w hgd s y 62 ho B 25 i0 (.slice none 0 0) 1 24 Tryd.underlying62 hi hz0 hz1 hz2 rfl (by decide) v vs.length vs hs hown ad m c us hy (by omega) hnew hone (by simp only [maxLen]; omega) (by omega) hB ?_
  intro v' w' hown' hg _
  refine h v' w' ?_ (hb.grown hg hB (fun k hk => (World.ownsRow.lt hown k hk).1)) (fun t ht => keepTy_grown hg (notTy_row hown ht))
  unfold HOwn
  rw [List.length_append, hm]
  exact hown'
theorem hown_heads {w : World} {B : Nat} {v : Value} {vs : List Value} (h : HOwn w B v vs) (hn : 0 < vs.length) : ∃ L cap, v = .slice (some ⟨L, 0, none⟩) vs.length cap ∧ Heads w L vs ∧ vs.length ≤ cap ∧ cap ≤ 9223372036854775807 ∧ B ≤ L := by
  rcases h.2 with ⟨_, h0⟩ | ⟨L, cap, cur, rfl, hb, hh, hc, hm, hs, ht⟩
  · omega
  · obtain ⟨h1, h2, h3, h4⟩ := heads_own h
    exact ⟨L, cap, rfl, h1, h2, h3, h4⟩
set_option maxRecDepth 100000 in
set_option maxHeartbeats 1000000 in
theorem bodies_any (w : World) (B : Nat) (v : Value) (its : List It) (hrow : w.ownsRow B 47 2 v its.length (cellsOf its)) (hsl : ∀ x ∈ its, ∃ a n c, x.2.1 = .slice a n c) (hl : its.length ≤ 1099511627776) :
    Calls Tryd.prog 46 #[v] w fun e w' => ∃ v', e = .returned v' ∧ HOwn w' w.heap.size v' (its.map (·.2.1)) ∧ Below w.heap.size w w' := by
  obtain ⟨ao, cap, rfl⟩ := row_shape hrow
  have HR := hide hrow
  have HSL := hide hsl
  clear hrow hsl
  have c0 : HOwn (w.alloc (.cells #[] 25)) w.heap.size (.slice (some ⟨w.heap.size, 0, none⟩) 0 0) [] := by
    have h := World.ownsRow_lit (base := w.heap.size) (e := 25) (size := 1) w #[] 0 (Nat.le_refl _) (by simp [maxLen]) (by simp)
    simpa [HOwn] using h
  have C0 := hide c0
  have HB0 := hide ((Below.refl w.heap.size w).alloc (Nat.le_refl _) (.cells #[] 25))
  clear c0
  go_enter Tryd.func46, Tryd.ntmps46
  go_wp2_with fail
  go_loopw [3, 9] (fun s3 c wr => ∃ i : Nat, i ≤ its.length ∧ c = .int .i64 i ∧ HOwn wr w.heap.size s3 ((its.take i).map (·.2.1)) ∧ Below w.heap.size w wr) (fun _ c _ => its.length - (intOf c).toNat)
  case atStart => exact ⟨0, by omega, rfl, by simpa using C0.out, HB0.out⟩
  case round =>
    obtain ⟨i, hi, rfl, ho, hb⟩ := hrel
    have hn : ((its.take i).map fun (z : It) => z.2.1).length = i := by simp; omega
    obtain ⟨a3, k3, rfl⟩ := row_shape ho
    rw [hn] at ho ⊢
    have HO := hide ho
    have HB := hide hb
    have HNI := hide hn
    clear hn
    have hsr := hb.size
    clear ho hb
    by_cases hlt : i < its.length
    · obtain ⟨x, hx⟩ : ∃ x, its[i]? = some x := ⟨_, List.getElem?_eq_getElem hlt⟩
      obtain ⟨t, u, body⟩ := x
      obtain ⟨au, nu, cu, hu⟩ := HSL.out _ (List.mem_of_getElem? hx)
      simp only at hu
      subst hu
      obtain ⟨g, c', hform⟩ : ∃ g c, Value.slice ao its.length cap = .slice (some ⟨g, 0, none⟩) its.length c := by
        rcases HR.out.2 with ⟨h, h0⟩ | ⟨g, c, cur, h, _⟩
        · omega
        · exact ⟨g, c, h⟩
      simp only [Value.slice.injEq, true_and] at hform
      obtain ⟨rfl, rfl⟩ := hform
      have hc := World.ownsRow.cells HR.out (g := g) rfl
      obtain ⟨e0, e1⟩ := cellsOf_get its i _ hx
      have c0 := (HB.out.cell (p := (⟨g, 0, none⟩ : Addr).add (2 * i)) (World.block_lt_of_cell? w _ (hc _ _ e0))).trans (hc _ _ e0)
      have c1 := (HB.out.cell (p := (⟨g, 0, none⟩ : Addr).add (2 * i + 1)) (World.block_lt_of_cell? w _ (hc _ _ e1))).trans (hc _ _ e1)
      rw [Addr.add_lit, Nat.zero_add] at c0 c1
      have hi1 : (i : Int) < (its.length : Int) := by omega
      have HX := hide hx
      clear hx hc e0 e1
      rw [Nat.mul_comm] at c0 c1
      have hq1 : Below wr.heap.size wr ((wr.alloc (.cells #[.int .u8 (t : Nat), .slice au nu cu] 47)).alloc (.cells #[.slice au nu cu] 25)) := ((Below.refl wr.heap.size wr).alloc (Nat.le_refl _) _).alloc (by simp) _
      have HQ := hide (show HOwn _ w.heap.size _ _ from row_keepTy HO.out (keepTy_below hq1 25))
      have HB2 := hide (HB.out.trans (hq1.mono hsr))
      have z2 := HB2.out.size
      have hx2 := heap_new (w := wr.alloc (.cells #[.int .u8 (t : Nat), .slice au nu cu] 47)) rfl (.cells #[.slice au nu cu] 25)
      rw [World.size_alloc] at hx2
      have HNW := hide (fun (j : Nat) (u : Value) (hu : ([Value.slice au nu cu] : List Value)[j]? = some u) => (by
        have e : ((⟨wr.heap.size + 1, 0, none⟩ : Addr).add j) = ⟨wr.heap.size + 1, j, none⟩ := by rw [Addr.add_lit, Nat.zero_add]
        rw [e, cell_at hx2]
        simpa using hu : ((wr.alloc (.cells #[.int .u8 (t : Nat), .slice au nu cu] 47)).alloc (.cells #[.slice au nu cu] 25)).cell? ((⟨wr.heap.size + 1, 0, none⟩ : Addr).add j) = some u))
      clear hq1 hx2
      go_wp2_with (refine append_heads w _ w.heap.size _ ((its.take i).map fun (z : It) => z.2.1) [.slice au nu cu] rfl (.tmp 13) (.tmp 16) rfl rfl ⟨wr.heap.size + 1, 0, none⟩ 1 1 rfl rfl HQ.out HNW.out (by simp [Value.oneCell']) (by have := HNI.out; omega) z2 HB2.out ?_)
      intro v5 w5 ho5 hb5 _
      have HO5 := hide ho5
      have HB5 := hide hb5
      clear ho5 hb5
      go_wp2_with fail
      refine ⟨⟨i + 1, by omega, by simp, ?_, HB5.out⟩, by simp [intOf]; omega⟩
      have h := HO5.out
      have e : (its.take (i + 1)).map (fun (z : It) => z.2.1) = (its.take i).map (fun (z : It) => z.2.1) ++ [.slice au nu cu] := by rw [List.take_add_one, HX.out]; simp
      rw [e]
      first | exact h | (rw [List.map_take]; exact h)
    · obtain rfl : i = its.length := by omega
      rw [List.take_length] at HO
      go_wp2_with fail
      go_ret
      exact ⟨.slice a3 its.length k3, rfl, HO.out, HB.out⟩
end Go.Proofs.YtgebekklkodpaaaDoor
/-! rows of lists' headers: one behind the other, in a region that draws its order; families one behind the other -/
namespace Go.Proofs.YtgebekklkodpaaaDoor
open Go.RowKit

set_option maxRecDepth 100000 in
theorem run_heads (w : World) (B B2 : Nat) (v u : Value) (vs us : List Value) (ty : TypeId) (hown : HOwn w B v vs) (hu : HOwn w B2 u us) (hone : ∀ x ∈ us, x.oneCell' = true) (hl : vs.length + us.length ≤ 2199023255552) (hB : B ≤ w.heap.size) :
    ∃ v' w', (Builtin.append_ #[62, 62] ty #[v, u]).run Tryd.prog w = .ok v' w' ∧ HOwn w' B v' (vs ++ us) ∧ w.grownBy w' v.ownBlock := by
  obtain ⟨i0, hi, hz0, hz1, hz2⟩ := info_parts info25
  rcases hu.2 with ⟨rfl, h0⟩ | ⟨g, cap, cur, rfl, hb, hh, hc, hm, hs, ht⟩
  · have hn := List.eq_nil_of_length_eq_zero h0
    subst hn
    refine ⟨v, w, run_append_owned_none (P := Tryd.prog) (w := w) B 62 ty 25 i0 1 Tryd.underlying62 hi v vs.length vs hown, ?_, ⟨rfl, rfl, rfl, Nat.le_refl _, fun _ _ _ => rfl⟩⟩
    rw [List.append_nil]
    exact hown
  · obtain ⟨v', w', h1, h2, h3, _⟩ := run_append_own (P := Tryd.prog) w B 62 ty 25 i0 (.slice none 0 0) 1 24 Tryd.underlying62 hi hz0 hz1 hz2 rfl (by decide) v vs.length vs hown ⟨g, 0, none⟩ us.length cap us (by simp)
      (fun j x hx => World.ownsRow.cells hu rfl j x hx) hone (by simp only [maxLen]; omega) (by omega) hB
    refine ⟨v', w', h1, ?_, h3⟩
    unfold HOwn
    rw [List.length_append]
    exact h2
theorem step_heads {ops : Array Oper} {o : Oper} {a : Act} {K : Act → World → Prop} {Q : Exit → Act → World → Prop} {E : Prop} (w : World) (B B2 : Nat) (v u : Value) (vs us : List Value) (hgd : o.guard = none) (s y : Operand)
    (ho : o.op = .call { callee := .builtin .append, args := #[s, y], argTypes := #[62, 62] }) (hs : a.eval s = v) (hy : a.eval y = u)
    (hown : HOwn w B v vs) (hu : HOwn w B2 u us) (hone : ∀ x ∈ us, x.oneCell' = true) (hl : vs.length + us.length ≤ 2199023255552) (hB : B ≤ w.heap.size)
    (h : ∀ v' w', HOwn w' B v' (vs ++ us) → w.grownBy w' v.ownBlock → K (a.put o.dst v') w') :
    if Region.wanted o (yielded ops a.tmps) = true then Oper.wp Tryd.prog o a w K Q else E := by
  have hw : Region.wanted o (yielded ops a.tmps) = true := by simp [Region.wanted, hgd]
  rw [if_pos hw]
  obtain ⟨v', w', hr, h1, h2⟩ := run_heads w B B2 v u vs us o.type hown hu hone hl hB
  unfold Oper.wp execOp
  simp only [ho, resolve, invoke, builtin, Sem.run_bind, Sem.run_pure, Result.andThen_ok, List.map_toArray, List.map_cons, List.map_nil, hs, hy, hr]
  exact h v' w' h1 h2
theorem bfam_slices {w : World} {B : Nat} {v : Value} {its : List It} (h : BFam w B v its) : ∀ x ∈ its, ∃ a n c, x.2.1 = .slice a n c := by
  intro x hx
  obtain ⟨a, c, e⟩ := row_shape (bfam_mem h hx).1
  exact ⟨a, _, c, e⟩
theorem bfam_one {w : World} {B : Nat} {v : Value} {its : List It} (h : BFam w B v its) : ∀ u ∈ its.map (fun (z : It) => z.2.1), u.oneCell' = true := by
  intro u hu
  obtain ⟨x, hx, rfl⟩ := List.mem_map.1 hu
  obtain ⟨a, n, c, e⟩ := bfam_slices h x hx
  rw [e]
  rfl
/-- the rows of blocks' bodies -/
def rwOf (its : List It) : List Rw := its.map fun x => (x.2.1, x.2.2)
theorem rwOf_fst (its : List It) : (rwOf its).map (·.1) = its.map (fun (z : It) => z.2.1) := by simp [rwOf]
/-- two families that lie apart -/
theorem fam_app {w : World} {B : Nat} {xs ys : List Rw} (h : Fam w B xs) (k : Fam w B ys) (hx : ∀ r ∈ xs, ∀ s ∈ ys, ∀ g, r.1.ownBlock = some g → s.1.ownBlock ≠ some g) : Fam w B (xs ++ ys) := by
  have get : ∀ (i : Nat) (r : Rw), (xs ++ ys)[i]? = some r → (xs[i]? = some r ∧ i < xs.length) ∨ (ys[i - xs.length]? = some r ∧ xs.length ≤ i) := by
    intro i r hi
    by_cases hl : i < xs.length
    · rw [List.getElem?_append_left hl] at hi
      exact .inl ⟨hi, hl⟩
    · rw [List.getElem?_append_right (by omega)] at hi
      exact .inr ⟨hi, by omega⟩
  refine ⟨fun i r hr => ?_, fun i j r s hij hr hs g hg => ?_⟩
  · rcases get i r hr with ⟨h1, _⟩ | ⟨h1, _⟩
    · exact h.1 i r h1
    · exact k.1 _ r h1
  · rcases get i r hr with ⟨h1, l1⟩ | ⟨h1, l1⟩
    · rcases get j s hs with ⟨h2, l2⟩ | ⟨h2, l2⟩
      · exact h.2 i j r s hij h1 h2 g hg
      · exact hx r (List.mem_of_getElem? h1) s (List.mem_of_getElem? h2) g hg
    · rcases get j s hs with ⟨h2, l2⟩ | ⟨h2, l2⟩
      · intro e
        exact hx s (List.mem_of_getElem? h2) r (List.mem_of_getElem? h1) g e hg
      · exact k.2 _ _ r s (by omega) h1 h2 g hg
/-- where the blocks of a family lie -/
theorem fam_at {w : World} {B : Nat} {rows : List Rw} (h : Fam w B rows) {r : Rw} (hr : r ∈ rows) {g : Nat} (hg : r.1.ownBlock = some g) : B ≤ g ∧ g < w.heap.size := by
  obtain ⟨k, hk⟩ := List.mem_iff_getElem?.1 hr
  exact World.ownsRow.lt (h.1 k r hk).1 g hg
theorem fam_both {w : World} {B M : Nat} {xs ys : List Rw} (h : Fam w B xs) (k : Fam w M ys) (hB : B ≤ M) (hx : ∀ r ∈ xs, ∀ g, r.1.ownBlock = some g → g < M) : Fam w B (xs ++ ys) :=
  fam_app h (fam_mono k hB) fun r hr s hs g hg e => by
    have := hx r hr g hg
    have := (fam_at k hs e).1
    omega
theorem inrows_mem {rows : List Rw} {g : Nat} (h : InRows rows g) : ∃ r ∈ rows, r.1.ownBlock = some g := by
  obtain ⟨k, r, hr, hg⟩ := h
  exact ⟨r, List.mem_of_getElem? hr, hg⟩
theorem inrows_cells {w : World} {B : Nat} {rows : List Rw} (h : Fam w B rows) {g : Nat} (hg : InRows rows g) : ∃ cs, w.heap[g]? = some (.cells cs 5 (0, 0)) := by
  obtain ⟨k, r, hr, hg⟩ := hg
  rcases (h.1 k r hr).1.2 with ⟨h1, _⟩ | ⟨g', cap, cur, h1, _, hh, _⟩
  · rw [h1] at hg; cases hg
  · rw [h1] at hg
    simp only [Value.ownBlock, Option.some.injEq] at hg
    subst hg
    exact ⟨cur, hh⟩
theorem kept_under {W W' : World} {B Bx g : Nat} {bs : List Nat} (h : Kept W Bx g bs) (hb : Below B W W') (h1 : Bx < B) (h2 : g < B) : Kept W' Bx g bs :=
  ⟨(hb.block _ h1).trans h.1, (hb.block _ h2).trans h.2⟩
theorem fam_one {w : World} {B : Nat} {v : Value} {bs : List Nat} (h : Own w B v bs) (hx : ∀ x ∈ bs, x < 256) : Fam w B [(v, bs)] := by
  refine ⟨fun i r hr => ?_, fun i j r s hij hr hs => ?_⟩
  · match i, hr with
    | 0, hr => simp at hr; subst hr; exact ⟨h, hx⟩
  · match i, j, hr, hs with
    | 0, 0, _, _ => exact absurd rfl hij
theorem rw_body {its : List It} {bl : List Bl} (h : blOf its = bl) {r : Rw} (hr : r ∈ rwOf its) : ∃ t, (t, r.2) ∈ bl := by
  obtain ⟨x, hx, rfl⟩ := List.mem_map.1 hr
  refine ⟨x.1, ?_⟩
  rw [← h]
  exact List.mem_map.2 ⟨x, hx, rfl⟩
end Go.Proofs.YtgebekklkodpaaaDoor

/-! Bf: rows of blocks whose bodies are lists of their own: appended to, grown beside what stays -/
namespace Go.Proofs.YtgebekklkodpaaaDoor
open Go.RowKit

theorem bfam_none (w : World) (B : Nat) : BFam w B (.slice none 0 0) [] := ⟨(World.ownsRow_nil _ _ _ _ : World.ownsRow _ _ _ _ _ 0 []), by simp, by simp [Fam]⟩
theorem cells_one (x : It) (hs : ∃ a n c, x.2.1 = .slice a n c) : ∀ u ∈ cellsOf [x], u.oneCell' = true := by
  obtain ⟨a, n, c, e⟩ := hs
  intro u hu
  simp only [cellsOf, List.flatMap_cons, List.flatMap_nil, List.append_nil, List.mem_cons, List.not_mem_nil, or_false] at hu
  rcases hu with rfl | rfl
  · rfl
  · rw [e]; rfl
theorem news_one {w : World} {g : Nat} {x : It} (hh : w.heap[g]? = some (.cells #[.int .u8 (x.1 : Nat), x.2.1] 47 (0, 0))) : ∀ (j : Nat) (u : Value), (cellsOf [x])[j]? = some u → w.cell? ((⟨g, 0, none⟩ : Addr).add j) = some u := by
  intro j u hu
  have e : w.cell? ((⟨g, 0, none⟩ : Addr).add j) = w.cell? ⟨g, j, none⟩ := by rw [Addr.add_lit, Nat.zero_add]
  rw [e, cell_at hh]
  simpa [cellsOf] using hu
set_option maxRecDepth 100000 in
/-- a block is appended -/
theorem append_blkF {ops : Array Oper} {rest : List Oper} {o : Oper} {a : Act} {Q : Exit → Act → World → Prop} (w0 w : World) (B g : Nat) (v : Value) (its : List It) (x : It) (hgd : o.guard = none) (s y : Operand)
    (ho : o.op = .call { callee := .builtin .append, args := #[s, y], argTypes := #[38, 38] }) (hs : a.eval s = v) (hy : a.eval y = .slice (some ⟨g, 0, none⟩) 1 1)
    (hown : BFam w B v its) (hx : x.1 < 256) (hbo : Own w B x.2.1 x.2.2) (hb256 : ∀ y ∈ x.2.2, y < 256) (hne : ∀ y ∈ its, ∀ g, y.2.1.ownBlock = some g → x.2.1.ownBlock ≠ some g)
    (hh : w.heap[g]? = some (.cells #[.int .u8 (x.1 : Nat), x.2.1] 47 (0, 0))) (hl : its.length ≤ 1099511627776) (hB : B ≤ w.heap.size) (hb : Below B w0 w)
    (h : ∀ v' w', BFam w' B v' (its ++ [x]) → Below B w0 w' → (∀ t, 47 ≠ t → KeepTy w w' t) → wpList Tryd.prog ops Q rest (a.put o.dst v') w') :
    wpList Tryd.prog ops Q (o :: rest) a w := by
  obtain ⟨i0, hi, hz0, hz1, hz2⟩ := info_parts info47
  obtain ⟨ax, cx, ex⟩ := row_shape hbo
  refine wpList_append_own w hgd s y 38 ho B 47 i0 (.agg #[.int .u8 0, .slice none 0 0]) 2 32 Tryd.underlying38 hi hz0 hz1 hz2 rfl (by decide) v its.length (cellsOf its) hs hown.1 ⟨g, 0, none⟩ 1 1 (cellsOf [x]) hy rfl (news_one hh) (cells_one x ⟨_, _, _, ex⟩) (by simp only [maxLen]; omega) (by omega) hB ?_
  intro v' w' hown' hg _
  refine h v' w' ⟨?_, ?_, ?_⟩ (hb.grown hg hB (fun k hk => (World.ownsRow.lt hown.1 k hk).1)) (fun t ht => keepTy_grown hg (notTy_row hown.1 ht))
  · rw [cellsOf_app, List.length_append]
    exact hown'
  · intro y hy
    rcases List.mem_append.1 hy with hy | hy
    · exact hown.2.1 y hy
    · simp at hy
      subst hy
      exact hx
  · have h5 := notTy_row hown.1 (t := 5) (by decide)
    rw [List.map_append]
    refine fam_snoc (fam_kept hown.2.2 hg h5) (row_kept hbo hg h5) hb256 ?_
    intro r hr q hq
    obtain ⟨y, hy, rfl⟩ := List.mem_map.1 hr
    exact hne y hy q hq

/-- the row's old header tells the row's old beginning -/
theorem row_trunc {w : World} {B e s g n m cap : Nat} {xs ys : List Value} (h : w.ownsRow B e s (.slice (some ⟨g, 0, none⟩) (n + m) cap) (n + m) (xs ++ ys)) (hx : xs.length = n * s) : w.ownsRow B e s (.slice (some ⟨g, 0, none⟩) n cap) n xs := by
  refine ⟨hx, ?_⟩
  rcases h.2 with ⟨h, _⟩ | ⟨g', cap', cur, hv, hb, hh, hn, hmx, hs, ht⟩
  · simp at h
  · simp only [Value.slice.injEq, Option.some.injEq, Addr.mk.injEq] at hv
    obtain ⟨⟨rfl, _⟩, _, rfl⟩ := hv
    refine .inr ⟨g, cap, cur, rfl, hb, hh, by omega, hmx, hs, ?_⟩
    have h1 := congrArg (List.take (n * s)) ht
    rw [List.take_take, Nat.min_eq_left (Nat.mul_le_mul_right s (by omega)), List.take_left' hx] at h1
    exact h1
set_option maxRecDepth 100000 in
/-- one block more: the old row stays -/
theorem run_outer (w : World) (B g : Nat) (v : Value) (its : List It) (x : It) (ty : TypeId) (hown : w.ownsRow B 47 2 v its.length (cellsOf its)) (hxs : ∃ a n c, x.2.1 = .slice a n c) (hh : w.heap[g]? = some (.cells #[.int .u8 (x.1 : Nat), x.2.1] 47 (0, 0)))
    (hl : its.length ≤ 1099511627776) (hB : B ≤ w.heap.size) :
    ∃ g' cap w', (Builtin.append_ #[38, 38] ty #[v, .slice (some ⟨g, 0, none⟩) 1 1]).run Tryd.prog w = .ok (.slice (some ⟨g', 0, none⟩) (its.length + 1) cap) w' ∧ w'.ownsRow B 47 2 v its.length (cellsOf its) ∧ w.grownBy w' v.ownBlock := by
  obtain ⟨i0, hi, hz0, hz1, hz2⟩ := info_parts info47
  have hnews := news_one hh
  have hone := cells_one x hxs
  have hlen : (cellsOf its).length = its.length * 2 := hown.1
  obtain ⟨g', cap, w', hr, h2, h3, h4, h5⟩ := run_append_lies (P := Tryd.prog) w 38 ty B 47 i0 (.agg #[.int .u8 0, .slice none 0 0]) 2 32 Tryd.underlying38 hi hz0 hz1 hz2 rfl (by decide) v its.length (cellsOf its) hown ⟨g, 0, none⟩ 1 1 (cellsOf [x]) rfl hnews hone (by decide) (by simp only [maxLen]; omega) (by omega) hB _ rfl
  refine ⟨g', cap, w', hr, ?_, h3⟩
  have mk : ∀ (v1 : Value) (w1 : World), (Builtin.append_ #[38, 38] ty #[v, .slice (some ⟨g, 0, none⟩) 1 1]).run Tryd.prog w = .ok v1 w1 → v1 = .slice (some ⟨g', 0, none⟩) (its.length + 1) cap ∧ w1 = w' := by
    intro v1 w1 h
    rw [hr] at h
    injection h with h1 h2
    exact ⟨h1.symm, h2.symm⟩
  rcases hown.2 with ⟨rfl, h0⟩ | ⟨g0, cap0, cur0, rfl, hb, hh0, hn, hm, hs, ht⟩
  · exact ⟨hlen, .inl ⟨rfl, h0⟩⟩
  · by_cases hroom : its.length + 1 ≤ cap0
    · obtain ⟨e1, e2⟩ := mk _ _ (run_append_room (P := Tryd.prog) w 38 ty 47 i0 Tryd.underlying38 hi g0 its.length cap0 cur0 hh0 ⟨g, 0, none⟩ 1 1 (cellsOf [x]) (by rw [hz1]; rfl) hnews hone hroom (by rw [hz1, hs, show (cellsOf [x]).length = 2 from rfl]; omega))
      simp only [Value.slice.injEq, Option.some.injEq, Addr.mk.injEq] at e1
      obtain ⟨⟨rfl, _⟩, _, rfl⟩ := e1
      exact row_trunc h2 hlen
    · have holds : ∀ j u, (cellsOf its)[j]? = some u → w.cell? ((⟨g0, 0, none⟩ : Addr).add j) = some u := World.ownsRow.cells hown (g := g0) rfl
      obtain ⟨e1, e2⟩ := mk _ _ (run_append_grow (P := Tryd.prog) w 38 ty 47 i0 (.agg #[.int .u8 0, .slice none 0 0]) Tryd.underlying38 hi hz0 ⟨g0, 0, none⟩ its.length cap0 (cellsOf its) (by rw [hz1]; exact hlen) holds ⟨g, 0, none⟩ 1 1 (cellsOf [x]) (by rw [hz1]; rfl) hnews (by omega) (by omega) (growslice_fits (by omega) (by rw [hz2]; omega)))
      have hbl : Below w.heap.size w w' := e2 ▸ below_new w _
      exact row_keepTy hown (keepTy_below hbl 47)
theorem append_outer {ops : Array Oper} {rest : List Oper} {o : Oper} {a : Act} {Q : Exit → Act → World → Prop} (w0 w : World) (B g : Nat) (v : Value) (its : List It) (x : It) (hgd : o.guard = none) (s y : Operand)
    (ho : o.op = .call { callee := .builtin .append, args := #[s, y], argTypes := #[38, 38] }) (hs : a.eval s = v) (hy : a.eval y = .slice (some ⟨g, 0, none⟩) 1 1)
    (hown : w.ownsRow B 47 2 v its.length (cellsOf its)) (hxs : ∃ a n c, x.2.1 = .slice a n c) (hh : w.heap[g]? = some (.cells #[.int .u8 (x.1 : Nat), x.2.1] 47 (0, 0))) (hl : its.length ≤ 1099511627776) (hB : B ≤ w.heap.size) (hb : Below B w0 w)
    (h : ∀ g' cap w', w'.ownsRow B 47 2 v its.length (cellsOf its) → w.grownBy w' v.ownBlock → Below B w0 w' → wpList Tryd.prog ops Q rest (a.put o.dst (.slice (some ⟨g', 0, none⟩) (its.length + 1) cap)) w') :
    wpList Tryd.prog ops Q (o :: rest) a w := by
  obtain ⟨g', cap, w', hr, h1, h2⟩ := run_outer w B g v its x o.type hown hxs hh hl hB
  refine wpList_plain hgd fun K hK => ?_
  unfold Oper.wp execOp
  simp only [ho, resolve, invoke, builtin, Sem.run_bind, Sem.run_pure, Result.andThen_ok, List.map_toArray, List.map_cons, List.map_nil, hs, hy, hr]
  exact hK _ _ (h g' cap w' h1 h2 (hb.grown h2 hB (fun k hk => (World.ownsRow.lt hown k hk).1)))
/-- a family of blocks beside a row that grows -/
theorem bfam_beside {w w' : World} {B B2 : Nat} {v u : Value} {its its2 : List It} (h : BFam w B v its) (hg : w.grownBy w' u.ownBlock) (hu : w.ownsRow B2 47 2 u its2.length (cellsOf its2)) (hne : ∀ g, v.ownBlock = some g → u.ownBlock ≠ some g) : BFam w' B v its := by
  refine ⟨World.ownsRow.kept h.1 hg ?_, h.2.1, fam_kept h.2.2 hg (notTy_row hu (by decide))⟩
  cases hv : v.ownBlock with
  | none => exact .inl rfl
  | some g => exact .inr (fun e => hne g hv e.symm)
/-- the bodies of blocks, marked: body k as list k -/
def mkIts : Nat → List It → List It
  | _, [] => []
  | k, x :: r => (x.1, x.2.1, mrow k x.2.2.length) :: mkIts (k + 1) r
theorem mkIts_len : ∀ (k : Nat) (its : List It), (mkIts k its).length = its.length
  | _, [] => rfl
  | k, x :: r => by rw [mkIts, List.length_cons, List.length_cons, mkIts_len]
theorem mkIts_cells : ∀ (k : Nat) (its : List It), cellsOf (mkIts k its) = cellsOf its
  | _, [] => rfl
  | k, x :: r => by
    have h := mkIts_cells (k + 1) r
    simp only [cellsOf] at h
    simp only [mkIts, cellsOf, List.flatMap_cons, h]
theorem mkIts_get : ∀ (its : List It) (k j : Nat) (x : It), its[j]? = some x → (mkIts k its)[j]? = some (x.1, x.2.1, mrow (k + j) x.2.2.length)
  | y :: r, k, 0, x, h => by simp at h; subst h; rfl
  | y :: r, k, j + 1, x, h => by
    simp only [List.getElem?_cons_succ] at h
    rw [mkIts, List.getElem?_cons_succ, mkIts_get r (k + 1) j x h, show k + 1 + j = k + (j + 1) by omega]
theorem mkIts_getI {its : List It} {k j : Nat} {x : It} (h : (mkIts k its)[j]? = some x) : ∃ y, its[j]? = some y ∧ x = (y.1, y.2.1, mrow (k + j) y.2.2.length) := by
  have hl : j < its.length := by have := (List.getElem?_eq_some_iff.1 h).1; rw [mkIts_len] at this; exact this
  have hy := List.getElem?_eq_getElem hl
  rw [mkIts_get its k j _ hy] at h
  exact ⟨_, hy, (Option.some.inj h).symm⟩
/-- behind Own: the blocks with their bodies marked -/
theorem bfam_marked {w w' : World} {B : Nat} {v : Value} {its : List It} {rows : List Rw} (h : BFam w B v its) (hrow : w'.ownsRow B 47 2 v its.length (cellsOf its)) (k : Nat)
    (hr : ∀ (j : Nat) (x : It), its[j]? = some x → rows[k + j]? = some (x.2.1, x.2.2)) (ho : ∀ (j : Nat) (r : Rw), rows[j]? = some r → Own w' B r.1 (mrow j r.2.length)) : BFam w' B v (mkIts k its) := by
  refine ⟨by rw [mkIts_len, mkIts_cells]; exact hrow, fun x hx => ?_, ⟨fun j r hj => ?_, fun i j r s hij hi hj g hg => ?_⟩⟩
  · obtain ⟨j, hj⟩ := List.mem_iff_getElem?.1 hx
    obtain ⟨y, hy, rfl⟩ := mkIts_getI hj
    exact h.2.1 y (List.mem_of_getElem? hy)
  · rw [List.getElem?_map] at hj
    obtain ⟨x, hx, rfl⟩ := Option.map_eq_some_iff.1 hj
    obtain ⟨y, hy, rfl⟩ := mkIts_getI hx
    exact ⟨ho _ _ (hr j y hy), mrow_lt _ _⟩
  · rw [List.getElem?_map] at hi hj
    obtain ⟨x, hx, rfl⟩ := Option.map_eq_some_iff.1 hi
    obtain ⟨x', hx', rfl⟩ := Option.map_eq_some_iff.1 hj
    obtain ⟨y, hy, rfl⟩ := mkIts_getI hx
    obtain ⟨y', hy', rfl⟩ := mkIts_getI hx'
    exact h.2.2.2 i j (y.2.1, y.2.2) (y'.2.1, y'.2.2) hij (by rw [List.getElem?_map, hy]; rfl) (by rw [List.getElem?_map, hy']; rfl) g hg
end Go.Proofs.YtgebekklkodpaaaDoor
