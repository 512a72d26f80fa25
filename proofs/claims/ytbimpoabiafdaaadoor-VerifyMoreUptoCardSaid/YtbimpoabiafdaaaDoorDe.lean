/- isa.Decode -/
import Derived.Test.YtbimpoabiafdaaaDoorRg
namespace Go.Proofs.YtbimpoabiafdaaaDoor
open Go.RowKit Vf

/-- what Decode answers -/
def DecOut (E : Nat → Addr) (B : Nat) (bs : List Nat) (e : Ending) (w' : World) : Prop :=
  match dc bs with
  | none => e = .returned (.tuple #[.slice none 0 0, .iface 108 (.pointer (some (E 0)))])
  | some c => ∃ v, e = .returned (.tuple #[v, .nilIface]) ∧ InOwn w' B v c
def posOf (w : World) (R : Nat) : Nat := match w.cell? ⟨R, 0, none⟩ with
  | some (.int _ z) => z.toNat
  | _ => 0
theorem posOf_rdr {w : World} {R a : Nat} {bv : Value} {bs : List Nat} (h : Rdr w R a bv bs) : posOf w R = a := by
  unfold posOf
  rw [(cells3 h.1).1]
  simp
theorem inown_nil (w : World) (B : Nat) : InOwn w B (.slice none 0 0) [] := World.ownsRow_nil w B 56 3
theorem nargs_le (k : Nat) : nargs k = 0 ∨ nargs k = 1 ∨ nargs k = 2 := by
  by_cases h : k < 17
  · revert h; revert k; decide
  · left; unfold nargs; rw [List.getD_eq_getElem?_getD, List.getElem?_eq_none (by simp; omega)]; rfl
theorem info56 : (Tryd.prog.info? 56).map (fun i => (i.zero, i.size, i.bytes)) = some (some (.agg #[.int .i64 0, .int .u64 0, .int .u64 0]), 3, 24) := by kernel_rfl

set_option maxRecDepth 100000 in
theorem append_ins {ops : Array Oper} {rest : List Oper} {o : Oper} {a : Act} {Q : Exit → Act → World → Prop} (w0 w : World) (B g : Nat) (v : Value) (c : List Ins) (x : Ins) (hgd : o.guard = none) (s y : Operand)
    (ho : o.op = .call { callee := .builtin .append, args := #[s, y], argTypes := #[48, 48] }) (hs : a.eval s = v) (hy : a.eval y = .slice (some ⟨g, 0, none⟩) 1 1)
    (hown : InOwn w B v c) (hh : w.heap[g]? = some (.cells #[.int .i64 (x.1 : Nat), .int .u64 (x.2.1 : Nat), .int .u64 (x.2.2 : Nat)] 56 (0, 0))) (hl : c.length ≤ 1099511627776) (hB : B ≤ w.heap.size) (hb : Below B w0 w)
    (h : ∀ v' w', InOwn w' B v' (c ++ [x]) → Below B w0 w' → (∀ t, 56 ≠ t → KeepTy w w' t) → wpList Tryd.prog ops Q rest (a.put o.dst v') w') :
    wpList Tryd.prog ops Q (o :: rest) a w := by
  obtain ⟨i0, hi, hz0, hz1, hz2⟩ := info_parts info56
  refine wpList_append_own w hgd s y 48 ho B 56 i0 (.agg #[.int .i64 0, .int .u64 0, .int .u64 0]) 3 24 Tryd.underlying48 hi hz0 hz1 hz2 rfl (by decide) v c.length (insCells c) hs hown ⟨g, 0, none⟩ 1 1 (insCells [x]) hy rfl ?_ ?_ (by simp only [maxLen]; omega) (by omega) hB ?_
  · intro j u hu
    have e : w.cell? ((⟨g, 0, none⟩ : Addr).add j) = w.cell? ⟨g, j, none⟩ := by rw [Addr.add_lit, Nat.zero_add]
    rw [e, cell_at hh]
    simpa [insCells] using hu
  · intro u hu
    simp only [insCells, List.flatMap_cons, List.flatMap_nil, List.append_nil, List.mem_cons, List.not_mem_nil, or_false] at hu
    rcases hu with rfl | rfl | rfl <;> rfl
  · intro v' w' hown' hg _
    refine h v' w' ?_ (hb.grown hg hB (fun k hk => (World.ownsRow.lt hown k hk).1)) (fun t ht => keepTy_grown hg (notTy_row hown ht))
    unfold InOwn
    rw [insCells_app, List.length_append]
    exact hown'
theorem keepTy_at {w : World} {p i : Nat} {cs : Array Value} {t0 t : TypeId} {fr : Nat × Nat} (h : w.heap[p]? = some (.cells cs t0 fr)) (ht : t0 ≠ t) (x : Value) : KeepTy w (w.setCell ⟨p, i, none⟩ x) t := by
  intro k cs' fr' hk
  have hne : k ≠ p := by
    rintro rfl
    rw [h] at hk
    simp only [Option.some.injEq, Obj.cells.injEq] at hk
    exact ht hk.2.1
  exact (Below.heap_setCell w ⟨p, i, none⟩ x k hne).trans hk
theorem inown_lt {w : World} {B : Nat} {v : Value} {c : List Ins} (h : InOwn w B v c) : v.ownBlock ≠ some w.heap.size := fun e => by
  have := World.ownsRow.lt h _ e
  omega
theorem cells2 {w : World} {p : Nat} {a b : Value} {t : TypeId} {fr : Nat × Nat} (h : w.heap[p]? = some (.cells #[a, b] t fr)) : w.cell? ⟨p, 0, none⟩ = some a ∧ w.cell? ⟨p, 1, none⟩ = some b := by
  refine ⟨?_, ?_⟩
  · rw [cell_at h]; rfl
  · rw [cell_at h]; rfl
theorem cells3_of {w : World} {p : Nat} {a b c : Value} {t : TypeId} (h : w.heap[p]? = some (.cells #[a, b, c] t (0, 0))) :
    w.cell? ⟨p, 0, none⟩ = some a ∧ w.cell? ⟨p, 1, none⟩ = some b ∧ w.cell? ⟨p, 2, none⟩ = some c ∧ w.frozen? ⟨p, 0, none⟩ = false ∧ w.frozen? ⟨p, 1, none⟩ = false ∧ w.frozen? ⟨p, 2, none⟩ = false := by
  obtain ⟨h0, h1, h2⟩ := cells3 h
  exact ⟨h0, h1, h2, free_at h 0, free_at h 1, free_at h 2⟩

set_option maxRecDepth 100000 in
set_option maxHeartbeats 4000000 in
theorem decode_any (w : World) (T : TabAt w) (E : Nat → Addr) (hE0 : ErrAt w 0 (E 0)) (hE1 : ErrAt w 1 (E 1)) (hE2 : ErrAt w 2 (E 2)) (hg : 25 ≤ w.heap.size) (v : Value) (bs : List Nat) (hs : Src w v bs) (hl : bs.length ≤ 1099511627776) :
    Calls Tryd.prog 18 #[v] w fun e w' => DecOut E w.heap.size bs e w' ∧ Below w.heap.size w w' := by
  obtain ⟨ao, cap, rfl⟩ := src_form hs
  have HS := hide hs
  have HT := hide T
  have HE0 := hide hE0
  have HE1 := hide hE1
  have HE2 := hide hE2
  clear hs T hE0 hE1 hE2
  go_enter Tryd.func18, Tryd.ntmps18
  go_wp2_with fail
  refine (rdr_new w _ bs HS.out (by omega)).mono ?_
  rintro e w1 ⟨R, bv, rfl, hR, hr, hb1⟩
  have HR1 := hide hr
  have HB1 := hide hb1
  have hs1 := hb1.size
  clear hr hb1
  go_wp2_with fail
  go_loopw [4] (fun s wr => ∃ (p : Nat) (acc : List Ins), p ≤ bs.length ∧ acc.length ≤ p ∧ dc bs = dcAt bs p acc ∧ InOwn wr w.heap.size s acc ∧ Rdr wr R p bv bs ∧ Below w.heap.size w wr) (fun _ wr => bs.length - posOf wr R)
  case atStart => exact ⟨0, [], by omega, by simp, (dcAt_start bs).symm, inown_nil _ _, HR1.out, HB1.out⟩
  case round =>
    obtain ⟨p, acc, hp, hap, hdc, ho, hr, hb⟩ := hrel
    obtain ⟨ao4, cap4, rfl⟩ := row_shape ho
    have HD := hide hdc
    have HO := hide ho
    have HR := hide hr
    have HB := hide hb
    have hsr := hb.size
    have HRr := hide hr
    clear hdc ho hr hb
    go_wp2_with fail
    refine (left_any wr R p bs.length _ HR.out.1 (by omega) (by omega)).mono ?_
    rintro e w2 ⟨rfl, q, rfl⟩
    have HR2 := hide (rdr_drew HR.out q)
    have HB2 := hide (below_drewN HB.out q)
    have HO2 := hide (inown_keep HO.out (below_drewN (Below.refl _ _) q))
    clear HR HB HO
    have hsr2 : w.heap.size ≤ (wr.drewN q).heap.size := hsr
    generalize wr.drewN q = w2 at HR2 HB2 HO2 hsr2
    by_cases hlt : p < bs.length
    · obtain ⟨op, hx⟩ : ∃ x, bs[p]? = some x := ⟨_, List.getElem?_eq_getElem hlt⟩
      have hop := HR2.out.src.1 op (List.mem_of_getElem? hx)
      have c1 : 0 < (bs.length : Int) - p := by omega
      have HX := hide hx
      clear hx
      go_wp2_with fail
      refine (reader_byte w2 w.heap.size R p op bv bs hR HR2.out (by omega) HX.out).mono ?_
      rintro e w3 ⟨rfl, hb3, hr3, hk3⟩
      have HR3 := hide hr3
      have HB3 := hide (HB2.out.trans hb3)
      have HO3 := hide (show InOwn w3 _ _ _ from row_keepTy HO2.out (hk3 56 (by decide)))
      clear hb3 hr3 hk3 HR2 HB2 HO2
      have hs3 := HB3.out.size
      go_wp2_with fail
      have hX := heap_new (w := w3) rfl (.cells #[.int .i64 op, .int .u64 0, .int .u64 0] 56)
      have hq := (Below.refl w3.heap.size w3).alloc (Nat.le_refl _) (.cells #[.int .i64 op, .int .u64 0, .int .u64 0] 56)
      have HR4 := hide (rdr_keep HR3.out hq)
      have HO4 := hide (inown_keep HO3.out hq)
      have HB4 := hide (HB3.out.trans (hq.mono hs3))
      have hs4 := HB4.out.size
      have HNE0 := inown_lt HO3.out
      clear hq HR3 HO3 HB3
      generalize w3.alloc (.cells #[.int .i64 op, .int .u64 0, .int .u64 0] 56) = w4 at hX HR4 HO4 HB4 hs4 ⊢
      generalize w3.heap.size = X at hX hs3 HNE0 ⊢
      refine (args_any w4 (tab_below HT.out HB4.out (by omega)) op hop).mono ?_
      rintro e w5 ⟨rfl, rfl⟩
      by_cases h17 : op < 17
      · simp only [h17, if_true, decide_true]
        have H17 := hide h17
        have HNE := hide HNE0
        clear h17 HNE0
        rcases nargs_le op with hn | hn | hn
        · have HOne := hide (show one op (bs.drop (p + 1)) = some ((op, 0, 0), 0) by have := H17.out; unfold one; rw [if_neg (by omega), if_pos hn])
          rw [hn]
          have HST := hide (HD.out.trans (dcAt_step HX.out HOne.out))
          have HLE := hide (show p + 1 + 0 ≤ bs.length by omega)
          clear hn
          go_wp2_with fail
          have hP := heap_new (w := w4) rfl (.cells #[.pointer (some ⟨X, 1, none⟩), .pointer (some ⟨X, 2, none⟩)] 82)
          have hX5 := heap_old hX (.cells #[.pointer (some ⟨X, 1, none⟩), .pointer (some ⟨X, 2, none⟩)] 82)
          have hq := (Below.refl w4.heap.size w4).alloc (Nat.le_refl _) (.cells #[.pointer (some ⟨X, 1, none⟩), .pointer (some ⟨X, 2, none⟩)] 82)
          have HR5 := hide (rdr_keep HR4.out hq)
          have HO5 := hide (inown_keep HO4.out hq)
          have HB5 := hide (HB4.out.trans (hq.mono hs4))
          have hs5 := HB5.out.size
          clear hq HR4 HO4 HB4 hX
          generalize w4.alloc (.cells #[.pointer (some ⟨X, 1, none⟩), .pointer (some ⟨X, 2, none⟩)] 82) = w5 at hP hX5 HR5 HO5 HB5 hs5 ⊢
          generalize w4.heap.size = Y at hP hs4 ⊢
          obtain ⟨y0, y1⟩ := cells2 hP
          obtain ⟨x0, x1, x2, f0, f1, f2⟩ := cells3_of hX5
          have HP5 := hide hP
          have HX5 := hide hX5
          clear hP hX5
          go_wp2_with fail
          refine wp_loop_rounds 3 ?_
          rw [rounds_succ]
          have hh6 := heap_new (w := w5) rfl (.cells #[.int .i64 op, .int .u64 (0), .int .u64 (0)] 56)
          have hq6 := (Below.refl w5.heap.size w5).alloc (Nat.le_refl _) (.cells #[.int .i64 op, .int .u64 (0), .int .u64 (0)] 56)
          have HH6 := hide hh6
          have HR6 := hide (rdr_keep HR5.out hq6)
          have HO6 := hide (inown_keep HO5.out hq6)
          have HB6 := hide (HB5.out.trans (hq6.mono hs5))
          have hs6 := HB6.out.size
          clear hh6 hq6
          go_wp2_with (refine append_ins w _ w.heap.size _ _ acc (op, 0, 0) rfl (.tmp 63) (.tmp 65) rfl rfl rfl HO6.out HH6.out (by omega) hs6 HB6.out ?_)
          intro v7 w7 ho7 hb7 hk7
          have HR7 := hide (rdr_keepTy HR6.out (hk7 78 (by decide)) (hk7 5 (by decide)))
          have HO7 := hide ho7
          have HB7 := hide hb7
          obtain ⟨ao7, cap7, rfl⟩ := row_shape ho7
          clear ho7 hb7 hk7
          go_wp2_with fail
          refine ⟨⟨p + 1 + (0), _, by have := HLE.out; omega, by simp; omega, HST.out, HO7.out, HR7.out, HB7.out⟩, ?_⟩
          rw [posOf_rdr HR7.out, posOf_rdr HRr.out]
          omega
        · rw [hn]
          have HNA := hide hn
          have HLP := hide (show p + 1 ≤ bs.length by omega)
          obtain ⟨t1, ht1⟩ : ∃ t, t = bs.drop (p + 1) := ⟨_, rfl⟩
          have HTE1 := hide ht1
          clear hn ht1
          go_wp2_with fail
          have hP := heap_new (w := w4) rfl (.cells #[.pointer (some ⟨X, 1, none⟩), .pointer (some ⟨X, 2, none⟩)] 82)
          have hX5 := heap_old hX (.cells #[.pointer (some ⟨X, 1, none⟩), .pointer (some ⟨X, 2, none⟩)] 82)
          have hq := (Below.refl w4.heap.size w4).alloc (Nat.le_refl _) (.cells #[.pointer (some ⟨X, 1, none⟩), .pointer (some ⟨X, 2, none⟩)] 82)
          have HR5 := hide (rdr_keep HR4.out hq)
          have HO5 := hide (inown_keep HO4.out hq)
          have HB5 := hide (HB4.out.trans (hq.mono hs4))
          have hs5 := HB5.out.size
          clear hq HR4 HO4 HB4 hX
          generalize w4.alloc (.cells #[.pointer (some ⟨X, 1, none⟩), .pointer (some ⟨X, 2, none⟩)] 82) = w5 at hP hX5 HR5 HO5 HB5 hs5 ⊢
          generalize w4.heap.size = Y at hP hs4 ⊢
          obtain ⟨y0, y1⟩ := cells2 hP
          obtain ⟨x0, x1, x2, f0, f1, f2⟩ := cells3_of hX5
          have HP5 := hide hP
          have HX5 := hide hX5
          clear hP hX5
          go_wp2_with fail
          refine wp_loop_rounds 3 ?_
          rw [rounds_succ]
          go_wp2_with fail
          refine (reader_uvarint w5 w.heap.size R (p + 1) bv bs t1 HTE1.out hR HR5.out (by have := HLP.out; omega) (by omega) E (err_below HE1.out HB5.out (by omega)) (err_below HE2.out HB5.out (by omega)) (by omega)).mono ?_
          rintro e wu6 ⟨hout, hbu, hru⟩
          have HBu6 := hide (HB5.out.trans hbu)
          have hsu6 := HBu6.out.size
          clear hbu
          by_cases hnum : (Nm.num 10 0 t1).2 = 0
          · obtain ⟨hru, hku⟩ := hru hnum
            obtain ⟨n1, hn⟩ : ∃ n1, (Nm.num 10 0 t1).1 = n1 := ⟨_, rfl⟩
            obtain ⟨m1, hvn⟩ : ∃ v, Nm.val (t1.take n1) = v := ⟨_, rfl⟩
            have hnum2 : Nm.num 10 0 t1 = (n1, 0) := Prod.ext hn hnum
            have HNUM1 := hide hnum2
            have HVAL1 := hide hvn
            rw [NumOut, hn, hvn] at hout
            rw [hn] at hru
            have hout2 : e = .returned (.tuple #[.int .u64 (m1 : Nat), .nilIface]) := by
              rcases hout with ⟨_, h⟩ | ⟨h, _⟩ | ⟨h, _⟩
              · exact h
              · omega
              · omega
            have hXu := hku 56 (by decide) _ _ _ HX5.out
            have hPu := hku 82 (by decide) _ _ _ HP5.out
            have hOu := row_keepTy HO5.out (hku 56 (by decide))
            have hnl := (Nm.num_ok (by omega) hnum2).2.2.1
            have HNL1 := hide hnl
            subst hout2
            clear hout hnum hn hvn hnum2 hku hnl
            obtain ⟨z0, z1, z2, g0, g1, g2⟩ := cells3_of hXu
            obtain ⟨y0', y1'⟩ := cells2 hPu
            have hXv := heap_set (i := 1) hXu (.int .u64 (m1 : Nat))
            have hPv := (keepTy_at (i := 1) hXu (show (56 : TypeId) ≠ 82 by decide) (.int .u64 (m1 : Nat))) _ _ _ hPu
            have HR6 := hide (rdr_keepTy hru (keepTy_at (i := 1) hXu (by decide) (.int .u64 (m1 : Nat))) (keepTy_at (i := 1) hXu (by decide) (.int .u64 (m1 : Nat))))
            have HO6 := hide (show InOwn (wu6.setCell ⟨X, 1, none⟩ (.int .u64 (m1 : Nat))) _ _ _ from ownsRow_setCell_other hOu HNE.out _)
            have HB6 := hide (below_set (i := 1) HBu6.out hs3 (.int .u64 (m1 : Nat)))
            have hs6 := HB6.out.size
            clear hru hOu
            go_wp2_with fail
            generalize wu6.setCell ⟨X, 1, none⟩ (.int .u64 (m1 : Nat)) = w6 at hXv hPv HR6 HO6 HB6 hs6 ⊢
            clear z0 z1 z2 g0 g1 g2 y0' y1' hXu hPu
            have HX6 := hide (show w6.heap[X]? = some (.cells #[.int .i64 op, .int .u64 ((m1 : Nat)), .int .u64 (0)] 56 (0, 0)) from by simpa using hXv)
            have HP6 := hide hPv
            clear hXv hPv
            obtain ⟨x0, x1, x2, f0, f1, f2⟩ := cells3_of HX6.out
            obtain ⟨y0, y1⟩ := cells2 HP6.out
            have HOne := hide (show one op (bs.drop (p + 1)) = some ((op, m1, 0), n1) by have := H17.out; have h6 := HNA.out; have h2 := HNUM1.out; rw [HTE1.out] at h2; have h3 := HVAL1.out; rw [HTE1.out] at h3; unfold one; rw [h2]; simp only; rw [if_neg (by omega), if_neg (by omega), if_neg (by omega), if_pos HNA.out, h3])
            have HST := hide (HD.out.trans (dcAt_step HX.out HOne.out))
            have HLE := hide (show p + 1 + n1 ≤ bs.length by have := HNL1.out; rw [HTE1.out, List.length_drop] at this; omega)
            rw [rounds_succ]
            have hh6 := heap_new (w := w6) rfl (.cells #[.int .i64 op, .int .u64 ((m1 : Nat)), .int .u64 (0)] 56)
            have hq6 := (Below.refl w6.heap.size w6).alloc (Nat.le_refl _) (.cells #[.int .i64 op, .int .u64 ((m1 : Nat)), .int .u64 (0)] 56)
            have HH6 := hide hh6
            have HR6 := hide (rdr_keep HR6.out hq6)
            have HO6 := hide (inown_keep HO6.out hq6)
            have HB6 := hide (HB6.out.trans (hq6.mono hs6))
            have hs6 := HB6.out.size
            clear hh6 hq6
            go_wp2_with (refine append_ins w _ w.heap.size _ _ acc (op, m1, 0) rfl (.tmp 63) (.tmp 65) rfl rfl rfl HO6.out HH6.out (by omega) hs6 HB6.out ?_)
            intro v7 w7 ho7 hb7 hk7
            have HR7 := hide (rdr_keepTy HR6.out (hk7 78 (by decide)) (hk7 5 (by decide)))
            have HO7 := hide ho7
            have HB7 := hide hb7
            obtain ⟨ao7, cap7, rfl⟩ := row_shape ho7
            clear ho7 hb7 hk7
            go_wp2_with fail
            refine ⟨⟨p + 1 + (n1), _, by have := HLE.out; omega, by simp; omega, HST.out, HO7.out, HR7.out, HB7.out⟩, ?_⟩
            rw [posOf_rdr HR7.out, posOf_rdr HRr.out]
            omega
          · have HOne := hide (show one op (bs.drop (p + 1)) = none by have h0 := H17.out; have h1 := HNA.out; rw [HTE1.out] at hnum; unfold one; rw [if_neg (by omega), if_neg (by omega), if_pos hnum])
            have HST := hide (HD.out.trans (dcAt_bad HX.out HOne.out))
            have hE := err_below HE0.out HBu6.out (by omega)
            unfold ErrAt at hE
            have hbad : e = .returned (.tuple #[.int .u64 0, .iface 108 (.pointer (some (E 1)))]) ∨ e = .returned (.tuple #[.int .u64 0, .iface 108 (.pointer (some (E 2)))]) := by
              rcases hout with ⟨h, _⟩ | ⟨_, h⟩ | ⟨_, h⟩
              · exact absurd h hnum
              · exact .inl h
              · exact .inr h
            clear hout hru hnum
            rcases hbad with rfl | rfl
            all_goals
              go_wp2_with fail
              go_quiet (fail)
              go_wp2
              go_ret2
              exact ⟨by rw [DecOut, HST.out] <;> rfl, below_drewN HBu6.out _⟩
        · rw [hn]
          have HNA := hide hn
          have HLP := hide (show p + 1 ≤ bs.length by omega)
          obtain ⟨t1, ht1⟩ : ∃ t, t = bs.drop (p + 1) := ⟨_, rfl⟩
          have HTE1 := hide ht1
          clear hn ht1
          go_wp2_with fail
          have hP := heap_new (w := w4) rfl (.cells #[.pointer (some ⟨X, 1, none⟩), .pointer (some ⟨X, 2, none⟩)] 82)
          have hX5 := heap_old hX (.cells #[.pointer (some ⟨X, 1, none⟩), .pointer (some ⟨X, 2, none⟩)] 82)
          have hq := (Below.refl w4.heap.size w4).alloc (Nat.le_refl _) (.cells #[.pointer (some ⟨X, 1, none⟩), .pointer (some ⟨X, 2, none⟩)] 82)
          have HR5 := hide (rdr_keep HR4.out hq)
          have HO5 := hide (inown_keep HO4.out hq)
          have HB5 := hide (HB4.out.trans (hq.mono hs4))
          have hs5 := HB5.out.size
          clear hq HR4 HO4 HB4 hX
          generalize w4.alloc (.cells #[.pointer (some ⟨X, 1, none⟩), .pointer (some ⟨X, 2, none⟩)] 82) = w5 at hP hX5 HR5 HO5 HB5 hs5 ⊢
          generalize w4.heap.size = Y at hP hs4 ⊢
          obtain ⟨y0, y1⟩ := cells2 hP
          obtain ⟨x0, x1, x2, f0, f1, f2⟩ := cells3_of hX5
          have HP5 := hide hP
          have HX5 := hide hX5
          clear hP hX5
          go_wp2_with fail
          refine wp_loop_rounds 3 ?_
          rw [rounds_succ]
          go_wp2_with fail
          refine (reader_uvarint w5 w.heap.size R (p + 1) bv bs t1 HTE1.out hR HR5.out (by have := HLP.out; omega) (by omega) E (err_below HE1.out HB5.out (by omega)) (err_below HE2.out HB5.out (by omega)) (by omega)).mono ?_
          rintro e wu6 ⟨hout, hbu, hru⟩
          have HBu6 := hide (HB5.out.trans hbu)
          have hsu6 := HBu6.out.size
          clear hbu
          by_cases hnum : (Nm.num 10 0 t1).2 = 0
          · obtain ⟨hru, hku⟩ := hru hnum
            obtain ⟨n1, hn⟩ : ∃ n1, (Nm.num 10 0 t1).1 = n1 := ⟨_, rfl⟩
            obtain ⟨m1, hvn⟩ : ∃ v, Nm.val (t1.take n1) = v := ⟨_, rfl⟩
            have hnum2 : Nm.num 10 0 t1 = (n1, 0) := Prod.ext hn hnum
            have HNUM1 := hide hnum2
            have HVAL1 := hide hvn
            rw [NumOut, hn, hvn] at hout
            rw [hn] at hru
            have hout2 : e = .returned (.tuple #[.int .u64 (m1 : Nat), .nilIface]) := by
              rcases hout with ⟨_, h⟩ | ⟨h, _⟩ | ⟨h, _⟩
              · exact h
              · omega
              · omega
            have hXu := hku 56 (by decide) _ _ _ HX5.out
            have hPu := hku 82 (by decide) _ _ _ HP5.out
            have hOu := row_keepTy HO5.out (hku 56 (by decide))
            have hnl := (Nm.num_ok (by omega) hnum2).2.2.1
            have HNL1 := hide hnl
            subst hout2
            clear hout hnum hn hvn hnum2 hku hnl
            obtain ⟨z0, z1, z2, g0, g1, g2⟩ := cells3_of hXu
            obtain ⟨y0', y1'⟩ := cells2 hPu
            have hXv := heap_set (i := 1) hXu (.int .u64 (m1 : Nat))
            have hPv := (keepTy_at (i := 1) hXu (show (56 : TypeId) ≠ 82 by decide) (.int .u64 (m1 : Nat))) _ _ _ hPu
            have HR6 := hide (rdr_keepTy hru (keepTy_at (i := 1) hXu (by decide) (.int .u64 (m1 : Nat))) (keepTy_at (i := 1) hXu (by decide) (.int .u64 (m1 : Nat))))
            have HO6 := hide (show InOwn (wu6.setCell ⟨X, 1, none⟩ (.int .u64 (m1 : Nat))) _ _ _ from ownsRow_setCell_other hOu HNE.out _)
            have HB6 := hide (below_set (i := 1) HBu6.out hs3 (.int .u64 (m1 : Nat)))
            have hs6 := HB6.out.size
            clear hru hOu
            go_wp2_with fail
            generalize wu6.setCell ⟨X, 1, none⟩ (.int .u64 (m1 : Nat)) = w6 at hXv hPv HR6 HO6 HB6 hs6 ⊢
            clear z0 z1 z2 g0 g1 g2 y0' y1' hXu hPu
            have HX6 := hide (show w6.heap[X]? = some (.cells #[.int .i64 op, .int .u64 ((m1 : Nat)), .int .u64 (0)] 56 (0, 0)) from by simpa using hXv)
            have HP6 := hide hPv
            clear hXv hPv
            obtain ⟨x0, x1, x2, f0, f1, f2⟩ := cells3_of HX6.out
            obtain ⟨y0, y1⟩ := cells2 HP6.out
            have HLP2 := hide (show p + 1 + n1 ≤ bs.length by have := HNL1.out; rw [HTE1.out, List.length_drop] at this; omega)
            obtain ⟨t2, ht2⟩ : ∃ t, t = bs.drop (p + 1 + n1) := ⟨_, rfl⟩
            have HTE2 := hide ht2
            have HQE := hide (show t2 = t1.drop n1 by rw [ht2, HTE1.out, List.drop_drop])
            clear ht2
            rw [rounds_succ]
            go_wp2_with fail
            refine (reader_uvarint w6 w.heap.size R (p + 1 + n1) bv bs t2 HTE2.out hR HR6.out (by have := HLP2.out; omega) (by omega) E (err_below HE1.out HB6.out (by omega)) (err_below HE2.out HB6.out (by omega)) (by omega)).mono ?_
            rintro e wu8 ⟨hout, hbu, hru⟩
            have HBu8 := hide (HB6.out.trans hbu)
            have hsu8 := HBu8.out.size
            clear hbu
            by_cases hnum : (Nm.num 10 0 t2).2 = 0
            · obtain ⟨hru, hku⟩ := hru hnum
              obtain ⟨n2, hn⟩ : ∃ n2, (Nm.num 10 0 t2).1 = n2 := ⟨_, rfl⟩
              obtain ⟨m2, hvn⟩ : ∃ v, Nm.val (t2.take n2) = v := ⟨_, rfl⟩
              have hnum2 : Nm.num 10 0 t2 = (n2, 0) := Prod.ext hn hnum
              have HNUM2 := hide hnum2
              have HVAL2 := hide hvn
              rw [NumOut, hn, hvn] at hout
              rw [hn] at hru
              have hout2 : e = .returned (.tuple #[.int .u64 (m2 : Nat), .nilIface]) := by
                rcases hout with ⟨_, h⟩ | ⟨h, _⟩ | ⟨h, _⟩
                · exact h
                · omega
                · omega
              have hXu := hku 56 (by decide) _ _ _ HX6.out
              have hPu := hku 82 (by decide) _ _ _ HP6.out
              have hOu := row_keepTy HO6.out (hku 56 (by decide))
              have hnl := (Nm.num_ok (by omega) hnum2).2.2.1
              have HNL2 := hide hnl
              subst hout2
              clear hout hnum hn hvn hnum2 hku hnl
              obtain ⟨z0, z1, z2, g0, g1, g2⟩ := cells3_of hXu
              obtain ⟨y0', y1'⟩ := cells2 hPu
              have hXv := heap_set (i := 2) hXu (.int .u64 (m2 : Nat))
              have hPv := (keepTy_at (i := 2) hXu (show (56 : TypeId) ≠ 82 by decide) (.int .u64 (m2 : Nat))) _ _ _ hPu
              have HR8 := hide (rdr_keepTy hru (keepTy_at (i := 2) hXu (by decide) (.int .u64 (m2 : Nat))) (keepTy_at (i := 2) hXu (by decide) (.int .u64 (m2 : Nat))))
              have HO8 := hide (show InOwn (wu8.setCell ⟨X, 2, none⟩ (.int .u64 (m2 : Nat))) _ _ _ from ownsRow_setCell_other hOu HNE.out _)
              have HB8 := hide (below_set (i := 2) HBu8.out hs3 (.int .u64 (m2 : Nat)))
              have hs8 := HB8.out.size
              clear hru hOu
              go_wp2_with fail
              generalize wu8.setCell ⟨X, 2, none⟩ (.int .u64 (m2 : Nat)) = w8 at hXv hPv HR8 HO8 HB8 hs8 ⊢
              clear z0 z1 z2 g0 g1 g2 y0' y1' hXu hPu
              have HX8 := hide (show w8.heap[X]? = some (.cells #[.int .i64 op, .int .u64 (m1), .int .u64 ((m2 : Nat))] 56 (0, 0)) from by simpa using hXv)
              have HP8 := hide hPv
              clear hXv hPv
              obtain ⟨x0, x1, x2, f0, f1, f2⟩ := cells3_of HX8.out
              obtain ⟨y0, y1⟩ := cells2 HP8.out
              have HOne := hide (show one op (bs.drop (p + 1)) = some ((op, m1, m2), n1 + n2) by have := H17.out; have h2 := HNUM1.out; rw [HTE1.out] at h2; have h3 := HVAL1.out; rw [HTE1.out] at h3; have h4 := HNUM2.out; rw [HQE.out, HTE1.out] at h4; have h5 := HVAL2.out; rw [HQE.out, HTE1.out] at h5; have h6 := HNA.out; unfold one; rw [h2]; simp only; rw [h4]; simp only; rw [if_neg (by omega), if_neg (by omega), if_neg (by omega), if_neg (by omega), if_neg (by omega), h3, h5])
              have HST := hide (HD.out.trans (dcAt_step HX.out HOne.out))
              have HLE := hide (show p + 1 + (n1 + n2) ≤ bs.length by have := HNL2.out; rw [HTE2.out, List.length_drop] at this; have := HNL1.out; rw [HTE1.out, List.length_drop] at this; omega)
              rw [rounds_succ]
              have HRx := hide (show Rdr w8 R (p + 1 + (n1 + n2)) bv bs from by have := HR8.out; rw [Nat.add_assoc] at this; exact this)
              have hh6 := heap_new (w := w8) rfl (.cells #[.int .i64 op, .int .u64 ((m1 : Nat)), .int .u64 ((m2 : Nat))] 56)
              have hq6 := (Below.refl w8.heap.size w8).alloc (Nat.le_refl _) (.cells #[.int .i64 op, .int .u64 ((m1 : Nat)), .int .u64 ((m2 : Nat))] 56)
              have HH6 := hide hh6
              have HR6 := hide (rdr_keep HRx.out hq6)
              have HO6 := hide (inown_keep HO8.out hq6)
              have HB6 := hide (HB8.out.trans (hq6.mono hs8))
              have hs6 := HB6.out.size
              clear hh6 hq6
              go_wp2_with (refine append_ins w _ w.heap.size _ _ acc (op, m1, m2) rfl (.tmp 63) (.tmp 65) rfl rfl rfl HO6.out HH6.out (by omega) hs6 HB6.out ?_)
              intro v7 w7 ho7 hb7 hk7
              have HR7 := hide (rdr_keepTy HR6.out (hk7 78 (by decide)) (hk7 5 (by decide)))
              have HO7 := hide ho7
              have HB7 := hide hb7
              obtain ⟨ao7, cap7, rfl⟩ := row_shape ho7
              clear ho7 hb7 hk7
              go_wp2_with fail
              refine ⟨⟨p + 1 + (n1 + n2), _, by have := HLE.out; omega, by simp; omega, HST.out, HO7.out, HR7.out, HB7.out⟩, ?_⟩
              rw [posOf_rdr HR7.out, posOf_rdr HRr.out]
              omega
            · have HOne := hide (show one op (bs.drop (p + 1)) = none by have h0 := H17.out; have h1 := HNA.out; have h2 := HNUM1.out; rw [HTE1.out] at h2; rw [HQE.out, HTE1.out] at hnum; unfold one; rw [h2]; simp only; rw [if_neg (by omega), if_neg (by omega), if_neg (by omega), if_neg (by omega), if_pos hnum])
              have HST := hide (HD.out.trans (dcAt_bad HX.out HOne.out))
              have hE := err_below HE0.out HBu8.out (by omega)
              unfold ErrAt at hE
              have hbad : e = .returned (.tuple #[.int .u64 0, .iface 108 (.pointer (some (E 1)))]) ∨ e = .returned (.tuple #[.int .u64 0, .iface 108 (.pointer (some (E 2)))]) := by
                rcases hout with ⟨h, _⟩ | ⟨_, h⟩ | ⟨_, h⟩
                · exact absurd h hnum
                · exact .inl h
                · exact .inr h
              clear hout hru hnum
              rcases hbad with rfl | rfl
              all_goals
                go_wp2_with fail
                go_quiet (fail)
                go_wp2
                go_ret2
                exact ⟨by rw [DecOut, HST.out] <;> rfl, below_drewN HBu8.out _⟩
          · have HOne := hide (show one op (bs.drop (p + 1)) = none by have h0 := H17.out; have h1 := HNA.out; rw [HTE1.out] at hnum; unfold one; rw [if_neg (by omega), if_neg (by omega), if_pos hnum])
            have HST := hide (HD.out.trans (dcAt_bad HX.out HOne.out))
            have hE := err_below HE0.out HBu6.out (by omega)
            unfold ErrAt at hE
            have hbad : e = .returned (.tuple #[.int .u64 0, .iface 108 (.pointer (some (E 1)))]) ∨ e = .returned (.tuple #[.int .u64 0, .iface 108 (.pointer (some (E 2)))]) := by
              rcases hout with ⟨h, _⟩ | ⟨_, h⟩ | ⟨_, h⟩
              · exact absurd h hnum
              · exact .inl h
              · exact .inr h
            clear hout hru hnum
            rcases hbad with rfl | rfl
            all_goals
              go_wp2_with fail
              go_quiet (fail)
              go_wp2
              go_ret2
              exact ⟨by rw [DecOut, HST.out] <;> rfl, below_drewN HBu6.out _⟩
      · simp only [h17, if_false, decide_false]
        have HOne := hide (show one op (bs.drop (p + 1)) = none by unfold one; rw [if_pos (by omega)])
        have HST := hide (HD.out.trans (dcAt_bad HX.out HOne.out))
        have hE := err_below HE0.out HB4.out (by omega)
        unfold ErrAt at hE
        go_wp2_with fail
        go_quiet (fail)
        go_wp2
        go_ret2
        exact ⟨by rw [DecOut, HST.out] <;> rfl, below_drewN HB4.out _⟩
    · have c1 : ¬ 0 < (bs.length : Int) - p := by omega
      have hd := HD.out.trans (dcAt_end (show bs.length ≤ p by omega))
      have HST := hide hd
      clear hd
      go_wp2_with fail
      go_ret2
      exact ⟨by rw [DecOut, HST.out]; exact ⟨_, rfl, HO2.out⟩, HB2.out⟩
end Go.Proofs.YtbimpoabiafdaaaDoor
