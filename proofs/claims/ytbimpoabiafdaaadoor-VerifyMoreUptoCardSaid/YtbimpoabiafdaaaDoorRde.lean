/- the reference's table, Args, Decode -/
import Derived.Test.YtbimpoabiafdaaaDoorDe
namespace Go.Proofs.YtbimpoabiafdaaaDoor
open Go.RowKit Vf

theorem table_any (w : World) : Calls Tryd.prog 50 #[] w fun e w' => ∃ g, e = .returned (.slice (some ⟨g, 0, none⟩) 17 17) ∧ (∀ k : Nat, k < 17 → w'.cell? ⟨g, k * 2 + 1, none⟩ = some (.int .i64 (nargs k : Nat))) ∧ Below w.heap.size w w' := by
  go_enter Tryd.func50, Tryd.ntmps50
  go_wp2_with fail
  go_ret
  refine ⟨w.heap.size, rfl, fun k hk => ?_, (Below.refl _ _).alloc (Nat.le_refl _) _⟩
  rw [cell_at (heap_new rfl _)]
  have hcs : k = 0 ∨ k = 1 ∨ k = 2 ∨ k = 3 ∨ k = 4 ∨ k = 5 ∨ k = 6 ∨ k = 7 ∨ k = 8 ∨ k = 9 ∨ k = 10 ∨ k = 11 ∨ k = 12 ∨ k = 13 ∨ k = 14 ∨ k = 15 ∨ k = 16 := by omega
  rcases hcs with rfl | rfl | rfl | rfl | rfl | rfl | rfl | rfl | rfl | rfl | rfl | rfl | rfl | rfl | rfl | rfl | rfl <;> rfl
theorem ref_args_any (w : World) (op : Nat) (ho : op < 256) :
    Calls Tryd.prog 40 #[.int .i64 op] w fun e w' => e = .returned (.tuple #[.int .i64 (if op < 17 then nargs op else 0 : Nat), .bool (decide (op < 17))]) ∧ Below w.heap.size w w' := by
  by_cases h : op < 17
  · have e1 : (op : Int) < 17 := by omega
    have e2 : ¬ 17 ≤ (op : Int) := by omega
    rw [if_pos h]
    have H17 := hide h
    simp only [h, decide_true]
    obtain ⟨na, hna⟩ : ∃ na, nargs op = na := ⟨_, rfl⟩
    rw [hna]
    have HNA := hide hna
    clear hna
    go_enter Tryd.func40, Tryd.ntmps40
    go_wp2_with fail
    refine (table_any w).mono ?_
    rintro e w1 ⟨g, rfl, hc, hb⟩
    have hz := hc op H17.out
    rw [HNA.out] at hz
    have HB := hide hb
    clear hc hb
    go_wp2_with fail
    go_ret2
    exact ⟨rfl, HB.out⟩
  · rw [if_neg h]
    simp only [h, decide_false]
    have e1 : 17 ≤ (op : Int) := by omega
    go_enter Tryd.func40, Tryd.ntmps40
    go_wp2_with fail
    refine (table_any w).mono ?_
    rintro e w1 ⟨g, rfl, hc, hb⟩
    have HB := hide hb
    clear hc hb
    go_wp2_with fail
    go_ret2
    exact ⟨rfl, HB.out⟩
/-- what the reference's Decode answers -/
def RefDecOut (B : Nat) (bs : List Nat) (e : Ending) (w' : World) : Prop :=
  match dc bs with
  | none => e = .returned (.tuple #[.slice none 0 0, .int .i64 21])
  | some c => ∃ v, e = .returned (.tuple #[v, .int .i64 0]) ∧ InOwn w' B v c
theorem inown_lit (w : World) (B : Nat) (hB : B ≤ w.heap.size) : InOwn (w.alloc (.cells #[] 56)) B (.slice (some ⟨w.heap.size, 0, none⟩) 0 0) [] := by
  have h := World.ownsRow_lit (base := B) (e := 56) (size := 3) w #[] 0 hB (by simp [maxLen]) (by simp)
  exact h
set_option maxRecDepth 100000 in
set_option maxHeartbeats 4000000 in
theorem ref_decode_any (w : World) (v : Value) (bs : List Nat) (hs : Src w v bs) (hl : bs.length ≤ 1099511627776) :
    Calls Tryd.prog 24 #[v] w fun e w' => RefDecOut w.heap.size bs e w' ∧ Below w.heap.size w w' := by
  obtain ⟨ao, cap, rfl⟩ := src_form hs
  have HS := hide hs
  clear hs
  go_enter Tryd.func24, Tryd.ntmps24
  go_wp2_with fail
  have hq0 := (Below.refl w.heap.size w).alloc (Nat.le_refl _) (.cells #[] 56)
  have HO0 := hide (inown_lit w w.heap.size (Nat.le_refl _))
  have HB0 := hide hq0
  clear hq0
  go_loopw [4, 5] (fun s c wr => ∃ (p : Nat) (acc : List Ins), c = .int .i64 p ∧ p ≤ bs.length ∧ acc.length ≤ p ∧ dc bs = dcAt bs p acc ∧ InOwn wr w.heap.size s acc ∧ Below w.heap.size w wr) (fun _ c _ => bs.length - (intOf c).toNat)
  case atStart => exact ⟨0, [], rfl, by omega, by simp, (dcAt_start bs).symm, HO0.out, HB0.out⟩
  case round =>
    obtain ⟨p, acc, rfl, hp, hap, hdc, ho, hb⟩ := hrel
    obtain ⟨ao4, cap4, rfl⟩ := row_shape ho
    have HD := hide hdc
    have HO2 := hide ho
    have HB2 := hide hb
    have HS2 := hide (src_keep HS.out hb)
    have hs2 := hb.size
    clear hdc ho hb HO0 HB0
    by_cases hlt : p < bs.length
    · obtain ⟨op, hx⟩ : ∃ x, bs[p]? = some x := ⟨_, List.getElem?_eq_getElem hlt⟩
      have hop := HS2.out.1 op (List.mem_of_getElem? hx)
      obtain ⟨ad, rfl, hxc⟩ := src_cell HS2.out hx
      obtain ⟨q, hq1⟩ : ∃ q, p + 1 = q := ⟨_, rfl⟩
      have hw1 : IntKind.i64.wrap ((p : Int) + 1) = (q : Int) := by rw [IntKind.wrap_i64]; omega
      have HQ := hide hq1
      have c1 : (p : Int) < bs.length := by omega
      have HX := hide hx
      clear hx hq1
      go_wp2_with fail
      have hX := heap_new (w := wr) rfl (.cells #[.int .i64 op, .int .u64 0, .int .u64 0] 56)
      have hq := (Below.refl wr.heap.size wr).alloc (Nat.le_refl _) (.cells #[.int .i64 op, .int .u64 0, .int .u64 0] 56)
      have HO4 := hide (inown_keep HO2.out hq)
      have HB4 := hide (HB2.out.trans (hq.mono hs2))
      have hs4 := HB4.out.size
      have HNE0 := inown_lt HO2.out
      clear hq HO2 HB2 HS2
      generalize wr.alloc (.cells #[.int .i64 op, .int .u64 0, .int .u64 0] 56) = w4 at hX HO4 HB4 hs4 ⊢
      generalize wr.heap.size = X at hX hs2 HNE0 ⊢
      refine (ref_args_any w4 op hop).mono ?_
      rintro e w5 ⟨rfl, hb5⟩
      have HO5 := hide (inown_keep HO4.out hb5)
      have HX5 := hide (keepTy_below hb5 56 _ _ _ hX)
      have HB5 := hide (HB4.out.trans (hb5.mono hs4))
      have hs5 := HB5.out.size
      clear hb5 hX HO4 HB4 hs4
      obtain ⟨x0, x1, x2, f0, f1, f2⟩ := cells3_of HX5.out
      by_cases h17 : op < 17
      · simp only [h17, if_true, decide_true]
        have H17 := hide h17
        have HNE := hide HNE0
        clear h17 HNE0
        have HLP := hide (show q ≤ bs.length by have := HQ.out; omega)
        rcases nargs_le op with hn | hn | hn
        · have HOne := hide (show one op (bs.drop (p + 1)) = some ((op, 0, 0), 0) by have := H17.out; unfold one; rw [if_neg (by omega), if_pos hn])
          rw [hn]
          have HST := hide (HD.out.trans (dcAt_step HX.out HOne.out))
          have HLE := hide (show p + 1 + 0 ≤ bs.length by omega)
          clear hn
          go_wp2_with fail
          refine wp_loop_rounds 3 ?_
          rw [rounds_succ]
          have hh6 := heap_new (w := w5) rfl (.cells #[.int .i64 op, .int .u64 (0), .int .u64 (0)] 56)
          have hq6 := (Below.refl w5.heap.size w5).alloc (Nat.le_refl _) (.cells #[.int .i64 op, .int .u64 (0), .int .u64 (0)] 56)
          have HH6 := hide hh6
          have HO6 := hide (inown_keep HO5.out hq6)
          have HB6 := hide (HB5.out.trans (hq6.mono hs5))
          have hs6 := HB6.out.size
          clear hh6 hq6
          go_wp2_with (refine append_ins w _ w.heap.size _ _ acc (op, 0, 0) rfl (.tmp 55) (.tmp 57) rfl rfl rfl HO6.out HH6.out (by omega) hs6 HB6.out ?_)
          intro v7 w7 ho7 hb7 hk7
          have HO7 := hide ho7
          have HB7 := hide hb7
          obtain ⟨ao7, cap7, rfl⟩ := row_shape ho7
          clear ho7 hb7 hk7
          have HPE := hide (show q = p + 1 + (0) by have := HQ.out; omega)
          go_wp2_with fail
          refine ⟨⟨q, _, rfl, by have := HLE.out; have := HPE.out; omega, by have := HPE.out; simp; omega, by rw [HPE.out]; exact HST.out, HO7.out, HB7.out⟩, ?_⟩
          have := HPE.out
          have := HLE.out
          simp [intOf]
          omega
        · rw [hn]
          have HNA := hide hn
          obtain ⟨t1, ht1⟩ : ∃ t, t = bs.drop q := ⟨_, rfl⟩
          have HTE1 := hide ht1
          have HLP1 := HLP
          clear hn ht1
          go_wp2_with fail
          refine wp_loop_rounds 3 ?_
          rw [rounds_succ]
          go_wp2_with fail
          refine (get_uvarint w5 _ bs t1 q HTE1.out HLP1.out (src_keep HS.out HB5.out) (by omega)).mono ?_
          rintro e wz ⟨hout, rfl⟩
          by_cases hnum : (Nm.num 10 0 t1).2 = 0
          · obtain ⟨n1, hn⟩ : ∃ n, (Nm.num 10 0 t1).1 = n := ⟨_, rfl⟩
            obtain ⟨m1, hvn⟩ : ∃ v, Nm.val (t1.take n1) = v := ⟨_, rfl⟩
            have hnum2 : Nm.num 10 0 t1 = (n1, 0) := Prod.ext hn hnum
            have HNUM1 := hide hnum2
            have HVAL1 := hide hvn
            obtain ⟨q1, hnp⟩ : ∃ x, q + n1 = x := ⟨_, rfl⟩
            have HNP1 := hide hnp
            rw [GetOut, hn, hvn] at hout
            have hout2 : e = .returned (.tuple #[.int .u64 (m1 : Nat), .int .i64 q1, .int .i64 0]) := by
              rcases hout with ⟨_, h⟩ | ⟨h, _⟩
              · rw [h, ← hnp, Int.natCast_add]
              · omega
            have hnl := (Nm.num_ok (by omega) hnum2).2.2.1
            have HNL1 := hide hnl
            subst hout2
            clear hout hnum hn hvn hnum2 hnl hnp
            have hXv := heap_set (i := 1) HX5.out (.int .u64 (m1 : Nat))
            have HO6 := hide (show InOwn (w5.setCell ⟨X, 1, none⟩ (.int .u64 (m1 : Nat))) _ _ _ from ownsRow_setCell_other HO5.out HNE.out _)
            have HB6 := hide (below_set (i := 1) HB5.out hs2 (.int .u64 (m1 : Nat)))
            have hs6 := HB6.out.size
            go_wp2_with fail
            generalize w5.setCell ⟨X, 1, none⟩ (.int .u64 (m1 : Nat)) = w6 at hXv HO6 HB6 hs6 ⊢
            clear x0 x1 x2 f0 f1 f2
            have HX6 := hide (show w6.heap[X]? = some (.cells #[.int .i64 op, .int .u64 ((m1 : Nat)), .int .u64 (0)] 56 (0, 0)) from by simpa using hXv)
            clear hXv
            obtain ⟨x0, x1, x2, f0, f1, f2⟩ := cells3_of HX6.out
            have HOne := hide (show one op (bs.drop (p + 1)) = some ((op, m1, 0), n1) by have := H17.out; have h6 := HNA.out; have h2 := HNUM1.out; rw [HTE1.out, ← HQ.out] at h2; have h3 := HVAL1.out; rw [HTE1.out, ← HQ.out] at h3; unfold one; rw [h2]; simp only; rw [if_neg (by omega), if_neg (by omega), if_neg (by omega), if_pos HNA.out, h3])
            have HST := hide (HD.out.trans (dcAt_step HX.out HOne.out))
            have HLE := hide (show p + 1 + n1 ≤ bs.length by have := HNL1.out; rw [HTE1.out, List.length_drop] at this; have := HLP.out; have := HQ.out; omega)
            rw [rounds_succ]
            have hh6 := heap_new (w := w6) rfl (.cells #[.int .i64 op, .int .u64 ((m1 : Nat)), .int .u64 (0)] 56)
            have hq6 := (Below.refl w6.heap.size w6).alloc (Nat.le_refl _) (.cells #[.int .i64 op, .int .u64 ((m1 : Nat)), .int .u64 (0)] 56)
            have HH6 := hide hh6
            have HO6 := hide (inown_keep HO6.out hq6)
            have HB6 := hide (HB6.out.trans (hq6.mono hs6))
            have hs6 := HB6.out.size
            clear hh6 hq6
            go_wp2_with (refine append_ins w _ w.heap.size _ _ acc (op, m1, 0) rfl (.tmp 55) (.tmp 57) rfl rfl rfl HO6.out HH6.out (by omega) hs6 HB6.out ?_)
            intro v7 w7 ho7 hb7 hk7
            have HO7 := hide ho7
            have HB7 := hide hb7
            obtain ⟨ao7, cap7, rfl⟩ := row_shape ho7
            clear ho7 hb7 hk7
            have HPE := hide (show q1 = p + 1 + (n1) by have := HQ.out; have := HNP1.out; omega)
            go_wp2_with fail
            refine ⟨⟨q1, _, rfl, by have := HLE.out; have := HPE.out; omega, by have := HPE.out; simp; omega, by rw [HPE.out]; exact HST.out, HO7.out, HB7.out⟩, ?_⟩
            have := HPE.out
            have := HLE.out
            simp [intOf]
            omega
          · have HOne := hide (show one op (bs.drop (p + 1)) = none by have h0 := H17.out; have h1 := HNA.out; rw [HTE1.out, ← HQ.out] at hnum; unfold one; rw [if_neg (by omega), if_neg (by omega), if_pos hnum])
            have HST := hide (HD.out.trans (dcAt_bad HX.out HOne.out))
            obtain ⟨en, hen⟩ : ∃ en, (Nm.num 10 0 t1).2 = en := ⟨_, rfl⟩
            rw [GetOut, hen] at hout
            rw [hen] at hnum
            have hout2 : e = .returned (.tuple #[.int .u64 0, .int .i64 q, .int .i64 (en : Nat)]) := by
              rcases hout with ⟨h, _⟩ | ⟨_, h⟩
              · omega
              · exact h
            have e7 : ((en : Int) == 0) = false := by simp; omega
            have e8 : ((en : Int) = 0) = False := by simp; omega
            subst hout2
            clear hout hnum hen
            go_wp2_with fail
            go_ret2
            exact ⟨by rw [RefDecOut, HST.out] <;> rfl, HB5.out⟩
        · rw [hn]
          have HNA := hide hn
          obtain ⟨t1, ht1⟩ : ∃ t, t = bs.drop q := ⟨_, rfl⟩
          have HTE1 := hide ht1
          have HLP1 := HLP
          clear hn ht1
          go_wp2_with fail
          refine wp_loop_rounds 3 ?_
          rw [rounds_succ]
          go_wp2_with fail
          refine (get_uvarint w5 _ bs t1 q HTE1.out HLP1.out (src_keep HS.out HB5.out) (by omega)).mono ?_
          rintro e wz ⟨hout, rfl⟩
          by_cases hnum : (Nm.num 10 0 t1).2 = 0
          · obtain ⟨n1, hn⟩ : ∃ n, (Nm.num 10 0 t1).1 = n := ⟨_, rfl⟩
            obtain ⟨m1, hvn⟩ : ∃ v, Nm.val (t1.take n1) = v := ⟨_, rfl⟩
            have hnum2 : Nm.num 10 0 t1 = (n1, 0) := Prod.ext hn hnum
            have HNUM1 := hide hnum2
            have HVAL1 := hide hvn
            obtain ⟨q1, hnp⟩ : ∃ x, q + n1 = x := ⟨_, rfl⟩
            have HNP1 := hide hnp
            rw [GetOut, hn, hvn] at hout
            have hout2 : e = .returned (.tuple #[.int .u64 (m1 : Nat), .int .i64 q1, .int .i64 0]) := by
              rcases hout with ⟨_, h⟩ | ⟨h, _⟩
              · rw [h, ← hnp, Int.natCast_add]
              · omega
            have hnl := (Nm.num_ok (by omega) hnum2).2.2.1
            have HNL1 := hide hnl
            subst hout2
            clear hout hnum hn hvn hnum2 hnl hnp
            have hXv := heap_set (i := 1) HX5.out (.int .u64 (m1 : Nat))
            have HO6 := hide (show InOwn (w5.setCell ⟨X, 1, none⟩ (.int .u64 (m1 : Nat))) _ _ _ from ownsRow_setCell_other HO5.out HNE.out _)
            have HB6 := hide (below_set (i := 1) HB5.out hs2 (.int .u64 (m1 : Nat)))
            have hs6 := HB6.out.size
            go_wp2_with fail
            generalize w5.setCell ⟨X, 1, none⟩ (.int .u64 (m1 : Nat)) = w6 at hXv HO6 HB6 hs6 ⊢
            clear x0 x1 x2 f0 f1 f2
            have HX6 := hide (show w6.heap[X]? = some (.cells #[.int .i64 op, .int .u64 ((m1 : Nat)), .int .u64 (0)] 56 (0, 0)) from by simpa using hXv)
            clear hXv
            obtain ⟨x0, x1, x2, f0, f1, f2⟩ := cells3_of HX6.out
            have HLP2 := hide (show q1 ≤ bs.length by have := HNL1.out; rw [HTE1.out, List.length_drop] at this; have := HLP.out; have := HNP1.out; omega)
            obtain ⟨t2, ht2⟩ : ∃ t, t = bs.drop q1 := ⟨_, rfl⟩
            have HTE2 := hide ht2
            have HQE := hide (show t2 = t1.drop n1 by rw [ht2, HTE1.out, List.drop_drop, HNP1.out])
            clear ht2
            rw [rounds_succ]
            go_wp2_with fail
            refine (get_uvarint w6 _ bs t2 q1 HTE2.out HLP2.out (src_keep HS.out HB6.out) (by omega)).mono ?_
            rintro e wz ⟨hout, rfl⟩
            by_cases hnum : (Nm.num 10 0 t2).2 = 0
            · obtain ⟨n2, hn⟩ : ∃ n, (Nm.num 10 0 t2).1 = n := ⟨_, rfl⟩
              obtain ⟨m2, hvn⟩ : ∃ v, Nm.val (t2.take n2) = v := ⟨_, rfl⟩
              have hnum2 : Nm.num 10 0 t2 = (n2, 0) := Prod.ext hn hnum
              have HNUM2 := hide hnum2
              have HVAL2 := hide hvn
              obtain ⟨q2, hnp⟩ : ∃ x, q1 + n2 = x := ⟨_, rfl⟩
              have HNP2 := hide hnp
              rw [GetOut, hn, hvn] at hout
              have hout2 : e = .returned (.tuple #[.int .u64 (m2 : Nat), .int .i64 q2, .int .i64 0]) := by
                rcases hout with ⟨_, h⟩ | ⟨h, _⟩
                · rw [h, ← hnp, Int.natCast_add]
                · omega
              have hnl := (Nm.num_ok (by omega) hnum2).2.2.1
              have HNL2 := hide hnl
              subst hout2
              clear hout hnum hn hvn hnum2 hnl hnp
              have hXv := heap_set (i := 2) HX6.out (.int .u64 (m2 : Nat))
              have HO8 := hide (show InOwn (w6.setCell ⟨X, 2, none⟩ (.int .u64 (m2 : Nat))) _ _ _ from ownsRow_setCell_other HO6.out HNE.out _)
              have HB8 := hide (below_set (i := 2) HB6.out hs2 (.int .u64 (m2 : Nat)))
              have hs8 := HB8.out.size
              go_wp2_with fail
              generalize w6.setCell ⟨X, 2, none⟩ (.int .u64 (m2 : Nat)) = w8 at hXv HO8 HB8 hs8 ⊢
              clear x0 x1 x2 f0 f1 f2
              have HX8 := hide (show w8.heap[X]? = some (.cells #[.int .i64 op, .int .u64 ((m1 : Nat)), .int .u64 ((m2 : Nat))] 56 (0, 0)) from by simpa using hXv)
              clear hXv
              obtain ⟨x0, x1, x2, f0, f1, f2⟩ := cells3_of HX8.out
              have HOne := hide (show one op (bs.drop (p + 1)) = some ((op, m1, m2), n1 + n2) by have := H17.out; have h2 := HNUM1.out; rw [HTE1.out, ← HQ.out] at h2; have h3 := HVAL1.out; rw [HTE1.out, ← HQ.out] at h3; have h4 := HNUM2.out; rw [HQE.out, HTE1.out, ← HQ.out] at h4; have h5 := HVAL2.out; rw [HQE.out, HTE1.out, ← HQ.out] at h5; have h6 := HNA.out; unfold one; rw [h2]; simp only; rw [h4]; simp only; rw [if_neg (by omega), if_neg (by omega), if_neg (by omega), if_neg (by omega), if_neg (by omega), h3, h5])
              have HST := hide (HD.out.trans (dcAt_step HX.out HOne.out))
              have HLE := hide (show p + 1 + (n1 + n2) ≤ bs.length by have := HNL2.out; rw [HTE2.out, List.length_drop] at this; have := HLP2.out; have := HQ.out; have := HNP1.out; omega)
              rw [rounds_succ]
              have hh6 := heap_new (w := w8) rfl (.cells #[.int .i64 op, .int .u64 ((m1 : Nat)), .int .u64 ((m2 : Nat))] 56)
              have hq6 := (Below.refl w8.heap.size w8).alloc (Nat.le_refl _) (.cells #[.int .i64 op, .int .u64 ((m1 : Nat)), .int .u64 ((m2 : Nat))] 56)
              have HH6 := hide hh6
              have HO6 := hide (inown_keep HO8.out hq6)
              have HB6 := hide (HB8.out.trans (hq6.mono hs8))
              have hs6 := HB6.out.size
              clear hh6 hq6
              go_wp2_with (refine append_ins w _ w.heap.size _ _ acc (op, m1, m2) rfl (.tmp 55) (.tmp 57) rfl rfl rfl HO6.out HH6.out (by omega) hs6 HB6.out ?_)
              intro v7 w7 ho7 hb7 hk7
              have HO7 := hide ho7
              have HB7 := hide hb7
              obtain ⟨ao7, cap7, rfl⟩ := row_shape ho7
              clear ho7 hb7 hk7
              have HPE := hide (show q2 = p + 1 + (n1 + n2) by have := HQ.out; have := HNP1.out; have := HNP2.out; omega)
              go_wp2_with fail
              refine ⟨⟨q2, _, rfl, by have := HLE.out; have := HPE.out; omega, by have := HPE.out; simp; omega, by rw [HPE.out]; exact HST.out, HO7.out, HB7.out⟩, ?_⟩
              have := HPE.out
              have := HLE.out
              simp [intOf]
              omega
            · have HOne := hide (show one op (bs.drop (p + 1)) = none by have h0 := H17.out; have h1 := HNA.out; have h2 := HNUM1.out; rw [HTE1.out, ← HQ.out] at h2; rw [HQE.out, HTE1.out, ← HQ.out] at hnum; unfold one; rw [h2]; simp only; rw [if_neg (by omega), if_neg (by omega), if_neg (by omega), if_neg (by omega), if_pos hnum])
              have HST := hide (HD.out.trans (dcAt_bad HX.out HOne.out))
              obtain ⟨en, hen⟩ : ∃ en, (Nm.num 10 0 t2).2 = en := ⟨_, rfl⟩
              rw [GetOut, hen] at hout
              rw [hen] at hnum
              have hout2 : e = .returned (.tuple #[.int .u64 0, .int .i64 q1, .int .i64 (en : Nat)]) := by
                rcases hout with ⟨h, _⟩ | ⟨_, h⟩
                · omega
                · exact h
              have e7 : ((en : Int) == 0) = false := by simp; omega
              have e8 : ((en : Int) = 0) = False := by simp; omega
              subst hout2
              clear hout hnum hen
              go_wp2_with fail
              go_ret2
              exact ⟨by rw [RefDecOut, HST.out] <;> rfl, HB6.out⟩
          · have HOne := hide (show one op (bs.drop (p + 1)) = none by have h0 := H17.out; have h1 := HNA.out; rw [HTE1.out, ← HQ.out] at hnum; unfold one; rw [if_neg (by omega), if_neg (by omega), if_pos hnum])
            have HST := hide (HD.out.trans (dcAt_bad HX.out HOne.out))
            obtain ⟨en, hen⟩ : ∃ en, (Nm.num 10 0 t1).2 = en := ⟨_, rfl⟩
            rw [GetOut, hen] at hout
            rw [hen] at hnum
            have hout2 : e = .returned (.tuple #[.int .u64 0, .int .i64 q, .int .i64 (en : Nat)]) := by
              rcases hout with ⟨h, _⟩ | ⟨_, h⟩
              · omega
              · exact h
            have e7 : ((en : Int) == 0) = false := by simp; omega
            have e8 : ((en : Int) = 0) = False := by simp; omega
            subst hout2
            clear hout hnum hen
            go_wp2_with fail
            go_ret2
            exact ⟨by rw [RefDecOut, HST.out] <;> rfl, HB5.out⟩
      · simp only [h17, if_false, decide_false]
        have HOne := hide (show one op (bs.drop (p + 1)) = none by unfold one; rw [if_pos (by omega)])
        have HST := hide (HD.out.trans (dcAt_bad HX.out HOne.out))
        go_wp2_with fail
        go_ret2
        exact ⟨by rw [RefDecOut, HST.out] <;> rfl, HB5.out⟩
    · have c1 : ¬ (p : Int) < (bs.length : Int) := by omega
      have HST := hide (HD.out.trans (dcAt_end (show bs.length ≤ p by omega)))
      go_wp2_with fail
      go_ret2
      exact ⟨by rw [RefDecOut, HST.out]; exact ⟨_, rfl, HO2.out⟩, HB2.out⟩
end Go.Proofs.YtbimpoabiafdaaaDoor
