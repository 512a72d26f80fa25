/- the walk of DocsetIters -/
import Derived.Test.YtmkbbekeimnajaaDoorSi
import Derived.Sort.LoopGhostIn
namespace Go.Proofs.YtmkbbekeimnajaaDoor
open Go.RowKit Ds
attribute [local go_sem] Oper.semAt_some
theorem foot_others {X C : World} {S g cap n : Nat} {m : Nat → Bool} (h : SetAt X S g cap n m) (hf : Foot X C (fun k => k = S ∨ k = g)) : KeepsOthers X C :=
  ⟨hf.size, fun k o ho hc => (hf.block k (heap_lt ho) (fun e => by
    obtain ⟨cur, h1, _⟩ := h.ws
    rcases e with rfl | rfl
    · rw [h.hd] at ho; cases ho; cases hc
    · rw [h1] at ho; cases ho; cases hc)).trans ho⟩
theorem foot_same {X C : World} {S g : Nat} {Sk : Nat → Prop} (hf : Foot X C (fun k => k = S ∨ k = g)) (h : ∀ k, Sk k → k ≠ S ∧ k ≠ g) : Same Sk X C :=
  ⟨hf.size, fun k _ hk ho => (hf.block k (heap_lt ho) (fun e => e.elim (h k hk).1 (h k hk).2)).trans ho⟩
theorem cell_same {X : World} {b : Nat} {Sk : Nat → Prop} (v : Value) (h : ∀ k, Sk k → k ≠ b) : Same Sk X (X.setCell ⟨b, 0, none⟩ v) :=
  ⟨by rw [World.size_setCell]; exact Nat.le_refl _, fun _ _ hk ho => heap_else ho (h _ hk) v⟩
theorem same_drewN {X : World} {Sk : Nat → Prop} (q : Nat) : Same Sk X (X.drewN q) := ⟨Nat.le_refl _, fun _ _ _ h => h⟩
theorem others_drewN (X : World) (q : Nat) : KeepsOthers X (X.drewN q) := ⟨Nat.le_refl _, fun _ _ h _ => h⟩
theorem func_nil (v : Value) : ∀ w : World, (binOp .eql 31 (.func (.func 43) #[] #[v]) .nilFunc).run Tryd.prog w = .ok (.bool false) w := by
  intro w
  kernel_rfl
set_option maxRecDepth 100000 in
set_option maxHeartbeats 8000000 in
theorem iters_walk (w : World) (T : DeBr w) (E : Nat → Addr) (hE : Errs w E allErrs) (hg : 25 ≤ w.heap.size) (n : Int) (ao1 : Option Addr) (k1 : Nat) (zs : List Int) (h1 : Ints w (.slice ao1 zs.length k1) zs) (hl1 : zs.length ≤ 1152921504606846976)
    (ao2 : Option Addr) (k2 : Nat) (ys : List Int) (h2 : Ints w (.slice ao2 ys.length k2) ys) (hl2 : ys.length ≤ 1152921504606846976) (stop : Int) :
    Calls Tryd.prog 3 #[.int .i64 n, .slice ao1 zs.length k1, .slice ao2 ys.length k2, .int .i64 stop] w fun e w' => e = .returned (.bool true) ∧ Below w.heap.size w w' := by
  have HT := hide T
  have HE := hide hE
  have H1 := hide h1
  have H2 := hide h2
  clear T hE h1 h2
  refine (callsIn_wide (n := 9)).1 ?_
  refine callsIn_of_wp_marks Tryd.func3 rfl trivial ?_ rfl
  simp only [Tryd.ntmps3, List.size_toArray, List.length_cons, List.length_nil, Nat.reduceAdd, Nat.reduceSub, Array.replicate_succ, Array.replicate_zero, List.push_toArray, List.append_toArray, List.nil_append, List.cons_append]
  refine wpIn_wide.2 ?_
  go_upto_region 1 with (fail)
  have b6 : (((w.alloc (.cells #[.slice ao2 ys.length k2] 22)).alloc (.cells #[.int .i64 stop] 3)).alloc (.cells #[.bool false] 4)).heap[w.heap.size]? = some (.cells #[.slice ao2 ys.length k2] 22 (0, 0)) := heap_old (heap_old (heap_new rfl _) _) _
  have b7 : (((w.alloc (.cells #[.slice ao2 ys.length k2] 22)).alloc (.cells #[.int .i64 stop] 3)).alloc (.cells #[.bool false] 4)).heap[w.heap.size + 1]? = some (.cells #[.int .i64 stop] 3 (0, 0)) := heap_old (heap_new (by rw [World.size_alloc]) _) _
  have b8 : (((w.alloc (.cells #[.slice ao2 ys.length k2] 22)).alloc (.cells #[.int .i64 stop] 3)).alloc (.cells #[.bool false] 4)).heap[w.heap.size + 2]? = some (.cells #[.bool false] 4 (0, 0)) := heap_new (by rw [World.size_alloc, World.size_alloc]) _
  have hb0 : Below w.heap.size w (((w.alloc (.cells #[.slice ao2 ys.length k2] 22)).alloc (.cells #[.int .i64 stop] 3)).alloc (.cells #[.bool false] 4)) := (((Below.refl w.heap.size w).alloc (Nat.le_refl _) _).alloc (by simp) _).alloc (by simp; omega) _
  have z0 : (((w.alloc (.cells #[.slice ao2 ys.length k2] 22)).alloc (.cells #[.int .i64 stop] 3)).alloc (.cells #[.bool false] 4)).heap.size = w.heap.size + 3 := by simp only [World.size_alloc]
  generalize ((w.alloc (.cells #[.slice ao2 ys.length k2] 22)).alloc (.cells #[.int .i64 stop] 3)).alloc (.cells #[.bool false] 4) = w0 at *
  have e8 : w.heap.size + 1 + 1 = w.heap.size + 2 := rfl
  rw [e8]
  obtain ⟨p7, hp7⟩ : ∃ p, w.heap.size + 1 = p := ⟨_, rfl⟩
  obtain ⟨p8, hp8⟩ : ∃ p, w.heap.size + 2 = p := ⟨_, rfl⟩
  rw [hp7] at b7 ⊢
  rw [hp8] at b8 ⊢
  have l7 : w.heap.size < p7 := by omega
  have l8 : p7 < p8 := by omega
  have l9 : p8 < w0.heap.size := by omega
  have HB0 := hide hb0
  have HB6 := hide b6
  have HB7 := hide b7
  have HB8 := hide b8
  clear hb0 b6 b7 b8 z0 e8 hp7 hp8
  have HT0 := hide (debr_below HT.out HB0.out (by omega))
  have HE0 := hide (HE.out.below HB0.out (Nat.le_refl _) (ids_lt hg))
  have HZ0 := hide (ints_keep H1.out HB0.out)
  have zz0 := HB0.out.size
  go_wp2_with fail
  refine (fixed_any w0 E HE0.out HT0.out (by omega)).mono ?_
  rintro e w1 ⟨rfl, hb1⟩
  have HB1 := hide (HB0.out.trans (hb1.mono zz0))
  have HT1 := hide (debr_below HT0.out hb1 (by omega))
  have HZ1 := hide (ints_keep HZ0.out hb1)
  have HER := hide (err_below (HE0.out.cell 0 (by decide)) hb1 (by omega))
  have C6 := hide ((hb1.block _ (heap_lt HB6.out)).trans HB6.out)
  have C7 := hide ((hb1.block _ (heap_lt HB7.out)).trans HB7.out)
  have C8 := hide ((hb1.block _ (heap_lt HB8.out)).trans HB8.out)
  have z1 := HB1.out.size
  have z01 := hb1.size
  clear hb1 HB0 HB6 HB7 HB8 HT0 HE0 HZ0
  go_wp2_with fail
  refine (of_any w1 n ao1 k1 zs HZ1.out hl1 (E 0) HER.out (by omega)).mono ?_
  rintro e w2 ⟨hof, hb2⟩
  have HB2 := hide (HB1.out.trans (hb2.mono z1))
  have HT2 := hide (debr_below HT1.out hb2 (by omega))
  have HER2 := hide (err_below HER.out hb2 (by omega))
  have D6 := hide ((hb2.block _ (heap_lt C6.out)).trans C6.out)
  have D7 := hide ((hb2.block _ (heap_lt C7.out)).trans C7.out)
  have D8 := hide ((hb2.block _ (heap_lt C8.out)).trans C8.out)
  have z2 := HB2.out.size
  have z12 := hb2.size
  clear hb2 HB1 HT1 HZ1 HER C6 C7 C8
  rcases hof with ⟨N, S, g, cap, rfl, hN, hin, rfl, hS, hgg, hs⟩ | ⟨hno, rfl⟩
  · have HS := hide hs
    have hS2 := heap_lt hs.hd
    have hg2 : g < w2.heap.size := by obtain ⟨cur, h, _⟩ := hs.ws; exact heap_lt h
    clear hs hin
    go_upto_region 4 with (fail)
    have b9 : (w2.alloc (.cells #[.pointer (some ⟨S, 0, none⟩)] 24)).heap[w2.heap.size]? = some (.cells #[.pointer (some ⟨S, 0, none⟩)] 24 (0, 0)) := heap_new rfl _
    have hb3 : Below w2.heap.size w2 (w2.alloc (.cells #[.pointer (some ⟨S, 0, none⟩)] 24)) := (Below.refl _ w2).alloc (Nat.le_refl _) _
    generalize w2.alloc (.cells #[.pointer (some ⟨S, 0, none⟩)] 24) = w3 at *
    obtain ⟨p9, hp9⟩ : ∃ p, w2.heap.size = p := ⟨_, rfl⟩
    have HB3 := hide (HB2.out.trans (hb3.mono z2))
    have HT3 := hide (debr_below HT2.out hb3 (by omega))
    have HER3 := hide (err_below HER2.out hb3 (by omega))
    have HS3 := hide (HS.out.keep hb3)
    have F6 := hide ((hb3.block _ (heap_lt D6.out)).trans D6.out)
    have F7 := hide ((hb3.block _ (heap_lt D7.out)).trans D7.out)
    have F8 := hide ((hb3.block _ (heap_lt D8.out)).trans D8.out)
    rw [hp9] at b9 hS2 hg2 ⊢
    have F9 := hide b9
    have z3 := HB3.out.size
    have l10 : p9 < w3.heap.size := heap_lt b9
    have l11 : p8 < p9 := by have := heap_lt D8.out; omega
    clear b9 hb3 D6 D7 D8 HS HT2 HER2 HB2 z12 hp9
    have c9 := cell_of_one F9.out
    go_wp2_with fail
    refine (members_any w3 HS3.out HT3.out (by omega)).mono ?_
    rintro e w4 ⟨v4, rfl, ho4, hb4⟩
    obtain ⟨c, hc⟩ : ∃ c, cnt (mOf zs) N = c := ⟨_, rfl⟩
    have hml : (mI (mOf zs) N).length = c := by rw [mI_len, hc]
    have HML := hide hml
    have hcN := cnt_le (mOf zs) N
    rw [hc] at ho4 hcN
    obtain ⟨a4, k4, rfl⟩ := row_shape ho4
    have HI4 := hide (show Ints w4 (.slice a4 c k4) (mI (mOf zs) N) from ints_own (by rw [hml]; exact ho4))
    have HB4 := hide (HB3.out.trans (hb4.mono z3))
    have HT4 := hide (debr_below HT3.out hb4 (by omega))
    have HER4 := hide (err_below HER3.out hb4 (by omega))
    have HS4 := hide (HS3.out.keep hb4)
    have G6 := hide ((hb4.block _ (heap_lt F6.out)).trans F6.out)
    have G7 := hide ((hb4.block _ (heap_lt F7.out)).trans F7.out)
    have G8 := hide ((hb4.block _ (heap_lt F8.out)).trans F8.out)
    have G9 := hide ((hb4.block _ (heap_lt F9.out)).trans F9.out)
    have HO4 := hide ho4
    have z4 := HB4.out.size
    have z34 := hb4.size
    clear ho4 hb4 c9 hml F6 F7 F8 F9 HS3 HT3 HER3 HB3
    have HCC := hide hc
    clear hc
    go_upto_region 9 with (fail)
    have b11 : (w4.alloc (.cells #[.slice a4 c k4] 22)).heap[w4.heap.size]? = some (.cells #[.slice a4 c k4] 22 (0, 0)) := heap_new rfl _
    have hb5 : Below w4.heap.size w4 (w4.alloc (.cells #[.slice a4 c k4] 22)) := (Below.refl _ w4).alloc (Nat.le_refl _) _
    generalize w4.alloc (.cells #[.slice a4 c k4] 22) = w5 at *
    obtain ⟨p11, hp11⟩ : ∃ p, w4.heap.size = p := ⟨_, rfl⟩
    rw [hp11] at b11 ⊢
    have HB5 := hide (HB4.out.trans (hb5.mono z4))
    have HT5 := hide (debr_below HT4.out hb5 (by omega))
    have HER5 := hide (err_below HER4.out hb5 (by omega))
    have HS5 := hide (HS4.out.keep hb5)
    have HI5 := hide (ints_keep HI4.out hb5)
    have HO5 := hide (row_keepTy HO4.out (keepTy_below hb5 3))
    have hO5' : ∀ k, (Value.slice a4 c k4).ownBlock = some k → k < w5.heap.size := fun k hk => (World.ownsRow.lt HO5.out k hk).2
    have HO5q := hide hO5'
    clear hO5'
    have I6 := hide ((hb5.block _ (heap_lt G6.out)).trans G6.out)
    have I7 := hide ((hb5.block _ (heap_lt G7.out)).trans G7.out)
    have I8 := hide ((hb5.block _ (heap_lt G8.out)).trans G8.out)
    have I9 := hide ((hb5.block _ (heap_lt G9.out)).trans G9.out)
    have I11 := hide b11
    have z5 := HB5.out.size
    have l12 : p11 < w5.heap.size := heap_lt b11
    have l13 : p9 < p11 := by omega
    clear b11 hb5 G6 G7 G8 G9 HS4 HI4 HT4 HER4 HB4 HO4 hp11
    have c9 := cell_of_one I9.out
    go_wp2_with fail
    refine (all_any w5 HS5.out).mono ?_
    rintro e w6 ⟨cc, A, g2, cap2, rfl, hcc, hA, hg22, hcell, hsA, hb6⟩
    have HB6 := hide (HB5.out.trans (hb6.mono z5))
    have HT6 := hide (debr_below HT5.out hb6 (by omega))
    have HER6 := hide (err_below HER5.out hb6 (by omega))
    have HS6 := hide (HS5.out.keep hb6)
    have HI6 := hide (ints_keep HI5.out hb6)
    have HO6 := hide (row_keepTy HO5.out (keepTy_below hb6 3))
    have J6 := hide ((hb6.block _ (heap_lt I6.out)).trans I6.out)
    have J7 := hide ((hb6.block _ (heap_lt I7.out)).trans I7.out)
    have J8 := hide ((hb6.block _ (heap_lt I8.out)).trans I8.out)
    have J9 := hide ((hb6.block _ (heap_lt I9.out)).trans I9.out)
    have J11 := hide ((hb6.block _ (heap_lt I11.out)).trans I11.out)
    have HCL := hide hcell
    have HSA := hide hsA
    have z6 := HB6.out.size
    have z56 := hb6.size
    have l18 : S < w5.heap.size := heap_lt HS5.out.hd
    have l19 : g < w5.heap.size := by obtain ⟨cur, h, _⟩ := HS5.out.ws; exact heap_lt h
    have hA2 := heap_lt hsA.hd
    have hc2 := heap_lt hcell
    have hg23 : g2 < w6.heap.size := by obtain ⟨cur, h, _⟩ := hsA.ws; exact heap_lt h
    clear hb6 hcell hsA c9 I6 I7 I8 I9 I11 HS5 HI5 HT5 HER5 HB5 HO5
    have hnf := func_nil (.pointer (some ⟨cc, 0, none⟩))
    go_upto_region 13 with (fail)
    clear hnf
    have b13 : (w6.alloc (.cells #[.int .i64 0] 3)).heap[w6.heap.size]? = some (.cells #[.int .i64 0] 3 (0, 0)) := heap_new rfl _
    have hb7 : Below w6.heap.size w6 (w6.alloc (.cells #[.int .i64 0] 3)) := (Below.refl _ w6).alloc (Nat.le_refl _) _
    generalize w6.alloc (.cells #[.int .i64 0] 3) = W1 at *
    obtain ⟨p13, hp13⟩ : ∃ p, w6.heap.size = p := ⟨_, rfl⟩
    rw [hp13] at b13 hA2 hc2 hg23 ⊢
    have HB7 := hide (HB6.out.trans (hb7.mono z6))
    have HT7 := hide (debr_below HT6.out hb7 (by omega))
    have HER7 := hide (err_below HER6.out hb7 (by omega))
    have HS7 := hide (HS6.out.keep hb7)
    have HI7 := hide (ints_keep HI6.out hb7)
    have HO7 := hide (row_keepTy HO6.out (keepTy_below hb7 3))
    have K6 := hide ((hb7.block _ (heap_lt J6.out)).trans J6.out)
    have K7 := hide ((hb7.block _ (heap_lt J7.out)).trans J7.out)
    have K8 := hide ((hb7.block _ (heap_lt J8.out)).trans J8.out)
    have K9 := hide ((hb7.block _ (heap_lt J9.out)).trans J9.out)
    have K11 := hide ((hb7.block _ (heap_lt J11.out)).trans J11.out)
    have HCL7 := hide ((hb7.block _ (heap_lt HCL.out)).trans HCL.out)
    have HSA7 := hide (HSA.out.keep hb7)
    have K13 := hide b13
    have z7 := HB7.out.size
    have l14 : p13 < W1.heap.size := heap_lt b13
    have l15 : p11 < p13 := by have := heap_lt J11.out; omega
    have l16 : S < p13 := by have := heap_lt HS6.out.hd; omega
    have l17 : g < p13 := by have h := HS6.out.ws; obtain ⟨cur, h, _⟩ := h; have := heap_lt h; omega
    have e1 : S ≠ p13 := by omega
    have e2 : S ≠ p8 := fun e => by have h := HS7.out.hd; rw [e, K8.out] at h; simp at h
    have e3 : g ≠ p13 := by omega
    have e4 : g ≠ p8 := fun e => by obtain ⟨cur, h, _⟩ := HS7.out.ws; rw [e, K8.out] at h; simp at h
    have e5 : p8 ≠ p13 := by omega
    clear b13 hb7 J6 J7 J8 J9 J11 HS6 HI6 HT6 HER6 HB6 HO6 HCL HSA hp13
    have HSIT := hide (show Sit w W1 W1 S g cap N p13 p8 0 from ⟨HB7.out, Nat.le_refl _, fun _ _ _ _ h _ _ _ _ => h, ⟨_, HS7.out⟩, K13.out, K8.out⟩)
    go_wp2_with fail
    have HX : ∀ (X : World) (k : Nat), Sit w W1 X S g cap N p13 p8 k → X.cell? ⟨w.heap.size, 0, none⟩ = some (.slice ao2 ys.length k2) ∧ X.cell? ⟨p7, 0, none⟩ = some (.int .i64 stop) ∧ X.cell? ⟨p9, 0, none⟩ = some (.pointer (some ⟨S, 0, none⟩)) ∧
        X.cell? ⟨p11, 0, none⟩ = some (.slice a4 c k4) ∧ X.cell? ⟨p13, 0, none⟩ = some (.int .i64 (k : Nat)) ∧ X.frozen? ⟨p13, 0, none⟩ = false ∧ X.frozen? ⟨p8, 0, none⟩ = false ∧ Ints X (.slice a4 c k4) (mI (mOf zs) N) ∧ Ints X (.slice ao2 ys.length k2) ys ∧ ErrAt X 0 (E 0) := by
      intro X k h
      have hSd := HS7.out.hd
      obtain ⟨cur, hgw, _⟩ := HS7.out.ws
      have nS : ∀ {b : Nat} {cs : Array Value} {t : TypeId}, W1.heap[b]? = some (.cells cs t (0, 0)) → t ≠ 82 → b ≠ S := fun hb ht e => by rw [e, hSd] at hb; simp at hb; exact ht hb.2.symm
      have nG : ∀ {b : Nat} {cs : Array Value} {t : TypeId}, W1.heap[b]? = some (.cells cs t (0, 0)) → t ≠ 83 → b ≠ g := fun hb ht e => by rw [e, hgw] at hb; simp at hb; exact ht hb.2.symm
      have n8 : ∀ {b : Nat} {cs : Array Value} {t : TypeId}, W1.heap[b]? = some (.cells cs t (0, 0)) → t ≠ 4 → b ≠ p8 := fun hb ht e => by rw [e, K8.out] at hb; simp at hb; exact ht hb.2.symm
      refine ⟨cell_of_one (h.rest _ _ _ _ K6.out (nS K6.out (by decide)) (nG K6.out (by decide)) (by omega) (by omega)), cell_of_one (h.rest _ _ _ _ K7.out (nS K7.out (by decide)) (nG K7.out (by decide)) (by omega) (by omega)),
        cell_of_one (h.rest _ _ _ _ K9.out (nS K9.out (by decide)) (nG K9.out (by decide)) (by omega) (by omega)), cell_of_one (h.rest _ _ _ _ K11.out (nS K11.out (by decide)) (nG K11.out (by decide)) (by omega) (by omega)),
        cell_of_one h.idx, free_of_one h.idx, free_of_one h.res, ?_, ints_keep H2.out h.below, err_below (HE.out.cell 0 (by decide)) h.below (by omega)⟩
      refine ints_own (B := 0) ?_
      rw [HML.out]
      obtain ⟨hl, ⟨hv, hc0⟩ | ⟨gw, kw, cw, hv, hgw2, hh, hrr⟩⟩ := HO7.out
      · exact ⟨hl, .inl ⟨hv, hc0⟩⟩
      · have hlw : gw < w5.heap.size := by
          have := HO5q.out gw (by rw [hv]; rfl)
          exact this
        exact ⟨hl, .inr ⟨gw, kw, cw, hv, Nat.zero_le _, h.rest _ _ _ _ hh (nS hh (by decide)) (nG hh (by decide)) (by omega) (n8 hh (by decide)), hrr⟩⟩
    have HXX := hide HX
    clear HX HI7 HER7
    obtain ⟨m, hm⟩ : ∃ m, mOf zs = m := ⟨_, rfl⟩
    rw [hm] at HXX HSA7 HML HCC
    have HTE := hide (all_tells (fun k => k = 15 ∨ k = cc ∨ k = A ∨ k = g2) 8 cc A g2 cap2 N m W1 HSA7.out HT7.out HCL7.out (.inl rfl) (.inr (.inl rfl)) (.inr (.inr (.inl rfl))) (.inr (.inr (.inr rfl))))
    have HSK : Hid (∀ k, (k = 15 ∨ k = cc ∨ k = A ∨ k = g2) → k ≠ S ∧ k ≠ g ∧ k ≠ p13 ∧ k < W1.heap.size ∧ k ≠ p8) := hide (by
      have hS5 := l18
      have hg5 := l19
      intro k hk
      rcases hk with rfl | rfl | rfl | rfl <;> exact ⟨by omega, by omega, by omega, by omega, by omega⟩)
    have hwW : w.heap.size ≤ W1.heap.size := z7
    have hw13 : w.heap.size ≤ p13 := by omega
    have hSw : w.heap.size ≤ S := by omega
    have hgw : w.heap.size ≤ g := by omega
    refine (wpIn_wide (n := 9)).1 ?_
    refine range_join (α := Nat) (fr := ?fr) rfl (by omega) (gf := 43) (lb := #[.pointer (some ⟨cc, 0, none⟩)]) rfl trivial (enters_of Tryd.func43 (by kernel_rfl) rfl) (encs := itEnc) (Ok := itAt (Ds.mem m N)) (Sa := fun xs => xs = Ds.mem m N) (Sp := fun pre => ∃ k, k < cnt m N ∧ pre = (Ds.mem m N).take (k + 1)) (S := fun k => k = 15 ∨ k = cc ∨ k = A ∨ k = g2) HTE.out
      (fun k hk => (HSK.out k hk).2.2.2.1) (fun _ => rfl)
      (fun pre X => Sit w W1 X S g cap N p13 p8 pre.length) (fun pre X => Sit w W1 X S g cap N p13 p8 pre.length ∧ 0 < stop) (fun pre x X => Sit w W1 X S g cap N p13 p8 pre.length ∧ (Ds.mem m N)[pre.length]? = some x)
      (fun X => ∃ k, Sit w W1 X S g cap N p13 p8 k ∧ (stop ≤ 0 → k = c)) ?hI ?hIx ?hT HSIT.out ?assign ?body ?done ?stop ?after
    case hI =>
      rintro pre A C row h hgr hr
      exact h.grown hwW hgr hr
    case hIx =>
      rintro pre A C row ⟨h, h1⟩ hgr hr
      exact ⟨h.grown hwW hgr hr, h1⟩
    case hT =>
      rintro ⟨pre, x⟩ A C row ⟨h, h1⟩ hgr hr
      exact ⟨h.grown hwW hgr hr, h1⟩
    case done =>
      rintro xs X rfl h
      exact ⟨_, h, fun _ => HCC.out⟩
    case stop =>
      rintro pre X _ ⟨h, h1⟩
      exact ⟨_, h, fun h2 => by omega⟩
    case assign =>
      rintro l pre x A C K' h hb hok hzA hK'
      have hK2 := hide (hK' C (KeepsFrom.refl _ _) (Same.refl _ _) ⟨h.later hb, hok⟩)
      clear hK' hok
      dsimp only [itEnc]
      gi_wp2_with fail
      exact hK2.out
    case body =>
      rintro l pre x X ⟨h, hx⟩
      obtain ⟨c6, c7, c9, c11, c13, f13, f8, hiw, hip, her⟩ := HXX.out X _ h
      have HSX := hide h
      obtain ⟨hxn, hmx, hcx⟩ := (mem_get m N pre.length x).1 hx
      have hlc : pre.length < c := by have h1 := get_lt' hx; have h2 := HCC.out; unfold cnt at h2; omega
      obtain ⟨ad4, rfl, hcw⟩ := ints_get hiw (i := pre.length) (x := (x : Int)) (by unfold mI; rw [List.getElem?_map, hx]; rfl)
      have HIP := hide hip
      have HER := hide her
      have hlen : (pre ++ [x]).length = pre.length + 1 := by simp
      have HLEN := hide hlen
      obtain ⟨at_, hat⟩ : ∃ at_, pre.length = at_ := ⟨_, rfl⟩
      rw [hat] at HSX hlc hcw c13 HLEN
      have hlci : (at_ : Int) < (c : Int) := by omega
      have hca : ¬ (c : Int) ≤ (at_ : Int) := by omega
      have hwa : IntKind.i64.wrap ((at_ : Int) + 1) = ((at_ + 1 : Nat) : Int) := by rw [IntKind.wrap_i64]; omega
      clear h hx hmx hcx hiw hip her hlen hat
      by_cases hp : at_ < ys.length
      · obtain ⟨z, hz⟩ : ∃ z, ys[at_]? = some z := ⟨_, List.getElem?_eq_getElem hp⟩
        have HZ := hide hz
        have hpi : (at_ : Int) < (ys.length : Int) := by omega
        obtain ⟨mx, hmx⟩ := HSX.out.set
        have HSX1 := hide hmx
        clear hz hmx
        gi_wp2_with fail
        refine ⟨trivial, CallsIn.inRound _ ((callsIn_wide.2 (rem_is X HSX1.out (x : Int) (E 0) HER.out)).mono ?_)⟩
        rintro e X2 ⟨⟨v2, rfl⟩, ⟨m2, hm2⟩, hf2⟩
        have HF2 := hide hf2
        have HSX2 := hide hm2
        have HST2 := hide (HSX.out.foot hm2 hf2 hSw hgw e1 e2 e3 e4)
        clear hf2 hm2 c6 c7 c9 c11 c13 f13 f8 hcw
        obtain ⟨c6, c7, c9, c11, c13, f13, f8, hiw, hip, her⟩ := HXX.out X2 _ HST2.out
        obtain ⟨ad2, rfl, hcz⟩ := ints_get hip HZ.out
        have HERX := hide (err_below her (below_drewN (Below.refl X2.heap.size X2) 1) (by have := HST2.out.below.size; omega))
        have HAD := hide (add_is X2.drew (HSX2.out.keep (below_drewN (Below.refl _ _) 1)) z (E 0) HERX.out)
        clear hiw hip her
        gi_wp2_with fail
        refine region_still_round 5 (by rintro ⟨a, w, h⟩; exact h) (by kernel_rfl) (by kernel_rfl) (by kernel_rfl) ?_
        simp only [List.take_succ_cons, List.take_zero, List.drop_succ_cons, List.drop_zero]
        repeat still_step
        refine wpStill_nil ?_
        go_wp2_with fail
        refine HAD.out.mono ?_
        rintro e X3 ⟨⟨v3, rfl⟩, ⟨m3, hm3⟩, hf3⟩
        go_wp2_with fail
        have HF3 := hide hf3
        have HST3 := hide ((HST2.out.drew 1).foot hm3 hf3 hSw hgw e1 e2 e3 e4)
        have HKO3 := hide ((foot_others HSX1.out HF2.out).trans ((others_drewN X2 1).trans (foot_others (HSX2.out.keep (below_drewN (Below.refl _ _) 1)) hf3)))
        have HSM3 := hide ((foot_same (Sk := fun k => k = 15 ∨ k = cc ∨ k = A ∨ k = g2) HF2.out (fun k hk => ⟨(HSK.out k hk).1, (HSK.out k hk).2.1⟩)).trans ((same_drewN 1).trans (foot_same hf3 (fun k hk => ⟨(HSK.out k hk).1, (HSK.out k hk).2.1⟩))))
        clear hm3 hf3 c6 c7 c9 c11 c13 f13 f8 hcz HAD HERX
        obtain ⟨c6, c7, c9, c11, c13, f13, f8, _, _, _⟩ := HXX.out X3 _ HST3.out
        have HST := HST3.out.step (at_ + 1) e1 e3 e5 hw13
        have HS2 := hide (show Sit w W1 (X3.setCell ⟨p13, 0, none⟩ (.int .i64 ((at_ + 1 : Nat) : Int))) S g cap N p13 p8 (pre ++ [x]).length from by rw [HLEN.out]; exact HST)
        have HKO := hide (HKO3.out.trans (KeepsOthers.setCell X3 ⟨p13, 0, none⟩ (.int .i64 ((at_ + 1 : Nat) : Int))))
        have HSM := hide (HSM3.out.trans (cell_same (X := X3) (b := p13) (Sk := fun k => k = 15 ∨ k = cc ∨ k = A ∨ k = g2) (.int .i64 ((at_ + 1 : Nat) : Int)) (fun k hk => (HSK.out k hk).2.2.1)))
        clear HST
        by_cases hst : stop = ((at_ + 1 : Nat) : Int)
        · have hs0 : 0 < stop := by omega
          have HS0 := hide hs0
          subst hst
          clear hs0
          gi_wp2_with fail
          first | exact ⟨HKO.out.from _, rfl, HS2.out⟩ | exact ⟨HKO.out.from _, rfl, HS2.out, HS0.out⟩
        · have hs1 : (((at_ + 1 : Nat) : Int) == stop) = false := by simp; omega
          gi_wp2_with fail
          exact ⟨HKO.out.from _, HSM.out, HS2.out⟩
      · have hpi : ¬ (at_ : Int) < (ys.length : Int) := by omega
        have HST := HSX.out.step (at_ + 1) e1 e3 e5 hw13
        have HS2 := hide (show Sit w W1 (X.setCell ⟨p13, 0, none⟩ (.int .i64 ((at_ + 1 : Nat) : Int))) S g cap N p13 p8 (pre ++ [x]).length from by rw [HLEN.out]; exact HST)
        have HKO := hide (KeepsOthers.setCell X ⟨p13, 0, none⟩ (.int .i64 ((at_ + 1 : Nat) : Int)))
        have HSM := hide (cell_same (X := X) (b := p13) (Sk := fun k => k = 15 ∨ k = cc ∨ k = A ∨ k = g2) (.int .i64 ((at_ + 1 : Nat) : Int)) (fun k hk => (HSK.out k hk).2.2.1))
        clear HST
        by_cases hst : stop = ((at_ + 1 : Nat) : Int)
        · have hs0 : 0 < stop := by omega
          have HS0 := hide hs0
          subst hst
          clear hs0
          gi_wp2_with fail
          first | exact ⟨HKO.out.from _, rfl, HS2.out⟩ | exact ⟨HKO.out.from _, rfl, HS2.out, HS0.out⟩
        · have hs1 : (((at_ + 1 : Nat) : Int) == stop) = false := by simp; omega
          gi_wp2_with fail
          exact ⟨HKO.out.from _, HSM.out, HS2.out⟩
    case after =>
      rintro D X hD ⟨k, h, hk⟩ hd
      obtain ⟨c6, c7, c9, c11, c13, f13, f8, hiw, hip, her⟩ := HXX.out X _ h
      have HSX := hide h
      have HDX := hide hd
      clear h hd hiw hip her HTE
      have hkc : ¬ stop ≤ 0 ∨ (stop ≤ 0 ∧ k = c) := by
        by_cases h : stop ≤ 0
        · exact .inr ⟨h, hk h⟩
        · exact .inl h
      clear hk
      have hww : ∀ q, Fence.wide.depth.isSome = true → 1 ≤ q := fun q h => by cases h
      have hDW : W1.heap.size ≤ D := hD
      rcases hkc with hst | ⟨hst, hkc2⟩
      · go_upto_region 24 with (fail)
        go_wp2_with fail
        clear c6 c7 c9 c11 c13 f13 f8
        go_loopw [80] (fun j wr => ∃ i : Nat, j = .int .i64 (i : Nat) ∧ i ≤ ys.length ∧ Sit w W1 wr S g cap N p13 p8 k ∧ wr.heap[D]? = some (.deferred (some []))) (fun j _ => ys.length - (intOf j).toNat)
        case atStart => exact ⟨0, rfl, Nat.zero_le _, HSX.out, HDX.out⟩
        case round =>
          obtain ⟨i, rfl, hi, hs, hd⟩ := hrel
          obtain ⟨c6, c7, c9, c11, c13, f13, f8, hiw, hip, her⟩ := HXX.out wr _ hs
          have HSr := hide hs
          have HDr := hide hd
          have HIP := hide hip
          have HER := hide her
          clear hs hd hiw hip her
          by_cases hlt : i < ys.length
          · obtain ⟨z, hz⟩ : ∃ z, ys[i]? = some z := ⟨_, List.getElem?_eq_getElem hlt⟩
            obtain ⟨ad2, rfl, hcz⟩ := ints_get HIP.out hz
            have hii : (i : Int) < (ys.length : Int) := by omega
            obtain ⟨mx, hmx⟩ := HSr.out.set
            have HSX1 := hide hmx
            have HAD := hide (add_is wr hmx z (E 0) HER.out)
            clear hz hmx
            go_wp2_with fail
            refine HAD.out.mono ?_
            rintro e X3 ⟨⟨v3, rfl⟩, ⟨m3, hm3⟩, hf3⟩
            have HST3 := hide (HSr.out.foot hm3 hf3 hSw hgw e1 e2 e3 e4)
            have HD3 := hide ((foot_others HSX1.out hf3).same D _ HDr.out rfl)
            clear hm3 hf3
            go_wp2_with fail
            exact ⟨⟨i + 1, vi (by omega), by omega, HST3.out, HD3.out⟩, by simp only [intOf]; omega⟩
          · obtain rfl : i = ys.length := by omega
            have HS0 := hide (show Sit w W1 (wr.setCell ⟨p13, 0, none⟩ (.int .i64 0)) S g cap N p13 p8 0 from HSr.out.step 0 e1 e3 e5 hw13)
            have HD0 := hide (show (wr.setCell ⟨p13, 0, none⟩ (.int .i64 0)).heap[D]? = some (.deferred (some [])) from (KeepsOthers.setCell wr ⟨p13, 0, none⟩ (.int .i64 ((0 : Nat) : Int))).same D _ HDr.out rfl)
            go_upto_region 30 with (fail)
            generalize wr.setCell ⟨p13, 0, none⟩ (.int .i64 0) = W5 at *
            have HTE := hide (all_tells (fun k => k = 15 ∨ k = cc ∨ k = A ∨ k = g2) 8 cc A g2 cap2 N m W5 (by
                obtain ⟨cur, q1, q2, q3⟩ := HSA7.out.ws
                obtain ⟨a1, a2, a3, _, a5⟩ := HSK.out A (.inr (.inr (.inl rfl)))
                obtain ⟨b1, b2, b3, _, b5⟩ := HSK.out g2 (.inr (.inr (.inr rfl)))
                exact ⟨HS0.out.rest _ _ _ _ HSA7.out.hd a1 a2 a3 a5, ⟨cur, HS0.out.rest _ _ _ _ q1 b1 b2 b3 b5, q2, q3⟩, HSA7.out.cap, HSA7.out.off, HSA7.out.small⟩)
              (debr_below HT.out HS0.out.below (by omega)) (by
                obtain ⟨a1, a2, a3, _, a5⟩ := HSK.out cc (.inr (.inl rfl))
                exact HS0.out.rest _ _ _ _ HCL7.out a1 a2 a3 a5) (.inl rfl) (.inr (.inl rfl)) (.inr (.inr (.inl rfl))) (.inr (.inr (.inr rfl))))
            have z15 := HS0.out.size
            have hD5 := heap_lt HD0.out
            clear c6 c7 c9 c11 c13 f13 f8 HSX HDX HSr HDr
            go_wp2_with fail
            refine (wpIn_wide (n := 9)).1 ?_
            refine range_fr (α := Nat) (fr := ?fr22) rfl (by omega) (gf := 43) (lb := #[.pointer (some ⟨cc, 0, none⟩)]) rfl trivial (enters_of Tryd.func43 (by kernel_rfl) rfl) (encs := itEnc) (Ok := itAt (Ds.mem m N)) (Sa := fun xs => xs = Ds.mem m N) (Sp := fun pre => ∃ k, k < cnt m N ∧ pre = (Ds.mem m N).take (k + 1)) (S := fun k => k = 15 ∨ k = cc ∨ k = A ∨ k = g2) HTE.out
              (fun k hk => Nat.lt_of_lt_of_le (HSK.out k hk).2.2.2.1 z15) (fun _ => rfl)
              (fun pre X => Sit w W1 X S g cap N p13 p8 pre.length ∧ X.heap[D]? = some (.deferred (some []))) (fun _ _ _ => False) (fun pre x X => (Sit w W1 X S g cap N p13 p8 pre.length ∧ X.heap[D]? = some (.deferred (some []))) ∧ (Ds.mem m N)[pre.length]? = some x)
              ?hI2 ?hIx2 ?hT2 ⟨HS0.out, HD0.out⟩ ?assign2 ?body2 ?done2 ?stop2
            case hI2 =>
              rintro pre A' C row ⟨h, h2⟩ hgr hr
              exact ⟨h.grown hwW hgr (fun r e => ⟨Nat.le_trans z15 (hr r e).1, (hr r e).2⟩), (hgr.block D (heap_lt h2) (fun e => by have := (hr D e.symm).1; omega)).trans h2⟩
            case hIx2 =>
              rintro _ pre A' C row h hgr hr
              exact h
            case hT2 =>
              rintro ⟨pre, x⟩ A' C row ⟨⟨h, h2⟩, h3⟩ hgr hr
              exact ⟨⟨h.grown hwW hgr (fun r e => ⟨Nat.le_trans z15 (hr r e).1, (hr r e).2⟩), (hgr.block D (heap_lt h2) (fun e => by have := (hr D e.symm).1; omega)).trans h2⟩, h3⟩
            case stop2 =>
              rintro D2 c2 pre X _ _ h
              exact h.elim
            case assign2 =>
              rintro l pre x A' C K' ⟨h, h2⟩ hb hok hzA hK'
              have hK2 := hide (hK' C (KeepsFrom.refl _ _) (Same.refl _ _) ⟨⟨h.later hb, (hb.block D (heap_lt h2)).trans h2⟩, hok⟩)
              clear hK' hok
              dsimp only [itEnc]
              gi_wp2_with fail
              exact hK2.out
            case body2 =>
              rintro l pre x X ⟨⟨h, h2⟩, hx⟩
              obtain ⟨c6, c7, c9, c11, c13, f13, f8, hiw, _, _⟩ := HXX.out X _ h
              have HSX := hide h
              have HD2 := hide h2
              have hlc : pre.length < c := by have h1 := get_lt' hx; have h2 := HCC.out; unfold cnt at h2; omega
              obtain ⟨ad4, rfl, hcw⟩ := ints_get hiw (i := pre.length) (x := (x : Int)) (by unfold mI; rw [List.getElem?_map, hx]; rfl)
              have hlen : (pre ++ [x]).length = pre.length + 1 := by simp
              have HLEN := hide hlen
              obtain ⟨at_, hat⟩ : ∃ at_, pre.length = at_ := ⟨_, rfl⟩
              rw [hat] at HSX hlc hcw c13 HLEN
              have hlci : (at_ : Int) < (c : Int) := by omega
              have hca : ¬ (c : Int) ≤ (at_ : Int) := by omega
              have hwa : IntKind.i64.wrap ((at_ : Int) + 1) = ((at_ + 1 : Nat) : Int) := by rw [IntKind.wrap_i64]; omega
              have HST := HSX.out.step (at_ + 1) e1 e3 e5 hw13
              have HS2 := hide (show Sit w W1 (X.setCell ⟨p13, 0, none⟩ (.int .i64 ((at_ + 1 : Nat) : Int))) S g cap N p13 p8 (pre ++ [x]).length from by rw [HLEN.out]; exact HST)
              have HKO := hide (KeepsOthers.setCell X ⟨p13, 0, none⟩ (.int .i64 ((at_ + 1 : Nat) : Int)))
              have HSM := hide (cell_same (X := X) (b := p13) (Sk := fun k => k = 15 ∨ k = cc ∨ k = A ∨ k = g2) (.int .i64 ((at_ + 1 : Nat) : Int)) (fun k hk => (HSK.out k hk).2.2.1))
              clear h h2 hx hiw hlen hat HST
              gi_wp2_with fail
              exact ⟨HKO.out.from _, HSM.out, HS2.out, HKO.out.same D _ HD2.out rfl⟩
            case done2 =>
              rintro D2 xs X hD2 rfl ⟨h, h2⟩ hd2
              have hmc : (Ds.mem m N).length = c := HCC.out
              rw [hmc] at h
              obtain ⟨c6, c7, c9, c11, c13, f13, f8, _, _, _⟩ := HXX.out X _ h
              have HSX := hide h
              have HM := hide (show Marks X W1.heap.size [D2, D] from ⟨by
                rw [List.nodup_cons]
                exact ⟨by simp; omega, by simp⟩, fun D' hD' => by
                rcases List.mem_cons.1 hD' with rfl | hD'
                · exact ⟨Nat.le_trans z15 hD2, hd2⟩
                · rw [List.mem_singleton] at hD'
                  subst hD'
                  exact ⟨hDW, h2⟩⟩)
              have zX := h.size
              have c8 := cell_of_one h.res
              clear h h2 hd2 hmc
              go_wp2_with fail
              refine leaves_marks [D2, D] _ (B := W1.heap.size) ⟨HM.out.1, fun D' hD' => ⟨(HM.out.2 D' hD').1, (KeepsOthers.setCell X ⟨p8, 0, none⟩ (.bool true)).same D' _ (HM.out.2 D' hD').2 rfl⟩⟩ (by rw [World.size_setCell]; exact zX) (fun W' hp => ?_)
              have hR' := hp.2 _ _ _ _ (heap_set HSX.out.res (.bool true))
              have hc8 : W'.cell? ⟨p8, 0, none⟩ = some (.bool true) := by rw [cell_at hR' 0]; rfl
              have hbw := (HSX.out.below.setCell (p := ⟨p8, 0, none⟩) (show w.heap.size ≤ p8 by omega) (.bool true)).trans (hp.1.mono hwW)
              refine (show LeavesIn _ _ _ _ _ _ [] .returning W' from ⟨.bool true, ?_, rfl, hbw⟩)
              simp [results, Tryd.f3, go_sem, hc8]
      · have hkc3 : ((k : Int) != (c : Int)) = false := by rw [hkc2]; simp
        have hkc4 : ((k : Int) == (c : Int)) = true := by rw [hkc2]; simp
        have HKC2 := hide hkc2
        clear hkc2
        go_upto_region 24 with (fail)
        go_wp2_with fail
        clear c6 c7 c9 c11 c13 f13 f8
        go_loopw [80] (fun j wr => ∃ i : Nat, j = .int .i64 (i : Nat) ∧ i ≤ ys.length ∧ Sit w W1 wr S g cap N p13 p8 k ∧ wr.heap[D]? = some (.deferred (some []))) (fun j _ => ys.length - (intOf j).toNat)
        case atStart => exact ⟨0, rfl, Nat.zero_le _, HSX.out, HDX.out⟩
        case round =>
          obtain ⟨i, rfl, hi, hs, hd⟩ := hrel
          obtain ⟨c6, c7, c9, c11, c13, f13, f8, hiw, hip, her⟩ := HXX.out wr _ hs
          have HSr := hide hs
          have HDr := hide hd
          have HIP := hide hip
          have HER := hide her
          clear hs hd hiw hip her
          by_cases hlt : i < ys.length
          · obtain ⟨z, hz⟩ : ∃ z, ys[i]? = some z := ⟨_, List.getElem?_eq_getElem hlt⟩
            obtain ⟨ad2, rfl, hcz⟩ := ints_get HIP.out hz
            have hii : (i : Int) < (ys.length : Int) := by omega
            obtain ⟨mx, hmx⟩ := HSr.out.set
            have HSX1 := hide hmx
            have HAD := hide (add_is wr hmx z (E 0) HER.out)
            clear hz hmx
            go_wp2_with fail
            refine HAD.out.mono ?_
            rintro e X3 ⟨⟨v3, rfl⟩, ⟨m3, hm3⟩, hf3⟩
            have HST3 := hide (HSr.out.foot hm3 hf3 hSw hgw e1 e2 e3 e4)
            have HD3 := hide ((foot_others HSX1.out hf3).same D _ HDr.out rfl)
            clear hm3 hf3
            go_wp2_with fail
            exact ⟨⟨i + 1, vi (by omega), by omega, HST3.out, HD3.out⟩, by simp only [intOf]; omega⟩
          · obtain rfl : i = ys.length := by omega
            have HS0 := hide (show Sit w W1 (wr.setCell ⟨p13, 0, none⟩ (.int .i64 0)) S g cap N p13 p8 0 from HSr.out.step 0 e1 e3 e5 hw13)
            have HD0 := hide (show (wr.setCell ⟨p13, 0, none⟩ (.int .i64 0)).heap[D]? = some (.deferred (some [])) from (KeepsOthers.setCell wr ⟨p13, 0, none⟩ (.int .i64 ((0 : Nat) : Int))).same D _ HDr.out rfl)
            go_upto_region 30 with (fail)
            generalize wr.setCell ⟨p13, 0, none⟩ (.int .i64 0) = W5 at *
            have HTE := hide (all_tells (fun k => k = 15 ∨ k = cc ∨ k = A ∨ k = g2) 8 cc A g2 cap2 N m W5 (by
                obtain ⟨cur, q1, q2, q3⟩ := HSA7.out.ws
                obtain ⟨a1, a2, a3, _, a5⟩ := HSK.out A (.inr (.inr (.inl rfl)))
                obtain ⟨b1, b2, b3, _, b5⟩ := HSK.out g2 (.inr (.inr (.inr rfl)))
                exact ⟨HS0.out.rest _ _ _ _ HSA7.out.hd a1 a2 a3 a5, ⟨cur, HS0.out.rest _ _ _ _ q1 b1 b2 b3 b5, q2, q3⟩, HSA7.out.cap, HSA7.out.off, HSA7.out.small⟩)
              (debr_below HT.out HS0.out.below (by omega)) (by
                obtain ⟨a1, a2, a3, _, a5⟩ := HSK.out cc (.inr (.inl rfl))
                exact HS0.out.rest _ _ _ _ HCL7.out a1 a2 a3 a5) (.inl rfl) (.inr (.inl rfl)) (.inr (.inr (.inl rfl))) (.inr (.inr (.inr rfl))))
            have z15 := HS0.out.size
            have hD5 := heap_lt HD0.out
            clear c6 c7 c9 c11 c13 f13 f8 HSX HDX HSr HDr
            go_wp2_with fail
            refine (wpIn_wide (n := 9)).1 ?_
            refine range_fr (α := Nat) (fr := ?fr23) rfl (by omega) (gf := 43) (lb := #[.pointer (some ⟨cc, 0, none⟩)]) rfl trivial (enters_of Tryd.func43 (by kernel_rfl) rfl) (encs := itEnc) (Ok := itAt (Ds.mem m N)) (Sa := fun xs => xs = Ds.mem m N) (Sp := fun pre => ∃ k, k < cnt m N ∧ pre = (Ds.mem m N).take (k + 1)) (S := fun k => k = 15 ∨ k = cc ∨ k = A ∨ k = g2) HTE.out
              (fun k hk => Nat.lt_of_lt_of_le (HSK.out k hk).2.2.2.1 z15) (fun _ => rfl)
              (fun pre X => Sit w W1 X S g cap N p13 p8 pre.length ∧ X.heap[D]? = some (.deferred (some []))) (fun _ _ _ => False) (fun pre x X => (Sit w W1 X S g cap N p13 p8 pre.length ∧ X.heap[D]? = some (.deferred (some []))) ∧ (Ds.mem m N)[pre.length]? = some x)
              ?hI3 ?hIx3 ?hT3 ⟨HS0.out, HD0.out⟩ ?assign3 ?body3 ?done3 ?stop3
            case hI3 =>
              rintro pre A' C row ⟨h, h2⟩ hgr hr
              exact ⟨h.grown hwW hgr (fun r e => ⟨Nat.le_trans z15 (hr r e).1, (hr r e).2⟩), (hgr.block D (heap_lt h2) (fun e => by have := (hr D e.symm).1; omega)).trans h2⟩
            case hIx3 =>
              rintro _ pre A' C row h hgr hr
              exact h
            case hT3 =>
              rintro ⟨pre, x⟩ A' C row ⟨⟨h, h2⟩, h3⟩ hgr hr
              exact ⟨⟨h.grown hwW hgr (fun r e => ⟨Nat.le_trans z15 (hr r e).1, (hr r e).2⟩), (hgr.block D (heap_lt h2) (fun e => by have := (hr D e.symm).1; omega)).trans h2⟩, h3⟩
            case stop3 =>
              rintro D2 c2 pre X _ _ h
              exact h.elim
            case assign3 =>
              rintro l pre x A' C K' ⟨h, h2⟩ hb hok hzA hK'
              have hK2 := hide (hK' C (KeepsFrom.refl _ _) (Same.refl _ _) ⟨⟨h.later hb, (hb.block D (heap_lt h2)).trans h2⟩, hok⟩)
              clear hK' hok
              dsimp only [itEnc]
              gi_wp2_with fail
              exact hK2.out
            case body3 =>
              rintro l pre x X ⟨⟨h, h2⟩, hx⟩
              obtain ⟨c6, c7, c9, c11, c13, f13, f8, hiw, _, _⟩ := HXX.out X _ h
              have HSX := hide h
              have HD2 := hide h2
              have hlc : pre.length < c := by have h1 := get_lt' hx; have h2 := HCC.out; unfold cnt at h2; omega
              obtain ⟨ad4, rfl, hcw⟩ := ints_get hiw (i := pre.length) (x := (x : Int)) (by unfold mI; rw [List.getElem?_map, hx]; rfl)
              have hlen : (pre ++ [x]).length = pre.length + 1 := by simp
              have HLEN := hide hlen
              obtain ⟨at_, hat⟩ : ∃ at_, pre.length = at_ := ⟨_, rfl⟩
              rw [hat] at HSX hlc hcw c13 HLEN
              have hlci : (at_ : Int) < (c : Int) := by omega
              have hca : ¬ (c : Int) ≤ (at_ : Int) := by omega
              have hwa : IntKind.i64.wrap ((at_ : Int) + 1) = ((at_ + 1 : Nat) : Int) := by rw [IntKind.wrap_i64]; omega
              have HST := HSX.out.step (at_ + 1) e1 e3 e5 hw13
              have HS2 := hide (show Sit w W1 (X.setCell ⟨p13, 0, none⟩ (.int .i64 ((at_ + 1 : Nat) : Int))) S g cap N p13 p8 (pre ++ [x]).length from by rw [HLEN.out]; exact HST)
              have HKO := hide (KeepsOthers.setCell X ⟨p13, 0, none⟩ (.int .i64 ((at_ + 1 : Nat) : Int)))
              have HSM := hide (cell_same (X := X) (b := p13) (Sk := fun k => k = 15 ∨ k = cc ∨ k = A ∨ k = g2) (.int .i64 ((at_ + 1 : Nat) : Int)) (fun k hk => (HSK.out k hk).2.2.1))
              clear h h2 hx hiw hlen hat HST
              gi_wp2_with fail
              exact ⟨HKO.out.from _, HSM.out, HS2.out, HKO.out.same D _ HD2.out rfl⟩
            case done3 =>
              rintro D2 xs X hD2 rfl ⟨h, h2⟩ hd2
              have hmc : (Ds.mem m N).length = c := HCC.out
              rw [hmc] at h
              obtain ⟨c6, c7, c9, c11, c13, f13, f8, _, _, _⟩ := HXX.out X _ h
              have HSX := hide h
              have HM := hide (show Marks X W1.heap.size [D2, D] from ⟨by
                rw [List.nodup_cons]
                exact ⟨by simp; omega, by simp⟩, fun D' hD' => by
                rcases List.mem_cons.1 hD' with rfl | hD'
                · exact ⟨Nat.le_trans z15 hD2, hd2⟩
                · rw [List.mem_singleton] at hD'
                  subst hD'
                  exact ⟨hDW, h2⟩⟩)
              have zX := h.size
              have c8 := cell_of_one h.res
              clear h h2 hd2 hmc
              go_wp2_with fail
              refine leaves_marks [D2, D] _ (B := W1.heap.size) ⟨HM.out.1, fun D' hD' => ⟨(HM.out.2 D' hD').1, (KeepsOthers.setCell X ⟨p8, 0, none⟩ (.bool true)).same D' _ (HM.out.2 D' hD').2 rfl⟩⟩ (by rw [World.size_setCell]; exact zX) (fun W' hp => ?_)
              have hR' := hp.2 _ _ _ _ (heap_set HSX.out.res (.bool true))
              have hc8 : W'.cell? ⟨p8, 0, none⟩ = some (.bool true) := by rw [cell_at hR' 0]; rfl
              have hbw := (HSX.out.below.setCell (p := ⟨p8, 0, none⟩) (show w.heap.size ≤ p8 by omega) (.bool true)).trans (hp.1.mono hwW)
              refine (show LeavesIn _ _ _ _ _ _ [] .returning W' from ⟨.bool true, ?_, rfl, hbw⟩)
              simp [results, Tryd.f3, go_sem, hc8]
  · have hS3 := cell_of_one (heap_old D8.out (.cells #[.pointer none] 24))
    have hf8 := free_of_one (heap_old D8.out (.cells #[.pointer none] 24))
    have hq8 : p8 < w2.heap.size := heap_lt D8.out
    go_wp2_with fail
    have hR := heap_old (heap_set (i := 0) D8.out (.bool true)) (.cells #[.pointer none] 24)
    have hBX := (below_set (i := 0) HB2.out (show w.heap.size ≤ p8 by omega) (.bool true)).alloc (by rw [World.size_setCell]; exact z2) (.cells #[.pointer none] 24)
    refine leaves_marks (B := w.heap.size) [] _ (marks_nil _ _) hBX.size (fun W' hp => ?_)
    have hR' := hp.2 _ _ _ _ hR
    have hc8 : W'.cell? ⟨p8, 0, none⟩ = some (.bool true) := by rw [cell_at hR' 0]; rfl
    refine (show LeavesIn _ _ _ _ _ _ [] .returning W' from ⟨.bool true, ?_, rfl, hBX.trans hp.1⟩)
    simp [results, Tryd.f3, go_sem, hc8]
end Go.Proofs.YtmkbbekeimnajaaDoor
