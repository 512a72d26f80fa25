/- the law's 'scanned': what going over Scan tells, up to so many steps -/
import Derived.Test.YtgebekklkodpaaaDoorCo
import Derived.RegionIn
namespace Go.Proofs.YtgebekklkodpaaaDoor
open Go.RowKit Go.Shelf
attribute [local go_sem] Oper.semAt_some

theorem func_nil (v : Value) : ∀ w : World, (binOp .eql 70 (.func (.func 71) #[] #[v]) .nilFunc).run Tryd.prog w = .ok (.bool false) w := by
  intro w
  kernel_rfl
/-- what the loop has collected -/
structure Coll (W0 W : World) (B P0 P1 P2 Bx gk M : Nat) (bs : List Nat) (pre : List Itm) : Prop where
  most : Boxed W P0 3 (.int .i64 (M : Nat))
  ints : ∃ ao cap, Boxed W P1 63 (.slice ao (pls pre).length cap) ∧ IOwn W B (.slice ao (pls pre).length cap) (pls pre)
  blks : ∃ ao cap, Boxed W P2 38 (.slice ao (pre.map (·.2)).length cap) ∧ BFam W B (.slice ao (pre.map (·.2)).length cap) (pre.map (·.2))
  kept : Kept W Bx gk bs
  below : Below W0.heap.size W0 W
theorem coll_kept {W0 W W' : World} {B P0 P1 P2 Bx gk M : Nat} {bs : List Nat} {pre : List Itm} {row : Option Nat} (h : Coll W0 W B P0 P1 P2 Bx gk M bs pre) (hg : W.grownBy W' row) (nt : ∀ t, NotTy W row t) (hr : ∀ r, row = some r → W0.heap.size ≤ r) :
    Coll W0 W' B P0 P1 P2 Bx gk M bs pre := by
  obtain ⟨a1, c1, b1, i1⟩ := h.ints
  obtain ⟨a2, c2, b2, i2⟩ := h.blks
  exact ⟨box_kept h.most hg (nt 3), ⟨a1, c1, box_kept b1 hg (nt 63), row_kept i1 hg (nt 3)⟩, ⟨a2, c2, box_kept b2 hg (nt 38), bfam_kept i2 hg (nt 47) (nt 5)⟩, kept_kept h.kept hg (nt 25) (nt 5), h.below.grown hg h.below.size hr⟩
theorem coll_below {W0 W W' : World} {B P0 P1 P2 Bx gk M : Nat} {bs : List Nat} {pre : List Itm} (h : Coll W0 W B P0 P1 P2 Bx gk M bs pre) (hb : Below W.heap.size W W') : Coll W0 W' B P0 P1 P2 Bx gk M bs pre :=
  coll_kept h (grown_of_below hb) (fun _ => notTy_none _ _) (fun _ e => by cases e)
/-- a block handed over: its row is new -/
structure Come (W : World) (B : Nat) (pre : List Itm) (x : Itm) : Prop where
  tag : x.2.1 < 256
  own : Own W B x.2.2.1 x.2.2.2
  lt : ∀ y ∈ x.2.2.2, y < 256
  apart : ∀ y ∈ pre, ∀ g, y.2.2.1.ownBlock = some g → x.2.2.1.ownBlock ≠ some g
theorem come_of {A C : World} {B : Nat} {v : Value} {pre : List Itm} {x : Itm} (h : BFam A B v (pre.map (·.2))) (hok : itOk A x C) (hB : B ≤ A.heap.size) : Come C B pre x := by
  obtain ⟨h1, gx, m, h2, h3, h4, h5, h6, h7⟩ := hok
  refine ⟨h1, ?_, h6, fun y hy g hg => ?_⟩
  · rw [h2, h3]
    exact own_block h5 (by omega) (by omega)
  · have hl := (World.ownsRow.lt (bfam_mem h (List.mem_map.2 ⟨y, hy, rfl⟩)).1 g hg).2
    rw [h2]
    intro e
    simp only [Value.ownBlock, Option.some.injEq] at e
    omega
theorem come_keepTy {W W' : World} {B : Nat} {pre : List Itm} {x : Itm} (h : Come W B pre x) (hk : KeepTy W W' 5) : Come W' B pre x := ⟨h.tag, row_keepTy h.own hk, h.lt, h.apart⟩

set_option maxRecDepth 100000 in
set_option maxHeartbeats 4000000 in
theorem scanned_any (w : World) (Z : Zip w) (E : Nat → Addr) (h0 : ErrAt w 0 (E 0)) (h1 : ErrAt w 1 (E 1)) (h2 : ErrAt w 2 (E 2)) (h6 : ErrAt w 6 (E 6)) (hg : 17 ≤ w.heap.size) (v : Value) (bs : List Nat) (hs : Src w v bs) (M : Nat) (hM : M ≤ 1000000000) (hl : bs.length ≤ 100000000) :
    Calls Tryd.prog 42 #[v, .int .i64 (M : Nat)] w fun e w' => ∃ v1 v2 its, e = .returned (.tuple #[v1, v2]) ∧ IOwn w' w.heap.size v1 ((scan (bs.length + 1) 0 bs).1.take M) ∧ BFam w' w.heap.size v2 its ∧ blOf its = (scan (bs.length + 1) 0 bs).2.take M ∧ Below w.heap.size w w' := by
  obtain ⟨ao, cap, rfl⟩ := src_form hs
  have HS := hide hs
  have HZ := hide Z
  have H0 := hide h0
  have H1 := hide h1
  have H2 := hide h2
  have H6 := hide h6
  clear hs Z h0 h1 h2 h6
  refine (callsIn_wide (n := 9)).1 ?_
  refine callsIn_of_wp_marks Tryd.func42 rfl trivial ?_ rfl
  simp only [Tryd.ntmps42, List.size_toArray, List.length_cons, List.length_nil, Nat.reduceAdd, Nat.reduceSub, Array.replicate_succ, Array.replicate_zero, List.push_toArray, List.append_toArray, List.nil_append, List.cons_append]
  gi_wp2_with fail
  have hsz : (((((w.alloc (Obj.cells #[Value.int IntKind.i64 (M : Nat)] 3)).alloc (Obj.cells #[] 3)).alloc (Obj.cells #[Value.slice (some { block := w.heap.size + 1, off := 0 }) 0 0] 63)).alloc (Obj.cells #[] 47)).alloc (Obj.cells #[Value.slice (some { block := w.heap.size + 1 + 1 + 1, off := 0 }) 0 0] 38)).heap.size = w.heap.size + 5 := by simp only [World.size_alloc]
  have f0 : Boxed (((((w.alloc (Obj.cells #[Value.int IntKind.i64 (M : Nat)] 3)).alloc (Obj.cells #[] 3)).alloc (Obj.cells #[Value.slice (some { block := w.heap.size + 1, off := 0 }) 0 0] 63)).alloc (Obj.cells #[] 47)).alloc (Obj.cells #[Value.slice (some { block := w.heap.size + 1 + 1 + 1, off := 0 }) 0 0] 38)) w.heap.size 3 (.int .i64 (M : Nat)) :=
    ((((Boxed.new w 3 (.int .i64 (M : Nat))).alloc _).alloc _).alloc _).alloc _
  have f1 : Boxed (((((w.alloc (Obj.cells #[Value.int IntKind.i64 (M : Nat)] 3)).alloc (Obj.cells #[] 3)).alloc (Obj.cells #[Value.slice (some { block := w.heap.size + 1, off := 0 }) 0 0] 63)).alloc (Obj.cells #[] 47)).alloc (Obj.cells #[Value.slice (some { block := w.heap.size + 1 + 1 + 1, off := 0 }) 0 0] 38)) (w.heap.size + 1 + 1) 63 (.slice (some ⟨w.heap.size + 1, 0, none⟩) 0 0) := by
    have h := Boxed.new ((w.alloc (Obj.cells #[Value.int IntKind.i64 (M : Nat)] 3)).alloc (Obj.cells #[] 3)) 63 (.slice (some ⟨w.heap.size + 1, 0, none⟩) 0 0)
    simp only [World.size_alloc] at h
    exact (h.alloc _).alloc _
  have f2 : Boxed (((((w.alloc (Obj.cells #[Value.int IntKind.i64 (M : Nat)] 3)).alloc (Obj.cells #[] 3)).alloc (Obj.cells #[Value.slice (some { block := w.heap.size + 1, off := 0 }) 0 0] 63)).alloc (Obj.cells #[] 47)).alloc (Obj.cells #[Value.slice (some { block := w.heap.size + 1 + 1 + 1, off := 0 }) 0 0] 38)) (w.heap.size + 1 + 1 + 1 + 1) 38 (.slice (some ⟨w.heap.size + 1 + 1 + 1, 0, none⟩) 0 0) := by
    have h := Boxed.new ((((w.alloc (Obj.cells #[Value.int IntKind.i64 (M : Nat)] 3)).alloc (Obj.cells #[] 3)).alloc (Obj.cells #[Value.slice (some { block := w.heap.size + 1, off := 0 }) 0 0] 63)).alloc (Obj.cells #[] 47)) 38 (.slice (some ⟨w.heap.size + 1 + 1 + 1, 0, none⟩) 0 0)
    simp only [World.size_alloc] at h
    exact h
  have i1 : IOwn (((((w.alloc (Obj.cells #[Value.int IntKind.i64 (M : Nat)] 3)).alloc (Obj.cells #[] 3)).alloc (Obj.cells #[Value.slice (some { block := w.heap.size + 1, off := 0 }) 0 0] 63)).alloc (Obj.cells #[] 47)).alloc (Obj.cells #[Value.slice (some { block := w.heap.size + 1 + 1 + 1, off := 0 }) 0 0] 38)) (w.heap.size + 1) (.slice (some ⟨w.heap.size + 1, 0, none⟩) 0 0) [] := by
    have h := iown_lit (w.alloc (Obj.cells #[Value.int IntKind.i64 (M : Nat)] 3)) (w.heap.size + 1) (by simp)
    simp only [World.size_alloc] at h
    exact ((World.ownsRow.alloc (World.ownsRow.alloc h _) _).alloc _)
  have i2 : BFam (((((w.alloc (Obj.cells #[Value.int IntKind.i64 (M : Nat)] 3)).alloc (Obj.cells #[] 3)).alloc (Obj.cells #[Value.slice (some { block := w.heap.size + 1, off := 0 }) 0 0] 63)).alloc (Obj.cells #[] 47)).alloc (Obj.cells #[Value.slice (some { block := w.heap.size + 1 + 1 + 1, off := 0 }) 0 0] 38)) (w.heap.size + 1) (.slice (some ⟨w.heap.size + 1 + 1 + 1, 0, none⟩) 0 0) [] := by
    have h := bfam_nil (((w.alloc (Obj.cells #[Value.int IntKind.i64 (M : Nat)] 3)).alloc (Obj.cells #[] 3)).alloc (Obj.cells #[Value.slice (some { block := w.heap.size + 1, off := 0 }) 0 0] 63)) (w.heap.size + 1) (by simp only [World.size_alloc]; omega)
    simp only [World.size_alloc] at h
    exact bfam_below h ((Below.refl _ _).alloc (Nat.le_refl _) _)
  have hb5 : Below w.heap.size w (((((w.alloc (Obj.cells #[Value.int IntKind.i64 (M : Nat)] 3)).alloc (Obj.cells #[] 3)).alloc (Obj.cells #[Value.slice (some { block := w.heap.size + 1, off := 0 }) 0 0] 63)).alloc (Obj.cells #[] 47)).alloc (Obj.cells #[Value.slice (some { block := w.heap.size + 1 + 1 + 1, off := 0 }) 0 0] 38)) :=
    (((((Below.refl w.heap.size w).alloc (Nat.le_refl _) _).alloc (by simp) _).alloc (by simp only [World.size_alloc]; omega) _).alloc (by simp only [World.size_alloc]; omega) _).alloc (by simp only [World.size_alloc]; omega) _
  have hsz5 := Nat.le_of_eq hsz.symm
  clear hsz
  generalize (((((w.alloc (Obj.cells #[Value.int IntKind.i64 (M : Nat)] 3)).alloc (Obj.cells #[] 3)).alloc (Obj.cells #[Value.slice (some { block := w.heap.size + 1, off := 0 }) 0 0] 63)).alloc (Obj.cells #[] 47)).alloc (Obj.cells #[Value.slice (some { block := w.heap.size + 1 + 1 + 1, off := 0 }) 0 0] 38)) = w5 at *
  have q1 : w.heap.size < w.heap.size + 1 + 1 := by omega
  have q2 : w.heap.size + 1 + 1 < w.heap.size + 1 + 1 + 1 + 1 := by omega
  have q3 : w.heap.size + 1 + 1 + 1 + 1 < w5.heap.size := by omega
  have q4 : w.heap.size + 1 ≤ w5.heap.size := by omega
  have q5 : w.heap.size < w.heap.size + 1 := by omega
  have q6 : w.heap.size + 1 ≤ w.heap.size + 1 + 1 := by omega
  clear hsz5
  generalize w.heap.size + 1 + 1 + 1 + 1 = P2 at *
  generalize w.heap.size + 1 + 1 + 1 = L2 at *
  generalize w.heap.size + 1 + 1 = P1 at *
  generalize w.heap.size + 1 = L1 at *
  have HSC := hide (scan_any w5 _ bs (src_keep HS.out hb5) (by omega))
  have F0 := hide f0
  have F1 := hide f1
  have F2 := hide f2
  have I1 := hide i1
  have I2 := hide i2
  have HB5 := hide hb5
  clear f0 f1 f2 i1 i2 hb5
  refine ⟨trivial, (callsIn_wide.2 HSC.out).mono ?_⟩
  rintro e w6 ⟨Bx, gk, rfl, hBx, hgk, hk, hb6⟩
  have g6 := grown_of_below hb6
  have HB6 := hide (HB5.out.trans (hb6.mono HB5.out.size))
  have z56 := hb6.size
  have F06 := hide (box_kept F0.out g6 (notTy_none _ _))
  have F16 := hide (box_kept F1.out g6 (notTy_none _ _))
  have F26 := hide (box_kept F2.out g6 (notTy_none _ _))
  have I16 := hide (row_kept I1.out g6 (notTy_none _ _))
  have I26 := hide (bfam_kept I2.out g6 (notTy_none _ _) (notTy_none _ _))
  have HK := hide hk
  have hBx6 := heap_lt hk.1
  have hgk6 := heap_lt hk.2
  clear hk hb6 g6 HSC F0 F1 F2 I1 I2
  have HTE := hide (scan_tells (ScanS Bx gk) 8 Bx gk bs w6 (zip_below HZ.out HB6.out (by omega)) E (err_below H0.out HB6.out (by omega)) (err_below H1.out HB6.out (by omega)) (err_below H2.out HB6.out (by omega)) (err_below H6.out HB6.out (by omega)) (fun k hk => .inl hk) (by omega) (.inr (.inl rfl)) (.inr (.inr rfl)) HK.out HS.out.1 hl)
  have hnf := func_nil (.pointer (some ⟨Bx, 0, none⟩))
  gi_wp2_with fail
  obtain ⟨Ac, hAc⟩ : ∃ Ac : Nat → Value → Value → Value → Act, Ac = fun bb at_ ag u => { tmps := #[.slice ao bs.length cap, .int .i64 (M : Nat), undef, .pointer (some ⟨w.heap.size, 0, none⟩), .slice none 0 0, .slice none 0 0, .pointer (some ⟨P1, 0, none⟩), .pointer (some ⟨P2, 0, none⟩), .func (.func 71) #[] #[.pointer (some ⟨Bx, 0, none⟩)], at_, .pointer (some ⟨bb, 0, none⟩), .slice (some ⟨L1, 0, none⟩) 0 0, .slice (some ⟨L2, 0, none⟩) 0 0, .slice ao bs.length cap, .func (.func 71) #[] #[.pointer (some ⟨Bx, 0, none⟩)], .func (.func 71) #[] #[.pointer (some ⟨Bx, 0, none⟩)], .bool false, u, .func (.func 71) #[] #[.pointer (some ⟨Bx, 0, none⟩)], at_, ag, undef, undef, undef, undef, undef, undef, undef, undef, undef, undef, undef, undef, undef, undef], defers := [] } := ⟨_, rfl⟩
  have c0 : Coll w w6 L1 w.heap.size P1 P2 Bx gk M bs [] := ⟨F06.out, ⟨some ⟨L1, 0, none⟩, 0, F16.out, I16.out⟩, ⟨some ⟨L2, 0, none⟩, 0, F26.out, I26.out⟩, HK.out, HB6.out⟩
  refine range_told (α := Itm) (encs := itEnc) (Ok := itOk) (Sa := scanAll bs) (Sp := scanPart bs) (S := ScanS Bx gk) rfl (by omega) (gf := 71) (lb := #[.pointer (some ⟨Bx, 0, none⟩)]) rfl trivial (enters_of Tryd.func71 (by kernel_rfl) rfl)
    HTE.out (by rintro k (h | rfl | rfl) <;> omega) (fun _ => rfl)
    (fun pre W => Coll w W L1 w.heap.size P1 P2 Bx gk M bs pre ∧ pre.length ≤ M ∧ w6.heap.size ≤ W.heap.size)
    (fun c pre W => c = .exit 0 ∧ ∃ p x, pre = p ++ [x] ∧ p.length = M ∧ Coll w W L1 w.heap.size P1 P2 Bx gk M bs p ∧ w6.heap.size ≤ W.heap.size)
    (fun pre x a' W => Coll w W L1 w.heap.size P1 P2 Bx gk M bs pre ∧ pre.length ≤ M ∧ w6.heap.size ≤ W.heap.size ∧ Come W L1 pre x ∧ ∃ bb, a' = Ac bb (.int .i64 (x.1 : Nat)) (.agg #[.int .u8 (x.2.1 : Nat), x.2.2.1]) undef ∧ W.heap[bb]? = some (.cells #[.int .u8 (x.2.1 : Nat), x.2.2.1] 47 (0, 0)))
    ?hI ?hIx ?hT ⟨c0, by simp, Nat.le_refl _⟩ ?assign ?body ?done ?stop
  case hI =>
    rintro pre A C row ⟨h, h1, h2⟩ hgr hr
    exact ⟨coll_kept h hgr (notTy_obj (fun r e => (hr r e).2)) (fun r e => by have := (hr r e).1; have := HB6.out.size; omega), h1, Nat.le_trans h2 hgr.size⟩
  case hIx =>
    rintro c pre A C row ⟨e0, p, x, e1, e2, h, h2⟩ hgr hr
    exact ⟨e0, p, x, e1, e2, coll_kept h hgr (notTy_obj (fun r e => (hr r e).2)) (fun r e => by have := (hr r e).1; have := HB6.out.size; omega), Nat.le_trans h2 hgr.size⟩
  case hT =>
    rintro a' ⟨pre, x⟩ A C row ⟨h, h1, h2, h3, bb, e, hbb⟩ hgr hr
    have nt := notTy_obj (fun r e => (hr r e).2)
    exact ⟨coll_kept h hgr nt (fun r e => by have := (hr r e).1; have := HB6.out.size; omega), h1, Nat.le_trans h2 hgr.size, come_keepTy h3 (keepTy_grown hgr (nt 5)), bb, e, keepTy_grown hgr (nt 47) _ _ _ hbb⟩
  case assign =>
    rintro l pre ⟨at_, t, v, body⟩ A C K ⟨h, h1, h2⟩ hb hok hzA hK
    obtain ⟨a2, c2, b2, i2⟩ := h.blks
    have hcm := come_of i2 hok (by omega)
    have hc := coll_below h hb
    clear i2 b2
    have hzC := hb.size
    obtain ⟨_, gx, m, hv, hm, _⟩ := hok
    simp only at hv hm
    subst hv
    have HM := hide hm
    clear hm
    have hw : Below C.heap.size C (C.alloc (.cells #[.int .u8 (t : Nat), .slice (some ⟨gx, 0, none⟩) m m] 47)) := (Below.refl C.heap.size C).alloc (Nat.le_refl _) _
    have hK' := hide (hK (Ac C.heap.size (.int .i64 (at_ : Nat)) (.agg #[.int .u8 (t : Nat), .slice (some ⟨gx, 0, none⟩) m m]) undef) _ ((KeepsOthers.alloc _ _).from _) (same_below hw)
      ⟨coll_below hc hw, h1, by have := hw.size; omega, come_keepTy hcm (keepTy_below hw 5), C.heap.size, rfl, heap_new rfl _⟩)
    clear hK hc hcm hw
    subst hAc
    dsimp only [itEnc]
    gi_wp2_with fail
    exact hK'.out
  case body =>
    rintro l pre ⟨at_, t, v, body⟩ a' W ⟨h, h1, h2, h3, bb, rfl, hbb⟩
    obtain ⟨a1, k1, b1, i1⟩ := h.ints
    obtain ⟨a2, k2, b2, i2⟩ := h.blks
    have HC := hide h
    have HCM := hide h3
    have hzW := h.below.size
    have e0 := h.most.cell
    have e1 := b1.cell
    have n1 : (pls pre).length = pre.length := by simp [pls]
    have n2 : (pre.map (·.2)).length = pre.length := by simp
    rw [n1] at e1 b1 i1
    rw [n2] at b2 i2
    have HI1 := hide i1
    have HI2 := hide i2
    have HBX1 := hide b1
    have HBX2 := hide b2
    subst hAc
    dsimp only at hbb ⊢
    by_cases hlt : pre.length < M
    · have hlt' : ¬ ((M : Int) ≤ (pre.length : Int)) := by omega
      have f1 := b1.frozen
      have HBB := hide hbb
      clear h h3 i1 i2 b1 b2 hbb
      gi_wp2_with (refine append_intI (W.alloc (.cells #[.int .i64 (at_ : Nat)] 3)) L1 W.heap.size at_ _ (pls pre) rfl (.tmp 25) (.tmp 27) rfl rfl rfl (World.ownsRow.alloc HI1.out _) (heap_new rfl _) (by simp only [pls, List.length_map]; omega) (by rw [World.size_alloc]; omega) ?_)
      intro g1 cap1 wa hoa hga
      obtain ⟨hv1, hv2, hr2, hko, hbw⟩ := HBX1.out.appended (by decide) HI1.out (by omega) (by omega) hoa hga
      have hk := fun q h1 h2 => appended_keep (v' := .slice (some ⟨g1, 0, none⟩) (pre.length + 1) cap1) (q := q) HBX1.out (by decide) HI1.out hga h1 h2
      have hc1 := hv1.cell
      have hf1 := hv1.frozen
      have HC3 := hide (box_keepTy HBX2.out (hk 38 (by decide) (by decide)))
      have HI3 := hide (bfam_keepTy HI2.out (hk 47 (by decide) (by decide)) (hk 5 (by decide) (by decide)))
      have HM3 := hide (come_keepTy HCM.out (hk 5 (by decide) (by decide)))
      have HX3 := hide (hk 47 (by decide) (by decide) _ _ _ HBB.out)
      have HS3 := hide (scanS_same HC.out.kept hbw (by omega) (hk 25 (by decide) (by decide)) (hk 5 (by decide) (by decide)))
      have HK3 := hide (kept_keepTy HC.out.kept (hk 25 (by decide) (by decide)) (hk 5 (by decide) (by decide)))
      have HB3 := hide hbw
      have HO3 := hide hko
      have HV3 := hide hv2
      have HR3 := hide hr2
      have e2 := HC3.out.cell
      have f2 := HC3.out.frozen
      have hb2 := cells2 HX3.out
      obtain ⟨d0, d1⟩ := hb2
      clear hoa hga hv1 hv2 hr2 hko hbw hk
      have hq4 : Below (wa.setCell ⟨P1, 0, none⟩ (.slice (some ⟨g1, 0, none⟩) (pre.length + 1) cap1)).heap.size (wa.setCell ⟨P1, 0, none⟩ (.slice (some ⟨g1, 0, none⟩) (pre.length + 1) cap1)) ((wa.setCell ⟨P1, 0, none⟩ (.slice (some ⟨g1, 0, none⟩) (pre.length + 1) cap1)).alloc (.cells #[.int .u8 (t : Nat), v] 47)) := (Below.refl _ _).alloc (Nat.le_refl _) _
      have HI4 := hide (bfam_below HI3.out hq4)
      have HM4 := hide (come_keepTy HM3.out (keepTy_below hq4 5))
      have hz3 := HB3.out.size
      have hz4 := hq4.size
      have HH4 := hide (show ((wa.setCell ⟨P1, 0, none⟩ (.slice (some ⟨g1, 0, none⟩) (pre.length + 1) cap1)).alloc (.cells #[.int .u8 (t : Nat), v] 47)).heap[wa.heap.size]? = some (.cells #[.int .u8 (t : Nat), v] 47 (0, 0)) from heap_new (by rw [World.size_setCell]) _)
      clear hq4
      have HAP := hide (fun (y : It) (hy : y ∈ pre.map fun (z : Itm) => z.2) (g : Nat) (hg : y.2.1.ownBlock = some g) => (by obtain ⟨z, hz, rfl⟩ := List.mem_map.1 hy; exact HM4.out.apart z hz g hg : v.ownBlock ≠ some g))
      have HLE := hide (show (pre.map fun (z : Itm) => z.2).length ≤ 1099511627776 by rw [n2]; omega)
      have HBE := hide (show L1 ≤ ((wa.setCell ⟨P1, 0, none⟩ (.slice (some ⟨g1, 0, none⟩) (pre.length + 1) cap1)).alloc (.cells #[.int .u8 (t : Nat), v] 47)).heap.size by omega)
      gi_wp2_with (refine append_blkI _ L1 wa.heap.size (.slice a2 pre.length k2) (pre.map fun (z : Itm) => z.2) (t, v, body) rfl (.tmp 29) (.tmp 31) rfl rfl rfl HI4.out HM4.out.tag HM4.out.own HM4.out.lt HAP.out HH4.out HLE.out HBE.out ?_)
      intro g2 cap2 wb hob hgb
      obtain ⟨hv1, hv2, hr2, hko, hbw⟩ := HC3.out.appended (by decide) HI3.out.1 (by omega) (by omega) hob.1 hgb
      have hk := fun q h1 h2 => appended_keep (v' := .slice (some ⟨g2, 0, none⟩) (pre.length + 1) cap2) (q := q) HC3.out (by decide) HI3.out.1 hgb h1 h2
      have hc1 := hv1.cell
      have hf1 := hv1.frozen
      have HOB := hide hob
      have HV5 := hide hv2
      have HB5' := hide hbw
      have HO5 := hide hko
      have HP5 := hide (box_keepTy HV3.out (hk 63 (by decide) (by decide)))
      have HR5 := hide (row_keepTy HR3.out (hk 3 (by decide) (by decide)))
      have HS5 := hide (scanS_same HK3.out hbw (by omega) (hk 25 (by decide) (by decide)) (hk 5 (by decide) (by decide)))
      have HK5 := hide (kept_keepTy HK3.out (hk 25 (by decide) (by decide)) (hk 5 (by decide) (by decide)))
      have HX5 := hide (show BFam (wb.setCell ⟨P2, 0, none⟩ (.slice (some ⟨g2, 0, none⟩) (pre.length + 1) cap2)) L1 (.slice (some ⟨g2, 0, none⟩) (pre.length + 1) cap2) (pre.map (fun (z : Itm) => z.2) ++ [(t, v, body)]) from by
        have hob' := hob
        exact ⟨row_keepTy hob'.1 (keepTy_grown (grownBy_setCell' wb P2 _) (notTy_box hv1 (by decide))), hob'.2.1, fam_keepTy hob'.2.2 (keepTy_grown (grownBy_setCell' wb P2 _) (notTy_box hv1 (by decide)))⟩)
      have h5 := hk 5 (by decide) (by decide)
      clear hv1 hv2 hko hbw hk hgb hob e2 f2 d0 d1
      gi_wp2_with fail
      have hbAll := HB3.out.trans HB5'.out
      have hn : (pls (pre ++ [(at_, t, v, body)])).length = pre.length + 1 := by simp [pls]
      have hp : pls (pre ++ [(at_, t, v, body)]) = pls pre ++ [at_] := by simp [pls]
      have hn2 : ((pre ++ [(at_, t, v, body)]).map fun (z : Itm) => z.2).length = pre.length + 1 := by simp
      have hp2 : (pre ++ [(at_, t, v, body)]).map (fun (z : Itm) => z.2) = pre.map (fun (z : Itm) => z.2) ++ [(t, v, body)] := by simp
      refine ⟨(HO3.out.trans HO5.out).from _, HS3.out.trans HS5.out, ⟨(hbAll.block _ q5).trans HC.out.most, ⟨some ⟨g1, 0, none⟩, cap1, ?_, ?_⟩, ⟨some ⟨g2, 0, none⟩, cap2, ?_, ?_⟩, HK5.out, HC.out.below.trans (hbAll.mono (by omega))⟩, by simp; omega, by have := hbAll.size; omega⟩
      · rw [hn]; exact HP5.out
      · have h := HR5.out
        rw [← hp, hn] at h
        unfold IOwn
        rw [hn]
        exact h
      · rw [hn2]; exact HV5.out
      · rw [hn2, hp2]
        exact HX5.out
    · have hge : pre.length = M := by omega
      have hle : ((M : Int) ≤ (pre.length : Int)) := by omega
      have HGE := hide hge
      clear h h3 i1 i2 b1 b2 hge
      gi_wp2_with fail
      exact ⟨KeepsFrom.refl _ _, rfl, pre, _, rfl, HGE.out, HC.out, h2⟩
  case done =>
    rintro D xs W hD ⟨e1, e2⟩ ⟨h, h1, h2⟩ hK
    obtain ⟨a1, k1, b1, i1⟩ := h.ints
    obtain ⟨a2, k2, b2, i2⟩ := h.blks
    have c1 := b1.cell
    have c2 := b2.cell
    have HC := hide h
    have HI1 := hide i1
    have HI2 := hide i2
    have HE1 := hide e1
    have HE2 := hide e2
    have HKd := hide hK
    clear h i1 i2 b1 b2 e1 e2 hK
    subst hAc
    gi_wp2_with fail
    gi_region
    all_goals gi_wp2_with fail
    refine ⟨by simp, .inl ⟨_, _, rfl, run_takeDeferred (show W.drew.heap[D]? = some (.deferred (some [])) from HKd.out), ?_⟩⟩
    have hgp : W.grownBy (W.drew.putObj D (.deferred none)) (some D) := by
      have h := grownBy_putObj' W.drew D (.deferred none)
      exact ⟨h.os, h.tape, h.output, h.size, h.block⟩
    have nt := notTy_obj (w := W) (row := some D) (fun r e => by cases e; exact ⟨_, HKd.out, rfl⟩)
    have hfin := coll_kept HC.out hgp nt (fun r e => by cases e; have := HB6.out.size; omega)
    have hx1 := row_mono (row_kept HI1.out hgp (nt 3)) (B' := w.heap.size) (by omega)
    have hx2 := bfam_mono (bfam_kept HI2.out hgp (nt 47) (nt 5)) (B' := w.heap.size) (by omega)
    have n2 : (xs.map fun (z : Itm) => z.2).length = xs.length := by simp
    rw [n2] at hx2
    refine ⟨_, results_tmp2 rfl _ _ _, _, _, xs.map (fun (z : Itm) => z.2), rfl, ?_, ?_, ?_, hfin.below⟩
    · rw [HE1.out, List.take_of_length_le (by simp only [pls, List.length_map]; omega)]
      exact hx1
    · exact hx2
    · rw [HE2.out, List.take_of_length_le (by simp only [bds, List.length_map]; omega)]
      simp [blOf, bds]
  case stop =>
    rintro D c pre W hD ⟨r1, r2, e1, e2⟩ ⟨rfl, p, x, rfl, hpM, h, h2⟩ hK
    obtain ⟨a1, k1, b1, i1⟩ := h.ints
    obtain ⟨a2, k2, b2, i2⟩ := h.blks
    have c1 := b1.cell
    have c2 := b2.cell
    have HC := hide h
    have HI1 := hide i1
    have HI2 := hide i2
    have HE1 := hide e1
    have HE2 := hide e2
    have HKd := hide hK
    have HPM := hide hpM
    clear h i1 i2 b1 b2 e1 e2 hK hpM
    subst hAc
    gi_wp2_with fail
    gi_region
    all_goals gi_wp2_with fail
    refine ⟨by simp, .inl ⟨_, _, rfl, run_takeDeferred (show W.drew.heap[D]? = some (.deferred (some [])) from HKd.out), ?_⟩⟩
    have hgp : W.grownBy (W.drew.putObj D (.deferred none)) (some D) := by
      have h := grownBy_putObj' W.drew D (.deferred none)
      exact ⟨h.os, h.tape, h.output, h.size, h.block⟩
    have nt := notTy_obj (w := W) (row := some D) (fun r e => by cases e; exact ⟨_, HKd.out, rfl⟩)
    have hfin := coll_kept HC.out hgp nt (fun r e => by cases e; have := HB6.out.size; omega)
    have hx1 := row_mono (row_kept HI1.out hgp (nt 3)) (B' := w.heap.size) (by omega)
    have hx2 := bfam_mono (bfam_kept HI2.out hgp (nt 47) (nt 5)) (B' := w.heap.size) (by omega)
    have n2 : (p.map fun (z : Itm) => z.2).length = p.length := by simp
    rw [n2] at hx2
    refine ⟨_, results_tmp2 rfl _ _ _, _, _, p.map (fun (z : Itm) => z.2), rfl, ?_, ?_, ?_, hfin.below⟩
    · rw [HE1.out]
      have e : pls (p ++ [x]) ++ r1 = pls p ++ ([x.1] ++ r1) := by simp [pls]
      rw [e, List.take_left' (by have := HPM.out; simpa [pls] using this)]
      exact hx1
    · exact hx2
    · rw [HE2.out]
      have e : bds (p ++ [x]) ++ r2 = bds p ++ ([(x.2.1, x.2.2.2)] ++ r2) := by simp [bds]
      rw [e, List.take_left' (by have := HPM.out; simpa [bds] using this)]
      simp [blOf, bds]
end Go.Proofs.YtgebekklkodpaaaDoor
