/- copied: a program as new memory -/
import Derived.Test.YtbimpoabiafdaaaDoorNw
import Derived.Laws.Rows
import Derived.Deep.DeepCutAuto
import Derived.Deep.RegionHeld3
namespace Go.Proofs.YtbimpoabiafdaaaDoor
open Go.RowKit Vf
theorem size27 : (Tryd.prog.info? 27).map (·.size) = some 6 := by kernel_rfl
theorem wpAnyH_cast {P : Program} {md : Region.Mode} {ops ops' : Array Oper} {Q : Exit → Act → World → Prop} {S : World → Prop} {f f' : Nat} {l l' : Array Bool} {a : Act} {w : World} (h1 : ops = ops') (h2 : f = f') (h3 : l = l') (h : wpAnyH P md ops' Q S f' l' a w) : wpAnyH P md ops Q S f l a w := by
  subst h1 h2 h3
  exact h
set_option maxRecDepth 100000 in
set_option maxHeartbeats 8000000 in
theorem copied_any (w : World) (aa ac an ad ab : Option Addr) (ca cc cn cd cb : Nat) (al : Bool) (P : Prg)
    (hP : PrgAt w (.slice aa P.avgs.length ca) (.slice ac P.cur.length cc) (.slice an P.nears.length cn) (.slice ad P.drive.length cd) (.slice ab P.code.length cb) P) (hL : Little P 1099511627776) :
    Calls Tryd.prog 9 #[.agg #[.slice aa P.avgs.length ca, .slice ac P.cur.length cc, .slice an P.nears.length cn, .bool al, .slice ad P.drive.length cd, .slice ab P.code.length cb]] w fun e w' => ∃ va vc vn vd vb, e = .returned (.agg #[va, vc, vn, .bool al, vd, vb]) ∧ (∃ NB, NewP w' w.heap.size NB va vc vn vd vb P) ∧ Below w.heap.size w w' := by
  have hq1 := (Below.refl w.heap.size w).alloc (Nat.le_refl _) (.cells #[.slice aa P.avgs.length ca, .slice ac P.cur.length cc, .slice an P.nears.length cn, .bool al, .slice ad P.drive.length cd, .slice ab P.code.length cb] 27)
  have hq2 := hq1.alloc (by simp) (.cells #[.slice none 0 0, .slice none 0 0, .slice none 0 0, .bool false, .slice none 0 0, .slice none 0 0] 27)
  have HP := hide (hP.keep hq2)
  have HB := hide hq2
  have hsz : (w.alloc (.cells #[.slice aa P.avgs.length ca, .slice ac P.cur.length cc, .slice an P.nears.length cn, .bool al, .slice ad P.drive.length cd, .slice ab P.code.length cb] 27)).heap.size = w.heap.size + 1 := by simp
  have HR := hide (heap_new (w := w.alloc (.cells #[.slice aa P.avgs.length ca, .slice ac P.cur.length cc, .slice an P.nears.length cn, .bool al, .slice ad P.drive.length cd, .slice ab P.code.length cb] 27)) rfl (.cells #[.slice none 0 0, .slice none 0 0, .slice none 0 0, .bool false, .slice none 0 0, .slice none 0 0] 27))
  have HH := hide (heap_old (heap_new (w := w) rfl (.cells #[.slice aa P.avgs.length ca, .slice ac P.cur.length cc, .slice an P.nears.length cn, .bool al, .slice ad P.drive.length cd, .slice ab P.code.length cb] 27)) (.cells #[.slice none 0 0, .slice none 0 0, .slice none 0 0, .bool false, .slice none 0 0, .slice none 0 0] 27))
  have HL := hide hL
  rw [hsz] at HR
  clear hq1 hq2 hP hL
  go_enter Tryd.func9, Tryd.ntmps9
  go_upto_region 1 with (fail)
  generalize (w.alloc (.cells #[.slice aa P.avgs.length ca, .slice ac P.cur.length cc, .slice an P.nears.length cn, .bool al, .slice ad P.drive.length cd, .slice ab P.code.length cb] 27)).alloc (.cells #[.slice none 0 0, .slice none 0 0, .slice none 0 0, .bool false, .slice none 0 0, .slice none 0 0] 27) = W at *
  have hsW := HB.out.size
  obtain ⟨p0, p1, p2, p3, p4, p5⟩ := cells6 HH.out
  have P0 := hide fun w1 (h : Below W.heap.size W w1) => lt_keep p0 h
  have P1 := hide fun w1 (h : Below W.heap.size W w1) => lt_keep p1 h
  have P3 := hide fun w1 (h : Below W.heap.size W w1) => lt_keep p3 h
  have P4 := hide fun w1 (h : Below W.heap.size W w1) => lt_keep p4 h
  have P5 := hide fun w1 (h : Below W.heap.size W w1) => lt_keep p5 h
  clear p0 p1 p2 p3 p4 p5 hsz
  refine wp_region_noPanic ?_
  refine wp_region_held_drew (S := fun w1 => Below W.heap.size W w1) (by kernel_rfl) ((Below.refl W.heap.size W).drew) (fun hHeld => ?_)
  refine' wpAnyH_take (i := 1) (oi := { dst := some 7, op := Op.fieldAddr 27 (Operand.tmp 1) 0, type := 0, pos := "law.go:35", after := #[], guard := none }) (v := ?v1) rfl (by kernel_rfl) (by kernel_rfl) (by kernel_rfl) (fun _ _ _ h => h) (Or.inl ⟨by rfl, ?y1⟩) (by assumption) ?r1
  case y1 => (intro wq hSw; (try dsimp only at hSw); go_simp; try with_reducible rfl)
  try simp only [Act.put, List.setIfInBounds_toArray, List.set_cons_zero, List.set_cons_succ]
  refine' wpAnyH_take (i := 2) (oi := { dst := some 8, op := Op.load 22 (Operand.tmp 7), type := 22, pos := "law.go:35", after := #[{ on := 1, ground := Ground.data }], guard := none }) (v := ?v2) rfl (by kernel_rfl) (by kernel_rfl) (by kernel_rfl) (fun _ _ _ h => h) (Or.inl ⟨by rfl, ?y2⟩) (by assumption) ?r2
  case y2 => (intro wq hSw; have d := P0.out _ hSw; go_simp; try with_reducible rfl)
  try simp only [Act.put, List.setIfInBounds_toArray, List.set_cons_zero, List.set_cons_succ]
  refine' wpAnyH_take (i := 5) (oi := { dst := some 11, op := Op.fieldAddr 27 (Operand.tmp 1) 1, type := 0, pos := "law.go:35", after := #[], guard := none }) (v := ?v5) rfl (by kernel_rfl) (by kernel_rfl) (by kernel_rfl) (fun _ _ _ h => h) (Or.inl ⟨by rfl, ?y5⟩) (by assumption) ?r5
  case y5 => (intro wq hSw; (try dsimp only at hSw); go_simp; try with_reducible rfl)
  try simp only [Act.put, List.setIfInBounds_toArray, List.set_cons_zero, List.set_cons_succ]
  refine' wpAnyH_take (i := 6) (oi := { dst := some 12, op := Op.load 23 (Operand.tmp 11), type := 23, pos := "law.go:35", after := #[{ on := 5, ground := Ground.data }], guard := none }) (v := ?v6) rfl (by kernel_rfl) (by kernel_rfl) (by kernel_rfl) (fun _ _ _ h => h) (Or.inl ⟨by rfl, ?y6⟩) (by assumption) ?r6
  case y6 => (intro wq hSw; have d := P1.out _ hSw; go_simp; try with_reducible rfl)
  try simp only [Act.put, List.setIfInBounds_toArray, List.set_cons_zero, List.set_cons_succ]
  refine' wpAnyH_take (i := 8) (oi := { dst := some 14, op := Op.fieldAddr 27 (Operand.tmp 1) 3, type := 0, pos := "law.go:35", after := #[], guard := none }) (v := ?v8) rfl (by kernel_rfl) (by kernel_rfl) (by kernel_rfl) (fun _ _ _ h => h) (Or.inl ⟨by rfl, ?y8⟩) (by assumption) ?r8
  case y8 => (intro wq hSw; (try dsimp only at hSw); go_simp; try with_reducible rfl)
  try simp only [Act.put, List.setIfInBounds_toArray, List.set_cons_zero, List.set_cons_succ]
  refine' wpAnyH_take (i := 9) (oi := { dst := some 15, op := Op.load 4 (Operand.tmp 14), type := 4, pos := "law.go:35", after := #[{ on := 8, ground := Ground.data }], guard := none }) (v := ?v9) rfl (by kernel_rfl) (by kernel_rfl) (by kernel_rfl) (fun _ _ _ h => h) (Or.inl ⟨by rfl, ?y9⟩) (by assumption) ?r9
  case y9 => (intro wq hSw; have d := P3.out _ hSw; go_simp; try with_reducible rfl)
  try simp only [Act.put, List.setIfInBounds_toArray, List.set_cons_zero, List.set_cons_succ]
  refine' wpAnyH_take (i := 11) (oi := { dst := some 17, op := Op.fieldAddr 27 (Operand.tmp 1) 4, type := 0, pos := "law.go:35", after := #[], guard := none }) (v := ?v11) rfl (by kernel_rfl) (by kernel_rfl) (by kernel_rfl) (fun _ _ _ h => h) (Or.inl ⟨by rfl, ?y11⟩) (by assumption) ?r11
  case y11 => (intro wq hSw; (try dsimp only at hSw); go_simp; try with_reducible rfl)
  try simp only [Act.put, List.setIfInBounds_toArray, List.set_cons_zero, List.set_cons_succ]
  refine' wpAnyH_take (i := 12) (oi := { dst := some 18, op := Op.load 22 (Operand.tmp 17), type := 22, pos := "law.go:35", after := #[{ on := 11, ground := Ground.data }], guard := none }) (v := ?v12) rfl (by kernel_rfl) (by kernel_rfl) (by kernel_rfl) (fun _ _ _ h => h) (Or.inl ⟨by rfl, ?y12⟩) (by assumption) ?r12
  case y12 => (intro wq hSw; have d := P4.out _ hSw; go_simp; try with_reducible rfl)
  try simp only [Act.put, List.setIfInBounds_toArray, List.set_cons_zero, List.set_cons_succ]
  refine' wpAnyH_take (i := 15) (oi := { dst := some 21, op := Op.fieldAddr 27 (Operand.tmp 1) 5, type := 0, pos := "law.go:35", after := #[], guard := none }) (v := ?v15) rfl (by kernel_rfl) (by kernel_rfl) (by kernel_rfl) (fun _ _ _ h => h) (Or.inl ⟨by rfl, ?y15⟩) (by assumption) ?r15
  case y15 => (intro wq hSw; (try dsimp only at hSw); go_simp; try with_reducible rfl)
  try simp only [Act.put, List.setIfInBounds_toArray, List.set_cons_zero, List.set_cons_succ]
  refine' wpAnyH_take (i := 16) (oi := { dst := some 22, op := Op.load 25 (Operand.tmp 21), type := 25, pos := "law.go:35", after := #[{ on := 15, ground := Ground.data }], guard := none }) (v := ?v16) rfl (by kernel_rfl) (by kernel_rfl) (by kernel_rfl) (fun _ _ _ h => h) (Or.inl ⟨by rfl, ?y16⟩) (by assumption) ?r16
  case y16 => (intro wq hSw; have d := P5.out _ hSw; go_simp; try with_reducible rfl)
  try simp only [Act.put, List.setIfInBounds_toArray, List.set_cons_zero, List.set_cons_succ]
  refine wpAnyH_cast (ops' := ops9_1) (f' := 11) (l' := lst9 false false false false false false false false false false) (by kernel_rfl) (by kernel_rfl) (by kernel_rfl) ?_
  refine cp_orders W w.heap.size (w.heap.size + 1) aa ac an ad ab ca cc cn cd cb al P HP.out HL.out _ ?_
  intro A s6 s9 s10 s13 s16 s19 s20 s23 w1 hb1 hA hf hz
  have HA := hide hz
  have HB1 := hide hb1
  obtain ⟨a0, a1, a2, a3, a4, a5⟩ := cells6 hz
  have f0 := free_at hz 0
  have f1 := free_at hz 1
  have f2 := free_at hz 2
  have f3 := free_at hz 3
  have f4 := free_at hz 4
  have f5 := free_at hz 5
  have hs1 := hb1.size
  obtain ⟨⟨a9, c9, rfl⟩, ⟨a13, c13, rfl⟩, ⟨a19, c19, rfl⟩, ⟨a23, c23, rfl⟩⟩ := cpf_shape hf rfl rfl rfl rfl
  have HFA := hide (show Fa w1 W.heap.size (R4 (some ⟨3, 1, .slice a9 P.avgs.length c9, P.avgs.length, intCells P.avgs⟩) (some ⟨63, 2, .slice a13 P.cur.length c13, P.cur.length, leafCells P.cur⟩) (some ⟨3, 1, .slice a19 P.drive.length c19, P.drive.length, intCells P.drive⟩) (some ⟨5, 1, .slice a23 P.code.length c23, P.code.length, u8s P.code⟩)) from by
    obtain ⟨o0, o1, o2, o3, hF, n0, g0, n1, g1, n2, g2, n3, g3, h18, h19⟩ := hf
    rw [g0 rfl, g1 rfl, g2 rfl, g3 rfl] at hF
    exact hF)
  have H6 := hide (set6 hz (.slice a9 P.avgs.length c9) (.slice a13 P.cur.length c13) (.slice none 0 0) (.bool al) (.slice a19 P.drive.length c19) (.slice a23 P.code.length c23))
  have HLT := hide (heap_lt hz)
  clear hf hz hb1
  refine wpAnyH_ready (rs := [20]) (by kernel_rfl) (by simp) ?_
  refine AllReadyH.cons (o := { dst := none, op := Op.store 27 (Operand.tmp 3) (Operand.tmp 24), type := 0, pos := "law.go:35", after := #[{ on := 19, ground := Ground.data }, { on := 18, ground := Ground.data }, { on := 17, ground := Ground.chain }, { on := 0, ground := Ground.phase }, { on := 1, ground := Ground.phase }, { on := 2, ground := Ground.phase }, { on := 3, ground := Ground.phase }, { on := 4, ground := Ground.phase }, { on := 5, ground := Ground.phase }, { on := 6, ground := Ground.phase }, { on := 7, ground := Ground.phase }, { on := 8, ground := Ground.phase }, { on := 9, ground := Ground.phase }, { on := 10, ground := Ground.phase }, { on := 11, ground := Ground.phase }, { on := 12, ground := Ground.phase }, { on := 13, ground := Ground.phase }, { on := 14, ground := Ground.phase }, { on := 15, ground := Ground.phase }, { on := 16, ground := Ground.phase }, { on := 17, ground := Ground.phase }, { on := 18, ground := Ground.phase }, { on := 19, ground := Ground.phase }], guard := none }) rfl (fun K hK => ?_) AllReadyH.nil
  unfold act9
  go_simp
  refine hK.out _ _ (H6.out.2.2 _ _ HB1.out hA) (fun _ => ?_)
  clear hK K a0 a1 a2 a3 a4 a5 f0 f1 f2 f3 f4 f5
  refine wpAnyH_done (by kernel_rfl) (NoPanic.normal ?_) _
  have HFA2 := hide (fa_keepTy HFA.out (fun j r hj => H6.out.2.1 r.e (by
    match j, hj with
    | 0, hj => cases hj; exact (show (27 : TypeId) ≠ 3 by decide)
    | 1, hj => cases hj; exact (show (27 : TypeId) ≠ 63 by decide)
    | 2, hj => cases hj; exact (show (27 : TypeId) ≠ 3 by decide)
    | 3, hj => cases hj; exact (show (27 : TypeId) ≠ 5 by decide)
    | j + 4, hj => cases hj)))
  have HC2 := hide H6.out.1
  have HB2 := hide (H6.out.2.2 _ _ HB1.out hA)
  generalize ((((((w1.setCell ⟨A, 0, none⟩ (.slice a9 P.avgs.length c9)).setCell ⟨A, 1, none⟩ (.slice a13 P.cur.length c13)).setCell ⟨A, 2, none⟩ (.slice none 0 0)).setCell ⟨A, 3, none⟩ (.bool al)).setCell ⟨A, 4, none⟩ (.slice a19 P.drive.length c19)).setCell ⟨A, 5, none⟩ (.slice a23 P.code.length c23)) = w2 at HFA2 HC2 HB2 ⊢
  clear H6 HFA HA HB1
  have hs2 := HB2.out.size
  have hA2 := heap_lt HC2.out
  have P2 := hide fun w3 (h : Below W.heap.size W w3) => lt_keep (show W.cell? ⟨w.heap.size, 2, none⟩ = some (.slice an P.nears.length cn) by rw [cell_at HH.out]; rfl) h
  have hp2 := P2.out _ HB2.out
  go_wp2_with fail
  go_loopw [28] (fun c wr => ∃ (i : Nat) (vn : Value) (its : List NIt), i ≤ P.nears.length ∧ c = .int .i64 i ∧ its.map (·.2.2) = P.nears.take i ∧ NrIts wr w2.heap.size vn its ∧ wr.heap[A]? = some (.cells #[.slice a9 P.avgs.length c9, .slice a13 P.cur.length c13, vn, .bool al, .slice a19 P.drive.length c19, .slice a23 P.code.length c23] 27 (0, 0)) ∧ (∀ t, 27 ≠ t → 65 ≠ t → KeepTy w2 wr t) ∧ Below W.heap.size W wr ∧ w2.heap.size ≤ wr.heap.size) (fun c _ => P.nears.length - (intOf c).toNat)
  case atStart => exact ⟨0, _, [], by omega, rfl, rfl, nrits_nil _ _, HC2.out, fun t _ _ => keepTy_refl _ _, HB2.out, Nat.le_refl _⟩
  case round =>
    obtain ⟨i, vn, its, hi, rfl, hits, hn, hc, hk, hb, hs⟩ := hrel
    have HITS := hide hits
    have HN := hide hn
    have HC := hide hc
    have HK := hide hk
    have HBr := hide hb
    have hsr := hb.size
    obtain ⟨avn, cvn, evn⟩ := row_shape hn.1
    have l3 := HL.out.nears
    have hil : its.length = i := by have := congrArg List.length hits; simp at this; omega
    have HEVN := hide evn
    have HIL := hide hil
    clear evn hil
    by_cases hlt : i < P.nears.length
    · obtain ⟨x, hx⟩ : ∃ x, P.nears[i]? = some x := ⟨_, List.getElem?_eq_getElem hlt⟩
      obtain ⟨ad1, rfl, va1, vb1, c0, c1, c2, hva, hvb⟩ := nrs_get (nrs_keep HP.out.nears hb) hx
      have hi1 : (i : Int) < (P.nears.length : Int) := by omega
      obtain ⟨xa, xc, rfl⟩ := ints_form hva
      obtain ⟨ya, yc, rfl⟩ := ints_form hvb
      have hls := HL.out.cs x (List.mem_of_getElem? hx)
      have HXI := hide hx
      have hq := (Below.refl wr.heap.size wr).alloc (Nat.le_refl _) (.cells #[.slice xa x.cs.length xc, .slice ya x.os.length yc, .int .i64 x.slop] 65)
      have HX5 := hide (heap_new (w := wr) rfl (.cells #[.slice xa x.cs.length xc, .slice ya x.os.length yc, .int .i64 x.slop] 65))
      have HA5 := hide (heap_old hc (.cells #[.slice xa x.cs.length xc, .slice ya x.os.length yc, .int .i64 x.slop] 65))
      have HVA := hide (ints_keep hva hq)
      have HVB := hide (ints_keep hvb hq)
      have HB5 := hide (hb.trans (hq.mono hsr))
      have HN5 := hide (nrits_keep hn hq)
      have HK5 := hide (fun (t : TypeId) (h1 : 27 ≠ t) (h2 : 65 ≠ t) => (hk t h1 h2).trans (keepTy_below hq t))
      have hs5 := hq.size
      have hsn : wr.heap.size < (wr.alloc (.cells #[.slice xa x.cs.length xc, .slice ya x.os.length yc, .int .i64 x.slop] 65)).heap.size := by simp
      have hXn : vn.ownBlock ≠ some wr.heap.size := fun e => by have := (World.ownsRow.lt hn.1 _ e).2; omega
      clear hits hn hc hk hb hx hq hva hvb
      go_upto_region 5 with (fail)
      generalize wr.alloc (.cells #[.slice xa x.cs.length xc, .slice ya x.os.length yc, .int .i64 x.slop] 65) = w5 at *
      generalize wr.heap.size = X at *
      obtain ⟨x0, x1, x2⟩ := cells3 HX5.out
      clear c0 c1 c2
      have hXA : X ≠ A := fun e => by
        have h1 := HX5.out
        rw [e, HA5.out] at h1
        simp at h1
      refine wp_region_noPanic ?_
      refine wp_region_held_drew (S := fun w1 => w1.cell? ⟨X, 0, none⟩ = some (.slice xa x.cs.length xc) ∧ w1.cell? ⟨X, 1, none⟩ = some (.slice ya x.os.length yc) ∧ w1.cell? ⟨X, 2, none⟩ = some (.int .i64 x.slop)) (by kernel_rfl) ⟨x0, x1, x2⟩ (fun hHeld => ?_)
      refine' wpAnyH_take (i := 0) (oi := { dst := some 32, op := Op.fieldAddr 27 (Operand.tmp 3) 2, type := 0, pos := "law.go:37", after := #[], guard := none }) (v := ?vq0) rfl (by kernel_rfl) (by kernel_rfl) (by kernel_rfl) (fun _ _ _ h => h) (Or.inl ⟨by rfl, ?yq0⟩) (by assumption) ?rq0
      case yq0 => (intro wq hSw; (try dsimp only at hSw); go_simp; try with_reducible rfl)
      try simp only [Act.put, List.setIfInBounds_toArray, List.set_cons_zero, List.set_cons_succ]
      refine' wpAnyH_take (i := 3) (oi := { dst := some 35, op := Op.fieldAddr 65 (Operand.tmp 5) 0, type := 0, pos := "law.go:37", after := #[], guard := none }) (v := ?vq3) rfl (by kernel_rfl) (by kernel_rfl) (by kernel_rfl) (fun _ _ _ h => h) (Or.inl ⟨by rfl, ?yq3⟩) (by assumption) ?rq3
      case yq3 => (intro wq hSw; (try dsimp only at hSw); go_simp; try with_reducible rfl)
      try simp only [Act.put, List.setIfInBounds_toArray, List.set_cons_zero, List.set_cons_succ]
      refine' wpAnyH_take (i := 4) (oi := { dst := some 36, op := Op.load 22 (Operand.tmp 35), type := 22, pos := "law.go:37", after := #[{ on := 3, ground := Ground.data }], guard := none }) (v := ?vq4) rfl (by kernel_rfl) (by kernel_rfl) (by kernel_rfl) (fun _ _ _ h => h) (Or.inl ⟨by rfl, ?yq4⟩) (by assumption) ?rq4
      case yq4 => (intro wq hSw; obtain ⟨q0, q1, q2⟩ := hSw; go_simp; try with_reducible rfl)
      try simp only [Act.put, List.setIfInBounds_toArray, List.set_cons_zero, List.set_cons_succ]
      refine' wpAnyH_take (i := 7) (oi := { dst := some 39, op := Op.fieldAddr 65 (Operand.tmp 5) 1, type := 0, pos := "law.go:37", after := #[], guard := none }) (v := ?vq7) rfl (by kernel_rfl) (by kernel_rfl) (by kernel_rfl) (fun _ _ _ h => h) (Or.inl ⟨by rfl, ?yq7⟩) (by assumption) ?rq7
      case yq7 => (intro wq hSw; (try dsimp only at hSw); go_simp; try with_reducible rfl)
      try simp only [Act.put, List.setIfInBounds_toArray, List.set_cons_zero, List.set_cons_succ]
      refine' wpAnyH_take (i := 8) (oi := { dst := some 40, op := Op.load 22 (Operand.tmp 39), type := 22, pos := "law.go:37", after := #[{ on := 7, ground := Ground.data }], guard := none }) (v := ?vq8) rfl (by kernel_rfl) (by kernel_rfl) (by kernel_rfl) (fun _ _ _ h => h) (Or.inl ⟨by rfl, ?yq8⟩) (by assumption) ?rq8
      case yq8 => (intro wq hSw; obtain ⟨q0, q1, q2⟩ := hSw; go_simp; try with_reducible rfl)
      try simp only [Act.put, List.setIfInBounds_toArray, List.set_cons_zero, List.set_cons_succ]
      refine' wpAnyH_take (i := 10) (oi := { dst := some 42, op := Op.fieldAddr 65 (Operand.tmp 5) 2, type := 0, pos := "law.go:37", after := #[], guard := none }) (v := ?vq10) rfl (by kernel_rfl) (by kernel_rfl) (by kernel_rfl) (fun _ _ _ h => h) (Or.inl ⟨by rfl, ?yq10⟩) (by assumption) ?rq10
      case yq10 => (intro wq hSw; (try dsimp only at hSw); go_simp; try with_reducible rfl)
      try simp only [Act.put, List.setIfInBounds_toArray, List.set_cons_zero, List.set_cons_succ]
      refine' wpAnyH_take (i := 11) (oi := { dst := some 43, op := Op.load 3 (Operand.tmp 42), type := 3, pos := "law.go:37", after := #[{ on := 10, ground := Ground.data }], guard := none }) (v := ?vq11) rfl (by kernel_rfl) (by kernel_rfl) (by kernel_rfl) (fun _ _ _ h => h) (Or.inl ⟨by rfl, ?yq11⟩) (by assumption) ?rq11
      case yq11 => (intro wq hSw; obtain ⟨q0, q1, q2⟩ := hSw; go_simp; try with_reducible rfl)
      try simp only [Act.put, List.setIfInBounds_toArray, List.set_cons_zero, List.set_cons_succ]
      refine wpAnyH_cast (ops' := ops9_5) (f' := 10) (l' := lst5 false false false false false false false) (by kernel_rfl) (by kernel_rfl) (by kernel_rfl) ?_
      refine cp_round w5 A X _ _ vn x _ _ _ _ _ _ _ _ _ _ _ _ _ _ _ _ _ _ _ _ _ _ _ _ _ _ _ _ _ _ _ _ _ _ _ _ _ _ _ _ _ (by rw [cell_at HA5.out]; rfl) ⟨x0, x1, x2⟩ HVA.out HVB.out hls.1 hls.2 ⟨avn, _, cvn, HEVN.out⟩ _ ?_
      intro Y s34 s37 s38 s41 w6 hb6 hY hf6 hz6 hS6
      have hs6 := hb6.size
      have HX6 := hide (keepTy_below hb6 65 _ _ _ HX5.out)
      have HA6 := hide (keepTy_below hb6 27 _ _ _ HA5.out)
      have HN6 := hide (nrits_keep HN5.out hb6)
      have HB6 := hide (HB5.out.trans (hb6.mono (by omega)))
      have hrows : w6.ownsRow w2.heap.size 3 1 s37 x.cs.length (intCells x.cs) ∧ w6.ownsRow w2.heap.size 3 1 s41 x.os.length (intCells x.os) := by
        obtain ⟨o0, o1, hF, g1, n0, f0, n1, f1, h12, h13⟩ := id hf6
        exact ⟨row_mono (hF.1 0 _ (show R4 o0 o1 none none 0 = _ from f0 rfl)) (by omega), row_mono (hF.1 1 _ (show R4 o0 o1 none none 1 = _ from f1 rfl)) (by omega)⟩
      obtain ⟨v7, w7, hr7, hn7, hg7⟩ := run_nr w6 w2.heap.size Y vn its (s37, s41, x) 24 HN6.out hrows.1 hrows.2 hz6 (by have := HL.out.nears; have := HIL.out; omega) (by omega)
      have ht7 : ∀ t, 65 ≠ t → NotTy w6 vn.ownBlock t := fun t ht => notTy_row HN6.out.1 ht
      have HX7 := hide ((hg7.block X (heap_lt HX6.out) (fun e => hXn e.symm)).trans HX6.out)
      have HA7 := hide (keepTy_grown hg7 (ht7 27 (by decide)) _ _ _ HA6.out)
      have HB7 := hide (HB6.out.grown hg7 (by omega) (fun k hk => by have := (World.ownsRow.lt HN6.out.1 k hk).1; omega))
      have HN7 := hide hn7
      have HK7 := hide (fun (t : TypeId) (h1 : 27 ≠ t) (h2 : 65 ≠ t) => ((HK5.out t h1 h2).trans (keepTy_below hb6 t)).trans (keepTy_grown hg7 (ht7 t h2)))
      have hs7 := hg7.size
      obtain ⟨y0, y1, y2⟩ := cells3 HX7.out
      obtain ⟨z0, z1, z2⟩ := cells3 (heap_else HX7.out hXA v7 (i := 2))
      refine wpAnyH_ready (rs := [14]) (by kernel_rfl) (by simp) ?_
      refine AllReadyH.cons (o := { dst := some 46, op := Op.call { callee := Callee.builtin Builtin.append, args := #[Operand.tmp 33, Operand.tmp 45], argTypes := #[24, 24] }, type := 24, pos := "law.go:37", after := #[{ on := 1, ground := Ground.data }, { on := 13, ground := Ground.data }, { on := 9, ground := Ground.chain }], guard := none }) rfl (fun K hK => ?_) AllReadyH.nil
      unfold act5
      refine step_run 24 _ w7 _ _ v7 rfl (.tmp 33) (.tmp 45) rfl rfl rfl hr7 ?_
      refine hK.out _ _ ⟨y0, y1, y2⟩ (fun _ => ?_)
      clear hK K hr7 hn7 hg7 ht7 hrows hf6 hz6 hS6 hb6
      try simp only [Act.put, List.setIfInBounds_toArray, List.set_cons_zero, List.set_cons_succ]
      obtain ⟨av7, cv7, ev7⟩ := row_shape HN7.out.1
      rw [List.length_append, List.length_singleton] at ev7
      refine' wpAnyH_take (i := 15) (oi := { dst := some 47, op := Op.fieldAddr 27 (Operand.tmp 3) 2, type := 0, pos := "law.go:37", after := #[{ on := 0, ground := Ground.phase }, { on := 1, ground := Ground.phase }, { on := 2, ground := Ground.phase }, { on := 3, ground := Ground.phase }, { on := 4, ground := Ground.phase }, { on := 5, ground := Ground.phase }, { on := 6, ground := Ground.phase }, { on := 7, ground := Ground.phase }, { on := 8, ground := Ground.phase }, { on := 9, ground := Ground.phase }, { on := 10, ground := Ground.phase }, { on := 11, ground := Ground.phase }, { on := 12, ground := Ground.phase }, { on := 13, ground := Ground.phase }, { on := 14, ground := Ground.phase }], guard := none }) (v := ?vq15) rfl (by kernel_rfl) (by kernel_rfl) (by kernel_rfl) (fun _ _ _ h => h) (Or.inl ⟨by rfl, ?yq15⟩) (by assumption) ?rq15
      case yq15 => (intro wq hSw; (try dsimp only at hSw); go_simp; try with_reducible rfl)
      try simp only [Act.put, List.setIfInBounds_toArray, List.set_cons_zero, List.set_cons_succ]
      have a2 : w7.cell? ⟨A, 2, none⟩ = some vn := by rw [cell_at HA7.out]; rfl
      have f2 := free_at HA7.out 2
      refine wpAnyH_ready (rs := [16]) (by kernel_rfl) (by simp) ?_
      refine AllReadyH.cons (o := { dst := none, op := Op.store 24 (Operand.tmp 47) (Operand.tmp 46), type := 0, pos := "law.go:37", after := #[{ on := 15, ground := Ground.data }, { on := 14, ground := Ground.data }, { on := 14, ground := Ground.chain }, { on := 0, ground := Ground.phase }, { on := 1, ground := Ground.phase }, { on := 2, ground := Ground.phase }, { on := 3, ground := Ground.phase }, { on := 4, ground := Ground.phase }, { on := 5, ground := Ground.phase }, { on := 6, ground := Ground.phase }, { on := 7, ground := Ground.phase }, { on := 8, ground := Ground.phase }, { on := 9, ground := Ground.phase }, { on := 10, ground := Ground.phase }, { on := 11, ground := Ground.phase }, { on := 12, ground := Ground.phase }, { on := 13, ground := Ground.phase }, { on := 14, ground := Ground.phase }], guard := none }) rfl (fun K hK => ?_) AllReadyH.nil
      subst ev7
      go_simp
      refine hK.out _ _ ⟨z0, z1, z2⟩ (fun _ => ?_)
      clear hK K a2 f2 y0 y1 y2 z0 z1 z2 x0 x1 x2
      try simp only [Act.put, List.setIfInBounds_toArray, List.set_cons_zero, List.set_cons_succ]
      refine wpAnyH_done (by kernel_rfl) (NoPanic.normal ?_) _
      have HC8 := hide (heap_set (i := 2) HA7.out (.slice av7 (its.length + 1) cv7))
      have HK8 := hide (fun (t : TypeId) (h1 : 27 ≠ t) => keepTy_at (i := 2) HA7.out h1 (.slice av7 (its.length + 1) cv7))
      have HB8 := hide (below_set (i := 2) HB7.out hA (.slice av7 (its.length + 1) cv7))
      go_wp2_with fail
      refine ⟨⟨i + 1, _, its ++ [(s37, s41, x)], by omega, by simp, ?_, nrits_keepTy HN7.out (HK8.out 65 (by decide)) (HK8.out 3 (by decide)), by simpa using HC8.out, fun t h1 h2 => (HK7.out t h1 h2).trans (HK8.out t h1), HB8.out, by simp; omega⟩, by simp [intOf]; omega⟩
      rw [List.map_append, HITS.out, List.take_add_one, HXI.out]
      rfl
    · obtain rfl : i = P.nears.length := by omega
      have hp1 : wr.heap[w.heap.size + 1]? = some (.cells #[.slice none 0 0, .slice none 0 0, .slice none 0 0, .bool false, .slice none 0 0, .slice none 0 0] 27 (0, 0)) := (hb.block _ (heap_lt HR.out)).trans HR.out
      obtain ⟨a0, a1, a2, a3, a4, a5⟩ := cells6 hc
      obtain ⟨b0, b1, b2, b3, b4, b5⟩ := cells6 hp1
      have f0 := free_at hp1 0
      have f1 := free_at hp1 1
      have f2 := free_at hp1 2
      have f3 := free_at hp1 3
      have f4 := free_at hp1 4
      have f5 := free_at hp1 5
      obtain rfl := HEVN.out
      have H6 := hide (set6 hp1 (.slice a9 P.avgs.length c9) (.slice a13 P.cur.length c13) (.slice avn its.length cvn) (.bool al) (.slice a19 P.drive.length c19) (.slice a23 P.code.length c23))
      have HITS2 := hide (show its.map (·.2.2) = P.nears by have := HITS.out; rwa [List.take_length] at this)
      have hcode := HP.out.code.1
      have HCODE := hide hcode
      have HLOW := hide (show ∀ g, (Value.slice a9 P.avgs.length c9).ownBlock = some g ∨ (Value.slice a13 P.cur.length c13).ownBlock = some g ∨ (Value.slice a19 P.drive.length c19).ownBlock = some g ∨ (Value.slice a23 P.code.length c23).ownBlock = some g → g < w2.heap.size from fun g h => by
        rcases h with h | h | h | h
        · exact (World.ownsRow.lt (HFA2.out.1 0 _ rfl) g h).2
        · exact (World.ownsRow.lt (HFA2.out.1 1 _ rfl) g h).2
        · exact (World.ownsRow.lt (HFA2.out.1 2 _ rfl) g h).2
        · exact (World.ownsRow.lt (HFA2.out.1 3 _ rfl) g h).2)
      clear hits hn hc hb hk hp1 hcode HR
      go_wp2_with fail
      refine bodyPost_ret (results_cell_row rfl _ _ (w.heap.size + 1) 27 _ (0, 0) _ rfl H6.out.1 Tryd.underlying27 rfl size27) rfl ?_
      refine ⟨_, _, _, _, _, rfl, ⟨w2.heap.size, ?_, HLOW.out, ⟨its, HITS2.out, nrits_keepTy HN.out (H6.out.2.1 65 (by decide)) (H6.out.2.1 3 (by decide))⟩, HCODE.out, by omega⟩, H6.out.2.2 _ _ (HB.out.trans (HBr.out.mono hsW)) (by omega)⟩
      have hfa := fa_keepTy HFA2.out (fun j r hj => ((HK.out r.e (by
        match j, hj with
        | 0, hj => cases hj; exact (show (27 : TypeId) ≠ 3 by decide)
        | 1, hj => cases hj; exact (show (27 : TypeId) ≠ 63 by decide)
        | 2, hj => cases hj; exact (show (27 : TypeId) ≠ 3 by decide)
        | 3, hj => cases hj; exact (show (27 : TypeId) ≠ 5 by decide)
        | j + 4, hj => cases hj)) (by
        match j, hj with
        | 0, hj => cases hj; exact (show (65 : TypeId) ≠ 3 by decide)
        | 1, hj => cases hj; exact (show (65 : TypeId) ≠ 63 by decide)
        | 2, hj => cases hj; exact (show (65 : TypeId) ≠ 3 by decide)
        | 3, hj => cases hj; exact (show (65 : TypeId) ≠ 5 by decide)
        | j + 4, hj => cases hj)).trans (H6.out.2.1 r.e (by
        match j, hj with
        | 0, hj => cases hj; exact (show (27 : TypeId) ≠ 3 by decide)
        | 1, hj => cases hj; exact (show (27 : TypeId) ≠ 63 by decide)
        | 2, hj => cases hj; exact (show (27 : TypeId) ≠ 3 by decide)
        | 3, hj => cases hj; exact (show (27 : TypeId) ≠ 5 by decide)
        | j + 4, hj => cases hj)))
      exact ⟨fun j r hj => row_mono (hfa.1 j r hj) hsW, hfa.2⟩
end Go.Proofs.YtbimpoabiafdaaaDoor
