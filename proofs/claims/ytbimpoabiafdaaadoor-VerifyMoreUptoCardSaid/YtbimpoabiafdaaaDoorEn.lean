/- the reference's Uvarint, operands, Encode -/
import Derived.Test.YtbimpoabiafdaaaDoorRde
namespace Go.Proofs.YtbimpoabiafdaaaDoor
open Go.RowKit Vf
set_option maxRecDepth 100000 in
theorem append_srcK {ops : Array Oper} {rest : List Oper} {o : Oper} {a : Act} {Q : Exit → Act → World → Prop} (w0 w : World) (B : Nat) (v xv : Value) (cur bs : List Nat) (hgd : o.guard = none) (s x : Operand)
    (ho : o.op = .call { callee := .builtin .append, args := #[s, x], argTypes := #[25, 25] }) (hs : a.eval s = v) (hx : a.eval x = xv)
    (hown : Own w B v cur) (hsrc : Src w xv bs) (hl : cur.length + bs.length ≤ 140737488355328) (hB : B ≤ w.heap.size) (hb : Below B w0 w)
    (h : ∀ v' w', Own w' B v' (cur ++ bs) → Below B w0 w' → (∀ t, 5 ≠ t → KeepTy w w' t) → wpList Tryd.prog ops Q rest (a.put o.dst v') w') : wpList Tryd.prog ops Q (o :: rest) a w := by
  obtain ⟨i0, hi, hz0, hz1, hz2⟩ := info_parts info5
  rcases hsrc with ⟨_, ⟨rfl, rfl⟩ | ⟨ad, cap, rfl, _, _, hc⟩⟩
  · refine wpList_append_own_none hgd s x 25 ho B 5 i0 1 Tryd.underlying25 hi v cur.length (u8s cur) hs hown hx (h v w ?_ hb (fun t _ k cs fr hk => hk))
    rw [List.append_nil]
    exact hown
  · refine wpList_append_own w hgd s x 25 ho B 5 i0 (.int .u8 0) 1 1 Tryd.underlying25 hi hz0 hz1 hz2 rfl (by decide) v cur.length (u8s cur) hs hown ad bs.length cap (u8s bs) hx (by simp [u8s_len]) (src_news hc) (u8s_one _) (by simp only [maxLen]; omega) (by omega) hB ?_
    intro v' w' hown' hg _
    refine h v' w' ?_ (hb.grown hg hB (fun k hk => (World.ownsRow.lt hown k hk).1)) (fun t ht => keepTy_grown hg (notTy_row hown ht))
    unfold Own
    rw [u8s_app, List.length_append]
    exact hown'
theorem src_one (w : World) (x : Nat) (hx : x < 256) : Src (w.alloc (.cells #[.int .u8 (x : Nat)] 5)) (.slice (some ⟨w.heap.size, 0, none⟩) 1 1) [x] := by
  have h := own_src (B := w.heap.size) (own_lit w w.heap.size [x] (Nat.le_refl _) (by simp) #[.int .u8 (x : Nat)] rfl) (fun y hy => by simp at hy; omega)
  exact h
set_option maxRecDepth 100000 in
set_option maxHeartbeats 2000000 in
theorem ref_uvarint (w : World) (x : Nat) (hx : x < Uv.u64) :
    Calls Tryd.prog 47 #[.int .u64 x] w fun e w' => ∃ v, e = .returned v ∧ Own w' w.heap.size v (Uv.uv x) ∧ Below w.heap.size w w' := by
  have HX := hide hx
  clear hx
  have HO0 := hide (own_lit w w.heap.size [] (Nat.le_refl _) (by simp) #[] rfl)
  have HB0 := hide ((Below.refl w.heap.size w).alloc (Nat.le_refl _) (.cells #[] 5))
  go_enter Tryd.func47, Tryd.ntmps47
  go_wp2
  go_loopw [0, 3] (fun c v wr => ∃ (f y : Nat) (pre : List Nat), y < 128 ^ (f + 1) ∧ y < Uv.u64 ∧ c = .int .u64 y ∧ Uv.uv x = pre ++ Uv.uvf f y ∧ Own wr w.heap.size v pre ∧ Below w.heap.size w wr) (fun c _ _ => (intOf c).toNat)
  case atStart => exact ⟨9, x, [], Uv.start_u64 HX.out, HX.out, rfl, rfl, HO0.out, HB0.out⟩
  case round =>
    obtain ⟨f, y, pre, hy, hy64, rfl, huv, hv, hb⟩ := hrel
    have hpl : pre.length ≤ 9 := by have h1 := (Uv.uv_len x).1; rw [huv] at h1; have h2 := (Uv.uvf_len f y).2; simp at h1; omega
    have hsz := hb.size
    have HU := hide huv
    have HY64 := hide hy64
    obtain ⟨av, cv, rfl⟩ := row_shape hv
    clear huv hy64
    by_cases hge : 128 ≤ y
    · cases f with
      | zero => simp at hy; omega
      | succ f =>
        obtain ⟨m, hmm⟩ : ∃ m, m = y % 128 + 128 := ⟨_, rfl⟩
        have hm : m < 256 := by omega
        have e1 : IntKind.u8.wrap (IntKind.u64.wrap (128 + (y : Int) % 128)) = (m : Int) := by rw [IntKind.wrap_u8, IntKind.wrap_u64]; omega
        have e3 : IntKind.u8.wrap (128 + (y : Int) % 128) = (m : Int) := by rw [IntKind.wrap_u8]; omega
        have e4 : 128 + (y : Int) % 128 = (m : Int) := by omega
        have HM := hide hmm
        have e2 : IntKind.u64.wrap ((y : Int) / 128) = ((y / 128 : Nat) : Int) := by
          have := HY64.out
          rw [Uv.u64_eq] at this
          rw [IntKind.wrap_u64]
          omega
        have hyd : y / 128 < 128 ^ (f + 1) := by
          rw [Nat.div_lt_iff_lt_mul (by omega)]
          rw [Nat.pow_succ] at hy
          exact hy
        have HY := hide hyd
        have HG := hide (Uv.uvf_great f y hge)
        have hge1 : 128 ≤ (y : Int) := by omega
        have hq := (Below.refl wr.heap.size wr).alloc (Nat.le_refl _) (.cells #[.int .u8 (m : Nat)] 5)
        have HS := hide (src_one wr m hm)
        have HV := hide (own_keep hv hq)
        have HQ := hide (hb.trans (hq.mono hsz))
        clear hmm hy hyd hq hv hb
        go_wp2_with (refine append_src w _ w.heap.size _ _ pre [m] rfl (.tmp 7) (.tmp 12) rfl rfl rfl HV.out HS.out (by simp; omega) HQ.out.size HQ.out ?_)
        intro v' w1 hown hb1
        have HO := hide hown
        have HB := hide hb1
        clear hown hb1
        go_wp2
        go_roundw
        case rel =>
          refine ⟨f, y / 128, pre ++ [m], HY.out, Uv.half_u64 _ HY64.out, by simp, ?_, HO.out, HB.out⟩
          rw [HU.out, HG.out, HM.out, List.append_assoc]; rfl
        case measure => simp [intOf]; omega
    · have HSM := hide (Uv.uvf_small f y (by omega))
      have e1 : IntKind.u8.wrap (y : Int) = (y : Int) := by rw [IntKind.wrap_u8]; omega
      have hge1 : ¬ 128 ≤ (y : Int) := by omega
      have hq := (Below.refl wr.heap.size wr).alloc (Nat.le_refl _) (.cells #[.int .u8 (y : Nat)] 5)
      have HS := hide (src_one wr y (by omega))
      have HV := hide (own_keep hv hq)
      have HQ := hide (hb.trans (hq.mono hsz))
      clear hy hq hv hb
      go_wp2_with (refine append_src w _ w.heap.size _ _ pre [y] rfl (.tmp 16) (.tmp 19) rfl rfl rfl HV.out HS.out (by simp; omega) HQ.out.size HQ.out ?_)
      intro v' w1 hown hb1
      have HO := hide hown
      have HB := hide hb1
      clear hown hb1
      go_wp2
      go_ret
      exact ⟨_, rfl, by rw [HU.out, HSM.out]; exact HO.out, HB.out⟩

/-- an instruction that is written: what it does not use is 0 -/
def OkI (x : Ins) : Prop := Fit x ∧ (nargs x.1 < 1 → x.2.1 = 0) ∧ (nargs x.1 < 2 → x.2.2 = 0)
set_option maxRecDepth 100000 in
theorem ref_ops_any (w : World) (x : Ins) (h : OkI x) :
    Calls Tryd.prog 46 #[.agg #[.int .i64 (x.1 : Nat), .int .u64 (x.2.1 : Nat), .int .u64 (x.2.2 : Nat)]] w fun e w' => ∃ g, e = .returned (.tuple #[.slice (some ⟨g, 0, none⟩) (nargs x.1) 2, .bool true]) ∧ w'.heap[g]? = some (.cells #[.int .u64 (x.2.1 : Nat), .int .u64 (x.2.2 : Nat)] 54 (0, 0)) ∧ w.heap.size ≤ g ∧ Below w.heap.size w w' := by
  obtain ⟨op, A, B⟩ := x
  obtain ⟨⟨hop, hA, hB⟩, h1, h2⟩ := h
  simp only at hop hA hB h1 h2
  have hq := (Below.refl w.heap.size w).alloc (Nat.le_refl _) (.cells #[.int .i64 op, .int .u64 A, .int .u64 B] 56)
  have HX := hide (heap_new (w := w) rfl (.cells #[.int .i64 op, .int .u64 A, .int .u64 B] 56))
  have HQ := hide hq
  have HAR := hide (ref_args_any (w.alloc (.cells #[.int .i64 op, .int .u64 A, .int .u64 B] 56)) op (by omega))
  obtain ⟨x0, x1, x2⟩ := cells3 HX.out
  clear hq
  rw [if_pos hop] at HAR
  simp only [hop, decide_true] at HAR
  rcases nargs_le op with hn | hn | hn
  · rw [hn] at HAR ⊢
    obtain rfl := h1 (by omega)
    obtain rfl := h2 (by omega)
    clear hn h1 h2
    go_enter Tryd.func46, Tryd.ntmps46
    go_wp2_with fail
    refine HAR.out.mono ?_
    rintro e w1 ⟨rfl, hb1⟩
    have HB1 := hide (HQ.out.trans (hb1.mono HQ.out.size))
    have hs1 := HB1.out.size
    obtain ⟨x0', x1', x2'⟩ := cells3 (keepTy_below hb1 56 _ _ _ HX.out)
    clear hb1 x0 x1 x2
    go_wp2_with fail
    go_ret2
    exact ⟨w1.heap.size, rfl, heap_new rfl _, hs1, HB1.out.alloc hs1 _⟩
  · rw [hn] at HAR ⊢
    obtain rfl := h2 (by omega)
    clear hn h1 h2
    go_enter Tryd.func46, Tryd.ntmps46
    go_wp2_with fail
    refine HAR.out.mono ?_
    rintro e w1 ⟨rfl, hb1⟩
    have HB1 := hide (HQ.out.trans (hb1.mono HQ.out.size))
    have hs1 := HB1.out.size
    obtain ⟨x0', x1', x2'⟩ := cells3 (keepTy_below hb1 56 _ _ _ HX.out)
    clear hb1 x0 x1 x2
    go_wp2_with fail
    go_ret2
    exact ⟨w1.heap.size, rfl, heap_new rfl _, hs1, HB1.out.alloc hs1 _⟩
  · rw [hn] at HAR ⊢
    clear hn h1 h2
    go_enter Tryd.func46, Tryd.ntmps46
    go_wp2_with fail
    refine HAR.out.mono ?_
    rintro e w1 ⟨rfl, hb1⟩
    have HB1 := hide (HQ.out.trans (hb1.mono HQ.out.size))
    have hs1 := HB1.out.size
    obtain ⟨x0', x1', x2'⟩ := cells3 (keepTy_below hb1 56 _ _ _ HX.out)
    clear hb1 x0 x1 x2
    go_wp2_with fail
    go_ret2
    exact ⟨w1.heap.size, rfl, heap_new rfl _, hs1, HB1.out.alloc hs1 _⟩
/-- the bytes of an instruction -/
def encI (x : Ins) : List Nat := x.1 :: ((if 1 ≤ nargs x.1 then Uv.uv x.2.1 else []) ++ if 2 ≤ nargs x.1 then Uv.uv x.2.2 else [])
def enc (c : List Ins) : List Nat := c.flatMap encI
theorem encI_len (x : Ins) : (encI x).length ≤ 21 := by
  have h1 := (Uv.uv_len x.2.1).1
  have h2 := (Uv.uv_len x.2.2).1
  unfold encI
  split <;> split <;> simp <;> omega
theorem enc_len : ∀ c : List Ins, (enc c).length ≤ 21 * c.length
  | [] => by simp [enc]
  | x :: r => by
    have h1 := encI_len x
    have h2 := enc_len r
    simp only [enc, List.flatMap_cons, List.length_append, List.length_cons] at *
    omega
theorem enc_take {c : List Ins} {i : Nat} {x : Ins} (h : c[i]? = some x) : enc (c.take (i + 1)) = enc (c.take i) ++ encI x := by
  rw [List.take_add_one, h, Option.toList_some]
  simp [enc]
set_option maxRecDepth 100000 in
set_option maxHeartbeats 4000000 in
theorem ref_encode_any (w : World) (ao : Option Addr) (cap : Nat) (c : List Ins) (hc : Inss w (.slice ao c.length cap) c) (hok : ∀ x ∈ c, OkI x) (hl : c.length ≤ 1099511627776) :
    Calls Tryd.prog 35 #[.slice ao c.length cap] w fun e w' => ∃ v, e = .returned (.tuple #[v, .int .i64 0]) ∧ Own w' w.heap.size v (enc c) ∧ Below w.heap.size w w' := by
  have HC := hide hc
  have HOK := hide hok
  clear hc hok
  have HO0 := hide (own_lit w w.heap.size [] (Nat.le_refl _) (by simp) #[] rfl)
  have HB0 := hide ((Below.refl w.heap.size w).alloc (Nat.le_refl _) (.cells #[] 5))
  go_enter Tryd.func35, Tryd.ntmps35
  go_wp2_with fail
  go_loopw [14, 4] (fun s v wr => ∃ i : Nat, i ≤ c.length ∧ s = .int .i64 i ∧ Own wr w.heap.size v (enc (c.take i)) ∧ Below w.heap.size w wr) (fun s _ _ => c.length - (intOf s).toNat)
  case atStart => exact ⟨0, by omega, rfl, HO0.out, HB0.out⟩
  case round =>
    obtain ⟨i, hi, rfl, ho, hb⟩ := hrel
    have HOR := hide ho
    have hsr := hb.size
    have hlen := enc_len (c.take i)
    rw [List.length_take, Nat.min_eq_left hi] at hlen
    obtain ⟨av, cv, rfl⟩ := row_shape ho
    by_cases hlt : i < c.length
    · obtain ⟨x, hx⟩ : ∃ x, c[i]? = some x := ⟨_, List.getElem?_eq_getElem hlt⟩
      have HX := hide hx
      obtain ⟨ad, rfl, c0, c1, c2⟩ := inss_get (inss_keep HC.out hb) hx
      have HOI := hide (HOK.out x (List.mem_of_getElem? hx))
      obtain ⟨op, A, B⟩ := x
      have hop : op < 17 := HOI.out.1.1
      have hOA : A < Uv.u64 := HOI.out.1.2.1
      have hOB : B < Uv.u64 := HOI.out.1.2.2
      simp only at c0 c1 c2
      have hi1 : (i : Int) < (c.length : Int) := by omega
      have hw8 : IntKind.u8.wrap (op : Int) = (op : Int) := by rw [IntKind.wrap_u8]; omega
      have hq := (Below.refl wr.heap.size wr).alloc (Nat.le_refl _) (.cells #[.int .i64 op, .int .u64 A, .int .u64 B] 56)
      have HX5 := hide (heap_new (w := wr) rfl (.cells #[.int .i64 op, .int .u64 A, .int .u64 B] 56))
      have HO5 := hide (own_keep ho hq)
      have HB5 := hide (hb.trans (hq.mono hsr))
      have HOP := hide (show Calls Tryd.prog 46 #[.agg #[.int .i64 op, .int .u64 A, .int .u64 B]] (wr.alloc (.cells #[.int .i64 op, .int .u64 A, .int .u64 B] 56)) _ from ref_ops_any (wr.alloc (.cells #[.int .i64 op, .int .u64 A, .int .u64 B] 56)) (op, A, B) HOI.out)
      clear ho hb hx hq
      go_wp2_with fail
      generalize wr.alloc (.cells #[.int .i64 op, .int .u64 A, .int .u64 B] 56) = w5 at *
      generalize wr.heap.size = X at *
      have hs5 := HB5.out.size
      refine HOP.out.mono ?_
      rintro e w6 ⟨g, rfl, hg, hgs, hb6⟩
      have hX6 := keepTy_below hb6 56 _ _ _ HX5.out
      have HO6 := hide (own_keep HO5.out hb6)
      have HB6 := hide (HB5.out.trans (hb6.mono hs5))
      have hs6 := HB6.out.size
      obtain ⟨x0, x1, x2⟩ := cells3 hX6
      have hq7 := (Below.refl w6.heap.size w6).alloc (Nat.le_refl _) (.cells #[.int .u8 op] 5)
      have HS7 := hide (src_one w6 op (by omega))
      have HO7 := hide (own_keep HO6.out hq7)
      have HB7 := hide (HB6.out.trans (hq7.mono hs6))
      have HG7 := hide (keepTy_below hq7 54 _ _ _ hg)
      have hs7 := HB7.out.size
      clear c0 c1 c2 HOP hb6 hX6 hq7 hg
      go_wp2_with (refine append_srcK w _ w.heap.size _ _ (enc (c.take i)) [op] rfl (.tmp 25) (.tmp 29) rfl rfl rfl HO7.out HS7.out (by simp; omega) hs7 HB7.out ?_)
      intro v8 w8 ho8 hb8 hg8
      have HO8 := hide ho8
      have HB8 := hide hb8
      have HG8 := hide (hg8 54 (by decide) _ _ _ HG7.out)
      obtain ⟨a8, c8, rfl⟩ := row_shape ho8
      have hs8 := hb8.size
      clear ho8 hb8 hg8 x0 x1 x2
      obtain ⟨y0, y1⟩ := cells2 HG8.out
      obtain ⟨L8, hL8⟩ : ∃ L, enc (c.take i) ++ [op] = L := ⟨_, rfl⟩
      have HL8 := hide hL8
      have HLL8 := hide (show L8.length = (enc (c.take i)).length + 1 by rw [← hL8]; simp)
      rw [hL8] at HO8
      rw [hL8]
      clear hL8
      rcases nargs_le op with hn | hn | hn
      · have HNA := hide hn
        rw [hn]
        clear hn
        go_wp2_with fail
        refine wp_loop_rounds 3 ?_
        rw [rounds_succ]
        go_wp2_with fail
        refine ⟨⟨i + 1, by omega, by simp, ?_, HB8.out⟩, by simp [intOf]; omega⟩
        rw [enc_take HX.out]
        have e : enc (c.take i) ++ encI (op, A, B) = L8 := by rw [← HL8.out]; unfold encI; simp [HNA.out]
        rw [e]
        exact HO8.out
      · have HNA := hide hn
        rw [hn]
        clear hn
        go_wp2_with fail
        refine wp_loop_rounds 3 ?_
        rw [rounds_succ]
        go_wp2_with fail
        refine (ref_uvarint w8 A hOA).mono ?_
        rintro e w9 ⟨vm, rfl, hom, hbm⟩
        have HSm8 := hide (own_src hom (Uv.uv_lt A hOA))
        have HOm8 := hide (own_keep HO8.out hbm)
        have HBm8 := hide (HB8.out.trans (hbm.mono hs8))
        have HGm8 := hide (keepTy_below hbm 54 _ _ _ HG8.out)
        have hsm8 := HBm8.out.size
        have huv8 := (Uv.uv_len A).1
        obtain ⟨am8, cm8, rfl⟩ := row_shape hom
        clear hom hbm
        go_wp2_with (refine append_srcK w w9 w.heap.size _ _ L8 (Uv.uv A) rfl (.tmp 37) (.tmp 39) rfl rfl rfl HOm8.out HSm8.out (by have := HLL8.out; omega) hsm8 HBm8.out ?_)
        intro vb w10 hob hbb hgb
        have HO10 := hide hob
        have HB10 := hide hbb
        have HG10 := hide (hgb 54 (by decide) _ _ _ HGm8.out)
        have hs10 := hbb.size
        obtain ⟨ab10, cb10, rfl⟩ := row_shape hob
        clear hob hbb hgb y0 y1
        obtain ⟨y0, y1⟩ := cells2 HG10.out
        obtain ⟨L10, hL10⟩ : ∃ L, L8 ++ Uv.uv A = L := ⟨_, rfl⟩
        have HL10 := hide hL10
        have HLL10 := hide (show L10.length = L8.length + (Uv.uv A).length by rw [← hL10]; simp)
        rw [hL10] at HO10
        rw [hL10]
        clear hL10
        go_wp2_with fail
        rw [rounds_succ]
        go_wp2_with fail
        refine ⟨⟨i + 1, by omega, by simp, ?_, HB10.out⟩, by simp [intOf]; omega⟩
        rw [enc_take HX.out]
        have e : enc (c.take i) ++ encI (op, A, B) = L10 := by rw [← HL10.out, ← HL8.out]; unfold encI; simp [HNA.out]
        rw [e]
        exact HO10.out
      · have HNA := hide hn
        rw [hn]
        clear hn
        go_wp2_with fail
        refine wp_loop_rounds 3 ?_
        rw [rounds_succ]
        go_wp2_with fail
        refine (ref_uvarint w8 A hOA).mono ?_
        rintro e w9 ⟨vm, rfl, hom, hbm⟩
        have HSm8 := hide (own_src hom (Uv.uv_lt A hOA))
        have HOm8 := hide (own_keep HO8.out hbm)
        have HBm8 := hide (HB8.out.trans (hbm.mono hs8))
        have HGm8 := hide (keepTy_below hbm 54 _ _ _ HG8.out)
        have hsm8 := HBm8.out.size
        have huv8 := (Uv.uv_len A).1
        obtain ⟨am8, cm8, rfl⟩ := row_shape hom
        clear hom hbm
        go_wp2_with (refine append_srcK w w9 w.heap.size _ _ L8 (Uv.uv A) rfl (.tmp 37) (.tmp 39) rfl rfl rfl HOm8.out HSm8.out (by have := HLL8.out; omega) hsm8 HBm8.out ?_)
        intro vb w10 hob hbb hgb
        have HO10 := hide hob
        have HB10 := hide hbb
        have HG10 := hide (hgb 54 (by decide) _ _ _ HGm8.out)
        have hs10 := hbb.size
        obtain ⟨ab10, cb10, rfl⟩ := row_shape hob
        clear hob hbb hgb y0 y1
        obtain ⟨y0, y1⟩ := cells2 HG10.out
        obtain ⟨L10, hL10⟩ : ∃ L, L8 ++ Uv.uv A = L := ⟨_, rfl⟩
        have HL10 := hide hL10
        have HLL10 := hide (show L10.length = L8.length + (Uv.uv A).length by rw [← hL10]; simp)
        rw [hL10] at HO10
        rw [hL10]
        clear hL10
        go_wp2_with fail
        rw [rounds_succ]
        go_wp2_with fail
        refine (ref_uvarint w10 B hOB).mono ?_
        rintro e w11 ⟨vm, rfl, hom, hbm⟩
        have HSm10 := hide (own_src hom (Uv.uv_lt B hOB))
        have HOm10 := hide (own_keep HO10.out hbm)
        have HBm10 := hide (HB10.out.trans (hbm.mono hs10))
        have HGm10 := hide (keepTy_below hbm 54 _ _ _ HG10.out)
        have hsm10 := HBm10.out.size
        have huv10 := (Uv.uv_len B).1
        obtain ⟨am10, cm10, rfl⟩ := row_shape hom
        clear hom hbm
        go_wp2_with (refine append_srcK w w11 w.heap.size _ _ L10 (Uv.uv B) rfl (.tmp 37) (.tmp 39) rfl rfl rfl HOm10.out HSm10.out (by have := HLL8.out; have := HLL10.out; omega) hsm10 HBm10.out ?_)
        intro vb w12 hob hbb hgb
        have HO12 := hide hob
        have HB12 := hide hbb
        have HG12 := hide (hgb 54 (by decide) _ _ _ HGm10.out)
        have hs12 := hbb.size
        obtain ⟨ab12, cb12, rfl⟩ := row_shape hob
        clear hob hbb hgb y0 y1
        obtain ⟨y0, y1⟩ := cells2 HG12.out
        obtain ⟨L12, hL12⟩ : ∃ L, L10 ++ Uv.uv B = L := ⟨_, rfl⟩
        have HL12 := hide hL12
        have HLL12 := hide (show L12.length = L10.length + (Uv.uv B).length by rw [← hL12]; simp)
        rw [hL12] at HO12
        rw [hL12]
        clear hL12
        go_wp2_with fail
        rw [rounds_succ]
        go_wp2_with fail
        refine ⟨⟨i + 1, by omega, by simp, ?_, HB12.out⟩, by simp [intOf]; omega⟩
        rw [enc_take HX.out]
        have e : enc (c.take i) ++ encI (op, A, B) = L12 := by rw [← HL12.out, ← HL10.out, ← HL8.out]; unfold encI; simp [HNA.out]
        rw [e]
        exact HO12.out
    · obtain rfl : i = c.length := by omega
      rw [List.take_length] at HOR ⊢
      have HBE := hide hb
      go_wp2_with fail
      go_ret2
      exact ⟨_, rfl, HOR.out, HBE.out⟩
end Go.Proofs.YtbimpoabiafdaaaDoor
