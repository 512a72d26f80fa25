/- the orders of the region of copied -/
import Derived.Test.YtbimpoabiafdaaaDoorCf
namespace Go.Proofs.YtbimpoabiafdaaaDoor
open Go.RowKit Vf
def act9 (p0 p1 : Nat) (aa ac an ad ab : Option Addr) (ca cc cn cd cb : Nat) (al : Bool) (P : Prg) (s3 s6 s9 s10 s13 s16 s19 s20 s23 s24 : Value) : Act := { tmps := #[(.agg #[.slice aa P.avgs.length ca, .slice ac P.cur.length cc, .slice an P.nears.length cn, .bool al, .slice ad P.drive.length cd, .slice ab P.code.length cb]), .pointer (some ⟨p0, 0, none⟩), .pointer (some ⟨p1, 0, none⟩), s3, undef, undef, s6, .pointer (some ⟨p0, 0, none⟩), .slice aa P.avgs.length ca, s9, s10, .pointer (some ⟨p0, 1, none⟩), .slice ac P.cur.length cc, s13, .pointer (some ⟨p0, 3, none⟩), .bool al, s16, .pointer (some ⟨p0, 4, none⟩), .slice ad P.drive.length cd, s19, s20, .pointer (some ⟨p0, 5, none⟩), .slice ab P.code.length cb, s23, s24, undef, undef, undef, undef, undef, undef, undef, undef, undef, undef, undef, undef, undef, undef, undef, undef, undef, undef, undef, undef, undef, undef, undef, undef, undef], defers := [] }
set_option maxRecDepth 100000 in
set_option maxHeartbeats 8000000 in
theorem cp_orders (W : World) (p0 p1 : Nat) (aa ac an ad ab : Option Addr) (ca cc cn cd cb : Nat) (al : Bool) (P : Prg)
    (hP : PrgAt W (.slice aa P.avgs.length ca) (.slice ac P.cur.length cc) (.slice an P.nears.length cn) (.slice ad P.drive.length cd) (.slice ab P.code.length cb) P) (hL : Little P 1099511627776) (Q : Exit → Act → World → Prop)
    (hend : ∀ (A : Nat) (s6 s9 s10 s13 s16 s19 s20 s23 : Value) (w1 : World), Below W.heap.size W w1 → W.heap.size ≤ A → CpF W.heap.size P al true true true true true true true true true true (.pointer (some ⟨A, 0, none⟩)) s6 s9 s10 s13 s16 s19 s20 s23 (.agg #[s9, s13, .slice none 0 0, .bool al, s19, s23]) w1 → w1.heap[A]? = some (.cells #[.slice none 0 0, .slice none 0 0, .slice none 0 0, .bool false, .slice none 0 0, .slice none 0 0] 27 (0, 0)) → wpAnyH Tryd.prog .any ops9_1 Q (fun w1 => Below W.heap.size W w1) 1 (lst9 true true true true true true true true true true) (act9 p0 p1 aa ac an ad ab ca cc cn cd cb al P (.pointer (some ⟨A, 0, none⟩)) s6 s9 s10 s13 s16 s19 s20 s23 (.agg #[s9, s13, .slice none 0 0, .bool al, s19, s23])) w1) :
    wpAnyH Tryd.prog .any ops9_1 Q (fun w1 => Below W.heap.size W w1) 11 (lst9 false false false false false false false false false false) (act9 p0 p1 aa ac an ad ab ca cc cn cd cb al P undef undef undef undef undef undef undef undef undef undef) W.drew := by
  have HP := hide hP
  have HEND := hide hend
  have l1 := hL.avgs
  have l2 := hL.cur
  have l4 := hL.drive
  have l5 := hL.code
  clear hP hend hL
  refine anyH_inv 1 (fun k listed a wv => ∃ (b0 b3 b4 b7 b10 b13 b14 b17 b18 b19 : Bool) (s3 s6 s9 s10 s13 s16 s19 s20 s23 s24 : Value), (ch9 b0 b3 b4 b7 b10 b13 b14 b17 b18 b19 = true) ∧ k = cnt9 b0 b3 b4 b7 b10 b13 b14 b17 b18 b19 ∧ listed = lst9 b0 b3 b4 b7 b10 b13 b14 b17 b18 b19 ∧ a = act9 p0 p1 aa ac an ad ab ca cc cn cd cb al P s3 s6 s9 s10 s13 s16 s19 s20 s23 s24 ∧ Below W.heap.size W wv ∧ CpF W.heap.size P al b0 b3 b4 b7 b10 b13 b14 b17 b18 b19 s3 s6 s9 s10 s13 s16 s19 s20 s23 s24 wv) ?_ ?_ 10 _ _ _ ?_
  · rintro listed a wv ⟨b0, b3, b4, b7, b10, b13, b14, b17, b18, b19, s3, s6, s9, s10, s13, s16, s19, s20, s23, s24, hch, hk, rfl, rfl, hb, hf⟩
    have hall := all_done hk
    obtain ⟨rfl, rfl, rfl, rfl, rfl, rfl, rfl, rfl, rfl, rfl⟩ := hall
    have hf2 := hf
    obtain ⟨o0, o1, o2, o3, hF, n0, f0, n1, f1, n2, f2, n3, f3, h18, h19⟩ := hf2
    obtain ⟨A, rfl, hA, hz⟩ := h19 rfl
    obtain rfl := h18 rfl
    exact HEND.out A s6 s9 s10 s13 s16 s19 s20 s23 wv hb hA hf hz
  · rintro k listed a wv ⟨b0, b3, b4, b7, b10, b13, b14, b17, b18, b19, s3, s6, s9, s10, s13, s16, s19, s20, s23, s24, hch, hk, rfl, rfl, hb, hf⟩
    have hr := ready9 b0 b3 b4 b7 b10 b13 b14 b17 b18 b19 hch
    refine ⟨hr.1, fun i hi => ?_⟩
    have hok := List.all_eq_true.1 hr.2 i hi
    have hsv := hb.size
    clear hr hi
    simp only [ok9, Bool.or_eq_true, Bool.and_eq_true, beq_iff_eq, Bool.not_eq_true'] at hok
    rcases hok with (((((((((c0 | c3) | c4) | c7) | c10) | c13) | c14) | c17) | c18) | c19) | c20
    · obtain ⟨rfl, rfl⟩ := c0
      obtain ⟨hu1, hc, hu3⟩ := up_b0 false b3 b4 b7 b10 b13 b14 b17 b18 b19 hch rfl
      refine wpOp_step (o := { dst := some 6, op := Op.buildSlice 22 0 #[], type := 22, pos := "law.go:35", after := #[], guard := none }) rfl (fun K hK => ?_)
      have HK := hide hK
      clear hK
      have hq := hb.trans (((Below.refl wv.heap.size wv).alloc (Nat.le_refl _) (.cells #[] 3)).mono hsv)
      have HF := hide (cpf_new0 hf hc hsv)
      clear hf
      unfold act9
      go_simp
      refine HK.out _ _ ⟨hq, true, b3, b4, b7, b10, b13, b14, b17, b18, b19, s3, .slice (some ⟨wv.heap.size, 0, none⟩) 0 0, s9, s10, s13, s16, s19, s20, s23, s24, ?_, ?_, rfl, rfl, hq, HF.out⟩
      · exact hu1
      · omega
    · obtain ⟨⟨rfl, hb0⟩, rfl⟩ := c3
      obtain ⟨hu1, h18f, hu3⟩ := up_b3 b0 false b4 b7 b10 b13 b14 b17 b18 b19 hch rfl hb0
      refine wpOp_step (o := { dst := some 9, op := Op.call { callee := Callee.builtin Builtin.append, args := #[Operand.tmp 6, Operand.tmp 8], argTypes := #[22, 22] }, type := 22, pos := "law.go:35", after := #[{ on := 0, ground := Ground.data }, { on := 2, ground := Ground.data }], guard := none }) rfl (fun K hK => ?_)
      have HK := hide hK
      clear hK
      obtain ⟨v', w', hr', hf', row, hg, hrow⟩ := cpf_app0 hf hb0 rfl h18f hsv 22 _ (srcc_keep (srcc_ints HP.out.avgs) hb) l1
      have hq := hb.grown hg hsv hrow
      unfold act9
      refine step_run 22 _ w' _ _ v' rfl (.tmp 6) (.tmp 8) rfl rfl rfl hr' ?_
      refine HK.out _ _ ⟨hq, b0, true, b4, b7, b10, b13, b14, b17, b18, b19, s3, s6, v', s10, s13, s16, s19, s20, s23, s24, ?_, ?_, rfl, rfl, hq, hf'⟩
      · exact hu1
      · omega
    · obtain ⟨rfl, rfl⟩ := c4
      obtain ⟨hu1, hc, hu3⟩ := up_b4 b0 b3 false b7 b10 b13 b14 b17 b18 b19 hch rfl
      refine wpOp_step (o := { dst := some 10, op := Op.buildSlice 23 0 #[], type := 23, pos := "law.go:35", after := #[], guard := none }) rfl (fun K hK => ?_)
      have HK := hide hK
      clear hK
      have hq := hb.trans (((Below.refl wv.heap.size wv).alloc (Nat.le_refl _) (.cells #[] 63)).mono hsv)
      have HF := hide (cpf_new1 hf hc hsv)
      clear hf
      unfold act9
      go_simp
      refine HK.out _ _ ⟨hq, b0, b3, true, b7, b10, b13, b14, b17, b18, b19, s3, s6, s9, .slice (some ⟨wv.heap.size, 0, none⟩) 0 0, s13, s16, s19, s20, s23, s24, ?_, ?_, rfl, rfl, hq, HF.out⟩
      · exact hu1
      · omega
    · obtain ⟨⟨⟨rfl, hb0⟩, hb1⟩, rfl⟩ := c7
      obtain ⟨hu1, h18f, hu3⟩ := up_b7 b0 b3 b4 false b10 b13 b14 b17 b18 b19 hch rfl hb0 hb1
      refine wpOp_step (o := { dst := some 13, op := Op.call { callee := Callee.builtin Builtin.append, args := #[Operand.tmp 10, Operand.tmp 12], argTypes := #[23, 23] }, type := 23, pos := "law.go:35", after := #[{ on := 4, ground := Ground.data }, { on := 6, ground := Ground.data }, { on := 3, ground := Ground.chain }], guard := none }) rfl (fun K hK => ?_)
      have HK := hide hK
      clear hK
      obtain ⟨v', w', hr', hf', row, hg, hrow⟩ := cpf_app1 hf hb0 rfl h18f hsv 23 _ (srcc_keep (srcc_leafs HP.out.cur) hb) l2
      have hq := hb.grown hg hsv hrow
      unfold act9
      refine step_run 23 _ w' _ _ v' rfl (.tmp 10) (.tmp 12) rfl rfl rfl hr' ?_
      refine HK.out _ _ ⟨hq, b0, b3, b4, true, b10, b13, b14, b17, b18, b19, s3, s6, s9, s10, v', s16, s19, s20, s23, s24, ?_, ?_, rfl, rfl, hq, hf'⟩
      · exact hu1
      · omega
    · obtain ⟨rfl, rfl⟩ := c10
      obtain ⟨hu1, hc, hu3⟩ := up_b10 b0 b3 b4 b7 false b13 b14 b17 b18 b19 hch rfl
      refine wpOp_step (o := { dst := some 16, op := Op.buildSlice 22 0 #[], type := 22, pos := "law.go:35", after := #[], guard := none }) rfl (fun K hK => ?_)
      have HK := hide hK
      clear hK
      have hq := hb.trans (((Below.refl wv.heap.size wv).alloc (Nat.le_refl _) (.cells #[] 3)).mono hsv)
      have HF := hide (cpf_new2 hf hc hsv)
      clear hf
      unfold act9
      go_simp
      refine HK.out _ _ ⟨hq, b0, b3, b4, b7, true, b13, b14, b17, b18, b19, s3, s6, s9, s10, s13, .slice (some ⟨wv.heap.size, 0, none⟩) 0 0, s19, s20, s23, s24, ?_, ?_, rfl, rfl, hq, HF.out⟩
      · exact hu1
      · omega
    · obtain ⟨⟨⟨rfl, hb0⟩, hb1⟩, rfl⟩ := c13
      obtain ⟨hu1, h18f, hu3⟩ := up_b13 b0 b3 b4 b7 b10 false b14 b17 b18 b19 hch rfl hb0 hb1
      refine wpOp_step (o := { dst := some 19, op := Op.call { callee := Callee.builtin Builtin.append, args := #[Operand.tmp 16, Operand.tmp 18], argTypes := #[22, 22] }, type := 22, pos := "law.go:35", after := #[{ on := 10, ground := Ground.data }, { on := 12, ground := Ground.data }, { on := 7, ground := Ground.chain }], guard := none }) rfl (fun K hK => ?_)
      have HK := hide hK
      clear hK
      obtain ⟨v', w', hr', hf', row, hg, hrow⟩ := cpf_app2 hf hb0 rfl h18f hsv 22 _ (srcc_keep (srcc_ints HP.out.drive) hb) l4
      have hq := hb.grown hg hsv hrow
      unfold act9
      refine step_run 22 _ w' _ _ v' rfl (.tmp 16) (.tmp 18) rfl rfl rfl hr' ?_
      refine HK.out _ _ ⟨hq, b0, b3, b4, b7, b10, true, b14, b17, b18, b19, s3, s6, s9, s10, s13, s16, v', s20, s23, s24, ?_, ?_, rfl, rfl, hq, hf'⟩
      · exact hu1
      · omega
    · obtain ⟨rfl, rfl⟩ := c14
      obtain ⟨hu1, hc, hu3⟩ := up_b14 b0 b3 b4 b7 b10 b13 false b17 b18 b19 hch rfl
      refine wpOp_step (o := { dst := some 20, op := Op.buildSlice 25 0 #[], type := 25, pos := "law.go:35", after := #[], guard := none }) rfl (fun K hK => ?_)
      have HK := hide hK
      clear hK
      have hq := hb.trans (((Below.refl wv.heap.size wv).alloc (Nat.le_refl _) (.cells #[] 5)).mono hsv)
      have HF := hide (cpf_new3 hf hc hsv)
      clear hf
      unfold act9
      go_simp
      refine HK.out _ _ ⟨hq, b0, b3, b4, b7, b10, b13, true, b17, b18, b19, s3, s6, s9, s10, s13, s16, s19, .slice (some ⟨wv.heap.size, 0, none⟩) 0 0, s23, s24, ?_, ?_, rfl, rfl, hq, HF.out⟩
      · exact hu1
      · omega
    · obtain ⟨⟨⟨rfl, hb0⟩, hb1⟩, rfl⟩ := c17
      obtain ⟨hu1, h18f, hu3⟩ := up_b17 b0 b3 b4 b7 b10 b13 b14 false b18 b19 hch rfl hb0 hb1
      refine wpOp_step (o := { dst := some 23, op := Op.call { callee := Callee.builtin Builtin.append, args := #[Operand.tmp 20, Operand.tmp 22], argTypes := #[25, 25] }, type := 25, pos := "law.go:35", after := #[{ on := 14, ground := Ground.data }, { on := 16, ground := Ground.data }, { on := 13, ground := Ground.chain }], guard := none }) rfl (fun K hK => ?_)
      have HK := hide hK
      clear hK
      obtain ⟨v', w', hr', hf', row, hg, hrow⟩ := cpf_app3 hf hb0 rfl h18f hsv 25 _ (srcc_keep (srcc_src HP.out.code) hb) l5
      have hq := hb.grown hg hsv hrow
      unfold act9
      refine step_run 25 _ w' _ _ v' rfl (.tmp 20) (.tmp 22) rfl rfl rfl hr' ?_
      refine HK.out _ _ ⟨hq, b0, b3, b4, b7, b10, b13, b14, true, b18, b19, s3, s6, s9, s10, s13, s16, s19, s20, v', s24, ?_, ?_, rfl, rfl, hq, hf'⟩
      · exact hu1
      · omega
    · obtain ⟨⟨rfl, hb0⟩, rfl⟩ := c18
      obtain ⟨hu1, _, hu3⟩ := up_b18 b0 b3 b4 b7 b10 b13 b14 b17 false b19 hch rfl hb0
      have hfar := far b0 b3 b4 b7 b10 b13 b14 b17 false b19 hch hb0
      simp only [Bool.and_eq_true] at hfar
      obtain ⟨⟨k3, k7⟩, k13⟩ := hfar
      obtain ⟨⟨a9, c9, rfl⟩, ⟨a13, c13, rfl⟩, ⟨a19, c19, rfl⟩, ⟨a23, c23, rfl⟩⟩ := cpf_shape hf k3 k7 k13 hb0
      clear k3 k7 k13
      refine wpOp_step (o := { dst := some 24, op := Op.build 27 #[(0, Operand.tmp 9), (1, Operand.tmp 13), (3, Operand.tmp 15), (4, Operand.tmp 19), (5, Operand.tmp 23)], type := 27, pos := "law.go:35", after := #[{ on := 3, ground := Ground.data }, { on := 7, ground := Ground.data }, { on := 9, ground := Ground.data }, { on := 13, ground := Ground.data }, { on := 17, ground := Ground.data }], guard := none }) rfl (fun K hK => ?_)
      have HK := hide hK
      clear hK
      have HF := hide (cpf_build hf)
      clear hf
      unfold act9
      go_simp
      refine HK.out _ _ ⟨hb, b0, b3, b4, b7, b10, b13, b14, b17, true, b19, s3, s6, _, s10, _, s16, _, s20, _, _, ?_, ?_, rfl, rfl, hb, HF.out⟩
      · exact hu1
      · omega
    · obtain ⟨rfl, rfl⟩ := c19
      obtain ⟨hu1, _, hu3⟩ := up_b19 b0 b3 b4 b7 b10 b13 b14 b17 b18 false hch rfl
      refine wpOp_step (o := { dst := some 3, op := Op.alloc 27, type := 0, pos := "law.go:35", after := #[], guard := none }) rfl (fun K hK => ?_)
      have HK := hide hK
      clear hK
      have hq := hb.trans (((Below.refl wv.heap.size wv).alloc (Nat.le_refl _) (.cells #[.slice none 0 0, .slice none 0 0, .slice none 0 0, .bool false, .slice none 0 0, .slice none 0 0] 27)).mono hsv)
      have HF := hide (cpf_alloc hf hsv)
      clear hf
      unfold act9
      go_simp
      refine HK.out _ _ ⟨hq, b0, b3, b4, b7, b10, b13, b14, b17, b18, true, .pointer (some ⟨wv.heap.size, 0, none⟩), s6, s9, s10, s13, s16, s19, s20, s23, s24, ?_, ?_, rfl, rfl, hq, HF.out⟩
      · exact hu1
      · omega
    · obtain ⟨⟨rfl, h18⟩, h19⟩ := c20
      have := no_more b0 b3 b4 b7 b10 b13 b14 b17 b18 b19 hch h18 h19
      omega
  · exact ⟨false, false, false, false, false, false, false, false, false, false, undef, undef, undef, undef, undef, undef, undef, undef, undef, undef, rfl, rfl, rfl, rfl, (Below.refl _ _).drew, none, none, none, none, by rw [r4_none]; exact fa_none _ _, by simp, by simp, by simp, by simp, by simp, by simp, by simp, by simp, by simp, by simp⟩
end Go.Proofs.YtbimpoabiafdaaaDoor
