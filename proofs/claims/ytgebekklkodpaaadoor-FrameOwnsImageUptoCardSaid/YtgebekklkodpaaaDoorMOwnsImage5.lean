/- texts of this proof, one behind the other: Op PkF Law Laid Open Upto Ties OpenBl -/
import Derived.Test.YtgebekklkodpaaaDoorMOwnsImage0
import Derived.Test.YtgebekklkodpaaaDoorMOwnsImage1
import Derived.Test.YtgebekklkodpaaaDoorMOwnsImage2
import Derived.Test.YtgebekklkodpaaaDoorMOwnsImage3
import Derived.Test.YtgebekklkodpaaaDoorMOwnsImage4
import Derived.Laws.CopyOwn
import Derived.Test.YtgebekklkodpaaaDoorCards
import Derived.Test.YtgebekklkodpaaaDoorTie
import Derived.ProofKit
import Derived.OpenShut
import Derived.Deep.DeepHandedRow
import Derived.Lib.LaidTab
import Derived.LaidMore
import Derived.LaidHandle
import Derived.Stop.LaidErr
import Derived.SizedLaws
import Derived.Deep.SlicePairs
/-! Op: the law's 'opened': rule 5 of Unpack -/
namespace Go.Proofs.YtgebekklkodpaaaDoor
open Go.RowKit

/-- other tags, zeros for bodies -/
def emptied (bl : List Bl) : List Bl := bl.map fun x => ((x.1 ^^^ 255) ||| 1, List.replicate x.2.length 0)
theorem tag_or : ∀ t, t < 256 → (t ^^^ 255) ||| 1 < 256 ∧ (t ^^^ 255) ||| 1 ≠ 0 := by decide +kernel
theorem emptied_encs (bl : List Bl) : (encs (emptied bl)).length = (encs bl).length := by
  induction bl with
  | nil => rfl
  | cons x r ih =>
    have h1 := enc_length x.1 x.2
    have h2 := enc_length ((x.1 ^^^ 255) ||| 1) (List.replicate x.2.length 0)
    rw [List.length_replicate] at h2
    simp only [encs, emptied, List.map_cons, List.flatMap_cons, List.length_append] at *
    omega
theorem emptied_img (kind : Nat) (bl : List Bl) : (img kind (emptied bl)).length = (img kind bl).length := by
  have h1 := emptied_encs bl
  have h2 : (emptied bl).length = bl.length := by simp [emptied]
  simp only [img, imgBody, imgHead, List.length_append, h1, h2, Uv.word, List.length_cons, List.length_nil]
theorem emptied_tot (bl : List Bl) : tot (emptied bl) = tot bl := by
  induction bl with
  | nil => rfl
  | cons x r ih =>
    simp only [emptied, tot, List.map_cons, List.sum_cons, List.length_replicate] at *
    omega
theorem emptied_ok {bl : List Bl} (h : ∀ x ∈ bl, x.1 < 256 ∧ x.2.length < 18446744073709551616) : ∀ x ∈ emptied bl, x.1 ≠ 0 ∧ x.1 < 256 ∧ (∀ y ∈ x.2, y < 256) ∧ x.2.length < 18446744073709551616 := by
  intro x hx
  obtain ⟨y, hy, rfl⟩ := List.mem_map.1 hx
  obtain ⟨h1, h2⟩ := tag_or y.1 (h y hy).1
  refine ⟨h2, h1, fun z hz => ?_, by simp only [List.length_replicate]; exact (h y hy).2⟩
  have := List.eq_of_mem_replicate hz
  omega
/-- errors that Unpack may answer -/
theorem unpF_some {E : Nat → Addr} {B kind : Nat} {im : List Nat} {bl : List Bl} {e : Ending} {w' : World} (h : UnpOutF E B kind im e w') (hu : unp kind im = .inr bl) : ∃ v its, blOf its = bl ∧ e = .returned (.tuple #[v, .nilIface]) ∧ BFam w' B v its := by
  rw [UnpOutF, hu] at h
  exact h
theorem row_put {w : World} {B e s g n cap : Nat} {xs : List Value} (h : w.ownsRow B e s (.slice (some ⟨g, 0, none⟩) n cap) n xs) (j : Nat) (u : Value) : (w.setCell ⟨g, j, none⟩ u).ownsRow B e s (.slice (some ⟨g, 0, none⟩) n cap) n (xs.set j u) := by
  obtain ⟨hl, h⟩ := h
  refine ⟨by rw [List.length_set]; exact hl, ?_⟩
  rcases h with ⟨h, _⟩ | ⟨g', cap', cur, hv, hb, hh, hn, hm, hs, ht⟩
  · simp at h
  · simp only [Value.slice.injEq, Option.some.injEq, Addr.mk.injEq] at hv
    obtain ⟨⟨rfl, _⟩, _, rfl⟩ := hv
    refine .inr ⟨g, cap, cur.setIfInBounds j u, rfl, hb, heap_set hh _, hn, hm, by rw [Array.size_setIfInBounds]; exact hs, ?_⟩
    rw [Array.toList_setIfInBounds, List.take_set, ht]
theorem row_cells {w : World} {B e s g n cap : Nat} {xs : List Value} (h : w.ownsRow B e s (.slice (some ⟨g, 0, none⟩) n cap) n xs) (j : Nat) (u : Value) (hu : xs[j]? = some u) : w.cell? ⟨g, j, none⟩ = some u ∧ w.frozen? ⟨g, j, none⟩ = false := by
  refine ⟨?_, ?_⟩
  · have h1 := World.ownsRow.cells h (g := g) rfl j u hu
    rwa [Addr.add_lit, Nat.zero_add] at h1
  · rcases h.2 with ⟨h, _⟩ | ⟨g', cap', cur, hv, hb, hh, _⟩
    · simp at h
    · simp only [Value.slice.injEq, Option.some.injEq, Addr.mk.injEq] at hv
      obtain ⟨⟨rfl, _⟩, _, rfl⟩ := hv
      exact free_at hh j
theorem append_heads2 {ops : Array Oper} {rest : List Oper} {o : Oper} {a : Act} {Q : Exit → Act → World → Prop} (w0 w : World) (B B2 : Nat) (v u : Value) (vs us : List Value) (hgd : o.guard = none) (s y : Operand)
    (ho : o.op = .call { callee := .builtin .append, args := #[s, y], argTypes := #[62, 62] }) (hs : a.eval s = v) (hy : a.eval y = u)
    (hown : HOwn w B v vs) (hu : HOwn w B2 u us) (hone : ∀ x ∈ us, x.oneCell' = true) (hl : vs.length + us.length ≤ 2199023255552) (hB : B ≤ w.heap.size) (hb : Below B w0 w)
    (h : ∀ v' w', HOwn w' B v' (vs ++ us) → Below B w0 w' → wpList Tryd.prog ops Q rest (a.put o.dst v') w') :
    wpList Tryd.prog ops Q (o :: rest) a w := by
  obtain ⟨v', w', hr, h1, h2⟩ := run_heads w B B2 v u vs us o.type hown hu hone hl hB
  refine wpList_plain hgd fun K hK => ?_
  unfold Oper.wp execOp
  simp only [ho, resolve, invoke, builtin, Sem.run_bind, Sem.run_pure, Result.andThen_ok, List.map_toArray, List.map_cons, List.map_nil, hs, hy, hr]
  exact hK _ _ (h v' w' h1 (hb.grown h2 hB (fun k hk => (World.ownsRow.lt hown k hk).1)))
theorem row_away {w w' : World} {B e s n g : Nat} {v : Value} {xs : List Value} (h : w.ownsRow B e s v n xs) (hg : w.grownBy w' (some g)) (hB : g < B) : w'.ownsRow B e s v n xs := by
  refine World.ownsRow.kept h hg ?_
  cases hb : v.ownBlock with
  | none => exact .inl rfl
  | some k => exact .inr (fun e => by have := (World.ownsRow.lt h k hb).1; have := Option.some.inj e; omega)
theorem bfam_away {w w' : World} {B g : Nat} {v : Value} {its : List It} (h : BFam w B v its) (hg : w.grownBy w' (some g)) (hB : g < B) : BFam w' B v its :=
  ⟨row_away h.1 hg hB, h.2.1, ⟨fun i r hr => ⟨row_away (h.2.2.1 i r hr).1 hg hB, (h.2.2.1 i r hr).2⟩, h.2.2.2⟩⟩
theorem copy_alone {ops : Array Oper} {rest : List Oper} {o : Oper} {a : Act} {Q : Exit → Act → World → Prop} (w : World) (hgd : o.guard = none) (d s : Operand)
    (ho : o.op = .call { callee := .builtin .copy, args := #[d, s], argTypes := #[25, 25] }) (g dLen dCap : Nat) (ad : Addr) (sLen sCap : Nat) (hd : a.eval d = .slice (some ⟨g, 0, none⟩) dLen dCap) (hs : a.eval s = .slice (some ad) sLen sCap)
    (cur : List Value) (hg : w.heap[g]? = some (.cells cur.toArray 5 (0, 0))) (cs : List Value) (hn : cs.length = Nat.min sLen dLen) (hsrc : ∀ j v, cs[j]? = some v → w.cell? (ad.add j) = some v) (hfit : 0 + cs.length ≤ cur.length) (h1 : ∀ v ∈ cs, v.oneCell' = true)
    (h : ∀ w', Hid (w'.heap[g]? = some (.cells (splice cur 0 cs).toArray 5 (0, 0))) → w.grownBy w' (some g) → wpList Tryd.prog ops Q rest (a.put o.dst (goInt cs.length)) w') : wpList Tryd.prog ops Q (o :: rest) a w := by
  refine wpList_copy_own hgd d s 25 25 ho 5 Tryd.underlying25 size5 g 0 dLen dCap ad sLen sCap hd hs cur.toArray 5 hg cs hn hsrc (by simpa using hfit) h1 ?_
  exact h _ (show _ = _ by simpa [splice] using setRow_heap w g _ _ 5 _ hg) ⟨rfl, rfl, rfl, by simp [World.setRow], fun k _ hk => setRow_other w g k _ (fun e => hk (by rw [e]))⟩
theorem tag_bits : ∀ t : Nat, t < 256 → bits .or .u8 (bits .xor .u8 (t : Int) 255) 1 = ((((t ^^^ 255) ||| 1 : Nat)) : Int) := by decide +kernel
theorem wrap_u8_nat (x : Int) (h : 0 ≤ x) : IntKind.u8.wrap x = ((x.toNat % 256 : Nat) : Int) := by rw [IntKind.wrap_u8]; omega
theorem step_makeO {ops : Array Oper} {o : Oper} {a : Act} {K : Act → World → Prop} {Q : Exit → Act → World → Prop} {E : Prop} (w : World) (hw : Region.wanted o (yielded ops a.tmps) = true) (l c : Operand) (ho : o.op = Op.makeSlice 25 l c)
    (n : Nat) (hl : a.eval l = .int .i64 (n : Int)) (hc : a.eval c = .int .i64 (n : Int)) (hn : n ≤ 140737488355328)
    (h : K (a.put o.dst (.slice (some ⟨w.heap.size, 0, none⟩) n n)) (w.alloc (.cells (u8s (List.replicate n 0)).toArray 5))) :
    if Region.wanted o (yielded ops a.tmps) = true then Oper.wp Tryd.prog o a w K Q else E := by
  obtain ⟨i0, hi0, hz0, hz1, hz2⟩ := info_parts info5
  have hrun := run_make_row (P := Tryd.prog) 25 5 i0 (.int .u8 0) Tryd.underlying25 hi0 hz0 hz1 rfl .i64 .i64 n (by rw [hz2]; omega) (by omega) w
  rw [if_pos hw]
  unfold Oper.wp execOp
  simp only [ho, hl, hc, hrun, Sem.run_bind, Sem.run_pure, Result.andThen_ok]
  rw [made_zeros]
  exact h

set_option maxRecDepth 100000 in
set_option maxHeartbeats 8000000 in
theorem opened_any (w : World) (Z : Zip w) (S : SealT w) (E : Nat → Addr) (h0 : ErrAt w 0 (E 0)) (h1 : ErrAt w 1 (E 1)) (h2 : ErrAt w 2 (E 2)) (h5 : ErrAt w 5 (E 5)) (h6 : ErrAt w 6 (E 6)) (hg : 17 ≤ w.heap.size) (kind : Nat) (hk : kind < 256) (hk0 : kind ≠ 0)
    (v : Value) (bl : List Bl) (hv : Blocks w v bl) (hnz : ∀ x ∈ bl, x.1 ≠ 0 ∧ x.1 < 256 ∧ (∀ y ∈ x.2, y < 256) ∧ x.2.length < 18446744073709551616) (ht : tot bl ≤ 15728640) (iv : Value) (hi : Src w iv (img kind bl)) :
    Calls Tryd.prog 49 #[.int .u8 kind, v, iv] w fun e w' => e = .returned (.bool true) ∧ Below w.heap.size w w' := by
  obtain ⟨ao, cap, rfl⟩ := blocks_form' hv
  obtain ⟨ai, ci, rfl⟩ := src_form hi
  have hlen := len_tot bl
  have himl := img_len kind bl
  have hunp := unp_whole kind bl hk0 hk (by omega) hnz
  have hem := emptied_img kind bl
  have hunp2 := unp_whole kind (emptied bl) hk0 hk (by simp [emptied]; omega) (emptied_ok fun x hx => ⟨(hnz x hx).2.1, (hnz x hx).2.2.2⟩)
  obtain ⟨im, him⟩ : ∃ im, img kind bl = im := ⟨_, rfl⟩
  obtain ⟨im2, him2⟩ : ∃ im, img kind (emptied bl) = im := ⟨_, rfl⟩
  obtain ⟨N, hN⟩ : ∃ N, im.length = N := ⟨_, rfl⟩
  rw [him2, him, hN] at hem
  rw [him] at hi himl hunp ⊢
  rw [him2] at hunp2
  rw [hN] at himl
  have HIM := hide him
  have HIM2 := hide him2
  have HNB := hide hN
  have HNE := hide hem
  have HUN := hide hunp
  have HUN2 := hide hunp2
  have HNZ := hide hnz
  have HZ := hide Z
  have HS := hide S
  have HE0 := hide h0
  have HE1 := hide h1
  have HE2 := hide h2
  have HE5 := hide h5
  have HE6 := hide h6
  have HV := hide hv
  have HI := hide hi
  have HK0 := hide hk0
  clear Z S h0 h1 h2 h5 h6 hv hi him him2 hN hem hunp hunp2 hnz hk0
  have UNP : ∀ (W : World) (B : Nat) (x : Value) (m : List Nat), Below B w W → w.heap.size ≤ B → Src W x m → m.length ≤ 100000000 → Calls Tryd.prog 47 #[.int .u8 kind, x] W fun e w' => UnpOutF E W.heap.size kind m e w' ∧ Below W.heap.size W w' := by
    intro W B x m hb hB hs hm
    have hb' := hb.mono hB
    have := hb'.size
    exact unpack_anyF W (zip_below HZ.out hb' (by omega)) (seal_below HS.out hb' (by omega)) E (err_below HE0.out hb' (by omega)) (err_below HE1.out hb' (by omega)) (err_below HE2.out hb' (by omega)) (err_below HE5.out hb' (by omega)) (err_below HE6.out hb' (by omega)) (by omega) kind hk x m hs hm
  have HUP := hide UNP
  clear UNP
  have HSP := hide (spare_any w _ im HI.out (by have := HNB.out; omega))
  rw [HNB.out] at HSP ⊢
  go_enter Tryd.func49, Tryd.ntmps49
  go_wp2_with fail
  refine HSP.out.mono ?_
  rintro e w1 ⟨ga, rfl, hga, hh1, hb1⟩
  have HB1 := hide hb1
  have z1 := hb1.size
  have HH1 := hide hh1
  have hga1 := heap_lt hh1
  have H256 := hide HI.out.1
  have HA1 := hide (show Own w1 w.heap.size (.slice (some ⟨ga, 0, none⟩) N (N + 80)) im by
    have h := own_front (B := w.heap.size) hh1 hga (N + 80) (by rw [room_len, HNB.out]) (by rw [room_len, HNB.out]; omega)
    rw [HNB.out] at h
    exact h)
  clear hh1 hb1 HSP
  -- twice
  have HC := hide (HUP.out w1 w.heap.size _ im HB1.out (Nat.le_refl _) (own_src HA1.out H256.out) (by have := HNB.out; omega))
  go_wp2_with fail
  refine HC.out.mono ?_
  rintro e w2 ⟨hout, hb2⟩
  obtain ⟨va, itsA, hblA, rfl, hfA⟩ := unpF_some hout HUN.out
  have hlA : itsA.length = bl.length := by have := congrArg List.length hblA; simpa [blOf] using this
  obtain ⟨aA, cA, rfl⟩ := row_shape hfA.1
  rw [hlA]
  have HLA := hide hlA
  have HFA2 := hide (show BFam w2 w1.heap.size (.slice aA bl.length cA) itsA by rw [← hlA]; exact hfA)
  have HBA := hide hblA
  have HB2 := hide (HB1.out.trans (hb2.mono z1))
  have z2 := HB2.out.size
  have z12 := hb2.size
  have HA2 := hide (own_keep HA1.out hb2)
  have HH2 := hide ((hb2.block _ hga1).trans HH1.out)
  clear hout hb2 hblA hlA hfA HC HA1 HH1
  have HC := hide (HUP.out w2 w.heap.size _ im HB2.out (Nat.le_refl _) (own_src HA2.out H256.out) (by have := HNB.out; omega))
  go_wp2_with fail
  refine HC.out.mono ?_
  rintro e w3 ⟨hout, hb3⟩
  obtain ⟨vb, itsB, hblB, rfl, hfB⟩ := unpF_some hout HUN.out
  have hlB : itsB.length = bl.length := by have := congrArg List.length hblB; simpa [blOf] using this
  obtain ⟨aB, cB, rfl⟩ := row_shape hfB.1
  rw [hlB]
  have HLB := hide hlB
  have HFB3 := hide (show BFam w3 w2.heap.size (.slice aB bl.length cB) itsB by rw [← hlB]; exact hfB)
  have HBB := hide hblB
  have HB3 := hide (HB2.out.trans (hb3.mono z2))
  have z3 := HB3.out.size
  have z23 := hb3.size
  have HFA3 := hide (bfam_below HFA2.out hb3)
  have HFT := hide (show ∀ g, (Value.slice aA bl.length cA).ownBlock = some g → g < w2.heap.size from fun g h => (World.ownsRow.lt HFA2.out.1 g h).2)
  have HFR := hide (show ∀ r ∈ rwOf itsA, ∀ g, r.1.ownBlock = some g → g < w2.heap.size from fun r hr g h => (fam_at HFA2.out.2.2 hr h).2)
  have HA3 := hide (own_keep HA2.out hb3)
  have HH3 := hide ((hb3.block _ (by omega)).trans HH2.out)
  clear hout hb3 hblB hlB hfB HC HA2 HH2 HFA2
  have HV3 := hide (blocks_keep HV.out HB3.out)
  have HI3 := hide (src_keep HI.out HB3.out)
  have XA := hide (show Blocks w3 (.slice aA bl.length cA) bl by have h := bown_blocks (bfam_bown HFA3.out); rw [HBA.out] at h; exact h)
  have XB := hide (show Blocks w3 (.slice aB bl.length cB) bl by have h := bown_blocks (bfam_bown HFB3.out); rw [HBB.out] at h; exact h)
  have HSB := hide (same_blocks w3 _ _ bl XA.out HV3.out (by omega))
  go_wp2_with fail
  refine HSB.out.mono ?_
  rintro e w' ⟨rfl, q1, rfl⟩
  have hb4 := below_drewN (Below.refl w3.heap.size w3) q1
  have HSB2 := hide (same_blocks (w3.drewN q1) _ _ bl (blocks_keep XB.out hb4) (blocks_keep HV3.out hb4) (by omega))
  clear HSB hb4
  go_wp2_with fail
  refine HSB2.out.mono ?_
  rintro e w' ⟨rfl, q2, rfl⟩
  rw [World.drewN_drewN]
  have HKP := hide (kept_any (w3.drewN (q1 + q2)) ga _ im HH3.out (src_keep HI3.out (below_drewN (Below.refl w3.heap.size w3) (q1 + q2))) (by have := HNB.out; omega))
  rw [HNB.out] at HKP
  clear HSB2
  go_wp2_with fail
  refine HKP.out.mono ?_
  rintro e w' ⟨rfl, q3, rfl⟩
  rw [World.drewN_drewN]
  obtain ⟨q, hq⟩ : ∃ q, q1 + q2 + q3 = q := ⟨_, rfl⟩
  rw [hq]
  clear hq HKP
  have hb4 := below_drewN (Below.refl w3.heap.size w3) q
  have HB4 := hide (HB3.out.trans (hb4.mono z3))
  have HFA4 := hide (bfam_below HFA3.out hb4)
  have HFB4 := hide (bfam_below HFB3.out hb4)
  have HA4 := hide (own_keep HA3.out hb4)
  have z34 : w3.heap.size ≤ (w3.drewN q).heap.size := Nat.le_refl _
  clear hb4 HFA3 HFB3 HA3 HH3 XA XB HV3 HI3
  generalize w3.drewN q = w4 at *
  have zw4 := HB4.out.size
  have hq4 : Below w4.heap.size w4 (w4.alloc (.cells #[.int .u8 99, .slice none 0 0] 47)) := (Below.refl _ _).alloc (Nat.le_refl _) _
  have HQ4 := hide hq4
  have HR4 := hide (show (w4.alloc (.cells #[.int .u8 99, .slice none 0 0] 47)).ownsRow w1.heap.size 47 2 (.slice aA bl.length cA) itsA.length (cellsOf itsA) from row_keepTy HFA4.out.1 (keepTy_below hq4 47))
  have HH4 := hide (heap_new (w := w4) rfl (.cells #[.int .u8 99, .slice none 0 0] 47))
  have hzq := hq4.size
  have HLL := hide (show itsA.length ≤ 1099511627776 by rw [HLA.out]; omega)
  have HBQ := hide (show w1.heap.size ≤ (w4.alloc (.cells #[.int .u8 99, .slice none 0 0] 47)).heap.size by omega)
  clear hq4
  go_wp2_with (refine append_outer _ _ w1.heap.size w4.heap.size _ itsA (99, .slice none 0 0, []) rfl (.tmp 63) (.tmp 65) rfl rfl rfl HR4.out ⟨_, _, _, rfl⟩ HH4.out HLL.out HBQ.out (Below.refl _ _) ?_)
  intro g5 c5 w5 hr5 hg5 hb5
  rw [HLA.out]
  have HG5 := hide hg5
  have HA4q := hide (own_keep HA4.out HQ4.out)
  have HFB4q := hide (bfam_below HFB4.out HQ4.out)
  have HFA4q := hide (bfam_below HFA4.out HQ4.out)
  have hneAB : ∀ g, (Value.slice aB bl.length cB).ownBlock = some g → (Value.slice aA bl.length cA).ownBlock ≠ some g := fun g h e => by
    have := HFT.out g e
    have := (World.ownsRow.lt HFB4.out.1 g h).1
    omega
  have HNEAB := hide hneAB
  have HFB5 := hide (bfam_beside HFB4q.out hg5 HR4.out hneAB)
  have HFA5 := hide (show BFam w5 w1.heap.size (.slice aA bl.length cA) itsA from ⟨hr5, HFA4q.out.2.1, fam_kept HFA4q.out.2.2 hg5 (notTy_row HR4.out (by decide))⟩)
  have HA5 := hide (row_kept HA4q.out hg5 (notTy_row HR4.out (by decide)))
  have HB5 := hide ((HB4.out.trans (HQ4.out.mono zw4)).trans (hb5.mono z1))
  have zw5 := HB5.out.size
  have z45 := hb5.size
  have HV5 := hide (blocks_keep HV.out HB5.out)
  have XB := hide (show Blocks w5 (.slice aB bl.length cB) bl by have h := bown_blocks (bfam_bown HFB5.out); rw [HBB.out] at h; exact h)
  have HSB := hide (same_blocks w5 _ _ bl XB.out HV5.out (by omega))
  clear hr5 hg5 hb5 hneAB HA4 HFA4 HFB4 HA4q HFB4q HFA4q HQ4 HR4 HH4 HLL HBQ HG5 XB HV5
  go_wp2_with fail
  refine HSB.out.mono ?_
  rintro e w' ⟨rfl, q6, rfl⟩
  have hb6 := below_drewN (Below.refl w5.heap.size w5) q6
  have HFB6 := hide (bfam_below HFB5.out hb6)
  have HFA6 := hide (bfam_below HFA5.out hb6)
  have HA6 := hide (own_keep HA5.out hb6)
  have HB6 := hide (HB5.out.trans (hb6.mono zw5))
  have z56 : w5.heap.size ≤ (w5.drewN q6).heap.size := Nat.le_refl _
  clear hb6 HFB5 HFA5 HA5 HSB
  generalize w5.drewN q6 = w6 at *
  have zw6 := HB6.out.size
  have HBD := hide (bodies_any w6 w1.heap.size _ itsA HFA6.out.1 (bfam_slices HFA6.out) (by rw [HLA.out]; omega))
  go_wp2_with fail
  refine HBD.out.mono ?_
  rintro e w7 ⟨v7, rfl, h7, hb7⟩
  have H7 := hide h7
  have HB7 := hide hb7
  have z67 := hb7.size
  have HBD2 := hide (bodies_any w7 w2.heap.size _ itsB (row_keepTy HFB6.out.1 (keepTy_below hb7 47)) (bfam_slices HFB6.out) (by rw [HLB.out]; omega))
  clear h7 hb7 HBD
  go_wp2_with fail
  refine HBD2.out.mono ?_
  rintro e w8 ⟨v8, rfl, h8, hb8⟩
  have H8 := hide h8
  have HB8 := hide (HB7.out.trans (hb8.mono z67))
  have H78 := hide (show HOwn w8 w6.heap.size v7 _ from row_keepTy H7.out (keepTy_below hb8 25))
  have z68 := HB8.out.size
  have HLL := hide (show (itsA.map (fun (z : It) => z.2.1)).length + (itsB.map (fun (z : It) => z.2.1)).length ≤ 2199023255552 by rw [List.length_map, List.length_map, HLA.out, HLB.out]; omega)
  clear h8 hb8 HBD2 H7 HB7
  go_wp2_with (refine append_heads2 w6 w8 w6.heap.size w7.heap.size v7 v8 (itsA.map (·.2.1)) (itsB.map (·.2.1)) rfl (.tmp 80) (.tmp 82) rfl rfl rfl H78.out H8.out (bfam_one HFB6.out) HLL.out z68 HB8.out ?_)
  intro v9 w9 ho9 hb9
  have z69 := hb9.size
  obtain ⟨rows, hrows⟩ : ∃ rows, rwOf itsA ++ rwOf itsB ++ [(Value.slice (some ⟨ga, 0, none⟩) N (N + 80), im)] = rows := ⟨_, rfl⟩
  have hfst : itsA.map (·.2.1) ++ itsB.map (·.2.1) ++ [Value.slice (some ⟨ga, 0, none⟩) N (N + 80)] = rows.map (·.1) := by rw [← hrows, List.map_append, List.map_append, rwOf_fst, rwOf_fst]; rfl
  have hrl : rows.length = bl.length + bl.length + 1 := by
    rw [← hrows]
    simp only [List.length_append, rwOf, List.length_map, List.length_cons, List.length_nil, HLA.out, HLB.out]
  have hq : Below w9.heap.size w9 (w9.alloc (.cells #[.slice (some ⟨ga, 0, none⟩) N (N + 80)] 25)) := (Below.refl _ _).alloc (Nat.le_refl _) _
  have HQ := hide (show HOwn _ _ _ _ from row_keepTy ho9 (keepTy_below hq 25))
  have HQB := hide (hb9.trans (hq.mono z69))
  have HNW := hide (one_new w9 (.slice (some ⟨ga, 0, none⟩) N (N + 80)) 25)
  have HL3 := hide (show (itsA.map (fun (z : It) => z.2.1) ++ itsB.map (fun (z : It) => z.2.1)).length + 1 ≤ 2199023255552 by rw [List.length_append, List.length_map, List.length_map, HLA.out, HLB.out]; omega)
  have hql : w6.heap.size ≤ (w9.alloc (.cells #[.slice (some ⟨ga, 0, none⟩) N (N + 80)] 25)).heap.size := HQB.out.size
  have HROWS := hide hrows
  have HFST := hide hfst
  have HRL := hide hrl
  clear hrows hfst hrl hq ho9 hb9 H78 H8 HB8 HLL
  go_wp2_with (refine append_heads w6 _ w6.heap.size _ (itsA.map (·.2.1) ++ itsB.map (·.2.1)) [.slice (some ⟨ga, 0, none⟩) N (N + 80)] rfl (.tmp 83) (.tmp 85) rfl rfl ⟨w9.heap.size, 0, none⟩ 1 1 rfl rfl HQ.out HNW.out (by simp [Value.oneCell']) HL3.out hql HQB.out ?_)
  intro v10 w10 ho10 hb10 _
  rw [← List.append_assoc, HFST.out] at ho10
  obtain ⟨L, cL, rfl, hH, hc1, hc2, hLB⟩ := hown_heads ho10 (by rw [List.length_map, HRL.out]; omega)
  rw [List.length_map] at hc1 ⊢
  have HB10 := hide (HB6.out.trans (hb10.mono zw6))
  have z10 := HB10.out.size
  have z610 := hb10.size
  have f1 : Fam w10 w1.heap.size (rwOf itsA) := fam_keep HFA6.out.2.2 hb10
  have f2 : Fam w10 w2.heap.size (rwOf itsB) := fam_keep HFB6.out.2.2 hb10
  have f3 := fam_one (own_keep HA6.out hb10) H256.out
  have hF : Fam w10 w.heap.size rows := by
    rw [← HROWS.out]
    refine fam_app (fam_mono (fam_both f1 f2 z12 HFR.out) (by omega)) f3 ?_
    intro r hr s hs g hg e
    rw [List.mem_singleton] at hs
    subst hs
    simp only [Value.ownBlock, Option.some.injEq] at e
    rcases List.mem_append.1 hr with hr | hr
    · have := (fam_at f1 hr hg).1
      omega
    · have := (fam_at f2 hr hg).1
      omega
  have hl10 : ∀ (k : Nat) (r : Rw), rows[k]? = some r → r.2.length ≤ 140737488355000 := by
    intro k r hr
    have hm := List.mem_of_getElem? hr
    rw [← HROWS.out] at hm
    rcases List.mem_append.1 hm with hm | hm
    · rcases List.mem_append.1 hm with hm | hm
      · obtain ⟨t, ht⟩ := rw_body HBA.out hm
        have := get_tot ht
        simp only at this
        omega
      · obtain ⟨t, ht⟩ := rw_body HBB.out hm
        have := get_tot ht
        simp only at this
        omega
    · rw [List.mem_singleton] at hm
      subst hm
      have := HNB.out
      simp only
      omega
  have HOW := hide (own_any w10 w.heap.size L rows.length cL rows rfl (by rw [HRL.out]; omega) (by rw [HRL.out]; omega) hc1 hc2 hH hF (by omega) hl10)
  have HRA := hide (show w10.ownsRow w1.heap.size 47 2 (.slice aA bl.length cA) bl.length (cellsOf itsA) by have h := row_keepTy HFA6.out.1 (keepTy_below hb10 47); rw [HLA.out] at h; exact h)
  have HFB10 := hide (show w10.ownsRow w2.heap.size 47 2 (.slice aB bl.length cB) itsB.length (cellsOf itsB) from row_keepTy HFB6.out.1 (keepTy_below hb10 47))
  have HFA := hide hF
  clear ho10 hH hF hl10 f1 f2 f3 hc1 hc2 hLB HQ HQB HNW HL3 hql HFST hb10
  go_wp2_with fail
  refine HOW.out.mono ?_
  rintro e w11 ⟨rfl, hown, hfoot⟩
  have hb11 := foot_below hfoot HFA.out (by omega : w.heap.size ≤ w10.heap.size)
  have HB11 := hide (HB10.out.trans hb11)
  have z11 := HB11.out.size
  have z1011 := hfoot.size
  have cells : ∀ (k : Nat) (o : Obj), w10.heap[k]? = some o → (∀ cs, o ≠ .cells cs 5 (0, 0)) → w11.heap[k]? = some o := fun k o ho hn =>
    (hfoot.block k (heap_lt ho) (fun hr => by obtain ⟨cs, hc⟩ := inrows_cells HFA.out hr; rw [hc] at ho; exact hn cs (Option.some.inj ho).symm)).trans ho
  have HRA11 := hide (row_keepTy HRA.out (fun k cs fr h => cells k _ h (by simp)))
  have HRB11 := hide (row_keepTy HFB10.out (fun k cs fr h => cells k _ h (by simp)))
  have HA11 := hide (show Own w11 w.heap.size (.slice (some ⟨ga, 0, none⟩) N (N + 80)) (mrow (bl.length + bl.length) N) by
    have h := hown (bl.length + bl.length) (.slice (some ⟨ga, 0, none⟩) N (N + 80), im) (by
      rw [← HROWS.out, List.getElem?_append_right (by simp [rwOf, HLA.out, HLB.out])]
      simp [rwOf, HLA.out, HLB.out])
    simp only [HNB.out] at h
    exact h)
  clear hown hfoot hb11 cells HFA HOW HFA6 HFB6 HA6 HRA HFB10 HROWS HRL HFR
  go_wp2_with fail
  go_loopw [91] (fun c wr => ∃ i : Nat, i ≤ bl.length ∧ c = .int .i64 i ∧ (∃ xs, wr.ownsRow w1.heap.size 47 2 (.slice aA bl.length cA) bl.length xs) ∧ Foot w11 wr (fun g => (Value.slice aA bl.length cA).ownBlock = some g)) (fun c _ => bl.length - (intOf c).toNat)
  case atStart => exact ⟨0, by omega, rfl, ⟨_, HRA11.out⟩, Foot.refl _ _⟩
  case round =>
    obtain ⟨i, hi, rfl, ⟨xs, hox⟩, hft⟩ := hrel
    have HOX := hide hox
    have HFTT := hide hft
    clear hox hft
    by_cases hlt : i < bl.length
    · have hi1 : (i : Int) < (bl.length : Int) := by omega
      obtain ⟨g1, c1, hform⟩ : ∃ g c, Value.slice aA bl.length cA = .slice (some ⟨g, 0, none⟩) bl.length c := by
        rcases HOX.out.2 with ⟨h, h0⟩ | ⟨g, c, cur, h, _⟩
        · omega
        · exact ⟨g, c, h⟩
      simp only [Value.slice.injEq, true_and] at hform
      obtain ⟨rfl, rfl⟩ := hform
      obtain ⟨x, hx⟩ : ∃ x, xs[i * 2]? = some x := ⟨_, List.getElem?_eq_getElem (by rw [HOX.out.1]; omega)⟩
      obtain ⟨hc1, hf1⟩ := row_cells HOX.out (i * 2) x hx
      have HFTs := hide (fun v => HFTT.out.setCell ⟨g1, i * 2, none⟩ v (.inl rfl))
      have HOP := hide (fun v => row_put HOX.out (i * 2) v)
      clear hx
      go_wp2_with fail
      exact ⟨⟨i + 1, by omega, by simp, ⟨_, HOP.out _⟩, HFTs.out _⟩, by simp [intOf]; omega⟩
    · obtain rfl : i = bl.length := by omega
      have hft := HFTT.out
      have hlo : ∀ g, (Value.slice aA bl.length cA).ownBlock = some g → w1.heap.size ≤ g ∧ g < w2.heap.size := fun g h => ⟨(World.ownsRow.lt HOX.out g h).1, HFT.out g h⟩
      have z11r := hft.size
      have hbr := hft.below (B := w.heap.size) (fun g h => by have := (hlo g h).1; omega) z11
      have HBr := hide (HB11.out.trans hbr)
      have zr := HBr.out.size
      have HRBr := hide (show wr.ownsRow w2.heap.size 47 2 (.slice aB bl.length cB) itsB.length (cellsOf itsB) from World.ownsRow.kept (row := (Value.slice aA bl.length cA).ownBlock) HRB11.out ⟨hft.os, hft.tape, hft.output, hft.size, fun k hk hn => hft.block k hk (fun e => hn e.symm)⟩ (by
        cases hb : (Value.slice aB bl.length cB).ownBlock with
        | none => exact .inl rfl
        | some g => exact .inr (fun e => HNEAB.out g hb e.symm)))
      have HAr := hide (own_by (w' := wr) HA11.out (fun g hg => hft.block g (World.ownsRow.lt HA11.out g hg).2 (fun e => by
        simp only [Value.ownBlock, Option.some.injEq] at hg
        have := (hlo g e).1
        omega)))
      clear hft hlo hbr HOX HFTT HRA11 HRB11 HA11
      go_wp2_with fail
      go_loopw [104] (fun c wx => ∃ i q : Nat, i ≤ bl.length ∧ c = .int .i64 i ∧ wx = wr.drewN q) (fun c _ => bl.length - (intOf c).toNat)
      case atStart => exact ⟨0, 0, by omega, rfl, rfl⟩
      case round =>
        obtain ⟨i, q, hi, rfl, rfl⟩ := hrel
        by_cases hlt : i < bl.length
        · have hi1 : (i : Int) < (bl.length : Int) := by omega
          obtain ⟨gB, kB, hform⟩ : ∃ g c, Value.slice aB bl.length cB = .slice (some ⟨g, 0, none⟩) bl.length c := by
            rcases HRBr.out.2 with ⟨h, h0⟩ | ⟨g, c, cur, h, _⟩
            · have := HLB.out; omega
            · simp only [HLB.out] at h
              exact ⟨g, c, h⟩
          simp only [Value.slice.injEq, true_and] at hform
          obtain ⟨rfl, rfl⟩ := hform
          obtain ⟨x, hx⟩ : ∃ x, bl[i]? = some x := ⟨_, List.getElem?_eq_getElem hlt⟩
          obtain ⟨y, hy⟩ : ∃ y, itsB[i]? = some y := ⟨_, List.getElem?_eq_getElem (by rw [HLB.out]; exact hlt)⟩
          have hxy : x.1 = y.1 := by
            have h := hx
            rw [← HBB.out, blOf, List.getElem?_map, hy] at h
            simp at h
            rw [← h]
          obtain ⟨e0, e1⟩ := cellsOf_get itsB i _ hy
          have c0 := World.ownsRow.cells HRBr.out (g := gB) rfl _ _ e0
          rw [Addr.add_lit, Nat.zero_add, Nat.mul_comm] at c0
          obtain ⟨ad, bv, rfl, d0, _, _⟩ := blocks_get (blocks_keep HV.out HBr.out) hx
          have c0' : (wr.drewN q).cell? ⟨gB, i * 2, none⟩ = some (.int .u8 (y.1 : Nat)) := c0
          have d0' : (wr.drewN q).cell? (ad.add (i * 2)) = some (.int .u8 (x.1 : Nat)) := d0
          rw [hxy] at d0'
          obtain ⟨t, htt⟩ : ∃ t, y.1 = t := ⟨_, rfl⟩
          rw [htt] at c0' d0'
          clear hx hy hxy e0 e1 c0 d0 htt
          generalize hwq : wr.drewN q = wq at c0' d0' ⊢
          have HWQ := hide hwq
          clear hwq
          go_wp2_with fail
          go_quiet (fail)
          go_wp2_with fail
          exact ⟨⟨i + 1, q + nq, by omega, by simp, by rw [← HWQ.out, World.drewN_drewN]⟩, by simp [intOf]; omega⟩
        · obtain rfl : i = bl.length := by omega
          have hbq := below_drewN (Below.refl wr.heap.size wr) q
          have z11d : w11.heap.size ≤ (wr.drewN q).heap.size := z11r
          have HBq := hide (HBr.out.trans (hbq.mono zr))
          have HAq := hide (own_keep HAr.out hbq)
          clear hbq HAr HRBr HBr
          generalize wr.drewN q = wd at *
          have zd := HBq.out.size
          have HF0 := hide (bfam_nil wd wd.heap.size (Nat.le_refl _))
          have HB0 := hide ((Below.refl wd.heap.size wd).alloc (Nat.le_refl _) (.cells #[] 47))
          go_wp2_with fail
          go_loopw [16, 122] (fun s16 c wr => ∃ (i : Nat) (its : List It), i ≤ bl.length ∧ c = .int .i64 i ∧ blOf its = (emptied bl).take i ∧ BFam wr wd.heap.size s16 its ∧ Below wd.heap.size wd wr) (fun _ c _ => bl.length - (intOf c).toNat)
          case atStart => exact ⟨0, [], by omega, rfl, rfl, HF0.out, HB0.out⟩
          case round =>
            obtain ⟨i, its, hi, rfl, hbl, hf, hb⟩ := hrel
            have hil : its.length = i := by have := congrArg List.length hbl; simp [blOf, emptied] at this; omega
            obtain ⟨ar, cr, rfl⟩ := row_shape hf.1
            have HIL := hide hil
            clear hil
            have HF := hide hf
            have HB := hide hb
            have HBL := hide hbl
            have hsr := hb.size
            clear hf hb hbl
            by_cases hlt : i < bl.length
            · obtain ⟨x, hx⟩ : ∃ x, bl[i]? = some x := ⟨_, List.getElem?_eq_getElem hlt⟩
              obtain ⟨ad, bv, rfl, c0, c1, hs1⟩ := blocks_get (blocks_keep HV.out (HBq.out.trans (HB.out.mono zd))) hx
              have hi1 : (i : Int) < (bl.length : Int) := by omega
              have HX := hide (HNZ.out x (List.mem_of_getElem? hx))
              have HXL := hide (get_tot (List.mem_of_getElem? hx))
              have HXI := hide hx
              have hq : Below wr.heap.size wr (wr.alloc (.cells #[.int .u8 (x.1 : Nat), bv] 47)) := (Below.refl _ _).alloc (Nat.le_refl _) _
              obtain ⟨d0, d1⟩ := cells2 (heap_new (w := wr) rfl (.cells #[.int .u8 (x.1 : Nat), bv] 47))
              obtain ⟨ax, cx, rfl⟩ := src_form hs1
              have hlt1 : wr.heap.size < (wr.alloc (.cells #[.int .u8 (x.1 : Nat), .slice ax x.2.length cx] 47)).heap.size := by rw [World.size_alloc]; omega
              have htb := tag_bits x.1 HX.out.2.1
              have htl := (tag_or x.1 HX.out.2.1).1
              obtain ⟨tg, htg⟩ : ∃ tg, (x.1 ^^^ 255) ||| 1 = tg := ⟨_, rfl⟩
              rw [htg] at htb htl
              have HTG := hide htg
              have hnl : x.2.length ≤ 140737488355328 := by have := HXL.out; omega
              clear hx hs1 htg
              go_wp2_with fail
              have HQ1 := hide hq
              have z01 := hq.size
              clear hq
              generalize wr.alloc (.cells #[.int .u8 (x.1 : Nat), .slice ax x.2.length cx] 47) = wq1 at *
              refine wp_region_noPanic ?_
              refine wp_region_held_drew (S := fun w' => w'.cell? ⟨wr.heap.size, 0, none⟩ = some (.int .u8 (x.1 : Nat)) ∧ w'.cell? ⟨wr.heap.size, 1, none⟩ = some (.slice ax x.2.length cx)) (by kernel_rfl) ⟨d0, d1⟩ (fun hHeld => ?_)
              refine' wpAnyH_take (i := 0) (oi := { dst := some 126, op := Op.move (Operand.tmp 16), type := 38, pos := "memory.go:171", after := #[], guard := none }) (v := ?v0) rfl (by kernel_rfl) (by kernel_rfl) (by kernel_rfl) (fun _ _ _ h => h) (Or.inl ⟨by rfl, ?y0⟩) (by assumption) ?r0
              case y0 => (intro w hSw; (try dsimp only at hSw); go_simp; try with_reducible rfl)
              try simp only [Act.put, List.setIfInBounds_toArray, List.set_cons_zero, List.set_cons_succ]
              refine' wpAnyH_take (i := 1) (oi := { dst := some 127, op := Op.fieldAddr 47 (Operand.tmp 18) 0, type := 0, pos := "memory.go:171", after := #[], guard := none }) (v := ?v1) rfl (by kernel_rfl) (by kernel_rfl) (by kernel_rfl) (fun _ _ _ h => h) (Or.inl ⟨by rfl, ?y1⟩) (by assumption) ?r1
              case y1 => (intro w hSw; (try dsimp only at hSw); go_simp; try with_reducible rfl)
              try simp only [Act.put, List.setIfInBounds_toArray, List.set_cons_zero, List.set_cons_succ]
              refine' wpAnyH_take (i := 2) (oi := { dst := some 128, op := Op.load 5 (Operand.tmp 127), type := 5, pos := "memory.go:171", after := #[{ on := 1, ground := Ground.data }], guard := none }) (v := ?v2) rfl (by kernel_rfl) (by kernel_rfl) (by kernel_rfl) (fun _ _ _ h => h) (Or.inl ⟨by rfl, ?y2⟩) (by assumption) ?r2
              case y2 => (intro w hSw; obtain ⟨q0, q1⟩ := hSw; go_simp; try with_reducible rfl)
              try simp only [Act.put, List.setIfInBounds_toArray, List.set_cons_zero, List.set_cons_succ]
              refine' wpAnyH_take (i := 3) (oi := { dst := some 129, op := Op.binOp BinOp.xor 5 (Operand.tmp 128) (Operand.const (Value.int IntKind.u8 255)) 5, type := 5, pos := "memory.go:171", after := #[{ on := 2, ground := Ground.data }], guard := none }) (v := ?v3) rfl (by kernel_rfl) (by kernel_rfl) (by kernel_rfl) (fun _ _ _ h => h) (Or.inl ⟨by rfl, ?y3⟩) (by assumption) ?r3
              case y3 => (intro w hSw; (try dsimp only at hSw); go_simp; try with_reducible rfl)
              try simp only [Act.put, List.setIfInBounds_toArray, List.set_cons_zero, List.set_cons_succ]
              refine' wpAnyH_take (i := 4) (oi := { dst := some 130, op := Op.binOp BinOp.or 5 (Operand.tmp 129) (Operand.const (Value.int IntKind.u8 1)) 5, type := 5, pos := "memory.go:171", after := #[{ on := 3, ground := Ground.data }], guard := none }) (v := ?v4) rfl (by kernel_rfl) (by kernel_rfl) (by kernel_rfl) (fun _ _ _ h => h) (Or.inl ⟨by rfl, ?y4⟩) (by assumption) ?r4
              case y4 => (intro w hSw; (try dsimp only at hSw); go_simp; try with_reducible rfl)
              try simp only [Act.put, List.setIfInBounds_toArray, List.set_cons_zero, List.set_cons_succ]
              refine' wpAnyH_take (i := 5) (oi := { dst := some 131, op := Op.fieldAddr 47 (Operand.tmp 18) 1, type := 0, pos := "memory.go:171", after := #[], guard := none }) (v := ?v5) rfl (by kernel_rfl) (by kernel_rfl) (by kernel_rfl) (fun _ _ _ h => h) (Or.inl ⟨by rfl, ?y5⟩) (by assumption) ?r5
              case y5 => (intro w hSw; (try dsimp only at hSw); go_simp; try with_reducible rfl)
              try simp only [Act.put, List.setIfInBounds_toArray, List.set_cons_zero, List.set_cons_succ]
              refine' wpAnyH_take (i := 6) (oi := { dst := some 132, op := Op.load 25 (Operand.tmp 131), type := 25, pos := "memory.go:171", after := #[{ on := 5, ground := Ground.data }], guard := none }) (v := ?v6) rfl (by kernel_rfl) (by kernel_rfl) (by kernel_rfl) (fun _ _ _ h => h) (Or.inl ⟨by rfl, ?y6⟩) (by assumption) ?r6
              case y6 => (intro w hSw; obtain ⟨q0, q1⟩ := hSw; go_simp; try with_reducible rfl)
              try simp only [Act.put, List.setIfInBounds_toArray, List.set_cons_zero, List.set_cons_succ]
              refine' wpAnyH_take (i := 7) (oi := { dst := some 133, op := Op.call { callee := Callee.builtin Builtin.len, args := #[Operand.tmp 132], argTypes := #[25] }, type := 3, pos := "memory.go:171", after := #[{ on := 6, ground := Ground.data }], guard := none }) (v := ?v7) rfl (by kernel_rfl) (by kernel_rfl) (by kernel_rfl) (fun _ _ _ h => h) (Or.inl ⟨by rfl, ?y7⟩) (by assumption) ?r7
              case y7 => (intro w hSw; (try dsimp only at hSw); go_simp; try with_reducible rfl)
              try simp only [Act.put, List.setIfInBounds_toArray, List.set_cons_zero, List.set_cons_succ]
              refine wpAnyH_ready (rs := [8]) (by kernel_rfl) (by simp) ?_
              refine AllReadyH.cons (o := { dst := some 134, op := Op.makeSlice 25 (Operand.tmp 133) (Operand.tmp 133), type := 25, pos := "memory.go:171", after := #[{ on := 7, ground := Ground.data }, { on := 7, ground := Ground.data }], guard := none }) rfl (fun K hK => ?_) AllReadyH.nil
              refine step_makeO _ (by rfl) (.tmp 133) (.tmp 133) rfl x.2.length rfl rfl hnl ?_
              have hb3 : Below wq1.heap.size wq1 (wq1.drew.alloc (.cells (u8s (List.replicate x.2.length 0)).toArray 5)) := (Below.refl wq1.heap.size wq1).drew.alloc (Nat.le_refl _) _
              have HB3 := hide hb3
              have HO3 := hide (show Own (wq1.drew.alloc (.cells (u8s (List.replicate x.2.length 0)).toArray 5)) wq1.heap.size (.slice (some ⟨wq1.heap.size, 0, none⟩) x.2.length x.2.length) (List.replicate x.2.length 0) by
                have h := own_block (B := wq1.heap.size) (heap_new (w := wq1.drew) (g := wq1.heap.size) rfl (.cells (u8s (List.replicate x.2.length 0)).toArray 5)) (Nat.le_refl _) (by rw [List.length_replicate]; omega)
                rwa [List.length_replicate] at h)
              refine hK.out _ _ ⟨(HB3.out.cell (p := ⟨wr.heap.size, 0, none⟩) hlt1).trans d0, (HB3.out.cell (p := ⟨wr.heap.size, 1, none⟩) hlt1).trans d1⟩ (fun _ => ?_)
              clear hK K hb3
              generalize hw3 : wq1.drew.alloc (.cells (u8s (List.replicate x.2.length 0)).toArray 5) = w3q at *
              have z3 := HB3.out.size
              clear hw3
              try simp only [Act.put, List.setIfInBounds_toArray, List.set_cons_zero, List.set_cons_succ]
              refine' wpAnyH_take (i := 9) (oi := { dst := some 135, op := Op.build 47 #[(0, Operand.tmp 130), (1, Operand.tmp 134)], type := 47, pos := "memory.go:171", after := #[{ on := 4, ground := Ground.data }, { on := 8, ground := Ground.data }], guard := none }) (v := ?v9) rfl (by kernel_rfl) (by kernel_rfl) (by kernel_rfl) (fun _ _ _ h => h) (Or.inl ⟨by rfl, ?y9⟩) (by assumption) ?r9
              case y9 => (intro w hSw; (try dsimp only at hSw); go_simp; try with_reducible rfl)
              try simp only [Act.put, List.setIfInBounds_toArray, List.set_cons_zero, List.set_cons_succ]
              refine wpAnyH_ready (rs := [10]) (by kernel_rfl) (by simp) ?_
              refine AllReadyH.cons (o := { dst := some 136, op := Op.buildSlice 38 1 #[(0, Operand.tmp 135)], type := 38, pos := "memory.go:171", after := #[{ on := 9, ground := Ground.data }], guard := none }) rfl (fun K hK => ?_) AllReadyH.nil
              go_simp
              have hq4 : Below w3q.heap.size w3q (w3q.alloc (.cells #[.int .u8 (tg : Nat), .slice (some ⟨wq1.heap.size, 0, none⟩) x.2.length x.2.length] 47)) := (Below.refl w3q.heap.size w3q).alloc (Nat.le_refl _) _
              have HB4 := hide (HB3.out.trans (hq4.mono z3))
              have HO4 := hide (own_keep HO3.out hq4)
              have HH4 := hide (heap_new (w := w3q) rfl (.cells #[.int .u8 (tg : Nat), .slice (some ⟨wq1.heap.size, 0, none⟩) x.2.length x.2.length] 47))
              have z4 := HB4.out.size
              refine hK.out _ _ ⟨(HB4.out.cell (p := ⟨wr.heap.size, 0, none⟩) hlt1).trans d0, (HB4.out.cell (p := ⟨wr.heap.size, 1, none⟩) hlt1).trans d1⟩ (fun _ => ?_)
              clear hK K hq4
              generalize w3q.alloc (.cells #[.int .u8 (tg : Nat), .slice (some ⟨wq1.heap.size, 0, none⟩) x.2.length x.2.length] 47) = w4q at *
              try simp only [Act.put, List.setIfInBounds_toArray, List.set_cons_zero, List.set_cons_succ]
              refine wpAnyH_ready (rs := [11]) (by kernel_rfl) (by simp) ?_
              refine AllReadyH.cons (o := { dst := some 137, op := Op.call { callee := Callee.builtin Builtin.append, args := #[Operand.tmp 126, Operand.tmp 136], argTypes := #[38, 38] }, type := 38, pos := "memory.go:171", after := #[{ on := 0, ground := Ground.data }, { on := 10, ground := Ground.data }], guard := none }) rfl (fun K hK => ?_) AllReadyH.nil
              have hf4 : BFam w4q wd.heap.size (.slice ar its.length cr) its := bfam_below HF.out (HQ1.out.trans (HB4.out.mono z01))
              have hrow : ∀ k, (Value.slice ar its.length cr).ownBlock = some k → k < wr.heap.size := fun k hk => (World.ownsRow.lt HF.out.1 k hk).2
              obtain ⟨v5, w5q, hr5, hf5, hg5⟩ := run_blkF w4q wd.heap.size w3q.heap.size (.slice ar its.length cr) its (tg, .slice (some ⟨wq1.heap.size, 0, none⟩) x.2.length x.2.length, List.replicate x.2.length 0) 38 hf4 htl (row_mono HO4.out (by omega)) (by intro z hz; have := List.eq_of_mem_replicate hz; omega) (fun y hy q hq e => by
                have h1 := (World.ownsRow.lt (bfam_mem HF.out hy).1 q hq).2
                have h2 := (World.ownsRow.lt HO4.out q e).1
                omega) HH4.out (by have := HIL.out; omega) (by omega)
              refine step_run 38 _ w5q _ _ v5 rfl (.tmp 126) (.tmp 136) rfl rfl rfl hr5 ?_
              have HF5 := hide hf5
              have HB5 := hide ((HB.out.trans (HQ1.out.mono hsr)).trans (HB4.out.mono (by omega)) |>.grown hg5 (by omega) (fun k hk => (World.ownsRow.lt hf4.1 k hk).1))
              have hkeep : w5q.heap[wr.heap.size]? = w4q.heap[wr.heap.size]? := hg5.block _ (by omega) (fun e => by have := hrow _ e.symm; omega)
              refine hK.out _ _ ⟨(World.cell?_of_block (a := ⟨wr.heap.size, 0, none⟩) hkeep).trans ((HB4.out.cell (p := ⟨wr.heap.size, 0, none⟩) hlt1).trans d0), (World.cell?_of_block (a := ⟨wr.heap.size, 1, none⟩) hkeep).trans ((HB4.out.cell (p := ⟨wr.heap.size, 1, none⟩) hlt1).trans d1)⟩ (fun _ => ?_)
              clear hK K hr5 hf5 hg5 hkeep hf4
              try simp only [Act.put, List.setIfInBounds_toArray, List.set_cons_zero, List.set_cons_succ]
              refine' wpAnyH_take (i := 12) (oi := { dst := some 16, op := Op.assign (Operand.tmp 137), type := 38, pos := "memory.go:171", after := #[{ on := 11, ground := Ground.data }, { on := 11, ground := Ground.chain }, { on := 0, ground := Ground.phase }, { on := 1, ground := Ground.phase }, { on := 2, ground := Ground.phase }, { on := 3, ground := Ground.phase }, { on := 4, ground := Ground.phase }, { on := 5, ground := Ground.phase }, { on := 6, ground := Ground.phase }, { on := 7, ground := Ground.phase }, { on := 8, ground := Ground.phase }, { on := 9, ground := Ground.phase }, { on := 10, ground := Ground.phase }, { on := 11, ground := Ground.phase }], guard := none }) (v := ?v12) rfl (by kernel_rfl) (by kernel_rfl) (by kernel_rfl) (fun _ _ _ h => h) (Or.inl ⟨by rfl, ?y12⟩) (by assumption) ?r12
              case y12 => (intro w hSw; (try dsimp only at hSw); go_simp; try with_reducible rfl)
              try simp only [Act.put, List.setIfInBounds_toArray, List.set_cons_zero, List.set_cons_succ]
              refine wpAnyH_done (by kernel_rfl) (NoPanic.normal ?_) _
              go_wp2_with fail
              refine ⟨⟨i + 1, _, by omega, by simp, ?_, HF5.out, HB5.out⟩, by simp [intOf]; omega⟩
              rw [blOf_app, HBL.out, List.take_add_one]
              simp only [emptied, List.getElem?_map, HXI.out, Option.map_some, HTG.out]
              rfl
            · obtain rfl : i = bl.length := by omega
              rw [List.take_of_length_le (by simp [emptied])] at HBL
              have HFW := HF
              have HBr := hide (HBq.out.trans (HB.out.mono zd))
              have zr := HBr.out.size
              have XE := hide (show Blocks wr (.slice ar its.length cr) (emptied bl) by have h := bown_blocks (bfam_bown HF.out); rw [HBL.out] at h; exact h)
              have HAr := hide (own_keep HAq.out HB.out)
              rw [HIL.out] at XE
              have HRP := hide (ref_pack_any wr kind hk HK0.out _ (emptied bl) XE.out (by rw [emptied_tot]; omega))
              clear HF HAq HB0 HF0
              try rw [HIL.out]
              go_wp2_with fail
              refine HRP.out.mono ?_
              rintro e wp ⟨hbp, hcase⟩
              have hcase2 : ∃ v, e = .returned (.tuple #[v, .int .i64 0]) ∧ Own wp wr.heap.size v (img kind (emptied bl)) := by
                rcases hcase with ⟨⟨x, hx, hx0⟩, _⟩ | ⟨_, h⟩
                · exact absurd hx0 (emptied_ok (fun x hx => ⟨(HNZ.out x hx).2.1, (HNZ.out x hx).2.2.2⟩) x hx).1
                · exact h
              obtain ⟨vo, rfl, ho⟩ := hcase2
              rw [HIM2.out] at ho
              obtain ⟨ao2, co, rfl⟩ := row_shape ho
              rw [HNE.out]
              have hop : 0 < im2.length := by rw [HNE.out]; have h := (img_parts kind bl).2.1; rw [HIM.out, HNB.out] at h; omega
              obtain ⟨go, co', hgo⟩ := own_form ho hop
              simp only [Value.slice.injEq, true_and] at hgo
              obtain ⟨rfl, rfl⟩ := hgo
              have HO := hide ho
              have HBp := hide (HBr.out.trans (hbp.mono zr))
              have zp := HBp.out.size
              have HAp := hide (own_keep HAr.out hbp)
              have XEp := hide (blocks_keep XE.out hbp)
              have HW2 := hide (show ∀ y ∈ im2, y < 256 by
                rw [← HIM2.out]
                exact img_lt hk (by rw [Uv.u64_eq]; simp [emptied]; omega) (fun x hx => by have h := emptied_ok (fun x hx => ⟨(HNZ.out x hx).2.1, (HNZ.out x hx).2.2.2⟩) x hx; rw [Uv.u64_eq]; exact h.2))
              have HBPB := hide hbp
              clear hbp hcase ho HRP HAr XE hop
              obtain ⟨cur, hcur, hcl⟩ := own_array HAp.out
              have hcs : (u8s im2).length = Nat.min N N := by rw [u8s_len, HNE.out]; exact (Nat.min_self N).symm
              have HCU := hide hcur
              have HCS := hide hcs
              have HFIT := hide (show 0 + (u8s im2).length ≤ cur.length by rw [u8s_len, HNE.out, hcl]; omega)
              have hgab := (World.ownsRow.lt HAp.out ga rfl).1
              clear hcs hcur hcl
              have HFp := hide (bfam_below HFW.out HBPB.out)
              go_wp2_with (refine copy_alone _ rfl (.tmp 150) (.tmp 151) rfl ga N (N + 80) ⟨go, 0, none⟩ N co rfl rfl cur HCU.out (u8s im2) HCS.out (own_news HO.out) HFIT.out (u8s_one _) ?_)
              intro wf hf hgf
              have hbf := HBp.out.grown hgf zp (fun k e => by cases e; exact hgab)
              have HBf := hide hbf
              have zf := hbf.size
              have HIf := hide (src_front (cap := N + 80) hf HW2.out HNE.out (by omega) (by omega))
              have XEf := hide (show Blocks wf (.slice ar bl.length cr) (emptied bl) by
                have h := bown_blocks (bfam_bown (bfam_away HFp.out hgf (by omega)))
                rw [HBL.out, HIL.out] at h
                exact h)
              have HC := hide (HUP.out wf w.heap.size _ im2 HBf.out (Nat.le_refl _) HIf.out (by rw [HNE.out]; omega))
              clear hbf hf hgf HAp HO HCU HCS HFIT HFp HFW HBPB
              go_wp2_with fail
              refine HC.out.mono ?_
              rintro e wg ⟨hout, hbg⟩
              obtain ⟨vc, itsC, hblC, rfl, hfC⟩ := unpF_some hout HUN2.out
              have HBg := hide (HBf.out.trans (hbg.mono zf))
              have XC := hide (show Blocks wg vc (emptied bl) by have h := bown_blocks (bfam_bown hfC); rw [hblC] at h; exact h)
              have XEg := hide (blocks_keep XEf.out hbg)
              have HSB := hide (same_blocks wg _ _ (emptied bl) XC.out XEg.out (by simp [emptied]; omega))
              clear hout hbg hblC hfC HC
              go_wp2_with fail
              refine HSB.out.mono ?_
              rintro e w' ⟨rfl, qf, rfl⟩
              go_wp2_with fail
              go_ret
              exact ⟨rfl, below_drewN HBg.out qf⟩
end Go.Proofs.YtgebekklkodpaaaDoor

/-! PkF: frame.Pack: its image is new memory -/
namespace Go.Proofs.YtgebekklkodpaaaDoor
open Go.RowKit

def PackOutF (w : World) (E0 : Addr) (kind : Nat) (bl : List Bl) (e : Ending) (w' : World) : Prop :=
  Below w.heap.size w w' ∧ (((∃ x ∈ bl, x.1 = 0) ∧ e = .returned (.tuple #[.slice none 0 0, .iface 124 (.pointer (some E0))])) ∨
    ((∀ x ∈ bl, x.1 ≠ 0) ∧ ∃ g, e = .returned (.tuple #[.slice (some ⟨g, 0, none⟩) (img kind bl).length (img kind bl).length, .nilIface]) ∧ w'.heap[g]? = some (.cells (u8s (img kind bl)).toArray 5 (0, 0)) ∧ w.heap.size ≤ g))

set_option maxRecDepth 100000 in
set_option maxHeartbeats 4000000 in
theorem packf_some (w : World) (Z : Zip w) (S : SealT w) (E0 : Addr) (hE : ErrAt w 0 E0) (hg : 16 < w.heap.size) (kind : Nat) (hk : kind < 256) (hk0 : kind ≠ 0) (bl : List Bl) (ao : Option Addr) (cap : Nat)
    (hB : ∀ (k : Nat) (x : Bl), bl[k]? = some x → ∃ ad, ao = some ad ∧ BlkAt w (ad.add (2 * k)) x) (ht : tot bl ≤ 140737488355000) :
    Calls Tryd.prog 33 #[.int .u8 kind, .slice ao bl.length cap] w (PackOutF w E0 kind bl) := by
  have hk1 : ((kind : Int) == 0) = false := by simp; omega
  have HZ := hide Z
  have HS := hide S
  have HE := hide hE
  have HB := hide hB
  have HT := hide ht
  have HK := hide hk
  have HLT := hide (len_tot bl)
  have HU := hide (show bl.length < Uv.u64 by have := len_tot bl; rw [Uv.u64_eq]; omega)
  have hw : IntKind.u64.wrap (bl.length : Int) = (bl.length : Int) := by have := HU.out; rw [Uv.u64_eq] at this; rw [IntKind.wrap_u64]; omega
  have kc := fun (w : World) (C : Array Value) (n c : Nat) => Lib.run_convert_bytes_const (P := Tryd.prog) w 25 5 C n c Tryd.underlying25 Tryd.underlying5
  clear Z S hE hB ht hk hk0
  go_enter Tryd.func33, Tryd.ntmps33
  go_wp2_with fail
  refine (new_writer w).mono ?_
  rintro e w1 ⟨rfl, hW, hb1⟩
  have HW1 := hide hW
  have HB1 := hide hb1
  clear hW hb1
  go_wp2_with fail
  have HB2 := hide (HB1.out.alloc HB1.out.size (.cells #[.int .u8 99, .int .u8 110, .int .u8 99, .int .u8 100] 5 (4, 5)))
  have hs1 := HB1.out.size
  have HW2 := hide (writer_keep HW1.out ((Below.refl w1.heap.size w1).alloc (Nat.le_refl _) (.cells #[.int .u8 99, .int .u8 110, .int .u8 99, .int .u8 100] 5 (4, 5))))
  refine (writer_raw _ _ _ [] [99, 110, 99, 100] _ HW2.out HB2.out.size (src_cncd _ _ _ (heap_new rfl _)) (by simp)).mono ?_
  rintro e w3 ⟨rfl, hW, hb3⟩
  have HW3 := hide hW
  have HB3 := hide (HB2.out.trans hb3)
  clear hW hb3 HB2 HW2 HB1 HW1 hs1
  go_wp2_with fail
  refine (writer_byte w3 _ _ kind _ HW3.out (by simp)).mono ?_
  rintro e w4 ⟨rfl, hW, hb4⟩
  have HW4 := hide hW
  have HB4 := hide (HB3.out.trans hb4)
  clear hW hb4 HW3 HB3
  go_wp2_with fail
  refine (writer_uvarint w4 _ _ bl.length _ HU.out HW4.out (by simp)).mono ?_
  rintro e w5 ⟨rfl, hW, hb5⟩
  have hW' : WriterIs w5 w.heap.size w.heap.size (imgHead kind bl.length) := hW
  have HW5 := hide hW'
  have HB5 := hide (HB4.out.trans hb5)
  have HHL := hide (imgHead_len kind bl.length)
  clear hW hb5 HW4 HB4 hW'
  go_wp2_with fail
  go_loopw [29] (fun c wr => ∃ k : Nat, k ≤ bl.length ∧ c = .int .i64 k ∧ (∀ x ∈ bl.take k, x.1 ≠ 0) ∧ WriterIs wr w.heap.size w.heap.size (imgHead kind bl.length ++ encs (bl.take k)) ∧ Below w.heap.size w wr) (fun c _ => bl.length - (intOf c).toNat)
  case atStart => exact ⟨0, by simp, rfl, by simp, by simpa [encs] using HW5.out, HB5.out⟩
  case round =>
    obtain ⟨k, hkl, rfl, hpre, hW, hb⟩ := hrel
    have HW := hide hW
    have HBk := hide hb
    have HP := hide hpre
    have hsz := hb.size
    clear hW hb hpre
    by_cases hlt : k < bl.length
    · obtain ⟨⟨tg, body⟩, hx⟩ : ∃ x, bl[k]? = some x := ⟨_, List.getElem?_eq_getElem hlt⟩
      obtain ⟨ad, rfl, hblk⟩ := HB.out k _ hx
      obtain ⟨htg, bv, hc0, hc1, hsrc⟩ := blk_keep hblk HBk.out
      clear hblk
      obtain ⟨bo, bcap, rfl⟩ := src_form hsrc
      have HX := hide hx
      have HSRC := hide hsrc
      have HTG := hide htg
      rw [Nat.mul_comm 2 k] at hc0 hc1
      have hc1' : wr.cell? { block := (ad.add (k * 2)).block, off := (ad.add (k * 2)).off + 1 } = some (.slice bo body.length bcap) := hc1
      simp only at hc0
      clear hx hsrc htg
      have hbA := (Below.refl wr.heap.size wr).alloc (Nat.le_refl _) (.cells #[.int .u8 tg, .slice bo body.length bcap] 47)
      have HBA := hide hbA
      have HBW := hide (HBk.out.alloc hsz (.cells #[.int .u8 tg, .slice bo body.length bcap] 47))
      have hgs := tot_get HX.out
      have htl := encs_len (bl.take k)
      have HGS := hide (show (imgHead kind bl.length ++ encs (bl.take k)).length + (enc tg body).length ≤ 140737488355100 ∧ body.length ≤ 140737488355000 ∧ (enc tg body).length ≤ 140737488355000 by
        have h1 := HT.out
        have h2 := enc_len tg body
        have h3 := HHL.out
        simp only at hgs
        rw [List.length_append]
        omega)
      clear hbA hgs htl
      go_wp2_with fail
      by_cases h0 : tg = 0
      · subst h0
        refine (encode_zero _ E0 (err_below HE.out HBW.out (by omega)) _).mono ?_
        rintro e w6 ⟨rfl, hb6⟩
        have HB6 := hide (HBW.out.trans (hb6.mono HBW.out.size))
        go_wp2
        go_ret2
        exact ⟨HB6.out, .inl ⟨⟨_, List.mem_of_getElem? HX.out, rfl⟩, rfl⟩⟩
      · have H0 := hide h0
        clear h0
        refine (encode_pos _ (zip_below HZ.out HBW.out hg) (by have := HBW.out.size; omega) tg HTG.out H0.out _ body (src_keep HSRC.out HBA.out) (by have := HGS.out.2.1; omega)).mono ?_
        rintro e w6 ⟨g6, rfl, _, hh6, hb6⟩
        have HB6 := hide (HBW.out.trans (hb6.mono HBW.out.size))
        have HW6 := hide (writer_keep HW.out (HBA.out.trans (hb6.mono HBA.out.size)))
        have HS6 := hide (src_block hh6 (enc_lt HTG.out HSRC.out.1 (by have := HGS.out.2.1; rw [Uv.u64_eq]; omega)) (by have := HGS.out.2.2; omega))
        clear hb6 hh6
        go_wp2_with fail
        refine (writer_raw w6 _ _ _ (enc tg body) _ HW6.out HB6.out.size HS6.out (by have := HGS.out.1; omega)).mono ?_
        rintro e w7 ⟨rfl, hW7, hb7⟩
        have hW7' : WriterIs w7 w.heap.size w.heap.size (imgHead kind bl.length ++ encs (bl.take (k + 1))) := by
          rw [List.take_add_one, HX.out, encs_app, Option.toList_some, encs_one, ← List.append_assoc]
          exact hW7
        have HW7 := hide hW7'
        have HB7 := hide (HB6.out.trans hb7)
        have HP7 := hide (show ∀ x ∈ bl.take (k + 1), x.1 ≠ 0 by
          intro x hx
          rw [List.take_add_one, HX.out] at hx
          rcases List.mem_append.1 hx with h | h
          · exact HP.out x h
          · simp at h; subst h; exact H0.out)
        have hwk : IntKind.i64.wrap ((k : Int) + 1) = ((k + 1 : Nat) : Int) := by have := HT.out; have := HLT.out; rw [IntKind.wrap_i64]; omega
        clear hW7 hW7' hb7
        go_wp2
        go_roundw
        case rel => exact ⟨k + 1, hlt, rfl, HP7.out, HW7.out, HB7.out⟩
        case measure => simp [intOf]; omega
    · have hke : k = bl.length := by omega
      subst hke
      have HWB := hide (show WriterIs wr w.heap.size w.heap.size (imgBody kind bl) by have := HW.out; rw [List.take_length] at this; exact this)
      have HPP := hide (show ∀ x ∈ bl, x.1 ≠ 0 by have := HP.out; rw [List.take_length] at this; exact this)
      clear HW HP
      have hbl := blocks_ok HB.out HT.out
      have HBL := hide (imgBody_lt HK.out HU.out hbl)
      have HLB := hide (show (imgBody kind bl).length ≤ 140737488355100 by have := imgBody_len kind bl; have := HT.out; omega)
      have HE2 := hide (show img kind bl = imgBody kind bl ++ Uv.word (seal_ (imgBody kind bl)) from rfl)
      have HIL := hide (img_lt HK.out HU.out hbl)
      have HSL := hide (seal_lt' HBL.out)
      clear hbl
      generalize imgBody kind bl = ib at HWB HBL HLB HE2 HSL
      go_wp2_with fail
      refine (writer_bytes wr _ _ ib HWB.out HBL.out (by have := HLB.out; omega)).mono ?_
      rintro e w6 ⟨rfl, hh6, hb6⟩
      have HB6 := hide (HBk.out.trans (hb6.mono hsz))
      have HW6 := hide (writer_keep HWB.out hb6)
      have HS6 := hide (src_block hh6 HBL.out (by have := HLB.out; omega))
      clear hh6 hb6
      go_wp2_with fail
      refine (seal_any w6 (seal_below HS.out HB6.out (by omega)) _ ib HS6.out (by have := HLB.out; omega)).mono ?_
      rintro e w' ⟨rfl, rfl⟩
      go_wp2_with fail
      refine (writer_word w6 _ _ (seal_ ib) ib HW6.out (by have := HLB.out; omega)).mono ?_
      rintro e w7 ⟨rfl, hW7, hb7⟩
      rw [← HE2.out] at hW7
      have HW7 := hide hW7
      have HB7 := hide (HB6.out.trans hb7)
      clear hW7 hb7
      go_wp2_with fail
      refine (writer_bytes w7 _ _ (img kind bl) HW7.out HIL.out (by have := HLB.out; rw [HE2.out, List.length_append]; have : (Uv.word (seal_ ib)).length = 4 := rfl; omega)).mono ?_
      rintro e w8 ⟨rfl, hh8, hb8⟩
      have HB8 := hide (HB7.out.trans (hb8.mono HB7.out.size))
      have HH8 := hide hh8
      clear hh8 hb8
      go_wp2
      go_ret2
      exact ⟨HB8.out, .inr ⟨HPP.out, _, rfl, HH8.out, Nat.le_succ_of_le HB7.out.size⟩⟩

theorem packf_any (w : World) (Z : Zip w) (S : SealT w) (E0 : Addr) (hE : ErrAt w 0 E0) (hg : 16 < w.heap.size) (kind : Nat) (hk : kind < 256) (hk0 : kind ≠ 0) (v : Value) (bl : List Bl) (hB : Blocks w v bl) (ht : tot bl ≤ 140737488355000) :
    Calls Tryd.prog 33 #[.int .u8 kind, v] w (PackOutF w E0 kind bl) := by
  obtain ⟨ao, cap, rfl, h⟩ := blocks_form hB
  exact packf_some w Z S E0 hE hg kind hk hk0 bl ao cap h ht
end Go.Proofs.YtgebekklkodpaaaDoor

/-! Law: what all laws of the seat share: the tables off the row's list, the post out of a walk, the witness -/
namespace Go.Proofs.YtgebekklkodpaaaDoor
open Go.ChangeShapes Go.WideShapes Go.ChangeAt Go.RowKit

theorem own : ownKnob Tryd.prog.godebug = none := by kernel_rfl
theorem laidOut : laidOutB Tryd.prog = true := by kernel_rfl
theorem gZip : Tryd.prog.globalNamed "concord/frame.zipTable" = some 16 := by kernel_rfl
theorem tZip : (Tryd.prog.globals[16]?).map (·.type) = some 103 := by kernel_rfl
theorem gSeal : Tryd.prog.globalNamed "concord/frame.sealTable" = some 15 := by kernel_rfl
theorem tSeal : (Tryd.prog.globals[15]?).map (·.type) = some 103 := by kernel_rfl
theorem c22 : Tryd.prog.cellsOf 22 = 1 := by kernel_rfl
theorem c103 : Tryd.prog.cellsOf 103 = 16 := by kernel_rfl

def zipInts : List Int := [0, 498536548, 997073096, 651767980, 1994146192, 1802195444, 1303535960, 1342533948, 3988292384, 4027552580, 3604390888, 3412177804, 2607071920, 2262029012, 2685067896, 3183342108]
theorem zipInts_get : ∀ k, k < 16 → zipInts.getD k 0 = ((Crc.zipTable.getD k 0 : Nat) : Int) := by decide +kernel
def sealInts : List Int := [0, 274646895, 549293790, 820201905, 1098587580, 1361435347, 1640403810, 1905808397, 2197175160, 2460548119, 2722870694, 2987750089, 3280807620, 3553878443, 3811616794, 4084100981]
theorem sealInts_get : ∀ k, k < 16 → sealInts.getD k 0 = ((Crc.sealTable.getD k 0 : Nat) : Int) := by decide +kernel

theorem below_trodAll {H : Type} {enc : TypeId × Value → H} {P : Program} (hl : laidOutB P = true) {W W' : World} (hb : Below W.heap.size W W') (ts : List TypeId) : ∀ {vs : List Value} {ds : List (DataW H)} {ps : List MemPlace},
    ts.all (fun t => P.readableRec t && decide (t < P.types.size)) = true → DataW.TrodAll enc P W 0 (fun _ => true) true ts vs ds ps → (∀ x ∈ ps, x.block < W.heap.size) →
    DataW.TrodAll enc P W' 0 (fun b => decide (b < W.heap.size)) true ts vs ds ps := by
  induction ts with
  | nil =>
    intro vs ds ps _ h _
    obtain ⟨rfl, rfl, rfl⟩ := trodAll_nil h
    exact trodAll_mk0
  | cons t ts ih =>
    intro vs ds ps ht h hlt
    obtain ⟨v, vs', d, ds', p, q, rfl, rfl, rfl, h1, h2⟩ := trodAll_cons h
    simp only [List.all_cons, Bool.and_eq_true, decide_eq_true_eq] at ht
    exact trodAll_cons_mk (Below.trod hl ht.1.1 ht.1.2 h1 hb (fun x hx => hlt x (by simp [hx]))) (ih ht.2 h2 (fun x hx => hlt x (by simp [hx])))

/-- THE POST of every law: it answered true, and nothing that was there has turned -/
theorem law_post {H : Type} {enc : TypeId × Value → H} {s : ChangeSpec} {fn : Func} {W W' : World} {args : Array Value} {ds : List (DataW H)} {before : List MemPlace}
    (hW : DataW.Whole enc Tryd.prog fn.params.toList s.vars false W args.toList ds [] before) (hv : s.vars = []) (hfn : s.fn H (ds ++ []) = { results := [.lit (.bool true)], args := ds }) (hr : fn.resultTypes = #[4])
    (hts : fn.params.toList.all (fun t => Tryd.prog.readableRec t && decide (t < Tryd.prog.types.size)) = true) (hb : Below W.heap.size W W') :
    s.post enc Tryd.prog fn false true false false W args (.bool true) W' := by
  have hW' := hW
  obtain ⟨p, q, hA0, hV, rfl, hfz, hnd⟩ := hW
  have hA : DataW.TrodAll enc Tryd.prog W 0 (fun _ => true) true fn.params.toList args.toList ds p := hA0
  rw [hv] at hV
  obtain ⟨_, rfl⟩ := trodVars_none hV
  refine ⟨ds, [], _, [], p, [], hW', ?_, ?_, ?_, hb.frame _, fun h => by cases h⟩
  · rw [hfn, hr]
    exact trodAll_cons_mk (shut_bool Tryd.underlying4 true) trodAll_mk0
  · rw [hfn]
    exact below_trodAll laidOut hb _ hts hA (fun x hx => by simpa using hW'.lt x (by simp [hx]))
  · rw [hv, hfn]
    rfl

theorem zip_of_laid {W : World} {rest : List (String × DataW Unit)} (h : laidMet Tryd.prog (("concord/frame.zipTable", Rows.laid_concord_frame_zipTable) :: rest) W) : Zip W ∧ 16 < W.heap.size := by
  have h1 : Lib.TabIs Tryd.prog W "concord/frame.zipTable" .u32 zipInts := Lib.tabIs_of_head (rest := rest) gZip tZip Tryd.underlying103 Tryd.underlying22 c22 c103 h
  have h2 : Zip W := fun k hk => by
    have h3 := h1.cell gZip k hk
    rw [h3, zipInts_get k hk]
  exact ⟨h2, World.block_lt_of_cell? W ⟨16, 0, none⟩ (h2 0 (by omega))⟩
end Go.Proofs.YtgebekklkodpaaaDoor

/-! Laid: the errors and the tables, off a row's list -/
namespace Go.Proofs.YtgebekklkodpaaaDoor
open Go.ChangeShapes Go.WideShapes Go.ChangeAt Go.RowKit

theorem star : "*" ++ "errors.errorString" = "*errors.errorString" := by decide
theorem row124 (u : TypeId) (h : Tryd.prog.typeName? 3 u = some "*errors.errorString") : u = 124 :=
  typeName_ptr_named (nm := "errors.errorString") (by rw [star]; kernel_rfl) (by kernel_rfl) (by decide) u (by rw [star]; exact h)
theorem c140 : Tryd.prog.cellsOf 140 = 1 := by kernel_rfl
theorem c9 : Tryd.prog.cellsOf 9 = 1 := by kernel_rfl

/-- a listed variable is read, wherever it stands on the list -/
theorem laid_mem {P : Program} {W : World} {l : List (String × DataW Unit)} (h : laidMet P l W) {n : String} {d : DataW Unit} (hm : (n, d) ∈ l) : ∃ r, laidMet P ((n, d) :: r) W := by
  induction l with
  | nil => cases hm
  | cons x r ih =>
    rcases List.mem_cons.1 hm with rfl | hm
    · exact ⟨r, h⟩
    · exact ih h.tail hm

/-- what a listed error reads as -/
theorem laid_err_any {P : Program} {n nm : String} {text : List UInt8} {r : List (String × DataW Unit)} {W : World} {g : Nat} {ti tp te ts : TypeId} {ms : Array (String × TypeId)} {f : Field}
    (h : laidMet P ((n, .iface nm (.ptr (.agg [.lit (.string text)]))) :: r) W)
    (hg : P.globalNamed n = some g) (ht : (P.globals[g]?).map (·.type) = some ti) (hi : P.underlying ti = some (.interface ms)) (hrow : ∀ u, P.typeName? 3 u = some nm → u = tp)
    (hp : P.underlying tp = some (.pointer te)) (he : P.underlying te = some (.struct #[f])) (hft : f.type = ts) (hfo : f.offset = 0) (hs : P.underlying ts = some .string) (hc : P.cellsOf te = 1) (hcs : P.cellsOf ts = 1) :
    ∃ (a : Addr) (s : ByteArray), W.cell? ⟨g, 0, none⟩ = some (.iface tp (.pointer (some a))) ∧ W.cell? a = some (.string s) ∧ s.data.toList = text ∧ ∃ c t, W.heap[a.block]? = some (.cells c t (0, 0)) := by
  obtain ⟨ps, ⟨g0, t0, cs0, f0, p0, q0, hg0, ht0, hv0, hd0, _, e0⟩, _, hrows⟩ := h
  obtain rfl := Option.some.inj (hg.symm.trans hg0)
  obtain rfl := Option.some.inj (ht.symm.trans ht0)
  subst e0
  obtain ⟨l0⟩ := cs0
  have ok0 : ∀ u v, l0 = [.iface u v] → Value.okWide P W .any 0 u v := fun u v e => by
    subst e
    exact (hrows g 0 (by simp [MemPlace.row])).2 u v (by simpa using World.var?_cell hg0 hv0 0)
  obtain ⟨a0, s0, rfl, hc0, hs0, _, hpp⟩ := errorString_of_trod hi hrow hp he hft hfo hs hc hcs hd0 ok0
  refine ⟨a0, s0, by simpa using World.var?_cell hg0 hv0 0, hc0, hs0, ?_⟩
  subst hpp
  exact (hrows a0.block a0.off (by simp [MemPlace.row])).1
theorem laid_err {W : World} {n : String} {text : List UInt8} {r : List (String × DataW Unit)} {g : Nat} (h : laidMet Tryd.prog ((n, .iface "*errors.errorString" (.ptr (.agg [.lit (.string text)]))) :: r) W)
    (hg : Tryd.prog.globalNamed n = some g) (ht : (Tryd.prog.globals[g]?).map (·.type) = some 28) :
    ∃ (a : Addr) (s : ByteArray), ErrAt W g a ∧ W.cell? a = some (.string s) ∧ s.data.toList = text ∧ ∃ c t, W.heap[a.block]? = some (.cells c t (0, 0)) :=
  laid_err_any h hg ht Tryd.underlying28 row124 Tryd.underlying124 Tryd.underlying140 rfl rfl Tryd.underlying9 c140 c9

/-- the texts, by the variable's number -/
def errText : Nat → List UInt8
  | 0 => [99, 111, 110, 99, 111, 114, 100, 58, 32, 116, 97, 103]
  | 1 => [99, 111, 110, 99, 111, 114, 100, 58, 32, 116, 111, 111, 32, 115, 104, 111, 114, 116]
  | 2 => [99, 111, 110, 99, 111, 114, 100, 58, 32, 118, 97, 114, 105, 110, 116]
  | 3 => [99, 111, 110, 99, 111, 114, 100, 58, 32, 108, 105, 109, 105, 116]
  | 4 => [99, 111, 110, 99, 111, 114, 100, 58, 32, 111, 114, 100, 101, 114]
  | 5 => [99, 111, 110, 99, 111, 114, 100, 58, 32, 116, 97, 105, 108]
  | 6 => [99, 111, 110, 99, 111, 114, 100, 58, 32, 115, 117, 109]
  | 7 => [99, 111, 110, 99, 111, 114, 100, 58, 32, 114, 97, 110, 103, 101]
  | 8 => [99, 111, 110, 99, 111, 114, 100, 58, 32, 115, 105, 122, 101]
  | 9 => [99, 111, 110, 99, 111, 114, 100, 58, 32, 99, 111, 114, 114, 117, 112, 116]
  | 10 => [99, 111, 110, 99, 111, 114, 100, 58, 32, 115, 99, 104, 101, 109, 97]
  | 11 => [99, 111, 110, 99, 111, 114, 100, 58, 32, 102, 105, 101, 108, 100]
  | 12 => [99, 111, 110, 99, 111, 114, 100, 58, 32, 118, 97, 108, 117, 101]
  | 13 => [99, 111, 110, 99, 111, 114, 100, 58, 32, 112, 97, 116, 116, 101, 114, 110]
  | 14 => [99, 111, 110, 99, 111, 114, 100, 58, 32, 115, 116, 97, 116, 101, 115]
  | 17 => [99, 111, 110, 99, 111, 114, 100, 58, 32, 115, 121, 110, 116, 97, 120]
  | 18 => [99, 111, 110, 99, 111, 114, 100, 58, 32, 116, 111, 111, 32, 100, 101, 101, 112]
  | 19 => [99, 111, 110, 99, 111, 114, 100, 58, 32, 110, 111, 100, 101]
  | 20 => [99, 111, 110, 99, 111, 114, 100, 58, 32, 116, 111, 111, 32, 109, 97, 110, 121, 32, 116, 101, 114, 109, 115]
  | 21 => [99, 111, 110, 99, 111, 114, 100, 58, 32, 115, 99, 111, 114, 101, 32, 111, 118, 101, 114, 102, 108, 111, 119]
  | 22 => [99, 111, 110, 99, 111, 114, 100, 58, 32, 99, 111, 100, 101]
  | 23 => [99, 111, 110, 99, 111, 114, 100, 58, 32, 102, 117, 101, 108]
  | 24 => [99, 111, 110, 99, 111, 114, 100, 58, 32, 100, 111, 99, 117, 109, 101, 110, 116]
  | 25 => [99, 111, 110, 99, 111, 114, 100, 58, 32, 99, 111, 109, 109, 97, 110, 100]
  | _ => []
theorem gE0 : Tryd.prog.globalNamed "concord/api.ErrTag" = some 0 := by kernel_rfl
theorem tE0 : (Tryd.prog.globals[0]?).map (·.type) = some 28 := by kernel_rfl
theorem gE1 : Tryd.prog.globalNamed "concord/api.ErrShort" = some 1 := by kernel_rfl
theorem tE1 : (Tryd.prog.globals[1]?).map (·.type) = some 28 := by kernel_rfl
theorem gE2 : Tryd.prog.globalNamed "concord/api.ErrVarint" = some 2 := by kernel_rfl
theorem tE2 : (Tryd.prog.globals[2]?).map (·.type) = some 28 := by kernel_rfl
theorem gE3 : Tryd.prog.globalNamed "concord/api.ErrLimit" = some 3 := by kernel_rfl
theorem tE3 : (Tryd.prog.globals[3]?).map (·.type) = some 28 := by kernel_rfl
theorem gE4 : Tryd.prog.globalNamed "concord/api.ErrOrder" = some 4 := by kernel_rfl
theorem tE4 : (Tryd.prog.globals[4]?).map (·.type) = some 28 := by kernel_rfl
theorem gE5 : Tryd.prog.globalNamed "concord/api.ErrTail" = some 5 := by kernel_rfl
theorem tE5 : (Tryd.prog.globals[5]?).map (·.type) = some 28 := by kernel_rfl
theorem gE6 : Tryd.prog.globalNamed "concord/api.ErrSum" = some 6 := by kernel_rfl
theorem tE6 : (Tryd.prog.globals[6]?).map (·.type) = some 28 := by kernel_rfl
theorem gE7 : Tryd.prog.globalNamed "concord/api.ErrRange" = some 7 := by kernel_rfl
theorem tE7 : (Tryd.prog.globals[7]?).map (·.type) = some 28 := by kernel_rfl
theorem gE8 : Tryd.prog.globalNamed "concord/api.ErrSize" = some 8 := by kernel_rfl
theorem tE8 : (Tryd.prog.globals[8]?).map (·.type) = some 28 := by kernel_rfl
theorem gE9 : Tryd.prog.globalNamed "concord/api.ErrCorrupt" = some 9 := by kernel_rfl
theorem tE9 : (Tryd.prog.globals[9]?).map (·.type) = some 28 := by kernel_rfl
theorem gE10 : Tryd.prog.globalNamed "concord/api.ErrSchema" = some 10 := by kernel_rfl
theorem tE10 : (Tryd.prog.globals[10]?).map (·.type) = some 28 := by kernel_rfl
theorem gE11 : Tryd.prog.globalNamed "concord/api.ErrField" = some 11 := by kernel_rfl
theorem tE11 : (Tryd.prog.globals[11]?).map (·.type) = some 28 := by kernel_rfl
theorem gE12 : Tryd.prog.globalNamed "concord/api.ErrValue" = some 12 := by kernel_rfl
theorem tE12 : (Tryd.prog.globals[12]?).map (·.type) = some 28 := by kernel_rfl
theorem gE13 : Tryd.prog.globalNamed "concord/api.ErrPattern" = some 13 := by kernel_rfl
theorem tE13 : (Tryd.prog.globals[13]?).map (·.type) = some 28 := by kernel_rfl
theorem gE14 : Tryd.prog.globalNamed "concord/api.ErrStates" = some 14 := by kernel_rfl
theorem tE14 : (Tryd.prog.globals[14]?).map (·.type) = some 28 := by kernel_rfl
theorem gE17 : Tryd.prog.globalNamed "concord/api.ErrSyntax" = some 17 := by kernel_rfl
theorem tE17 : (Tryd.prog.globals[17]?).map (·.type) = some 28 := by kernel_rfl
theorem gE18 : Tryd.prog.globalNamed "concord/api.ErrDeep" = some 18 := by kernel_rfl
theorem tE18 : (Tryd.prog.globals[18]?).map (·.type) = some 28 := by kernel_rfl
theorem gE19 : Tryd.prog.globalNamed "concord/api.ErrNode" = some 19 := by kernel_rfl
theorem tE19 : (Tryd.prog.globals[19]?).map (·.type) = some 28 := by kernel_rfl
theorem gE20 : Tryd.prog.globalNamed "concord/api.ErrTerms" = some 20 := by kernel_rfl
theorem tE20 : (Tryd.prog.globals[20]?).map (·.type) = some 28 := by kernel_rfl
theorem gE21 : Tryd.prog.globalNamed "concord/api.ErrScore" = some 21 := by kernel_rfl
theorem tE21 : (Tryd.prog.globals[21]?).map (·.type) = some 28 := by kernel_rfl
theorem gE22 : Tryd.prog.globalNamed "concord/api.ErrCode" = some 22 := by kernel_rfl
theorem tE22 : (Tryd.prog.globals[22]?).map (·.type) = some 28 := by kernel_rfl
theorem gE23 : Tryd.prog.globalNamed "concord/api.ErrFuel" = some 23 := by kernel_rfl
theorem tE23 : (Tryd.prog.globals[23]?).map (·.type) = some 28 := by kernel_rfl
theorem gE24 : Tryd.prog.globalNamed "concord/api.ErrDoc" = some 24 := by kernel_rfl
theorem tE24 : (Tryd.prog.globals[24]?).map (·.type) = some 28 := by kernel_rfl
theorem gE25 : Tryd.prog.globalNamed "concord/api.ErrCommand" = some 25 := by kernel_rfl
theorem tE25 : (Tryd.prog.globals[25]?).map (·.type) = some 28 := by kernel_rfl

/-- one error's reading -/
def ErrRead (W : World) (g : Nat) : Prop := ∃ (a : Addr) (s : ByteArray), ErrAt W g a ∧ W.cell? a = some (.string s) ∧ s.data.toList = errText g ∧ ∃ c t, W.heap[a.block]? = some (.cells c t (0, 0))
theorem errs_of_reads {W : World} {ids : List Nat} (h : ∀ g ∈ ids, ErrRead W g) (hd : ∀ g ∈ ids, ∀ k ∈ ids, g ≠ k → errText g ≠ errText k) : ∃ E, Errs W E ids := by
  have hs : ∀ g : Nat, ∃ a : Addr, g ∈ ids → ∃ s : ByteArray, ErrAt W g a ∧ W.cell? a = some (.string s) ∧ s.data.toList = errText g ∧ ∃ c t, W.heap[a.block]? = some (.cells c t (0, 0)) := fun g => by
    by_cases hg : g ∈ ids
    · obtain ⟨a, s, h1⟩ := h g hg
      exact ⟨a, fun _ => ⟨s, h1⟩⟩
    · exact ⟨default, fun hh => absurd hh hg⟩
  obtain ⟨E, hE⟩ := Classical.axiomOfChoice hs
  refine ⟨E, fun g hg => ?_, fun g hg => ?_, fun g hg k hk hne e => ?_⟩
  · obtain ⟨s, h1, _⟩ := hE g hg
    exact h1
  · obtain ⟨s, _, _, _, h4⟩ := hE g hg
    exact h4
  · obtain ⟨s, _, h2, h3, _⟩ := hE g hg
    obtain ⟨s', _, h2', h3', _⟩ := hE k hk
    rw [e] at h2
    have e2 := Option.some.inj (h2.symm.trans h2')
    simp only [Value.string.injEq] at e2
    exact hd g hg k hk hne (h3.symm.trans ((congrArg (fun b : ByteArray => b.data.toList) e2).trans h3'))
theorem texts_apart : ∀ g ∈ allErrs, ∀ k ∈ allErrs, g ≠ k → errText g ≠ errText k := by decide +kernel
theorem read0 {W : World} {l : List (String × DataW Unit)} (h : laidMet Tryd.prog l W) (hm : ("concord/api.ErrTag", Rows.laid_concord_api_ErrTag) ∈ l) : ErrRead W 0 := by
  obtain ⟨r, h1⟩ := laid_mem h hm
  exact laid_err (text := errText 0) h1 gE0 tE0
theorem read1 {W : World} {l : List (String × DataW Unit)} (h : laidMet Tryd.prog l W) (hm : ("concord/api.ErrShort", Rows.laid_concord_api_ErrShort) ∈ l) : ErrRead W 1 := by
  obtain ⟨r, h1⟩ := laid_mem h hm
  exact laid_err (text := errText 1) h1 gE1 tE1
theorem read2 {W : World} {l : List (String × DataW Unit)} (h : laidMet Tryd.prog l W) (hm : ("concord/api.ErrVarint", Rows.laid_concord_api_ErrVarint) ∈ l) : ErrRead W 2 := by
  obtain ⟨r, h1⟩ := laid_mem h hm
  exact laid_err (text := errText 2) h1 gE2 tE2
theorem read3 {W : World} {l : List (String × DataW Unit)} (h : laidMet Tryd.prog l W) (hm : ("concord/api.ErrLimit", Rows.laid_concord_api_ErrLimit) ∈ l) : ErrRead W 3 := by
  obtain ⟨r, h1⟩ := laid_mem h hm
  exact laid_err (text := errText 3) h1 gE3 tE3
theorem read4 {W : World} {l : List (String × DataW Unit)} (h : laidMet Tryd.prog l W) (hm : ("concord/api.ErrOrder", Rows.laid_concord_api_ErrOrder) ∈ l) : ErrRead W 4 := by
  obtain ⟨r, h1⟩ := laid_mem h hm
  exact laid_err (text := errText 4) h1 gE4 tE4
theorem read5 {W : World} {l : List (String × DataW Unit)} (h : laidMet Tryd.prog l W) (hm : ("concord/api.ErrTail", Rows.laid_concord_api_ErrTail) ∈ l) : ErrRead W 5 := by
  obtain ⟨r, h1⟩ := laid_mem h hm
  exact laid_err (text := errText 5) h1 gE5 tE5
theorem read6 {W : World} {l : List (String × DataW Unit)} (h : laidMet Tryd.prog l W) (hm : ("concord/api.ErrSum", Rows.laid_concord_api_ErrSum) ∈ l) : ErrRead W 6 := by
  obtain ⟨r, h1⟩ := laid_mem h hm
  exact laid_err (text := errText 6) h1 gE6 tE6
theorem read7 {W : World} {l : List (String × DataW Unit)} (h : laidMet Tryd.prog l W) (hm : ("concord/api.ErrRange", Rows.laid_concord_api_ErrRange) ∈ l) : ErrRead W 7 := by
  obtain ⟨r, h1⟩ := laid_mem h hm
  exact laid_err (text := errText 7) h1 gE7 tE7
theorem read8 {W : World} {l : List (String × DataW Unit)} (h : laidMet Tryd.prog l W) (hm : ("concord/api.ErrSize", Rows.laid_concord_api_ErrSize) ∈ l) : ErrRead W 8 := by
  obtain ⟨r, h1⟩ := laid_mem h hm
  exact laid_err (text := errText 8) h1 gE8 tE8
theorem read9 {W : World} {l : List (String × DataW Unit)} (h : laidMet Tryd.prog l W) (hm : ("concord/api.ErrCorrupt", Rows.laid_concord_api_ErrCorrupt) ∈ l) : ErrRead W 9 := by
  obtain ⟨r, h1⟩ := laid_mem h hm
  exact laid_err (text := errText 9) h1 gE9 tE9
theorem read10 {W : World} {l : List (String × DataW Unit)} (h : laidMet Tryd.prog l W) (hm : ("concord/api.ErrSchema", Rows.laid_concord_api_ErrSchema) ∈ l) : ErrRead W 10 := by
  obtain ⟨r, h1⟩ := laid_mem h hm
  exact laid_err (text := errText 10) h1 gE10 tE10
theorem read11 {W : World} {l : List (String × DataW Unit)} (h : laidMet Tryd.prog l W) (hm : ("concord/api.ErrField", Rows.laid_concord_api_ErrField) ∈ l) : ErrRead W 11 := by
  obtain ⟨r, h1⟩ := laid_mem h hm
  exact laid_err (text := errText 11) h1 gE11 tE11
theorem read12 {W : World} {l : List (String × DataW Unit)} (h : laidMet Tryd.prog l W) (hm : ("concord/api.ErrValue", Rows.laid_concord_api_ErrValue) ∈ l) : ErrRead W 12 := by
  obtain ⟨r, h1⟩ := laid_mem h hm
  exact laid_err (text := errText 12) h1 gE12 tE12
theorem read13 {W : World} {l : List (String × DataW Unit)} (h : laidMet Tryd.prog l W) (hm : ("concord/api.ErrPattern", Rows.laid_concord_api_ErrPattern) ∈ l) : ErrRead W 13 := by
  obtain ⟨r, h1⟩ := laid_mem h hm
  exact laid_err (text := errText 13) h1 gE13 tE13
theorem read14 {W : World} {l : List (String × DataW Unit)} (h : laidMet Tryd.prog l W) (hm : ("concord/api.ErrStates", Rows.laid_concord_api_ErrStates) ∈ l) : ErrRead W 14 := by
  obtain ⟨r, h1⟩ := laid_mem h hm
  exact laid_err (text := errText 14) h1 gE14 tE14
theorem read17 {W : World} {l : List (String × DataW Unit)} (h : laidMet Tryd.prog l W) (hm : ("concord/api.ErrSyntax", Rows.laid_concord_api_ErrSyntax) ∈ l) : ErrRead W 17 := by
  obtain ⟨r, h1⟩ := laid_mem h hm
  exact laid_err (text := errText 17) h1 gE17 tE17
theorem read18 {W : World} {l : List (String × DataW Unit)} (h : laidMet Tryd.prog l W) (hm : ("concord/api.ErrDeep", Rows.laid_concord_api_ErrDeep) ∈ l) : ErrRead W 18 := by
  obtain ⟨r, h1⟩ := laid_mem h hm
  exact laid_err (text := errText 18) h1 gE18 tE18
theorem read19 {W : World} {l : List (String × DataW Unit)} (h : laidMet Tryd.prog l W) (hm : ("concord/api.ErrNode", Rows.laid_concord_api_ErrNode) ∈ l) : ErrRead W 19 := by
  obtain ⟨r, h1⟩ := laid_mem h hm
  exact laid_err (text := errText 19) h1 gE19 tE19
theorem read20 {W : World} {l : List (String × DataW Unit)} (h : laidMet Tryd.prog l W) (hm : ("concord/api.ErrTerms", Rows.laid_concord_api_ErrTerms) ∈ l) : ErrRead W 20 := by
  obtain ⟨r, h1⟩ := laid_mem h hm
  exact laid_err (text := errText 20) h1 gE20 tE20
theorem read21 {W : World} {l : List (String × DataW Unit)} (h : laidMet Tryd.prog l W) (hm : ("concord/api.ErrScore", Rows.laid_concord_api_ErrScore) ∈ l) : ErrRead W 21 := by
  obtain ⟨r, h1⟩ := laid_mem h hm
  exact laid_err (text := errText 21) h1 gE21 tE21
theorem read22 {W : World} {l : List (String × DataW Unit)} (h : laidMet Tryd.prog l W) (hm : ("concord/api.ErrCode", Rows.laid_concord_api_ErrCode) ∈ l) : ErrRead W 22 := by
  obtain ⟨r, h1⟩ := laid_mem h hm
  exact laid_err (text := errText 22) h1 gE22 tE22
theorem read23 {W : World} {l : List (String × DataW Unit)} (h : laidMet Tryd.prog l W) (hm : ("concord/api.ErrFuel", Rows.laid_concord_api_ErrFuel) ∈ l) : ErrRead W 23 := by
  obtain ⟨r, h1⟩ := laid_mem h hm
  exact laid_err (text := errText 23) h1 gE23 tE23
theorem read24 {W : World} {l : List (String × DataW Unit)} (h : laidMet Tryd.prog l W) (hm : ("concord/api.ErrDoc", Rows.laid_concord_api_ErrDoc) ∈ l) : ErrRead W 24 := by
  obtain ⟨r, h1⟩ := laid_mem h hm
  exact laid_err (text := errText 24) h1 gE24 tE24
theorem read25 {W : World} {l : List (String × DataW Unit)} (h : laidMet Tryd.prog l W) (hm : ("concord/api.ErrCommand", Rows.laid_concord_api_ErrCommand) ∈ l) : ErrRead W 25 := by
  obtain ⟨r, h1⟩ := laid_mem h hm
  exact laid_err (text := errText 25) h1 gE25 tE25

theorem zip_of_mem {W : World} {l : List (String × DataW Unit)} (h : laidMet Tryd.prog l W) (hm : ("concord/frame.zipTable", Rows.laid_concord_frame_zipTable) ∈ l) : Zip W ∧ 16 < W.heap.size := by
  obtain ⟨r, h1⟩ := laid_mem h hm
  exact zip_of_laid h1
theorem seal_of_mem {W : World} {l : List (String × DataW Unit)} (h : laidMet Tryd.prog l W) (hm : ("concord/frame.sealTable", Rows.laid_concord_frame_sealTable) ∈ l) : SealT W := by
  obtain ⟨r, h1⟩ := laid_mem h hm
  have h2 : Lib.TabIs Tryd.prog W "concord/frame.sealTable" .u32 sealInts := Lib.tabIs_of_head (rest := r) gSeal tSeal Tryd.underlying103 Tryd.underlying22 c22 c103 h1
  intro k hk
  have h3 := h2.cell gSeal k hk
  rw [h3, sealInts_get k hk]
end Go.Proofs.YtgebekklkodpaaaDoor

/-! Open: arguments opened -/
namespace Go.Proofs.YtgebekklkodpaaaDoor
open Go.ChangeShapes Go.WideShapes Go.ChangeAt Go.RowKit

theorem c5 : Tryd.prog.cellsOf 5 = 1 := by kernel_rfl
theorem b5 : Tryd.prog.bytesOf 5 = 1 := by kernel_rfl

/-- bytes that came in -/
theorem bytes_of_trod {H : Type} {enc : TypeId × Value → H} {P : Program} {T E : TypeId} {W : World} {base : Nat} {spare : Nat → Bool} {held : Bool} {n : Nat} {v : Value} {d : DataW H} {p : List MemPlace}
    (hT : P.underlying T = some (.slice E)) (hE : P.underlying E = some (.int .u8)) (hC : P.cellsOf E = 1)
    (h : DataW.trod enc P W base spare held n T [v] = some (d, p)) :
    ∃ bs, Src W v bs ∧ ((d = .nil ∧ bs = []) ∨ ∃ elems sp, d = .slice elems sp ∧ elems.length = bs.length) := by
  rcases open_ints hT hE hC h with ⟨hcs, hx⟩ | ⟨a, len, cap, zs, hcs, hb, hl, hm, hz, hx, hc, hw⟩
  · simp only [List.cons.injEq, and_true] at hcs
    simp only [Prod.mk.injEq] at hx
    exact ⟨[], ⟨by simp, .inl ⟨hcs, rfl⟩⟩, .inl ⟨hx.1, rfl⟩⟩
  · simp only [List.cons.injEq, and_true] at hcs
    simp only [Prod.mk.injEq] at hx
    have hlz : len ≤ zs.length := by rw [hz]; split <;> omega
    have hlen : ((zs.take len).map Int.toNat).length = len := by simp; omega
    have hin : ∀ z ∈ zs, 0 ≤ z ∧ z ≤ 255 := fun z hz => by
      have := hw z hz
      simp [Lit.wf, IntKind.min, IntKind.max, IntKind.signed, IntKind.bits] at this
      omega
    refine ⟨(zs.take len).map Int.toNat, ⟨?_, .inr ⟨a, cap, by rw [hlen]; exact hcs, by rw [hlen]; exact hl, by unfold maxLen at hm; omega, ?_⟩⟩, .inr ⟨_, _, hx.1, ?_⟩⟩
    · intro x hx
      obtain ⟨z, hz, rfl⟩ := List.mem_map.1 hx
      have := hin z (List.mem_of_mem_take hz)
      omega
    · intro k x hk
      simp only [List.getElem?_map, Option.map_eq_some_iff] at hk
      obtain ⟨z, hz, rfl⟩ := hk
      obtain ⟨hkl, hz2⟩ := List.getElem?_eq_some_iff.1 hz
      simp at hkl hz2
      have hmem : z ∈ zs := by rw [← hz2]; exact List.getElem_mem _
      have h0 := hin z hmem
      rw [hc k (by omega)]
      have e : zs.getD k 0 = z := by rw [List.getD_eq_getElem?_getD, List.getElem?_eq_getElem (by omega)]; exact hz2
      rw [e, Int.toNat_of_nonneg h0.1]
    · simp [lits]

set_option maxRecDepth 100000 in
theorem open_bytes {H : Type} {enc : TypeId × Value → H} {W : World} {base : Nat} {v : Value} {d : DataW H} {p : List MemPlace}
    (hv : Value.okWide Tryd.prog W .any base 25 v) (h : DataW.Trod enc Tryd.prog W 0 (fun _ => true) true 25 v d p) :
    ∃ bs, Src W v bs ∧ ((d = .nil ∧ bs = []) ∨ ∃ elems sp, d = .slice elems sp ∧ elems.length = bs.length) := by
  obtain ⟨a0, len, cap, rfl⟩ := okWide_slice Tryd.underlying25 hv
  obtain ⟨fuel, hf⟩ := h
  exact bytes_of_trod Tryd.underlying25 Tryd.underlying5 c5 hf

set_option maxRecDepth 100000 in
/-- the reach pays for their number -/
theorem bytes_reach {H : Type} {ts : List TypeId} {ds : List (DataW H)} (hsz : (DataW.weightsEach Tryd.prog ts ds).all (· ≤ reachBytes) = true) {j : Nat} {d : DataW H} {bs : List Nat} (ht : ts[j]? = some 25) (hd : ds[j]? = some d)
    (h : (d = .nil ∧ bs = []) ∨ ∃ elems sp, d = .slice elems sp ∧ elems.length = bs.length) : bs.length ≤ 140737488351232 := by
  rcases h with ⟨_, rfl⟩ | ⟨elems, sp, rfl, hl⟩
  · simp
  · have := sized_slice hsz ht hd Tryd.underlying25
    rw [b5] at this
    simp only [reachBytes] at this
    omega
end Go.Proofs.YtgebekklkodpaaaDoor

/-! Upto: the second form's bulk -/
namespace Go.Proofs.YtgebekklkodpaaaDoor
open Go.Proofs.YtgebekklkodpaaaDoor.Rows

theorem bulk_pos {H : Type} (d : DataW H) : 1 ≤ uptoBulk d := by
  cases d with
  | lit l => cases l <;> simp [uptoBulk]
  | _ => simp [uptoBulk]
theorem bulk_len {H : Type} (l : List (DataW H)) : l.length ≤ uptoBulkAll l := by
  induction l with
  | nil => simp
  | cons d r ih =>
    have := bulk_pos d
    rw [uptoBulkAll, List.length_cons]
    omega
theorem bulk_get {H : Type} {l : List (DataW H)} {j : Nat} {d : DataW H} (h : l[j]? = some d) : uptoBulk d ≤ uptoBulkAll l := by
  induction l generalizing j with
  | nil => simp at h
  | cons x r ih =>
    rw [uptoBulkAll]
    cases j with
    | zero => simp at h; subst h; omega
    | succ j => have := ih (j := j) (by simpa using h); omega
theorem small_le {H : Type} {ds : List (DataW H)} (hk : uptoSmall H ds = true) : uptoBulkAll ds ≤ 1048576 := of_decide_eq_true hk
theorem small_bytes {H : Type} {ds : List (DataW H)} (hk : uptoSmall H ds = true) {j : Nat} {d : DataW H} {bs : List Nat} (hd : ds[j]? = some d)
    (h : (d = .nil ∧ bs = []) ∨ ∃ elems sp, d = .slice elems sp ∧ elems.length = bs.length) : bs.length ≤ 1048576 := by
  have h1 := small_le hk
  have h2 := bulk_get hd
  rcases h with ⟨_, rfl⟩ | ⟨elems, sp, rfl, hl⟩
  · simp
  · rw [uptoBulk] at h2
    have := bulk_len elems
    omega
end Go.Proofs.YtgebekklkodpaaaDoor

/-! Ties: The row's closed facts, one by one, for any program; and those that hang on the program alone, once. -/
namespace Go.Proofs.YtgebekklkodpaaaDoor
open Go Go.ChangeShapes Go.WideShapes Go.ChangeAt Go.RowKit
theorem facts_of {P : Program} {f : FuncId} {fn : Func} {s : ChangeSpec} {c : OpenClaim}
    (k0 : (c.wf (OpenSpec.ofChange s)) = true)
    (k1 : (laidOutB P) = true)
    (k2 : (mapsRowed P) = true)
    (k3 : (fn.params.all (P.readableRec ·)) = true)
    (k4 : (namedTie P c.named s.vars) = true)
    (k5 : ((c.stops == [])) = true)
    (k6 : ((P.stops == [])) = true)
    (k7 : ((c.knobs == [])) = true)
    (k8 : ((P.stopKnobs == [])) = true)
    (k9 : ((c.inPlace == P.inPlace f)) = true)
    (k10 : ((c.unfollowed == P.unfollowed f)) = true)
    (k11 : ((c.recurses == P.recurses f)) = true)
    (k12 : ((c.named == P.varsNamed f)) = true)
    (k13 : ((c.maps == (fn.params.toList ++ s.plain.varTypes P).any (P.mapsRec ·))) = true)
    (k14 : ((c.ifaces == (fn.params.toList ++ s.plain.varTypes P).any (P.ifacesRec ·))) = true)
    (k15 : ((c.mapsOut == P.mapsAmong fn.resultTypes.toList)) = true)
    (k16 : ((c.loops == (fn.params.toList ++ s.plain.varTypes P).any (P.loopsFrom ·))) = true)
    (k17 : ((c.wideKeys == (fn.params.toList ++ s.plain.varTypes P ++ fn.resultTypes.toList).any (P.wideKeysFrom ·))) = true)
    (k18 : (s.vars.all (P.varReadable ·)) = true)
    (k19 : (fn.resultTypes.all (fun t => P.readableRec t && decide (t < P.types.size))) = true)
    (k20 : ((c.ifacesOut == fn.resultTypes.toList.any (P.ifacesRec ·))) = true)
    (k21 : ((c.loopsOut == fn.resultTypes.toList.any (P.loopsFrom ·))) = true)
    (k22 : ((c.plainKeys == P.plainKeys)) = true)
    (k23 : (c.shortTexts.isNone) = true)
    (k24 : (P.stopsHeard) = true)
    (k25 : (P.mayEnter) = true)
    (k26 : ((c.lifted == P.liftsFinal)) = true)
    (k27 : ((P.make == some c.make)) = true)
    (k28 : ((c.kinds == (if c.domain.isEmpty then [] else fn.params.toList.map fun t => match P.underlying t with | some (.int k) => some k | _ => none))) = true)
    (k29 : ((c.pinned == c.pinnedBy)) = true)
    (k30 : ((c.veiled == (fn.params.toList ++ s.plain.varTypes P ++ fn.resultTypes.toList).any (P.veiledRec ·))) = true)
    (k31 : (c.veiledFits P fn.params.toList (fn.params.toList ++ s.plain.varTypes P ++ fn.resultTypes.toList)) = true)
    : joinedFacts P f fn s c = true := by
  simp only [joinedFacts, Bool.and_eq_true]
  exact ⟨⟨⟨⟨⟨⟨⟨⟨⟨⟨⟨⟨⟨⟨⟨⟨⟨⟨⟨⟨⟨⟨⟨⟨⟨⟨⟨⟨⟨⟨⟨k0, k1⟩, k2⟩, k3⟩, k4⟩, k5⟩, k6⟩, k7⟩, k8⟩, k9⟩, k10⟩, k11⟩, k12⟩, k13⟩, k14⟩, k15⟩, k16⟩, k17⟩, k18⟩, k19⟩, k20⟩, k21⟩, k22⟩, k23⟩, k24⟩, k25⟩, k26⟩, k27⟩, k28⟩, k29⟩, k30⟩, k31⟩
theorem Tryd.laidOut : (laidOutB Tryd.prog) = true := by kernel_rfl
theorem Tryd.rowed : (mapsRowed Tryd.prog) = true := by kernel_rfl
theorem Tryd.noStops : ((Tryd.prog.stops == [])) = true := by kernel_rfl
theorem Tryd.noKnobs : ((Tryd.prog.stopKnobs == [])) = true := by kernel_rfl
theorem Tryd.heard : (Tryd.prog.stopsHeard) = true := by kernel_rfl
theorem Tryd.mayEnter : (Tryd.prog.mayEnter) = true := by kernel_rfl
theorem Tryd.keys : Tryd.prog.plainKeys = Rows.frameJoinsRow.plainKeys := by kernel_rfl
theorem Tryd.lifts : Tryd.prog.liftsFinal = Rows.frameJoinsRow.lifted := by kernel_rfl
theorem Tryd.makes : Tryd.prog.make = some Rows.frameJoinsRow.make := by kernel_rfl
end Go.Proofs.YtgebekklkodpaaaDoor

/-! OpenBl: a list of blocks that came in -/
namespace Go.Proofs.YtgebekklkodpaaaDoor
open Go.ChangeShapes Go.WideShapes Go.ChangeAt Go.RowKit Go.Proofs.YtgebekklkodpaaaDoor.Rows

theorem tot_bulk {H : Type} (l : List Nat) (g : Nat → Bl) (D : Nat → DataW H) (h : ∀ i ∈ l, (g i).2.length + 15 ≤ 15 * uptoBulk (D i)) : tot (l.map g) ≤ 15 * uptoBulkAll (l.map D) := by
  induction l with
  | nil => simp [tot, uptoBulkAll]
  | cons i r ih =>
    have h1 := h i (by simp)
    have h2 := ih (fun j hj => h j (by simp [hj]))
    simp only [tot, List.map_cons, List.sum_cons, uptoBulkAll] at *
    omega

theorem blocks_of_trod {H : Type} {enc : TypeId × Value → H} {P : Program} {T E U S : TypeId} {f0 f1 : Field} {W : World} {base : Nat} {spare : Nat → Bool} {held : Bool} {n : Nat} {v : Value} {d : DataW H} {p : List MemPlace}
    (hT : P.underlying T = some (.slice E)) (hE : P.underlying E = some (.struct #[f0, f1])) (cE : P.cellsOf E = 2) (o0 : f0.offset = 0) (o1 : f1.offset = 1)
    (t0 : f0.type = U) (t1 : f1.type = S) (hU : P.underlying U = some (.int .u8)) (cU : P.cellsOf U = 1) (hS : P.underlying S = some (.slice U)) (cS : P.cellsOf S = 1)
    (h : DataW.trod enc P W base spare held n T [v] = some (d, p)) :
    ∃ bl : List Bl, Blocks W v bl ∧ tot bl ≤ 15 * uptoBulk d := by
  rcases Go.Deep.open_slice_pairs hT hE cE o0 o1 (by rw [t0]; exact cU) (by rw [t1]; exact cS) h with ⟨h1, h2⟩ | ⟨a, len, cap, m, n', V0, V1, D0, D1, P0, P1, hcs, hb, hl, hm, hmm, hx, hi⟩
  · simp only [List.cons.injEq, and_true] at h1
    simp only [Prod.mk.injEq] at h2
    exact ⟨[], .inl ⟨h1, rfl⟩, by simp [tot]⟩
  · have hlm : len ≤ m := by rw [hmm]; split <;> omega
    simp only [List.cons.injEq, and_true] at hcs
    simp only [Prod.mk.injEq] at hx
    rw [t0, t1] at hi
    have each : ∀ i, i < len → ∃ q : Bl, BlkAt W (a.add (2 * i)) q ∧ q.2.length + 1 ≤ uptoBulk (D1 i) := by
      intro i hil
      obtain ⟨c0, c1, r0, r1⟩ := hi i (by omega)
      obtain ⟨z, hz, _, hw⟩ := DataW.trod_int hU r0
      simp only [List.cons.injEq, and_true] at hz
      simp [Lit.wf, IntKind.min, IntKind.max, IntKind.signed, IntKind.bits] at hw
      obtain ⟨bs, hsrc, hd⟩ := bytes_of_trod hS hU cU r1
      refine ⟨(z.toNat, bs), ⟨by simp only; omega, V1 i, ?_, ?_, hsrc⟩, ?_⟩
      · rw [Nat.mul_comm, c0, hz]
        simp only
        rw [Int.toNat_of_nonneg (by omega)]
      · rw [Nat.mul_comm, Go.Deep.add_add]
        exact c1
      · rcases hd with ⟨hd, rfl⟩ | ⟨elems, sp, hd, he⟩
        · rw [hd]; simp [uptoBulk]
        · rw [hd, uptoBulk]
          have := bulk_len elems
          simp only
          omega
    obtain ⟨q, hq⟩ := Go.Deep.choose_lt each
    refine ⟨(List.range len).map q, .inr ⟨a, cap, by rw [hcs]; simp, by simpa using hl, by unfold maxLen at hm; omega, ?_⟩, ?_⟩
    · intro k x hk
      simp only [List.getElem?_map, Option.map_eq_some_iff] at hk
      obtain ⟨j, hj, rfl⟩ := hk
      obtain ⟨hkl, hkj⟩ := List.getElem?_eq_some_iff.1 hj
      simp at hkl hkj
      subst hkj
      exact (hq k hkl).1
    · rw [hx.1, uptoBulk]
      have := tot_bulk (List.range len) q (fun i => DataW.agg [D0 i, D1 i]) (fun i hi' => by
        have h1 := (hq i (List.mem_range.1 hi')).2
        have h2 := bulk_pos (D0 i)
        simp only [uptoBulk, uptoBulkAll]
        omega)
      omega

theorem c38 : Tryd.prog.cellsOf 38 = 1 := by kernel_rfl
theorem c25 : Tryd.prog.cellsOf 25 = 1 := by kernel_rfl
theorem c47 : Tryd.prog.cellsOf 47 = 2 := by kernel_rfl
set_option maxRecDepth 100000 in
theorem open_blocks {H : Type} {enc : TypeId × Value → H} {W : World} {base : Nat} {v : Value} {d : DataW H} {p : List MemPlace}
    (hv : Value.okWide Tryd.prog W .any base 38 v) (h : DataW.Trod enc Tryd.prog W 0 (fun _ => true) true 38 v d p) :
    ∃ bl : List Bl, Blocks W v bl ∧ tot bl ≤ 15 * uptoBulk d := by
  obtain ⟨a0, len, cap, rfl⟩ := okWide_slice Tryd.underlying38 hv
  obtain ⟨fuel, hf⟩ := h
  exact blocks_of_trod Tryd.underlying38 Tryd.underlying47 c47 rfl rfl rfl rfl Tryd.underlying5 c5 Tryd.underlying25 c25 hf
theorem small_tot {H : Type} {ds : List (DataW H)} (hk : uptoSmall H ds = true) {j : Nat} {d : DataW H} {bl : List Bl} (hd : ds[j]? = some d) (h : tot bl ≤ 15 * uptoBulk d) : tot bl ≤ 15728640 := by
  have h1 := small_le hk
  have h2 := bulk_get hd
  omega
end Go.Proofs.YtgebekklkodpaaaDoor
