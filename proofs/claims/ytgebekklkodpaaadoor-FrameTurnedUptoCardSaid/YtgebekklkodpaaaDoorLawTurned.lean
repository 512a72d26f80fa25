/- Proved: for every image and every turned byte (up to the Upto row's bulk), FrameTurned returns true (an image in which one byte is another one is answered ErrSum, wherever it stands, whatever kind is asked), and nothing that lay in memory ahead of the call has changed. Conditions: the package variables that the row lists (the errors, frame.zipTable, frame.sealTable) hold what their initialisers lay; the card ties that to the text. -/
import Derived.Test.YtgebekklkodpaaaDoorUp
import Derived.Test.YtgebekklkodpaaaDoorSame
import Derived.Test.YtgebekklkodpaaaDoorIm
import Derived.Test.YtgebekklkodpaaaDoorPkF
import Derived.Test.YtgebekklkodpaaaDoorOpenBl
import Derived.Test.YtgebekklkodpaaaDoorUpto
import Derived.Test.YtgebekklkodpaaaDoorTies
import Derived.Deep.DeepWitnessRowRef
namespace Go.Proofs.YtgebekklkodpaaaDoor.frameTurned
open Go.ChangeShapes Go.WideShapes Go.ChangeAt Go.RowKit

theorem ids_lt {B : Nat} (h : 26 ≤ B) : ∀ g ∈ allErrs, g < B := by
  intro g hg
  have : g ≤ 25 := by revert hg; revert g; decide
  omega
theorem cells5 {w : World} {p : Nat} {a b c d e : Value} {t : TypeId} {fr : Nat × Nat} (h : w.heap[p]? = some (.cells #[a, b, c, d, e] t fr)) :
    w.cell? ⟨p, 0, none⟩ = some a ∧ w.cell? ⟨p, 1, none⟩ = some b ∧ w.cell? ⟨p, 2, none⟩ = some c ∧ w.cell? ⟨p, 3, none⟩ = some d ∧ w.cell? ⟨p, 4, none⟩ = some e := by
  refine ⟨?_, ?_, ?_, ?_, ?_⟩
  · rw [cell_at h]; rfl
  · rw [cell_at h]; rfl
  · rw [cell_at h]; rfl
  · rw [cell_at h]; rfl
  · rw [cell_at h]; rfl
theorem u8s_set (bs : List Nat) (i y : Nat) : (u8s bs).toArray.setIfInBounds i (.int .u8 (y : Nat)) = (u8s (bs.set i y)).toArray := by
  rw [List.setIfInBounds_toArray]
  congr 1
  simp [u8s, List.map_set]
theorem u8s_get {l : List Nat} {i x : Nat} (h : l[i]? = some x) : (u8s l).toArray[i]? = some (.int .u8 (x : Nat)) := by
  simp [u8s, h]
theorem get_d {l : List Nat} {i : Nat} (h : i < l.length) : l[i]? = some (l.getD i 0) := by
  rw [List.getD_eq_getElem?_getD, List.getElem?_eq_getElem h, Option.getD_some]
theorem rem_cast (a n K : Nat) (hK : a % n = K) : (a : Int).tmod (n : Int) = (K : Int) := by
  rw [← hK]
  rfl
theorem wrap_len (n : Nat) (h : n < 1000000000) : IntKind.u64.wrap (n : Int) = (n : Int) := by
  rw [IntKind.wrap_u64]
  omega
theorem add_zero_cell (w : World) (g i : Nat) : w.cell? ((⟨g, 0, none⟩ : Addr).add i) = w.cell? ⟨g, i, none⟩ := by
  unfold Addr.add
  split
  · rename_i h; rw [h]
  · simp

set_option maxRecDepth 100000 in
set_option maxHeartbeats 4000000 in
theorem walk (w : World) (Z : Zip w) (S : SealT w) (E : Nat → Addr) (hE : Errs w E allErrs) (hg : 26 ≤ w.heap.size) (kind other at_ turn : Nat) (hk : kind < 256) (ho : other < 256) (_ : at_ < 18446744073709551616) (hu : turn < 256) (v : Value) (bl : List Bl) (hv : Blocks w v bl) (hl : tot bl ≤ 15728640) :
    Calls Tryd.prog 19 #[.agg #[.int .u8 kind, .int .u8 other, v, .int .u64 at_, .int .u8 turn]] w fun e w' => e = .returned (.bool true) ∧ Below w.heap.size w w' := by
  obtain ⟨ao, cap, rfl⟩ := blocks_form' hv
  have hlen := len_tot bl
  have HB0 := hide ((Below.refl w.heap.size w).alloc (Nat.le_refl _) (.cells #[.int .u8 kind, .int .u8 other, .slice ao bl.length cap, .int .u64 at_, .int .u8 turn] 82))
  have HR0 := hide (heap_new (w := w) rfl (.cells #[.int .u8 kind, .int .u8 other, .slice ao bl.length cap, .int .u64 at_, .int .u8 turn] 82))
  have HZ := hide Z
  have HSL := hide S
  have HE := hide hE
  have HV := hide hv
  have hs0 := HB0.out.size
  clear Z S hE hv
  go_enter Tryd.func19, Tryd.ntmps19
  go_wp2_with fail
  generalize w.alloc (.cells #[.int .u8 kind, .int .u8 other, .slice ao bl.length cap, .int .u64 at_, .int .u8 turn] 82) = w0 at HB0 HR0 hs0 ⊢
  refine (lives_any w0 (zip_below HZ.out HB0.out (by omega)) (by omega)).mono ?_
  rintro e w1 ⟨rfl, hb1⟩
  have HB1 := hide (HB0.out.trans (hb1.mono hs0))
  have HR1 := hide ((hb1.block _ (heap_lt HR0.out)).trans HR0.out)
  clear hb1 HB0 HR0
  obtain ⟨c0, c1, c2, c3, c4⟩ := cells5 HR1.out
  by_cases hk0 : kind = 0
  · subst hk0
    go_wp2_with fail
    go_ret
    exact ⟨rfl, HB1.out⟩
  · have hk1 : ((kind : Int) == 0) = false := by simp; omega
    by_cases hu0 : turn = 0
    · subst hu0
      go_wp2_with fail
      go_ret
      exact ⟨rfl, HB1.out⟩
    · have hu1 : ((turn : Int) == 0) = false := by simp; omega
      go_wp2_with fail
      clear c0 c1 c2 c3 c4
      go_loopw [21] (fun c wr => ∃ i : Nat, i ≤ bl.length ∧ c = .int .i64 i ∧ (∀ x ∈ bl.take i, x.1 ≠ 0) ∧
        wr.heap[w.heap.size]? = some (.cells #[.int .u8 kind, .int .u8 other, .slice ao bl.length cap, .int .u64 at_, .int .u8 turn] 82 (0, 0)) ∧ Below w.heap.size w wr) (fun c _ => bl.length - (intOf c).toNat)
      case atStart => exact ⟨0, by omega, rfl, by simp, HR1.out, HB1.out⟩
      case round =>
        obtain ⟨i, hi, rfl, hno, hrow, hb⟩ := hrel
        have HB := hide hb
        have HRW := hide hrow
        have HNO := hide hno
        have hsr := hb.size
        clear hb hrow hno
        by_cases hlt : i < bl.length
        · obtain ⟨x, hx⟩ : ∃ x, bl[i]? = some x := ⟨_, List.getElem?_eq_getElem hlt⟩
          obtain ⟨ad, bv, rfl, c0, c1, hs1⟩ := blocks_get (blocks_keep HV.out HB.out) hx
          have hi1 : (i : Int) < (bl.length : Int) := by omega
          obtain ⟨d0, d1⟩ := cells2 (heap_new (w := wr) rfl (.cells #[.int .u8 (x.1 : Nat), bv] 47))
          have HB2 := hide (HB.out.alloc hsr (.cells #[.int .u8 (x.1 : Nat), bv] 47))
          have HRW2 := hide (heap_old HRW.out (.cells #[.int .u8 (x.1 : Nat), bv] 47))
          obtain ⟨a1, k1, rfl⟩ := src_form hs1
          have hstep : x.1 ≠ 0 → ∀ y ∈ bl.take (i + 1), y.1 ≠ 0 := fun h y hy => by
            rw [List.take_add_one, hx] at hy
            rcases List.mem_append.1 hy with hy | hy
            · exact HNO.out y hy
            · simp at hy; subst hy; exact h
          have HST := hide hstep
          clear hstep hx hs1
          generalize x.1 = t at c0 d0 d1 HST HB2 HRW2
          generalize x.2.length = n at c1 d0 d1 HB2 HRW2
          by_cases ht : t = 0
          · subst ht
            go_wp2_with fail
            go_ret
            exact ⟨rfl, HB2.out⟩
          · have ht1 : ((t : Int) == 0) = false := by simp; omega
            go_wp2_with fail
            exact ⟨⟨i + 1, by omega, by simp, HST.out ht, HRW2.out, HB2.out⟩, by simp [intOf]; omega⟩
        · obtain rfl : i = bl.length := by omega
          have hno := HNO.out
          rw [List.take_of_length_le (Nat.le_refl _)] at hno
          have HVr := hide (blocks_keep HV.out HB.out)
          have HEr := hide (HE.out.below HB.out (Nat.le_refl _) (ids_lt hg))
          have hok : ∀ x ∈ bl, x.1 < 256 ∧ (∀ y ∈ x.2, y < 256) ∧ x.2.length < 18446744073709551616 := by
            obtain ⟨ao', cap', hvv, hBB⟩ := blocks_form HV.out
            exact blocks_ok hBB (by omega)
          have hil := img_len kind bl
          have hip := img_parts kind bl
          have hilt : ∀ y ∈ img kind bl, y < 256 := img_lt hk (by rw [Uv.u64_eq]; omega) hok
          have HTU := hide fun k y => unp_turned kind other bl hk (by omega) hok k y
          have HILT := hide hilt
          have HNO2 := hide hno
          obtain ⟨c0, c1, c2, c3, c4⟩ := cells5 HRW.out
          clear hok hilt hno HNO
          go_wp2_with fail
          clear c0 c1 c2 c3 c4
          refine (packf_any wr (zip_below HZ.out HB.out (by omega)) (seal_below HSL.out HB.out (by omega)) (E 0) (HEr.out.cell 0 (by decide)) (by omega) kind hk hk0 _ bl HVr.out (by omega)).mono ?_
          rintro e w2 ⟨hb2, ⟨⟨x, hx, h0⟩, _⟩ | ⟨_, g2, rfl, hh2, hge⟩⟩
          · exact absurd h0 (HNO2.out x hx)
          · have HB2 := hide (HB.out.trans (hb2.mono hsr))
            have HRW2 := hide ((hb2.block _ (heap_lt HRW.out)).trans HRW.out)
            have HH2 := hide hh2
            have hs2 := HB2.out.size
            have hg2 : g2 ≠ w.heap.size := fun h => by
              have := heap_lt HRW.out
              omega
            have hge2 : w.heap.size ≤ g2 := by omega
            obtain ⟨hp1, hp2, _⟩ := hip
            obtain ⟨n, hn⟩ : ∃ n, (img kind bl).length = n := ⟨_, rfl⟩
            rw [hn] at hil hp2 ⊢
            have hn10 : 10 ≤ n := by omega
            obtain ⟨K, hK⟩ : ∃ K, at_ % n = K := ⟨_, rfl⟩
            have hKn : K < n := by rw [← hK]; exact Nat.mod_lt _ (by omega)
            have hrem := rem_cast at_ n K hK
            have hwl := wrap_len n (by omega)
            have hn0 : ((n : Int) = 0) = False := by simp; omega
            have hgK := get_d (l := img kind bl) (i := K) (by rw [hn]; exact hKn)
            obtain ⟨x, hx⟩ : ∃ x, (img kind bl).getD K 0 = x := ⟨_, rfl⟩
            rw [hx] at hgK
            have hx256 : x < 256 := HILT.out x (List.mem_of_getElem? hgK)
            have hxr := u8_xor_nat x turn hx256 hu
            obtain ⟨y, hy⟩ : ∃ y, x ^^^ turn = y := ⟨_, rfl⟩
            rw [hy] at hxr
            have hy256 : y < 256 := by rw [← hy]; exact Nat.xor_lt_two_pow (n := 8) hx256 hu
            have hxy : x ≠ y := fun h => hu0 (by
              have h2 := congrArg (fun t => x ^^^ t) (h.trans hy.symm)
              simp only [Nat.xor_self] at h2
              rw [xor_back] at h2
              exact h2.symm)
            have hunp := HTU.out K y (by rw [hn]; exact hKn) hy256 (by rw [hgK]; exact fun h => hxy (Option.some.inj h))
            have hb2len : ((img kind bl).set K y).length = n := by rw [List.length_set]; exact hn
            have hb2lt : ∀ z ∈ (img kind bl).set K y, z < 256 := fun z hz => by
              rcases List.mem_or_eq_of_mem_set hz with h | h
              · exact HILT.out z h
              · omega
            have hh4 : (w2.setCell ⟨g2, K, none⟩ (.int .u8 (y : Nat))).drew.heap[g2]? = some (.cells (u8s ((img kind bl).set K y)).toArray 5 (0, 0)) := by
              rw [← u8s_set]
              exact heap_set HH2.out _
            have hb4 := (below_set (i := K) HB2.out hge2 (.int .u8 (y : Nat))).drew
            have hr4 : (w2.setCell ⟨g2, K, none⟩ (.int .u8 (y : Nat))).drew.heap[w.heap.size]? = _ := heap_else HRW2.out (Ne.symm hg2) _
            obtain ⟨b2, hb2⟩ : ∃ b2, (img kind bl).set K y = b2 := ⟨_, rfl⟩
            rw [hb2] at hunp hb2len hb2lt hh4
            have hci := (cell_at HH2.out K).trans (u8s_get hgK)
            have hci2 : w2.cell? ((⟨g2, 0, none⟩ : Addr).add K) = _ := (add_zero_cell w2 g2 K).trans hci
            have hfi := free_at HH2.out K
            obtain ⟨c0, c1, c2, c3, c4⟩ := cells5 HRW2.out
            have HU4 := hide hunp
            have HN2 := hide hb2len
            have HB2L := hide hb2lt
            have HH4 := hide hh4
            have HB4 := hide hb4
            have HR4 := hide hr4
            have hnb : n ≤ 100000000 := by omega
            have n10 : (10 : Int) ≤ (n : Int) := by omega
            have k1 : (K : Int) < (n : Int) := by omega
            have k0 : (0 : Int) ≤ (K : Int) := by omega
            clear hunp hb2len hb2lt hh4 hb4 hr4 hb2 hy hxy hy256 hx256 hgK hx hK hn hp1 hp2 hil HTU HILT
            go_wp2_with fail
            go_region
            clear c0 c1 c2 c3 c4 hci hci2 hfi hxr hrem
            generalize (w2.setCell ⟨g2, K, none⟩ (.int .u8 (y : Nat))).drew = w4 at HH4 HB4 HR4 ⊢
            have hs4 := HB4.out.size
            have HE4 := hide (HE.out.below HB4.out (Nat.le_refl _) (ids_lt hg))
            have hS4 := src_block HH4.out HB2L.out (by rw [HN2.out]; omega)
            rw [HN2.out] at hS4
            have HUA := hide (unpack_any w4 (zip_below HZ.out HB4.out (by omega)) (seal_below HSL.out HB4.out (by omega)) E (HE4.out.cell 0 (by decide)) (HE4.out.cell 1 (by decide)) (HE4.out.cell 2 (by decide)) (HE4.out.cell 5 (by decide)) (HE4.out.cell 6 (by decide)) (by omega) other ho _ b2 hS4 (by rw [HN2.out]; omega))
            obtain ⟨c0, c1, c2, c3, c4⟩ := cells5 HR4.out
            clear hS4 HE4
            go_wp2_with fail
            refine HUA.out.mono ?_
            rintro e w5 ⟨hout, hb5⟩
            rw [UnpOut, HU4.out] at hout
            subst hout
            have HB5 := hide (HB4.out.trans (hb5.mono hs4))
            have HN := hide (num_6 w5 E (HE.out.below HB5.out (Nat.le_refl _) (ids_lt hg)))
            clear hb5 HUA
            go_wp2_with fail
            refine HN.out.mono ?_
            rintro e w' ⟨rfl, rfl⟩
            go_wp2
            go_ret
            exact ⟨rfl, HB5.out⟩

theorem c54 : Tryd.prog.cellsOf 54 = 1 := by kernel_rfl
theorem c82 : Tryd.prog.cellsOf 82 = 5 := by kernel_rfl

/-- a struct of two bytes, blocks, a word and a byte -/
theorem open5 {H : Type} {enc : TypeId × Value → H} {P : Program} {T B X U S I : TypeId} {W : World} {base b0 : Nat} {spare : Nat → Bool} {held : Bool} {r : Reach} {f0 f1 f2 f3 f4 x0 x1 : Field} {v : Value} {d : DataW H} {p : List MemPlace}
    (hT : P.underlying T = some (.struct #[f0, f1, f2, f3, f4])) (hB : P.underlying B = some (.slice X)) (hX : P.underlying X = some (.struct #[x0, x1])) (hU : P.underlying U = some (.int .u8)) (hS : P.underlying S = some (.slice U)) (hI : P.underlying I = some (.int .u64))
    (cT : P.cellsOf T = 5) (cB : P.cellsOf B = 1) (cX : P.cellsOf X = 2) (cU : P.cellsOf U = 1) (cS : P.cellsOf S = 1) (cI : P.cellsOf I = 1)
    (t0 : f0.type = U) (t1 : f1.type = U) (t2 : f2.type = B) (t3 : f3.type = I) (t4 : f4.type = U) (o0 : f0.offset = 0) (o1 : f1.offset = 1) (o2 : f2.offset = 2) (o3 : f3.offset = 3) (o4 : f4.offset = 4)
    (xo0 : x0.offset = 0) (xo1 : x1.offset = 1) (xt0 : x0.type = U) (xt1 : x1.type = S)
    (hv : Value.okWide P W r b0 T v) (h : DataW.Trod enc P W base spare held T v d p) :
    ∃ (a b n t : Int) (vb : Value) (bl : List Bl), v = .agg #[.int .u8 a, .int .u8 b, vb, .int .u64 n, .int .u8 t] ∧ (Lit.int .u8 a).wf = true ∧ (Lit.int .u8 b).wf = true ∧ (Lit.int .u64 n).wf = true ∧ (Lit.int .u8 t).wf = true ∧ Blocks W vb bl ∧
      tot bl ≤ 15 * Rows.uptoBulk d := by
  obtain ⟨cs, rfl, hsz⟩ := okWide_struct hT hv
  rw [cT] at hsz
  obtain ⟨fuel, hf⟩ := h
  obtain ⟨xs, n, _, hx, _, hlen, hall⟩ := DataW.trod_struct hT hf
  obtain ⟨l⟩ := cs
  match l, hsz, xs, hlen with
  | [v0, v1, v2, v3, v4], _, [y0, y1, y2, y3, y4], _ =>
    have e0 := hall 0 f0 rfl
    have e1 := hall 1 f1 rfl
    have e2 := hall 2 f2 rfl
    have e3 := hall 3 f3 rfl
    have e4 := hall 4 f4 rfl
    simp only [t0, t1, t2, t3, t4, o0, o1, o2, o3, o4, cU, cB, cI, Value.cells, List.drop, List.take, List.getElem?_cons_zero, List.getElem?_cons_succ] at e0 e1 e2 e3 e4
    obtain ⟨a, h0, _, w0⟩ := DataW.trod_int hU e0
    obtain ⟨b, h1, _, w1⟩ := DataW.trod_int hU e1
    obtain ⟨bl, hbl, hd2⟩ := blocks_of_trod (d := y2.1) (p := y2.2) hB hX cX xo0 xo1 xt0 xt1 hU cU hS cS e2
    obtain ⟨m, h3, _, w3⟩ := DataW.trod_int hI e3
    obtain ⟨t, h4, _, w4⟩ := DataW.trod_int hU e4
    simp only [List.cons.injEq, and_true] at h0 h1 h3 h4
    simp only [Prod.mk.injEq] at hx
    subst h0 h1 h3 h4
    refine ⟨a, b, m, t, v2, bl, rfl, w0, w1, w3, w4, hbl, ?_⟩
    rw [hx.1]
    simp only [List.map_cons, List.map_nil, Rows.uptoBulk, Rows.uptoBulkAll]
    omega

set_option maxRecDepth 100000 in
theorem open_turn {H : Type} {enc : TypeId × Value → H} {W : World} {base : Nat} {v : Value} {d : DataW H} {p : List MemPlace}
    (hv : Value.okWide Tryd.prog W .any base 82 v) (h : DataW.Trod enc Tryd.prog W 0 (fun _ => true) true 82 v d p) :
    ∃ (a b n t : Int) (vb : Value) (bl : List Bl), v = .agg #[.int .u8 a, .int .u8 b, vb, .int .u64 n, .int .u8 t] ∧ (Lit.int .u8 a).wf = true ∧ (Lit.int .u8 b).wf = true ∧ (Lit.int .u64 n).wf = true ∧ (Lit.int .u8 t).wf = true ∧ Blocks W vb bl ∧
      tot bl ≤ 15 * Rows.uptoBulk d :=
  open5 Tryd.underlying82 Tryd.underlying38 Tryd.underlying47 Tryd.underlying5 Tryd.underlying25 Tryd.underlying54 c82 c38 c47 c5 c25 c54 rfl rfl rfl rfl rfl rfl rfl rfl rfl rfl rfl rfl rfl rfl hv h

/-! the frame, by program -/
set_option maxRecDepth 100000 in
theorem contract (H : Type) (enc : TypeId × Value → H) (W : World) (base : Nat) (args : Array Value) (ds gs : List (DataW H)) (before : List MemPlace)
    (hval : ∀ (j : Nat) t v, Tryd.f19.params[j]? = some t → args[j]? = some v → Value.okWide Tryd.prog W .any base t v)
    (hW : DataW.Whole enc Tryd.prog Tryd.f19.params.toList Rows.frameTurnedSpec.vars false W args.toList ds gs before) (hL : laidMetH Tryd.prog Rows.frameTurnedRow.laid W)
    (hsz : (DataW.weightsEach Tryd.prog (Tryd.f19.params.toList ++ []) (ds ++ gs)).all (· ≤ reachBytes) = true) (hk : Rows.uptoSmall H (ds ++ gs) = true) :
    Calls Tryd.prog 19 args W fun e W' => ∃ v, e = .returned v ∧ Rows.frameTurnedSpec.post enc Tryd.prog Tryd.f19 false true false false W args v W' := by
  have hW' := hW
  obtain ⟨p, q, hA0, hV, rfl, hfz, hnd⟩ := hW
  have hA : DataW.TrodAll enc Tryd.prog W 0 (fun _ => true) true Tryd.f19.params.toList args.toList ds p := hA0
  rw [Tryd.params19] at hA hval hsz
  obtain ⟨v0, vs0, d0, ds0, p0, q0, hargs, rfl, rfl, h0, r0⟩ := trodAll_cons hA
  obtain ⟨rfl, rfl, rfl⟩ := trodAll_nil r0
  obtain rfl : args = #[v0] := by cases args; simp_all
  obtain ⟨rfl, rfl⟩ := trodVars_none hV
  obtain ⟨x0, y0, m0, z0, vb0, b0, rfl, w0, w0a, w0b, w0c, s0, g0⟩ := open_turn (hval 0 82 v0 rfl rfl) h0
  obtain ⟨l0, u0⟩ := bounds_u8 w0
  obtain ⟨l0a, u0a⟩ := bounds_u8 w0a
  obtain ⟨l0b, u0b⟩ := bounds_u64 w0b
  obtain ⟨l0c, u0c⟩ := bounds_u8 w0c
  obtain ⟨a0, rfl⟩ := Int.eq_ofNat_of_zero_le l0
  obtain ⟨o0, rfl⟩ := Int.eq_ofNat_of_zero_le l0a
  obtain ⟨n0, rfl⟩ := Int.eq_ofNat_of_zero_le l0b
  obtain ⟨t0, rfl⟩ := Int.eq_ofNat_of_zero_le l0c
  have e0 := small_tot hk (j := 0) rfl g0
  clear hA0
  simp only [List.append_nil] at hW'
  have hl : laidMet Tryd.prog Rows.frameTurnedRow.laid W := hL
  obtain ⟨Z, hg⟩ := zip_of_mem hl (by simp [Rows.frameTurnedRow])
  have hS := seal_of_mem hl (by simp [Rows.frameTurnedRow])
  have hreads : ∀ g ∈ ([0, 1, 2, 3, 4, 5, 6, 7, 8, 9, 10, 11, 12, 13, 14, 17, 18, 19, 20, 21, 22, 23, 24, 25] : List Nat), ErrRead W g := by
    intro g hg
    simp only [List.mem_cons, List.not_mem_nil, or_false] at hg
    rcases hg with rfl | rfl | rfl | rfl | rfl | rfl | rfl | rfl | rfl | rfl | rfl | rfl | rfl | rfl | rfl | rfl | rfl | rfl | rfl | rfl | rfl | rfl | rfl | rfl
    · exact read0 hl (by simp [Rows.frameTurnedRow])
    · exact read1 hl (by simp [Rows.frameTurnedRow])
    · exact read2 hl (by simp [Rows.frameTurnedRow])
    · exact read3 hl (by simp [Rows.frameTurnedRow])
    · exact read4 hl (by simp [Rows.frameTurnedRow])
    · exact read5 hl (by simp [Rows.frameTurnedRow])
    · exact read6 hl (by simp [Rows.frameTurnedRow])
    · exact read7 hl (by simp [Rows.frameTurnedRow])
    · exact read8 hl (by simp [Rows.frameTurnedRow])
    · exact read9 hl (by simp [Rows.frameTurnedRow])
    · exact read10 hl (by simp [Rows.frameTurnedRow])
    · exact read11 hl (by simp [Rows.frameTurnedRow])
    · exact read12 hl (by simp [Rows.frameTurnedRow])
    · exact read13 hl (by simp [Rows.frameTurnedRow])
    · exact read14 hl (by simp [Rows.frameTurnedRow])
    · exact read17 hl (by simp [Rows.frameTurnedRow])
    · exact read18 hl (by simp [Rows.frameTurnedRow])
    · exact read19 hl (by simp [Rows.frameTurnedRow])
    · exact read20 hl (by simp [Rows.frameTurnedRow])
    · exact read21 hl (by simp [Rows.frameTurnedRow])
    · exact read22 hl (by simp [Rows.frameTurnedRow])
    · exact read23 hl (by simp [Rows.frameTurnedRow])
    · exact read24 hl (by simp [Rows.frameTurnedRow])
    · exact read25 hl (by simp [Rows.frameTurnedRow])
  obtain ⟨E, hE⟩ := errs_of_reads hreads (by decide +kernel)
  have hg2 := World.block_lt_of_cell? W _ (hE.cell 25 (by decide))
  simp only at hg2
  refine (walk W Z hS E hE (by omega) a0 o0 n0 t0 (by omega) (by omega) (by omega) (by omega) _ b0 s0 (by omega)).mono fun e W' ⟨he, hb⟩ => ?_
  subst he
  exact ⟨_, rfl, law_post hW' rfl rfl rfl (by kernel_rfl) hb⟩

noncomputable def laidWorld (os : Os) : World := World.doorLaid Tryd.prog 475 os
noncomputable def wargs : Array Value := #[.agg #[.int .u8 0, .int .u8 0, .slice none 0 0, .int .u64 0, .int .u8 0]]
theorem laid_met (os : Os) : laidMetH Tryd.prog Rows.frameTurnedRow.laid ((laidWorld os).forCall (fun _ _ => 0) ⟨#[], wargs, []⟩).memory :=
  laidMetH_of_parts3 (fuel := 8) (laidMet_of_run' 8 (by kernel_rfl) (by kernel_rfl)) (by kernel_rfl) (by kernel_rfl)
theorem reads (os : Os) {H : Type} (enc : TypeId × Value → H) : ∃ places, DataW.whole enc Tryd.prog ((laidWorld os).forCall (fun _ _ => 0) ⟨#[], wargs, []⟩).memory Tryd.f19.params.toList Rows.frameTurnedSpec.vars false wargs.toList 8 = some ([.agg [.lit (.int .u8 0), .lit (.int .u8 0), .nil, .lit (.int .u64 0), .lit (.int .u8 0)]], [], places) :=
  ⟨[], by kernel_rfl⟩

set_option maxRecDepth 100000 in
theorem lifted (os : Os) (started : os.Started) (H : Type) (enc : TypeId × Value → H) (F : Stop.Interp) :
    ReturnsInHanded {} Tryd.checked os 19 .any ((Rows.OpenSpec.upto Rows.frameTurnedSpec).preRow enc Tryd.prog Tryd.f19 Rows.frameTurnedUptoRow.domain false Rows.frameTurnedUptoRow.laid) (((Rows.OpenSpec.upto Rows.frameTurnedSpec).at F).post enc Tryd.prog Tryd.f19 false true false false) := by
  obtain ⟨places, hx⟩ := reads os enc
  refine returnsInHanded_of_row (C := Tryd.checked) (s := Rows.OpenSpec.upto Rows.frameTurnedSpec) own started (by kernel_rfl) Tryd.func19
    (witness_row_atRef (enc := enc) (C := Tryd.checked) false (laidWorld os) wargs rfl (by kernel_rfl) (by kernel_rfl) (by kernel_rfl)
      (OpenSpec.preRow_of_cond 8 hx (by kernel_rfl) (fun k hk => by cases hk; kernel_rfl) (by kernel_rfl) (laid_met os))) ?_
  intro W base args ds gs before hval hW _ hcond hsz hL _ _
  exact contract H enc W base args ds gs before hval hW hL hsz (hcond _ rfl)

theorem fact0 : (Rows.frameTurnedUptoRow.wf (OpenSpec.ofChange (Rows.OpenSpec.upto Rows.frameTurnedSpec).bare)) = true := by kernel_rfl
theorem fact3 : (Tryd.f19.params.all (Tryd.prog.readableRec ·)) = true := by kernel_rfl
theorem fact4 : (namedTie Tryd.prog Rows.frameTurnedUptoRow.named (Rows.OpenSpec.upto Rows.frameTurnedSpec).bare.vars) = true := by kernel_rfl
theorem fact5 : ((Rows.frameTurnedUptoRow.stops == [])) = true := by kernel_rfl
theorem fact7 : ((Rows.frameTurnedUptoRow.knobs == [])) = true := by kernel_rfl
theorem fact9 : ((Rows.frameTurnedUptoRow.inPlace == Tryd.prog.inPlace 19)) = true := by kernel_rfl
theorem fact10 : ((Rows.frameTurnedUptoRow.unfollowed == Tryd.prog.unfollowed 19)) = true := by kernel_rfl
theorem fact11 : ((Rows.frameTurnedUptoRow.recurses == Tryd.prog.recurses 19)) = true := by kernel_rfl
theorem fact12 : ((Rows.frameTurnedUptoRow.named == Tryd.prog.varsNamed 19)) = true := by kernel_rfl
theorem fact13 : ((Rows.frameTurnedUptoRow.maps == (Tryd.f19.params.toList ++ (Rows.OpenSpec.upto Rows.frameTurnedSpec).bare.plain.varTypes Tryd.prog).any (Tryd.prog.mapsRec ·))) = true := by kernel_rfl
theorem fact14 : ((Rows.frameTurnedUptoRow.ifaces == (Tryd.f19.params.toList ++ (Rows.OpenSpec.upto Rows.frameTurnedSpec).bare.plain.varTypes Tryd.prog).any (Tryd.prog.ifacesRec ·))) = true := by kernel_rfl
theorem fact15 : ((Rows.frameTurnedUptoRow.mapsOut == Tryd.prog.mapsAmong Tryd.f19.resultTypes.toList)) = true := by kernel_rfl
theorem fact16 : ((Rows.frameTurnedUptoRow.loops == (Tryd.f19.params.toList ++ (Rows.OpenSpec.upto Rows.frameTurnedSpec).bare.plain.varTypes Tryd.prog).any (Tryd.prog.loopsFrom ·))) = true := by kernel_rfl
theorem fact17 : ((Rows.frameTurnedUptoRow.wideKeys == (Tryd.f19.params.toList ++ (Rows.OpenSpec.upto Rows.frameTurnedSpec).bare.plain.varTypes Tryd.prog ++ Tryd.f19.resultTypes.toList).any (Tryd.prog.wideKeysFrom ·))) = true := by kernel_rfl
theorem fact18 : ((Rows.OpenSpec.upto Rows.frameTurnedSpec).bare.vars.all (Tryd.prog.varReadable ·)) = true := by kernel_rfl
theorem fact19 : (Tryd.f19.resultTypes.all (fun t => Tryd.prog.readableRec t && decide (t < Tryd.prog.types.size))) = true := by kernel_rfl
theorem fact20 : ((Rows.frameTurnedUptoRow.ifacesOut == Tryd.f19.resultTypes.toList.any (Tryd.prog.ifacesRec ·))) = true := by kernel_rfl
theorem fact21 : ((Rows.frameTurnedUptoRow.loopsOut == Tryd.f19.resultTypes.toList.any (Tryd.prog.loopsFrom ·))) = true := by kernel_rfl
theorem fact22 : ((Rows.frameTurnedUptoRow.plainKeys == Tryd.prog.plainKeys)) = true := by rw [Tryd.keys]; kernel_rfl
theorem fact23 : (Rows.frameTurnedUptoRow.shortTexts.isNone) = true := by kernel_rfl
theorem fact26 : ((Rows.frameTurnedUptoRow.lifted == Tryd.prog.liftsFinal)) = true := by rw [Tryd.lifts]; kernel_rfl
theorem fact27 : ((Tryd.prog.make == some Rows.frameTurnedUptoRow.make)) = true := by rw [Tryd.makes]; kernel_rfl
theorem fact29 : ((Rows.frameTurnedUptoRow.pinned == Rows.frameTurnedUptoRow.pinnedBy)) = true := by kernel_rfl
theorem fact30 : ((Rows.frameTurnedUptoRow.veiled == (Tryd.f19.params.toList ++ (Rows.OpenSpec.upto Rows.frameTurnedSpec).bare.plain.varTypes Tryd.prog ++ Tryd.f19.resultTypes.toList).any (Tryd.prog.veiledRec ·))) = true := by kernel_rfl
theorem fact31 : (Rows.frameTurnedUptoRow.veiledFits Tryd.prog Tryd.f19.params.toList (Tryd.f19.params.toList ++ (Rows.OpenSpec.upto Rows.frameTurnedSpec).bare.plain.varTypes Tryd.prog ++ Tryd.f19.resultTypes.toList)) = true := by kernel_rfl
theorem closed : joinedFacts Tryd.prog 19 Tryd.f19 (Rows.OpenSpec.upto Rows.frameTurnedSpec).bare Rows.frameTurnedUptoRow = true :=
  facts_of fact0 Tryd.laidOut Tryd.rowed fact3 fact4 fact5 Tryd.noStops fact7 Tryd.noKnobs fact9 fact10 fact11 fact12 fact13 fact14 fact15 fact16 fact17 fact18 fact19 fact20 fact21 fact22 fact23 Tryd.heard Tryd.mayEnter fact26 fact27 (by kernel_rfl) fact29 fact30 fact31
theorem named : Tryd.prog.funcNamed Rows.frameTurnedUptoRow.func = some 19 := by kernel_rfl
theorem instanced : Tryd.f19.isInstance Tryd.prog Rows.frameTurnedUptoRow.origin Rows.frameTurnedUptoRow.targs := of_decide_eq_true (by kernel_rfl)
theorem wrapped : Tryd.f19.isWrapper Tryd.prog Rows.frameTurnedUptoRow.wrapper Rows.frameTurnedUptoRow.mainSum := by unfold Func.isWrapper; first | (rw [if_pos (by decide +kernel)]; kernel_rfl) | (rw [if_neg (by decide +kernel)]; exact ⟨rfl, rfl⟩)
theorem said : Rows.FrameTurnedUptoSaid :=
  OpenClaim.holds_of_cond 19 Tryd.f19 rfl rfl rfl rfl rfl rfl rfl ⟨rfl, rfl, rfl, rfl, rfl⟩ rfl rfl rfl rfl rfl named Tryd.func19 closed
    instanced wrapped
    (fun os started H enc _ F => by rw [OpenClaim.pre_eq_preRow]; exact lifted os started H enc F)

theorem plain (f : FuncId) (fn : Func) (hf : Tryd.pinned.checked.prog.funcNamed "concord/concordlaw02.FrameTurned" = some f) (hfn : Tryd.pinned.checked.prog.funcs[f]? = some fn) :
    true = Tryd.pinned.checked.prog.looks [] ∧ ∀ (j : Nat) t, fn.params[j]? = some t → Tryd.pinned.checked.prog.wantsStandIn t = false := by
  obtain rfl : f = 19 := Option.some.inj ((show Tryd.prog.funcNamed "concord/concordlaw02.FrameTurned" = some 19 by kernel_rfl).symm.trans hf) |>.symm
  obtain rfl : fn = Tryd.f19 := (Option.some.inj (Tryd.func19.symm.trans hfn)).symm
  have hall : Tryd.f19.params.toList.all (fun t => !Tryd.pinned.checked.prog.wantsStandIn t) = true := by kernel_rfl
  refine ⟨by kernel_rfl, fun j t ht => ?_⟩
  have := List.all_eq_true.1 hall t (by simpa using Array.mem_of_getElem? ht)
  simpa using this

/-- THE CARD -/
theorem card : Rows.FrameTurnedUptoCardSaid :=
  Claim7.holds_tied_plain_at .later [] _ _ _ _ said (fun _ h => by cases h) (by kernel_rfl) (fun _ h => by cases h) frameTurnedUpto_row_tie rfl ⟨rfl, rfl⟩ (by kernel_rfl) rfl plain (by kernel_rfl)
end Go.Proofs.YtgebekklkodpaaaDoor.frameTurned
