/- Proved: for every block and every turned byte, FrameSpoilt returns true (a block in whose tag, body or sum one byte is another one is refused), and nothing that lay in memory ahead of the call has changed. Conditions: the package variables that the row lists (the errors, frame.zipTable) hold what their initialisers lay; the card ties that to the text. -/
import Derived.Test.YtgebekklkodpaaaDoorDcAny
import Derived.Test.YtgebekklkodpaaaDoorSp
import Derived.Test.YtgebekklkodpaaaDoorOpen
import Derived.Test.YtgebekklkodpaaaDoorTies
import Derived.Deep.DeepWitnessRowRef
namespace Go.Proofs.YtgebekklkodpaaaDoor.frameSpoilt
open Go.ChangeShapes Go.WideShapes Go.ChangeAt Go.RowKit

theorem ids_lt {B : Nat} (h : 26 ≤ B) : ∀ g ∈ allErrs, g < B := by
  intro g hg
  have : g ≤ 25 := by revert hg; revert g; decide
  omega
theorem cells4 {w : World} {p : Nat} {a b c d : Value} {t : TypeId} {fr : Nat × Nat} (h : w.heap[p]? = some (.cells #[a, b, c, d] t fr)) :
    w.cell? ⟨p, 0, none⟩ = some a ∧ w.cell? ⟨p, 1, none⟩ = some b ∧ w.cell? ⟨p, 2, none⟩ = some c ∧ w.cell? ⟨p, 3, none⟩ = some d := by
  refine ⟨?_, ?_, ?_, ?_⟩
  · rw [cell_at h]; rfl
  · rw [cell_at h]; rfl
  · rw [cell_at h]; rfl
  · rw [cell_at h]; rfl

set_option maxRecDepth 100000 in
set_option maxHeartbeats 1000000 in
theorem walk_none (w : World) (Z : Zip w) (hg : 26 ≤ w.heap.size) (tag at_ turn : Nat) (v : Value) (h : tag = 0 ∨ turn = 0) :
    Calls Tryd.prog 11 #[.agg #[.int .u8 tag, v, .int .u64 at_, .int .u8 turn]] w fun e w' => e = .returned (.bool true) ∧ Below w.heap.size w w' := by
  have HB0 := hide ((Below.refl w.heap.size w).alloc (Nat.le_refl _) (.cells #[.int .u8 tag, v, .int .u64 at_, .int .u8 turn] 56))
  have HR0 := hide (heap_new (w := w) rfl (.cells #[.int .u8 tag, v, .int .u64 at_, .int .u8 turn] 56))
  obtain ⟨c0, c1, _, _⟩ := cells4 HR0.out
  have HZ0 := hide (zip_below Z HB0.out (by omega))
  have hs0 := HB0.out.size
  clear Z
  go_enter Tryd.func11, Tryd.ntmps11
  go_wp2_with fail
  go_quiet (fail)
  go_wp2_with fail
  have HB1 := hide (below_drewN HB0.out nq)
  have HR1 := hide (show ((w.alloc (.cells #[.int .u8 tag, v, .int .u64 at_, .int .u8 turn] 56)).drewN nq).heap[w.heap.size]? = _ from HR0.out)
  have HZ1 := hide (show Zip ((w.alloc (.cells #[.int .u8 tag, v, .int .u64 at_, .int .u8 turn] 56)).drewN nq) from HZ0.out)
  clear HB0 HR0 HZ0 c0 c1
  generalize (w.alloc (.cells #[.int .u8 tag, v, .int .u64 at_, .int .u8 turn] 56)).drewN nq = w1 at HB1 HR1 HZ1 ⊢
  have hs1 := HB1.out.size
  refine (lives_any w1 HZ1.out (by omega)).mono ?_
  rintro e w2 ⟨rfl, hb2⟩
  have HB2 := hide (HB1.out.trans (hb2.mono hs1))
  obtain ⟨c0, c1, c2, c3⟩ := cells4 ((hb2.block _ (heap_lt HR1.out)).trans HR1.out)
  clear hb2
  by_cases ht : tag = 0
  · subst ht
    go_wp2_with fail
    go_ret
    exact ⟨rfl, HB2.out⟩
  · have hu : turn = 0 := by omega
    subst hu
    have ht0 : ((tag : Int) == 0) = false := by simp; omega
    go_wp2_with fail
    go_ret
    exact ⟨rfl, HB2.out⟩

theorem rem_cast (a L K : Nat) (hK : a % (1 + L + 4) = K) : (a : Int) % (1 + (L : Int) + 4) = (K : Int) := by
  rw [← hK, Int.natCast_emod]
  rfl
theorem get_d {l : List Nat} {i : Nat} (h : i < l.length) : l[i]? = some (l.getD i 0) := by
  rw [List.getD_eq_getElem?_getD, List.getElem?_eq_getElem h, Option.getD_some]
theorem spot_get {l : List Nat} {n L K i : Nat} (hn : l.length = n) (h6 : L + 6 ≤ n) (hK : K < 1 + L + 4) (h : spotOf n L K = i) : i < n ∧ l[i]? = some (l.getD i 0) := by
  have hi : i < n := by
    unfold spotOf at h
    split at h <;> omega
  exact ⟨hi, get_d (by rw [hn]; exact hi)⟩
theorem u8s_get {l : List Nat} {i x : Nat} (h : l[i]? = some x) : (u8s l).toArray[i]? = some (.int .u8 (x : Nat)) := by
  simp [u8s, h]
theorem add_zero_cell (w : World) (g i : Nat) : w.cell? ((⟨g, 0, none⟩ : Addr).add i) = w.cell? ⟨g, i, none⟩ := by
  unfold Addr.add
  split
  · rename_i h; rw [h]
  · simp
theorem u8s_set (bs : List Nat) (i y : Nat) : (u8s bs).toArray.setIfInBounds i (.int .u8 (y : Nat)) = (u8s (bs.set i y)).toArray := by
  rw [List.setIfInBounds_toArray]
  congr 1
  simp [u8s, List.map_set]

set_option maxRecDepth 100000 in
set_option maxHeartbeats 4000000 in
theorem walk_some (w : World) (Z : Zip w) (E : Nat → Addr) (hE : Errs w E allErrs) (hg : 26 ≤ w.heap.size) (tag at_ turn : Nat) (ht : tag < 256) (hu : turn < 256) (h0 : tag ≠ 0) (hu0 : turn ≠ 0) (v : Value) (body : List Nat) (hv : Src w v body)
    (ha : at_ < 18446744073709551616) (hl : body.length ≤ 140737488351232) :
    Calls Tryd.prog 11 #[.agg #[.int .u8 tag, v, .int .u64 at_, .int .u8 turn]] w fun e w' => e = .returned (.bool true) ∧ Below w.heap.size w w' := by
  obtain ⟨ab, cb, rfl⟩ := src_form hv
  have HB0 := hide ((Below.refl w.heap.size w).alloc (Nat.le_refl _) (.cells #[.int .u8 tag, .slice ab body.length cb, .int .u64 at_, .int .u8 turn] 56))
  have HR0 := hide (heap_new (w := w) rfl (.cells #[.int .u8 tag, .slice ab body.length cb, .int .u64 at_, .int .u8 turn] 56))
  obtain ⟨c0, c1, _, _⟩ := cells4 HR0.out
  have HZ := hide Z
  have HE := hide hE
  have HV := hide hv
  have ht0 : ((tag : Int) == 0) = false := by simp; omega
  have hu0' : ((turn : Int) == 0) = false := by simp; omega
  have hs0 := HB0.out.size
  have hen := enc_length tag body
  have hul := Uv.uv_len body.length
  have hbl := enc_lt ht hv.1 (by rw [Uv.u64_eq]; omega)
  have HBL := hide hbl
  have HT := hide ht
  have HU := hide hu
  have H0 := hide h0
  have HU0 := hide hu0
  clear Z hE hv hbl ht hu h0 hu0
  go_enter Tryd.func11, Tryd.ntmps11
  go_wp2_with fail
  go_quiet (fail)
  go_wp2_with fail
  have HB1 := hide (below_drewN HB0.out nq)
  have HR1 := hide (show ((w.alloc (.cells #[.int .u8 tag, .slice ab body.length cb, .int .u64 at_, .int .u8 turn] 56)).drewN nq).heap[w.heap.size]? = _ from HR0.out)
  clear HB0 HR0 c0 c1
  generalize (w.alloc (.cells #[.int .u8 tag, .slice ab body.length cb, .int .u64 at_, .int .u8 turn] 56)).drewN nq = w1 at HB1 HR1 ⊢
  have hs1 := HB1.out.size
  refine (lives_any w1 (zip_below HZ.out HB1.out (by omega)) (by omega)).mono ?_
  rintro e w2 ⟨rfl, hb2⟩
  have HB2 := hide (HB1.out.trans (hb2.mono hs1))
  have HR2 := hide ((hb2.block _ (heap_lt HR1.out)).trans HR1.out)
  have hs2 := HB2.out.size
  obtain ⟨c0, c1, c2, c3⟩ := cells4 HR2.out
  clear hb2 HR1 HB1
  go_wp2_with fail
  refine (encode_pos w2 (zip_below HZ.out HB2.out (by omega)) (by omega) tag HT.out H0.out _ body (src_keep HV.out HB2.out) (by omega)).mono ?_
  rintro e w3 ⟨g3, rfl, hg3, hh3, hb3⟩
  have HB3 := hide (HB2.out.trans (hb3.mono hs2))
  have hs3 := HB3.out.size
  have HR3 := hide ((hb3.block _ (heap_lt HR2.out)).trans HR2.out)
  have HH3 := hide hh3
  have hg3' : w.heap.size < g3 := by have := heap_lt HR2.out; omega
  clear hh3 hb3 hg3 c0 c1 c2 c3 HR2
  obtain ⟨c0, c1, c2, c3⟩ := cells4 HR3.out
  obtain ⟨n, hn⟩ : ∃ n, (enc tag body).length = n := ⟨_, rfl⟩
  rw [hn] at hen
  rw [hn]
  have HN := hide hn
  have hn6 : body.length + 6 ≤ n := by omega
  have hn15 : n ≤ body.length + 15 := by omega
  obtain ⟨L, hL⟩ : ∃ L, body.length = L := ⟨_, rfl⟩
  rw [hL] at hn6 hn15 hl ⊢
  have HL := hide hL
  obtain ⟨K, hK⟩ : ∃ K, at_ % (1 + L + 4) = K := ⟨_, rfl⟩
  have hKL : K < 1 + L + 4 := by rw [← hK]; exact Nat.mod_lt _ (by omega)
  have HK := hide (rem_cast at_ L K hK)
  have HST := hide (fun i => @spot_get (enc tag body) n L K i HN.out hn6 hKL)
  clear hen hn hul hL hK
  obtain ⟨i, hi⟩ : ∃ i, spotOf n L K = i := ⟨_, rfl⟩
  have hst := HST.out i hi
  have hin : i < n := hst.1
  have hci := (cell_at HH3.out i).trans (u8s_get hst.2)
  have hfi := free_at HH3.out i
  have hci2 : w3.cell? ((⟨g3, 0, none⟩ : Addr).add i) = _ := (add_zero_cell w3 g3 i).trans hci
  have HI := hide hi
  obtain ⟨x, hx⟩ : ∃ x, (enc tag body).getD i 0 = x := ⟨_, rfl⟩
  rw [hx] at hci hci2
  have HX := hide hx
  have hi1 : (i : Int) < (n : Int) := by omega
  have hi0 : (0 : Int) ≤ (i : Int) := by omega
  have HKL := hide hKL
  have hx256 : x < 256 := HBL.out x (by rw [← hx]; exact List.mem_of_getElem? hst.2)
  have hxr := u8_xor_nat x turn hx256 HU.out
  obtain ⟨y, hy⟩ : ∃ y, x ^^^ turn = y := ⟨_, rfl⟩
  rw [hy] at hxr
  have HY := hide hy
  have hy256 : y < 256 := by rw [← hy]; exact Nat.xor_lt_two_pow (n := 8) hx256 HU.out
  have hxy : x ≠ y := fun h => HU0.out (by
    have h2 := congrArg (fun t => x ^^^ t) (h.trans hy.symm)
    simp only [Nat.xor_self] at h2
    rw [xor_back] at h2
    exact h2.symm)
  have hsp : spotOf (enc tag body).length body.length K = i := by rw [HN.out, HL.out]; exact hi
  have hdec := dec_spoilt tag body K y H0.out HT.out HV.out.1 (by rw [HL.out]; omega) (by rw [HL.out]; exact hKL) hy256 (by rw [hsp, hst.2, hx]; exact fun h => hxy (Option.some.inj h))
  rw [hsp] at hdec
  have hb2len : ((enc tag body).set i y).length = n := by rw [List.length_set]; exact HN.out
  have hb2lt : ∀ z ∈ (enc tag body).set i y, z < 256 := fun z hz => by
    rcases List.mem_or_eq_of_mem_set hz with h | h
    · exact HBL.out z h
    · omega
  have hh4 : (w3.setCell ⟨g3, i, none⟩ (.int .u8 (y : Nat))).drew.heap[g3]? = some (.cells (u8s ((enc tag body).set i y)).toArray 5 (0, 0)) := by
    rw [← u8s_set]
    exact heap_set HH3.out _
  have hb4 := (below_set (i := i) HB3.out (Nat.le_of_lt hg3') (.int .u8 (y : Nat))).drew
  have hr4 : (w3.setCell ⟨g3, i, none⟩ (.int .u8 (y : Nat))).drew.heap[w.heap.size]? = _ := heap_else HR3.out (Nat.ne_of_lt hg3') _
  obtain ⟨b2, hb2⟩ : ∃ b2, (enc tag body).set i y = b2 := ⟨_, rfl⟩
  rw [hb2] at hdec hb2len hb2lt hh4
  have HD := hide hdec
  have HN2 := hide hb2len
  have HB2L := hide hb2lt
  have HH4 := hide hh4
  have HB4 := hide hb4
  have HR4 := hide hr4
  clear hst hi hx HST hy hdec hb2len hb2lt hh4 hb4 hr4 hb2 hsp hxy hy256
  by_cases hk0 : K = 0
  · have hk1 : (K : Int) ≤ 0 := by omega
    have e : (K : Int) = (i : Int) := by rw [← HI.out]; unfold spotOf; rw [if_pos hk0, hk0]
    have hk := HK.out
    clear hk0
    go_wp2_with fail
    clear hk e
    go_region
    clear c0 c1 c2 c3 hci hci2 hfi hxr
    generalize (w3.setCell ⟨g3, i, none⟩ (.int .u8 (y : Nat))).drew = w4 at HH4 HB4 HR4 ⊢
    have hs4 := HB4.out.size
    have HE4 := hide (HE.out.below HB4.out (Nat.le_refl _) (ids_lt hg))
    have hS4 := src_block HH4.out HB2L.out (by rw [HN2.out]; omega)
    rw [HN2.out] at hS4
    have HDA := hide (decode_any w4 (zip_below HZ.out HB4.out (by omega)) E (HE4.out.cell 0 (by decide)) (HE4.out.cell 1 (by decide)) (HE4.out.cell 2 (by decide)) (HE4.out.cell 6 (by decide)) (by omega) _ b2 hS4 (by rw [HN2.out]; omega))
    clear hS4 HE4
    go_wp2_with fail
    refine HDA.out.mono ?_
    rintro e w5 ⟨hout, hb5⟩
    rw [DecOut, HD.out] at hout
    subst hout
    have HB5 := hide (HB4.out.trans (hb5.mono hs4))
    have HH5 := hide ((hb5.block _ (heap_lt HH4.out)).trans HH4.out)
    have hs5 := HB5.out.size
    clear hb5 HDA
    obtain ⟨d0, d1⟩ := cells2 (heap_new (w := w5) rfl (.cells #[.int .u8 0, .slice none 0 0] 47))
    have HB6 := hide (HB5.out.alloc hs5 (.cells #[.int .u8 0, .slice none 0 0] 47))
    have hc6 := (cell_at (heap_old HH5.out (.cells #[.int .u8 0, .slice none 0 0] 47)) 0).trans (u8s_get (get_d (show 0 < b2.length by rw [HN2.out]; omega)))
    have HNU := hide (num_dec _ E (HE.out.below HB6.out (Nat.le_refl _) (ids_lt hg)) HD.out)
    generalize b2.getD 0 0 = z at hc6 HNU ⊢
    have hn0 : (0 : Int) < (n : Int) := by omega
    by_cases hz : z = 0
    · subst hz
      rw [if_pos rfl] at HNU ⊢
      go_wp2_with fail
      refine HNU.out.mono ?_
      rintro e w' ⟨rfl, rfl⟩
      go_wp2
      go_ret
      exact ⟨rfl, HB6.out⟩
    · have hz1 : ((z : Int) == 0) = false := by simp; omega
      rw [if_neg hz] at HNU ⊢
      go_wp2_with fail
      refine HNU.out.mono ?_
      rintro e w' ⟨rfl, rfl⟩
      go_wp2
      go_ret
      exact ⟨rfl, HB6.out⟩
  · have hk1 : 0 < (K : Int) := by omega
    have e : (n : Int) - 4 - (L : Int) + (K : Int) - 1 = (i : Int) := by rw [← HI.out]; unfold spotOf; rw [if_neg hk0]; omega
    have hk := HK.out
    clear hk0
    go_wp2_with fail
    clear hk e
    go_region
    clear c0 c1 c2 c3 hci hci2 hfi hxr
    generalize (w3.setCell ⟨g3, i, none⟩ (.int .u8 (y : Nat))).drew = w4 at HH4 HB4 HR4 ⊢
    have hs4 := HB4.out.size
    have HE4 := hide (HE.out.below HB4.out (Nat.le_refl _) (ids_lt hg))
    have hS4 := src_block HH4.out HB2L.out (by rw [HN2.out]; omega)
    rw [HN2.out] at hS4
    have HDA := hide (decode_any w4 (zip_below HZ.out HB4.out (by omega)) E (HE4.out.cell 0 (by decide)) (HE4.out.cell 1 (by decide)) (HE4.out.cell 2 (by decide)) (HE4.out.cell 6 (by decide)) (by omega) _ b2 hS4 (by rw [HN2.out]; omega))
    clear hS4 HE4
    go_wp2_with fail
    refine HDA.out.mono ?_
    rintro e w5 ⟨hout, hb5⟩
    rw [DecOut, HD.out] at hout
    subst hout
    have HB5 := hide (HB4.out.trans (hb5.mono hs4))
    have HH5 := hide ((hb5.block _ (heap_lt HH4.out)).trans HH4.out)
    have hs5 := HB5.out.size
    clear hb5 HDA
    obtain ⟨d0, d1⟩ := cells2 (heap_new (w := w5) rfl (.cells #[.int .u8 0, .slice none 0 0] 47))
    have HB6 := hide (HB5.out.alloc hs5 (.cells #[.int .u8 0, .slice none 0 0] 47))
    have hc6 := (cell_at (heap_old HH5.out (.cells #[.int .u8 0, .slice none 0 0] 47)) 0).trans (u8s_get (get_d (show 0 < b2.length by rw [HN2.out]; omega)))
    have HNU := hide (num_dec _ E (HE.out.below HB6.out (Nat.le_refl _) (ids_lt hg)) HD.out)
    generalize b2.getD 0 0 = z at hc6 HNU ⊢
    have hn0 : (0 : Int) < (n : Int) := by omega
    by_cases hz : z = 0
    · subst hz
      rw [if_pos rfl] at HNU ⊢
      go_wp2_with fail
      refine HNU.out.mono ?_
      rintro e w' ⟨rfl, rfl⟩
      go_wp2
      go_ret
      exact ⟨rfl, HB6.out⟩
    · have hz1 : ((z : Int) == 0) = false := by simp; omega
      rw [if_neg hz] at HNU ⊢
      go_wp2_with fail
      refine HNU.out.mono ?_
      rintro e w' ⟨rfl, rfl⟩
      go_wp2
      go_ret
      exact ⟨rfl, HB6.out⟩

theorem walk (w : World) (Z : Zip w) (E : Nat → Addr) (hE : Errs w E allErrs) (hg : 26 ≤ w.heap.size) (tag at_ turn : Nat) (ht : tag < 256) (hu : turn < 256) (v : Value) (body : List Nat) (hv : Src w v body)
    (ha : at_ < 18446744073709551616) (hl : body.length ≤ 140737488351232) :
    Calls Tryd.prog 11 #[.agg #[.int .u8 tag, v, .int .u64 at_, .int .u8 turn]] w fun e w' => e = .returned (.bool true) ∧ Below w.heap.size w w' := by
  by_cases h0 : tag = 0
  · exact walk_none w Z hg tag at_ turn v (.inl h0)
  · by_cases hu0 : turn = 0
    · exact walk_none w Z hg tag at_ turn v (.inr hu0)
    · exact walk_some w Z E hE hg tag at_ turn ht hu h0 hu0 v body hv ha hl

theorem c54 : Tryd.prog.cellsOf 54 = 1 := by kernel_rfl
theorem c56 : Tryd.prog.cellsOf 56 = 4 := by kernel_rfl
theorem c25' : Tryd.prog.cellsOf 25 = 1 := by kernel_rfl

/-- a struct of a byte, bytes, a word and a byte -/
theorem open4 {H : Type} {enc : TypeId × Value → H} {P : Program} {T U S I : TypeId} {W : World} {base b0 : Nat} {spare : Nat → Bool} {held : Bool} {r : Reach} {f0 f1 f2 f3 : Field} {v : Value} {d : DataW H} {p : List MemPlace}
    (hT : P.underlying T = some (.struct #[f0, f1, f2, f3])) (hU : P.underlying U = some (.int .u8)) (hS : P.underlying S = some (.slice U)) (hI : P.underlying I = some (.int .u64))
    (cT : P.cellsOf T = 4) (cU : P.cellsOf U = 1) (cS : P.cellsOf S = 1) (cI : P.cellsOf I = 1)
    (t0 : f0.type = U) (t1 : f1.type = S) (t2 : f2.type = I) (t3 : f3.type = U) (o0 : f0.offset = 0) (o1 : f1.offset = 1) (o2 : f2.offset = 2) (o3 : f3.offset = 3)
    (hv : Value.okWide P W r b0 T v) (h : DataW.Trod enc P W base spare held T v d p) :
    ∃ (a n t : Int) (vb : Value) (bs : List Nat), v = .agg #[.int .u8 a, vb, .int .u64 n, .int .u8 t] ∧ (Lit.int .u8 a).wf = true ∧ (Lit.int .u64 n).wf = true ∧ (Lit.int .u8 t).wf = true ∧ Src W vb bs ∧
      ∃ d0 d1 d2 d3, d = .agg [d0, d1, d2, d3] ∧ ((d1 = .nil ∧ bs = []) ∨ ∃ elems sp, d1 = .slice elems sp ∧ elems.length = bs.length) := by
  obtain ⟨cs, rfl, hsz⟩ := okWide_struct hT hv
  rw [cT] at hsz
  obtain ⟨fuel, hf⟩ := h
  obtain ⟨xs, n, _, hx, _, hlen, hall⟩ := DataW.trod_struct hT hf
  obtain ⟨l⟩ := cs
  match l, hsz, xs, hlen with
  | [v0, v1, v2, v3], _, [y0, y1, y2, y3], _ =>
    have e0 := hall 0 f0 rfl
    have e1 := hall 1 f1 rfl
    have e2 := hall 2 f2 rfl
    have e3 := hall 3 f3 rfl
    simp only [t0, t1, t2, t3, o0, o1, o2, o3, cU, cS, cI, Value.cells, List.drop, List.take, List.getElem?_cons_zero, List.getElem?_cons_succ] at e0 e1 e2 e3
    obtain ⟨a, h0, _, w0⟩ := DataW.trod_int hU e0
    obtain ⟨bs, hsrc, hd1⟩ := bytes_of_trod (d := y1.1) (p := y1.2) hS hU cU e1
    obtain ⟨m, h2, _, w2⟩ := DataW.trod_int hI e2
    obtain ⟨t, h3, _, w3⟩ := DataW.trod_int hU e3
    simp only [List.cons.injEq, and_true] at h0 h2 h3
    simp only [Prod.mk.injEq] at hx
    subst h0 h2 h3
    exact ⟨a, m, t, v1, bs, rfl, w0, w2, w3, hsrc, y0.1, y1.1, y2.1, y3.1, hx.1, hd1⟩

set_option maxRecDepth 100000 in
theorem open_spoil {H : Type} {enc : TypeId × Value → H} {W : World} {base : Nat} {v : Value} {d : DataW H} {p : List MemPlace}
    (hv : Value.okWide Tryd.prog W .any base 56 v) (h : DataW.Trod enc Tryd.prog W 0 (fun _ => true) true 56 v d p) :
    ∃ (a n t : Int) (vb : Value) (bs : List Nat), v = .agg #[.int .u8 a, vb, .int .u64 n, .int .u8 t] ∧ (Lit.int .u8 a).wf = true ∧ (Lit.int .u64 n).wf = true ∧ (Lit.int .u8 t).wf = true ∧ Src W vb bs ∧
      ∃ d0 d1 d2 d3, d = .agg [d0, d1, d2, d3] ∧ ((d1 = .nil ∧ bs = []) ∨ ∃ elems sp, d1 = .slice elems sp ∧ elems.length = bs.length) :=
  open4 Tryd.underlying56 Tryd.underlying5 Tryd.underlying25 Tryd.underlying54 c56 c5 c25' c54 rfl rfl rfl rfl rfl rfl rfl rfl hv h

theorem spoil_reach {H : Type} {ts : List TypeId} {ds : List (DataW H)} (hsz : (DataW.weightsEach Tryd.prog ts ds).all (· ≤ reachBytes) = true) {j : Nat} {d0 d1 d2 d3 : DataW H} {bs : List Nat} (ht : ts[j]? = some 56) (hd : ds[j]? = some (.agg [d0, d1, d2, d3]))
    (h : (d1 = .nil ∧ bs = []) ∨ ∃ elems sp, d1 = .slice elems sp ∧ elems.length = bs.length) : bs.length ≤ 140737488351232 := by
  rcases h with ⟨_, rfl⟩ | ⟨elems, sp, rfl, hl⟩
  · simp
  · have hin : (elems.length + sp.length) * Tryd.prog.bytesOf 5 ∈ DataW.weights Tryd.prog 56 (.agg [d0, .slice elems sp, d2, d3]) := by
      simp only [DataW.weights, Tryd.underlying56]
      exact DataW.weights_mem_each (j := 1) (t := 25) rfl rfl _ (by simp [DataW.weights, Tryd.underlying25])
    have h1 := of_decide_eq_true (List.all_eq_true.1 hsz _ (DataW.weights_mem_each ht hd _ hin))
    rw [b5] at h1
    simp only [reachBytes] at h1
    omega

/-! the frame, by program -/
set_option maxRecDepth 100000 in
theorem contract (H : Type) (enc : TypeId × Value → H) (W : World) (base : Nat) (args : Array Value) (ds gs : List (DataW H)) (before : List MemPlace)
    (hval : ∀ (j : Nat) t v, Tryd.f11.params[j]? = some t → args[j]? = some v → Value.okWide Tryd.prog W .any base t v)
    (hW : DataW.Whole enc Tryd.prog Tryd.f11.params.toList Rows.frameSpoiltSpec.vars false W args.toList ds gs before) (hL : laidMetH Tryd.prog Rows.frameSpoiltRow.laid W)
    (hsz : (DataW.weightsEach Tryd.prog (Tryd.f11.params.toList ++ []) (ds ++ gs)).all (· ≤ reachBytes) = true) :
    Calls Tryd.prog 11 args W fun e W' => ∃ v, e = .returned v ∧ Rows.frameSpoiltSpec.post enc Tryd.prog Tryd.f11 false true false false W args v W' := by
  have hW' := hW
  obtain ⟨p, q, hA0, hV, rfl, hfz, hnd⟩ := hW
  have hA : DataW.TrodAll enc Tryd.prog W 0 (fun _ => true) true Tryd.f11.params.toList args.toList ds p := hA0
  rw [Tryd.params11] at hA hval hsz
  obtain ⟨v0, vs0, d0, ds0, p0, q0, hargs, rfl, rfl, h0, r0⟩ := trodAll_cons hA
  obtain ⟨rfl, rfl, rfl⟩ := trodAll_nil r0
  obtain rfl : args = #[v0] := by cases args; simp_all
  obtain ⟨rfl, rfl⟩ := trodVars_none hV
  obtain ⟨x0, y0, z0, vb0, b0, rfl, w0, w0a, w0b, s0, d0a, d0b, d0c, d0d, gd0, g0⟩ := open_spoil (hval 0 56 v0 rfl rfl) h0
  subst gd0
  obtain ⟨l0, u0⟩ := bounds_u8 w0
  obtain ⟨l0a, u0a⟩ := bounds_u64 w0a
  obtain ⟨l0b, u0b⟩ := bounds_u8 w0b
  obtain ⟨a0, rfl⟩ := Int.eq_ofNat_of_zero_le l0
  obtain ⟨n0, rfl⟩ := Int.eq_ofNat_of_zero_le l0a
  obtain ⟨t0, rfl⟩ := Int.eq_ofNat_of_zero_le l0b
  have e0 := spoil_reach hsz (j := 0) rfl rfl g0
  clear hA0
  simp only [List.append_nil] at hW'
  have hl : laidMet Tryd.prog Rows.frameSpoiltRow.laid W := hL
  obtain ⟨Z, hg⟩ := zip_of_mem hl (by simp [Rows.frameSpoiltRow])
  have hreads : ∀ g ∈ ([0, 1, 2, 3, 4, 5, 6, 7, 8, 9, 10, 11, 12, 13, 14, 17, 18, 19, 20, 21, 22, 23, 24, 25] : List Nat), ErrRead W g := by
    intro g hg
    simp only [List.mem_cons, List.not_mem_nil, or_false] at hg
    rcases hg with rfl | rfl | rfl | rfl | rfl | rfl | rfl | rfl | rfl | rfl | rfl | rfl | rfl | rfl | rfl | rfl | rfl | rfl | rfl | rfl | rfl | rfl | rfl | rfl
    · exact read0 hl (by simp [Rows.frameSpoiltRow])
    · exact read1 hl (by simp [Rows.frameSpoiltRow])
    · exact read2 hl (by simp [Rows.frameSpoiltRow])
    · exact read3 hl (by simp [Rows.frameSpoiltRow])
    · exact read4 hl (by simp [Rows.frameSpoiltRow])
    · exact read5 hl (by simp [Rows.frameSpoiltRow])
    · exact read6 hl (by simp [Rows.frameSpoiltRow])
    · exact read7 hl (by simp [Rows.frameSpoiltRow])
    · exact read8 hl (by simp [Rows.frameSpoiltRow])
    · exact read9 hl (by simp [Rows.frameSpoiltRow])
    · exact read10 hl (by simp [Rows.frameSpoiltRow])
    · exact read11 hl (by simp [Rows.frameSpoiltRow])
    · exact read12 hl (by simp [Rows.frameSpoiltRow])
    · exact read13 hl (by simp [Rows.frameSpoiltRow])
    · exact read14 hl (by simp [Rows.frameSpoiltRow])
    · exact read17 hl (by simp [Rows.frameSpoiltRow])
    · exact read18 hl (by simp [Rows.frameSpoiltRow])
    · exact read19 hl (by simp [Rows.frameSpoiltRow])
    · exact read20 hl (by simp [Rows.frameSpoiltRow])
    · exact read21 hl (by simp [Rows.frameSpoiltRow])
    · exact read22 hl (by simp [Rows.frameSpoiltRow])
    · exact read23 hl (by simp [Rows.frameSpoiltRow])
    · exact read24 hl (by simp [Rows.frameSpoiltRow])
    · exact read25 hl (by simp [Rows.frameSpoiltRow])
  obtain ⟨E, hE⟩ := errs_of_reads hreads (by decide +kernel)
  have hg2 := World.block_lt_of_cell? W _ (hE.cell 25 (by decide))
  simp only at hg2
  refine (walk W Z E hE (by omega) a0 n0 t0 (by omega) (by omega) _ b0 s0 (by omega) (by omega)).mono fun e W' ⟨he, hb⟩ => ?_
  subst he
  exact ⟨_, rfl, law_post hW' rfl rfl rfl (by kernel_rfl) hb⟩

noncomputable def laidWorld (os : Os) : World := World.doorLaid Tryd.prog 475 os
noncomputable def wargs : Array Value := #[.agg #[.int .u8 0, .slice none 0 0, .int .u64 0, .int .u8 0]]
theorem laid_met (os : Os) : laidMetH Tryd.prog Rows.frameSpoiltRow.laid ((laidWorld os).forCall (fun _ _ => 0) ⟨#[], wargs, []⟩).memory :=
  laidMetH_of_parts3 (fuel := 8) (laidMet_of_run' 8 (by kernel_rfl) (by kernel_rfl)) (by kernel_rfl) (by kernel_rfl)
theorem reads (os : Os) {H : Type} (enc : TypeId × Value → H) : ∃ places, DataW.whole enc Tryd.prog ((laidWorld os).forCall (fun _ _ => 0) ⟨#[], wargs, []⟩).memory Tryd.f11.params.toList Rows.frameSpoiltSpec.vars false wargs.toList 8 = some ([.agg [.lit (.int .u8 0), .nil, .lit (.int .u64 0), .lit (.int .u8 0)]], [], places) :=
  ⟨[], by kernel_rfl⟩

set_option maxRecDepth 100000 in
theorem lifted (os : Os) (started : os.Started) (H : Type) (enc : TypeId × Value → H) (F : Stop.Interp) :
    ReturnsInHanded {} Tryd.checked os 11 .any ((OpenSpec.ofChange Rows.frameSpoiltSpec).preRow enc Tryd.prog Tryd.f11 Rows.frameSpoiltRow.domain false Rows.frameSpoiltRow.laid) (((OpenSpec.ofChange Rows.frameSpoiltSpec).at F).post enc Tryd.prog Tryd.f11 false true false false) := by
  obtain ⟨places, hx⟩ := reads os enc
  refine returnsInHanded_of_row (C := Tryd.checked) (s := OpenSpec.ofChange Rows.frameSpoiltSpec) own started (by kernel_rfl) Tryd.func11
    (witness_row_atRef (enc := enc) (C := Tryd.checked) false (laidWorld os) wargs rfl (by kernel_rfl) (by kernel_rfl) (by kernel_rfl)
      (OpenSpec.preRow_of_cond 8 hx (by kernel_rfl) (fun k hk => by cases hk) (by kernel_rfl) (laid_met os))) ?_
  intro W base args ds gs before hval hW _ _ hsz hL _ _
  exact contract H enc W base args ds gs before hval hW hL hsz

theorem fact0 : (Rows.frameSpoiltRow.wf (OpenSpec.ofChange (OpenSpec.ofChange Rows.frameSpoiltSpec).bare)) = true := by kernel_rfl
theorem fact3 : (Tryd.f11.params.all (Tryd.prog.readableRec ·)) = true := by kernel_rfl
theorem fact4 : (namedTie Tryd.prog Rows.frameSpoiltRow.named (OpenSpec.ofChange Rows.frameSpoiltSpec).bare.vars) = true := by kernel_rfl
theorem fact5 : ((Rows.frameSpoiltRow.stops == [])) = true := by kernel_rfl
theorem fact7 : ((Rows.frameSpoiltRow.knobs == [])) = true := by kernel_rfl
theorem fact9 : ((Rows.frameSpoiltRow.inPlace == Tryd.prog.inPlace 11)) = true := by kernel_rfl
theorem fact10 : ((Rows.frameSpoiltRow.unfollowed == Tryd.prog.unfollowed 11)) = true := by kernel_rfl
theorem fact11 : ((Rows.frameSpoiltRow.recurses == Tryd.prog.recurses 11)) = true := by kernel_rfl
theorem fact12 : ((Rows.frameSpoiltRow.named == Tryd.prog.varsNamed 11)) = true := by kernel_rfl
theorem fact13 : ((Rows.frameSpoiltRow.maps == (Tryd.f11.params.toList ++ (OpenSpec.ofChange Rows.frameSpoiltSpec).bare.plain.varTypes Tryd.prog).any (Tryd.prog.mapsRec ·))) = true := by kernel_rfl
theorem fact14 : ((Rows.frameSpoiltRow.ifaces == (Tryd.f11.params.toList ++ (OpenSpec.ofChange Rows.frameSpoiltSpec).bare.plain.varTypes Tryd.prog).any (Tryd.prog.ifacesRec ·))) = true := by kernel_rfl
theorem fact15 : ((Rows.frameSpoiltRow.mapsOut == Tryd.prog.mapsAmong Tryd.f11.resultTypes.toList)) = true := by kernel_rfl
theorem fact16 : ((Rows.frameSpoiltRow.loops == (Tryd.f11.params.toList ++ (OpenSpec.ofChange Rows.frameSpoiltSpec).bare.plain.varTypes Tryd.prog).any (Tryd.prog.loopsFrom ·))) = true := by kernel_rfl
theorem fact17 : ((Rows.frameSpoiltRow.wideKeys == (Tryd.f11.params.toList ++ (OpenSpec.ofChange Rows.frameSpoiltSpec).bare.plain.varTypes Tryd.prog ++ Tryd.f11.resultTypes.toList).any (Tryd.prog.wideKeysFrom ·))) = true := by kernel_rfl
theorem fact18 : ((OpenSpec.ofChange Rows.frameSpoiltSpec).bare.vars.all (Tryd.prog.varReadable ·)) = true := by kernel_rfl
theorem fact19 : (Tryd.f11.resultTypes.all (fun t => Tryd.prog.readableRec t && decide (t < Tryd.prog.types.size))) = true := by kernel_rfl
theorem fact20 : ((Rows.frameSpoiltRow.ifacesOut == Tryd.f11.resultTypes.toList.any (Tryd.prog.ifacesRec ·))) = true := by kernel_rfl
theorem fact21 : ((Rows.frameSpoiltRow.loopsOut == Tryd.f11.resultTypes.toList.any (Tryd.prog.loopsFrom ·))) = true := by kernel_rfl
theorem fact22 : ((Rows.frameSpoiltRow.plainKeys == Tryd.prog.plainKeys)) = true := by rw [Tryd.keys]; kernel_rfl
theorem fact23 : (Rows.frameSpoiltRow.shortTexts.isNone) = true := by kernel_rfl
theorem fact26 : ((Rows.frameSpoiltRow.lifted == Tryd.prog.liftsFinal)) = true := by rw [Tryd.lifts]; kernel_rfl
theorem fact27 : ((Tryd.prog.make == some Rows.frameSpoiltRow.make)) = true := by rw [Tryd.makes]; kernel_rfl
theorem fact29 : ((Rows.frameSpoiltRow.pinned == Rows.frameSpoiltRow.pinnedBy)) = true := by kernel_rfl
theorem fact30 : ((Rows.frameSpoiltRow.veiled == (Tryd.f11.params.toList ++ (OpenSpec.ofChange Rows.frameSpoiltSpec).bare.plain.varTypes Tryd.prog ++ Tryd.f11.resultTypes.toList).any (Tryd.prog.veiledRec ·))) = true := by kernel_rfl
theorem fact31 : (Rows.frameSpoiltRow.veiledFits Tryd.prog Tryd.f11.params.toList (Tryd.f11.params.toList ++ (OpenSpec.ofChange Rows.frameSpoiltSpec).bare.plain.varTypes Tryd.prog ++ Tryd.f11.resultTypes.toList)) = true := by kernel_rfl
theorem closed : joinedFacts Tryd.prog 11 Tryd.f11 (OpenSpec.ofChange Rows.frameSpoiltSpec).bare Rows.frameSpoiltRow = true :=
  facts_of fact0 Tryd.laidOut Tryd.rowed fact3 fact4 fact5 Tryd.noStops fact7 Tryd.noKnobs fact9 fact10 fact11 fact12 fact13 fact14 fact15 fact16 fact17 fact18 fact19 fact20 fact21 fact22 fact23 Tryd.heard Tryd.mayEnter fact26 fact27 (by kernel_rfl) fact29 fact30 fact31
theorem named : Tryd.prog.funcNamed Rows.frameSpoiltRow.func = some 11 := by kernel_rfl
theorem instanced : Tryd.f11.isInstance Tryd.prog Rows.frameSpoiltRow.origin Rows.frameSpoiltRow.targs := of_decide_eq_true (by kernel_rfl)
theorem wrapped : Tryd.f11.isWrapper Tryd.prog Rows.frameSpoiltRow.wrapper Rows.frameSpoiltRow.mainSum := by unfold Func.isWrapper; first | (rw [if_pos (by decide +kernel)]; kernel_rfl) | (rw [if_neg (by decide +kernel)]; exact ⟨rfl, rfl⟩)
theorem said : Rows.FrameSpoiltSaid :=
  OpenClaim.holds_of_cond 11 Tryd.f11 rfl rfl rfl rfl rfl rfl rfl ⟨rfl, rfl, rfl, rfl, rfl⟩ rfl rfl rfl rfl rfl named Tryd.func11 closed
    instanced wrapped
    (fun os started H enc _ F => by rw [OpenClaim.pre_eq_preRow]; exact lifted os started H enc F)

theorem plain (f : FuncId) (fn : Func) (hf : Tryd.pinned.checked.prog.funcNamed "concord/concordlaw02.FrameSpoilt" = some f) (hfn : Tryd.pinned.checked.prog.funcs[f]? = some fn) :
    true = Tryd.pinned.checked.prog.looks [] ∧ ∀ (j : Nat) t, fn.params[j]? = some t → Tryd.pinned.checked.prog.wantsStandIn t = false := by
  obtain rfl : f = 11 := Option.some.inj ((show Tryd.prog.funcNamed "concord/concordlaw02.FrameSpoilt" = some 11 by kernel_rfl).symm.trans hf) |>.symm
  obtain rfl : fn = Tryd.f11 := (Option.some.inj (Tryd.func11.symm.trans hfn)).symm
  have hall : Tryd.f11.params.toList.all (fun t => !Tryd.pinned.checked.prog.wantsStandIn t) = true := by kernel_rfl
  refine ⟨by kernel_rfl, fun j t ht => ?_⟩
  have := List.all_eq_true.1 hall t (by simpa using Array.mem_of_getElem? ht)
  simpa using this

/-- THE CARD -/
theorem card : Rows.FrameSpoiltCardSaid :=
  Claim7.holds_tied_plain_at .later [] _ _ _ _ said (fun _ h => by cases h) (by kernel_rfl) (fun _ h => by cases h) frameSpoilt_row_tie rfl ⟨rfl, rfl⟩ (by kernel_rfl) rfl plain (by kernel_rfl)
end Go.Proofs.YtgebekklkodpaaaDoor.frameSpoilt
