/- Proved: for every tag and every two lists of bytes (up to the Upto row's bulk), FrameThere returns true (a block's bytes with anything behind them give the block back, what Decode takes Encode makes again), and nothing that lay in memory ahead of the call has changed. Conditions: the package variables that the row lists (the errors, frame.zipTable) hold what their initialisers lay; the card ties that to the text. -/
import Derived.Test.YtgebekklkodpaaaDoorDcAny
import Derived.Test.YtgebekklkodpaaaDoorUpto
import Derived.Test.YtgebekklkodpaaaDoorTies
import Derived.Deep.DeepWitnessRowRef
namespace Go.Proofs.YtgebekklkodpaaaDoor.frameThere
open Go.ChangeShapes Go.WideShapes Go.ChangeAt Go.RowKit Go.Proofs.YtgebekklkodpaaaDoor

theorem ids_lt {B : Nat} (h : 26 ≤ B) : ∀ g ∈ allErrs, g < B := by
  intro g hg
  have : g ≤ 25 := by revert hg; revert g; decide
  omega

set_option maxRecDepth 100000 in
theorem walk_zero (w : World) (Z : Zip w) (E : Nat → Addr) (hE : Errs w E allErrs) (hg : 26 ≤ w.heap.size) (vb vr : Value) :
    Calls Tryd.prog 10 #[.int .u8 0, vb, vr] w fun e w' => e = .returned (.bool true) ∧ Below w.heap.size w w' := by
  have HZ := hide Z
  have HE := hide hE
  clear Z hE
  go_enter Tryd.func10, Tryd.ntmps10
  go_wp2_with fail
  refine (lives_any w HZ.out (by omega)).mono ?_
  rintro e w1 ⟨rfl, hb1⟩
  have HB1 := hide hb1
  have HE1 := hide (HE.out.below hb1 (Nat.le_refl _) (ids_lt hg))
  clear hb1
  go_wp2_with fail
  refine (encode_zero w1 (E 0) (HE1.out.cell 0 (by decide)) _).mono ?_
  rintro e w2 ⟨rfl, hb2⟩
  have HB2 := hide (HB1.out.trans (hb2.mono HB1.out.size))
  have HE2 := hide (HE.out.below HB2.out (Nat.le_refl _) (ids_lt hg))
  clear hb2
  go_wp2_with fail
  refine (num_0 w2 E HE2.out).mono ?_
  rintro e w' ⟨rfl, rfl⟩
  go_wp2
  go_ret
  exact ⟨rfl, HB2.out⟩

theorem enc_body (tag : Nat) (body rest : List Nat) : ((enc tag body ++ rest).take (1 + (Uv.uv body.length).length + body.length)).drop (1 + (Uv.uv body.length).length) = body := by
  have e : enc tag body ++ rest = (([tag] ++ Uv.uv body.length) ++ body) ++ (Uv.word (sum (encHead tag body)) ++ rest) := by simp [enc, encHead]
  have hA : ([tag] ++ Uv.uv body.length).length = 1 + (Uv.uv body.length).length := by simp; omega
  rw [e, List.take_left' (by simp; omega), List.drop_left' hA]

set_option maxRecDepth 100000 in
set_option maxHeartbeats 4000000 in
theorem walk_pos (w : World) (Z : Zip w) (E : Nat → Addr) (hE : Errs w E allErrs) (hg : 26 ≤ w.heap.size) (tag : Nat) (ht : tag < 256) (h0 : tag ≠ 0) (vb vr : Value) (body rest : List Nat) (hb : Src w vb body) (hr : Src w vr rest)
    (hl : body.length + rest.length ≤ 100000000) :
    Calls Tryd.prog 10 #[.int .u8 tag, vb, vr] w fun e w' => e = .returned (.bool true) ∧ Below w.heap.size w w' := by
  obtain ⟨ab, cb, rfl⟩ := src_form hb
  obtain ⟨ar, cr, rfl⟩ := src_form hr
  have hu := Uv.uv_len body.length
  have hbl := enc_lt ht hb.1 (by rw [Uv.u64_eq]; omega)
  have hen := enc_length tag body
  have hdec := dec_enc tag body rest h0 ht hb.1 (by omega)
  have hbo := enc_body tag body rest
  have ht0 : ((tag : Int) == 0) = false := by simp; omega
  generalize hun : 1 + (Uv.uv body.length).length = u at *
  have HZ := hide Z
  have HE := hide hE
  have HB := hide hb
  have HR := hide hr
  have HT := hide ht
  have H0 := hide h0
  have HBL := hide hbl
  have HDE := hide hdec
  have HBO := hide hbo
  clear Z hE hb hr ht h0 hbl hdec hbo
  go_enter Tryd.func10, Tryd.ntmps10
  go_wp2_with fail
  refine (lives_any w HZ.out (by omega)).mono ?_
  rintro e w1 ⟨rfl, hb1⟩
  have HB1 := hide hb1
  have hs1 := hb1.size
  clear hb1
  go_wp2_with fail
  refine (encode_pos w1 (zip_below HZ.out HB1.out (by omega)) (by omega) tag HT.out H0.out _ body (src_keep HB.out HB1.out) (by omega)).mono ?_
  rintro e w2 ⟨g2, rfl, hg2, hh2, hb2⟩
  have HB2 := hide (HB1.out.trans (hb2.mono hs1))
  have hs2 := HB2.out.size
  have HS2 := hide (src_block hh2 HBL.out (by omega))
  clear hb2 hh2 hg2
  obtain ⟨n, hn⟩ : ∃ n, (enc tag body).length = n := ⟨_, rfl⟩
  rw [hn] at hen HS2
  rw [hn]
  have HN := hide hn
  have HEN := hide hen
  have HUN := hide hun
  have hn6 : body.length + 6 ≤ n := by omega
  have hn15 : n ≤ body.length + 15 := by omega
  clear hn hen hun
  have hO := own_lit w2 w2.heap.size [] (Nat.le_refl _) (by simp) #[] rfl
  have hBA := (Below.refl w2.heap.size w2).alloc (Nat.le_refl _) (.cells #[] 5)
  have HO := hide hO
  have HBA := hide hBA
  clear hO hBA
  go_wp2_with (refine append_src w2 (w2.alloc (.cells #[] 5)) w2.heap.size _ _ [] (enc tag body) rfl (.tmp 43) (.tmp 44) rfl rfl rfl HO.out (src_keep HS2.out HBA.out) (by have := HN.out; simp; omega) HBA.out.size HBA.out ?_)
  intro v3 w3 ho3 hb3
  have HO3 := hide ho3
  have HB3 := hide hb3
  have HW3 := hide (HB2.out.trans (hb3.mono hs2))
  have hs3 := HW3.out.size
  clear ho3 hb3
  go_wp2_with (refine append_src w2 w3 w2.heap.size v3 _ _ rest rfl (.tmp 45) (.tmp 46) rfl rfl rfl HO3.out (src_keep HR.out HW3.out) (by have := HN.out; simp; omega) HB3.out.size HB3.out ?_)
  intro v5 w5 ho5 hb5
  have HW5 := hide (HB2.out.trans (hb5.mono hs2))
  have hs5 := HW5.out.size
  have h256 : ∀ x ∈ enc tag body ++ rest, x < 256 := by
    intro x hx
    rcases List.mem_append.1 hx with h | h
    · exact HBL.out x h
    · exact HR.out.1 x h
  have HS5 := hide (own_src ho5 h256)
  have HL5 := hide (show (enc tag body ++ rest).length ≤ 140737488355328 by have := HN.out; simp; omega)
  clear ho5 hb5 HO3 HB3 HW3 HO HBA HS2 h256
  have HE5 := hide (HE.out.below HW5.out (Nat.le_refl _) (ids_lt hg))
  go_wp2_with fail
  refine (decode_any w5 (zip_below HZ.out HW5.out (by omega)) E (HE5.out.cell 0 (by decide)) (HE5.out.cell 1 (by decide)) (HE5.out.cell 2 (by decide)) (HE5.out.cell 6 (by decide)) (by omega) v5 _ HS5.out HL5.out).mono ?_
  rintro e w6 ⟨hout, hb6⟩
  rw [DecOut, HDE.out] at hout
  obtain ⟨g6, rfl, hg6, hh6⟩ := hout
  rw [HBO.out] at hh6
  have HW6 := hide (HW5.out.trans (hb6.mono hs5))
  have hs6 := HW6.out.size
  have hS6 := src_block hh6 HB.out.1 (by omega)
  rw [show (u + body.length - u) = body.length by omega, show u + body.length + 4 = n from HEN.out.symm, show (enc tag body ++ rest).getD 0 0 = tag by simp [enc, encHead]]
  have HS6 := hide hS6
  clear hb6 hh6 hg6 hS6 HS5 HL5 HE5
  have HW7 := hide (HW6.out.alloc hs6 (.cells #[.int .u8 tag, .slice (some ⟨g6, 0, none⟩) body.length body.length] 47))
  have hba := (Below.refl w6.heap.size w6).alloc (Nat.le_refl _) (.cells #[.int .u8 tag, .slice (some ⟨g6, 0, none⟩) body.length body.length] 47)
  obtain ⟨c0, c1⟩ := cells2 (heap_new (w := w6) rfl (.cells #[.int .u8 tag, .slice (some ⟨g6, 0, none⟩) body.length body.length] 47))
  have hA := src_string (src_keep HS6.out hba)
  have hB := src_string (src_keep HB.out HW7.out)
  generalize bstr body = X at hA hB
  go_wp2_with fail
  clear c0 c1 hA hB hba HS6
  generalize w6.alloc (.cells #[.int .u8 tag, .slice (some ⟨g6, 0, none⟩) body.length body.length] 47) = w7 at HW7 ⊢
  have hs7 := HW7.out.size
  have HE7 := hide (HE.out.below HW7.out (Nat.le_refl _) (ids_lt hg))
  refine (decode_any w7 (zip_below HZ.out HW7.out (by omega)) E (HE7.out.cell 0 (by decide)) (HE7.out.cell 1 (by decide)) (HE7.out.cell 2 (by decide)) (HE7.out.cell 6 (by decide)) (by omega) _ rest (src_keep HR.out HW7.out) (by omega)).mono ?_
  rintro e w8 ⟨hout, hb8⟩
  have HW8 := hide (HW7.out.trans (hb8.mono hs7))
  have hs8 := HW8.out.size
  clear hb8 HE7
  cases hd : dec rest with
  | inl g =>
    rw [DecOut, hd] at hout
    subst hout
    have HD := hide hd
    clear hd
    obtain ⟨c0, c1⟩ := cells2 (heap_new (w := w8) rfl (.cells #[.int .u8 0, .slice none 0 0] 47))
    have HW9 := hide (HW8.out.alloc hs8 (.cells #[.int .u8 0, .slice none 0 0] 47))
    go_wp2_with fail
    go_ret
    exact ⟨rfl, HW9.out⟩
  | inr q =>
    obtain ⟨i, j⟩ := q
    rw [DecOut, hd] at hout
    obtain ⟨g8, rfl, hg8, hh8⟩ := hout
    obtain ⟨t, r, rfl, ht1, hij, hjl, hi2, hagain⟩ := dec_ok HR.out.1 hd
    have htt : t < 256 := HR.out.1 t (List.mem_cons_self ..)
    have hz256 : ∀ x ∈ ((t :: r).take j).drop i, x < 256 := fun x hx => HR.out.1 x (List.mem_of_mem_take (List.mem_of_mem_drop hx))
    have hzl : (((t :: r).take j).drop i).length = j - i := by rw [List.length_drop, List.length_take]; omega
    obtain ⟨body2, hbody2⟩ : ∃ body2, ((t :: r).take j).drop i = body2 := ⟨_, rfl⟩
    rw [hbody2] at hz256 hzl hh8 hagain
    have hS8 := src_block hh8 hz256 (by omega)
    obtain ⟨ad, rfl, _⟩ := src_cell HR.out (show (t :: r)[0]? = some t from rfl)
    have hcap : (t :: r).length ≤ cr := by
      rcases HR.out.2 with ⟨h, _⟩ | ⟨ad', c', h, ha, _, _⟩
      · simp at h
      · simp only [Value.slice.injEq] at h
        obtain ⟨_, _, rfl⟩ := h
        exact ha
    obtain ⟨m, hm⟩ : ∃ m, j + 4 = m := ⟨_, rfl⟩
    have hcr : cr ≤ 9223372036854775807 := by
      rcases HR.out.2 with ⟨h, _⟩ | ⟨ad', c', h, _, hc, _⟩
      · simp at h
      · simp only [Value.slice.injEq] at h
        obtain ⟨_, _, rfl⟩ := h
        exact hc
    have hpart := src_part HR.out 0 m cr (by omega) (by omega) (by omega) hcr
    rw [Addr.add_zero', List.drop_zero, Nat.sub_zero] at hpart
    rw [hm] at hagain hjl ⊢
    rw [← hzl, show (t :: r).getD 0 0 = t from rfl]
    have HS8 := hide hS8
    have HP := hide hpart
    have HAG := hide hagain
    have HT1 := hide ht1
    have HTT := hide htt
    have hag2 : (enc t body2).length = m := by rw [hagain, List.length_take]; omega
    have HAG2 := hide hag2
    have hbl2 : body2.length ≤ 100000000 := by omega
    have hmr : m ≤ (t :: r).length := hjl
    have hmc : m ≤ cr := by omega
    have hm1 : (m : Int) ≤ ((t :: r).length : Int) := by omega
    generalize (t :: r).length = rl at *
    clear hh8 hd hz256 hzl hbody2 hS8 hpart hagain ht1 htt hag2 hjl hcap hcr hg8 hm
    obtain ⟨c0, c1⟩ := cells2 (heap_new (w := w8) rfl (.cells #[.int .u8 t, .slice (some ⟨g8, 0, none⟩) body2.length body2.length] 47))
    have HW9 := hide (HW8.out.alloc hs8 (.cells #[.int .u8 t, .slice (some ⟨g8, 0, none⟩) body2.length body2.length] 47))
    have HS9 := hide (src_keep HS8.out ((Below.refl w8.heap.size w8).alloc (Nat.le_refl _) (.cells #[.int .u8 t, .slice (some ⟨g8, 0, none⟩) body2.length body2.length] 47)))
    go_wp2_with fail
    clear c0 c1 HS8
    generalize w8.alloc (.cells #[.int .u8 t, .slice (some ⟨g8, 0, none⟩) body2.length body2.length] 47) = w9 at HW9 HS9 ⊢
    have hs9 := HW9.out.size
    refine (encode_pos w9 (zip_below HZ.out HW9.out (by omega)) (by omega) t HTT.out HT1.out _ body2 HS9.out (by omega)).mono ?_
    rintro e w10 ⟨g10, rfl, hg10, hh10, hb10⟩
    have HW10 := hide (HW9.out.trans (hb10.mono hs9))
    have hsA := src_block hh10 (by rw [HAG.out]; exact HP.out.1) (by have := HAG2.out; omega)
    rw [HAG2.out, HAG.out] at hsA
    have hA := fun q => src_string (src_drew hsA q)
    have hB := fun q => src_string (src_drew (src_keep HP.out HW10.out) q)
    rw [HAG2.out]
    generalize bstr (List.take m (t :: r)) = Y at hA hB
    clear hh10 hb10 hg10 hsA
    go_wp2_with fail
    have d1 : decide ((m : Int) ≤ (rl : Int)) = true := by simp; omega
    go_quiet (fail)
    go_wp2
    go_ret
    exact ⟨rfl, below_drewN HW10.out _⟩

theorem walk (w : World) (Z : Zip w) (E : Nat → Addr) (hE : Errs w E allErrs) (hg : 26 ≤ w.heap.size) (tag : Nat) (ht : tag < 256) (vb vr : Value) (body rest : List Nat) (hb : Src w vb body) (hr : Src w vr rest)
    (hl : body.length + rest.length ≤ 100000000) :
    Calls Tryd.prog 10 #[.int .u8 tag, vb, vr] w fun e w' => e = .returned (.bool true) ∧ Below w.heap.size w w' := by
  by_cases h0 : tag = 0
  · subst h0
    exact walk_zero w Z E hE hg vb vr
  · exact walk_pos w Z E hE hg tag ht h0 vb vr body rest hb hr hl

/-! the frame, by program -/
set_option maxRecDepth 100000 in
theorem contract (H : Type) (enc : TypeId × Value → H) (W : World) (base : Nat) (args : Array Value) (ds gs : List (DataW H)) (before : List MemPlace)
    (hval : ∀ (j : Nat) t v, Tryd.f10.params[j]? = some t → args[j]? = some v → Value.okWide Tryd.prog W .any base t v)
    (hW : DataW.Whole enc Tryd.prog Tryd.f10.params.toList Rows.frameThereSpec.vars false W args.toList ds gs before) (hL : laidMetH Tryd.prog Rows.frameThereRow.laid W)
    (hsz : (DataW.weightsEach Tryd.prog (Tryd.f10.params.toList ++ []) (ds ++ gs)).all (· ≤ reachBytes) = true) (hk : Rows.uptoSmall H (ds ++ gs) = true) :
    Calls Tryd.prog 10 args W fun e W' => ∃ v, e = .returned v ∧ Rows.frameThereSpec.post enc Tryd.prog Tryd.f10 false true false false W args v W' := by
  have hW' := hW
  obtain ⟨p, q, hA0, hV, rfl, hfz, hnd⟩ := hW
  have hA : DataW.TrodAll enc Tryd.prog W 0 (fun _ => true) true Tryd.f10.params.toList args.toList ds p := hA0
  rw [Tryd.params10] at hA hval hsz
  obtain ⟨v0, vs0, d0, ds0, p0, q0, hargs, rfl, rfl, h0, r0⟩ := trodAll_cons hA
  obtain ⟨v1, vs1, d1, ds1, p1, q1, rfl, rfl, rfl, h1, r1⟩ := trodAll_cons r0
  obtain ⟨v2, vs2, d2, ds2, p2, q2, rfl, rfl, rfl, h2, r2⟩ := trodAll_cons r1
  obtain ⟨rfl, rfl, rfl⟩ := trodAll_nil r2
  obtain rfl : args = #[v0, v1, v2] := by cases args; simp_all
  obtain ⟨rfl, rfl⟩ := trodVars_none hV
  obtain ⟨x0, rfl, rfl, rfl, w0⟩ := open_int Tryd.underlying5 (hval 0 5 v0 rfl rfl) h0
  obtain ⟨l0, u0⟩ := bounds_u8 w0
  obtain ⟨n0, rfl⟩ := Int.eq_ofNat_of_zero_le l0
  obtain ⟨b1, s1, g1⟩ := open_bytes (hval 1 25 v1 rfl rfl) h1
  have e1 := small_bytes hk (j := 1) rfl g1
  obtain ⟨b2, s2, g2⟩ := open_bytes (hval 2 25 v2 rfl rfl) h2
  have e2 := small_bytes hk (j := 2) rfl g2
  clear hA0
  simp only [List.append_nil] at hW'
  have hl : laidMet Tryd.prog Rows.frameThereRow.laid W := hL
  obtain ⟨Z, hg⟩ := zip_of_mem hl (by simp [Rows.frameThereRow])
  have hreads : ∀ g ∈ ([0, 1, 2, 3, 4, 5, 6, 7, 8, 9, 10, 11, 12, 13, 14, 17, 18, 19, 20, 21, 22, 23, 24, 25] : List Nat), ErrRead W g := by
    intro g hg
    simp only [List.mem_cons, List.not_mem_nil, or_false] at hg
    rcases hg with rfl | rfl | rfl | rfl | rfl | rfl | rfl | rfl | rfl | rfl | rfl | rfl | rfl | rfl | rfl | rfl | rfl | rfl | rfl | rfl | rfl | rfl | rfl | rfl
    · exact read0 hl (by simp [Rows.frameThereRow])
    · exact read1 hl (by simp [Rows.frameThereRow])
    · exact read2 hl (by simp [Rows.frameThereRow])
    · exact read3 hl (by simp [Rows.frameThereRow])
    · exact read4 hl (by simp [Rows.frameThereRow])
    · exact read5 hl (by simp [Rows.frameThereRow])
    · exact read6 hl (by simp [Rows.frameThereRow])
    · exact read7 hl (by simp [Rows.frameThereRow])
    · exact read8 hl (by simp [Rows.frameThereRow])
    · exact read9 hl (by simp [Rows.frameThereRow])
    · exact read10 hl (by simp [Rows.frameThereRow])
    · exact read11 hl (by simp [Rows.frameThereRow])
    · exact read12 hl (by simp [Rows.frameThereRow])
    · exact read13 hl (by simp [Rows.frameThereRow])
    · exact read14 hl (by simp [Rows.frameThereRow])
    · exact read17 hl (by simp [Rows.frameThereRow])
    · exact read18 hl (by simp [Rows.frameThereRow])
    · exact read19 hl (by simp [Rows.frameThereRow])
    · exact read20 hl (by simp [Rows.frameThereRow])
    · exact read21 hl (by simp [Rows.frameThereRow])
    · exact read22 hl (by simp [Rows.frameThereRow])
    · exact read23 hl (by simp [Rows.frameThereRow])
    · exact read24 hl (by simp [Rows.frameThereRow])
    · exact read25 hl (by simp [Rows.frameThereRow])
  obtain ⟨E, hE⟩ := errs_of_reads hreads (by decide +kernel)
  have hg2 := World.block_lt_of_cell? W _ (hE.cell 25 (by decide))
  simp only at hg2
  refine (walk W Z E hE (by omega) n0 (by omega) _ _ b1 b2 s1 s2 (by omega)).mono fun e W' ⟨he, hb⟩ => ?_
  subst he
  exact ⟨_, rfl, law_post hW' rfl rfl rfl (by kernel_rfl) hb⟩

noncomputable def laidWorld (os : Os) : World := World.doorLaid Tryd.prog 475 os
noncomputable def wargs : Array Value := #[.int .u8 0, .slice none 0 0, .slice none 0 0]
theorem laid_met (os : Os) : laidMetH Tryd.prog Rows.frameThereRow.laid ((laidWorld os).forCall (fun _ _ => 0) ⟨#[], wargs, []⟩).memory :=
  laidMetH_of_parts3 (fuel := 8) (laidMet_of_run' 8 (by kernel_rfl) (by kernel_rfl)) (by kernel_rfl) (by kernel_rfl)
theorem reads (os : Os) {H : Type} (enc : TypeId × Value → H) : ∃ places, DataW.whole enc Tryd.prog ((laidWorld os).forCall (fun _ _ => 0) ⟨#[], wargs, []⟩).memory Tryd.f10.params.toList Rows.frameThereSpec.vars false wargs.toList 8 = some ([.lit (.int .u8 0), .nil, .nil], [], places) :=
  ⟨[], by kernel_rfl⟩

set_option maxRecDepth 100000 in
theorem lifted (os : Os) (started : os.Started) (H : Type) (enc : TypeId × Value → H) (F : Stop.Interp) :
    ReturnsInHanded {} Tryd.checked os 10 .any ((Rows.OpenSpec.upto Rows.frameThereSpec).preRow enc Tryd.prog Tryd.f10 Rows.frameThereUptoRow.domain false Rows.frameThereUptoRow.laid) (((Rows.OpenSpec.upto Rows.frameThereSpec).at F).post enc Tryd.prog Tryd.f10 false true false false) := by
  obtain ⟨places, hx⟩ := reads os enc
  refine returnsInHanded_of_row (C := Tryd.checked) (s := Rows.OpenSpec.upto Rows.frameThereSpec) own started (by kernel_rfl) Tryd.func10
    (witness_row_atRef (enc := enc) (C := Tryd.checked) false (laidWorld os) wargs rfl (by kernel_rfl) (by kernel_rfl) (by kernel_rfl)
      (OpenSpec.preRow_of_cond 8 hx (by kernel_rfl) (fun k hk => by cases hk; kernel_rfl) (by kernel_rfl) (laid_met os))) ?_
  intro W base args ds gs before hval hW _ hcond hsz hL _ _
  exact contract H enc W base args ds gs before hval hW hL hsz (hcond _ rfl)

theorem fact0 : (Rows.frameThereUptoRow.wf (OpenSpec.ofChange (Rows.OpenSpec.upto Rows.frameThereSpec).bare)) = true := by kernel_rfl
theorem fact3 : (Tryd.f10.params.all (Tryd.prog.readableRec ·)) = true := by kernel_rfl
theorem fact4 : (namedTie Tryd.prog Rows.frameThereUptoRow.named (Rows.OpenSpec.upto Rows.frameThereSpec).bare.vars) = true := by kernel_rfl
theorem fact5 : ((Rows.frameThereUptoRow.stops == [])) = true := by kernel_rfl
theorem fact7 : ((Rows.frameThereUptoRow.knobs == [])) = true := by kernel_rfl
theorem fact9 : ((Rows.frameThereUptoRow.inPlace == Tryd.prog.inPlace 10)) = true := by kernel_rfl
theorem fact10 : ((Rows.frameThereUptoRow.unfollowed == Tryd.prog.unfollowed 10)) = true := by kernel_rfl
theorem fact11 : ((Rows.frameThereUptoRow.recurses == Tryd.prog.recurses 10)) = true := by kernel_rfl
theorem fact12 : ((Rows.frameThereUptoRow.named == Tryd.prog.varsNamed 10)) = true := by kernel_rfl
theorem fact13 : ((Rows.frameThereUptoRow.maps == (Tryd.f10.params.toList ++ (Rows.OpenSpec.upto Rows.frameThereSpec).bare.plain.varTypes Tryd.prog).any (Tryd.prog.mapsRec ·))) = true := by kernel_rfl
theorem fact14 : ((Rows.frameThereUptoRow.ifaces == (Tryd.f10.params.toList ++ (Rows.OpenSpec.upto Rows.frameThereSpec).bare.plain.varTypes Tryd.prog).any (Tryd.prog.ifacesRec ·))) = true := by kernel_rfl
theorem fact15 : ((Rows.frameThereUptoRow.mapsOut == Tryd.prog.mapsAmong Tryd.f10.resultTypes.toList)) = true := by kernel_rfl
theorem fact16 : ((Rows.frameThereUptoRow.loops == (Tryd.f10.params.toList ++ (Rows.OpenSpec.upto Rows.frameThereSpec).bare.plain.varTypes Tryd.prog).any (Tryd.prog.loopsFrom ·))) = true := by kernel_rfl
theorem fact17 : ((Rows.frameThereUptoRow.wideKeys == (Tryd.f10.params.toList ++ (Rows.OpenSpec.upto Rows.frameThereSpec).bare.plain.varTypes Tryd.prog ++ Tryd.f10.resultTypes.toList).any (Tryd.prog.wideKeysFrom ·))) = true := by kernel_rfl
theorem fact18 : ((Rows.OpenSpec.upto Rows.frameThereSpec).bare.vars.all (Tryd.prog.varReadable ·)) = true := by kernel_rfl
theorem fact19 : (Tryd.f10.resultTypes.all (fun t => Tryd.prog.readableRec t && decide (t < Tryd.prog.types.size))) = true := by kernel_rfl
theorem fact20 : ((Rows.frameThereUptoRow.ifacesOut == Tryd.f10.resultTypes.toList.any (Tryd.prog.ifacesRec ·))) = true := by kernel_rfl
theorem fact21 : ((Rows.frameThereUptoRow.loopsOut == Tryd.f10.resultTypes.toList.any (Tryd.prog.loopsFrom ·))) = true := by kernel_rfl
theorem fact22 : ((Rows.frameThereUptoRow.plainKeys == Tryd.prog.plainKeys)) = true := by rw [Tryd.keys]; kernel_rfl
theorem fact23 : (Rows.frameThereUptoRow.shortTexts.isNone) = true := by kernel_rfl
theorem fact26 : ((Rows.frameThereUptoRow.lifted == Tryd.prog.liftsFinal)) = true := by rw [Tryd.lifts]; kernel_rfl
theorem fact27 : ((Tryd.prog.make == some Rows.frameThereUptoRow.make)) = true := by rw [Tryd.makes]; kernel_rfl
theorem fact29 : ((Rows.frameThereUptoRow.pinned == Rows.frameThereUptoRow.pinnedBy)) = true := by kernel_rfl
theorem fact30 : ((Rows.frameThereUptoRow.veiled == (Tryd.f10.params.toList ++ (Rows.OpenSpec.upto Rows.frameThereSpec).bare.plain.varTypes Tryd.prog ++ Tryd.f10.resultTypes.toList).any (Tryd.prog.veiledRec ·))) = true := by kernel_rfl
theorem fact31 : (Rows.frameThereUptoRow.veiledFits Tryd.prog Tryd.f10.params.toList (Tryd.f10.params.toList ++ (Rows.OpenSpec.upto Rows.frameThereSpec).bare.plain.varTypes Tryd.prog ++ Tryd.f10.resultTypes.toList)) = true := by kernel_rfl
theorem closed : joinedFacts Tryd.prog 10 Tryd.f10 (Rows.OpenSpec.upto Rows.frameThereSpec).bare Rows.frameThereUptoRow = true :=
  facts_of fact0 Tryd.laidOut Tryd.rowed fact3 fact4 fact5 Tryd.noStops fact7 Tryd.noKnobs fact9 fact10 fact11 fact12 fact13 fact14 fact15 fact16 fact17 fact18 fact19 fact20 fact21 fact22 fact23 Tryd.heard Tryd.mayEnter fact26 fact27 (by kernel_rfl) fact29 fact30 fact31
theorem named : Tryd.prog.funcNamed Rows.frameThereUptoRow.func = some 10 := by kernel_rfl
theorem instanced : Tryd.f10.isInstance Tryd.prog Rows.frameThereUptoRow.origin Rows.frameThereUptoRow.targs := of_decide_eq_true (by kernel_rfl)
theorem wrapped : Tryd.f10.isWrapper Tryd.prog Rows.frameThereUptoRow.wrapper Rows.frameThereUptoRow.mainSum := by unfold Func.isWrapper; first | (rw [if_pos (by decide +kernel)]; kernel_rfl) | (rw [if_neg (by decide +kernel)]; exact ⟨rfl, rfl⟩)
theorem said : Rows.FrameThereUptoSaid :=
  OpenClaim.holds_of_cond 10 Tryd.f10 rfl rfl rfl rfl rfl rfl rfl ⟨rfl, rfl, rfl, rfl, rfl⟩ rfl rfl rfl rfl rfl named Tryd.func10 closed
    instanced wrapped
    (fun os started H enc _ F => by rw [OpenClaim.pre_eq_preRow]; exact lifted os started H enc F)

theorem plain (f : FuncId) (fn : Func) (hf : Tryd.pinned.checked.prog.funcNamed "concord/concordlaw02.FrameThere" = some f) (hfn : Tryd.pinned.checked.prog.funcs[f]? = some fn) :
    true = Tryd.pinned.checked.prog.looks [] ∧ ∀ (j : Nat) t, fn.params[j]? = some t → Tryd.pinned.checked.prog.wantsStandIn t = false := by
  obtain rfl : f = 10 := Option.some.inj ((show Tryd.prog.funcNamed "concord/concordlaw02.FrameThere" = some 10 by kernel_rfl).symm.trans hf) |>.symm
  obtain rfl : fn = Tryd.f10 := (Option.some.inj (Tryd.func10.symm.trans hfn)).symm
  have hall : Tryd.f10.params.toList.all (fun t => !Tryd.pinned.checked.prog.wantsStandIn t) = true := by kernel_rfl
  refine ⟨by kernel_rfl, fun j t ht => ?_⟩
  have := List.all_eq_true.1 hall t (by simpa using Array.mem_of_getElem? ht)
  simpa using this

/-- THE CARD -/
theorem card : Rows.FrameThereUptoCardSaid :=
  Claim7.holds_tied_plain_at .later [] _ _ _ _ said (fun _ h => by cases h) (by kernel_rfl) (fun _ h => by cases h) frameThereUpto_row_tie rfl ⟨rfl, rfl⟩ (by kernel_rfl) rfl plain (by kernel_rfl)
end Go.Proofs.YtgebekklkodpaaaDoor.frameThere
