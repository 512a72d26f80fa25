/- Proved: for every tag and every body, FrameOwnsBlock returns true (what is handed in to the sums, Encode and Decode stays, spare room too, what they answer is new memory, and a list written over is asked anew), and nothing that lay in memory ahead of the call has changed. Conditions: the package variables that the row lists (four errors, frame.zipTable, frame.sealTable) hold what their initialisers lay; the card ties that to the text. -/
import Derived.Test.YtgebekklkodpaaaDoorOg2
import Derived.Test.YtgebekklkodpaaaDoorSc
import Derived.Test.YtgebekklkodpaaaDoorStr
import Derived.Deep.OwnRows
import Derived.Laws.CopyOwn
import Derived.BigQuiet
import Derived.Deep.RegionHeld3
import Derived.Test.YtgebekklkodpaaaDoorOpen
import Derived.Test.YtgebekklkodpaaaDoorTies
import Derived.Deep.DeepWitnessRowRef
namespace Go.Proofs.YtgebekklkodpaaaDoor.frameOwnsBlock
open Go.ChangeShapes Go.WideShapes Go.ChangeAt Go.RowKit Go.Proofs.YtgebekklkodpaaaDoor

theorem enc_split (tag : Nat) (body : List Nat) : ((enc tag body).take (1 + (Uv.uv body.length).length + body.length)).drop (1 + (Uv.uv body.length).length) = body := by
  have e : enc tag body = (([tag] ++ Uv.uv body.length) ++ body) ++ Uv.word (sum (encHead tag body)) := by simp [enc, encHead]
  have hA : ([tag] ++ Uv.uv body.length).length = 1 + (Uv.uv body.length).length := by simp; omega
  rw [e, List.take_left' (by simp; omega), List.drop_left' hA]
theorem dec_enc0 (tag : Nat) (body : List Nat) (h0 : tag ≠ 0) (ht : tag < 256) (hb : ∀ x ∈ body, x < 256) (hl : body.length < 18446744073709551616) :
    dec (enc tag body) = .inr (1 + (Uv.uv body.length).length, 1 + (Uv.uv body.length).length + body.length) := by
  have h := dec_enc tag body [] h0 ht hb hl
  rwa [List.append_nil] at h

set_option maxRecDepth 100000 in
theorem walk_zero (w : World) (Z : Zip w) (hg : 17 ≤ w.heap.size) (v : Value) :
    Calls Tryd.prog 12 #[.int .u8 0, v] w fun e w' => e = .returned (.bool true) ∧ Below w.heap.size w w' := by
  have HZ := hide Z
  clear Z
  go_enter Tryd.func12, Tryd.ntmps12
  go_wp2_with fail
  refine (lives_any w HZ.out (by omega)).mono ?_
  rintro e w1 ⟨rfl, hb1⟩
  have HB1 := hide hb1
  clear hb1
  go_wp2_with fail
  go_ret
  exact ⟨rfl, HB1.out⟩

set_option maxRecDepth 100000 in
set_option maxHeartbeats 4000000 in
theorem walk_pos (w : World) (Z : Zip w) (S : SealT w) (E : Nat → Addr) (hE : Errs w E dErrs) (hg : 17 ≤ w.heap.size) (tag : Nat) (ht : tag < 256) (h0 : tag ≠ 0) (v : Value) (body : List Nat) (hv : Src w v body) (hl : body.length ≤ 140737488351232) :
    Calls Tryd.prog 12 #[.int .u8 tag, v] w fun e w' => e = .returned (.bool true) ∧ Below w.heap.size w w' := by
  obtain ⟨ao, cap, rfl⟩ := src_form hv
  have hu := Uv.uv_len body.length
  have ht0 : ((tag : Int) == 0) = false := by simp; omega
  -- the three bodies: what came, the marks, zeros
  obtain ⟨n, hn⟩ : ∃ n, body.length = n := ⟨_, rfl⟩
  obtain ⟨m0, hm0⟩ : ∃ m0, mrow 0 n = m0 := ⟨_, rfl⟩
  obtain ⟨zs, hzs⟩ : ∃ zs, List.replicate n 0 = zs := ⟨_, rfl⟩
  have ln : m0.length = n := by rw [← hm0, mrow_len]
  have lz : zs.length = n := by rw [← hzs, List.length_replicate]
  have bm : ∀ x ∈ m0, x < 256 := by rw [← hm0]; exact mrow_lt 0 n
  have bz : ∀ x ∈ zs, x < 256 := by intro x hx; rw [← hzs] at hx; have := List.eq_of_mem_replicate hx; omega
  have e1 := enc_length tag body
  have e2 := enc_length tag m0
  have e3 := enc_length tag zs
  have f1 := enc_lt ht hv.1 (by rw [Uv.u64_eq]; omega)
  have f2 := enc_lt ht bm (by rw [Uv.u64_eq]; omega)
  have f3 := enc_lt ht bz (by rw [Uv.u64_eq]; omega)
  have d2 := dec_enc0 tag m0 h0 ht bm (by omega)
  have d3 := dec_enc0 tag zs h0 ht bz (by omega)
  have s2 := enc_split tag m0
  have s3 := enc_split tag zs
  have t2 : (enc tag m0).getD 0 0 = tag := by simp [enc, encHead]
  have t3 : (enc tag zs).getD 0 0 = tag := by simp [enc, encHead]
  rw [hn] at hu e1 hl
  rw [ln] at e2 d2 s2
  rw [lz] at e3 d3 s3
  generalize hun : 1 + (Uv.uv n).length = u at *
  obtain ⟨N, hN⟩ : ∃ N, N = u + n + 4 := ⟨_, rfl⟩
  rw [← hN] at e1 e2 e3
  have hN6 : n + 6 ≤ N := by omega
  have hN15 : N ≤ n + 15 := by omega
  have HT := hide ht
  have H0 := hide h0
  have HZ := hide Z
  have HSL := hide S
  have HE := hide hE
  have HV := hide hv
  have HNB := hide hn
  have HM0 := hide hm0
  have HZS := hide hzs
  have HNN := hide hN
  have HUN := hide hun
  have HBM := hide bm
  have HBZ := hide bz
  have HLN := hide ln
  have HLZ := hide lz
  have HE1 := hide e1
  have HE2 := hide e2
  have HE3 := hide e3
  have HF1 := hide f1
  have HF2 := hide f2
  have HF3 := hide f3
  have HD2 := hide d2
  have HD3 := hide d3
  have HS2 := hide s2
  have HS3 := hide s3
  have HT2 := hide t2
  have HT3 := hide t3
  clear ht h0 Z S hE hv hn hm0 hzs hN hun bm bz ln lz e1 e2 e3 f1 f2 f3 d2 d3 s2 s3 t2 t3 hu
  rw [HNB.out]
  go_enter Tryd.func12, Tryd.ntmps12
  go_wp2_with fail
  refine (lives_any w HZ.out (by omega)).mono ?_
  rintro e w1 ⟨rfl, hb1⟩
  have HB1 := hide hb1
  have z1 := hb1.size
  clear hb1
  have HV' := hide (show Src w (.slice ao n cap) body by have h := HV.out; rw [HNB.out] at h; exact h)
  -- want
  go_wp2_with fail
  refine (ref_encode_pos w1 tag HT.out H0.out _ body (src_keep HV'.out HB1.out) (by have := HNB.out; omega)).mono ?_
  rintro e w2 ⟨gw, cw, rfl, hw2, hb2⟩
  rw [HE1.out] at hw2 ⊢
  have HB2 := hide (HB1.out.trans (hb2.mono z1))
  have z2 := HB2.out.size
  have HW2 := hide (show Own w2 w1.heap.size (.slice (some ⟨gw, 0, none⟩) N cw) (enc tag body) by unfold Own; rw [HE1.out]; exact hw2)
  clear hw2 hb2
  -- Spare
  go_wp2_with fail
  refine (spare_any w2 _ body (src_keep HV'.out HB2.out) (by have := HNB.out; omega)).mono ?_
  rintro e w3 ⟨ga, rfl, hga, hh3, hb3⟩
  rw [HNB.out]
  have HB3 := hide (HB2.out.trans (hb3.mono z2))
  have z3 := HB3.out.size
  have HH3 := hide hh3
  have hga3 := heap_lt hh3
  have HW3 := hide (own_keep HW2.out hb3)
  have HA3 := hide (show Own w3 w.heap.size (.slice (some ⟨ga, 0, none⟩) n (n + 80)) body by
    have h := own_front (B := w.heap.size) hh3 (by omega) (n + 80) (by rw [room_len, HNB.out]) (by rw [room_len, HNB.out]; omega)
    rw [HNB.out] at h
    exact h)
  clear hh3 hb3 HW2
  -- sums
  go_wp2_with fail
  refine (sums_any w3 (zip_below HZ.out HB3.out (by omega)) (seal_below HSL.out HB3.out (by omega)) _ _ body (own_src HA3.out HV.out.1) (src_keep HV'.out HB3.out) (by have := HNB.out; omega)).mono ?_
  rintro e w' ⟨rfl, rfl⟩
  -- Encode twice
  go_wp2_with fail
  refine (encode_pos w3 (zip_below HZ.out HB3.out (by omega)) (by omega) tag HT.out H0.out _ body (own_src HA3.out HV.out.1) (by have := HNB.out; omega)).mono ?_
  rintro e w4 ⟨g4, rfl, hg4, hh4, hb4⟩
  rw [HE1.out]
  have HB4 := hide (HB3.out.trans (hb4.mono z3))
  have z4 := HB4.out.size
  have z34 := hb4.size
  have HA4 := hide (own_keep HA3.out hb4)
  have HW4 := hide (own_keep HW3.out hb4)
  have HFU4 := hide ((hb4.block _ hga3).trans HH3.out)
  have HX4 := hide (show Own w4 w.heap.size (.slice (some ⟨g4, 0, none⟩) N N) (enc tag body) by
    have h := own_block (B := w.heap.size) hh4 (by omega) (by rw [HE1.out]; omega)
    rw [HE1.out] at h
    exact h)
  have hl4 := heap_lt hh4
  clear hh4 hb4 HA3 HW3
  go_wp2_with fail
  refine (encode_pos w4 (zip_below HZ.out HB4.out (by omega)) (by omega) tag HT.out H0.out _ body (own_src HA4.out HV.out.1) (by have := HNB.out; omega)).mono ?_
  rintro e w5 ⟨g5, rfl, hg5, hh5, hb5⟩
  rw [HE1.out]
  have HB5 := hide (HB4.out.trans (hb5.mono z4))
  have z5 := HB5.out.size
  have z45 := hb5.size
  have HA5 := hide (own_keep HA4.out hb5)
  have HW5 := hide (own_keep HW4.out hb5)
  have HFU5 := hide ((hb5.block _ (by omega)).trans HFU4.out)
  have HX5 := hide (own_keep HX4.out hb5)
  have HY5 := hide (show Own w5 w.heap.size (.slice (some ⟨g5, 0, none⟩) N N) (enc tag body) by
    have h := own_block (B := w.heap.size) hh5 (by omega) (by rw [HE1.out]; omega)
    rw [HE1.out] at h
    exact h)
  have hl5 := heap_lt hh5
  clear hh5 hb5 HA4 HW4 HFU4 HX4 HH3
  have hc1 := src_string (own_src HX5.out HF1.out)
  have hc2 := src_string (own_src HY5.out HF1.out)
  have hc3 := src_string (own_src HW5.out HF1.out)
  generalize bstr (enc tag body) = X at hc1 hc2 hc3
  have HK5 := hide (kept_any w5 ga _ body HFU5.out (src_keep HV'.out HB5.out) (by have := HNB.out; omega))
  rw [HNB.out] at HK5
  go_wp2_with fail
  refine HK5.out.mono ?_
  rintro e w' ⟨rfl, q5, rfl⟩
  clear hc1 hc2 hc3 HK5
  -- Own of arg, a, b
  have HB6 := hide (below_drewN HB5.out q5)
  have z6 := HB6.out.size
  have HA6 := hide (show Own (w5.drewN q5) w.heap.size (.slice (some ⟨ga, 0, none⟩) n (n + 80)) body from HA5.out)
  have HX6 := hide (show Own (w5.drewN q5) w.heap.size (.slice (some ⟨g4, 0, none⟩) N N) (enc tag body) from HX5.out)
  have HY6 := hide (show Own (w5.drewN q5) w.heap.size (.slice (some ⟨g5, 0, none⟩) N N) (enc tag body) from HY5.out)
  have z56 : (w5.drewN q5).heap.size = w5.heap.size := rfl
  rw [← z56] at hl5
  clear HFU5 HW5 HA5 HX5 HY5 z56
  generalize w5.drewN q5 = w6 at HB6 z6 HA6 HX6 HY6 hl5 ⊢
  have hb7 := (Below.refl w6.heap.size w6).alloc (Nat.le_refl _) (.cells #[.slice (some ⟨ga, 0, none⟩) n (n + 80), .slice (some ⟨g4, 0, none⟩) N N, .slice (some ⟨g5, 0, none⟩) N N] 25)
  have HB7 := hide (HB6.out.trans (hb7.mono z6))
  have hF7 := fam3 (own_keep HA6.out hb7) (own_keep HX6.out hb7) (own_keep HY6.out hb7) HV.out.1 HF1.out HF1.out (by omega) (by omega)
  have HF7 := hide hF7
  have HO7 := hide (own_any _ w.heap.size w6.heap.size 3 3 [(.slice (some ⟨ga, 0, none⟩) n (n + 80), body), (.slice (some ⟨g4, 0, none⟩) N N, enc tag body), (.slice (some ⟨g5, 0, none⟩) N N, enc tag body)] rfl (by omega) (by omega) (by omega) (by omega)
    (heads3 (heap_new (w := w6) rfl _)) hF7 HB7.out.size (rows3 (P := fun r => r.2.length ≤ 140737488355000) (by have := HNB.out; simp only; omega) (by have := HE1.out; simp only; omega) (by have := HE1.out; simp only; omega)))
  clear hb7 hF7
  go_wp2_with fail
  refine HO7.out.mono ?_
  rintro e w8 ⟨rfl, hrows, hfoot⟩
  have hb8 := foot_below hfoot HF7.out HB7.out.size
  have HB8 := hide (HB7.out.trans hb8)
  have z8 := HB8.out.size
  have HA8 := hide (show Own w8 w.heap.size (.slice (some ⟨ga, 0, none⟩) n (n + 80)) m0 by
    have h := hrows 0 _ rfl
    simp only [HNB.out, HM0.out] at h
    exact h)
  clear hrows hfoot hb8 HO7 HF7 HA6 HX6 HY6 hl5 hl4 hga3 hg4 hg5
  -- Encode of the marks
  go_wp2_with fail
  refine (encode_pos w8 (zip_below HZ.out HB8.out (by omega)) (by omega) tag HT.out H0.out _ m0 (own_src HA8.out HBM.out) (by have := HLN.out; omega)).mono ?_
  rintro e w9 ⟨g9, rfl, hg9, hh9, hb9⟩
  rw [HE2.out]
  have HB9 := hide (HB8.out.trans (hb9.mono z8))
  have z9 := HB9.out.size
  have HA9 := hide (own_keep HA8.out hb9)
  have HX9 := hide (show Src w9 (.slice (some ⟨g9, 0, none⟩) N N) (enc tag m0) by
    have h := src_block hh9 HF2.out (by rw [HE2.out]; omega)
    rwa [HE2.out] at h)
  clear hh9 hb9 hg9 HA8
  go_wp2_with fail
  refine (ref_encode_pos w9 tag HT.out H0.out _ m0 (own_src HA9.out HBM.out) (by have := HLN.out; omega)).mono ?_
  rintro e w10 ⟨gr, cr, rfl, hwr, hb10⟩
  rw [HE2.out] at hwr ⊢
  have HB10 := hide (HB9.out.trans (hb10.mono z9))
  have z10 := HB10.out.size
  have HA10 := hide (own_keep HA9.out hb10)
  have HX10 := hide (src_keep HX9.out hb10)
  have HR10 := hide (show Own w10 w9.heap.size (.slice (some ⟨gr, 0, none⟩) N cr) (enc tag m0) by unfold Own; rw [HE2.out]; exact hwr)
  clear hwr hb10 HA9 HX9
  have hc1 := src_string HX10.out
  have hc2 := src_string (own_src HR10.out HF2.out)
  generalize bstr (enc tag m0) = X at hc1 hc2
  have hbA := (Below.refl w10.heap.size w10).alloc (Nat.le_refl _) (.cells #[] 5)
  have HBZ10 := hide hbA
  have HOA := hide (own_lit w10 w10.heap.size [] (Nat.le_refl _) (by simp) #[] rfl)
  have HNW := hide (own_news (own_keep HA10.out hbA))
  clear hbA
  go_wp2_with (refine append_guarded (w10.alloc (.cells #[] 5)) w10.heap.size (by simp [Region.wanted, yielded]) (.tmp 110) (.tmp 111) rfl _ [] rfl HOA.out ⟨ga, 0, none⟩ n (n + 80) rfl m0 HLN.out HNW.out (by have := HLN.out; simp; omega) HBZ10.out.size ?_)
  intro v11 w11 ho11 hb11
  try rw [List.nil_append] at ho11
  have HO11 := hide ho11
  have hb12 := HBZ10.out.trans hb11
  have HB12 := hide (HB10.out.trans (hb12.mono z10))
  have z12 := HB12.out.size
  have HA12 := hide (own_keep HA10.out hb12)
  have HR12 := hide (own_keep HR10.out hb12)
  have HSM := hide (sums_any w11 (zip_below HZ.out HB12.out (by omega)) (seal_below HSL.out HB12.out (by omega)) _ _ m0 (own_src HA12.out HBM.out) (own_src HO11.out HBM.out) (by have := HLN.out; omega))
  clear ho11 hb11 hb12 HBZ10 HOA HNW HA10 HR10 HX10
  go_wp2_with fail
  refine HSM.out.mono ?_
  rintro e w' ⟨rfl, rfl⟩
  clear hc1 hc2 HSM
  -- bytes, in
  have HBA := hide ((Below.refl w11.heap.size w11).alloc (Nat.le_refl _) (.cells #[] 5))
  have HOA := hide (own_lit w11 w11.heap.size [] (Nat.le_refl _) (by simp) #[] rfl)
  go_wp2_with (refine append_src w11 (w11.alloc (.cells #[] 5)) w11.heap.size _ _ [] (enc tag m0) rfl (.tmp 116) (.tmp 117) rfl rfl rfl HOA.out (src_keep (own_src HR12.out HF2.out) HBA.out) (by have := HE2.out; simp; omega) HBA.out.size HBA.out ?_)
  intro v13 w13 ho13 hb13
  try rw [List.nil_append] at ho13
  have HB13 := hide (HB12.out.trans (hb13.mono z12))
  have z13 := HB13.out.size
  obtain ⟨gb, cb, rfl⟩ := own_form ho13 (by rw [HE2.out]; omega)
  rw [HE2.out] at ho13 ⊢
  have HA13 := hide (own_keep HA12.out hb13)
  have HY13 := hide (own_src ho13 HF2.out)
  clear ho13 hb13 HA12 HR12 HO11 HBA HOA
  go_wp2_with fail
  refine (spare_any w13 _ (enc tag m0) HY13.out (by rw [HE2.out]; omega)).mono ?_
  rintro e w14 ⟨gi, rfl, hgi, hh14, hb14⟩
  rw [HE2.out]
  have HB14 := hide (HB13.out.trans (hb14.mono z13))
  have z14 := HB14.out.size
  have HH14 := hide hh14
  have HA14 := hide (own_keep HA13.out hb14)
  have HY14 := hide (src_keep HY13.out hb14)
  have HI14 := hide (show Own w14 w.heap.size (.slice (some ⟨gi, 0, none⟩) N (N + 80)) (enc tag m0) by
    have h := own_front (B := w.heap.size) hh14 (by omega) (N + 80) (by rw [room_len, HE2.out]) (by rw [room_len, HE2.out]; omega)
    rw [HE2.out] at h
    exact h)
  have hgi14 := heap_lt hh14
  clear hh14 hb14 HA13 HY13
  have HE14 := hide (HE.out.below HB14.out (Nat.le_refl _) (dErrs_lt hg))
  go_wp2_with fail
  refine (decode_any w14 (zip_below HZ.out HB14.out (by omega)) E (HE14.out.cell 0 (by decide)) (HE14.out.cell 1 (by decide)) (HE14.out.cell 2 (by decide)) (HE14.out.cell 6 (by decide)) (by omega) _ _ (own_src HI14.out HF2.out) (by rw [HE2.out]; omega)).mono ?_
  rintro e w15 ⟨hout, hb15⟩
  rw [DecOut, HD2.out] at hout
  obtain ⟨gx, rfl, hgx, hh15⟩ := hout
  rw [HS2.out] at hh15
  rw [HT2.out, show u + n - u = n by omega, show u + n + 4 = N from HNN.out.symm]
  have HB15 := hide (HB14.out.trans (hb15.mono z14))
  have z15 := HB15.out.size
  have z145 := hb15.size
  have hxl := heap_lt hh15
  have HA15 := hide (own_keep HA14.out hb15)
  have HY15 := hide (src_keep HY14.out hb15)
  have HI15 := hide (own_keep HI14.out hb15)
  have HH15 := hide ((hb15.block _ hgi14).trans HH14.out)
  have HX15 := hide (show Own w15 w.heap.size (.slice (some ⟨gx, 0, none⟩) n n) m0 by
    have h := own_block (B := w.heap.size) hh15 (by omega) (by rw [HLN.out]; omega)
    rwa [HLN.out] at h)
  clear hb15 hh15 HA14 HY14 HI14 HH14 HE14
  -- x lies in its cell
  have hq16 := (Below.refl w15.heap.size w15).alloc (Nat.le_refl _) (.cells #[.int .u8 tag, .slice (some ⟨gx, 0, none⟩) n n] 47)
  have HB16 := hide (HB15.out.trans (hq16.mono z15))
  have z16 := HB16.out.size
  have HA16 := hide (own_keep HA15.out hq16)
  have HY16 := hide (src_keep HY15.out hq16)
  have HI16 := hide (own_keep HI15.out hq16)
  have HX16 := hide (own_keep HX15.out hq16)
  have HH16 := hide ((hq16.block _ (by omega)).trans HH15.out)
  have HC16 := hide (heap_new (w := w15) rfl (.cells #[.int .u8 tag, .slice (some ⟨gx, 0, none⟩) n n] 47))
  have HE16 := hide (HE.out.below HB16.out (Nat.le_refl _) (dErrs_lt hg))
  clear hq16 HA15 HY15 HI15 HX15 HH15
  go_wp2_with fail
  refine (decode_any _ (zip_below HZ.out HB16.out (by omega)) E (HE16.out.cell 0 (by decide)) (HE16.out.cell 1 (by decide)) (HE16.out.cell 2 (by decide)) (HE16.out.cell 6 (by decide)) (by omega) _ _ (own_src HI16.out HF2.out) (by rw [HE2.out]; omega)).mono ?_
  rintro e w17 ⟨hout, hb17⟩
  rw [DecOut, HD2.out] at hout
  obtain ⟨gy, rfl, hgy, hh17⟩ := hout
  rw [HS2.out] at hh17
  rw [HT2.out, show u + n - u = n by omega, show u + n + 4 = N from HNN.out.symm]
  have HB17 := hide (HB16.out.trans (hb17.mono z16))
  have z17 := HB17.out.size
  have z167 := hb17.size
  rw [World.size_alloc] at hgy z167
  have hyl := heap_lt hh17
  have HA17 := hide (own_keep HA16.out hb17)
  have HY17 := hide (src_keep HY16.out hb17)
  have HI17 := hide (own_keep HI16.out hb17)
  have HX17 := hide (own_keep HX16.out hb17)
  have HH17 := hide ((hb17.block _ (by rw [World.size_alloc]; omega)).trans HH16.out)
  have HC17 := hide ((hb17.block _ (by rw [World.size_alloc]; omega)).trans HC16.out)
  have HD17 := hide (show Own w17 w.heap.size (.slice (some ⟨gy, 0, none⟩) n n) m0 by
    have h := own_block (B := w.heap.size) hh17 (by omega) (by rw [HLN.out]; omega)
    rwa [HLN.out] at h)
  clear hb17 hh17 HA16 HY16 HI16 HX16 HH16 HC16 HE16
  have hq18 := (Below.refl w17.heap.size w17).alloc (Nat.le_refl _) (.cells #[.int .u8 tag, .slice (some ⟨gy, 0, none⟩) n n] 47)
  obtain ⟨w18, hw18⟩ : ∃ w18, w17.alloc (.cells #[.int .u8 tag, .slice (some ⟨gy, 0, none⟩) n n] 47) = w18 := ⟨_, rfl⟩
  have z178 : w17.heap.size + 1 ≤ w18.heap.size := by rw [← hw18, World.size_alloc]; omega
  rw [hw18] at hq18
  have HB18 := hide (HB17.out.trans (hq18.mono z17))
  have z18 := HB18.out.size
  have HA18 := hide (own_keep HA17.out hq18)
  have HY18 := hide (src_keep HY17.out hq18)
  have HI18 := hide (own_keep HI17.out hq18)
  have HX18 := hide (own_keep HX17.out hq18)
  have HD18 := hide (own_keep HD17.out hq18)
  have HH18 := hide ((hq18.block _ (by omega)).trans HH17.out)
  obtain ⟨cx0, cx1⟩ := cells2 ((hq18.block _ (by omega)).trans HC17.out)
  obtain ⟨cy0, cy1⟩ := cells2 (hw18 ▸ heap_new (w := w17) rfl (.cells #[.int .u8 tag, .slice (some ⟨gy, 0, none⟩) n n] 47))
  clear hq18 HA17 HY17 HI17 HX17 HD17 HH17
  have hc1 := src_string (own_src HX18.out HBM.out)
  have hc2 := src_string (own_src HD18.out HBM.out)
  have hc3 := src_string (own_src HA18.out HBM.out)
  generalize bstr m0 = X at hc1 hc2 hc3
  have HK18 := hide (kept_any w18 gi _ (enc tag m0) HH18.out HY18.out (by rw [HE2.out]; omega))
  rw [HE2.out] at HK18

  go_wp2_with (rw [hw18])
  refine HK18.out.mono ?_
  rintro e w' ⟨rfl, q18, rfl⟩
  clear hc1 hc2 hc3 HK18 HH18 HY18 HA18 hw18
  have HB19 := hide (below_drewN HB18.out q18)
  have z19 := HB19.out.size
  have HI19 := hide (show Own (w18.drewN q18) w.heap.size (.slice (some ⟨gi, 0, none⟩) N (N + 80)) (enc tag m0) from HI18.out)
  have HX19 := hide (show Own (w18.drewN q18) w.heap.size (.slice (some ⟨gx, 0, none⟩) n n) m0 from HX18.out)
  have HD19 := hide (show Own (w18.drewN q18) w.heap.size (.slice (some ⟨gy, 0, none⟩) n n) m0 from HD18.out)
  have dx1 : (w18.drewN q18).cell? ⟨w15.heap.size, 1, none⟩ = some (.slice (some ⟨gx, 0, none⟩) n n) := cx1
  have dy1 : (w18.drewN q18).cell? ⟨w17.heap.size, 1, none⟩ = some (.slice (some ⟨gy, 0, none⟩) n n) := cy1
  have z189 : w17.heap.size + 1 ≤ (w18.drewN q18).heap.size := z178
  clear HI18 HX18 HD18 cx0 cx1 cy0 cy1
  generalize w18.drewN q18 = w19 at HB19 z19 HI19 HX19 HD19 dx1 dy1 z189 ⊢
  have HDX := hide dx1
  have HDY := hide dy1
  clear dx1 dy1
  obtain ⟨i0, hi0, hz0, hz1, hz2⟩ := info_parts info5
  -- the reference's Encode of zeros
  go_wp2_with (first | (at_make; refine wpList_make_row w19 rfl _ _ 25 rfl 5 i0 (.int .u8 0) Tryd.underlying25 hi0 hz0 hz1 rfl _ _ n rfl rfl (by rw [hz2]; omega) (by omega) ?_))
  have hzr : (Obj.cells (madeCells #[Value.int .u8 0] n) 5) = Obj.cells (u8s zs).toArray 5 (0, 0) := by rw [← HZS.out, made_zeros]
  rw [hzr]
  have hq20 := (Below.refl w19.heap.size w19).alloc (Nat.le_refl _) (.cells (u8s zs).toArray 5)
  have HB20 := hide (HB19.out.trans (hq20.mono z19))
  have z20 := HB20.out.size
  have z190 : w19.heap.size + 1 ≤ (w19.alloc (.cells (u8s zs).toArray 5)).heap.size := by rw [World.size_alloc]; omega
  have HZ20 := hide (show Src (w19.alloc (.cells (u8s zs).toArray 5)) (.slice (some ⟨w19.heap.size, 0, none⟩) n n) zs by
    have h := src_block (heap_new (w := w19) rfl (.cells (u8s zs).toArray 5)) HBZ.out (by rw [HLZ.out]; omega)
    rwa [HLZ.out] at h)
  have HI20 := hide (own_keep HI19.out hq20)
  have HX20 := hide (own_keep HX19.out hq20)
  have HD20 := hide (own_keep HD19.out hq20)
  have HDX20 := hide ((hq20.cell (p := ⟨w15.heap.size, 1, none⟩) (by simp only; omega)).trans HDX.out)
  have HDY20 := hide ((hq20.cell (p := ⟨w17.heap.size, 1, none⟩) (by simp only; omega)).trans HDY.out)
  clear hq20 HI19 HX19 HD19 HDX HDY hzr
  generalize w19.alloc (.cells (u8s zs).toArray 5) = w20 at HB20 z20 z190 HZ20 HI20 HX20 HD20 HDX20 HDY20 ⊢
  go_wp2_with fail
  refine (ref_encode_pos w20 tag HT.out H0.out _ zs HZ20.out (by rw [HLZ.out]; omega)).mono ?_
  rintro e w21 ⟨go, co, rfl, hwo, hb21⟩
  rw [HE3.out] at hwo ⊢
  have HB21 := hide (HB20.out.trans (hb21.mono z20))
  have z21 := HB21.out.size
  have z201 := hb21.size
  have HO21 := hide (show Own w21 w20.heap.size (.slice (some ⟨go, 0, none⟩) N co) (enc tag zs) by unfold Own; rw [HE3.out]; exact hwo)
  have HI21 := hide (own_keep HI20.out hb21)
  have HX21 := hide (own_keep HX20.out hb21)
  have HD21 := hide (own_keep HD20.out hb21)
  have dx1 := (hb21.cell (p := ⟨w15.heap.size, 1, none⟩) (by simp only; omega)).trans HDX20.out
  have dy1 := (hb21.cell (p := ⟨w17.heap.size, 1, none⟩) (by simp only; omega)).trans HDY20.out
  clear hwo hb21 HI20 HX20 HD20 HDX20 HDY20 HZ20
  have hb22 := (Below.refl w21.heap.size w21).alloc (Nat.le_refl _) (.cells #[.slice (some ⟨gi, 0, none⟩) N (N + 80), .slice (some ⟨gx, 0, none⟩) n n, .slice (some ⟨gy, 0, none⟩) n n] 25)
  have HB22 := hide (HB21.out.trans (hb22.mono z21))
  have hF22 := fam3 (own_keep HI21.out hb22) (own_keep HX21.out hb22) (own_keep HD21.out hb22) HF2.out HBM.out HBM.out (by omega) (by omega)
  have HF22 := hide hF22
  have HOA22 := hide (own_keep HO21.out hb22)
  have HOW := hide (own_any _ w.heap.size w21.heap.size 3 3 [(.slice (some ⟨gi, 0, none⟩) N (N + 80), enc tag m0), (.slice (some ⟨gx, 0, none⟩) n n, m0), (.slice (some ⟨gy, 0, none⟩) n n, m0)] rfl (by omega) (by omega) (by omega) (by omega)
    (heads3 (heap_new (w := w21) rfl _)) hF22 HB22.out.size (rows3 (P := fun r => r.2.length ≤ 140737488355000) (by have := HE2.out; simp only; omega) (by have := HLN.out; simp only; omega) (by have := HLN.out; simp only; omega)))
  clear hb22 hF22
  go_wp2_with fail
  refine HOW.out.mono ?_
  rintro e w23 ⟨rfl, hrows, hfoot⟩
  have hb23 := foot_below hfoot HF22.out HB22.out.size
  have HB23 := hide (HB22.out.trans hb23)
  have z23 := HB23.out.size
  have HI23 := hide (show Own w23 w.heap.size (.slice (some ⟨gi, 0, none⟩) N (N + 80)) (mrow 0 N) by
    have h := hrows 0 _ rfl
    simp only [HE2.out] at h
    exact h)
  have hS : ∀ g, InRows [(Value.slice (some ⟨gi, 0, none⟩) N (N + 80), enc tag m0), (.slice (some ⟨gx, 0, none⟩) n n, m0), (.slice (some ⟨gy, 0, none⟩) n n, m0)] g → g = gi ∨ g = gx ∨ g = gy := by
    rintro g ⟨k, r, hr, hg⟩
    match k, hr with
    | 0, hr => simp at hr; subst hr; simp [Value.ownBlock] at hg; omega
    | 1, hr => simp at hr; subst hr; simp [Value.ownBlock] at hg; omega
    | 2, hr => simp at hr; subst hr; simp [Value.ownBlock] at hg; omega
  have hgo := (World.ownsRow.lt HO21.out go rfl).1
  have hgl := (World.ownsRow.lt HOA22.out go rfl).2
  have HO23 := hide (own_by (w' := w23) HOA22.out (fun g hg => by
    obtain rfl : go = g := by simpa [Value.ownBlock] using hg
    exact hfoot.block go hgl (fun h => by have := hS go h; omega)))
  clear hrows hfoot hb23 hS HOW HF22 HOA22 HO21 HI21 HX21 HD21 dx1 dy1
  have hcs : (u8s (enc tag zs)).length = Nat.min N N := by rw [u8s_len, HE3.out]; exact (Nat.min_self N).symm
  obtain ⟨cur, hcur, hcl⟩ := own_array HI23.out
  have HCU := hide hcur
  have HCL := hide hcl
  have HCS := hide hcs
  have HFIT := hide (show 0 + (u8s (enc tag zs)).length ≤ cur.length by rw [u8s_len, HE3.out, hcl]; omega)
  have hgib := (World.ownsRow.lt HI23.out gi rfl).1
  clear hcs hcur hcl
  go_wp2_with (refine wpList_copy_splice rfl (.tmp 198) (.tmp 199) 25 25 rfl 5 Tryd.underlying25 size5 (some ⟨gi, 0, none⟩) (some ⟨go, 0, none⟩) N (N + 80) N co rfl rfl gi 0 cur 5 HCU.out (u8s (enc tag zs)) HCS.out (fun _ => ⟨rfl, ⟨go, 0, none⟩, rfl, own_news HO23.out⟩) HFIT.out (u8s_one _) w.heap.size w HB23.out hgib ?_)
  intro w24 HG24 hb24
  have HB24 := hide hb24
  have z24 := hb24.size
  have HI24 := hide (src_front (cap := N + 80) HG24.out HF3.out HE3.out (by omega) (by omega))
  clear hb24 HG24 HCU HO23 HI23
  have HE24 := hide (HE.out.below HB24.out (Nat.le_refl _) (dErrs_lt hg))
  go_wp2_with fail
  refine (decode_any w24 (zip_below HZ.out HB24.out (by omega)) E (HE24.out.cell 0 (by decide)) (HE24.out.cell 1 (by decide)) (HE24.out.cell 2 (by decide)) (HE24.out.cell 6 (by decide)) (by omega) _ _ HI24.out (by rw [HE3.out]; omega)).mono ?_
  rintro e w25 ⟨hout, hb25⟩
  rw [DecOut, HD3.out] at hout
  obtain ⟨gz, rfl, hgz, hh25⟩ := hout
  rw [HS3.out] at hh25
  rw [HT3.out, show u + n - u = n by omega, show u + n + 4 = N from HNN.out.symm]
  have HB25 := hide (HB24.out.trans (hb25.mono z24))
  have z25 := HB25.out.size
  have HX25 := hide (show Src w25 (.slice (some ⟨gz, 0, none⟩) n n) zs by
    have h := src_block hh25 HBZ.out (by rw [HLZ.out]; omega)
    rwa [HLZ.out] at h)
  clear hb25 hh25 HE24 HI24
  go_wp2_with fail
  have hq26 := (Below.refl w25.heap.size w25).alloc (Nat.le_refl _) (.cells #[.int .u8 tag, .slice (some ⟨gz, 0, none⟩) n n] 47)
  have HB26 := hide (HB25.out.trans (hq26.mono z25))
  have HX26 := hide (src_keep HX25.out hq26)
  obtain ⟨cz0, cz1⟩ := cells2 (heap_new (w := w25) rfl (.cells #[.int .u8 tag, .slice (some ⟨gz, 0, none⟩) n n] 47))
  generalize w25.alloc (.cells #[.int .u8 tag, .slice (some ⟨gz, 0, none⟩) n n] 47) = w26 at HB26 HX26 cz0 cz1 ⊢
  have z26 := HB26.out.size
  have hk1 : ∀ w' : World, Below w26.heap.size w26 w' → (convert 25 9 (.slice (some ⟨gz, 0, none⟩) n n)).run Tryd.prog w' = .ok (.string (bstr zs)) w' := fun w' h => src_string (src_keep HX26.out h)
  have HK1 := hide hk1
  clear hk1
  have hx26 := World.block_lt_of_cell? w26 _ cz1
  have r26 := (Below.refl w26.heap.size w26).drew
  have ka := HK1.out _ r26
  have S0 := And.intro (show w26.drew.cell? ⟨w25.heap.size, 1, none⟩ = some (.slice (some ⟨gz, 0, none⟩) n n) from cz1) ka
  clear ka
  refine wp_region_held_drew (S := fun w' => w'.cell? ⟨w25.heap.size, 1, none⟩ = some (.slice (some ⟨gz, 0, none⟩) n n) ∧ (convert 25 9 (.slice (some ⟨gz, 0, none⟩) n n)).run Tryd.prog w' = .ok (.string (bstr zs)) w') (by kernel_rfl) S0 (fun hHeld => ?_)
  clear S0
  refine' wpAnyH_take (i := 0) (oi := { dst := some 207, op := Op.move (Operand.tmp 10), type := 28, pos := "memory.go:56", after := #[], guard := none }) (v := ?v0) rfl (by kernel_rfl) (by kernel_rfl) (by kernel_rfl) (fun _ _ _ h => h) (Or.inl ⟨by rfl, ?y0⟩) (by assumption) ?r0
  case y0 => (intro w hSw; (try dsimp only at hSw); go_simp; try with_reducible rfl)
  try simp only [Act.put, List.setIfInBounds_toArray, List.set_cons_zero, List.set_cons_succ]
  refine' wpAnyH_take (i := 1) (oi := { dst := some 208, op := Op.binOp BinOp.eql 28 (Operand.tmp 207) (Operand.const Value.nilIface) 28, type := 4, pos := "memory.go:56", after := #[{ on := 0, ground := Ground.data }], guard := none }) (v := ?v1) rfl (by kernel_rfl) (by kernel_rfl) (by kernel_rfl) (fun _ _ _ h => h) (Or.inl ⟨by rfl, ?y1⟩) (by assumption) ?r1
  case y1 => (intro w hSw; (try dsimp only at hSw); go_simp; try with_reducible rfl)
  try simp only [Act.put, List.setIfInBounds_toArray, List.set_cons_zero, List.set_cons_succ]
  refine' wpAnyH_take (i := 2) (oi := { dst := some 209, op := Op.move (Operand.tmp 208), type := 4, pos := "memory.go:56", after := #[{ on := 1, ground := Ground.data }], guard := none }) (v := ?v2) rfl (by kernel_rfl) (by kernel_rfl) (by kernel_rfl) (fun _ _ _ h => h) (Or.inl ⟨by rfl, ?y2⟩) (by assumption) ?r2
  case y2 => (intro w hSw; (try dsimp only at hSw); go_simp; try with_reducible rfl)
  try simp only [Act.put, List.setIfInBounds_toArray, List.set_cons_zero, List.set_cons_succ]
  refine' wpAnyH_take (i := 3) (oi := { dst := some 210, op := Op.move (Operand.tmp 18), type := 3, pos := "memory.go:56", after := #[{ on := 2, ground := Ground.guard }], guard := some (2, true) }) (v := ?v3) rfl (by kernel_rfl) (by kernel_rfl) (by kernel_rfl) (fun _ _ _ h => h) (Or.inl ⟨by rfl, ?y3⟩) (by assumption) ?r3
  case y3 => (intro w hSw; (try dsimp only at hSw); go_simp; try with_reducible rfl)
  try simp only [Act.put, List.setIfInBounds_toArray, List.set_cons_zero, List.set_cons_succ]
  refine' wpAnyH_take (i := 4) (oi := { dst := some 211, op := Op.move (Operand.tmp 15), type := 25, pos := "memory.go:56", after := #[{ on := 2, ground := Ground.guard }], guard := some (2, true) }) (v := ?v4) rfl (by kernel_rfl) (by kernel_rfl) (by kernel_rfl) (fun _ _ _ h => h) (Or.inl ⟨by rfl, ?y4⟩) (by assumption) ?r4
  case y4 => (intro w hSw; (try dsimp only at hSw); go_simp; try with_reducible rfl)
  try simp only [Act.put, List.setIfInBounds_toArray, List.set_cons_zero, List.set_cons_succ]
  refine' wpAnyH_take (i := 5) (oi := { dst := some 212, op := Op.call { callee := Callee.builtin Builtin.len, args := #[Operand.tmp 211], argTypes := #[25] }, type := 3, pos := "memory.go:56", after := #[{ on := 4, ground := Ground.data }, { on := 2, ground := Ground.guard }], guard := some (2, true) }) (v := ?v5) rfl (by kernel_rfl) (by kernel_rfl) (by kernel_rfl) (fun _ _ _ h => h) (Or.inl ⟨by rfl, ?y5⟩) (by assumption) ?r5
  case y5 => (intro w hSw; (try dsimp only at hSw); go_simp; try with_reducible rfl)
  try simp only [Act.put, List.setIfInBounds_toArray, List.set_cons_zero, List.set_cons_succ]
  refine' wpAnyH_take (i := 6) (oi := { dst := some 213, op := Op.binOp BinOp.eql 3 (Operand.tmp 210) (Operand.tmp 212) 3, type := 4, pos := "memory.go:56", after := #[{ on := 3, ground := Ground.data }, { on := 5, ground := Ground.data }, { on := 2, ground := Ground.guard }], guard := some (2, true) }) (v := ?v6) rfl (by kernel_rfl) (by kernel_rfl) (by kernel_rfl) (fun _ _ _ h => h) (Or.inl ⟨by rfl, ?y6⟩) (by assumption) ?r6
  case y6 => (intro w hSw; (try dsimp only at hSw); go_simp; try with_reducible rfl)
  try simp only [Act.put, List.setIfInBounds_toArray, List.set_cons_zero, List.set_cons_succ]
  refine' wpAnyH_take (i := 7) (oi := { dst := some 214, op := Op.pick (Operand.tmp 209) (Operand.tmp 213) (Operand.const (Value.bool false)), type := 4, pos := "memory.go:56", after := #[{ on := 2, ground := Ground.data }, { on := 6, ground := Ground.data }], guard := none }) (v := ?v7) rfl (by kernel_rfl) (by kernel_rfl) (by kernel_rfl) (fun _ _ _ h => h) (Or.inl ⟨by rfl, ?y7⟩) (by assumption) ?r7
  case y7 => (intro w hSw; (try dsimp only at hSw); go_simp; try with_reducible rfl)
  try simp only [Act.put, List.setIfInBounds_toArray, List.set_cons_zero, List.set_cons_succ]
  refine' wpAnyH_take (i := 8) (oi := { dst := some 215, op := Op.move (Operand.tmp 214), type := 4, pos := "memory.go:56", after := #[{ on := 7, ground := Ground.data }, { on := 2, ground := Ground.chain }], guard := none }) (v := ?v8) rfl (by kernel_rfl) (by kernel_rfl) (by kernel_rfl) (fun _ _ _ h => h) (Or.inl ⟨by rfl, ?y8⟩) (by assumption) ?r8
  case y8 => (intro w hSw; (try dsimp only at hSw); go_simp; try with_reducible rfl)
  try simp only [Act.put, List.setIfInBounds_toArray, List.set_cons_zero, List.set_cons_succ]
  refine' wpAnyH_take (i := 9) (oi := { dst := some 216, op := Op.fieldAddr 47 (Operand.tmp 23) 1, type := 0, pos := "memory.go:56", after := #[{ on := 8, ground := Ground.guard }], guard := some (8, true) }) (v := ?v9) rfl (by kernel_rfl) (by kernel_rfl) (by kernel_rfl) (fun _ _ _ h => h) (Or.inl ⟨by rfl, ?y9⟩) (by assumption) ?r9
  case y9 => (intro w hSw; (try dsimp only at hSw); go_simp; try with_reducible rfl)
  try simp only [Act.put, List.setIfInBounds_toArray, List.set_cons_zero, List.set_cons_succ]
  refine' wpAnyH_take (i := 10) (oi := { dst := some 217, op := Op.load 25 (Operand.tmp 216), type := 25, pos := "memory.go:56", after := #[{ on := 9, ground := Ground.data }, { on := 8, ground := Ground.guard }], guard := some (8, true) }) (v := ?v10) rfl (by kernel_rfl) (by kernel_rfl) (by kernel_rfl) (fun _ _ _ h => h) (Or.inl ⟨by rfl, ?y10⟩) (by assumption) ?r10
  case y10 => (intro w hSw; (try dsimp only at hSw); go_simp; try with_reducible rfl)
  try simp only [Act.put, List.setIfInBounds_toArray, List.set_cons_zero, List.set_cons_succ]
  refine' wpAnyH_take (i := 11) (oi := { dst := some 218, op := Op.convert 25 9 (Operand.tmp 217), type := 9, pos := "memory.go:56", after := #[{ on := 10, ground := Ground.data }, { on := 8, ground := Ground.guard }], guard := some (8, true) }) (v := ?v11) rfl (by kernel_rfl) (by kernel_rfl) (by kernel_rfl) (fun _ _ _ h => h) (Or.inl ⟨by rfl, ?y11⟩) (by assumption) ?r11
  case y11 => (intro w hSw; (try dsimp only at hSw); go_simp; try with_reducible rfl)
  try simp only [Act.put, List.setIfInBounds_toArray, List.set_cons_zero, List.set_cons_succ]
  refine' wpAnyH_take (i := 12) (oi := { dst := some 219, op := Op.move (Operand.tmp 1), type := 25, pos := "memory.go:56", after := #[{ on := 8, ground := Ground.guard }], guard := some (8, true) }) (v := ?v12) rfl (by kernel_rfl) (by kernel_rfl) (by kernel_rfl) (fun _ _ _ h => h) (Or.inl ⟨by rfl, ?y12⟩) (by assumption) ?r12
  case y12 => (intro w hSw; (try dsimp only at hSw); go_simp; try with_reducible rfl)
  try simp only [Act.put, List.setIfInBounds_toArray, List.set_cons_zero, List.set_cons_succ]
  refine' wpAnyH_take (i := 13) (oi := { dst := some 220, op := Op.call { callee := Callee.builtin Builtin.len, args := #[Operand.tmp 219], argTypes := #[25] }, type := 3, pos := "memory.go:56", after := #[{ on := 12, ground := Ground.data }, { on := 8, ground := Ground.guard }], guard := some (8, true) }) (v := ?v13) rfl (by kernel_rfl) (by kernel_rfl) (by kernel_rfl) (fun _ _ _ h => h) (Or.inl ⟨by rfl, ?y13⟩) (by assumption) ?r13
  case y13 => (intro w hSw; (try dsimp only at hSw); go_simp; try with_reducible rfl)
  try simp only [Act.put, List.setIfInBounds_toArray, List.set_cons_zero, List.set_cons_succ]
  refine wpAnyH_ready (rs := [14]) (by kernel_rfl) (by simp) ?_
  refine AllReadyH.cons (o := { dst := some 221, op := Op.makeSlice 25 (Operand.tmp 220) (Operand.tmp 220), type := 25, pos := "memory.go:56", after := #[{ on := 13, ground := Ground.data }, { on := 13, ground := Ground.data }, { on := 8, ground := Ground.guard }], guard := some (8, true) }) rfl (fun K hK => ?_) AllReadyH.nil
  refine step_make _ (by rfl) (.tmp 220) (.tmp 220) rfl n rfl rfl (by omega) ?_
  intro g5 w5 hs5 hb5
  rw [HZS.out] at hs5
  have k5 := src_string hs5
  have hb56 : Below w26.heap.size w26 w5 := (Below.refl w26.heap.size w26).drew.trans hb5
  refine hK.out _ _ ⟨(hb56.cell (p := ⟨w25.heap.size, 1, none⟩) hx26).trans cz1, HK1.out _ hb56⟩ (fun hHeld2 => ?_)
  have HB5 := hide hb56
  clear hK K hHeld hs5 hb5 hb56
  try simp only [Act.put, List.setIfInBounds_toArray, List.set_cons_zero, List.set_cons_succ]
  refine wpAnyH_ready (rs := [15]) (by kernel_rfl) (by simp) ?_
  refine AllReadyH.cons (o := { dst := some 222, op := Op.convert 25 9 (Operand.tmp 221), type := 9, pos := "memory.go:56", after := #[{ on := 14, ground := Ground.data }, { on := 8, ground := Ground.guard }], guard := some (8, true) }) rfl (fun K hK => ?_) AllReadyH.nil
  go_simp
  refine hK.out _ _ hHeld2 (fun _ => ?_)
  clear hK K k5
  try simp only [Act.put, List.setIfInBounds_toArray, List.set_cons_zero, List.set_cons_succ]
  refine' wpAnyH_take (i := 16) (oi := { dst := some 223, op := Op.binOp BinOp.eql 9 (Operand.tmp 218) (Operand.tmp 222) 9, type := 4, pos := "memory.go:56", after := #[{ on := 11, ground := Ground.data }, { on := 15, ground := Ground.data }, { on := 8, ground := Ground.guard }], guard := some (8, true) }) (v := ?v16) rfl (by kernel_rfl) (by kernel_rfl) (by kernel_rfl) (fun _ _ _ h => h) (Or.inl ⟨by rfl, ?y16⟩) (by assumption) ?r16
  case y16 => (intro w hSw; (try dsimp only at hSw); go_simp; try with_reducible rfl)
  try simp only [Act.put, List.setIfInBounds_toArray, List.set_cons_zero, List.set_cons_succ]
  refine' wpAnyH_take (i := 17) (oi := { dst := some 224, op := Op.pick (Operand.tmp 215) (Operand.tmp 223) (Operand.const (Value.bool false)), type := 4, pos := "memory.go:56", after := #[{ on := 8, ground := Ground.data }, { on := 16, ground := Ground.data }], guard := none }) (v := ?v17) rfl (by kernel_rfl) (by kernel_rfl) (by kernel_rfl) (fun _ _ _ h => h) (Or.inl ⟨by rfl, ?y17⟩) (by assumption) ?r17
  case y17 => (intro w hSw; (try dsimp only at hSw); go_simp; try with_reducible rfl)
  try simp only [Act.put, List.setIfInBounds_toArray, List.set_cons_zero, List.set_cons_succ]
  refine' wpAnyH_take (i := 18) (oi := { dst := some 4, op := Op.assign (Operand.tmp 224), type := 4, pos := "memory.go:56", after := #[{ on := 17, ground := Ground.data }, { on := 8, ground := Ground.chain }, { on := 0, ground := Ground.phase }, { on := 1, ground := Ground.phase }, { on := 2, ground := Ground.phase }, { on := 3, ground := Ground.phase }, { on := 4, ground := Ground.phase }, { on := 5, ground := Ground.phase }, { on := 6, ground := Ground.phase }, { on := 7, ground := Ground.phase }, { on := 8, ground := Ground.phase }, { on := 9, ground := Ground.phase }, { on := 10, ground := Ground.phase }, { on := 11, ground := Ground.phase }, { on := 12, ground := Ground.phase }, { on := 13, ground := Ground.phase }, { on := 14, ground := Ground.phase }, { on := 15, ground := Ground.phase }, { on := 16, ground := Ground.phase }, { on := 17, ground := Ground.phase }], guard := none }) (v := ?v18) rfl (by kernel_rfl) (by kernel_rfl) (by kernel_rfl) (fun _ _ _ h => h) (Or.inl ⟨by rfl, ?y18⟩) (by assumption) ?r18
  case y18 => (intro w hSw; (try dsimp only at hSw); go_simp; try with_reducible rfl)
  try simp only [Act.put, List.setIfInBounds_toArray, List.set_cons_zero, List.set_cons_succ]
  refine wpAnyH_done (by kernel_rfl) ?_ _
  go_wp2_with fail
  go_ret
  exact ⟨rfl, HB26.out.trans (HB5.out.mono z26)⟩
theorem walk (w : World) (Z : Zip w) (S : SealT w) (E : Nat → Addr) (hE : Errs w E dErrs) (hg : 17 ≤ w.heap.size) (tag : Nat) (ht : tag < 256) (v : Value) (body : List Nat) (hv : Src w v body) (hl : body.length ≤ 140737488351232) :
    Calls Tryd.prog 12 #[.int .u8 tag, v] w fun e w' => e = .returned (.bool true) ∧ Below w.heap.size w w' := by
  by_cases h0 : tag = 0
  · subst h0
    exact walk_zero w Z hg v
  · exact walk_pos w Z S E hE hg tag ht h0 v body hv hl

/-! the frame, by program -/
set_option maxRecDepth 100000 in
theorem contract (H : Type) (enc : TypeId × Value → H) (W : World) (base : Nat) (args : Array Value) (ds gs : List (DataW H)) (before : List MemPlace)
    (hval : ∀ (j : Nat) t v, Tryd.f12.params[j]? = some t → args[j]? = some v → Value.okWide Tryd.prog W .any base t v)
    (hW : DataW.Whole enc Tryd.prog Tryd.f12.params.toList Rows.frameOwnsBlockSpec.vars false W args.toList ds gs before) (hL : laidMetH Tryd.prog Rows.frameOwnsBlockRow.laid W)
    (hsz : (DataW.weightsEach Tryd.prog (Tryd.f12.params.toList ++ []) (ds ++ gs)).all (· ≤ reachBytes) = true) :
    Calls Tryd.prog 12 args W fun e W' => ∃ v, e = .returned v ∧ Rows.frameOwnsBlockSpec.post enc Tryd.prog Tryd.f12 false true false false W args v W' := by
  have hW' := hW
  obtain ⟨p, q, hA0, hV, rfl, hfz, hnd⟩ := hW
  have hA : DataW.TrodAll enc Tryd.prog W 0 (fun _ => true) true Tryd.f12.params.toList args.toList ds p := hA0
  rw [Tryd.params12] at hA hval hsz
  obtain ⟨v0, vs0, d0, ds0, p0, q0, hargs, rfl, rfl, h0, r0⟩ := trodAll_cons hA
  obtain ⟨v1, vs1, d1, ds1, p1, q1, rfl, rfl, rfl, h1, r1⟩ := trodAll_cons r0
  obtain ⟨rfl, rfl, rfl⟩ := trodAll_nil r1
  obtain rfl : args = #[v0, v1] := by cases args; simp_all
  obtain ⟨rfl, rfl⟩ := trodVars_none hV
  obtain ⟨x0, rfl, rfl, rfl, w0⟩ := open_int Tryd.underlying5 (hval 0 5 v0 rfl rfl) h0
  obtain ⟨l0, u0⟩ := bounds_u8 w0
  obtain ⟨n0, rfl⟩ := Int.eq_ofNat_of_zero_le l0
  obtain ⟨b1, s1, g1⟩ := open_bytes (hval 1 25 v1 rfl rfl) h1
  have e1 := bytes_reach hsz (j := 1) rfl rfl g1
  clear hA0
  simp only [List.append_nil] at hW'
  have hl : laidMet Tryd.prog Rows.frameOwnsBlockRow.laid W := hL
  obtain ⟨Z, hg⟩ := zip_of_mem hl (by simp [Rows.frameOwnsBlockRow])
  have hS := seal_of_mem hl (by simp [Rows.frameOwnsBlockRow])
  have hreads : ∀ g ∈ ([0, 1, 2, 6] : List Nat), ErrRead W g := by
    intro g hg
    simp only [List.mem_cons, List.not_mem_nil, or_false] at hg
    rcases hg with rfl | rfl | rfl | rfl
    · exact read0 hl (by simp [Rows.frameOwnsBlockRow])
    · exact read1 hl (by simp [Rows.frameOwnsBlockRow])
    · exact read2 hl (by simp [Rows.frameOwnsBlockRow])
    · exact read6 hl (by simp [Rows.frameOwnsBlockRow])
  obtain ⟨E, hE⟩ := errs_of_reads hreads (by decide +kernel)
  have hg2 := World.block_lt_of_cell? W _ (hE.cell 6 (by decide))
  simp only at hg2
  refine (walk W Z hS E hE (by omega) n0 (by omega) _ b1 s1 (by omega)).mono fun e W' ⟨he, hb⟩ => ?_
  subst he
  exact ⟨_, rfl, law_post hW' rfl rfl rfl (by kernel_rfl) hb⟩

noncomputable def laidWorld (os : Os) : World := World.doorLaid Tryd.prog 475 os
noncomputable def wargs : Array Value := #[.int .u8 0, .slice none 0 0]
theorem laid_met (os : Os) : laidMetH Tryd.prog Rows.frameOwnsBlockRow.laid ((laidWorld os).forCall (fun _ _ => 0) ⟨#[], wargs, []⟩).memory :=
  laidMetH_of_parts3 (fuel := 8) (laidMet_of_run' 8 (by kernel_rfl) (by kernel_rfl)) (by kernel_rfl) (by kernel_rfl)
theorem reads (os : Os) {H : Type} (enc : TypeId × Value → H) : ∃ places, DataW.whole enc Tryd.prog ((laidWorld os).forCall (fun _ _ => 0) ⟨#[], wargs, []⟩).memory Tryd.f12.params.toList Rows.frameOwnsBlockSpec.vars false wargs.toList 8 = some ([.lit (.int .u8 0), .nil], [], places) :=
  ⟨[], by kernel_rfl⟩

set_option maxRecDepth 100000 in
theorem lifted (os : Os) (started : os.Started) (H : Type) (enc : TypeId × Value → H) (F : Stop.Interp) :
    ReturnsInHanded {} Tryd.checked os 12 .any ((OpenSpec.ofChange Rows.frameOwnsBlockSpec).preRow enc Tryd.prog Tryd.f12 Rows.frameOwnsBlockRow.domain false Rows.frameOwnsBlockRow.laid) (((OpenSpec.ofChange Rows.frameOwnsBlockSpec).at F).post enc Tryd.prog Tryd.f12 false true false false) := by
  obtain ⟨places, hx⟩ := reads os enc
  refine returnsInHanded_of_row (C := Tryd.checked) (s := OpenSpec.ofChange Rows.frameOwnsBlockSpec) own started (by kernel_rfl) Tryd.func12
    (witness_row_atRef (enc := enc) (C := Tryd.checked) false (laidWorld os) wargs rfl (by kernel_rfl) (by kernel_rfl) (by kernel_rfl)
      (OpenSpec.preRow_of_cond 8 hx (by kernel_rfl) (fun k hk => by cases hk) (by kernel_rfl) (laid_met os))) ?_
  intro W base args ds gs before hval hW _ _ hsz hL _ _
  exact contract H enc W base args ds gs before hval hW hL hsz

theorem fact0 : (Rows.frameOwnsBlockRow.wf (OpenSpec.ofChange (OpenSpec.ofChange Rows.frameOwnsBlockSpec).bare)) = true := by kernel_rfl
theorem fact3 : (Tryd.f12.params.all (Tryd.prog.readableRec ·)) = true := by kernel_rfl
theorem fact4 : (namedTie Tryd.prog Rows.frameOwnsBlockRow.named (OpenSpec.ofChange Rows.frameOwnsBlockSpec).bare.vars) = true := by kernel_rfl
theorem fact5 : ((Rows.frameOwnsBlockRow.stops == [])) = true := by kernel_rfl
theorem fact7 : ((Rows.frameOwnsBlockRow.knobs == [])) = true := by kernel_rfl
theorem fact9 : ((Rows.frameOwnsBlockRow.inPlace == Tryd.prog.inPlace 12)) = true := by kernel_rfl
theorem fact10 : ((Rows.frameOwnsBlockRow.unfollowed == Tryd.prog.unfollowed 12)) = true := by kernel_rfl
theorem fact11 : ((Rows.frameOwnsBlockRow.recurses == Tryd.prog.recurses 12)) = true := by kernel_rfl
theorem fact12 : ((Rows.frameOwnsBlockRow.named == Tryd.prog.varsNamed 12)) = true := by kernel_rfl
theorem fact13 : ((Rows.frameOwnsBlockRow.maps == (Tryd.f12.params.toList ++ (OpenSpec.ofChange Rows.frameOwnsBlockSpec).bare.plain.varTypes Tryd.prog).any (Tryd.prog.mapsRec ·))) = true := by kernel_rfl
theorem fact14 : ((Rows.frameOwnsBlockRow.ifaces == (Tryd.f12.params.toList ++ (OpenSpec.ofChange Rows.frameOwnsBlockSpec).bare.plain.varTypes Tryd.prog).any (Tryd.prog.ifacesRec ·))) = true := by kernel_rfl
theorem fact15 : ((Rows.frameOwnsBlockRow.mapsOut == Tryd.prog.mapsAmong Tryd.f12.resultTypes.toList)) = true := by kernel_rfl
theorem fact16 : ((Rows.frameOwnsBlockRow.loops == (Tryd.f12.params.toList ++ (OpenSpec.ofChange Rows.frameOwnsBlockSpec).bare.plain.varTypes Tryd.prog).any (Tryd.prog.loopsFrom ·))) = true := by kernel_rfl
theorem fact17 : ((Rows.frameOwnsBlockRow.wideKeys == (Tryd.f12.params.toList ++ (OpenSpec.ofChange Rows.frameOwnsBlockSpec).bare.plain.varTypes Tryd.prog ++ Tryd.f12.resultTypes.toList).any (Tryd.prog.wideKeysFrom ·))) = true := by kernel_rfl
theorem fact18 : ((OpenSpec.ofChange Rows.frameOwnsBlockSpec).bare.vars.all (Tryd.prog.varReadable ·)) = true := by kernel_rfl
theorem fact19 : (Tryd.f12.resultTypes.all (fun t => Tryd.prog.readableRec t && decide (t < Tryd.prog.types.size))) = true := by kernel_rfl
theorem fact20 : ((Rows.frameOwnsBlockRow.ifacesOut == Tryd.f12.resultTypes.toList.any (Tryd.prog.ifacesRec ·))) = true := by kernel_rfl
theorem fact21 : ((Rows.frameOwnsBlockRow.loopsOut == Tryd.f12.resultTypes.toList.any (Tryd.prog.loopsFrom ·))) = true := by kernel_rfl
theorem fact22 : ((Rows.frameOwnsBlockRow.plainKeys == Tryd.prog.plainKeys)) = true := by rw [Tryd.keys]; kernel_rfl
theorem fact23 : (Rows.frameOwnsBlockRow.shortTexts.isNone) = true := by kernel_rfl
theorem fact26 : ((Rows.frameOwnsBlockRow.lifted == Tryd.prog.liftsFinal)) = true := by rw [Tryd.lifts]; kernel_rfl
theorem fact27 : ((Tryd.prog.make == some Rows.frameOwnsBlockRow.make)) = true := by rw [Tryd.makes]; kernel_rfl
theorem fact29 : ((Rows.frameOwnsBlockRow.pinned == Rows.frameOwnsBlockRow.pinnedBy)) = true := by kernel_rfl
theorem fact30 : ((Rows.frameOwnsBlockRow.veiled == (Tryd.f12.params.toList ++ (OpenSpec.ofChange Rows.frameOwnsBlockSpec).bare.plain.varTypes Tryd.prog ++ Tryd.f12.resultTypes.toList).any (Tryd.prog.veiledRec ·))) = true := by kernel_rfl
theorem fact31 : (Rows.frameOwnsBlockRow.veiledFits Tryd.prog Tryd.f12.params.toList (Tryd.f12.params.toList ++ (OpenSpec.ofChange Rows.frameOwnsBlockSpec).bare.plain.varTypes Tryd.prog ++ Tryd.f12.resultTypes.toList)) = true := by kernel_rfl
theorem closed : joinedFacts Tryd.prog 12 Tryd.f12 (OpenSpec.ofChange Rows.frameOwnsBlockSpec).bare Rows.frameOwnsBlockRow = true :=
  facts_of fact0 Tryd.laidOut Tryd.rowed fact3 fact4 fact5 Tryd.noStops fact7 Tryd.noKnobs fact9 fact10 fact11 fact12 fact13 fact14 fact15 fact16 fact17 fact18 fact19 fact20 fact21 fact22 fact23 Tryd.heard Tryd.mayEnter fact26 fact27 (by kernel_rfl) fact29 fact30 fact31
theorem named : Tryd.prog.funcNamed Rows.frameOwnsBlockRow.func = some 12 := by kernel_rfl
theorem instanced : Tryd.f12.isInstance Tryd.prog Rows.frameOwnsBlockRow.origin Rows.frameOwnsBlockRow.targs := of_decide_eq_true (by kernel_rfl)
theorem wrapped : Tryd.f12.isWrapper Tryd.prog Rows.frameOwnsBlockRow.wrapper Rows.frameOwnsBlockRow.mainSum := by unfold Func.isWrapper; first | (rw [if_pos (by decide +kernel)]; kernel_rfl) | (rw [if_neg (by decide +kernel)]; exact ⟨rfl, rfl⟩)
theorem said : Rows.FrameOwnsBlockSaid :=
  OpenClaim.holds_of_cond 12 Tryd.f12 rfl rfl rfl rfl rfl rfl rfl ⟨rfl, rfl, rfl, rfl, rfl⟩ rfl rfl rfl rfl rfl named Tryd.func12 closed
    instanced wrapped
    (fun os started H enc _ F => by rw [OpenClaim.pre_eq_preRow]; exact lifted os started H enc F)

theorem plain (f : FuncId) (fn : Func) (hf : Tryd.pinned.checked.prog.funcNamed "concord/concordlaw02.FrameOwnsBlock" = some f) (hfn : Tryd.pinned.checked.prog.funcs[f]? = some fn) :
    true = Tryd.pinned.checked.prog.looks [] ∧ ∀ (j : Nat) t, fn.params[j]? = some t → Tryd.pinned.checked.prog.wantsStandIn t = false := by
  obtain rfl : f = 12 := Option.some.inj ((show Tryd.prog.funcNamed "concord/concordlaw02.FrameOwnsBlock" = some 12 by kernel_rfl).symm.trans hf) |>.symm
  obtain rfl : fn = Tryd.f12 := (Option.some.inj (Tryd.func12.symm.trans hfn)).symm
  have hall : Tryd.f12.params.toList.all (fun t => !Tryd.pinned.checked.prog.wantsStandIn t) = true := by kernel_rfl
  refine ⟨by kernel_rfl, fun j t ht => ?_⟩
  have := List.all_eq_true.1 hall t (by simpa using Array.mem_of_getElem? ht)
  simpa using this

/-- THE CARD -/
theorem card : Rows.FrameOwnsBlockCardSaid :=
  Claim7.holds_tied_plain_at .later [] _ _ _ _ said (fun _ h => by cases h) (by kernel_rfl) (fun _ h => by cases h) frameOwnsBlock_row_tie rfl ⟨rfl, rfl⟩ (by kernel_rfl) rfl plain (by kernel_rfl)
end Go.Proofs.YtgebekklkodpaaaDoor.frameOwnsBlock
