/- the reference's uvarint, word, Encode -/
import Derived.Test.YtgebekklkodpaaaDoorEnc
namespace Go.Proofs.YtgebekklkodpaaaDoor
open Go.RowKit

set_option maxRecDepth 100000 in
set_option maxHeartbeats 1000000 in
theorem ref_uvarint (w : World) (x : Nat) (hx : x < Uv.u64) :
    Calls Tryd.prog 63 #[.int .u64 x] w fun e w' => ∃ g cap, e = .returned (.slice (some ⟨g, 0, none⟩) (Uv.uv x).length cap) ∧ w'.ownsRow w.heap.size 5 1 (.slice (some ⟨g, 0, none⟩) (Uv.uv x).length cap) (Uv.uv x).length (u8s (Uv.uv x)) ∧ Below w.heap.size w w' := by
  obtain ⟨i0, hi, hz0, hz1, hz2⟩ := info_parts info5
  have HX := hide hx
  clear hx
  go_enter Tryd.func63, Tryd.ntmps63
  go_wp2
  go_loopw [0, 3] (fun c v wr => ∃ (f y : Nat) (pre : List Nat), y < 128 ^ (f + 1) ∧ y < Uv.u64 ∧ c = .int .u64 y ∧ Uv.uv x = pre ++ Uv.uvf f y ∧ wr.ownsRow w.heap.size 5 1 v pre.length (u8s pre) ∧ Below w.heap.size w wr) (fun c _ _ => (intOf c).toNat)
  case atStart => exact ⟨9, x, [], Uv.start_u64 HX.out, HX.out, rfl, rfl, World.ownsRow_nil _ _ _ _, Below.refl _ _⟩
  case round =>
    obtain ⟨f, y, pre, hy, hy64, rfl, huv, hv, hb⟩ := hrel
    have hpl : pre.length ≤ 9 := by have h1 := (Uv.uv_len x).1; rw [huv] at h1; have h2 := (Uv.uvf_len f y).2; simp at h1; omega
    have hsz := hb.size
    have HU := hide huv
    have HY64 := hide hy64
    clear huv hy64
    by_cases hge : 128 ≤ y
    · cases f with
      | zero => simp at hy; omega
      | succ f =>
        obtain ⟨m, hmm⟩ : ∃ m, m = y % 128 := ⟨_, rfl⟩
        have hm : m < 128 := by omega
        have e1 : (y : Int) % 128 = (m : Int) := by omega
        have HM := hide hmm
        have e2 : IntKind.u64.wrap ((y : Int) / 128) = (y : Int) / 128 := by
          have := HY64.out
          rw [Uv.u64_eq] at this
          rw [IntKind.wrap_u64]
          omega
        have hyd : y / 128 < 128 ^ (f + 1) := by
          rw [Nat.div_lt_iff_lt_mul (by omega)]
          rw [Nat.pow_succ] at hy
          exact hy
        have HY := hide hyd
        have HG := hide (Uv.uvf_great f y hge)
        clear hmm hy hyd
        go_wp2_with (at_builtin; refine wpList_append_own _ rfl (.tmp 6) (.tmp 11) 25 rfl w.heap.size 5 i0 (.int .u8 0) 1 1 Tryd.underlying25 hi hz0 hz1 hz2 rfl (by decide) _ _ _ rfl (hv.alloc _) ⟨wr.heap.size, 0, none⟩ 1 1 [.int .u8 ((m : Int) + 128)] rfl rfl ?c1 ?c2 ?c3 ?c4 ?c5 ?_)
        case c1 => exact one_new _ _ _
        case c2 => intro u hu; simp at hu; subst hu; rfl
        case c3 => simp [maxLen]; omega
        case c4 => simp; omega
        case c5 => simp; omega
        intro v' w1 hown hg _
        have hown' : w1.ownsRow w.heap.size 5 1 v' (pre ++ [m + 128]).length (u8s (pre ++ [m + 128])) := by
          rw [u8s_app, List.length_append]
          simpa [u8s] using hown
        have HO := hide hown'
        have HB := hide ((hb.alloc hsz _).grown hg (by simp; omega) (fun k hk => (hv.lt k hk).1))
        clear hown hown' hg
        go_wp2
        go_roundw
        case rel =>
          refine ⟨f, y / 128, pre ++ [m + 128], HY.out, Uv.half_u64 _ HY64.out, by simp, ?_, HO.out, HB.out⟩
          rw [HU.out, HG.out, HM.out, List.append_assoc]; rfl
        case measure => simp [intOf]; omega
    · have HS := hide (Uv.uvf_small f y (by omega))
      clear hy
      go_wp2_with (at_builtin; refine wpList_append_own _ rfl (.tmp 15) (.tmp 18) 25 rfl w.heap.size 5 i0 (.int .u8 0) 1 1 Tryd.underlying25 hi hz0 hz1 hz2 rfl (by decide) _ _ _ rfl (hv.alloc _) ⟨wr.heap.size, 0, none⟩ 1 1 [.int .u8 (y : Int)] rfl rfl ?d1 ?d2 ?d3 ?d4 ?d5 ?_)
      case d1 => exact one_new _ _ _
      case d2 => intro u hu; simp at hu; subst hu; rfl
      case d3 => simp [maxLen]; omega
      case d4 => simp; omega
      case d5 => simp; omega
      intro v' w1 hown hg _
      have hown' : w1.ownsRow w.heap.size 5 1 v' (Uv.uv x).length (u8s (Uv.uv x)) := by
        rw [HU.out, HS.out, u8s_app, List.length_append]
        simpa [u8s] using hown
      have HO := hide hown'
      have HB := hide ((hb.alloc hsz _).grown hg (by simp; omega) (fun k hk => (hv.lt k hk).1))
      obtain ⟨g, cap, rfl⟩ := Joins.ownsRow_form hown' (by have := (Uv.uv_len x).2; omega)
      clear hown hown' hg
      go_wp2
      go_ret
      exact ⟨g, cap, rfl, HO.out, HB.out⟩

theorem ref_word (w : World) (x : Nat) (hx : x < 4294967296) :
    Calls Tryd.prog 64 #[.int .u32 x] w fun e w' => e = .returned (.slice (some ⟨w.heap.size, 0, none⟩) 4 4) ∧ w' = w.alloc (.cells (u8s (Uv.word x)).toArray 5) := by
  go_enter Tryd.func64, Tryd.ntmps64
  go_wp2
  go_ret
  refine ⟨rfl, ?_⟩
  have h : x / 16777216 % 256 = x / 16777216 := by omega
  simp only [Uv.word, h]
  simp [u8s]

set_option maxRecDepth 100000 in
set_option maxHeartbeats 1000000 in
theorem ref_encode_some (w : World) (tag : Nat) (ht : tag < 256) (h0 : tag ≠ 0) (ad : Addr) (bcap : Nat) (body : List Nat) (hb256 : ∀ x ∈ body, x < 256) (hbn : ∀ (j : Nat) (u : Value), (u8s body)[j]? = some u → w.cell? (ad.add j) = some u) (hl : body.length ≤ 140737488355200) :
    Calls Tryd.prog 25 #[.int .u8 tag, .slice (some ad) body.length bcap] w fun e w' => ∃ g cap, e = .returned (.tuple #[.slice (some ⟨g, 0, none⟩) (enc tag body).length cap, .int .i64 0]) ∧
      w'.ownsRow w.heap.size 5 1 (.slice (some ⟨g, 0, none⟩) (enc tag body).length cap) (enc tag body).length (u8s (enc tag body)) ∧ Below w.heap.size w w' := by
  obtain ⟨i0, hi, hz0, hz1, hz2⟩ := info_parts info5
  have ht0 : ((tag : Int) == 0) = false := by simp; omega
  have hu : body.length < Uv.u64 := by rw [Uv.u64_eq]; omega
  have hh := encHead_lt ht hb256 hu
  have hhl := encHead_len tag body
  have huvl := (Uv.uv_len body.length).1
  have hsl := sum_lt hh
  have HH := hide hh
  have HHL := hide hhl
  have HU := hide hu
  have HS := hide hsl
  have HUL := hide huvl
  have HBN := hide hbn
  clear hbn
  clear hh hhl hu hsl h0 huvl
  go_enter Tryd.func25, Tryd.ntmps25
  go_wp2_with fail
  refine (ref_uvarint _ body.length HU.out).mono ?_
  rintro e w2 ⟨g2, cap2, rfl, hown2, hb2⟩
  have hv1 : (w.alloc (.cells #[.int .u8 tag] 5)).ownsRow w.heap.size 5 1 (.slice (some ⟨w.heap.size, 0, none⟩) 1 1) 1 (u8s [tag]) := World.ownsRow_lit (base := w.heap.size) (e := 5) (size := 1) w #[.int .u8 tag] 1 (Nat.le_refl _) (by decide) rfl
  have hv2 : w2.ownsRow w.heap.size 5 1 (.slice (some ⟨w.heap.size, 0, none⟩) 1 1) [tag].length (u8s [tag]) := hv1.kept (row := none) ⟨hb2.os, hb2.tape, hb2.output, hb2.size, fun k hk _ => hb2.block k hk⟩ (.inr (by simp [Value.ownBlock]))
  have hB2 : Below w.heap.size w w2 := ((Below.refl w.heap.size w).alloc (Nat.le_refl _) _).trans (hb2.mono (by simp))
  have hsz2 := hB2.size
  have HB2 := hide hB2
  have HO2 := hide hown2
  clear hv1 hb2 hown2 hB2
  go_wp2_with (at_builtin; refine wpList_append_own _ rfl (.tmp 11) (.tmp 15) 25 rfl w.heap.size 5 i0 (.int .u8 0) 1 1 Tryd.underlying25 hi hz0 hz1 hz2 rfl (by decide) _ _ _ rfl hv2 ⟨g2, 0, none⟩ (Uv.uv body.length).length cap2 (u8s (Uv.uv body.length)) rfl ?_ ?_ (u8s_one _) ?_ ?_ ?_ ?_)
  case refine_1 => simp [u8s_len]
  case refine_2 => exact HO2.out.cells rfl
  case refine_3 => have := HUL.out; simp [maxLen]; omega
  case refine_4 => have := HUL.out; simp; omega
  case refine_5 => exact hsz2
  intro v3 w3 hown3 hg3 hnil3
  have hO3 : w3.ownsRow w.heap.size 5 1 v3 ([tag] ++ Uv.uv body.length).length (u8s ([tag] ++ Uv.uv body.length)) := by
    rw [u8s_app, List.length_append]
    exact hown3
  have HO3 := hide hO3
  have HB3 := hide (HB2.out.grown hg3 hsz2 (fun k hk => (hv2.lt k hk).1))
  have hl3 : ([tag] ++ Uv.uv body.length).length + body.length ≤ 140737488355328 := by have := HUL.out; simp; omega
  have hp3 : 0 < ([tag] ++ Uv.uv body.length).length := by simp
  clear hown3 hg3 hnil3 hv2 hsz2
  generalize hcur : [tag] ++ Uv.uv body.length = cur at hO3 HO3 hl3 hp3
  have HCU := hide hcur
  have HL3 := hide hl3
  obtain ⟨g3, cap3, rfl⟩ := Joins.ownsRow_form hO3 hp3
  clear hcur hl3 hO3 hp3
  go_wp2_with (at_builtin; refine wpList_append_own _ rfl (.tmp 17) (.tmp 18) 25 rfl w.heap.size 5 i0 (.int .u8 0) 1 1 Tryd.underlying25 hi hz0 hz1 hz2 rfl (by decide) _ cur.length (u8s cur) rfl HO3.out ad body.length bcap (u8s body) rfl ?_ ?_ (u8s_one _) ?_ ?_ ?_ ?_)
  case refine_1 => simp [u8s_len]
  case refine_2 => exact fun j u hu => (HB3.out.cell (World.block_lt_of_cell? w _ (HBN.out j u hu))).trans (HBN.out j u hu)
  case refine_3 => have := HL3.out; simp [maxLen]; omega
  case refine_4 => have := HL3.out; omega
  case refine_5 => exact HB3.out.size
  intro v4 w4 hown4 hg4 hnil4
  have hb4 := HB3.out.grown hg4 HB3.out.size (fun k hk => (HO3.out.lt k hk).1)
  have hown4' : w4.ownsRow w.heap.size 5 1 v4 (encHead tag body).length (u8s (encHead tag body)) := by
    rw [show encHead tag body = ([tag] ++ Uv.uv body.length) ++ body from rfl, HCU.out, u8s_app, List.length_append]
    exact hown4
  clear hown4 hg4 hnil4
  have hln : 0 < (encHead tag body).length := by simp [encHead]
  have HS4 := hide (src_own hown4' HH.out)
  have HO4 := hide hown4'
  have HB4 := hide hb4
  obtain ⟨g4, cap4, hv4⟩ := Joins.ownsRow_form hown4' hln
  have HLN := hide hln
  clear hown4' hb4 hln
  generalize hhd : encHead tag body = hd at HS4 HO4 HHL HH HS HLN hv4
  have HHD := hide hhd
  have HE := hide (show enc tag body = hd ++ Uv.word (sum hd) by unfold enc; rw [hhd])
  clear hhd
  subst hv4
  go_wp2_with fail
  refine (ref_sum w4 _ hd HS4.out (by have := HHL.out; omega)).mono ?_
  rintro e w' ⟨rfl, rfl⟩
  go_wp2_with fail
  refine (ref_word w4 (sum hd) HS.out).mono ?_
  rintro e w' ⟨rfl, rfl⟩
  have hsz4 := HB4.out.size
  have hO5 := HO4.out.alloc (.cells (u8s (Uv.word (sum hd))).toArray 5)
  have HB5 := hide (HB4.out.alloc HB4.out.size (.cells (u8s (Uv.word (sum hd))).toArray 5))
  have HN5 := hide (show ∀ (j : Nat) (u : Value), (u8s (Uv.word (sum hd)))[j]? = some u → (w4.alloc (.cells (u8s (Uv.word (sum hd))).toArray 5)).cell? ((⟨w4.heap.size, 0, none⟩ : Addr).add j) = some u from fun j u hu => by
    rw [Addr.add_mid, World.cell?_alloc_new]; simpa using hu)
  have hwl : (u8s (Uv.word (sum hd))).length = 4 := rfl
  generalize hws : u8s (Uv.word (sum hd)) = ws at HB5 hO5 HN5 hwl
  have HWS := hide hws
  have h1w : ∀ u ∈ ws, u.oneCell' = true := by rw [← hws]; exact u8s_one _
  clear hws
  go_wp2_with (at_builtin; refine wpList_append_own _ rfl (.tmp 20) (.tmp 23) 25 rfl w.heap.size 5 i0 (.int .u8 0) 1 1 Tryd.underlying25 hi hz0 hz1 hz2 rfl (by decide) _ hd.length (u8s hd) rfl hO5 ⟨w4.heap.size, 0, none⟩ 4 4 ws rfl ?_ ?_ h1w ?_ ?_ ?_ ?_)
  case refine_1 => exact hwl
  case refine_2 => exact HN5.out
  case refine_3 => have := HHL.out; simp [maxLen] at *; omega
  case refine_4 => have := HHL.out; simp at *; omega
  case refine_5 => simp; omega
  intro v6 w6 hown6 hg6 hnil6
  have hB6 := HB5.out.grown hg6 (by simp; omega) (fun k hk => (hO5.lt k hk).1)
  have hown6' : w6.ownsRow w.heap.size 5 1 v6 (enc tag body).length (u8s (enc tag body)) := by
    rw [HE.out, u8s_app, HWS.out, List.length_append]
    exact hown6
  obtain ⟨g6, cap6, rfl⟩ := Joins.ownsRow_form hown6' (by rw [HE.out]; simp [Uv.word])
  have HO6 := hide hown6'
  have HB6 := hide hB6
  clear hown6 hg6 hnil6 hown6' hB6 hO5
  go_wp2
  go_ret2
  exact ⟨g6, cap6, rfl, HO6.out, HB6.out⟩

set_option maxRecDepth 100000 in
set_option maxHeartbeats 1000000 in
theorem ref_encode_none (w : World) (tag : Nat) (ht : tag < 256) (h0 : tag ≠ 0) :
    Calls Tryd.prog 25 #[.int .u8 tag, .slice none 0 0] w fun e w' => ∃ g cap, e = .returned (.tuple #[.slice (some ⟨g, 0, none⟩) (enc tag []).length cap, .int .i64 0]) ∧
      w'.ownsRow w.heap.size 5 1 (.slice (some ⟨g, 0, none⟩) (enc tag []).length cap) (enc tag []).length (u8s (enc tag [])) ∧ Below w.heap.size w w' := by
  obtain ⟨i0, hi, hz0, hz1, hz2⟩ := info_parts info5
  have ht0 : ((tag : Int) == 0) = false := by simp; omega
  have hu : 0 < Uv.u64 := by rw [Uv.u64_eq]; omega
  have hh := encHead_lt ht (body := []) (by simp) hu
  have hhl := encHead_len tag []
  have huvl := (Uv.uv_len 0).1
  have hsl := sum_lt hh
  have HH := hide hh
  have HHL := hide hhl
  have HU := hide hu
  have HS := hide hsl
  have HUL := hide huvl
  clear hh hhl hu hsl h0 huvl
  go_enter Tryd.func25, Tryd.ntmps25
  go_wp2_with fail
  refine (ref_uvarint _ 0 HU.out).mono ?_
  rintro e w2 ⟨g2, cap2, rfl, hown2, hb2⟩
  have hv1 : (w.alloc (.cells #[.int .u8 tag] 5)).ownsRow w.heap.size 5 1 (.slice (some ⟨w.heap.size, 0, none⟩) 1 1) 1 (u8s [tag]) := World.ownsRow_lit (base := w.heap.size) (e := 5) (size := 1) w #[.int .u8 tag] 1 (Nat.le_refl _) (by decide) rfl
  have hv2 : w2.ownsRow w.heap.size 5 1 (.slice (some ⟨w.heap.size, 0, none⟩) 1 1) [tag].length (u8s [tag]) := hv1.kept (row := none) ⟨hb2.os, hb2.tape, hb2.output, hb2.size, fun k hk _ => hb2.block k hk⟩ (.inr (by simp [Value.ownBlock]))
  have hB2 : Below w.heap.size w w2 := ((Below.refl w.heap.size w).alloc (Nat.le_refl _) _).trans (hb2.mono (by simp))
  have hsz2 := hB2.size
  have HB2 := hide hB2
  have HO2 := hide hown2
  clear hv1 hb2 hown2 hB2
  go_wp2_with (at_builtin; refine wpList_append_own _ rfl (.tmp 11) (.tmp 15) 25 rfl w.heap.size 5 i0 (.int .u8 0) 1 1 Tryd.underlying25 hi hz0 hz1 hz2 rfl (by decide) _ _ _ rfl hv2 ⟨g2, 0, none⟩ (Uv.uv 0).length cap2 (u8s (Uv.uv 0)) rfl ?_ ?_ (u8s_one _) ?_ ?_ ?_ ?_)
  case refine_1 => simp [u8s_len]
  case refine_2 => exact HO2.out.cells rfl
  case refine_3 => have := HUL.out; simp [maxLen]; omega
  case refine_4 => have := HUL.out; simp; omega
  case refine_5 => exact hsz2
  intro v3 w3 hown3 hg3 hnil3
  have hO3 : w3.ownsRow w.heap.size 5 1 v3 ([tag] ++ Uv.uv 0).length (u8s ([tag] ++ Uv.uv 0)) := by
    rw [u8s_app, List.length_append]
    exact hown3
  have HO3 := hide hO3
  have HB3 := hide (HB2.out.grown hg3 hsz2 (fun k hk => (hv2.lt k hk).1))
  have hl3 : ([tag] ++ Uv.uv 0).length + 0 ≤ 140737488355328 := by have := HUL.out; simp; omega
  have hp3 : 0 < ([tag] ++ Uv.uv 0).length := by simp
  clear hown3 hg3 hnil3 hv2 hsz2
  generalize hcur : [tag] ++ Uv.uv 0 = cur at hO3 HO3 hl3 hp3
  have HCU := hide hcur
  have HL3 := hide hl3
  obtain ⟨g3, cap3, rfl⟩ := Joins.ownsRow_form hO3 hp3
  clear hcur hl3 hO3 hp3
  go_wp2_with (at_builtin; refine wpList_append_own_none rfl (.tmp 17) (.tmp 18) 25 rfl w.heap.size 5 i0 1 Tryd.underlying25 hi _ cur.length (u8s cur) rfl HO3.out rfl ?_)
  have hec : encHead tag [] = cur := (show encHead tag [] = [tag] ++ Uv.uv 0 by simp [encHead]).trans HCU.out
  have HHD := hide hec
  have HE := hide (show enc tag [] = cur ++ Uv.word (sum cur) by unfold enc; rw [hec])
  rw [hec] at HHL HH HS
  have HS4 := hide (src_own HO3.out HH.out)
  clear hec
  go_wp2_with fail
  refine (ref_sum w3 _ cur HS4.out (by have := HHL.out; simp at this; omega)).mono ?_
  rintro e w' ⟨rfl, rfl⟩
  go_wp2_with fail
  refine (ref_word w3 (sum cur) HS.out).mono ?_
  rintro e w' ⟨rfl, rfl⟩
  have hsz4 := HB3.out.size
  have hO5 := HO3.out.alloc (.cells (u8s (Uv.word (sum cur))).toArray 5)
  have HB5 := hide (HB3.out.alloc HB3.out.size (.cells (u8s (Uv.word (sum cur))).toArray 5))
  have HN5 := hide (show ∀ (j : Nat) (u : Value), (u8s (Uv.word (sum cur)))[j]? = some u → (w3.alloc (.cells (u8s (Uv.word (sum cur))).toArray 5)).cell? ((⟨w3.heap.size, 0, none⟩ : Addr).add j) = some u from fun j u hu => by
    rw [Addr.add_mid, World.cell?_alloc_new]; simpa using hu)
  have hwl : (u8s (Uv.word (sum cur))).length = 4 := rfl
  generalize hws : u8s (Uv.word (sum cur)) = ws at HB5 hO5 HN5 hwl
  have HWS := hide hws
  have h1w : ∀ u ∈ ws, u.oneCell' = true := by rw [← hws]; exact u8s_one _
  clear hws
  go_wp2_with (at_builtin; refine wpList_append_own _ rfl (.tmp 20) (.tmp 23) 25 rfl w.heap.size 5 i0 (.int .u8 0) 1 1 Tryd.underlying25 hi hz0 hz1 hz2 rfl (by decide) _ cur.length (u8s cur) rfl hO5 ⟨w3.heap.size, 0, none⟩ 4 4 ws rfl ?_ ?_ h1w ?_ ?_ ?_ ?_)
  case refine_1 => exact hwl
  case refine_2 => exact HN5.out
  case refine_3 => have := HHL.out; simp [maxLen] at *; omega
  case refine_4 => have := HHL.out; simp at *; omega
  case refine_5 => simp; omega
  intro v6 w6 hown6 hg6 hnil6
  have hB6 := HB5.out.grown hg6 (by simp; omega) (fun k hk => (hO5.lt k hk).1)
  have hown6' : w6.ownsRow w.heap.size 5 1 v6 (enc tag []).length (u8s (enc tag [])) := by
    rw [HE.out, u8s_app, HWS.out, List.length_append]
    exact hown6
  obtain ⟨g6, cap6, rfl⟩ := Joins.ownsRow_form hown6' (by rw [HE.out]; simp [Uv.word])
  have HO6 := hide hown6'
  have HB6 := hide hB6
  clear hown6 hg6 hnil6 hown6' hB6 hO5
  go_wp2
  go_ret2
  exact ⟨g6, cap6, rfl, HO6.out, HB6.out⟩

theorem ref_encode_pos (w : World) (tag : Nat) (ht : tag < 256) (h0 : tag ≠ 0) (v : Value) (body : List Nat) (hv : Src w v body) (hl : body.length ≤ 140737488355200) :
    Calls Tryd.prog 25 #[.int .u8 tag, v] w fun e w' => ∃ g cap, e = .returned (.tuple #[.slice (some ⟨g, 0, none⟩) (enc tag body).length cap, .int .i64 0]) ∧
      w'.ownsRow w.heap.size 5 1 (.slice (some ⟨g, 0, none⟩) (enc tag body).length cap) (enc tag body).length (u8s (enc tag body)) ∧ Below w.heap.size w w' := by
  rcases hv with ⟨h1, ⟨rfl, rfl⟩ | ⟨ad, cap, rfl, _, _, hc⟩⟩
  · exact ref_encode_none w tag ht h0
  · exact ref_encode_some w tag ht h0 ad cap body h1 (src_news hc) hl
theorem ref_encode_zero (w : World) (v : Value) : Calls Tryd.prog 25 #[.int .u8 0, v] w fun e w' => e = .returned (.tuple #[.slice none 0 0, .int .i64 6]) ∧ w = w' := by
  go_enter Tryd.func25, Tryd.ntmps25
  go_wp2
  go_ret2
  exact ⟨rfl, rfl⟩
end Go.Proofs.YtgebekklkodpaaaDoor
