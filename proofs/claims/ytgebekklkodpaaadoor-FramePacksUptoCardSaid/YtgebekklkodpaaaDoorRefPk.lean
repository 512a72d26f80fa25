/- the reference's Pack -/
import Derived.Test.YtgebekklkodpaaaDoorPk
import Derived.Test.YtgebekklkodpaaaDoorRefEnc
namespace Go.Proofs.YtgebekklkodpaaaDoor
open Go.RowKit

def RefPackOut (w : World) (kind : Nat) (bl : List Bl) (e : Ending) (w' : World) : Prop :=
  Below w.heap.size w w' ∧ (((∃ x ∈ bl, x.1 = 0) ∧ e = .returned (.tuple #[.slice none 0 0, .int .i64 6])) ∨
    ((∀ x ∈ bl, x.1 ≠ 0) ∧ ∃ v, e = .returned (.tuple #[v, .int .i64 0]) ∧ Own w' w.heap.size v (img kind bl)))

theorem ref_pack_zero (w : World) (ao : Option Addr) (n cap : Nat) :
    Calls Tryd.prog 34 #[.int .u8 0, .slice ao n cap] w fun e w' => e = .returned (.tuple #[.slice none 0 0, .int .i64 6]) ∧ w = w' := by
  go_enter Tryd.func34, Tryd.ntmps34
  go_wp2
  go_ret2
  exact ⟨rfl, rfl⟩

set_option maxRecDepth 100000 in
set_option maxHeartbeats 4000000 in
theorem ref_pack_some (w : World) (kind : Nat) (hk : kind < 256) (hk0 : kind ≠ 0) (bl : List Bl) (ao : Option Addr) (cap : Nat)
    (hB : ∀ (k : Nat) (x : Bl), bl[k]? = some x → ∃ ad, ao = some ad ∧ BlkAt w (ad.add (2 * k)) x) (ht : tot bl ≤ 140737488355000) :
    Calls Tryd.prog 34 #[.int .u8 kind, .slice ao bl.length cap] w (RefPackOut w kind bl) := by
  have hk1 : ((kind : Int) == 0) = false := by simp; omega
  have HB := hide hB
  have HT := hide ht
  have HK := hide hk
  have HLT := hide (len_tot bl)
  have HU := hide (show bl.length < Uv.u64 by have := len_tot bl; rw [Uv.u64_eq]; omega)
  have hw : IntKind.u64.wrap (bl.length : Int) = (bl.length : Int) := by have := HU.out; rw [Uv.u64_eq] at this; rw [IntKind.wrap_u64]; omega
  clear hB ht hk hk0
  go_enter Tryd.func34, Tryd.ntmps34
  go_wp2_with fail
  have HO1 := hide (own_lit w w.heap.size [99, 110, 99, 100, kind] (Nat.le_refl _) (by simp) #[.int .u8 99, .int .u8 110, .int .u8 99, .int .u8 100, .int .u8 kind] rfl)
  have HB1 := hide ((Below.refl w.heap.size w).alloc (Nat.le_refl _) (.cells #[.int .u8 99, .int .u8 110, .int .u8 99, .int .u8 100, .int .u8 kind] 5))
  refine (ref_uvarint _ bl.length HU.out).mono ?_
  rintro e w2 ⟨g2, cap2, rfl, hown2, hb2⟩
  have HO2 := hide (own_keep HO1.out hb2)
  have HB2 := hide (HB1.out.trans (hb2.mono HB1.out.size))
  have HS2 := hide (src_own hown2 (Uv.uv_lt _ (by have := HU.out; rw [Uv.u64_eq] at this; exact this)))
  have HUL := hide (Uv.uv_len bl.length).1
  clear hown2 hb2 HO1 HB1
  go_wp2_with (refine append_src w w2 w.heap.size _ _ [99, 110, 99, 100, kind] (Uv.uv bl.length) rfl (.tmp 15) (.tmp 19) rfl rfl rfl HO2.out HS2.out ?_ HB2.out.size HB2.out ?_)
  case refine_1 => have := HUL.out; simp; omega
  intro v3 w3 ho3 hb3
  have hw3 : Own w3 w.heap.size v3 (imgHead kind bl.length) := ho3
  have HO3 := hide hw3
  have HB3 := hide hb3
  have HHL := hide (imgHead_len kind bl.length)
  clear ho3 hb3 hw3 HO2 HS2 HB2
  go_wp2_with fail
  go_loopw [6, 23] (fun v c wr => ∃ k : Nat, k ≤ bl.length ∧ c = .int .i64 k ∧ (∀ x ∈ bl.take k, x.1 ≠ 0) ∧ Own wr w.heap.size v (imgHead kind bl.length ++ encs (bl.take k)) ∧ Below w.heap.size w wr) (fun _ c _ => bl.length - (intOf c).toNat)
  case atStart => exact ⟨0, by simp, rfl, by simp, by simpa [encs] using HO3.out, HB3.out⟩
  case round =>
    obtain ⟨k, hkl, rfl, hpre, hW, hb⟩ := hrel
    have HW := hide hW
    have HBk := hide hb
    have HP := hide hpre
    have hsz := hb.size
    clear hW hb hpre
    by_cases hlt : k < bl.length
    · obtain ⟨⟨tg, body⟩, hx⟩ : ∃ x, bl[k]? = some x := ⟨_, List.getElem?_eq_getElem hlt⟩
      obtain ⟨ad, rfl, hblk⟩ := HB.out k _ hx
      obtain ⟨htg, bv, hc0, hc1, hsrc⟩ := blk_keep hblk HBk.out
      clear hblk
      obtain ⟨bo, bcap, rfl⟩ := src_form hsrc
      have HX := hide hx
      have HSRC := hide hsrc
      have HTG := hide htg
      rw [Nat.mul_comm 2 k] at hc0 hc1
      have hc1' : wr.cell? { block := (ad.add (k * 2)).block, off := (ad.add (k * 2)).off + 1 } = some (.slice bo body.length bcap) := hc1
      simp only at hc0
      clear hx hsrc htg
      have hbA := (Below.refl wr.heap.size wr).alloc (Nat.le_refl _) (.cells #[.int .u8 tg, .slice bo body.length bcap] 47)
      have HBA := hide hbA
      have HBW := hide (HBk.out.alloc hsz (.cells #[.int .u8 tg, .slice bo body.length bcap] 47))
      have hgs := tot_get HX.out
      have htl := encs_len (bl.take k)
      have HGS := hide (show (imgHead kind bl.length ++ encs (bl.take k)).length + (enc tg body).length ≤ 140737488355100 ∧ body.length ≤ 140737488355000 ∧ (enc tg body).length ≤ 140737488355000 by
        have h1 := HT.out
        have h2 := enc_len tg body
        have h3 := HHL.out
        simp only at hgs
        rw [List.length_append]
        omega)
      clear hbA hgs htl
      go_wp2_with fail
      by_cases h0 : tg = 0
      · subst h0
        refine (ref_encode_zero _ _).mono ?_
        rintro e w' ⟨rfl, rfl⟩
        go_wp2
        go_ret2
        exact ⟨HBW.out, .inl ⟨⟨_, List.mem_of_getElem? HX.out, rfl⟩, rfl⟩⟩
      · have H0 := hide h0
        clear h0
        refine (ref_encode_pos _ tg HTG.out H0.out _ body (src_keep HSRC.out HBA.out) (by have := HGS.out.2.1; omega)).mono ?_
        rintro e w6 ⟨g6, c6, rfl, ho6, hb6⟩
        have HB6 := hide (HBW.out.trans (hb6.mono HBW.out.size))
        have HO6 := hide (own_keep HW.out (HBA.out.trans (hb6.mono HBA.out.size)))
        have HS6 := hide (src_own ho6 (enc_lt HTG.out HSRC.out.1 (by have := HGS.out.2.1; rw [Uv.u64_eq]; omega)))
        clear hb6 ho6
        have hne : imgHead kind bl.length ++ encs (bl.take (k + 1)) = (imgHead kind bl.length ++ encs (bl.take k)) ++ enc tg body := by
          rw [List.take_add_one, HX.out, encs_app, Option.toList_some, encs_one, ← List.append_assoc]
        have HNE := hide hne
        have HP7 := hide (show ∀ x ∈ bl.take (k + 1), x.1 ≠ 0 by
          intro x hx
          rw [List.take_add_one, HX.out] at hx
          rcases List.mem_append.1 hx with h | h
          · exact HP.out x h
          · simp at h; subst h; exact H0.out)
        have hwk : IntKind.i64.wrap ((k : Int) + 1) = ((k + 1 : Nat) : Int) := by have := HT.out; have := HLT.out; rw [IntKind.wrap_i64]; omega
        clear hne
        go_wp2_with (refine append_src w w6 w.heap.size _ _ (imgHead kind bl.length ++ encs (bl.take k)) (enc tg body) rfl (.tmp 38) (.tmp 39) rfl rfl rfl HO6.out HS6.out (by have := HGS.out.1; omega) HB6.out.size HB6.out ?_)
        intro v7 w7 ho7 hb7
        rw [← List.append_assoc, ← HNE.out] at ho7
        have HO7 := hide ho7
        have HB7 := hide hb7
        clear ho7 hb7
        go_wp2
        go_roundw
        case rel => exact ⟨k + 1, hlt, rfl, HP7.out, HO7.out, HB7.out⟩
        case measure => simp [intOf]; omega
    · have hke : k = bl.length := by omega
      subst hke
      have hq := HW.out
      rw [List.take_length] at hq
      change Own wr w.heap.size _ (imgBody kind bl) at hq
      have HWB := hide hq
      have HPP := hide (show ∀ x ∈ bl, x.1 ≠ 0 by have := HP.out; rw [List.take_length] at this; exact this)
      clear HW HP hq
      have hbl := blocks_ok HB.out HT.out
      have HBL := hide (imgBody_lt HK.out HU.out hbl)
      have HLB := hide (show (imgBody kind bl).length ≤ 140737488355100 by have := imgBody_len kind bl; have := HT.out; omega)
      have HE2 := hide (show img kind bl = imgBody kind bl ++ Uv.word (seal_ (imgBody kind bl)) from rfl)
      have HIL := hide (img_lt HK.out HU.out hbl)
      have HSL := hide (seal_lt' HBL.out)
      have hlp : 0 < (imgBody kind bl).length := by simp [imgBody, imgHead]
      clear hbl
      generalize imgBody kind bl = ib at HWB HBL HLB HE2 HSL hlp
      have HS5 := hide (own_src HWB.out HBL.out)
      obtain ⟨g5, c5, rfl⟩ := own_form HWB.out hlp
      clear hlp
      go_wp2_with fail
      refine (ref_seal wr _ ib HS5.out (by have := HLB.out; omega)).mono ?_
      rintro e w' ⟨rfl, rfl⟩
      go_wp2_with fail
      refine (ref_word wr (seal_ ib) HSL.out).mono ?_
      rintro e w' ⟨rfl, rfl⟩
      have HBA := hide ((Below.refl wr.heap.size wr).alloc (Nat.le_refl _) (.cells (u8s (Uv.word (seal_ ib))).toArray 5))
      have HB6 := hide (HBk.out.alloc hsz (.cells (u8s (Uv.word (seal_ ib))).toArray 5))
      have HO6 := hide (own_keep HWB.out HBA.out)
      have HS6 := hide (own_src (own_lit wr wr.heap.size (Uv.word (seal_ ib)) (Nat.le_refl _) (by have : (Uv.word (seal_ ib)).length = 4 := rfl; omega) _ rfl) (word_lt _))
      have hwl : (Uv.word (seal_ ib)).length = 4 := rfl
      have HWL := hide hwl
      rw [hwl] at HS6
      generalize Uv.word (seal_ ib) = ws at HE2 HBA HB6 HO6 HS6 HWL
      clear hwl
      go_wp2_with (refine append_src w (wr.alloc (.cells (u8s ws).toArray 5)) w.heap.size _ _ ib ws rfl (.tmp 42) (.tmp 45) rfl rfl rfl HO6.out HS6.out (by have := HLB.out; have := HWL.out; omega) HB6.out.size HB6.out ?_)
      intro v8 w8 ho8 hb8
      rw [← HE2.out] at ho8
      have HO8 := hide ho8
      have HB8 := hide hb8
      clear ho8 hb8
      go_wp2
      go_ret2
      exact ⟨HB8.out, .inr ⟨HPP.out, _, rfl, HO8.out⟩⟩

theorem ref_pack_any (w : World) (kind : Nat) (hk : kind < 256) (hk0 : kind ≠ 0) (v : Value) (bl : List Bl) (hB : Blocks w v bl) (ht : tot bl ≤ 140737488355000) :
    Calls Tryd.prog 34 #[.int .u8 kind, v] w (RefPackOut w kind bl) := by
  obtain ⟨ao, cap, rfl, h⟩ := blocks_form hB
  exact ref_pack_some w kind hk hk0 bl ao cap h ht
end Go.Proofs.YtgebekklkodpaaaDoor
