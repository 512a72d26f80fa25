/- frame.Pack -/
import Derived.Test.YtgebekklkodpaaaDoorBlk
import Derived.Test.YtgebekklkodpaaaDoorAp
namespace Go.Proofs.YtgebekklkodpaaaDoor
open Go.RowKit

theorem src_cncd (w : World) (b : Nat) (fr : Nat × Nat) (hh : w.heap[b]? = some (.cells #[.int .u8 99, .int .u8 110, .int .u8 99, .int .u8 100] 5 fr)) :
    Src w (.slice (some ⟨b, 0, none⟩) 4 4) [99, 110, 99, 100] := src_block (bs := [99, 110, 99, 100]) hh (by decide) (by decide)

set_option maxRecDepth 100000 in
theorem pack_zero (w : World) (a : Addr) (hE : ErrAt w 0 a) (ao : Option Addr) (n cap : Nat) :
    Calls Tryd.prog 33 #[.int .u8 0, .slice ao n cap] w fun e w' => e = .returned (.tuple #[.slice none 0 0, .iface 124 (.pointer (some a))]) ∧ Below w.heap.size w w' := by
  unfold ErrAt at hE
  go_enter Tryd.func33, Tryd.ntmps33
  go_wp2
  go_quiet (fail)
  go_wp2
  go_ret2
  exact ⟨rfl, below_drewN (Below.refl _ _) _⟩

theorem blocks_ok {w : World} {ao : Option Addr} {bl : List Bl} (hB : ∀ (k : Nat) (x : Bl), bl[k]? = some x → ∃ ad, ao = some ad ∧ BlkAt w (ad.add (2 * k)) x) (ht : tot bl ≤ 140737488355000) :
    ∀ x ∈ bl, x.1 < 256 ∧ (∀ y ∈ x.2, y < 256) ∧ x.2.length < Uv.u64 := by
  intro x hx
  obtain ⟨k, hk⟩ := List.getElem?_of_mem hx
  obtain ⟨ad, _, h1, bv, _, _, h4⟩ := hB k x hk
  have := get_tot hx
  exact ⟨h1, h4.1, by rw [Uv.u64_eq]; omega⟩
theorem img_lt {kind : Nat} {bl : List Bl} (hk : kind < 256) (hn : bl.length < Uv.u64) (h : ∀ x ∈ bl, x.1 < 256 ∧ (∀ y ∈ x.2, y < 256) ∧ x.2.length < Uv.u64) : ∀ y ∈ img kind bl, y < 256 := by
  intro y hy
  rcases List.mem_append.1 hy with h1 | h1
  · exact imgBody_lt hk hn h y h1
  · exact word_lt _ y h1

/-- what Pack answers -/
def PackOut (w : World) (E0 : Addr) (kind : Nat) (bl : List Bl) (e : Ending) (w' : World) : Prop :=
  Below w.heap.size w w' ∧ (((∃ x ∈ bl, x.1 = 0) ∧ e = .returned (.tuple #[.slice none 0 0, .iface 124 (.pointer (some E0))])) ∨
    ((∀ x ∈ bl, x.1 ≠ 0) ∧ ∃ g, e = .returned (.tuple #[.slice (some ⟨g, 0, none⟩) (img kind bl).length (img kind bl).length, .nilIface]) ∧ w'.heap[g]? = some (.cells (u8s (img kind bl)).toArray 5 (0, 0))))

set_option maxRecDepth 100000 in
set_option maxHeartbeats 4000000 in
theorem pack_some (w : World) (Z : Zip w) (S : SealT w) (E0 : Addr) (hE : ErrAt w 0 E0) (hg : 16 < w.heap.size) (kind : Nat) (hk : kind < 256) (hk0 : kind ≠ 0) (bl : List Bl) (ao : Option Addr) (cap : Nat)
    (hB : ∀ (k : Nat) (x : Bl), bl[k]? = some x → ∃ ad, ao = some ad ∧ BlkAt w (ad.add (2 * k)) x) (ht : tot bl ≤ 140737488355000) :
    Calls Tryd.prog 33 #[.int .u8 kind, .slice ao bl.length cap] w (PackOut w E0 kind bl) := by
  have hk1 : ((kind : Int) == 0) = false := by simp; omega
  have HZ := hide Z
  have HS := hide S
  have HE := hide hE
  have HB := hide hB
  have HT := hide ht
  have HK := hide hk
  have HLT := hide (len_tot bl)
  have HU := hide (show bl.length < Uv.u64 by have := len_tot bl; rw [Uv.u64_eq]; omega)
  have hw : IntKind.u64.wrap (bl.length : Int) = (bl.length : Int) := by have := HU.out; rw [Uv.u64_eq] at this; rw [IntKind.wrap_u64]; omega
  have kc := fun (w : World) (C : Array Value) (n c : Nat) => Lib.run_convert_bytes_const (P := Tryd.prog) w 25 5 C n c Tryd.underlying25 Tryd.underlying5
  clear Z S hE hB ht hk hk0
  go_enter Tryd.func33, Tryd.ntmps33
  go_wp2_with fail
  refine (new_writer w).mono ?_
  rintro e w1 ⟨rfl, hW, hb1⟩
  have HW1 := hide hW
  have HB1 := hide hb1
  clear hW hb1
  go_wp2_with fail
  have HB2 := hide (HB1.out.alloc HB1.out.size (.cells #[.int .u8 99, .int .u8 110, .int .u8 99, .int .u8 100] 5 (4, 5)))
  have hs1 := HB1.out.size
  have HW2 := hide (writer_keep HW1.out ((Below.refl w1.heap.size w1).alloc (Nat.le_refl _) (.cells #[.int .u8 99, .int .u8 110, .int .u8 99, .int .u8 100] 5 (4, 5))))
  refine (writer_raw _ _ _ [] [99, 110, 99, 100] _ HW2.out HB2.out.size (src_cncd _ _ _ (heap_new rfl _)) (by simp)).mono ?_
  rintro e w3 ⟨rfl, hW, hb3⟩
  have HW3 := hide hW
  have HB3 := hide (HB2.out.trans hb3)
  clear hW hb3 HB2 HW2 HB1 HW1 hs1
  go_wp2_with fail
  refine (writer_byte w3 _ _ kind _ HW3.out (by simp)).mono ?_
  rintro e w4 ⟨rfl, hW, hb4⟩
  have HW4 := hide hW
  have HB4 := hide (HB3.out.trans hb4)
  clear hW hb4 HW3 HB3
  go_wp2_with fail
  refine (writer_uvarint w4 _ _ bl.length _ HU.out HW4.out (by simp)).mono ?_
  rintro e w5 ⟨rfl, hW, hb5⟩
  have hW' : WriterIs w5 w.heap.size w.heap.size (imgHead kind bl.length) := hW
  have HW5 := hide hW'
  have HB5 := hide (HB4.out.trans hb5)
  have HHL := hide (imgHead_len kind bl.length)
  clear hW hb5 HW4 HB4 hW'
  go_wp2_with fail
  go_loopw [29] (fun c wr => ∃ k : Nat, k ≤ bl.length ∧ c = .int .i64 k ∧ (∀ x ∈ bl.take k, x.1 ≠ 0) ∧ WriterIs wr w.heap.size w.heap.size (imgHead kind bl.length ++ encs (bl.take k)) ∧ Below w.heap.size w wr) (fun c _ => bl.length - (intOf c).toNat)
  case atStart => exact ⟨0, by simp, rfl, by simp, by simpa [encs] using HW5.out, HB5.out⟩
  case round =>
    obtain ⟨k, hkl, rfl, hpre, hW, hb⟩ := hrel
    have HW := hide hW
    have HBk := hide hb
    have HP := hide hpre
    have hsz := hb.size
    clear hW hb hpre
    by_cases hlt : k < bl.length
    · obtain ⟨⟨tg, body⟩, hx⟩ : ∃ x, bl[k]? = some x := ⟨_, List.getElem?_eq_getElem hlt⟩
      obtain ⟨ad, rfl, hblk⟩ := HB.out k _ hx
      obtain ⟨htg, bv, hc0, hc1, hsrc⟩ := blk_keep hblk HBk.out
      clear hblk
      obtain ⟨bo, bcap, rfl⟩ := src_form hsrc
      have HX := hide hx
      have HSRC := hide hsrc
      have HTG := hide htg
      rw [Nat.mul_comm 2 k] at hc0 hc1
      have hc1' : wr.cell? { block := (ad.add (k * 2)).block, off := (ad.add (k * 2)).off + 1 } = some (.slice bo body.length bcap) := hc1
      simp only at hc0
      clear hx hsrc htg
      have hbA := (Below.refl wr.heap.size wr).alloc (Nat.le_refl _) (.cells #[.int .u8 tg, .slice bo body.length bcap] 47)
      have HBA := hide hbA
      have HBW := hide (HBk.out.alloc hsz (.cells #[.int .u8 tg, .slice bo body.length bcap] 47))
      have hgs := tot_get HX.out
      have htl := encs_len (bl.take k)
      have HGS := hide (show (imgHead kind bl.length ++ encs (bl.take k)).length + (enc tg body).length ≤ 140737488355100 ∧ body.length ≤ 140737488355000 ∧ (enc tg body).length ≤ 140737488355000 by
        have h1 := HT.out
        have h2 := enc_len tg body
        have h3 := HHL.out
        simp only at hgs
        rw [List.length_append]
        omega)
      clear hbA hgs htl
      go_wp2_with fail
      by_cases h0 : tg = 0
      · subst h0
        refine (encode_zero _ E0 (err_below HE.out HBW.out (by omega)) _).mono ?_
        rintro e w6 ⟨rfl, hb6⟩
        have HB6 := hide (HBW.out.trans (hb6.mono HBW.out.size))
        go_wp2
        go_ret2
        exact ⟨HB6.out, .inl ⟨⟨_, List.mem_of_getElem? HX.out, rfl⟩, rfl⟩⟩
      · have H0 := hide h0
        clear h0
        refine (encode_pos _ (zip_below HZ.out HBW.out hg) (by have := HBW.out.size; omega) tg HTG.out H0.out _ body (src_keep HSRC.out HBA.out) (by have := HGS.out.2.1; omega)).mono ?_
        rintro e w6 ⟨g6, rfl, _, hh6, hb6⟩
        have HB6 := hide (HBW.out.trans (hb6.mono HBW.out.size))
        have HW6 := hide (writer_keep HW.out (HBA.out.trans (hb6.mono HBA.out.size)))
        have HS6 := hide (src_block hh6 (enc_lt HTG.out HSRC.out.1 (by have := HGS.out.2.1; rw [Uv.u64_eq]; omega)) (by have := HGS.out.2.2; omega))
        clear hb6 hh6
        go_wp2_with fail
        refine (writer_raw w6 _ _ _ (enc tg body) _ HW6.out HB6.out.size HS6.out (by have := HGS.out.1; omega)).mono ?_
        rintro e w7 ⟨rfl, hW7, hb7⟩
        have hW7' : WriterIs w7 w.heap.size w.heap.size (imgHead kind bl.length ++ encs (bl.take (k + 1))) := by
          rw [List.take_add_one, HX.out, encs_app, Option.toList_some, encs_one, ← List.append_assoc]
          exact hW7
        have HW7 := hide hW7'
        have HB7 := hide (HB6.out.trans hb7)
        have HP7 := hide (show ∀ x ∈ bl.take (k + 1), x.1 ≠ 0 by
          intro x hx
          rw [List.take_add_one, HX.out] at hx
          rcases List.mem_append.1 hx with h | h
          · exact HP.out x h
          · simp at h; subst h; exact H0.out)
        have hwk : IntKind.i64.wrap ((k : Int) + 1) = ((k + 1 : Nat) : Int) := by have := HT.out; have := HLT.out; rw [IntKind.wrap_i64]; omega
        clear hW7 hW7' hb7
        go_wp2
        go_roundw
        case rel => exact ⟨k + 1, hlt, rfl, HP7.out, HW7.out, HB7.out⟩
        case measure => simp [intOf]; omega
    · have hke : k = bl.length := by omega
      subst hke
      have HWB := hide (show WriterIs wr w.heap.size w.heap.size (imgBody kind bl) by have := HW.out; rw [List.take_length] at this; exact this)
      have HPP := hide (show ∀ x ∈ bl, x.1 ≠ 0 by have := HP.out; rw [List.take_length] at this; exact this)
      clear HW HP
      have hbl := blocks_ok HB.out HT.out
      have HBL := hide (imgBody_lt HK.out HU.out hbl)
      have HLB := hide (show (imgBody kind bl).length ≤ 140737488355100 by have := imgBody_len kind bl; have := HT.out; omega)
      have HE2 := hide (show img kind bl = imgBody kind bl ++ Uv.word (seal_ (imgBody kind bl)) from rfl)
      have HIL := hide (img_lt HK.out HU.out hbl)
      have HSL := hide (seal_lt' HBL.out)
      clear hbl
      generalize imgBody kind bl = ib at HWB HBL HLB HE2 HSL
      go_wp2_with fail
      refine (writer_bytes wr _ _ ib HWB.out HBL.out (by have := HLB.out; omega)).mono ?_
      rintro e w6 ⟨rfl, hh6, hb6⟩
      have HB6 := hide (HBk.out.trans (hb6.mono hsz))
      have HW6 := hide (writer_keep HWB.out hb6)
      have HS6 := hide (src_block hh6 HBL.out (by have := HLB.out; omega))
      clear hh6 hb6
      go_wp2_with fail
      refine (seal_any w6 (seal_below HS.out HB6.out (by omega)) _ ib HS6.out (by have := HLB.out; omega)).mono ?_
      rintro e w' ⟨rfl, rfl⟩
      go_wp2_with fail
      refine (writer_word w6 _ _ (seal_ ib) ib HW6.out (by have := HLB.out; omega)).mono ?_
      rintro e w7 ⟨rfl, hW7, hb7⟩
      rw [← HE2.out] at hW7
      have HW7 := hide hW7
      have HB7 := hide (HB6.out.trans hb7)
      clear hW7 hb7
      go_wp2_with fail
      refine (writer_bytes w7 _ _ (img kind bl) HW7.out HIL.out (by have := HLB.out; rw [HE2.out, List.length_append]; have : (Uv.word (seal_ ib)).length = 4 := rfl; omega)).mono ?_
      rintro e w8 ⟨rfl, hh8, hb8⟩
      have HB8 := hide (HB7.out.trans (hb8.mono HB7.out.size))
      have HH8 := hide hh8
      clear hh8 hb8
      go_wp2
      go_ret2
      exact ⟨HB8.out, .inr ⟨HPP.out, _, rfl, HH8.out⟩⟩

theorem blocks_form {w : World} {v : Value} {bl : List Bl} (h : Blocks w v bl) : ∃ ao cap, v = .slice ao bl.length cap ∧ ∀ (k : Nat) (x : Bl), bl[k]? = some x → ∃ ad, ao = some ad ∧ BlkAt w (ad.add (2 * k)) x := by
  rcases h with ⟨rfl, rfl⟩ | ⟨ad, cap, rfl, _, _, h4⟩
  · exact ⟨none, 0, rfl, by simp⟩
  · exact ⟨some ad, cap, rfl, fun k x hk => ⟨ad, rfl, h4 k x hk⟩⟩
theorem pack_any (w : World) (Z : Zip w) (S : SealT w) (E0 : Addr) (hE : ErrAt w 0 E0) (hg : 16 < w.heap.size) (kind : Nat) (hk : kind < 256) (hk0 : kind ≠ 0) (v : Value) (bl : List Bl) (hB : Blocks w v bl) (ht : tot bl ≤ 140737488355000) :
    Calls Tryd.prog 33 #[.int .u8 kind, v] w (PackOut w E0 kind bl) := by
  obtain ⟨ao, cap, rfl, h⟩ := blocks_form hB
  exact pack_some w Z S E0 hE hg kind hk hk0 bl ao cap h ht
end Go.Proofs.YtgebekklkodpaaaDoor
