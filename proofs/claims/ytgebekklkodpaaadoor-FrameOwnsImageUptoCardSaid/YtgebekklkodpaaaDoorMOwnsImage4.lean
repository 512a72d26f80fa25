/- texts of this proof, one behind the other: Pk Cp Up Up2 Sp Im RefPk -/
import Derived.Test.YtgebekklkodpaaaDoorMOwnsImage0
import Derived.Test.YtgebekklkodpaaaDoorMOwnsImage1
import Derived.Test.YtgebekklkodpaaaDoorMOwnsImage2
import Derived.Test.YtgebekklkodpaaaDoorMOwnsImage3
import Derived.Deep.DeepCutAuto
/-! Pk: frame.Pack -/
namespace Go.Proofs.YtgebekklkodpaaaDoor
open Go.RowKit

theorem src_cncd (w : World) (b : Nat) (fr : Nat × Nat) (hh : w.heap[b]? = some (.cells #[.int .u8 99, .int .u8 110, .int .u8 99, .int .u8 100] 5 fr)) :
    Src w (.slice (some ⟨b, 0, none⟩) 4 4) [99, 110, 99, 100] := src_block (bs := [99, 110, 99, 100]) hh (by decide) (by decide)

set_option maxRecDepth 100000 in
theorem pack_zero (w : World) (a : Addr) (hE : ErrAt w 0 a) (ao : Option Addr) (n cap : Nat) :
    Calls Tryd.prog 33 #[.int .u8 0, .slice ao n cap] w fun e w' => e = .returned (.tuple #[.slice none 0 0, .iface 124 (.pointer (some a))]) ∧ Below w.heap.size w w' := by
  unfold ErrAt at hE
  go_enter Tryd.func33, Tryd.ntmps33
  go_wp2
  go_quiet (fail)
  go_wp2
  go_ret2
  exact ⟨rfl, below_drewN (Below.refl _ _) _⟩

theorem blocks_ok {w : World} {ao : Option Addr} {bl : List Bl} (hB : ∀ (k : Nat) (x : Bl), bl[k]? = some x → ∃ ad, ao = some ad ∧ BlkAt w (ad.add (2 * k)) x) (ht : tot bl ≤ 140737488355000) :
    ∀ x ∈ bl, x.1 < 256 ∧ (∀ y ∈ x.2, y < 256) ∧ x.2.length < Uv.u64 := by
  intro x hx
  obtain ⟨k, hk⟩ := List.getElem?_of_mem hx
  obtain ⟨ad, _, h1, bv, _, _, h4⟩ := hB k x hk
  have := get_tot hx
  exact ⟨h1, h4.1, by rw [Uv.u64_eq]; omega⟩
theorem img_lt {kind : Nat} {bl : List Bl} (hk : kind < 256) (hn : bl.length < Uv.u64) (h : ∀ x ∈ bl, x.1 < 256 ∧ (∀ y ∈ x.2, y < 256) ∧ x.2.length < Uv.u64) : ∀ y ∈ img kind bl, y < 256 := by
  intro y hy
  rcases List.mem_append.1 hy with h1 | h1
  · exact imgBody_lt hk hn h y h1
  · exact word_lt _ y h1

/-- what Pack answers -/
def PackOut (w : World) (E0 : Addr) (kind : Nat) (bl : List Bl) (e : Ending) (w' : World) : Prop :=
  Below w.heap.size w w' ∧ (((∃ x ∈ bl, x.1 = 0) ∧ e = .returned (.tuple #[.slice none 0 0, .iface 124 (.pointer (some E0))])) ∨
    ((∀ x ∈ bl, x.1 ≠ 0) ∧ ∃ g, e = .returned (.tuple #[.slice (some ⟨g, 0, none⟩) (img kind bl).length (img kind bl).length, .nilIface]) ∧ w'.heap[g]? = some (.cells (u8s (img kind bl)).toArray 5 (0, 0))))

set_option maxRecDepth 100000 in
set_option maxHeartbeats 4000000 in
theorem pack_some (w : World) (Z : Zip w) (S : SealT w) (E0 : Addr) (hE : ErrAt w 0 E0) (hg : 16 < w.heap.size) (kind : Nat) (hk : kind < 256) (hk0 : kind ≠ 0) (bl : List Bl) (ao : Option Addr) (cap : Nat)
    (hB : ∀ (k : Nat) (x : Bl), bl[k]? = some x → ∃ ad, ao = some ad ∧ BlkAt w (ad.add (2 * k)) x) (ht : tot bl ≤ 140737488355000) :
    Calls Tryd.prog 33 #[.int .u8 kind, .slice ao bl.length cap] w (PackOut w E0 kind bl) := by
  have hk1 : ((kind : Int) == 0) = false := by simp; omega
  have HZ := hide Z
  have HS := hide S
  have HE := hide hE
  have HB := hide hB
  have HT := hide ht
  have HK := hide hk
  have HLT := hide (len_tot bl)
  have HU := hide (show bl.length < Uv.u64 by have := len_tot bl; rw [Uv.u64_eq]; omega)
  have hw : IntKind.u64.wrap (bl.length : Int) = (bl.length : Int) := by have := HU.out; rw [Uv.u64_eq] at this; rw [IntKind.wrap_u64]; omega
  have kc := fun (w : World) (C : Array Value) (n c : Nat) => Lib.run_convert_bytes_const (P := Tryd.prog) w 25 5 C n c Tryd.underlying25 Tryd.underlying5
  clear Z S hE hB ht hk hk0
  go_enter Tryd.func33, Tryd.ntmps33
  go_wp2_with fail
  refine (new_writer w).mono ?_
  rintro e w1 ⟨rfl, hW, hb1⟩
  have HW1 := hide hW
  have HB1 := hide hb1
  clear hW hb1
  go_wp2_with fail
  have HB2 := hide (HB1.out.alloc HB1.out.size (.cells #[.int .u8 99, .int .u8 110, .int .u8 99, .int .u8 100] 5 (4, 5)))
  have hs1 := HB1.out.size
  have HW2 := hide (writer_keep HW1.out ((Below.refl w1.heap.size w1).alloc (Nat.le_refl _) (.cells #[.int .u8 99, .int .u8 110, .int .u8 99, .int .u8 100] 5 (4, 5))))
  refine (writer_raw _ _ _ [] [99, 110, 99, 100] _ HW2.out HB2.out.size (src_cncd _ _ _ (heap_new rfl _)) (by simp)).mono ?_
  rintro e w3 ⟨rfl, hW, hb3⟩
  have HW3 := hide hW
  have HB3 := hide (HB2.out.trans hb3)
  clear hW hb3 HB2 HW2 HB1 HW1 hs1
  go_wp2_with fail
  refine (writer_byte w3 _ _ kind _ HW3.out (by simp)).mono ?_
  rintro e w4 ⟨rfl, hW, hb4⟩
  have HW4 := hide hW
  have HB4 := hide (HB3.out.trans hb4)
  clear hW hb4 HW3 HB3
  go_wp2_with fail
  refine (writer_uvarint w4 _ _ bl.length _ HU.out HW4.out (by simp)).mono ?_
  rintro e w5 ⟨rfl, hW, hb5⟩
  have hW' : WriterIs w5 w.heap.size w.heap.size (imgHead kind bl.length) := hW
  have HW5 := hide hW'
  have HB5 := hide (HB4.out.trans hb5)
  have HHL := hide (imgHead_len kind bl.length)
  clear hW hb5 HW4 HB4 hW'
  go_wp2_with fail
  go_loopw [29] (fun c wr => ∃ k : Nat, k ≤ bl.length ∧ c = .int .i64 k ∧ (∀ x ∈ bl.take k, x.1 ≠ 0) ∧ WriterIs wr w.heap.size w.heap.size (imgHead kind bl.length ++ encs (bl.take k)) ∧ Below w.heap.size w wr) (fun c _ => bl.length - (intOf c).toNat)
  case atStart => exact ⟨0, by simp, rfl, by simp, by simpa [encs] using HW5.out, HB5.out⟩
  case round =>
    obtain ⟨k, hkl, rfl, hpre, hW, hb⟩ := hrel
    have HW := hide hW
    have HBk := hide hb
    have HP := hide hpre
    have hsz := hb.size
    clear hW hb hpre
    by_cases hlt : k < bl.length
    · obtain ⟨⟨tg, body⟩, hx⟩ : ∃ x, bl[k]? = some x := ⟨_, List.getElem?_eq_getElem hlt⟩
      obtain ⟨ad, rfl, hblk⟩ := HB.out k _ hx
      obtain ⟨htg, bv, hc0, hc1, hsrc⟩ := blk_keep hblk HBk.out
      clear hblk
      obtain ⟨bo, bcap, rfl⟩ := src_form hsrc
      have HX := hide hx
      have HSRC := hide hsrc
      have HTG := hide htg
      rw [Nat.mul_comm 2 k] at hc0 hc1
      have hc1' : wr.cell? { block := (ad.add (k * 2)).block, off := (ad.add (k * 2)).off + 1 } = some (.slice bo body.length bcap) := hc1
      simp only at hc0
      clear hx hsrc htg
      have hbA := (Below.refl wr.heap.size wr).alloc (Nat.le_refl _) (.cells #[.int .u8 tg, .slice bo body.length bcap] 47)
      have HBA := hide hbA
      have HBW := hide (HBk.out.alloc hsz (.cells #[.int .u8 tg, .slice bo body.length bcap] 47))
      have hgs := tot_get HX.out
      have htl := encs_len (bl.take k)
      have HGS := hide (show (imgHead kind bl.length ++ encs (bl.take k)).length + (enc tg body).length ≤ 140737488355100 ∧ body.length ≤ 140737488355000 ∧ (enc tg body).length ≤ 140737488355000 by
        have h1 := HT.out
        have h2 := enc_len tg body
        have h3 := HHL.out
        simp only at hgs
        rw [List.length_append]
        omega)
      clear hbA hgs htl
      go_wp2_with fail
      by_cases h0 : tg = 0
      · subst h0
        refine (encode_zero _ E0 (err_below HE.out HBW.out (by omega)) _).mono ?_
        rintro e w6 ⟨rfl, hb6⟩
        have HB6 := hide (HBW.out.trans (hb6.mono HBW.out.size))
        go_wp2
        go_ret2
        exact ⟨HB6.out, .inl ⟨⟨_, List.mem_of_getElem? HX.out, rfl⟩, rfl⟩⟩
      · have H0 := hide h0
        clear h0
        refine (encode_pos _ (zip_below HZ.out HBW.out hg) (by have := HBW.out.size; omega) tg HTG.out H0.out _ body (src_keep HSRC.out HBA.out) (by have := HGS.out.2.1; omega)).mono ?_
        rintro e w6 ⟨g6, rfl, _, hh6, hb6⟩
        have HB6 := hide (HBW.out.trans (hb6.mono HBW.out.size))
        have HW6 := hide (writer_keep HW.out (HBA.out.trans (hb6.mono HBA.out.size)))
        have HS6 := hide (src_block hh6 (enc_lt HTG.out HSRC.out.1 (by have := HGS.out.2.1; rw [Uv.u64_eq]; omega)) (by have := HGS.out.2.2; omega))
        clear hb6 hh6
        go_wp2_with fail
        refine (writer_raw w6 _ _ _ (enc tg body) _ HW6.out HB6.out.size HS6.out (by have := HGS.out.1; omega)).mono ?_
        rintro e w7 ⟨rfl, hW7, hb7⟩
        have hW7' : WriterIs w7 w.heap.size w.heap.size (imgHead kind bl.length ++ encs (bl.take (k + 1))) := by
          rw [List.take_add_one, HX.out, encs_app, Option.toList_some, encs_one, ← List.append_assoc]
          exact hW7
        have HW7 := hide hW7'
        have HB7 := hide (HB6.out.trans hb7)
        have HP7 := hide (show ∀ x ∈ bl.take (k + 1), x.1 ≠ 0 by
          intro x hx
          rw [List.take_add_one, HX.out] at hx
          rcases List.mem_append.1 hx with h | h
          · exact HP.out x h
          · simp at h; subst h; exact H0.out)
        have hwk : IntKind.i64.wrap ((k : Int) + 1) = ((k + 1 : Nat) : Int) := by have := HT.out; have := HLT.out; rw [IntKind.wrap_i64]; omega
        clear hW7 hW7' hb7
        go_wp2
        go_roundw
        case rel => exact ⟨k + 1, hlt, rfl, HP7.out, HW7.out, HB7.out⟩
        case measure => simp [intOf]; omega
    · have hke : k = bl.length := by omega
      subst hke
      have HWB := hide (show WriterIs wr w.heap.size w.heap.size (imgBody kind bl) by have := HW.out; rw [List.take_length] at this; exact this)
      have HPP := hide (show ∀ x ∈ bl, x.1 ≠ 0 by have := HP.out; rw [List.take_length] at this; exact this)
      clear HW HP
      have hbl := blocks_ok HB.out HT.out
      have HBL := hide (imgBody_lt HK.out HU.out hbl)
      have HLB := hide (show (imgBody kind bl).length ≤ 140737488355100 by have := imgBody_len kind bl; have := HT.out; omega)
      have HE2 := hide (show img kind bl = imgBody kind bl ++ Uv.word (seal_ (imgBody kind bl)) from rfl)
      have HIL := hide (img_lt HK.out HU.out hbl)
      have HSL := hide (seal_lt' HBL.out)
      clear hbl
      generalize imgBody kind bl = ib at HWB HBL HLB HE2 HSL
      go_wp2_with fail
      refine (writer_bytes wr _ _ ib HWB.out HBL.out (by have := HLB.out; omega)).mono ?_
      rintro e w6 ⟨rfl, hh6, hb6⟩
      have HB6 := hide (HBk.out.trans (hb6.mono hsz))
      have HW6 := hide (writer_keep HWB.out hb6)
      have HS6 := hide (src_block hh6 HBL.out (by have := HLB.out; omega))
      clear hh6 hb6
      go_wp2_with fail
      refine (seal_any w6 (seal_below HS.out HB6.out (by omega)) _ ib HS6.out (by have := HLB.out; omega)).mono ?_
      rintro e w' ⟨rfl, rfl⟩
      go_wp2_with fail
      refine (writer_word w6 _ _ (seal_ ib) ib HW6.out (by have := HLB.out; omega)).mono ?_
      rintro e w7 ⟨rfl, hW7, hb7⟩
      rw [← HE2.out] at hW7
      have HW7 := hide hW7
      have HB7 := hide (HB6.out.trans hb7)
      clear hW7 hb7
      go_wp2_with fail
      refine (writer_bytes w7 _ _ (img kind bl) HW7.out HIL.out (by have := HLB.out; rw [HE2.out, List.length_append]; have : (Uv.word (seal_ ib)).length = 4 := rfl; omega)).mono ?_
      rintro e w8 ⟨rfl, hh8, hb8⟩
      have HB8 := hide (HB7.out.trans (hb8.mono HB7.out.size))
      have HH8 := hide hh8
      clear hh8 hb8
      go_wp2
      go_ret2
      exact ⟨HB8.out, .inr ⟨HPP.out, _, rfl, HH8.out⟩⟩

theorem blocks_form {w : World} {v : Value} {bl : List Bl} (h : Blocks w v bl) : ∃ ao cap, v = .slice ao bl.length cap ∧ ∀ (k : Nat) (x : Bl), bl[k]? = some x → ∃ ad, ao = some ad ∧ BlkAt w (ad.add (2 * k)) x := by
  rcases h with ⟨rfl, rfl⟩ | ⟨ad, cap, rfl, _, _, h4⟩
  · exact ⟨none, 0, rfl, by simp⟩
  · exact ⟨some ad, cap, rfl, fun k x hk => ⟨ad, rfl, h4 k x hk⟩⟩
theorem pack_any (w : World) (Z : Zip w) (S : SealT w) (E0 : Addr) (hE : ErrAt w 0 E0) (hg : 16 < w.heap.size) (kind : Nat) (hk : kind < 256) (hk0 : kind ≠ 0) (v : Value) (bl : List Bl) (hB : Blocks w v bl) (ht : tot bl ≤ 140737488355000) :
    Calls Tryd.prog 33 #[.int .u8 kind, v] w (PackOut w E0 kind bl) := by
  obtain ⟨ao, cap, rfl, h⟩ := blocks_form hB
  exact pack_some w Z S E0 hE hg kind hk hk0 bl ao cap h ht
end Go.Proofs.YtgebekklkodpaaaDoor

/-! Cp: the law's 'copied': blocks as new memory -/
namespace Go.Proofs.YtgebekklkodpaaaDoor
open Go.RowKit

theorem step_run {ops : Array Oper} {o : Oper} {a : Act} {K : Act → World → Prop} {Q : Exit → Act → World → Prop} {E : Prop} (t : TypeId) (w w' : World) (v u v' : Value) (hgd : o.guard = none) (s y : Operand)
    (ho : o.op = .call { callee := .builtin .append, args := #[s, y], argTypes := #[t, t] }) (hs : a.eval s = v) (hy : a.eval y = u) (hr : (Builtin.append_ #[t, t] o.type #[v, u]).run Tryd.prog w = .ok v' w') (h : K (a.put o.dst v') w') :
    if Region.wanted o (yielded ops a.tmps) = true then Oper.wp Tryd.prog o a w K Q else E := by
  have hw : Region.wanted o (yielded ops a.tmps) = true := by simp [Region.wanted, hgd]
  rw [if_pos hw]
  unfold Oper.wp execOp
  simp only [ho, resolve, invoke, builtin, Sem.run_bind, Sem.run_pure, Result.andThen_ok, List.map_toArray, List.map_cons, List.map_nil, hs, hy, hr]
  exact h
set_option maxRecDepth 100000 in
theorem run_src (w : World) (B : Nat) (v xv : Value) (cur bs : List Nat) (ty : TypeId) (hown : Own w B v cur) (hsrc : Src w xv bs) (hl : cur.length + bs.length ≤ 140737488355328) (hB : B ≤ w.heap.size) :
    ∃ v' w', (Builtin.append_ #[25, 25] ty #[v, xv]).run Tryd.prog w = .ok v' w' ∧ Own w' B v' (cur ++ bs) ∧ w.grownBy w' v.ownBlock := by
  obtain ⟨i0, hi, hz0, hz1, hz2⟩ := info_parts info5
  rcases hsrc with ⟨_, ⟨rfl, rfl⟩ | ⟨ad, cap, rfl, _, _, hc⟩⟩
  · refine ⟨v, w, run_append_owned_none (P := Tryd.prog) (w := w) B 25 ty 5 i0 1 Tryd.underlying25 hi v cur.length (u8s cur) hown, ?_, ⟨rfl, rfl, rfl, Nat.le_refl _, fun _ _ _ => rfl⟩⟩
    rw [List.append_nil]
    exact hown
  · obtain ⟨v', w', h1, h2, h3, _⟩ := run_append_own (P := Tryd.prog) w B 25 ty 5 i0 (.int .u8 0) 1 1 Tryd.underlying25 hi hz0 hz1 hz2 rfl (by decide) v cur.length (u8s cur) hown ad bs.length cap (u8s bs) (by simp [u8s_len]) (src_news hc) (u8s_one _) (by simp only [maxLen]; omega) (by omega) hB
    refine ⟨v', w', h1, ?_, h3⟩
    unfold Own
    rw [u8s_app, List.length_append]
    exact h2
set_option maxRecDepth 100000 in
theorem run_blkF (w : World) (B g : Nat) (v : Value) (its : List It) (x : It) (ty : TypeId) (hown : BFam w B v its) (hx : x.1 < 256) (hbo : Own w B x.2.1 x.2.2) (hb256 : ∀ y ∈ x.2.2, y < 256) (hne : ∀ y ∈ its, ∀ g, y.2.1.ownBlock = some g → x.2.1.ownBlock ≠ some g)
    (hh : w.heap[g]? = some (.cells #[.int .u8 (x.1 : Nat), x.2.1] 47 (0, 0))) (hl : its.length ≤ 1099511627776) (hB : B ≤ w.heap.size) :
    ∃ v' w', (Builtin.append_ #[38, 38] ty #[v, .slice (some ⟨g, 0, none⟩) 1 1]).run Tryd.prog w = .ok v' w' ∧ BFam w' B v' (its ++ [x]) ∧ w.grownBy w' v.ownBlock := by
  obtain ⟨i0, hi, hz0, hz1, hz2⟩ := info_parts info47
  obtain ⟨ax, cx, ex⟩ := row_shape hbo
  obtain ⟨v', w', h1, hown', hg, _⟩ := run_append_own (P := Tryd.prog) w B 38 ty 47 i0 (.agg #[.int .u8 0, .slice none 0 0]) 2 32 Tryd.underlying38 hi hz0 hz1 hz2 rfl (by decide) v its.length (cellsOf its) hown.1 ⟨g, 0, none⟩ 1 1 (cellsOf [x]) rfl (news_one hh) (cells_one x ⟨_, _, _, ex⟩) (by simp only [maxLen]; omega) (by omega) hB
  refine ⟨v', w', h1, ⟨?_, ?_, ?_⟩, hg⟩
  · rw [cellsOf_app, List.length_append]
    exact hown'
  · intro y hy
    rcases List.mem_append.1 hy with hy | hy
    · exact hown.2.1 y hy
    · simp at hy
      subst hy
      exact hx
  · have h5 := notTy_row hown.1 (t := 5) (by decide)
    rw [List.map_append]
    refine fam_snoc (fam_kept hown.2.2 hg h5) (row_kept hbo hg h5) hb256 ?_
    intro r hr q hq
    obtain ⟨y, hy, rfl⟩ := List.mem_map.1 hr
    exact hne y hy q hq

set_option maxRecDepth 100000 in
set_option maxHeartbeats 4000000 in
theorem copied_any (w : World) (v : Value) (bl : List Bl) (hv : Blocks w v bl) (hok : ∀ x ∈ bl, x.1 < 256 ∧ (∀ y ∈ x.2, y < 256) ∧ x.2.length ≤ 140737488355000) (hl : bl.length ≤ 1099511627776) :
    Calls Tryd.prog 50 #[v] w fun e w' => ∃ v' its, e = .returned v' ∧ blOf its = bl ∧ BFam w' w.heap.size v' its ∧ Below w.heap.size w w' := by
  obtain ⟨ao, cap, rfl⟩ := blocks_form' hv
  have HV := hide hv
  have HOK := hide hok
  clear hv hok
  have HF0 := hide (bfam_nil w w.heap.size (Nat.le_refl _))
  have HB0 := hide ((Below.refl w.heap.size w).alloc (Nat.le_refl _) (.cells #[] 47))
  go_enter Tryd.func50, Tryd.ntmps50
  go_wp2_with fail
  go_loopw [3, 9] (fun s3 c wr => ∃ (i : Nat) (its : List It), i ≤ bl.length ∧ c = .int .i64 i ∧ blOf its = bl.take i ∧ BFam wr w.heap.size s3 its ∧ Below w.heap.size w wr) (fun _ c _ => bl.length - (intOf c).toNat)
  case atStart => exact ⟨0, [], by omega, rfl, rfl, HF0.out, HB0.out⟩
  case round =>
    obtain ⟨i, its, hi, rfl, hbl, hf, hb⟩ := hrel
    have hil : its.length = i := by have := congrArg List.length hbl; simp [blOf] at this; omega
    obtain ⟨ar, cr, rfl⟩ := row_shape hf.1
    have HIL := hide hil
    clear hil
    have HF := hide hf
    have HB := hide hb
    have HBL := hide hbl
    have hsr := hb.size
    clear hf hb hbl
    by_cases hlt : i < bl.length
    · obtain ⟨x, hx⟩ : ∃ x, bl[i]? = some x := ⟨_, List.getElem?_eq_getElem hlt⟩
      obtain ⟨ad, bv, rfl, c0, c1, hs1⟩ := blocks_get (blocks_keep HV.out HB.out) hx
      have hi1 : (i : Int) < (bl.length : Int) := by omega
      have HX := hide (HOK.out x (List.mem_of_getElem? hx))
      have HXI := hide hx
      have hq : Below wr.heap.size wr (wr.alloc (.cells #[.int .u8 (x.1 : Nat), bv] 47)) := (Below.refl _ _).alloc (Nat.le_refl _) _
      obtain ⟨d0, d1⟩ := cells2 (heap_new (w := wr) rfl (.cells #[.int .u8 (x.1 : Nat), bv] 47))
      have HS2 := hide (src_keep hs1 hq)
      obtain ⟨ax, cx, rfl⟩ := src_form hs1
      have hlt1 : wr.heap.size < (wr.alloc (.cells #[.int .u8 (x.1 : Nat), .slice ax x.2.length cx] 47)).heap.size := by rw [World.size_alloc]; omega
      clear hx hs1
      go_wp2_with fail
      have HQ1 := hide hq
      have z01 := hq.size
      clear hq
      generalize wr.alloc (.cells #[.int .u8 (x.1 : Nat), .slice ax x.2.length cx] 47) = w1 at *
      have HQ2 := hide (show Below w1.heap.size w1 (w1.drew.alloc (.cells #[] 5)) from (Below.refl w1.heap.size w1).drew.alloc (Nat.le_refl _) _)
      have HR3 := hide (run_src (w1.drew.alloc (.cells #[] 5)) w1.heap.size (.slice (some ⟨w1.heap.size, 0, none⟩) 0 0) _ [] x.2 25 (own_lit w1.drew w1.heap.size [] (Nat.le_refl _) (by simp) #[] rfl) (src_keep HS2.out HQ2.out) (by have := HX.out.2.2; simp; omega) HQ2.out.size)
      refine wp_region_noPanic ?_
      refine wp_region_held_drew (S := fun w' => w'.cell? ⟨wr.heap.size, 0, none⟩ = some (.int .u8 (x.1 : Nat)) ∧ w'.cell? ⟨wr.heap.size, 1, none⟩ = some (.slice ax x.2.length cx)) (by kernel_rfl) ⟨d0, d1⟩ (fun hHeld => ?_)
      refine' wpAnyH_take (i := 0) (oi := { dst := some 13, op := Op.move (Operand.tmp 3), type := 38, pos := "law.go:58", after := #[], guard := none }) (v := ?v0) rfl (by kernel_rfl) (by kernel_rfl) (by kernel_rfl) (fun _ _ _ h => h) (Or.inl ⟨by rfl, ?y0⟩) (by assumption) ?r0
      case y0 => (intro w hSw; (try dsimp only at hSw); go_simp; try with_reducible rfl)
      try simp only [Act.put, List.setIfInBounds_toArray, List.set_cons_zero, List.set_cons_succ]
      refine' wpAnyH_take (i := 1) (oi := { dst := some 14, op := Op.fieldAddr 47 (Operand.tmp 5) 0, type := 0, pos := "law.go:58", after := #[], guard := none }) (v := ?v1) rfl (by kernel_rfl) (by kernel_rfl) (by kernel_rfl) (fun _ _ _ h => h) (Or.inl ⟨by rfl, ?y1⟩) (by assumption) ?r1
      case y1 => (intro w hSw; (try dsimp only at hSw); go_simp; try with_reducible rfl)
      try simp only [Act.put, List.setIfInBounds_toArray, List.set_cons_zero, List.set_cons_succ]
      refine' wpAnyH_take (i := 2) (oi := { dst := some 15, op := Op.load 5 (Operand.tmp 14), type := 5, pos := "law.go:58", after := #[{ on := 1, ground := Ground.data }], guard := none }) (v := ?v2) rfl (by kernel_rfl) (by kernel_rfl) (by kernel_rfl) (fun _ _ _ h => h) (Or.inl ⟨by rfl, ?y2⟩) (by assumption) ?r2
      case y2 => (intro w hSw; obtain ⟨q0, q1⟩ := hSw; go_simp; try with_reducible rfl)
      try simp only [Act.put, List.setIfInBounds_toArray, List.set_cons_zero, List.set_cons_succ]
      refine' wpAnyH_take (i := 4) (oi := { dst := some 17, op := Op.fieldAddr 47 (Operand.tmp 5) 1, type := 0, pos := "law.go:58", after := #[], guard := none }) (v := ?v4) rfl (by kernel_rfl) (by kernel_rfl) (by kernel_rfl) (fun _ _ _ h => h) (Or.inl ⟨by rfl, ?y4⟩) (by assumption) ?r4
      case y4 => (intro w hSw; (try dsimp only at hSw); go_simp; try with_reducible rfl)
      try simp only [Act.put, List.setIfInBounds_toArray, List.set_cons_zero, List.set_cons_succ]
      refine' wpAnyH_take (i := 5) (oi := { dst := some 18, op := Op.load 25 (Operand.tmp 17), type := 25, pos := "law.go:58", after := #[{ on := 4, ground := Ground.data }], guard := none }) (v := ?v5) rfl (by kernel_rfl) (by kernel_rfl) (by kernel_rfl) (fun _ _ _ h => h) (Or.inl ⟨by rfl, ?y5⟩) (by assumption) ?r5
      case y5 => (intro w hSw; obtain ⟨q0, q1⟩ := hSw; go_simp; try with_reducible rfl)
      try simp only [Act.put, List.setIfInBounds_toArray, List.set_cons_zero, List.set_cons_succ]
      refine wpAnyH_ready (rs := [3]) (by kernel_rfl) (by simp) ?_
      refine AllReadyH.cons (o := { dst := some 16, op := Op.buildSlice 25 0 #[], type := 25, pos := "law.go:58", after := #[], guard := none }) rfl (fun K hK => ?_) AllReadyH.nil
      go_simp
      refine hK.out _ _ ⟨(HQ2.out.cell (p := ⟨wr.heap.size, 0, none⟩) hlt1).trans d0, (HQ2.out.cell (p := ⟨wr.heap.size, 1, none⟩) hlt1).trans d1⟩ (fun _ => ?_)
      clear hK K
      try simp only [Act.put, List.setIfInBounds_toArray, List.set_cons_zero, List.set_cons_succ]
      refine wpAnyH_ready (rs := [6]) (by kernel_rfl) (by simp) ?_
      refine AllReadyH.cons (o := { dst := some 19, op := Op.call { callee := Callee.builtin Builtin.append, args := #[Operand.tmp 16, Operand.tmp 18], argTypes := #[25, 25] }, type := 25, pos := "law.go:58", after := #[{ on := 3, ground := Ground.data }, { on := 5, ground := Ground.data }], guard := none }) rfl (fun K hK => ?_) AllReadyH.nil
      obtain ⟨v3, w3, hr3, ho3, hg3⟩ := HR3.out
      refine step_run 25 _ w3 _ _ v3 rfl (.tmp 16) (.tmp 18) rfl rfl rfl hr3 ?_
      have hb3 := HQ2.out.grown hg3 HQ2.out.size (fun k hk => by simp only [Value.ownBlock, Option.some.injEq] at hk; omega)
      have HB3 := hide hb3
      have z3 := hb3.size
      rw [List.nil_append] at ho3
      obtain ⟨a3, c3, rfl⟩ := row_shape ho3
      have HO3 := hide ho3
      refine hK.out _ _ ⟨(HB3.out.cell (p := ⟨wr.heap.size, 0, none⟩) hlt1).trans d0, (HB3.out.cell (p := ⟨wr.heap.size, 1, none⟩) hlt1).trans d1⟩ (fun _ => ?_)
      clear hK K hr3 ho3 hg3 hb3
      try simp only [Act.put, List.setIfInBounds_toArray, List.set_cons_zero, List.set_cons_succ]
      refine' wpAnyH_take (i := 7) (oi := { dst := some 20, op := Op.build 47 #[(0, Operand.tmp 15), (1, Operand.tmp 19)], type := 47, pos := "law.go:58", after := #[{ on := 2, ground := Ground.data }, { on := 6, ground := Ground.data }], guard := none }) (v := ?v7) rfl (by kernel_rfl) (by kernel_rfl) (by kernel_rfl) (fun _ _ _ h => h) (Or.inl ⟨by rfl, ?y7⟩) (by assumption) ?r7
      case y7 => (intro w hSw; (try dsimp only at hSw); go_simp; try with_reducible rfl)
      try simp only [Act.put, List.setIfInBounds_toArray, List.set_cons_zero, List.set_cons_succ]
      refine wpAnyH_ready (rs := [8]) (by kernel_rfl) (by simp) ?_
      refine AllReadyH.cons (o := { dst := some 21, op := Op.buildSlice 38 1 #[(0, Operand.tmp 20)], type := 38, pos := "law.go:58", after := #[{ on := 7, ground := Ground.data }], guard := none }) rfl (fun K hK => ?_) AllReadyH.nil
      go_simp
      have hq4 : Below w3.heap.size w3 (w3.alloc (.cells #[.int .u8 (x.1 : Nat), .slice a3 x.2.length c3] 47)) := (Below.refl w3.heap.size w3).alloc (Nat.le_refl _) _
      have HB4 := hide (HB3.out.trans (hq4.mono z3))
      have HO4 := hide (own_keep HO3.out hq4)
      have HH4 := hide (heap_new (w := w3) rfl (.cells #[.int .u8 (x.1 : Nat), .slice a3 x.2.length c3] 47))
      have z4 := HB4.out.size
      refine hK.out _ _ ⟨(HB4.out.cell (p := ⟨wr.heap.size, 0, none⟩) hlt1).trans d0, (HB4.out.cell (p := ⟨wr.heap.size, 1, none⟩) hlt1).trans d1⟩ (fun _ => ?_)
      clear hK K hq4
      generalize w3.alloc (.cells #[.int .u8 (x.1 : Nat), .slice a3 x.2.length c3] 47) = w4 at *
      try simp only [Act.put, List.setIfInBounds_toArray, List.set_cons_zero, List.set_cons_succ]
      refine wpAnyH_ready (rs := [9]) (by kernel_rfl) (by simp) ?_
      refine AllReadyH.cons (o := { dst := some 22, op := Op.call { callee := Callee.builtin Builtin.append, args := #[Operand.tmp 13, Operand.tmp 21], argTypes := #[38, 38] }, type := 38, pos := "law.go:58", after := #[{ on := 0, ground := Ground.data }, { on := 8, ground := Ground.data }, { on := 6, ground := Ground.chain }], guard := none }) rfl (fun K hK => ?_) AllReadyH.nil
      have hf4 : BFam w4 w.heap.size (.slice ar its.length cr) its := bfam_below HF.out (HQ1.out.trans (HB4.out.mono z01))
      have hrow : ∀ k, (Value.slice ar its.length cr).ownBlock = some k → k < wr.heap.size := fun k hk => (World.ownsRow.lt HF.out.1 k hk).2
      obtain ⟨v5, w5, hr5, hf5, hg5⟩ := run_blkF w4 w.heap.size w3.heap.size (.slice ar its.length cr) its (x.1, .slice a3 x.2.length c3, x.2) 38 hf4 HX.out.1 (row_mono HO4.out (by omega)) HX.out.2.1 (fun y hy q hq e => by
        have h1 := (World.ownsRow.lt (bfam_mem HF.out hy).1 q hq).2
        have h2 := (World.ownsRow.lt HO4.out q e).1
        omega) HH4.out (by have := HIL.out; omega) (by omega)
      refine step_run 38 _ w5 _ _ v5 rfl (.tmp 13) (.tmp 21) rfl rfl rfl hr5 ?_
      have HF5 := hide hf5
      have HB5 := hide ((HB.out.trans (HQ1.out.mono hsr)).trans (HB4.out.mono (by omega)) |>.grown hg5 (by omega) (fun k hk => (World.ownsRow.lt hf4.1 k hk).1))
      have hkeep : w5.heap[wr.heap.size]? = w4.heap[wr.heap.size]? := hg5.block _ (by omega) (fun e => by have := hrow _ e.symm; omega)
      refine hK.out _ _ ⟨(World.cell?_of_block (a := ⟨wr.heap.size, 0, none⟩) hkeep).trans ((HB4.out.cell (p := ⟨wr.heap.size, 0, none⟩) hlt1).trans d0), (World.cell?_of_block (a := ⟨wr.heap.size, 1, none⟩) hkeep).trans ((HB4.out.cell (p := ⟨wr.heap.size, 1, none⟩) hlt1).trans d1)⟩ (fun _ => ?_)
      clear hK K hr5 hf5 hg5 hkeep hf4
      try simp only [Act.put, List.setIfInBounds_toArray, List.set_cons_zero, List.set_cons_succ]
      refine' wpAnyH_take (i := 10) (oi := { dst := some 3, op := Op.assign (Operand.tmp 22), type := 38, pos := "law.go:58", after := #[{ on := 9, ground := Ground.data }, { on := 9, ground := Ground.chain }, { on := 0, ground := Ground.phase }, { on := 1, ground := Ground.phase }, { on := 2, ground := Ground.phase }, { on := 3, ground := Ground.phase }, { on := 4, ground := Ground.phase }, { on := 5, ground := Ground.phase }, { on := 6, ground := Ground.phase }, { on := 7, ground := Ground.phase }, { on := 8, ground := Ground.phase }, { on := 9, ground := Ground.phase }], guard := none }) (v := ?v10) rfl (by kernel_rfl) (by kernel_rfl) (by kernel_rfl) (fun _ _ _ h => h) (Or.inl ⟨by rfl, ?y10⟩) (by assumption) ?r10
      case y10 => (intro w hSw; (try dsimp only at hSw); go_simp; try with_reducible rfl)
      try simp only [Act.put, List.setIfInBounds_toArray, List.set_cons_zero, List.set_cons_succ]
      refine wpAnyH_done (by kernel_rfl) (NoPanic.normal ?_) _
      go_wp2_with fail
      refine ⟨⟨i + 1, _, by omega, by simp, ?_, HF5.out, HB5.out⟩, by simp [intOf]; omega⟩
      rw [blOf_app, HBL.out, List.take_add_one, HXI.out]
      rfl
    · obtain rfl : i = bl.length := by omega
      rw [List.take_length] at HBL
      go_wp2_with fail
      go_ret
      exact ⟨_, its, rfl, HBL.out, HF.out, HB.out⟩
end Go.Proofs.YtgebekklkodpaaaDoor

/-! Up: frame.Unpack -/
namespace Go.Proofs.YtgebekklkodpaaaDoor
open Go.RowKit

def UnpOut (E : Nat → Addr) (B kind : Nat) (im : List Nat) (e : Ending) (w' : World) : Prop :=
  match unp kind im with
  | .inl g => e = .returned (.tuple #[.slice none 0 0, .iface 124 (.pointer (some (E g)))])
  | .inr bl => ∃ v its, blOf its = bl ∧ e = .returned (.tuple #[v, .nilIface]) ∧ BOwn w' B v its
/-- the letters that an image begins with -/
theorem magic_iff (xs : List Nat) (hx : ∀ x ∈ xs, x < 256) : (bstr xs).toList = [99, 110, 99, 100] ↔ xs = [99, 110, 99, 100] := by
  rw [ByteArray.toList_eq]
  constructor
  · intro h
    refine bstr_inj hx (by decide) (ByteArray.ext (Array.toList_inj.1 (h.trans ?_)))
    rfl
  · rintro rfl
    rfl

theorem add_five (ad : Addr) (n : Nat) : (ad.add 5).add n = ⟨ad.block, ad.off + 5 + n, none⟩ := by
  unfold Addr.add
  split <;> simp_all
theorem unpack_short (w : World) (E : Nat → Addr) (h1 : ErrAt w 1 (E 1)) (kind : Nat) (ao : Option Addr) (cap : Nat) (im : List Nat) (hl : im.length < 10) :
    Calls Tryd.prog 47 #[.int .u8 kind, .slice ao im.length cap] w fun e w' => UnpOut E w.heap.size kind im e w' ∧ Below w.heap.size w w' := by
  have hu : unp kind im = .inl 1 := if_pos hl
  have HU := hide hu
  have hl1 : (im.length : Int) < 10 := by omega
  unfold ErrAt at h1
  clear hu
  go_enter Tryd.func47, Tryd.ntmps47
  go_wp2
  go_quiet (fail)
  go_wp2
  go_ret2
  exact ⟨by rw [UnpOut, HU.out]; rfl, below_drewN (Below.refl _ _) _⟩

set_option maxRecDepth 100000 in
set_option maxHeartbeats 4000000 in
theorem unpack_long (w : World) (Z : Zip w) (S : SealT w) (E : Nat → Addr) (h0 : ErrAt w 0 (E 0)) (h1 : ErrAt w 1 (E 1)) (h2 : ErrAt w 2 (E 2)) (h5 : ErrAt w 5 (E 5)) (h6 : ErrAt w 6 (E 6)) (hg : 16 < w.heap.size) (kind : Nat) (hk : kind < 256)
    (ad : Addr) (cap e : Nat) (im : List Nat) (he : im.length = e + 4) (h10 : 6 ≤ e) (hs : Src w (.slice (some ad) (e + 4) cap) im) (hl : im.length ≤ 100000000) :
    Calls Tryd.prog 47 #[.int .u8 kind, .slice (some ad) (e + 4) cap] w fun e w' => UnpOut E w.heap.size kind im e w' ∧ Below w.heap.size w w' := by
  have hcap : e + 4 ≤ cap ∧ cap ≤ 9223372036854775807 := by
    rcases hs.2 with ⟨h, _⟩ | ⟨ad', c', h, ha, hb, _⟩
    · simp at h
    · simp only [Value.slice.injEq] at h
      obtain ⟨_, _, rfl⟩ := h
      exact ⟨by rw [← he]; exact ha, hb⟩
  have hsW : Src w (.slice (some (ad.add e)) (e + 4 - e) (cap - e)) ((im.take (e + 4)).drop e) := src_part hs e (e + 4) (cap - e) (by omega) (by omega) (by omega) (by omega)
  have hsB : Src w (.slice (some (ad.add 0)) (e - 0) cap) ((im.take e).drop 0) := src_part hs 0 e cap (by omega) (by omega) (by omega) (by omega)
  rw [List.take_of_length_le (show im.length ≤ e + 4 by omega), Nat.add_sub_cancel_left] at hsW
  rw [Addr.add_zero', List.drop_zero, Nat.sub_zero] at hsB
  have hget : ∀ k, k < 4 → (im.drop e)[k]? = some (im.getD (e + k) 0) := fun k hk => by
    rw [List.getElem?_drop, List.getD_eq_getElem?_getD, List.getElem?_eq_getElem (by omega)]; rfl
  have HW := hide fun q => word_any (w.drewN q) _ _ (src_drew hsW q) _ _ _ _ (hget 0 (by omega)) (hget 1 (by omega)) (hget 2 (by omega)) (hget 3 (by omega))
  have HSE := hide fun q => seal_any (w.drewN q) (seal_below (B := w.heap.size) S (below_drewN (Below.refl _ _) q) (by omega)) _ _ (src_drew hsB q) (by simp; omega)
  have hww : wordOf (im.getD (e + 0) 0) (im.getD (e + 1) 0) (im.getD (e + 2) 0) (im.getD (e + 3) 0) = wordAt im e := rfl
  rw [hww] at HW
  have hsl := seal_lt' (bs := im.take e) fun x hx => hs.1 x (List.mem_of_mem_take hx)
  have hunp : unp kind im = if wordAt im e ≠ seal_ (im.take e) then .inl 6
    else if kind = 0 ∨ im.take 4 ≠ [99, 110, 99, 100] ∨ im.getD 4 0 ≠ kind then .inl 0
    else if (Nm.num 10 0 ((im.take e).drop 5)).2 ≠ 0 then .inl (Nm.num 10 0 ((im.take e).drop 5)).2
    else blks (Nm.val (((im.take e).drop 5).take (Nm.num 10 0 ((im.take e).drop 5)).1)) (((im.take e).drop 5).drop (Nm.num 10 0 ((im.take e).drop 5)).1) := by
    rw [unp, if_neg (by omega), he, Nat.add_sub_cancel]
  have HUN := hide hunp
  generalize wordAt im e = W at HW HUN
  generalize seal_ (im.take e) = U at HSE HUN hsl
  have HS := hide hs
  have HZ := hide Z
  have HE0 := hide h0
  have HE1 := hide h1
  have HE2 := hide h2
  have HE5 := hide h5
  have HE6 := hide h6
  have i1 : (e : Int) ≤ (cap : Int) := by omega
  have i2 : cap - e ≠ 0 := by omega
  have i3 : cap ≠ e := by omega
  have i4 : e ≤ cap := by omega
  have i5 : e ≤ e + 4 := by omega
  have i6 : ¬ ((e : Int) + 4 < 10) := by omega
  clear hs hsW hsB hget hww hunp Z S h0 h1 h2 h5 h6
  go_enter Tryd.func47, Tryd.ntmps47
  go_wp2_with fail
  by_cases hWU : W = U
  · have HUN := hide (HUN.out.trans (if_neg (by simp [hWU])))
    go_quiet (first | (go_at_call 72; exact Calls.quiet_of (HW.out _)) | (go_at_call 27; exact Calls.quiet_of_same ((HSE.out _).mono fun e w' h => ⟨h.1, h.2.symm⟩)))
    have HB1 := hide (below_drewN (Below.refl w.heap.size w) nq)
    clear HW HSE
    generalize w.drewN nq = w1 at HB1 ⊢
    have hs1 := HB1.out.size
    have hS1 := src_keep HS.out HB1.out
    have hc4 := src_part hS1 0 4 cap (by omega) (by omega) (by omega) (by omega)
    rw [Addr.add_zero', List.drop_zero, Nat.sub_zero] at hc4
    have hstr := src_string hc4
    have hx4 : w1.cell? { block := ad.block, off := ad.off + 4 } = some (.int .u8 ((im.getD 4 0 : Nat) : Int)) := by
      obtain ⟨ad', e1, hc⟩ := src_cell hS1 (show im[4]? = some (im.getD 4 0) from by rw [List.getD_eq_getElem?_getD, List.getElem?_eq_getElem (by omega)]; rfl)
      obtain rfl := Option.some.inj e1
      exact hc
    have hS1 := hide hS1
    by_cases hA : kind = 0 ∨ im.take 4 ≠ [99, 110, 99, 100] ∨ im.getD 4 0 ≠ kind
    · have HUN := hide (HUN.out.trans (if_pos hA))
      have hE := err_below HE0.out HB1.out (by omega)
      unfold ErrAt at hE
      by_cases hk0 : kind = 0
      · subst hk0
        go_wp2_with fail
        go_quiet (fail)
        go_wp2
        go_ret2
        exact ⟨by rw [UnpOut, HUN.out]; rfl, below_drewN HB1.out _⟩
      · have hk1 : ((kind : Int) == 0) = false := by simp; omega
        by_cases ht : im.take 4 = [99, 110, 99, 100]
        · have hk4 : im.getD 4 0 ≠ kind := by rcases hA with h | h | h; exact absurd h hk0; exact absurd ht h; exact h
          have hq := (magic_iff _ (fun x hx => hS1.out.1 x (List.mem_of_mem_take hx))).2 ht
          generalize bstr (im.take 4) = X at hstr hq
          generalize im.getD 4 0 = y at hk4 hx4
          have e1 : ((y : Int) == (kind : Int)) = false := by simp; omega
          have e2 : ((y : Int) = (kind : Int)) = False := by simp; omega
          go_wp2_with fail
          go_quiet (fail)
          go_wp2
          go_ret2
          exact ⟨by rw [UnpOut, HUN.out]; rfl, below_drewN HB1.out _⟩
        · have hq := mt (magic_iff _ (fun x hx => hS1.out.1 x (List.mem_of_mem_take hx))).1 ht
          generalize bstr (im.take 4) = X at hstr hq
          generalize im.getD 4 0 = y at hx4
          go_wp2_with fail
          go_quiet (fail)
          go_wp2
          go_ret2
          exact ⟨by rw [UnpOut, HUN.out]; rfl, below_drewN HB1.out _⟩
    · have HUN := hide (HUN.out.trans (if_neg hA))
      have hk0 : kind ≠ 0 := fun h => hA (.inl h)
      have ht : im.take 4 = [99, 110, 99, 100] := Classical.byContradiction fun h => hA (.inr (.inl h))
      have hy : im.getD 4 0 = kind := Classical.byContradiction fun h => hA (.inr (.inr h))
      have hk1 : ((kind : Int) == 0) = false := by simp; omega
      have hq := (magic_iff _ (fun x hx => hS1.out.1 x (List.mem_of_mem_take hx))).2 ht
      generalize bstr (im.take 4) = X at hstr hq
      rw [hy] at hx4
      have hsR := src_part hS1.out 5 e (cap - 5) (by omega) (by omega) (by omega) (by omega)
      have hRl : ((im.take e).drop 5).length = e - 5 := by rw [List.length_drop, List.length_take]; omega
      have hsub : ∀ z ∈ (im.take e).drop 5, z < 256 := fun z hz => HS.out.1 z (List.mem_of_mem_take (List.mem_of_mem_drop hz))
      have hsRw := src_part HS.out 5 e (cap - 5) (by omega) (by omega) (by omega) (by omega)
      generalize (im.take e).drop 5 = R at hsR hsRw hRl HUN hsub
      have HR := hide fun w' (h : Below w1.heap.size w1 w') => src_keep hsR h
      have HRw := hide fun w' (h : Below w.heap.size w w') => src_keep hsRw h
      have HRL := hide hRl
      have HSU := hide hsub
      have j1 : (5 : Int) ≤ (e : Int) := by omega
      have j2 : cap - 5 ≠ 0 := by omega
      have j3 : cap ≠ 5 := by omega
      have j4 : 5 ≤ e := by omega
      have j5 : 5 ≤ cap := by omega
      have j6 : e - 5 ≤ cap - 5 := by omega
      clear hA hk0 ht hy hsR hsRw hRl hsub
      go_upto_region 9 with (fail)
      generalize hde : e - 5 = d at HR HRw HRL
      have hde2 : cap - 5 ≠ 0 := j2
      have HDE := hide hde
      have hd1 : d + 9 ≤ cap := by omega
      have hd2 : d ≤ 100000000 := by omega
      have hR0 := HR.out w1 (Below.refl _ _)
      have hp1 : 10 < d → Src w1 (.slice (some (ad.add 5)) 10 (cap - 5)) (R.take 10) := fun h => by
        have hrl := HRL.out
        have := src_part hR0 0 10 (cap - 5) (by omega) (by omega) (by omega) (by omega)
        rw [Addr.add_zero', List.drop_zero] at this
        exact this
      have hp2 : ¬ 10 < d → Src w1 (.slice (some (ad.add 5)) d (cap - 5)) (R.take 10) := fun h => by
        have hrl := HRL.out
        rw [List.take_of_length_le (by omega)]
        exact hR0
      have HP1 := hide hp1
      have HP2 := hide hp2
      clear hR0 hp1 hp2 hde hstr hx4 hq
      go_cut [8] (fun s8 wx => ∃ p bv, s8 = .pointer (some ⟨p, 0, none⟩) ∧ w.heap.size ≤ p ∧ RdAt wx p 0 bv (R.take 10).length ∧ Src wx bv (R.take 10) ∧ Below w1.heap.size w1 wx)
      case first =>
        by_cases hd10 : 10 < d
        · have k1 : (10 : Int) < (d : Int) := by omega
          have k2 : 10 ≤ cap - 5 := by omega
          go_wp2_with fail
          refine (new_reader w1 _ (R.take 10) (HP1.out hd10) (by simp; omega)).mono ?_
          rintro e9 w2 ⟨p, bv, rfl, hp, hr, hs, hb⟩
          go_wp2_with fail
          go_meet
          exact ⟨p, bv, rfl, by omega, hr, hs, hb⟩
        · have k1 : (d : Int) ≤ 10 := by omega
          have k2 : d ≤ cap - 5 := by omega
          go_wp2_with fail
          refine (new_reader w1 _ (R.take 10) (HP2.out hd10) (by simp; omega)).mono ?_
          rintro e9 w2 ⟨p, bv, rfl, hp, hr, hs, hb⟩
          go_wp2_with fail
          go_meet
          exact ⟨p, bv, rfl, by omega, hr, hs, hb⟩
      case rest =>
        obtain ⟨p, bv, rfl, hp, hR, hS, hB⟩ := hcut
        have HBc := hide (HB1.out.trans (hB.mono hs1))
        have HRc := hide (HR.out wc hB)
        have hnt := Nm.num_take R (i := 0) (f := 10) (by omega)
        have hout := reader_uvarint wc w.heap.size p bv (R.take 10) hp hR hS (by simp; omega) E (err_below HE1.out HBc.out (by omega)) (err_below HE2.out HBc.out (by omega)) (by omega)
        unfold NumOut at hout
        rw [hnt] at hout
        have HN := hide hout
        clear hnt hR hS hB hout HP1 HP2 HR
        go_wp2_with fail
        refine HN.out.mono ?_
        rintro e9 w2 ⟨hout, hb, hRd⟩
        have HB2 := hide (HBc.out.trans (hb.mono (Nat.le_refl _)))
        have HRd := hide hRd
        clear hb hRd HN HBc
        rcases hout with ⟨hz, rfl⟩ | ⟨hz, rfl⟩ | ⟨hz, rfl⟩
        · obtain ⟨n, hn0⟩ : ∃ n, Nm.num 10 0 R = (n, 0) := ⟨(Nm.num 10 0 R).1, Prod.ext rfl hz⟩
          have hok := Nm.num_ok (by omega) hn0
          have hRD := HRd.out hz
          have hv := Nm.val_ok hn0
          have HUN := hide (HUN.out.trans (if_neg (by rw [hn0]; simp)))
          rw [hn0] at hRD HUN ⊢
          rw [show (R.take 10).take n = R.take n by rw [List.take_take, Nat.min_eq_left (by omega)]]
          simp only at hRD HUN ⊢
          generalize Nm.val (R.take n) = v at hv HUN ⊢
          have hnd : n ≤ d := by have := hok.2.2.1; have := HRL.out; omega
          have HRD := hide hRD
          have hs2 := HB2.out.size
          have hR2 := src_part (HRw.out w (Below.refl _ _)) n d (cap - 5 - n) hnd (by have := HRL.out; omega) (by omega) (by omega)
          rw [List.take_of_length_le (by have := HRL.out; omega)] at hR2
          have hl3 : (R.drop n).length = d - n := by rw [List.length_drop, HRL.out]
          clear hRD hn0 hz HRd hok
          have q1 : (n : Int) ≤ (d : Int) := by omega
          have q2 : cap - 5 - n ≠ 0 := by omega
          have q3 : cap - 5 ≠ n := by omega
          have q4 : n ≤ cap - 5 := by omega
          have HB2' := hide (Below.refl w2.heap.size w2)
          go_wp2_with fail
          refine (at_any w2 p n _ bv HRD.out).mono ?_
          rintro e9 w3 ⟨rfl, rfl⟩
          go_wp2_with fail
          rw [add_five] at hR2
          have HR2 := hide hR2
          have HL3 := hide hl3
          clear hR2 hl3 HRD HRc
          go_loopw [7, 9, 11] (fun s7 s9 s11 wr => ∃ (m : Nat) (r : List Nat) (its : List It) (a : Addr) (c : Nat), s7 = .slice (some a) r.length c ∧ s9 = .int .u64 m ∧ m < 18446744073709551616 ∧ r.length + 4 ≤ c ∧ Src w (.slice (some a) r.length c) r ∧ BOwn wr w.heap.size s11 its ∧
            unp kind im = ahead (blOf its) (blks m r) ∧ its.length + r.length ≤ im.length ∧ Below w.heap.size w wr) (fun _ s9 _ _ => (intOf s9).toNat)
          case atStart =>
            refine ⟨v, R.drop n, [], ⟨ad.block, ad.off + 5 + n, none⟩, cap - 5 - n, by rw [HL3.out], rfl, hv, by rw [HL3.out]; omega, by rw [HL3.out]; exact HR2.out, bown_nil _ _, ?_, by rw [HL3.out]; have := HDE.out; simp only [List.length_nil]; omega, HB2.out⟩
            rw [HUN.out]
            exact (ahead_nil _).symm
          case round =>
            obtain ⟨m, r, its, a, c, rfl, rfl, hm, hrc, hs, hbo, hun, hil, hb⟩ := hrel
            have hlr : r.length ≤ 140737488355328 := by omega
            have HSw := hide hs
            have HS9 := hide (src_keep hs hb)
            have HBO := hide hbo
            have HUN := hide hun
            have HB9 := hide hb
            have hs9 := hb.size
            have hc4 : r.length ≤ c ∧ c ≤ 9223372036854775807 := by
              rcases hs.2 with ⟨h, _⟩ | ⟨ad', c', h, ha, hbb, _⟩
              · simp at h
              · simp only [Value.slice.injEq] at h
                obtain ⟨_, _, rfl⟩ := h
                exact ⟨ha, hbb⟩
            have hdec := decode_any wr (zip_below HZ.out hb hg) E (err_below HE0.out hb (by omega)) (err_below HE1.out hb (by omega)) (err_below HE2.out hb (by omega)) (err_below HE6.out hb (by omega)) (by omega) _ r (src_keep hs hb) hlr
            have HDC := hide hdec
            have hE5 := err_below HE5.out hb (by omega)
            unfold ErrAt at hE5
            clear hs hbo hun hb hdec
            by_cases hm0 : m = 0
            · subst hm0
              by_cases hr : r = []
              · subst hr
                have hu : unp kind im = .inr (blOf its) := by rw [HUN.out, blks, if_pos rfl, ahead, List.append_nil]
                have HU := hide hu
                clear hu
                go_wp2_with fail
                go_ret2
                exact ⟨by rw [UnpOut, HU.out]; exact ⟨_, its, rfl, rfl, HBO.out⟩, HB9.out⟩
              · have hu : unp kind im = .inl 5 := by rw [HUN.out, blks, if_neg hr]; rfl
                have HU := hide hu
                have hr0 : 0 < (r.length : Int) := by have := List.length_pos_iff.2 hr; omega
                clear hu
                go_wp2_with fail
                go_quiet (fail)
                go_wp2
                go_ret2
                exact ⟨by rw [UnpOut, HU.out]; rfl, below_drewN HB9.out _⟩
            · obtain ⟨k, rfl⟩ : ∃ k, m = k + 1 := ⟨m - 1, by omega⟩
              have hk1 : (0 : Int) < ((k + 1 : Nat) : Int) := by omega
              go_wp2_with fail
              refine HDC.out.mono ?_
              rintro e9 w4 ⟨hout, hb4⟩
              have HB10 := hide (HB9.out.trans (hb4.mono hs9))
              have hs10 := HB10.out.size
              have HBO4 := hide (bown_keep HBO.out hb4)
              have HS10 := hide (src_keep HS9.out hb4)
              clear hb4 HDC HBO hE5
              cases hd : dec r with
              | inl g =>
                rw [DecOut, hd] at hout
                subst hout
                have HU := hide (HUN.out.trans (ahead_err _ _ _ _ hd))
                have HBA := hide (HB10.out.alloc hs10 (.cells #[.int .u8 0, .slice none 0 0] 47))
                clear hd
                go_wp2_with fail
                go_ret2
                exact ⟨by rw [UnpOut, HU.out]; rfl, HBA.out⟩
              | inr q =>
                obtain ⟨i, j⟩ := q
                rw [DecOut, hd] at hout
                obtain ⟨g8, rfl, hg8, hh8⟩ := hout
                obtain ⟨t, r2, rfl, ht1, hij, hjl, hi2, _⟩ := dec_ok HS9.out.1 hd
                have HU := hide (HUN.out.trans (ahead_step _ _ _ _ _ hd))
                have htt : t < 256 := HS9.out.1 t (List.mem_cons_self ..)
                have hz256 : ∀ x ∈ ((t :: r2).take j).drop i, x < 256 := fun x hx => HS9.out.1 x (List.mem_of_mem_take (List.mem_of_mem_drop hx))
                have hzl : (((t :: r2).take j).drop i).length = j - i := by rw [List.length_drop, List.length_take]; omega
                obtain ⟨body, hbody⟩ : ∃ body, ((t :: r2).take j).drop i = body := ⟨_, rfl⟩
                rw [hbody] at hz256 hzl hh8 HU
                have hbod : Bod w4 (.slice (some ⟨g8, 0, none⟩) body.length body.length) body := ⟨src_block hh8 hz256 (by omega), fun g' hg' => by
                  simp only [Value.ownBlock, Option.some.injEq] at hg'
                  subst hg'
                  exact ⟨_, _, hh8⟩⟩
                rw [← hzl, show (t :: r2).getD 0 0 = t from rfl]
                rw [show (t :: r2).getD 0 0 = t from rfl] at HU
                obtain ⟨s, hs4⟩ : ∃ s, j + 4 = s := ⟨_, rfl⟩
                rw [hs4] at hjl HU ⊢
                have hs44 : 4 ≤ s := by omega
                have HBOD := hide hbod
                have HTT := hide htt
                generalize hrl : (t :: r2).length = rl at *
                have HRL9 := hide hrl
                clear hd hz256 hzl hbody hbod hh8 hg8 htt hs4 hrl hij hi2 ht1
                have hb5 := (Below.refl w4.heap.size w4).alloc (Nat.le_refl _) (.cells #[.int .u8 t, .slice (some ⟨g8, 0, none⟩) body.length body.length] 47)
                have hb6 := hb5.alloc hb5.size (.cells #[.int .u8 t, .slice (some ⟨g8, 0, none⟩) body.length body.length] 47)
                obtain ⟨c0, c1⟩ := cells2 (heap_new (w := w4) rfl (.cells #[.int .u8 t, .slice (some ⟨g8, 0, none⟩) body.length body.length] 47))
                have hh6 := heap_new (w := w4.alloc (.cells #[.int .u8 t, .slice (some ⟨g8, 0, none⟩) body.length body.length] 47)) rfl (.cells #[.int .u8 t, .slice (some ⟨g8, 0, none⟩) body.length body.length] 47)
                rw [World.size_alloc] at hh6
                have HH6 := hide hh6
                clear hh6
                have HB6 := hide (HB10.out.trans (hb6.mono hs10))
                have hs6 := HB6.out.size
                have HBO6 := hide (bown_keep HBO4.out hb6)
                have HBD6 := hide (bod_keep HBOD.out hb6)
                have hkw : IntKind.u64.wrap (((k + 1 : Nat) : Int) - 1) = (k : Int) := by rw [IntKind.wrap_u64]; omega
                have hsr : (s : Int) ≤ (rl : Int) := by omega
                have hsc : (s : Int) ≤ (c : Int) := by omega
                have hsc2 : c - s ≠ 0 := by omega
                have hsc3 : c ≠ s := by omega
                have hsc4 : s ≤ c := by omega
                clear hb5 hb6
                go_wp2_with (refine append_blk w _ w.heap.size _ _ its (t, .slice (some ⟨g8, 0, none⟩) body.length body.length, body) rfl (.tmp 84) (.tmp 86) rfl rfl rfl HBO6.out HTT.out HBD6.out HH6.out (by omega) hs6 HB6.out ?_)
                intro v7 w7 hbo7 hb7
                have hsp := src_part HSw.out s rl (c - s) (by omega) (by rw [HRL9.out]; omega) (by omega) (by omega)
                rw [List.take_of_length_le (by rw [HRL9.out]; omega)] at hsp
                have hdl : ((t :: r2).drop s).length = rl - s := by rw [List.length_drop, HRL9.out]
                have HSP := hide hsp
                have HDL := hide hdl
                have HBO7 := hide hbo7
                have HB7 := hide hb7
                clear hsp hdl hbo7 hb7 HBO6 HB6 HH6 HBD6 HBO4 HBOD c0 c1
                go_wp2_with fail
                refine ⟨⟨k, (t :: r2).drop s, its ++ [(t, .slice (some ⟨g8, 0, none⟩) body.length body.length, body)], a.add s, c - s, by rw [HDL.out], rfl, by omega, by rw [HDL.out]; omega, by rw [HDL.out]; exact HSP.out, HBO7.out, ?_, ?_, HB7.out⟩, ?_⟩
                · rw [HU.out, blOf_app]
                  rfl
                · rw [HDL.out]
                  simp only [List.length_append, List.length_cons, List.length_nil]
                  omega
                · simp [intOf]
        · have HUN := hide (HUN.out.trans (if_pos (by omega)))
          rw [hz] at HUN
          go_wp2_with fail
          go_ret2
          exact ⟨by rw [UnpOut, HUN.out]; rfl, HB2.out⟩
        · have HUN := hide (HUN.out.trans (if_pos (by omega)))
          rw [hz] at HUN
          go_wp2_with fail
          go_ret2
          exact ⟨by rw [UnpOut, HUN.out]; rfl, HB2.out⟩
  · have e1 : ((W : Int) == (U : Int)) = false := by simp; omega
    have e2 : ((W : Int) = (U : Int)) = False := by simp; omega
    have HUN := hide (HUN.out.trans (if_pos hWU))
    go_quiet (first | (go_at_call 72; exact Calls.quiet_of (HW.out _)) | (go_at_call 27; exact Calls.quiet_of_same ((HSE.out _).mono fun e w' h => ⟨h.1, h.2.symm⟩)))
    have hE := HE6.out
    unfold ErrAt at hE
    go_wp2_with fail
    go_quiet (fail)
    go_wp2
    go_ret2
    exact ⟨by rw [UnpOut, HUN.out]; rfl, below_drewN (below_drewN (Below.refl _ _) _) _⟩

theorem unpack_any (w : World) (Z : Zip w) (S : SealT w) (E : Nat → Addr) (h0 : ErrAt w 0 (E 0)) (h1 : ErrAt w 1 (E 1)) (h2 : ErrAt w 2 (E 2)) (h5 : ErrAt w 5 (E 5)) (h6 : ErrAt w 6 (E 6)) (hg : 16 < w.heap.size) (kind : Nat) (hk : kind < 256)
    (v : Value) (im : List Nat) (hs : Src w v im) (hl : im.length ≤ 100000000) :
    Calls Tryd.prog 47 #[.int .u8 kind, v] w fun e w' => UnpOut E w.heap.size kind im e w' ∧ Below w.heap.size w w' := by
  obtain ⟨ao, cap, rfl⟩ := src_form hs
  by_cases h10 : im.length < 10
  · exact unpack_short w E h1 kind ao cap im h10
  · obtain ⟨ad, rfl, _⟩ := src_cell hs (List.getElem?_eq_getElem (show 0 < im.length by omega))
    obtain ⟨e, he⟩ : ∃ e, im.length = e + 4 := ⟨im.length - 4, by omega⟩
    rw [he] at hs ⊢
    exact unpack_long w Z S E h0 h1 h2 h5 h6 hg kind hk ad cap e im he (by omega) hs hl
end Go.Proofs.YtgebekklkodpaaaDoor

/-! Up2: frame.Unpack: its blocks' bodies are lists of their own -/
namespace Go.Proofs.YtgebekklkodpaaaDoor
open Go.RowKit

def UnpOutF (E : Nat → Addr) (B kind : Nat) (im : List Nat) (e : Ending) (w' : World) : Prop :=
  match unp kind im with
  | .inl g => e = .returned (.tuple #[.slice none 0 0, .iface 124 (.pointer (some (E g)))])
  | .inr bl => ∃ v its, blOf its = bl ∧ e = .returned (.tuple #[v, .nilIface]) ∧ BFam w' B v its
theorem unpack_shortF (w : World) (E : Nat → Addr) (h1 : ErrAt w 1 (E 1)) (kind : Nat) (ao : Option Addr) (cap : Nat) (im : List Nat) (hl : im.length < 10) :
    Calls Tryd.prog 47 #[.int .u8 kind, .slice ao im.length cap] w fun e w' => UnpOutF E w.heap.size kind im e w' ∧ Below w.heap.size w w' := by
  have hu : unp kind im = .inl 1 := if_pos hl
  refine (unpack_short w E h1 kind ao cap im hl).mono fun e w' ⟨h, hb⟩ => ⟨?_, hb⟩
  rw [UnpOut, hu] at h
  rw [UnpOutF, hu]
  exact h

set_option maxRecDepth 100000 in
set_option maxHeartbeats 4000000 in
theorem unpack_longF (w : World) (Z : Zip w) (S : SealT w) (E : Nat → Addr) (h0 : ErrAt w 0 (E 0)) (h1 : ErrAt w 1 (E 1)) (h2 : ErrAt w 2 (E 2)) (h5 : ErrAt w 5 (E 5)) (h6 : ErrAt w 6 (E 6)) (hg : 16 < w.heap.size) (kind : Nat) (hk : kind < 256)
    (ad : Addr) (cap e : Nat) (im : List Nat) (he : im.length = e + 4) (h10 : 6 ≤ e) (hs : Src w (.slice (some ad) (e + 4) cap) im) (hl : im.length ≤ 100000000) :
    Calls Tryd.prog 47 #[.int .u8 kind, .slice (some ad) (e + 4) cap] w fun e w' => UnpOutF E w.heap.size kind im e w' ∧ Below w.heap.size w w' := by
  have hcap : e + 4 ≤ cap ∧ cap ≤ 9223372036854775807 := by
    rcases hs.2 with ⟨h, _⟩ | ⟨ad', c', h, ha, hb, _⟩
    · simp at h
    · simp only [Value.slice.injEq] at h
      obtain ⟨_, _, rfl⟩ := h
      exact ⟨by rw [← he]; exact ha, hb⟩
  have hsW : Src w (.slice (some (ad.add e)) (e + 4 - e) (cap - e)) ((im.take (e + 4)).drop e) := src_part hs e (e + 4) (cap - e) (by omega) (by omega) (by omega) (by omega)
  have hsB : Src w (.slice (some (ad.add 0)) (e - 0) cap) ((im.take e).drop 0) := src_part hs 0 e cap (by omega) (by omega) (by omega) (by omega)
  rw [List.take_of_length_le (show im.length ≤ e + 4 by omega), Nat.add_sub_cancel_left] at hsW
  rw [Addr.add_zero', List.drop_zero, Nat.sub_zero] at hsB
  have hget : ∀ k, k < 4 → (im.drop e)[k]? = some (im.getD (e + k) 0) := fun k hk => by
    rw [List.getElem?_drop, List.getD_eq_getElem?_getD, List.getElem?_eq_getElem (by omega)]; rfl
  have HW := hide fun q => word_any (w.drewN q) _ _ (src_drew hsW q) _ _ _ _ (hget 0 (by omega)) (hget 1 (by omega)) (hget 2 (by omega)) (hget 3 (by omega))
  have HSE := hide fun q => seal_any (w.drewN q) (seal_below (B := w.heap.size) S (below_drewN (Below.refl _ _) q) (by omega)) _ _ (src_drew hsB q) (by simp; omega)
  have hww : wordOf (im.getD (e + 0) 0) (im.getD (e + 1) 0) (im.getD (e + 2) 0) (im.getD (e + 3) 0) = wordAt im e := rfl
  rw [hww] at HW
  have hsl := seal_lt' (bs := im.take e) fun x hx => hs.1 x (List.mem_of_mem_take hx)
  have hunp : unp kind im = if wordAt im e ≠ seal_ (im.take e) then .inl 6
    else if kind = 0 ∨ im.take 4 ≠ [99, 110, 99, 100] ∨ im.getD 4 0 ≠ kind then .inl 0
    else if (Nm.num 10 0 ((im.take e).drop 5)).2 ≠ 0 then .inl (Nm.num 10 0 ((im.take e).drop 5)).2
    else blks (Nm.val (((im.take e).drop 5).take (Nm.num 10 0 ((im.take e).drop 5)).1)) (((im.take e).drop 5).drop (Nm.num 10 0 ((im.take e).drop 5)).1) := by
    rw [unp, if_neg (by omega), he, Nat.add_sub_cancel]
  have HUN := hide hunp
  generalize wordAt im e = W at HW HUN
  generalize seal_ (im.take e) = U at HSE HUN hsl
  have HS := hide hs
  have HZ := hide Z
  have HE0 := hide h0
  have HE1 := hide h1
  have HE2 := hide h2
  have HE5 := hide h5
  have HE6 := hide h6
  have i1 : (e : Int) ≤ (cap : Int) := by omega
  have i2 : cap - e ≠ 0 := by omega
  have i3 : cap ≠ e := by omega
  have i4 : e ≤ cap := by omega
  have i5 : e ≤ e + 4 := by omega
  have i6 : ¬ ((e : Int) + 4 < 10) := by omega
  clear hs hsW hsB hget hww hunp Z S h0 h1 h2 h5 h6
  go_enter Tryd.func47, Tryd.ntmps47
  go_wp2_with fail
  by_cases hWU : W = U
  · have HUN := hide (HUN.out.trans (if_neg (by simp [hWU])))
    go_quiet (first | (go_at_call 72; exact Calls.quiet_of (HW.out _)) | (go_at_call 27; exact Calls.quiet_of_same ((HSE.out _).mono fun e w' h => ⟨h.1, h.2.symm⟩)))
    have HB1 := hide (below_drewN (Below.refl w.heap.size w) nq)
    clear HW HSE
    generalize w.drewN nq = w1 at HB1 ⊢
    have hs1 := HB1.out.size
    have hS1 := src_keep HS.out HB1.out
    have hc4 := src_part hS1 0 4 cap (by omega) (by omega) (by omega) (by omega)
    rw [Addr.add_zero', List.drop_zero, Nat.sub_zero] at hc4
    have hstr := src_string hc4
    have hx4 : w1.cell? { block := ad.block, off := ad.off + 4 } = some (.int .u8 ((im.getD 4 0 : Nat) : Int)) := by
      obtain ⟨ad', e1, hc⟩ := src_cell hS1 (show im[4]? = some (im.getD 4 0) from by rw [List.getD_eq_getElem?_getD, List.getElem?_eq_getElem (by omega)]; rfl)
      obtain rfl := Option.some.inj e1
      exact hc
    have hS1 := hide hS1
    by_cases hA : kind = 0 ∨ im.take 4 ≠ [99, 110, 99, 100] ∨ im.getD 4 0 ≠ kind
    · have HUN := hide (HUN.out.trans (if_pos hA))
      have hE := err_below HE0.out HB1.out (by omega)
      unfold ErrAt at hE
      by_cases hk0 : kind = 0
      · subst hk0
        go_wp2_with fail
        go_quiet (fail)
        go_wp2
        go_ret2
        exact ⟨by rw [UnpOutF, HUN.out]; rfl, below_drewN HB1.out _⟩
      · have hk1 : ((kind : Int) == 0) = false := by simp; omega
        by_cases ht : im.take 4 = [99, 110, 99, 100]
        · have hk4 : im.getD 4 0 ≠ kind := by rcases hA with h | h | h; exact absurd h hk0; exact absurd ht h; exact h
          have hq := (magic_iff _ (fun x hx => hS1.out.1 x (List.mem_of_mem_take hx))).2 ht
          generalize bstr (im.take 4) = X at hstr hq
          generalize im.getD 4 0 = y at hk4 hx4
          have e1 : ((y : Int) == (kind : Int)) = false := by simp; omega
          have e2 : ((y : Int) = (kind : Int)) = False := by simp; omega
          go_wp2_with fail
          go_quiet (fail)
          go_wp2
          go_ret2
          exact ⟨by rw [UnpOutF, HUN.out]; rfl, below_drewN HB1.out _⟩
        · have hq := mt (magic_iff _ (fun x hx => hS1.out.1 x (List.mem_of_mem_take hx))).1 ht
          generalize bstr (im.take 4) = X at hstr hq
          generalize im.getD 4 0 = y at hx4
          go_wp2_with fail
          go_quiet (fail)
          go_wp2
          go_ret2
          exact ⟨by rw [UnpOutF, HUN.out]; rfl, below_drewN HB1.out _⟩
    · have HUN := hide (HUN.out.trans (if_neg hA))
      have hk0 : kind ≠ 0 := fun h => hA (.inl h)
      have ht : im.take 4 = [99, 110, 99, 100] := Classical.byContradiction fun h => hA (.inr (.inl h))
      have hy : im.getD 4 0 = kind := Classical.byContradiction fun h => hA (.inr (.inr h))
      have hk1 : ((kind : Int) == 0) = false := by simp; omega
      have hq := (magic_iff _ (fun x hx => hS1.out.1 x (List.mem_of_mem_take hx))).2 ht
      generalize bstr (im.take 4) = X at hstr hq
      rw [hy] at hx4
      have hsR := src_part hS1.out 5 e (cap - 5) (by omega) (by omega) (by omega) (by omega)
      have hRl : ((im.take e).drop 5).length = e - 5 := by rw [List.length_drop, List.length_take]; omega
      have hsub : ∀ z ∈ (im.take e).drop 5, z < 256 := fun z hz => HS.out.1 z (List.mem_of_mem_take (List.mem_of_mem_drop hz))
      have hsRw := src_part HS.out 5 e (cap - 5) (by omega) (by omega) (by omega) (by omega)
      generalize (im.take e).drop 5 = R at hsR hsRw hRl HUN hsub
      have HR := hide fun w' (h : Below w1.heap.size w1 w') => src_keep hsR h
      have HRw := hide fun w' (h : Below w.heap.size w w') => src_keep hsRw h
      have HRL := hide hRl
      have HSU := hide hsub
      have j1 : (5 : Int) ≤ (e : Int) := by omega
      have j2 : cap - 5 ≠ 0 := by omega
      have j3 : cap ≠ 5 := by omega
      have j4 : 5 ≤ e := by omega
      have j5 : 5 ≤ cap := by omega
      have j6 : e - 5 ≤ cap - 5 := by omega
      clear hA hk0 ht hy hsR hsRw hRl hsub
      go_upto_region 9 with (fail)
      generalize hde : e - 5 = d at HR HRw HRL
      have hde2 : cap - 5 ≠ 0 := j2
      have HDE := hide hde
      have hd1 : d + 9 ≤ cap := by omega
      have hd2 : d ≤ 100000000 := by omega
      have hR0 := HR.out w1 (Below.refl _ _)
      have hp1 : 10 < d → Src w1 (.slice (some (ad.add 5)) 10 (cap - 5)) (R.take 10) := fun h => by
        have hrl := HRL.out
        have := src_part hR0 0 10 (cap - 5) (by omega) (by omega) (by omega) (by omega)
        rw [Addr.add_zero', List.drop_zero] at this
        exact this
      have hp2 : ¬ 10 < d → Src w1 (.slice (some (ad.add 5)) d (cap - 5)) (R.take 10) := fun h => by
        have hrl := HRL.out
        rw [List.take_of_length_le (by omega)]
        exact hR0
      have HP1 := hide hp1
      have HP2 := hide hp2
      clear hR0 hp1 hp2 hde hstr hx4 hq
      go_cut [8] (fun s8 wx => ∃ p bv, s8 = .pointer (some ⟨p, 0, none⟩) ∧ w.heap.size ≤ p ∧ RdAt wx p 0 bv (R.take 10).length ∧ Src wx bv (R.take 10) ∧ Below w1.heap.size w1 wx)
      case first =>
        by_cases hd10 : 10 < d
        · have k1 : (10 : Int) < (d : Int) := by omega
          have k2 : 10 ≤ cap - 5 := by omega
          go_wp2_with fail
          refine (new_reader w1 _ (R.take 10) (HP1.out hd10) (by simp; omega)).mono ?_
          rintro e9 w2 ⟨p, bv, rfl, hp, hr, hs, hb⟩
          go_wp2_with fail
          go_meet
          exact ⟨p, bv, rfl, by omega, hr, hs, hb⟩
        · have k1 : (d : Int) ≤ 10 := by omega
          have k2 : d ≤ cap - 5 := by omega
          go_wp2_with fail
          refine (new_reader w1 _ (R.take 10) (HP2.out hd10) (by simp; omega)).mono ?_
          rintro e9 w2 ⟨p, bv, rfl, hp, hr, hs, hb⟩
          go_wp2_with fail
          go_meet
          exact ⟨p, bv, rfl, by omega, hr, hs, hb⟩
      case rest =>
        obtain ⟨p, bv, rfl, hp, hR, hS, hB⟩ := hcut
        have HBc := hide (HB1.out.trans (hB.mono hs1))
        have HRc := hide (HR.out wc hB)
        have hnt := Nm.num_take R (i := 0) (f := 10) (by omega)
        have hout := reader_uvarint wc w.heap.size p bv (R.take 10) hp hR hS (by simp; omega) E (err_below HE1.out HBc.out (by omega)) (err_below HE2.out HBc.out (by omega)) (by omega)
        unfold NumOut at hout
        rw [hnt] at hout
        have HN := hide hout
        clear hnt hR hS hB hout HP1 HP2 HR
        go_wp2_with fail
        refine HN.out.mono ?_
        rintro e9 w2 ⟨hout, hb, hRd⟩
        have HB2 := hide (HBc.out.trans (hb.mono (Nat.le_refl _)))
        have HRd := hide hRd
        clear hb hRd HN HBc
        rcases hout with ⟨hz, rfl⟩ | ⟨hz, rfl⟩ | ⟨hz, rfl⟩
        · obtain ⟨n, hn0⟩ : ∃ n, Nm.num 10 0 R = (n, 0) := ⟨(Nm.num 10 0 R).1, Prod.ext rfl hz⟩
          have hok := Nm.num_ok (by omega) hn0
          have hRD := HRd.out hz
          have hv := Nm.val_ok hn0
          have HUN := hide (HUN.out.trans (if_neg (by rw [hn0]; simp)))
          rw [hn0] at hRD HUN ⊢
          rw [show (R.take 10).take n = R.take n by rw [List.take_take, Nat.min_eq_left (by omega)]]
          simp only at hRD HUN ⊢
          generalize Nm.val (R.take n) = v at hv HUN ⊢
          have hnd : n ≤ d := by have := hok.2.2.1; have := HRL.out; omega
          have HRD := hide hRD
          have hs2 := HB2.out.size
          have hR2 := src_part (HRw.out w (Below.refl _ _)) n d (cap - 5 - n) hnd (by have := HRL.out; omega) (by omega) (by omega)
          rw [List.take_of_length_le (by have := HRL.out; omega)] at hR2
          have hl3 : (R.drop n).length = d - n := by rw [List.length_drop, HRL.out]
          clear hRD hn0 hz HRd hok
          have q1 : (n : Int) ≤ (d : Int) := by omega
          have q2 : cap - 5 - n ≠ 0 := by omega
          have q3 : cap - 5 ≠ n := by omega
          have q4 : n ≤ cap - 5 := by omega
          have HB2' := hide (Below.refl w2.heap.size w2)
          go_wp2_with fail
          refine (at_any w2 p n _ bv HRD.out).mono ?_
          rintro e9 w3 ⟨rfl, rfl⟩
          go_wp2_with fail
          rw [add_five] at hR2
          have HR2 := hide hR2
          have HL3 := hide hl3
          clear hR2 hl3 HRD HRc
          go_loopw [7, 9, 11] (fun s7 s9 s11 wr => ∃ (m : Nat) (r : List Nat) (its : List It) (a : Addr) (c : Nat), s7 = .slice (some a) r.length c ∧ s9 = .int .u64 m ∧ m < 18446744073709551616 ∧ r.length + 4 ≤ c ∧ Src w (.slice (some a) r.length c) r ∧ BFam wr w.heap.size s11 its ∧
            unp kind im = ahead (blOf its) (blks m r) ∧ its.length + r.length ≤ im.length ∧ Below w.heap.size w wr) (fun _ s9 _ _ => (intOf s9).toNat)
          case atStart =>
            refine ⟨v, R.drop n, [], ⟨ad.block, ad.off + 5 + n, none⟩, cap - 5 - n, by rw [HL3.out], rfl, hv, by rw [HL3.out]; omega, by rw [HL3.out]; exact HR2.out, bfam_none _ _, ?_, by rw [HL3.out]; have := HDE.out; simp only [List.length_nil]; omega, HB2.out⟩
            rw [HUN.out]
            exact (ahead_nil _).symm
          case round =>
            obtain ⟨m, r, its, a, c, rfl, rfl, hm, hrc, hs, hbo, hun, hil, hb⟩ := hrel
            have hlr : r.length ≤ 140737488355328 := by omega
            have HSw := hide hs
            have HS9 := hide (src_keep hs hb)
            have HBO := hide hbo
            have HBR := hide hbo
            have HUN := hide hun
            have HB9 := hide hb
            have hs9 := hb.size
            have hc4 : r.length ≤ c ∧ c ≤ 9223372036854775807 := by
              rcases hs.2 with ⟨h, _⟩ | ⟨ad', c', h, ha, hbb, _⟩
              · simp at h
              · simp only [Value.slice.injEq] at h
                obtain ⟨_, _, rfl⟩ := h
                exact ⟨ha, hbb⟩
            have hdec := decode_any wr (zip_below HZ.out hb hg) E (err_below HE0.out hb (by omega)) (err_below HE1.out hb (by omega)) (err_below HE2.out hb (by omega)) (err_below HE6.out hb (by omega)) (by omega) _ r (src_keep hs hb) hlr
            have HDC := hide hdec
            have hE5 := err_below HE5.out hb (by omega)
            unfold ErrAt at hE5
            clear hs hbo hun hb hdec
            by_cases hm0 : m = 0
            · subst hm0
              by_cases hr : r = []
              · subst hr
                have hu : unp kind im = .inr (blOf its) := by rw [HUN.out, blks, if_pos rfl, ahead, List.append_nil]
                have HU := hide hu
                clear hu
                go_wp2_with fail
                go_ret2
                exact ⟨by rw [UnpOutF, HU.out]; exact ⟨_, its, rfl, rfl, HBO.out⟩, HB9.out⟩
              · have hu : unp kind im = .inl 5 := by rw [HUN.out, blks, if_neg hr]; rfl
                have HU := hide hu
                have hr0 : 0 < (r.length : Int) := by have := List.length_pos_iff.2 hr; omega
                clear hu
                go_wp2_with fail
                go_quiet (fail)
                go_wp2
                go_ret2
                exact ⟨by rw [UnpOutF, HU.out]; rfl, below_drewN HB9.out _⟩
            · obtain ⟨k, rfl⟩ : ∃ k, m = k + 1 := ⟨m - 1, by omega⟩
              have hk1 : (0 : Int) < ((k + 1 : Nat) : Int) := by omega
              go_wp2_with fail
              refine HDC.out.mono ?_
              rintro e9 w4 ⟨hout, hb4⟩
              have HB10 := hide (HB9.out.trans (hb4.mono hs9))
              have hs10 := HB10.out.size
              have HBO4 := hide (bfam_below HBO.out hb4)
              have HS10 := hide (src_keep HS9.out hb4)
              clear hb4 HDC HBO hE5
              cases hd : dec r with
              | inl g =>
                rw [DecOut, hd] at hout
                subst hout
                have HU := hide (HUN.out.trans (ahead_err _ _ _ _ hd))
                have HBA := hide (HB10.out.alloc hs10 (.cells #[.int .u8 0, .slice none 0 0] 47))
                clear hd
                go_wp2_with fail
                go_ret2
                exact ⟨by rw [UnpOutF, HU.out]; rfl, HBA.out⟩
              | inr q =>
                obtain ⟨i, j⟩ := q
                rw [DecOut, hd] at hout
                obtain ⟨g8, rfl, hg8, hh8⟩ := hout
                obtain ⟨t, r2, rfl, ht1, hij, hjl, hi2, _⟩ := dec_ok HS9.out.1 hd
                have HU := hide (HUN.out.trans (ahead_step _ _ _ _ _ hd))
                have htt : t < 256 := HS9.out.1 t (List.mem_cons_self ..)
                have hz256 : ∀ x ∈ ((t :: r2).take j).drop i, x < 256 := fun x hx => HS9.out.1 x (List.mem_of_mem_take (List.mem_of_mem_drop hx))
                have hzl : (((t :: r2).take j).drop i).length = j - i := by rw [List.length_drop, List.length_take]; omega
                obtain ⟨body, hbody⟩ : ∃ body, ((t :: r2).take j).drop i = body := ⟨_, rfl⟩
                rw [hbody] at hz256 hzl hh8 HU
                have hbod : Own w4 w.heap.size (.slice (some ⟨g8, 0, none⟩) body.length body.length) body := own_block hh8 (by omega) (by omega)
                have HZZ := hide hz256
                have hap : ∀ y ∈ its, ∀ q, y.2.1.ownBlock = some q → (Value.slice (some ⟨g8, 0, none⟩) body.length body.length).ownBlock ≠ some q := by
                  intro y hy q hq e
                  have h1 := (World.ownsRow.lt (bfam_mem HBR.out hy).1 q hq).2
                  simp only [Value.ownBlock, Option.some.injEq] at e
                  omega
                have HAP := hide hap
                clear hap
                rw [← hzl, show (t :: r2).getD 0 0 = t from rfl]
                rw [show (t :: r2).getD 0 0 = t from rfl] at HU
                obtain ⟨s, hs4⟩ : ∃ s, j + 4 = s := ⟨_, rfl⟩
                rw [hs4] at hjl HU ⊢
                have hs44 : 4 ≤ s := by omega
                have HBOD := hide hbod
                have HTT := hide htt
                generalize hrl : (t :: r2).length = rl at *
                have HRL9 := hide hrl
                clear hd hz256 hzl hbody hbod hh8 hg8 htt hs4 hrl hij hi2 ht1
                have hb5 := (Below.refl w4.heap.size w4).alloc (Nat.le_refl _) (.cells #[.int .u8 t, .slice (some ⟨g8, 0, none⟩) body.length body.length] 47)
                have hb6 := hb5.alloc hb5.size (.cells #[.int .u8 t, .slice (some ⟨g8, 0, none⟩) body.length body.length] 47)
                obtain ⟨c0, c1⟩ := cells2 (heap_new (w := w4) rfl (.cells #[.int .u8 t, .slice (some ⟨g8, 0, none⟩) body.length body.length] 47))
                have hh6 := heap_new (w := w4.alloc (.cells #[.int .u8 t, .slice (some ⟨g8, 0, none⟩) body.length body.length] 47)) rfl (.cells #[.int .u8 t, .slice (some ⟨g8, 0, none⟩) body.length body.length] 47)
                rw [World.size_alloc] at hh6
                have HH6 := hide hh6
                clear hh6
                have HB6 := hide (HB10.out.trans (hb6.mono hs10))
                have hs6 := HB6.out.size
                have HBO6 := hide (bfam_below HBO4.out hb6)
                have HBD6 := hide (own_keep HBOD.out hb6)
                have hkw : IntKind.u64.wrap (((k + 1 : Nat) : Int) - 1) = (k : Int) := by rw [IntKind.wrap_u64]; omega
                have hsr : (s : Int) ≤ (rl : Int) := by omega
                have hsc : (s : Int) ≤ (c : Int) := by omega
                have hsc2 : c - s ≠ 0 := by omega
                have hsc3 : c ≠ s := by omega
                have hsc4 : s ≤ c := by omega
                clear hb5 hb6
                go_wp2_with (refine append_blkF w _ w.heap.size _ _ its (t, .slice (some ⟨g8, 0, none⟩) body.length body.length, body) rfl (.tmp 84) (.tmp 86) rfl rfl rfl HBO6.out HTT.out HBD6.out HZZ.out HAP.out HH6.out (by omega) hs6 HB6.out ?_)
                intro v7 w7 hbo7 hb7 _
                have hsp := src_part HSw.out s rl (c - s) (by omega) (by rw [HRL9.out]; omega) (by omega) (by omega)
                rw [List.take_of_length_le (by rw [HRL9.out]; omega)] at hsp
                have hdl : ((t :: r2).drop s).length = rl - s := by rw [List.length_drop, HRL9.out]
                have HSP := hide hsp
                have HDL := hide hdl
                have HBO7 := hide hbo7
                have HB7 := hide hb7
                clear hsp hdl hbo7 hb7 HBO6 HB6 HH6 HBD6 HBO4 HBOD c0 c1
                go_wp2_with fail
                refine ⟨⟨k, (t :: r2).drop s, its ++ [(t, .slice (some ⟨g8, 0, none⟩) body.length body.length, body)], a.add s, c - s, by rw [HDL.out], rfl, by omega, by rw [HDL.out]; omega, by rw [HDL.out]; exact HSP.out, HBO7.out, ?_, ?_, HB7.out⟩, ?_⟩
                · rw [HU.out, blOf_app]
                  rfl
                · rw [HDL.out]
                  simp only [List.length_append, List.length_cons, List.length_nil]
                  omega
                · simp [intOf]
        · have HUN := hide (HUN.out.trans (if_pos (by omega)))
          rw [hz] at HUN
          go_wp2_with fail
          go_ret2
          exact ⟨by rw [UnpOutF, HUN.out]; rfl, HB2.out⟩
        · have HUN := hide (HUN.out.trans (if_pos (by omega)))
          rw [hz] at HUN
          go_wp2_with fail
          go_ret2
          exact ⟨by rw [UnpOutF, HUN.out]; rfl, HB2.out⟩
  · have e1 : ((W : Int) == (U : Int)) = false := by simp; omega
    have e2 : ((W : Int) = (U : Int)) = False := by simp; omega
    have HUN := hide (HUN.out.trans (if_pos hWU))
    go_quiet (first | (go_at_call 72; exact Calls.quiet_of (HW.out _)) | (go_at_call 27; exact Calls.quiet_of_same ((HSE.out _).mono fun e w' h => ⟨h.1, h.2.symm⟩)))
    have hE := HE6.out
    unfold ErrAt at hE
    go_wp2_with fail
    go_quiet (fail)
    go_wp2
    go_ret2
    exact ⟨by rw [UnpOutF, HUN.out]; rfl, below_drewN (below_drewN (Below.refl _ _) _) _⟩

theorem unpack_anyF (w : World) (Z : Zip w) (S : SealT w) (E : Nat → Addr) (h0 : ErrAt w 0 (E 0)) (h1 : ErrAt w 1 (E 1)) (h2 : ErrAt w 2 (E 2)) (h5 : ErrAt w 5 (E 5)) (h6 : ErrAt w 6 (E 6)) (hg : 16 < w.heap.size) (kind : Nat) (hk : kind < 256)
    (v : Value) (im : List Nat) (hs : Src w v im) (hl : im.length ≤ 100000000) :
    Calls Tryd.prog 47 #[.int .u8 kind, v] w fun e w' => UnpOutF E w.heap.size kind im e w' ∧ Below w.heap.size w w' := by
  obtain ⟨ao, cap, rfl⟩ := src_form hs
  by_cases h10 : im.length < 10
  · exact unpack_shortF w E h1 kind ao cap im h10
  · obtain ⟨ad, rfl, _⟩ := src_cell hs (List.getElem?_eq_getElem (show 0 < im.length by omega))
    obtain ⟨e, he⟩ : ∃ e, im.length = e + 4 := ⟨im.length - 4, by omega⟩
    rw [he] at hs ⊢
    exact unpack_longF w Z S E h0 h1 h2 h5 h6 hg kind hk ad cap e im he (by omega) hs hl
end Go.Proofs.YtgebekklkodpaaaDoor

/-! Sp: plain: what Decode says of a block with one other byte -/
namespace Go.Proofs.YtgebekklkodpaaaDoor
open Go.RowKit

theorem flip_inj {a b : Nat} (h : flip a = flip b) : a = b := by rw [← flip_flip a, h, flip_flip]
/-- one other byte: another sum -/
theorem sum_turn {x y : Nat} {xs bs : List Nat} (ha : ∀ z ∈ xs, z < 256) (hx : x < 256) (hy : y < 256) (h : sum (xs ++ x :: bs) = sum (xs ++ y :: bs)) : x = y := by
  rw [sum_eq, sum_eq] at h
  exact Crc.run_turn (by decide) (by decide) (flip_lt (by omega)) ha hx hy (flip_inj h)
theorem wordAt_four (A X : List Nat) (k a b c d : Nat) (hk : A.length = k) : wordAt (A ++ ([a, b, c, d] ++ X)) k = wordOf a b c d := by
  unfold wordAt
  have h0 := getD_app_right A ([a, b, c, d] ++ X) k 0 hk
  rw [Nat.add_zero] at h0
  rw [h0, getD_app_right A _ k 1 hk, getD_app_right A _ k 2 hk, getD_app_right A _ k 3 hk]
  rfl
/-- a block's form with a wrong sum -/
theorem dec_form (t : Nat) (body : List Nat) (a b c d : Nat) (h0 : t ≠ 0) (hl : body.length < 18446744073709551616) (hw : wordOf a b c d ≠ sum (encHead t body)) :
    dec (encHead t body ++ [a, b, c, d]) = .inl 6 := by
  have hhead : encHead t body = t :: (Uv.uv body.length ++ body) := by simp [encHead]
  have happ : encHead t body ++ [a, b, c, d] = t :: (Uv.uv body.length ++ (body ++ [a, b, c, d])) := by rw [hhead]; simp
  have hn := Nm.num_uv body.length hl (body ++ [a, b, c, d])
  have htake : (Uv.uv body.length ++ (body ++ [a, b, c, d])).take (Uv.uv body.length).length = Uv.uv body.length := by simp
  have hlen : (encHead t body).length = 1 + (Uv.uv body.length).length + body.length := by rw [hhead]; simp; omega
  rw [happ, dec, if_neg h0, hn]
  simp only [htake, Nm.val_uv body.length hl]
  rw [if_neg (by simp), if_neg (by simp; omega), ← happ]
  have h4 := wordAt_four (encHead t body) [] _ a b c d hlen
  rw [List.append_nil] at h4
  have ht : (encHead t body ++ [a, b, c, d]).take (1 + (Uv.uv body.length).length + body.length) = encHead t body := by rw [← hlen]; simp
  rw [h4, ht, if_pos hw]
/-- the place that is spoilt -/
def spotOf (len body k : Nat) : Nat := if k = 0 then 0 else len - 4 - body + k - 1
theorem wordOf_inj {a b c d a' b' c' d' : Nat} (ha : a < 256) (hb : b < 256) (hc : c < 256) (_ : d < 256) (ha' : a' < 256) (hb' : b' < 256) (hc' : c' < 256) (_ : d' < 256)
    (h : wordOf a b c d = wordOf a' b' c' d') : a = a' ∧ b = b' ∧ c = c' ∧ d = d' := by
  unfold wordOf at h
  omega
theorem split_at {l : List Nat} {i : Nat} (h : i < l.length) (y : Nat) : ∃ xs x bs, l = xs ++ x :: bs ∧ xs.length = i ∧ l.set i y = xs ++ y :: bs ∧ l[i]? = some x := by
  refine ⟨l.take i, l[i], l.drop (i + 1), ?_, by rw [List.length_take]; omega, ?_, List.getElem?_eq_getElem h⟩
  · rw [← List.drop_eq_getElem_cons h, List.take_append_drop]
  · rw [List.set_eq_take_append_cons_drop, if_pos h]
theorem dec_spoilt (tag : Nat) (body : List Nat) (k y : Nat) (h0 : tag ≠ 0) (ht : tag < 256) (hb : ∀ x ∈ body, x < 256) (hl : body.length < 18446744073709551616)
    (hk : k < 1 + body.length + 4) (hy : y < 256) (hne : (enc tag body)[spotOf (enc tag body).length body.length k]? ≠ some y) :
    dec ((enc tag body).set (spotOf (enc tag body).length body.length k) y) =
      .inl (if ((enc tag body).set (spotOf (enc tag body).length body.length k) y).getD 0 0 = 0 then 0 else 6) := by
  have hhead : encHead tag body = tag :: (Uv.uv body.length ++ body) := by simp [encHead]
  have hH : ∀ x ∈ encHead tag body, x < 256 := encHead_lt ht hb hl
  have hS : sum (encHead tag body) < 4294967296 := sum_lt hH
  have hu := Uv.uv_len body.length
  have hulen : ∀ x ∈ Uv.uv body.length, x < 256 := Uv.uv_lt _ hl
  have hlen := enc_length tag body
  have henc : enc tag body = encHead tag body ++ Uv.word (sum (encHead tag body)) := rfl
  have hwb := word_bytes (sum (encHead tag body)) hS
  generalize hSS : sum (encHead tag body) = S at *
  have hwe : Uv.word S = [S % 256, S / 256 % 256, S / 65536 % 256, S / 16777216 % 256] := rfl
  by_cases hk0 : k = 0
  · subst hk0
    rw [show spotOf (enc tag body).length body.length 0 = 0 from rfl] at hne ⊢
    have hset : (enc tag body).set 0 y = encHead y body ++ Uv.word S := by
      rw [henc, hhead]
      simp [encHead]
    have hget : (enc tag body)[0]? = some tag := by rw [henc, hhead]; rfl
    rw [hset]
    rw [hget] at hne
    have hyt : tag ≠ y := fun e => hne (by rw [e])
    have hg0 : (encHead y body ++ Uv.word S).getD 0 0 = y := by simp [encHead]
    rw [hg0]
    by_cases hy0 : y = 0
    · subst hy0
      rw [if_pos rfl]
      simp [encHead, dec]
    · rw [if_neg hy0, hwe, dec_form y body _ _ _ _ hy0 hl]
      rw [hwb, ← hSS, hhead]
      intro h
      refine hyt (sum_turn (xs := []) (bs := Uv.uv body.length ++ body) (fun _ h => by simp at h) ht hy ?_)
      simpa [encHead] using h
  · have hsp : spotOf (enc tag body).length body.length k = (enc tag body).length - 4 - body.length + k - 1 := if_neg hk0
    rw [hsp] at hne ⊢
    have hg0 : ((enc tag body).set ((enc tag body).length - 4 - body.length + k - 1) y).getD 0 0 = tag := by
      rw [List.getD_eq_getElem?_getD, List.getElem?_set_ne (by omega), henc, hhead]
      rfl
    rw [hg0, if_neg h0]
    by_cases hkb : k ≤ body.length
    · obtain ⟨xs, x, bs, hbody, hxs, hset, hx⟩ := split_at (show k - 1 < body.length by omega) y
      have hspot : (enc tag body).length - 4 - body.length + k - 1 = (tag :: Uv.uv body.length).length + (k - 1) := by simp only [List.length_cons]; omega
      have henc2 : enc tag body = (tag :: Uv.uv body.length) ++ (body ++ Uv.word S) := by rw [henc, hhead]; simp
      rw [hspot, henc2] at hne ⊢
      rw [List.getElem?_append_right (by omega), Nat.add_sub_cancel_left, List.getElem?_append_left (by omega), hx] at hne
      rw [List.set_append_right _ _ (by omega), Nat.add_sub_cancel_left, List.set_append_left _ _ (by omega), hset]
      have hl2 : (xs ++ y :: bs).length = body.length := by rw [hbody]; simp
      have hform : tag :: Uv.uv body.length ++ (xs ++ y :: bs ++ Uv.word S) = encHead tag (xs ++ y :: bs) ++ Uv.word S := by
        rw [encHead, hl2]; simp
      rw [hform, hwe]
      refine dec_form tag _ _ _ _ _ h0 (by omega) ?_
      rw [hwb, ← hSS, hhead, encHead, hl2]
      intro h
      refine hne ?_
      have := sum_turn (x := x) (y := y) (xs := tag :: (Uv.uv body.length ++ xs)) (bs := bs) ?_ ?_ hy ?_
      · rw [this]
      · intro z hz
        rcases List.mem_cons.1 hz with rfl | hz
        · exact ht
        · rcases List.mem_append.1 hz with hz | hz
          · exact hulen z hz
          · exact hb z (by rw [hbody]; exact List.mem_append_left _ hz)
      · exact hb x (List.mem_of_getElem? hx)
      · have e1 : tag :: (Uv.uv body.length ++ xs) ++ x :: bs = tag :: (Uv.uv body.length ++ body) := by
          conv => rhs; rw [hbody]
          simp [hbody]
        have e2 : tag :: (Uv.uv body.length ++ xs) ++ y :: bs = [tag] ++ Uv.uv body.length ++ (xs ++ y :: bs) := by simp
        rw [e1, e2, h]
    · have hspot : (enc tag body).length - 4 - body.length + k - 1 = (encHead tag body).length + (k - 1 - body.length) := by
        rw [hlen]
        have : (encHead tag body).length = 1 + (Uv.uv body.length).length + body.length := by rw [hhead]; simp; omega
        omega
      obtain ⟨m, hm⟩ : ∃ m, k - 1 - body.length = m := ⟨_, rfl⟩
      have hm4 : m < 4 := by omega
      rw [hspot, hm, henc] at hne ⊢
      rw [List.getElem?_append_right (by omega), Nat.add_sub_cancel_left] at hne
      rw [List.set_append_right _ _ (by omega), Nat.add_sub_cancel_left, hwe]
      rw [hwe] at hne
      have b0 : S % 256 < 256 := by omega
      have b1 : S / 256 % 256 < 256 := by omega
      have b2 : S / 65536 % 256 < 256 := by omega
      have b3 : S / 16777216 % 256 < 256 := by omega
      rcases m with _ | _ | _ | _ | m
      · refine dec_form tag _ _ _ _ _ h0 hl fun h => hne ?_
        rw [hSS] at h
        have := (wordOf_inj hy b1 b2 b3 b0 b1 b2 b3 (h.trans hwb.symm)).1
        rw [this]; rfl
      · refine dec_form tag _ _ _ _ _ h0 hl fun h => hne ?_
        rw [hSS] at h
        have := (wordOf_inj b0 hy b2 b3 b0 b1 b2 b3 (h.trans hwb.symm)).2.1
        rw [this]; rfl
      · refine dec_form tag _ _ _ _ _ h0 hl fun h => hne ?_
        rw [hSS] at h
        have := (wordOf_inj b0 b1 hy b3 b0 b1 b2 b3 (h.trans hwb.symm)).2.2.1
        rw [this]; rfl
      · refine dec_form tag _ _ _ _ _ h0 hl fun h => hne ?_
        rw [hSS] at h
        have := (wordOf_inj b0 b1 b2 hy b0 b1 b2 b3 (h.trans hwb.symm)).2.2.2
        rw [this]; rfl
      · omega
end Go.Proofs.YtgebekklkodpaaaDoor

/-! Im: plain: what Unpack takes Pack makes again; an image gives its blocks back; a turned byte is refused -/
namespace Go.Proofs.YtgebekklkodpaaaDoor
open Go.RowKit

theorem blks_ok {n : Nat} {r : List Nat} {bl : List Bl} (hr : ∀ x ∈ r, x < 256) (h : blks n r = .inr bl) :
    bl.length = n ∧ encs bl = r ∧ ∀ x ∈ bl, x.1 ≠ 0 ∧ x.1 < 256 ∧ (∀ y ∈ x.2, y < 256) ∧ x.2.length + 6 ≤ (enc x.1 x.2).length := by
  induction n generalizing r bl with
  | zero =>
    rw [blks] at h
    split at h
    · rename_i h0
      cases h
      exact ⟨rfl, by rw [h0]; rfl, fun x hx => by cases hx⟩
    · cases h
  | succ n ih =>
    rw [blks] at h
    split at h
    · cases h
    · rename_i i j hd
      split at h
      · cases h
      · rename_i bl' hb
        cases h
        obtain ⟨t, r2, rfl, ht, hij, hjl, _, henc⟩ := dec_ok hr hd
        obtain ⟨h1, h2, h3⟩ := ih (fun x hx => hr x (List.mem_of_mem_drop hx)) hb
        refine ⟨by rw [List.length_cons, h1], ?_, ?_⟩
        · rw [encs, List.flatMap_cons]
          show enc t (((t :: r2).take j).drop i) ++ encs bl' = _
          rw [henc, h2, List.take_append_drop]
        · intro x hx
          rcases List.mem_cons.1 hx with rfl | hx
          · refine ⟨ht, hr t (List.mem_cons_self ..), fun y hy => hr y (List.mem_of_mem_take (List.mem_of_mem_drop hy)), ?_⟩
            have := Uv.uv_len (((t :: r2).take j).drop i).length
            show _ ≤ (enc t _).length
            rw [enc_length]
            simp only
            omega
          · exact h3 x hx
theorem tot_encs {bl : List Bl} (h : ∀ x ∈ bl, x.2.length + 6 ≤ (enc x.1 x.2).length) : tot bl ≤ 3 * (encs bl).length := by
  induction bl with
  | nil => simp [tot]
  | cons x r ih =>
    have h1 := h x (List.mem_cons_self ..)
    have h2 := ih fun y hy => h y (List.mem_cons_of_mem _ hy)
    simp only [tot, encs, List.map_cons, List.sum_cons, List.flatMap_cons, List.length_append] at *
    omega
theorem split4 {im : List Nat} {e : Nat} (he : im.length = e + 4) (hx : ∀ x ∈ im, x < 256) : im = im.take e ++ Uv.word (wordAt im e) := by
  have hg : ∀ k, k < 4 → im.getD (e + k) 0 < 256 := fun k hk => by
    rw [List.getD_eq_getElem?_getD, List.getElem?_eq_getElem (by omega)]
    exact hx _ (List.getElem_mem _)
  have g0 := hg 0 (by omega)
  rw [Nat.add_zero] at g0
  have h4 : (im.drop e).take 4 = im.drop e := List.take_of_length_le (by rw [List.length_drop]; omega)
  rw [wordAt, word_wordOf g0 (hg 1 (by omega)) (hg 2 (by omega)) (hg 3 (by omega)), ← four_drop (by omega), h4, List.take_append_drop]
/-- what is taken is made again -/
theorem unp_img {kind : Nat} {im : List Nat} {bl : List Bl} (hx : ∀ x ∈ im, x < 256) (h : unp kind im = .inr bl) :
    img kind bl = im ∧ kind ≠ 0 ∧ tot bl ≤ 3 * im.length ∧ ∀ x ∈ bl, x.1 ≠ 0 ∧ x.1 < 256 ∧ (∀ y ∈ x.2, y < 256) := by
  rw [unp] at h
  split at h
  · cases h
  · rename_i h10
    obtain ⟨e, he⟩ : ∃ e, im.length = e + 4 := ⟨im.length - 4, by omega⟩
    rw [he, Nat.add_sub_cancel] at h
    split at h
    · cases h
    · rename_i hw
      have hw := Classical.not_not.1 hw
      split at h
      · cases h
      · rename_i hA
        split at h
        · cases h
        · rename_i hn
          have hk0 : kind ≠ 0 := fun h => hA (.inl h)
          have ht : im.take 4 = [99, 110, 99, 100] := Classical.byContradiction fun h => hA (.inr (.inl h))
          have hy : im.getD 4 0 = kind := Classical.byContradiction fun h => hA (.inr (.inr h))
          have hRx : ∀ x ∈ (im.take e).drop 5, x < 256 := fun x hx' => hx x (List.mem_of_mem_take (List.mem_of_mem_drop hx'))
          have hd5 : (im.take e).take 5 = [99, 110, 99, 100] ++ [kind] := by
            rw [List.take_take, Nat.min_eq_left (by omega), List.take_add_one, ht, ← hy, List.getD_eq_getElem?_getD, List.getElem?_eq_getElem (by omega)]
            rfl
          have hsplit : im.take e = ([99, 110, 99, 100] ++ [kind]) ++ (im.take e).drop 5 := by rw [← hd5, List.take_append_drop]
          have hRl : ((im.take e).drop 5).length = e - 5 := by rw [List.length_drop, List.length_take]; omega
          generalize (im.take e).drop 5 = R at hn h hRx hsplit hRl
          obtain ⟨n, hn0⟩ : ∃ n, Nm.num 10 0 R = (n, 0) := ⟨(Nm.num 10 0 R).1, Prod.ext rfl (by simpa using hn)⟩
          rw [hn0] at h
          simp only at h
          have huv := Nm.uv_of_num hRx hn0
          obtain ⟨h1, h2, h3⟩ := blks_ok (fun x hx' => hRx x (List.mem_of_mem_drop hx')) h
          have hbody : imgBody kind bl = im.take e := by
            rw [imgBody, imgHead, h1, huv, h2, List.append_assoc, List.take_append_drop, ← hsplit]
          refine ⟨?_, hk0, ?_, fun x hx' => ⟨(h3 x hx').1, (h3 x hx').2.1, (h3 x hx').2.2.1⟩⟩
          · rw [img, hbody, ← hw, ← split4 he hx]
          · have := tot_encs fun x hx' => (h3 x hx').2.2.2
            rw [h2, List.length_drop] at this
            omega
theorem enc_body' (tag : Nat) (body rest : List Nat) : ((enc tag body ++ rest).take (1 + (Uv.uv body.length).length + body.length)).drop (1 + (Uv.uv body.length).length) = body := by
  have e : enc tag body ++ rest = (([tag] ++ Uv.uv body.length) ++ body) ++ (Uv.word (sum (encHead tag body)) ++ rest) := by simp [enc, encHead]
  have hA : ([tag] ++ Uv.uv body.length).length = 1 + (Uv.uv body.length).length := by simp; omega
  rw [e, List.take_left' (by simp; omega), List.drop_left' hA]
theorem blks_encs (bl : List Bl) (h : ∀ x ∈ bl, x.1 ≠ 0 ∧ x.1 < 256 ∧ (∀ y ∈ x.2, y < 256) ∧ x.2.length < 18446744073709551616) : blks bl.length (encs bl) = .inr bl := by
  induction bl with
  | nil => rfl
  | cons x r ih =>
    obtain ⟨h0, h1, h2, h3⟩ := h x (List.mem_cons_self ..)
    have hd := dec_enc x.1 x.2 (encs r) h0 h1 h2 h3
    have he : encs (x :: r) = enc x.1 x.2 ++ encs r := rfl
    have hlen := enc_length x.1 x.2
    rw [List.length_cons, blks, he, hd]
    simp only
    rw [List.drop_left' (by omega), ih fun y hy => h y (List.mem_cons_of_mem _ hy)]
    simp only [Sum.inr.injEq, List.cons.injEq, and_true]
    have hb := enc_body' x.1 x.2 (encs r)
    rw [hb]
    have hg : (enc x.1 x.2 ++ encs r).getD 0 0 = x.1 := by simp [enc, encHead]
    rw [hg]
/-- an image's parts -/
theorem img_parts (kind : Nat) (bl : List Bl) : (imgBody kind bl).length ≥ 6 ∧ (img kind bl).length = (imgBody kind bl).length + 4 ∧ (img kind bl).take (imgBody kind bl).length = imgBody kind bl ∧ (img kind bl).take 4 = [99, 110, 99, 100] ∧ (img kind bl).getD 4 0 = kind := by
  have hu := Uv.uv_len bl.length
  refine ⟨?_, ?_, ?_, rfl, rfl⟩
  · simp only [imgBody, imgHead, List.length_append, List.length_cons, List.length_nil]; omega
  · rw [img, List.length_append]; rfl
  · rw [img, List.take_left']; rfl

/-- an image gives its blocks back -/
theorem unp_whole (kind : Nat) (bl : List Bl) (hk0 : kind ≠ 0) (hk : kind < 256) (hl : bl.length < 18446744073709551616) (h : ∀ x ∈ bl, x.1 ≠ 0 ∧ x.1 < 256 ∧ (∀ y ∈ x.2, y < 256) ∧ x.2.length < 18446744073709551616) :
    unp kind (img kind bl) = .inr bl := by
  obtain ⟨h1, h2, h3, h4, h5⟩ := img_parts kind bl
  have hlt : ∀ y ∈ imgBody kind bl, y < 256 := imgBody_lt hk (by rw [Uv.u64_eq]; exact hl) fun x hx => ⟨(h x hx).2.1, (h x hx).2.2.1, by rw [Uv.u64_eq]; exact (h x hx).2.2.2⟩
  have hS := seal_lt' hlt
  have hw : wordAt (img kind bl) (imgBody kind bl).length = seal_ (imgBody kind bl) := by
    have := wordAt_app (imgBody kind bl) [] _ (seal_ (imgBody kind bl)) rfl hS
    rw [List.append_nil] at this
    exact this
  have hR : (imgBody kind bl).drop 5 = Uv.uv bl.length ++ encs bl := by
    rw [imgBody, imgHead, List.append_assoc]
    rfl
  have hn := Nm.num_uv bl.length hl (encs bl)
  rw [unp, if_neg (by omega), h2, Nat.add_sub_cancel, h3, hw, if_neg (by simp), if_neg (by rw [h4, h5]; simp [hk0]), hR, hn, if_neg (by simp)]
  simp only
  rw [List.take_left' rfl, List.drop_left' rfl, Nm.val_uv _ hl]
  exact blks_encs bl h
/-- for its kind alone -/
theorem unp_other (kind other : Nat) (bl : List Bl) (hne : other ≠ kind) (hk : kind < 256) (hl : bl.length < 18446744073709551616) (h : ∀ x ∈ bl, x.1 < 256 ∧ (∀ y ∈ x.2, y < 256) ∧ x.2.length < 18446744073709551616) :
    unp other (img kind bl) = .inl 0 := by
  obtain ⟨h1, h2, h3, h4, h5⟩ := img_parts kind bl
  have hlt : ∀ y ∈ imgBody kind bl, y < 256 := imgBody_lt hk (by rw [Uv.u64_eq]; exact hl) fun x hx => ⟨(h x hx).1, (h x hx).2.1, by rw [Uv.u64_eq]; exact (h x hx).2.2⟩
  have hS := seal_lt' hlt
  have hw : wordAt (img kind bl) (imgBody kind bl).length = seal_ (imgBody kind bl) := by
    have := wordAt_app (imgBody kind bl) [] _ (seal_ (imgBody kind bl)) rfl hS
    rw [List.append_nil] at this
    exact this
  rw [unp, if_neg (by omega), h2, Nat.add_sub_cancel, h3, hw, if_neg (by simp), if_pos (by rw [h5]; exact .inr (.inr (fun e => hne e.symm)))]
/-- one other byte: another seal -/
theorem seal_turn {x y : Nat} {xs bs : List Nat} (ha : ∀ z ∈ xs, z < 256) (hx : x < 256) (hy : y < 256) (h : seal_ (xs ++ x :: bs) = seal_ (xs ++ y :: bs)) : x = y :=
  Crc.run_turn (p := Crc.polySeal) (r := 4294967295) (by decide) (by decide) (by decide) ha hx hy (flip_inj h)
/-- a turned byte is refused, wherever it stands, whatever kind is asked -/
theorem unp_turned (kind other : Nat) (bl : List Bl) (hk : kind < 256) (hl : bl.length < 18446744073709551616) (h : ∀ x ∈ bl, x.1 < 256 ∧ (∀ y ∈ x.2, y < 256) ∧ x.2.length < 18446744073709551616)
    (k y : Nat) (hkl : k < (img kind bl).length) (hy : y < 256) (hne : (img kind bl)[k]? ≠ some y) : unp other ((img kind bl).set k y) = .inl 6 := by
  obtain ⟨h1, h2, h3, _, _⟩ := img_parts kind bl
  have hlt : ∀ y ∈ imgBody kind bl, y < 256 := imgBody_lt hk (by rw [Uv.u64_eq]; exact hl) fun x hx => ⟨(h x hx).1, (h x hx).2.1, by rw [Uv.u64_eq]; exact (h x hx).2.2⟩
  have hS := seal_lt' hlt
  have himg : img kind bl = imgBody kind bl ++ Uv.word (seal_ (imgBody kind bl)) := rfl
  have hwb := word_bytes (seal_ (imgBody kind bl)) hS
  rw [unp, if_neg (by rw [List.length_set]; omega), List.length_set, h2, Nat.add_sub_cancel, if_pos]
  rw [himg] at hne ⊢
  generalize hbd : imgBody kind bl = b at *
  by_cases hkb : k < b.length
  · obtain ⟨xs, x, bs, hb, hxs, hset, hx⟩ := split_at hkb y
    rw [List.set_append_left _ _ hkb]
    have hl2 : (b.set k y).length = b.length := List.length_set
    have hwa : wordAt (b.set k y ++ Uv.word (seal_ b)) b.length = seal_ b := by
      have := wordAt_app (b.set k y) [] b.length (seal_ b) hl2 hS
      rw [List.append_nil] at this
      exact this
    rw [hwa, List.take_left' hl2, hset]
    intro e
    rw [List.getElem?_append_left hkb, hx] at hne
    refine hne ?_
    rw [seal_turn (x := x) (y := y) (xs := xs) (bs := bs) (fun z hz => hlt z (by rw [hb]; exact List.mem_append_left _ hz)) (hlt x (List.mem_of_getElem? hx)) hy (by rw [← hb]; exact e)]
  · obtain ⟨m, hm⟩ : ∃ m, k - b.length = m := ⟨_, rfl⟩
    have hm4 : m < 4 := by omega
    have hwe : Uv.word (seal_ b) = [seal_ b % 256, seal_ b / 256 % 256, seal_ b / 65536 % 256, seal_ b / 16777216 % 256] := rfl
    rw [List.getElem?_append_right (by omega), hm, hwe] at hne
    rw [List.set_append_right _ _ (by omega), hm, List.take_left' rfl]
    have b0 : seal_ b % 256 < 256 := by omega
    have b1 : seal_ b / 256 % 256 < 256 := by omega
    have b2 : seal_ b / 65536 % 256 < 256 := by omega
    have b3 : seal_ b / 16777216 % 256 < 256 := by omega
    rw [hwe]
    rcases m with _ | _ | _ | _ | m
    · have h4 := wordAt_four b [] _ y (seal_ b / 256 % 256) (seal_ b / 65536 % 256) (seal_ b / 16777216 % 256) rfl
      rw [List.append_nil] at h4
      show wordAt (b ++ [y, seal_ b / 256 % 256, seal_ b / 65536 % 256, seal_ b / 16777216 % 256]) b.length ≠ _
      rw [h4]
      intro e
      refine hne ?_
      have := (wordOf_inj hy b1 b2 b3 b0 b1 b2 b3 (e.trans hwb.symm)).1
      rw [this]; rfl
    · have h4 := wordAt_four b [] _ (seal_ b % 256) y (seal_ b / 65536 % 256) (seal_ b / 16777216 % 256) rfl
      rw [List.append_nil] at h4
      show wordAt (b ++ [seal_ b % 256, y, seal_ b / 65536 % 256, seal_ b / 16777216 % 256]) b.length ≠ _
      rw [h4]
      intro e
      refine hne ?_
      have := (wordOf_inj b0 hy b2 b3 b0 b1 b2 b3 (e.trans hwb.symm)).2.1
      rw [this]; rfl
    · have h4 := wordAt_four b [] _ (seal_ b % 256) (seal_ b / 256 % 256) y (seal_ b / 16777216 % 256) rfl
      rw [List.append_nil] at h4
      show wordAt (b ++ [seal_ b % 256, seal_ b / 256 % 256, y, seal_ b / 16777216 % 256]) b.length ≠ _
      rw [h4]
      intro e
      refine hne ?_
      have := (wordOf_inj b0 b1 hy b3 b0 b1 b2 b3 (e.trans hwb.symm)).2.2.1
      rw [this]; rfl
    · have h4 := wordAt_four b [] _ (seal_ b % 256) (seal_ b / 256 % 256) (seal_ b / 65536 % 256) y rfl
      rw [List.append_nil] at h4
      show wordAt (b ++ [seal_ b % 256, seal_ b / 256 % 256, seal_ b / 65536 % 256, y]) b.length ≠ _
      rw [h4]
      intro e
      refine hne ?_
      have := (wordOf_inj b0 b1 b2 hy b0 b1 b2 b3 (e.trans hwb.symm)).2.2.2
      rw [this]; rfl
    · omega
end Go.Proofs.YtgebekklkodpaaaDoor

/-! RefPk: the reference's Pack -/
namespace Go.Proofs.YtgebekklkodpaaaDoor
open Go.RowKit

def RefPackOut (w : World) (kind : Nat) (bl : List Bl) (e : Ending) (w' : World) : Prop :=
  Below w.heap.size w w' ∧ (((∃ x ∈ bl, x.1 = 0) ∧ e = .returned (.tuple #[.slice none 0 0, .int .i64 6])) ∨
    ((∀ x ∈ bl, x.1 ≠ 0) ∧ ∃ v, e = .returned (.tuple #[v, .int .i64 0]) ∧ Own w' w.heap.size v (img kind bl)))

theorem ref_pack_zero (w : World) (ao : Option Addr) (n cap : Nat) :
    Calls Tryd.prog 34 #[.int .u8 0, .slice ao n cap] w fun e w' => e = .returned (.tuple #[.slice none 0 0, .int .i64 6]) ∧ w = w' := by
  go_enter Tryd.func34, Tryd.ntmps34
  go_wp2
  go_ret2
  exact ⟨rfl, rfl⟩

set_option maxRecDepth 100000 in
set_option maxHeartbeats 4000000 in
theorem ref_pack_some (w : World) (kind : Nat) (hk : kind < 256) (hk0 : kind ≠ 0) (bl : List Bl) (ao : Option Addr) (cap : Nat)
    (hB : ∀ (k : Nat) (x : Bl), bl[k]? = some x → ∃ ad, ao = some ad ∧ BlkAt w (ad.add (2 * k)) x) (ht : tot bl ≤ 140737488355000) :
    Calls Tryd.prog 34 #[.int .u8 kind, .slice ao bl.length cap] w (RefPackOut w kind bl) := by
  have hk1 : ((kind : Int) == 0) = false := by simp; omega
  have HB := hide hB
  have HT := hide ht
  have HK := hide hk
  have HLT := hide (len_tot bl)
  have HU := hide (show bl.length < Uv.u64 by have := len_tot bl; rw [Uv.u64_eq]; omega)
  have hw : IntKind.u64.wrap (bl.length : Int) = (bl.length : Int) := by have := HU.out; rw [Uv.u64_eq] at this; rw [IntKind.wrap_u64]; omega
  clear hB ht hk hk0
  go_enter Tryd.func34, Tryd.ntmps34
  go_wp2_with fail
  have HO1 := hide (own_lit w w.heap.size [99, 110, 99, 100, kind] (Nat.le_refl _) (by simp) #[.int .u8 99, .int .u8 110, .int .u8 99, .int .u8 100, .int .u8 kind] rfl)
  have HB1 := hide ((Below.refl w.heap.size w).alloc (Nat.le_refl _) (.cells #[.int .u8 99, .int .u8 110, .int .u8 99, .int .u8 100, .int .u8 kind] 5))
  refine (ref_uvarint _ bl.length HU.out).mono ?_
  rintro e w2 ⟨g2, cap2, rfl, hown2, hb2⟩
  have HO2 := hide (own_keep HO1.out hb2)
  have HB2 := hide (HB1.out.trans (hb2.mono HB1.out.size))
  have HS2 := hide (src_own hown2 (Uv.uv_lt _ (by have := HU.out; rw [Uv.u64_eq] at this; exact this)))
  have HUL := hide (Uv.uv_len bl.length).1
  clear hown2 hb2 HO1 HB1
  go_wp2_with (refine append_src w w2 w.heap.size _ _ [99, 110, 99, 100, kind] (Uv.uv bl.length) rfl (.tmp 15) (.tmp 19) rfl rfl rfl HO2.out HS2.out ?_ HB2.out.size HB2.out ?_)
  case refine_1 => have := HUL.out; simp; omega
  intro v3 w3 ho3 hb3
  have hw3 : Own w3 w.heap.size v3 (imgHead kind bl.length) := ho3
  have HO3 := hide hw3
  have HB3 := hide hb3
  have HHL := hide (imgHead_len kind bl.length)
  clear ho3 hb3 hw3 HO2 HS2 HB2
  go_wp2_with fail
  go_loopw [6, 23] (fun v c wr => ∃ k : Nat, k ≤ bl.length ∧ c = .int .i64 k ∧ (∀ x ∈ bl.take k, x.1 ≠ 0) ∧ Own wr w.heap.size v (imgHead kind bl.length ++ encs (bl.take k)) ∧ Below w.heap.size w wr) (fun _ c _ => bl.length - (intOf c).toNat)
  case atStart => exact ⟨0, by simp, rfl, by simp, by simpa [encs] using HO3.out, HB3.out⟩
  case round =>
    obtain ⟨k, hkl, rfl, hpre, hW, hb⟩ := hrel
    have HW := hide hW
    have HBk := hide hb
    have HP := hide hpre
    have hsz := hb.size
    clear hW hb hpre
    by_cases hlt : k < bl.length
    · obtain ⟨⟨tg, body⟩, hx⟩ : ∃ x, bl[k]? = some x := ⟨_, List.getElem?_eq_getElem hlt⟩
      obtain ⟨ad, rfl, hblk⟩ := HB.out k _ hx
      obtain ⟨htg, bv, hc0, hc1, hsrc⟩ := blk_keep hblk HBk.out
      clear hblk
      obtain ⟨bo, bcap, rfl⟩ := src_form hsrc
      have HX := hide hx
      have HSRC := hide hsrc
      have HTG := hide htg
      rw [Nat.mul_comm 2 k] at hc0 hc1
      have hc1' : wr.cell? { block := (ad.add (k * 2)).block, off := (ad.add (k * 2)).off + 1 } = some (.slice bo body.length bcap) := hc1
      simp only at hc0
      clear hx hsrc htg
      have hbA := (Below.refl wr.heap.size wr).alloc (Nat.le_refl _) (.cells #[.int .u8 tg, .slice bo body.length bcap] 47)
      have HBA := hide hbA
      have HBW := hide (HBk.out.alloc hsz (.cells #[.int .u8 tg, .slice bo body.length bcap] 47))
      have hgs := tot_get HX.out
      have htl := encs_len (bl.take k)
      have HGS := hide (show (imgHead kind bl.length ++ encs (bl.take k)).length + (enc tg body).length ≤ 140737488355100 ∧ body.length ≤ 140737488355000 ∧ (enc tg body).length ≤ 140737488355000 by
        have h1 := HT.out
        have h2 := enc_len tg body
        have h3 := HHL.out
        simp only at hgs
        rw [List.length_append]
        omega)
      clear hbA hgs htl
      go_wp2_with fail
      by_cases h0 : tg = 0
      · subst h0
        refine (ref_encode_zero _ _).mono ?_
        rintro e w' ⟨rfl, rfl⟩
        go_wp2
        go_ret2
        exact ⟨HBW.out, .inl ⟨⟨_, List.mem_of_getElem? HX.out, rfl⟩, rfl⟩⟩
      · have H0 := hide h0
        clear h0
        refine (ref_encode_pos _ tg HTG.out H0.out _ body (src_keep HSRC.out HBA.out) (by have := HGS.out.2.1; omega)).mono ?_
        rintro e w6 ⟨g6, c6, rfl, ho6, hb6⟩
        have HB6 := hide (HBW.out.trans (hb6.mono HBW.out.size))
        have HO6 := hide (own_keep HW.out (HBA.out.trans (hb6.mono HBA.out.size)))
        have HS6 := hide (src_own ho6 (enc_lt HTG.out HSRC.out.1 (by have := HGS.out.2.1; rw [Uv.u64_eq]; omega)))
        clear hb6 ho6
        have hne : imgHead kind bl.length ++ encs (bl.take (k + 1)) = (imgHead kind bl.length ++ encs (bl.take k)) ++ enc tg body := by
          rw [List.take_add_one, HX.out, encs_app, Option.toList_some, encs_one, ← List.append_assoc]
        have HNE := hide hne
        have HP7 := hide (show ∀ x ∈ bl.take (k + 1), x.1 ≠ 0 by
          intro x hx
          rw [List.take_add_one, HX.out] at hx
          rcases List.mem_append.1 hx with h | h
          · exact HP.out x h
          · simp at h; subst h; exact H0.out)
        have hwk : IntKind.i64.wrap ((k : Int) + 1) = ((k + 1 : Nat) : Int) := by have := HT.out; have := HLT.out; rw [IntKind.wrap_i64]; omega
        clear hne
        go_wp2_with (refine append_src w w6 w.heap.size _ _ (imgHead kind bl.length ++ encs (bl.take k)) (enc tg body) rfl (.tmp 38) (.tmp 39) rfl rfl rfl HO6.out HS6.out (by have := HGS.out.1; omega) HB6.out.size HB6.out ?_)
        intro v7 w7 ho7 hb7
        rw [← List.append_assoc, ← HNE.out] at ho7
        have HO7 := hide ho7
        have HB7 := hide hb7
        clear ho7 hb7
        go_wp2
        go_roundw
        case rel => exact ⟨k + 1, hlt, rfl, HP7.out, HO7.out, HB7.out⟩
        case measure => simp [intOf]; omega
    · have hke : k = bl.length := by omega
      subst hke
      have hq := HW.out
      rw [List.take_length] at hq
      change Own wr w.heap.size _ (imgBody kind bl) at hq
      have HWB := hide hq
      have HPP := hide (show ∀ x ∈ bl, x.1 ≠ 0 by have := HP.out; rw [List.take_length] at this; exact this)
      clear HW HP hq
      have hbl := blocks_ok HB.out HT.out
      have HBL := hide (imgBody_lt HK.out HU.out hbl)
      have HLB := hide (show (imgBody kind bl).length ≤ 140737488355100 by have := imgBody_len kind bl; have := HT.out; omega)
      have HE2 := hide (show img kind bl = imgBody kind bl ++ Uv.word (seal_ (imgBody kind bl)) from rfl)
      have HIL := hide (img_lt HK.out HU.out hbl)
      have HSL := hide (seal_lt' HBL.out)
      have hlp : 0 < (imgBody kind bl).length := by simp [imgBody, imgHead]
      clear hbl
      generalize imgBody kind bl = ib at HWB HBL HLB HE2 HSL hlp
      have HS5 := hide (own_src HWB.out HBL.out)
      obtain ⟨g5, c5, rfl⟩ := own_form HWB.out hlp
      clear hlp
      go_wp2_with fail
      refine (ref_seal wr _ ib HS5.out (by have := HLB.out; omega)).mono ?_
      rintro e w' ⟨rfl, rfl⟩
      go_wp2_with fail
      refine (ref_word wr (seal_ ib) HSL.out).mono ?_
      rintro e w' ⟨rfl, rfl⟩
      have HBA := hide ((Below.refl wr.heap.size wr).alloc (Nat.le_refl _) (.cells (u8s (Uv.word (seal_ ib))).toArray 5))
      have HB6 := hide (HBk.out.alloc hsz (.cells (u8s (Uv.word (seal_ ib))).toArray 5))
      have HO6 := hide (own_keep HWB.out HBA.out)
      have HS6 := hide (own_src (own_lit wr wr.heap.size (Uv.word (seal_ ib)) (Nat.le_refl _) (by have : (Uv.word (seal_ ib)).length = 4 := rfl; omega) _ rfl) (word_lt _))
      have hwl : (Uv.word (seal_ ib)).length = 4 := rfl
      have HWL := hide hwl
      rw [hwl] at HS6
      generalize Uv.word (seal_ ib) = ws at HE2 HBA HB6 HO6 HS6 HWL
      clear hwl
      go_wp2_with (refine append_src w (wr.alloc (.cells (u8s ws).toArray 5)) w.heap.size _ _ ib ws rfl (.tmp 42) (.tmp 45) rfl rfl rfl HO6.out HS6.out (by have := HLB.out; have := HWL.out; omega) HB6.out.size HB6.out ?_)
      intro v8 w8 ho8 hb8
      rw [← HE2.out] at ho8
      have HO8 := hide ho8
      have HB8 := hide hb8
      clear ho8 hb8
      go_wp2
      go_ret2
      exact ⟨HB8.out, .inr ⟨HPP.out, _, rfl, HO8.out⟩⟩

theorem ref_pack_any (w : World) (kind : Nat) (hk : kind < 256) (hk0 : kind ≠ 0) (v : Value) (bl : List Bl) (hB : Blocks w v bl) (ht : tot bl ≤ 140737488355000) :
    Calls Tryd.prog 34 #[.int .u8 kind, v] w (RefPackOut w kind bl) := by
  obtain ⟨ao, cap, rfl, h⟩ := blocks_form hB
  exact ref_pack_some w kind hk hk0 bl ao cap h ht
end Go.Proofs.YtgebekklkodpaaaDoor
