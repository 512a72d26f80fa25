/- a reader: one byte, some bytes, a number up to a bound, the end -/
import Derived.Test.YtmkbbekeimnajaaDoorRn
import Derived.Test.YtmkbbekeimnajaaDoorUl
import Derived.Test.YtmkbbekeimnajaaDoorLi
import Derived.StillTailTactics
namespace Go.Proofs.YtmkbbekeimnajaaDoor
open Go.RowKit
set_option maxRecDepth 100000 in
theorem byte_end (w : World) (p n : Nat) (bv : Value) (a : Addr) (hR : RdAt w p n bv n) (hn : n ≤ 140737488355328) (hE : ErrAt w 2 a) :
    Calls Tryd.prog 83 #[.pointer (some ⟨p, 0, none⟩)] w fun e w' => e = .returned (.tuple #[.int .u8 0, .iface 153 (.pointer (some a))]) ∧ ∃ q, w' = w.drewN q := by
  have HL := hide (left_any w p n n bv hR (Nat.le_refl _) (by omega))
  rw [show (n : Int) - n = 0 by omega] at HL
  obtain ⟨h0, h1, h2⟩ := cells3 hR
  unfold ErrAt at hE
  clear hR
  go_enter Tryd.func83, Tryd.ntmps83
  go_wp2_with fail
  refine HL.out.mono ?_
  rintro e w1 ⟨rfl, q, rfl⟩
  go_wp2_with fail
  go_quiet (fail)
  go_wp2_with fail
  go_ret2
  exact ⟨rfl, by rw [World.drewN_drewN]; exact ⟨_, rfl⟩⟩
theorem own_add (ad : Addr) (n cap : Nat) : (Value.slice (some ad) n cap).ownBlock = some ad.block := rfl
theorem src_same {w w' : World} {v : Value} {bs : List Nat} (h : Src w v bs) (hk : ∀ g, v.ownBlock = some g → w'.heap[g]? = w.heap[g]?) : Src w' v bs := by
  rcases h with ⟨h1, h2 | ⟨ad, cap, rfl, hl, hm, hc⟩⟩
  · exact ⟨h1, .inl h2⟩
  · refine ⟨h1, .inr ⟨ad, cap, rfl, hl, hm, fun k x hk2 => ?_⟩⟩
    rw [← hc k x hk2]
    exact World.cell?_of_block (by rw [show (ad.add k).block = ad.block by unfold Addr.add; split <;> rfl]; exact hk _ rfl)
theorem src_foot {w w' : World} {v : Value} {bs : List Nat} {S : Nat → Prop} (h : Src w v bs) (hf : Foot w w' S) (hlt : ∀ g, v.ownBlock = some g → g < w.heap.size ∧ ¬ S g) : Src w' v bs :=
  src_same h fun g hg => hf.block g (hlt g hg).1 (hlt g hg).2
set_option maxRecDepth 100000 in
set_option maxHeartbeats 1000000 in
theorem byte_ok (w : World) (p at_ n cap x : Nat) (ao : Option Addr) (bs : List Nat) (hR : RdAt w p at_ (.slice ao n cap) n) (hS : Src w (.slice ao n cap) bs) (hbl : bs.length = n) (hn : n ≤ 140737488355328) (hx : bs[at_]? = some x)
    (hlt : ∀ g, (Value.slice ao n cap).ownBlock = some g → g < w.heap.size ∧ g ≠ p) :
    Calls Tryd.prog 83 #[.pointer (some ⟨p, 0, none⟩)] w fun e w' => e = .returned (.tuple #[.int .u8 x, .nilIface]) ∧ RdAt w' p (at_ + 1) (.slice ao n cap) n ∧ Foot w w' (fun k => k = p) := by
  have hat : at_ < n := by rw [← hbl]; exact (List.getElem?_eq_some_iff.1 hx).1
  have HL := hide (left_any w p at_ n _ hR (by omega) (by omega))
  have hne : (((n : Int) - (at_ : Int)) == 0) = false := by simp; omega
  have HR := hide hR
  have HS := hide hS
  have HX := hide hx
  have HLT := hide hlt
  have HBL := hide hbl
  clear hR hS hx hlt hbl
  go_enter Tryd.func83, Tryd.ntmps83
  go_wp2_with fail
  refine HL.out.mono ?_
  rintro e w1 ⟨rfl, q, rfl⟩
  have HR1 := hide (rd_drew HR.out q)
  have HS1 := hide (src_drew HS.out q)
  have HF1 := hide ((Foot.refl w (fun k => k = p)).drewN q)
  have HLT1 := hide (show ∀ g, (Value.slice ao n cap).ownBlock = some g → g < (w.drewN q).heap.size ∧ g ≠ p from HLT.out)
  clear HL HR HS HLT
  generalize w.drewN q = w1 at *
  obtain ⟨h0, h1, h2⟩ := cells3 HR1.out
  have hf := free_at HR1.out 0
  have hwa : IntKind.i64.wrap ((at_ : Int) + 1) = ((at_ + 1 : Nat) : Int) := by rw [IntKind.wrap_i64]; omega
  have HR2 := hide (show RdAt (w1.setCell ⟨p, 0, none⟩ (.int .i64 ((at_ : Int) + 1))) p (at_ + 1) (.slice ao n cap) n from rd_set HR1.out (at_ + 1))
  have HF2 := hide (HF1.out.setCell ⟨p, 0, none⟩ (.int .i64 ((at_ : Int) + 1)) (.inl rfl))
  have HS2 := hide (src_same (w' := w1.setCell ⟨p, 0, none⟩ (.int .i64 ((at_ : Int) + 1))) HS1.out (fun g hg => Below.heap_setCell w1 ⟨p, 0, none⟩ _ g (HLT1.out g hg).2))
  go_upto_region 4 with (fail)
  generalize w1.setCell ⟨p, 0, none⟩ (.int .i64 ((at_ : Int) + 1)) = w2 at *
  clear h0 h1 h2 hf hwa
  obtain ⟨h0, h1, h2⟩ := cells3 HR2.out
  obtain ⟨ad, rfl, hc⟩ := src_cell HS2.out HX.out
  have hw3 : IntKind.i64.wrap (((at_ + 1 : Nat) : Int) - 1) = (at_ : Int) := by rw [IntKind.wrap_i64]; omega
  have hati : (at_ : Int) < (n : Int) := by omega
  go_quiet (fail)
  go_wp2_with fail
  go_ret2
  exact ⟨rfl, rd_drew HR2.out _, HF2.out.drewN _⟩
theorem splice_all {α : Type} (Z X : List α) (h : X.length = Z.length) : splice Z 0 X = X := by
  unfold splice
  rw [List.take_zero, List.nil_append, List.drop_eq_nil_of_le (by omega), List.append_nil]
theorem foot_then {w a w' : World} {S : Nat → Prop} (h : Foot w a S) (hb : Below w.heap.size a w') : Foot w w' S :=
  ⟨hb.os.trans h.os, hb.tape.trans h.tape, hb.output.trans h.output, Nat.le_trans h.size hb.size, fun k hk hs => (hb.block k hk).trans (h.block k hk hs)⟩
set_option maxRecDepth 100000 in
theorem raw_short (w : World) (p at_ n k : Nat) (bv : Value) (a : Addr) (hR : RdAt w p at_ bv n) (hat : at_ ≤ n) (hn : n ≤ 140737488355328) (hk : n < at_ + k) (hE : ErrAt w 2 a) :
    Calls Tryd.prog 85 #[.pointer (some ⟨p, 0, none⟩), .int .i64 (k : Nat)] w fun e w' => e = .returned (.tuple #[.slice none 0 0, .iface 153 (.pointer (some a))]) ∧ ∃ q, w' = w.drewN q := by
  have HL := hide (left_any w p at_ n bv hR hat (by omega))
  obtain ⟨h0, h1, h2⟩ := cells3 hR
  unfold ErrAt at hE
  have hlt : (n : Int) - (at_ : Int) < (k : Int) := by omega
  have hk0 : ¬ (k : Int) < 0 := by omega
  clear hR
  go_enter Tryd.func85, Tryd.ntmps85
  go_wp2_with fail
  refine HL.out.mono ?_
  rintro e w1 ⟨rfl, q, rfl⟩
  go_wp2_with fail
  go_quiet (fail)
  go_wp2_with fail
  go_ret2
  exact ⟨rfl, by rw [World.drewN_drewN]; exact ⟨_, rfl⟩⟩
set_option maxRecDepth 100000 in
set_option maxHeartbeats 2000000 in
theorem raw_ok (w : World) (p at_ n cap k : Nat) (ao : Option Addr) (bs : List Nat) (hR : RdAt w p at_ (.slice ao n cap) n) (hS : Src w (.slice ao n cap) bs) (hbl : bs.length = n) (hn : n ≤ 140737488355328) (hk : at_ + k ≤ n) (hk0 : 0 < k)
    (hlt : ∀ g, (Value.slice ao n cap).ownBlock = some g → g < w.heap.size ∧ g ≠ p) :
    Calls Tryd.prog 85 #[.pointer (some ⟨p, 0, none⟩), .int .i64 (k : Nat)] w fun e w' => ∃ g, e = .returned (.tuple #[.slice (some ⟨g, 0, none⟩) k k, .nilIface]) ∧ w.heap.size ≤ g ∧ w'.heap[g]? = some (.cells (u8s ((bs.drop at_).take k)).toArray 5 (0, 0)) ∧ RdAt w' p (at_ + k) (.slice ao n cap) n ∧ Foot w w' (fun k => k = p) := by
  have HL := hide (left_any w p at_ n _ hR (by omega) (by omega))
  obtain ⟨i0, hi, hz0, hz1, hz2⟩ := info_parts info5
  have hnl : ¬ (n : Int) - (at_ : Int) < (k : Int) := by omega
  have hkn : ¬ (k : Int) < 0 := by omega
  have hp := heap_lt hR
  have HR := hide hR
  have HS := hide hS
  have HLT := hide hlt
  have HBL := hide hbl
  clear hR hS hlt hbl
  go_enter Tryd.func85, Tryd.ntmps85
  go_wp2_with fail
  refine HL.out.mono ?_
  rintro e w1 ⟨rfl, q, rfl⟩
  have HR1 := hide (rd_drew HR.out q)
  have HS1 := hide (src_drew HS.out q)
  have HF1 := hide ((Foot.refl w (fun k => k = p)).drewN q)
  have HLT1 := hide (show ∀ g, (Value.slice ao n cap).ownBlock = some g → g < (w.drewN q).heap.size ∧ g ≠ p from HLT.out)
  have hz1' : (w.drewN q).heap.size = w.heap.size := rfl
  have HZ1 := hide hz1'
  have hp1 : p < (w.drewN q).heap.size := hp
  clear HL HR HS HLT hz1'
  generalize w.drewN q = w1 at *
  go_wp2_with (at_make; refine wpList_make_full _ rfl (.tmp 17) (.tmp 17) 46 rfl w1.heap.size 5 i0 (.int .u8 0) 1 Tryd.underlying46 hi hz0 hz1 _ _ _ _ k rfl rfl rfl rfl ?_ ?_ (Nat.le_refl _) ?_)
  case refine_1 => rw [hz2]; omega
  case refine_2 => unfold maxLen; omega
  intro w2 hown hg
  have hB := (Below.refl w1.heap.size w1).grown hg (Nat.le_refl _) (fun k hk => by cases hk)
  have hrow := row_full hown
  have hml : (madeCells #[Value.int IntKind.u8 0] k).toList.length = k := by simp [madeCells]
  generalize (madeCells #[Value.int IntKind.u8 0] k).toList = Z at hrow hml
  have HRW := hide hrow
  have HML := hide hml
  have HB2 := hide hB
  have HR2 := hide (show RdAt w2 p at_ (.slice ao n cap) n from (hB.block _ hp1).trans HR1.out)
  have HS2 := hide (src_keep HS1.out hB)
  have HF2 := hide (HF1.out.keep hB)
  have z2 := hB.size
  clear hown hg hB hrow hml
  obtain ⟨x, hx⟩ : ∃ x, bs[at_]? = some x := ⟨_, List.getElem?_eq_getElem (by rw [HBL.out]; omega)⟩
  obtain ⟨ad, rfl, _⟩ := src_cell HS2.out hx
  obtain ⟨h0, h1, h2⟩ := cells3 HR2.out
  have hcap : n ≤ cap ∧ cap ≤ 9223372036854775807 := by
    rcases HS2.out with ⟨_, ⟨hv, _⟩ | ⟨ad', c', hv, hl1, hl2, _⟩⟩
    · cases hv
    · simp only [Value.slice.injEq] at hv
      have := HBL.out
      omega
  have HPA := hide (src_part HS2.out at_ (at_ + k) (cap - at_) (by omega) (by rw [HBL.out]; exact hk) (by omega) (by omega))
  have hati : (at_ : Int) ≤ (n : Int) := by omega
  have hatc : (at_ : Int) < (cap : Int) := by omega
  have hcne : ¬ cap = at_ := by omega
  clear hx
  go_wp2_with fail
  refine wp_region_still_tail 11 (by kernel_rfl) (by kernel_rfl) ?_
  simp only [List.take_succ_cons, List.take_zero, List.drop_succ_cons, List.drop_zero]
  repeat still_step
  refine wpStill_nil ?_
  have hcl : (u8s ((bs.take (at_ + k)).drop at_)).length = k := by rw [u8s_len, List.length_drop, List.length_take, HBL.out]; omega
  have HCL := hide hcl
  have hin : (bs.take (at_ + k)).drop at_ = (bs.drop at_).take k := by rw [List.drop_take, Nat.add_sub_cancel_left]
  have HIN := hide hin
  have hsz : w1.heap.size = w.heap.size := HZ1.out
  have HSZ := hide hsz
  have HR2' := hide (rd_drew HR2.out 1)
  clear hcl hin hsz h0 h1 h2
  have HCE := hide (show ∀ (j : Nat) (u : Value), (u8s ((bs.take (at_ + k)).drop at_))[j]? = some u → w2.cell? ((ad.add at_).add j) = some u from fun j u hu => by
    rcases HPA.out with ⟨_, ⟨hv, _⟩ | ⟨ad', c', hv, _, _, hc⟩⟩
    · cases hv
    · simp only [Value.slice.injEq, Option.some.injEq] at hv
      obtain ⟨rfl, _, _⟩ := hv
      simp only [u8s, List.getElem?_map, Option.map_eq_some_iff] at hu
      obtain ⟨y, hy, rfl⟩ := hu
      exact hc j y hy)
  go_wp2_with (refine wpList_copy_splice rfl (.tmp 19) (.tmp 29) 46 46 rfl 5 Tryd.underlying46 size5 (some ⟨w1.heap.size, 0, none⟩) (some (ad.add at_)) k k (n - at_) (cap - at_) rfl rfl w1.heap.size 0 Z 5 HRW.out (u8s ((bs.take (at_ + k)).drop at_)) ?_ ?_ ?_ ?_ w1.heap.size w2.drew (Below.refl _ _) (Nat.le_refl _) ?_)
  case refine_1 => rw [HCL.out]; exact (Nat.min_eq_right (by omega)).symm
  case refine_2 => first | exact fun _ => ⟨rfl, _, rfl, HCE.out⟩ | exact fun _ => HCE.out | exact HCE.out
  case refine_3 => rw [HCL.out, HML.out]; omega
  case refine_4 => exact u8s_one _
  intro w3 hR3 hB3
  have HB3 := hide hB3
  have HRW3 := hide (show w3.heap[w1.heap.size]? = some (.cells (u8s ((bs.drop at_).take k)).toArray 5 (0, 0)) from by
    have h := hR3.out
    have hs := splice_all Z (u8s ((bs.take (at_ + k)).drop at_)) (by rw [HCL.out, HML.out])
    rw [hs, HIN.out] at h
    exact h)
  have HR3 := hide (show RdAt w3 p at_ (.slice (some ad) n cap) n from (hB3.block p hp1).trans HR2'.out)
  have HF3 := hide (foot_then (HF2.out.drew) (by rw [← HSZ.out]; exact hB3))
  obtain ⟨h0, h1, h2⟩ := cells3 HR3.out
  have hf := free_at HR3.out 0
  have hwa : IntKind.i64.wrap ((at_ : Int) + (k : Int)) = ((at_ + k : Nat) : Int) := by rw [IntKind.wrap_i64]; omega
  have hpg : p ≠ w1.heap.size := by omega
  have hFin1 := hide (show (w3.setCell ⟨p, 0, none⟩ (.int .i64 ((at_ + k : Nat) : Int))).heap[w1.heap.size]? = some (.cells (u8s ((bs.drop at_).take k)).toArray 5 (0, 0)) from heap_else HRW3.out (fun e => hpg e.symm) _)
  have hFin2 := hide (show RdAt (w3.setCell ⟨p, 0, none⟩ (.int .i64 ((at_ + k : Nat) : Int))) p (at_ + k) (.slice (some ad) n cap) n from rd_set HR3.out (at_ + k))
  have hFin3 := hide (HF3.out.setCell ⟨p, 0, none⟩ (.int .i64 ((at_ + k : Nat) : Int)) (.inl rfl))
  clear hR3 hB3
  go_wp2_with fail
  go_ret2
  exact ⟨w1.heap.size, rfl, by rw [HSZ.out]; exact Nat.le_refl _, hFin1.out, hFin2.out, hFin3.out⟩
end Go.Proofs.YtmkbbekeimnajaaDoor
