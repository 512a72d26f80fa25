/- concordmem: Mark, Spare, Kept -/
import Derived.Test.YtgebekklkodpaaaDoorRdNum
namespace Go.Proofs.YtgebekklkodpaaaDoor
open Go.RowKit

def markH (i j : Int) : Int := IntKind.u64.wrap (IntKind.u64.wrap (IntKind.u64.wrap (wrap64 (i + 1)) * 11400714819323198485) + IntKind.u64.wrap (IntKind.u64.wrap (wrap64 (j + 1)) * 13787848793156543929))
def mark (i j : Int) : Int := wrap64 (wrap64 (IntKind.u64.wrap (bits .xor .u64 (markH i j) (markH i j / 536870912) * 10723151780598845931) / 8589934592) + 1)
/-- the byte of a mark -/
def mb (i j : Nat) : Nat := (IntKind.u8.wrap (mark i j)).toNat
theorem mb_wrap (i j : Nat) : IntKind.u8.wrap (mark i j) = (mb i j : Int) := by
  have h : 0 ≤ IntKind.u8.wrap (mark i j) := by rw [IntKind.wrap_u8]; omega
  rw [mb, Int.toNat_of_nonneg h]
theorem mb_lt (i j : Nat) : mb i j < 256 := by
  have h : IntKind.u8.wrap (mark i j) < 256 := by rw [IntKind.wrap_u8]; omega
  have := mb_wrap i j
  omega
set_option maxRecDepth 100000 in
theorem mark_any (w : World) (i j : Int) :
    Calls Tryd.prog 70 #[.int .i64 i, .int .i64 j] w fun e w' => e = .returned (.int .i64 (mark i j)) ∧ w = w' := by
  go_enter Tryd.func70, Tryd.ntmps70
  go_wp2
  go_ret
  exact ⟨rfl, rfl⟩
/-- the room's bytes -/
def room (n : Nat) : List Nat := (List.range n).map fun j => mb 7 j
theorem room_len (n : Nat) : (room n).length = n := by simp [room]
theorem room_lt (n : Nat) : ∀ x ∈ room n, x < 256 := by
  intro x hx
  simp only [room, List.mem_map, List.mem_range] at hx
  obtain ⟨j, _, rfl⟩ := hx
  exact mb_lt 7 j
theorem room_succ (n : Nat) : room (n + 1) = room n ++ [mb 7 n] := by simp [room, List.range_succ]
theorem room_get (n j : Nat) (h : j < n) : (room n)[j]? = some (mb 7 j) := by simp [room, h]

set_option maxRecDepth 100000 in
/-- append within the room -/
theorem append_fit {ops : Array Oper} {rest : List Oper} {o : Oper} {a : Act} {Q : Exit → Act → World → Prop} (w0 w : World) (B g cap k : Nat) (xv : Value) (cur bs : List Nat) (hgd : o.guard = none) (s x : Operand)
    (ho : o.op = .call { callee := .builtin .append, args := #[s, x], argTypes := #[25, 25] }) (hs : a.eval s = .slice (some ⟨g, 0, none⟩) k cap) (hx : a.eval x = xv)
    (hk : cur.length = k) (hown : Own w B (.slice (some ⟨g, 0, none⟩) k cap) cur) (hsrc : Src w xv bs) (hl : k + bs.length ≤ cap) (hB : B ≤ w.heap.size) (hb : Below B w0 w)
    (h : ∀ w', Own w' B (.slice (some ⟨g, 0, none⟩) (k + bs.length) cap) (cur ++ bs) → Below B w0 w' → wpList Tryd.prog ops Q rest (a.put o.dst (.slice (some ⟨g, 0, none⟩) (k + bs.length) cap)) w') :
    wpList Tryd.prog ops Q (o :: rest) a w := by
  obtain ⟨i0, hi, hz0, hz1, hz2⟩ := info_parts info5
  obtain ⟨ao, c, rfl⟩ := src_form hsrc
  subst hk
  refine wpList_append_fits_any w hgd s x 25 ho B 5 i0 1 Tryd.underlying25 hi hz1 g cur.length cap (u8s cur) hs hown ao bs.length c (u8s bs) hx (by simp [u8s_len]) ?_ ?_ (u8s_one _) hl ?_
  · intro h0
    rcases hsrc with ⟨_, ⟨h1, h2⟩ | ⟨ad, c', h1, _⟩⟩
    · simp only [Value.slice.injEq] at h1
      exact ⟨h1.2.1, h1.2.2⟩
    · simp only [Value.slice.injEq] at h1
      rw [h0] at h1
      exact absurd h1.1 (by simp)
  · intro ad had
    rcases hsrc with ⟨_, ⟨h1, h2⟩ | ⟨ad', c', h1, _, _, hc⟩⟩
    · subst h2
      intro j u hu
      simp [u8s] at hu
    · simp only [Value.slice.injEq] at h1
      rw [had] at h1
      obtain rfl := Option.some.inj h1.1
      exact src_news hc
  · intro w' hown' hg
    refine h w' ?_ (hb.grown hg hB (fun j hj => by
      obtain rfl := Option.some.inj hj
      exact (World.ownsRow.lt hown g rfl).1))
    unfold Own
    rw [u8s_app, List.length_append]
    exact hown'
theorem mark_src (w : World) (B x : Nat) (hx : x < 256) : Src (w.alloc (.cells #[.int .u8 (x : Nat)] 5)) (.slice (some ⟨w.heap.size, 0, none⟩) 1 1) [x] := by
  have h := own_src (B := w.heap.size) (own_lit w w.heap.size [x] (Nat.le_refl _) (by simp) #[.int .u8 (x : Nat)] rfl) (fun y hy => by simp at hy; omega)
  exact h

set_option maxRecDepth 100000 in
set_option maxHeartbeats 4000000 in
theorem spare_any (w : World) (v : Value) (bs : List Nat) (hs : Src w v bs) (hl : bs.length ≤ 140737488355000) :
    Calls Tryd.prog 37 #[v] w fun e w' => ∃ g, e = .returned (.tuple #[.slice (some ⟨g, 0, none⟩) bs.length (bs.length + 80), .slice (some ⟨g, 0, none⟩) (bs.length + 80) (bs.length + 80)]) ∧ w.heap.size ≤ g ∧
      w'.heap[g]? = some (.cells (u8s (bs ++ room 80)).toArray 5 (0, 0)) ∧ Below w.heap.size w w' := by
  obtain ⟨ao, cap, rfl⟩ := src_form hs
  have HS := hide hs
  clear hs
  obtain ⟨i0, hi, hz0, hz1, hz2⟩ := info_parts info5
  have hw : IntKind.i64.wrap ((bs.length : Int) + 80) = ((bs.length + 80 : Nat) : Int) := by rw [IntKind.wrap_i64]; omega
  go_enter Tryd.func37, Tryd.ntmps37
  go_wp2_with (first | (at_make; refine wpList_make_own _ rfl _ _ 25 rfl w.heap.size 5 i0 (.int .u8 0) 1 Tryd.underlying25 hi hz0 hz1 _ _ _ (bs.length + 80) rfl rfl ?_ ?_ ?_ (Nat.le_refl _) ?_))
  · omega
  · rw [hz2]; omega
  · simp only [maxLen]; omega
  intro w1 ho1 hg1
  have HB1 := hide (show Below w.heap.size w w1 from ⟨hg1.os, hg1.tape, hg1.output, hg1.size, fun k hk => hg1.block k hk (by simp)⟩)
  have HO1 := hide (show Own w1 w.heap.size (.slice (some ⟨w.heap.size, 0, none⟩) 0 (bs.length + 80)) [] from ho1)
  clear ho1 hg1
  go_wp2_with (refine append_fit w w1 w.heap.size w.heap.size (bs.length + 80) 0 _ [] bs rfl (.tmp 10) (.tmp 11) rfl rfl rfl rfl HO1.out (src_keep HS.out HB1.out) (by omega) HB1.out.size HB1.out ?_)
  intro w2 ho2 hb2
  have HO2 := hide ho2
  have HB2 := hide hb2
  clear ho2 hb2 HO1 HB1
  go_wp2_with fail
  go_loopw [4, 5] (fun v4 c wr => ∃ j : Nat, j ≤ 80 ∧ c = .int .i64 j ∧ v4 = .slice (some ⟨w.heap.size, 0, none⟩) (bs.length + j) (bs.length + 80) ∧
    Own wr w.heap.size (.slice (some ⟨w.heap.size, 0, none⟩) (bs.length + j) (bs.length + 80)) (bs ++ room j) ∧ Below w.heap.size w wr) (fun _ c _ => 80 - (intOf c).toNat)
  case atStart => exact ⟨0, by omega, rfl, rfl, by simpa [room] using HO2.out, HB2.out⟩
  case round =>
    obtain ⟨j, hj, rfl, rfl, ho, hb⟩ := hrel
    have HO := hide ho
    have HB := hide hb
    have hsr := hb.size
    clear ho hb
    by_cases hlt : j < 80
    · have hj1 : (j : Int) < 80 := by omega
      have hbw : IntKind.u8.wrap (mark 7 j) = (mb 7 j : Int) := mb_wrap 7 j
      have HM := hide (mark_any wr 7 j)
      have hba := (Below.refl wr.heap.size wr).alloc (Nat.le_refl _) (.cells #[.int .u8 (mb 7 j : Nat)] 5)
      have HOA := hide (own_keep HO.out hba)
      have HBA := hide (HB.out.trans (hba.mono hsr))
      have hlr : (bs ++ room j).length = bs.length + j := by simp [room_len]
      have HSA := hide (mark_src wr 0 (mb 7 j) (mb_lt 7 j))
      clear hba
      go_wp2_with fail
      refine HM.out.mono ?_
      rintro e w' ⟨rfl, rfl⟩
      go_wp2_with (refine append_fit w _ w.heap.size w.heap.size (bs.length + 80) (bs.length + j) _ (bs ++ room j) [mb 7 j] rfl (.tmp 17) (.tmp 21) rfl rfl rfl hlr HOA.out HSA.out (by simp; omega) HBA.out.size HBA.out ?_)
      intro w5 ho5 hb5
      have HO5 := hide ho5
      have HB5 := hide hb5
      clear ho5 hb5
      go_wp2_with fail
      exact ⟨⟨j + 1, by omega, by simp, rfl, by rw [room_succ]; exact HO5.out, HB5.out⟩, by simp [intOf]; omega⟩
    · obtain rfl : j = 80 := by omega
      have hrow : wr.heap[w.heap.size]? = some (.cells (u8s (bs ++ room 80)).toArray 5 (0, 0)) := by
        have h := HO.out
        unfold Own at h
        rw [List.length_append, room_len] at h
        exact row_full h
      have HRW := hide hrow
      have k1 : (bs.length : Int) ≤ (bs.length : Int) + 80 := by omega
      clear hrow
      go_wp2_with fail
      go_ret2
      exact ⟨w.heap.size, rfl, Nat.le_refl _, HRW.out, HB.out⟩

set_option maxRecDepth 100000 in
set_option maxHeartbeats 4000000 in
/-- Kept: the whole is what Spare made -/
theorem kept_any (w : World) (g : Nat) (vb : Value) (bs : List Nat) (hg : w.heap[g]? = some (.cells (u8s (bs ++ room 80)).toArray 5 (0, 0))) (hs : Src w vb bs) (hl : bs.length ≤ 140737488355000) :
    Calls Tryd.prog 39 #[.slice (some ⟨g, 0, none⟩) (bs.length + 80) (bs.length + 80), vb] w fun e w' => e = .returned (.bool true) ∧ ∃ q, w' = w.drewN q := by
  obtain ⟨ao, cap, rfl⟩ := src_form hs
  have HS := hide hs
  have HG := hide hg
  clear hs hg
  go_enter Tryd.func39, Tryd.ntmps39
  go_wp2_with fail
  go_loopw [15] (fun c wr => ∃ i : Nat, i ≤ bs.length ∧ c = .int .i64 i ∧ ∃ q, wr = w.drewN q) (fun c _ => bs.length - (intOf c).toNat)
  case atStart => exact ⟨0, by omega, rfl, 0, rfl⟩
  case round =>
    obtain ⟨i, hi, rfl, q, rfl⟩ := hrel
    by_cases hlt : i < bs.length
    · obtain ⟨x, hx⟩ : ∃ x, bs[i]? = some x := ⟨_, List.getElem?_eq_getElem hlt⟩
      obtain ⟨ad, rfl, hc⟩ := src_cell HS.out hx
      have hfull : w.cell? ⟨g, i, none⟩ = some (.int .u8 (x : Nat)) := by
        rw [cell_at HG.out]
        have h : (bs ++ room 80)[i]? = some x := by rw [List.getElem?_append_left hlt, hx]
        simp only [u8s, List.getElem?_toArray, List.getElem?_map, h, Option.map_some]
      have hi1 : (i : Int) < (bs.length : Int) := by omega
      have hi2 : (i : Int) < (bs.length : Int) + 80 := by omega
      clear hx
      go_wp2_with fail
      go_quiet (fail)
      go_wp2_with fail
      exact ⟨⟨i + 1, by omega, by simp, _, rfl⟩, by simp [intOf]; omega⟩
    · obtain rfl : i = bs.length := by omega
      go_wp2_with fail
      go_loopw [6] (fun c wr => ∃ j : Nat, j ≤ 80 ∧ c = .int .i64 j ∧ ∃ q, wr = w.drewN q) (fun c _ => 80 - (intOf c).toNat)
      case atStart => exact ⟨0, by omega, rfl, q, rfl⟩
      case round =>
        obtain ⟨j, hj, rfl, q2, rfl⟩ := hrel
        by_cases hlj : j < 80
        · have hj1 : (j : Int) < 80 := by omega
          have hfull : w.cell? ⟨g, bs.length + j, none⟩ = some (.int .u8 (mb 7 j : Nat)) := by
            rw [cell_at HG.out]
            have h : (bs ++ room 80)[bs.length + j]? = some (mb 7 j) := by rw [List.getElem?_append_right (by omega), Nat.add_sub_cancel_left, room_get 80 j hlj]
            simp only [u8s, List.getElem?_toArray, List.getElem?_map, h, Option.map_some]
          have hbw : IntKind.u8.wrap (mark 7 j) = (mb 7 j : Int) := mb_wrap 7 j
          have hfull : (w.drewN q2).cell? ⟨g, bs.length + j, none⟩ = some (.int .u8 (mb 7 j : Nat)) := hfull
          generalize hwq : w.drewN q2 = wq at hfull ⊢
          have HWQ := hide hwq
          have HM := hide fun q => mark_any (wq.drewN q) 7 j
          clear hwq
          obtain ⟨m, hm⟩ : ∃ m, bs.length + j = m := ⟨_, rfl⟩
          have hmi : IntKind.i64.wrap ((bs.length : Int) + (j : Int)) = (m : Int) := by rw [IntKind.wrap_i64]; omega
          have hm2 : (m : Int) < (bs.length : Int) + 80 := by omega
          rw [hm] at hfull
          clear hm
          go_wp2_with fail
          go_quiet (first | (go_at_call 70; exact Calls.quiet_of_same ((HM.out _).mono fun e w1 h => ⟨h.1, h.2.symm⟩)))
          go_wp2_with fail
          exact ⟨⟨j + 1, by omega, by simp, q2 + nq, by rw [← HWQ.out, World.drewN_drewN]⟩, by simp [intOf]; omega⟩
        · obtain rfl : j = 80 := by omega
          go_wp2_with fail
          go_ret
          exact ⟨rfl, q2, rfl⟩
end Go.Proofs.YtgebekklkodpaaaDoor
