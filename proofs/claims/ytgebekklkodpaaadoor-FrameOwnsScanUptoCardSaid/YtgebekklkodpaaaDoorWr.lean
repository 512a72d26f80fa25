/- codec.Writer -/
import Derived.Test.YtgebekklkodpaaaDoorRoll
import Derived.Test.YtgebekklkodpaaaDoorUv
import Derived.Lib.SmallJoins
import Derived.Laws.AppendOwnNone
namespace Go.Proofs.YtgebekklkodpaaaDoor
open Go.RowKit

def u8s (bs : List Nat) : List Value := bs.map fun (n : Nat) => Value.int .u8 (n : Int)
theorem u8s_len (bs : List Nat) : (u8s bs).length = bs.length := by simp [u8s]
theorem u8s_app (xs bs : List Nat) : u8s (xs ++ bs) = u8s xs ++ u8s bs := by simp [u8s]
theorem u8s_one (bs : List Nat) : ∀ u ∈ u8s bs, u.oneCell' = true := by
  intro u hu
  obtain ⟨n, _, rfl⟩ := List.mem_map.1 hu
  rfl
theorem info5 : (Tryd.prog.info? 5).map (fun i => (i.zero, i.size, i.bytes)) = some (some (.int .u8 0), 1, 1) := by kernel_rfl

theorem one_new (w : World) (u : Value) (E : TypeId) : ∀ (j : Nat) (x : Value), [u][j]? = some x → (w.alloc (.cells #[u] E)).cell? ((⟨w.heap.size, 0, none⟩ : Addr).add j) = some x := by
  intro j x hx
  match j, hx with
  | 0, hx => simp at hx; subst hx; simp [Addr.add]

/-- a writer at block p: it holds these bytes; all that it holds lies from block B on -/
def WriterIs (w : World) (B p : Nat) (bs : List Nat) : Prop :=
  B ≤ p ∧ ∃ v, w.heap[p]? = some (.cells #[v] 122 (0, 0)) ∧ w.ownsRow B 5 1 v bs.length (u8s bs)

theorem row_block {w : World} {B : Nat} {v : Value} {n : Nat} {xs : List Value} {p : Nat} {u : Value} {E : TypeId} (hE : E ≠ 5) (h : w.ownsRow B 5 1 v n xs) (hp : w.heap[p]? = some (.cells #[u] E (0, 0))) : v.ownBlock ≠ some p := by
  rcases h.2 with ⟨rfl, _⟩ | ⟨g, cap, cur, rfl, _, hg, _⟩
  · simp [Value.ownBlock]
  · simp only [Value.ownBlock]
    intro e
    obtain rfl := Option.some.inj e
    rw [hg] at hp
    simp only [Option.some.injEq, Obj.cells.injEq] at hp
    exact hE hp.2.1.symm

theorem WriterIs.lt {w : World} {B p : Nat} {bs : List Nat} (h : WriterIs w B p bs) : p < w.heap.size := by
  obtain ⟨_, v, h, _⟩ := h
  exact heap_lt h

/-- behind an append and the store of what it made -/
theorem writer_grown {w w1 : World} {B p : Nat} {v v' : Value} {xs ys : List Nat} (hB : B ≤ p) (hp : w.heap[p]? = some (.cells #[v] 122 (0, 0))) (hv : w.ownsRow B 5 1 v xs.length (u8s xs))
    (hown : w1.ownsRow B 5 1 v' ys.length (u8s ys)) (hg : w.grownBy w1 v.ownBlock) (hsz : B ≤ w.heap.size) :
    WriterIs (w1.setCell ⟨p, 0, none⟩ v') B p ys ∧ Below B w (w1.setCell ⟨p, 0, none⟩ v') := by
  have hne := row_block (by decide) hv hp
  have hp1 : w1.heap[p]? = some (.cells #[v] 122 (0, 0)) := (hg.block p (heap_lt hp) (fun e => hne e.symm)).trans hp
  refine ⟨⟨hB, v', one_setCell hp1, ownsRow_setCell_other hown (row_block (by decide) hown hp1) _⟩, ?_⟩
  refine below_set ((Below.refl B w).grown hg hsz (fun k hk => ?_)) hB _
  exact (hv.lt k hk).1

theorem new_writer (w : World) : Calls Tryd.prog 57 #[] w fun e w' => e = .returned (.pointer (some ⟨w.heap.size, 0, none⟩)) ∧ WriterIs w' w.heap.size w.heap.size [] ∧ Below w.heap.size w w' := by
  go_enter Tryd.func57, Tryd.ntmps57
  go_wp2
  go_ret
  exact ⟨rfl, ⟨Nat.le_refl _, _, heap_alloc_new w _, (World.ownsRow_nil _ _ _ _ : World.ownsRow _ _ _ _ _ 0 [])⟩, (Below.refl _ _).alloc (Nat.le_refl _) _⟩

set_option maxHeartbeats 400000 in
theorem writer_byte (w : World) (B p x : Nat) (bs : List Nat) (hW : WriterIs w B p bs) (hlen : bs.length + 1 ≤ 140737488355328) :
    Calls Tryd.prog 58 #[.pointer (some ⟨p, 0, none⟩), .int .u8 x] w fun e w' => e = .returned (.tuple #[]) ∧ WriterIs w' B p (bs ++ [x]) ∧ Below B w w' := by
  obtain ⟨hB, v, hp, hv⟩ := hW
  obtain ⟨i0, hi, hz0, hz1, hz2⟩ := info_parts info5
  have hlt := heap_lt hp
  have hc := cell_of_one hp
  have hcA := fun o => cell_of_one (heap_old hp o)
  have HP := hide hp
  have HL := hide hlen
  clear hp
  go_enter Tryd.func58, Tryd.ntmps58
  go_wp2_with (at_builtin; refine wpList_append_own _ rfl (.tmp 8) (.tmp 10) 25 rfl B 5 i0 (.int .u8 0) 1 1 Tryd.underlying25 hi hz0 hz1 hz2 rfl (by decide) _ _ _ rfl (hv.alloc _) ⟨w.heap.size, 0, none⟩ 1 1 [.int .u8 x] rfl rfl ?c1 ?c2 ?c3 ?c4 ?c5 ?_)
  case c1 => exact one_new _ _ _
  case c2 => intro u hu; simp at hu; subst hu; rfl
  case c3 => unfold maxLen; omega
  case c4 => omega
  case c5 => simp; omega
  intro v' w1 hown hg _
  have hW2 := writer_grown (ys := bs ++ [x]) hB (heap_old HP.out _) (hv.alloc _) (by rw [u8s_app, List.length_append]; exact hown) hg (by simp; omega)
  have hp1 := (hg.block p (by simp; omega) (fun e => row_block (by decide) hv HP.out e.symm)).trans (heap_old HP.out _)
  have hc1 := cell_of_one hp1
  have hf1 := free_of_one hp1
  obtain ⟨g, cap, rfl⟩ := Joins.ownsRow_form hown (by omega)
  have HW := hide hW2
  clear hW2 hp1 hown hg
  go_wp2
  go_end0
  exact ⟨rfl, HW.out.1, ((Below.refl B w).alloc (by omega) _).trans HW.out.2⟩

/-- a slice value that reads as these bytes -/
def Src (w : World) (v : Value) (bs : List Nat) : Prop :=
  (∀ x ∈ bs, x < 256) ∧ ((v = .slice none 0 0 ∧ bs = []) ∨ ∃ ad cap, v = .slice (some ad) bs.length cap ∧ bs.length ≤ cap ∧ cap ≤ 9223372036854775807 ∧ ∀ k x : Nat, bs[k]? = some x → w.cell? (ad.add k) = some (.int .u8 x))

theorem src_news {w : World} {ad : Addr} {bs : List Nat} (h : ∀ k x : Nat, bs[k]? = some x → w.cell? (ad.add k) = some (.int .u8 x)) :
    ∀ (j : Nat) (u : Value), (u8s bs)[j]? = some u → w.cell? (ad.add j) = some u := by
  intro j u hu
  simp only [u8s, List.getElem?_map, Option.map_eq_some_iff] at hu
  obtain ⟨x, hx, rfl⟩ := hu
  exact h j x hx

theorem src_bytes {w : World} {v : Value} {bs : List Nat} (h : Src w v bs) : ∃ ao cap, v = .slice ao bs.length cap ∧ BytesAt w ao bs := by
  rcases h with ⟨h1, ⟨rfl, rfl⟩ | ⟨ad, cap, rfl, _, _, hc⟩⟩
  · exact ⟨none, 0, rfl, h1, .inl rfl⟩
  · refine ⟨some ad, cap, rfl, h1, ?_⟩
    cases bs with
    | nil => exact .inl rfl
    | cons x bs =>
      right
      have h0 := hc 0 x rfl
      obtain ⟨b, off, sp⟩ := ad
      have hs : sp = none := by
        simp only [Addr.add, if_pos, World.cell?] at h0
        split at h0
        · split at h0
          · cases h0
          · rename_i hh; simpa using hh
        · cases h0
      subst hs
      exact ⟨b, off, rfl, fun k x hk => by rw [← Addr.add_mid]; exact hc k x hk⟩

theorem src_below {B : Nat} {w w' : World} {v : Value} {bs : List Nat} (h : Src w v bs) (hb : Below B w w') (hB : bs = [] ∨ ∀ ad, v.ownBlock = some ad → ad < B) : Src w' v bs := by
  rcases h with ⟨h1, h2 | ⟨ad, cap, rfl, hl, hm, hc⟩⟩
  · exact ⟨h1, .inl h2⟩
  · refine ⟨h1, .inr ⟨ad, cap, rfl, hl, hm, fun k x hk => ?_⟩⟩
    rcases hB with rfl | hB
    · simp at hk
    · rw [hb.cell (p := ad.add k) (by have := hB ad.block rfl; unfold Addr.add; split <;> exact this)]
      exact hc k x hk

/-- what a row that is owned reads as -/
theorem src_own {w : World} {B : Nat} {v : Value} {bs : List Nat} (h : w.ownsRow B 5 1 v bs.length (u8s bs)) (hx : ∀ x ∈ bs, x < 256) : Src w v bs := by
  refine ⟨hx, ?_⟩
  rcases Joins.ownsRow_forms h with ⟨rfl, h0⟩ | ⟨g, cap, rfl⟩
  · exact .inl ⟨rfl, List.eq_nil_of_length_eq_zero h0⟩
  · refine .inr ⟨_, cap, rfl, ?_, ?_, fun k x hk => ?_⟩
    · rcases h.2 with ⟨h0, _⟩ | ⟨g', cap', cur, hv, _, _, hl, _⟩
      · cases h0
      · simp only [Value.slice.injEq] at hv; omega
    · rcases h.2 with ⟨h0, _⟩ | ⟨g', cap', cur, hv, _, _, _, hm, _⟩
      · cases h0
      · simp only [Value.slice.injEq] at hv; unfold maxLen at hm; omega
    · exact h.cells rfl k _ (by simp [u8s, hk])

set_option maxHeartbeats 400000 in
theorem writer_raw_some (w : World) (B p : Nat) (bs ys : List Nat) (ad : Addr) (cap : Nat) (hW : WriterIs w B p bs) (hs : B ≤ w.heap.size)
    (hn : ∀ (j : Nat) (u : Value), (u8s ys)[j]? = some u → w.cell? (ad.add j) = some u) (hlen : bs.length + ys.length ≤ 140737488355328) :
    Calls Tryd.prog 60 #[.pointer (some ⟨p, 0, none⟩), .slice (some ad) ys.length cap] w fun e w' => e = .returned (.tuple #[]) ∧ WriterIs w' B p (bs ++ ys) ∧ Below B w w' := by
  obtain ⟨hB, v, hp, hv⟩ := hW
  obtain ⟨i0, hi, hz0, hz1, hz2⟩ := info_parts info5
  have hlt := heap_lt hp
  have hc := cell_of_one hp
  have HP := hide hp
  have HL := hide hlen
  clear hp
  go_enter Tryd.func60, Tryd.ntmps60
  go_wp2_with (at_builtin; refine wpList_append_own _ rfl (.tmp 8) (.tmp 9) 25 rfl B 5 i0 (.int .u8 0) 1 1 Tryd.underlying25 hi hz0 hz1 hz2 rfl (by decide) _ _ _ rfl hv ad ys.length cap (u8s ys) rfl ?c0 ?c1 ?c2 ?c3 ?c4 ?c5 ?_)
  case c0 => simp [u8s_len]
  case c1 => exact hn
  case c2 => exact u8s_one _
  case c3 => unfold maxLen; omega
  case c4 => omega
  case c5 => omega
  intro v' w1 hown hg hnil
  have hW2 := writer_grown (ys := bs ++ ys) hB HP.out hv (by rw [u8s_app, List.length_append]; exact hown) hg hs
  have hp1 := (hg.block p (by omega) (fun e => row_block (by decide) hv HP.out e.symm)).trans HP.out
  have hc1 := cell_of_one hp1
  have hf1 := free_of_one hp1
  have hform := Joins.ownsRow_forms hown
  have HW := hide hW2
  clear hW2 hp1 hown hg hnil
  rcases hform with ⟨rfl, _⟩ | ⟨g, cap, rfl⟩
  all_goals
    go_wp2
    go_end0
    exact ⟨rfl, HW.out.1, HW.out.2⟩

set_option maxHeartbeats 400000 in
theorem writer_raw_none (w : World) (B p : Nat) (bs : List Nat) (hW : WriterIs w B p bs) :
    Calls Tryd.prog 60 #[.pointer (some ⟨p, 0, none⟩), .slice none 0 0] w fun e w' => e = .returned (.tuple #[]) ∧ WriterIs w' B p bs ∧ Below B w w' := by
  obtain ⟨hB, v, hp, hv⟩ := hW
  obtain ⟨i0, hi, hz0, hz1, hz2⟩ := info_parts info5
  have hc := cell_of_one hp
  have hf := free_of_one hp
  have hform := Joins.ownsRow_forms hv
  have HP := hide hp
  clear hp
  have hfin : WriterIs (w.setCell ⟨p, 0, none⟩ v) B p bs ∧ Below B w (w.setCell ⟨p, 0, none⟩ v) := ⟨⟨hB, v, one_setCell HP.out, ownsRow_setCell_other hv (row_block (by decide) hv HP.out) _⟩, below_set (Below.refl _ _) hB _⟩
  have HF := hide hfin
  clear hfin
  rcases hform with ⟨rfl, h0⟩ | ⟨g, cap, rfl⟩
  all_goals
    go_enter Tryd.func60, Tryd.ntmps60
    go_wp2_with (at_builtin; refine wpList_append_own_none rfl (.tmp 8) (.tmp 9) 25 rfl B 5 i0 1 Tryd.underlying25 hi _ _ _ rfl hv rfl ?_)
    go_end0
    exact ⟨rfl, HF.out⟩

theorem writer_raw (w : World) (B p : Nat) (bs ys : List Nat) (v : Value) (hW : WriterIs w B p bs) (hs : B ≤ w.heap.size) (hv : Src w v ys) (hlen : bs.length + ys.length ≤ 140737488355328) :
    Calls Tryd.prog 60 #[.pointer (some ⟨p, 0, none⟩), v] w fun e w' => e = .returned (.tuple #[]) ∧ WriterIs w' B p (bs ++ ys) ∧ Below B w w' := by
  rcases hv with ⟨_, ⟨rfl, rfl⟩ | ⟨ad, cap, rfl, _, _, hc⟩⟩
  · rw [List.append_nil]
    exact writer_raw_none w B p bs hW
  · exact writer_raw_some w B p bs ys ad cap hW hs (src_news hc) hlen

theorem byte_or (x : Nat) : bits .or .u8 ((x : Int) % 256) 128 = ((x % 128 + 128 : Nat) : Int) := by
  have h := u8_or_nat (x % 256) 128 (by omega) (by omega)
  rw [Uv.or128 _ (by omega)] at h
  have e : ((x : Int) % 256) = ((x % 256 : Nat) : Int) := by simp
  rw [e]
  refine h.trans ?_
  rw [Nat.mod_mod_of_dvd _ (by decide)]

set_option maxRecDepth 100000 in
set_option maxHeartbeats 1000000 in
theorem writer_uvarint (w : World) (B p x : Nat) (bs : List Nat) (hx : x < Uv.u64) (hW : WriterIs w B p bs) (hlen : bs.length + 10 ≤ 140737488355328) :
    Calls Tryd.prog 59 #[.pointer (some ⟨p, 0, none⟩), .int .u64 x] w fun e w' => e = .returned (.tuple #[]) ∧ WriterIs w' B p (bs ++ Uv.uv x) ∧ Below B w w' := by
  obtain ⟨i0, hi, hz0, hz1, hz2⟩ := info_parts info5
  have HW0 := hide hW
  have HL := hide hlen
  clear hW
  go_enter Tryd.func59, Tryd.ntmps59
  go_wp2
  go_loopw [1] (fun c wr => ∃ (f y : Nat) (pre : List Nat), y < 128 ^ (f + 1) ∧ y < Uv.u64 ∧ c = .int .u64 y ∧ Uv.uv x = pre ++ Uv.uvf f y ∧ WriterIs wr B p (bs ++ pre) ∧ Below B w wr) (fun c _ => (intOf c).toNat)
  case atStart => exact ⟨9, x, [], Uv.start_u64 hx, hx, rfl, rfl, by simpa using HW0.out, Below.refl _ _⟩
  case round =>
    obtain ⟨f, y, pre, hy, hy64, rfl, huv, ⟨hB, v, hp, hv⟩, hb⟩ := hrel
    have hpl : pre.length ≤ 9 := by have h1 := (Uv.uv_len x).1; rw [huv] at h1; have h2 := (Uv.uvf_len f y).2; simp at h1; omega
    have hlt := heap_lt hp
    have hc := cell_of_one hp
    have HP := hide hp
    have HU := hide huv
    clear hp huv
    by_cases hge : 128 ≤ y
    · cases f with
      | zero => simp at hy; omega
      | succ f =>
        have e1 := byte_or y
        have hz : y % 128 + 128 < 256 := by omega
        obtain ⟨z, hzz⟩ : ∃ z, z = y % 128 + 128 := ⟨_, rfl⟩
        rw [← hzz] at e1 hz
        have HZ := hide hzz
        have hyd : y / 128 < 128 ^ (f + 1) := by
          rw [Nat.div_lt_iff_lt_mul (by omega)]
          rw [Nat.pow_succ] at hy
          exact hy
        have HY := hide hyd
        have HG := hide (Uv.uvf_great f y hge)
        clear hzz hy hyd
        go_wp2_with (at_builtin; refine wpList_append_own _ rfl (.tmp 10) (.tmp 14) 25 rfl B 5 i0 (.int .u8 0) 1 1 Tryd.underlying25 hi hz0 hz1 hz2 rfl (by decide) _ _ _ rfl (hv.alloc _) ⟨wr.heap.size, 0, none⟩ 1 1 [.int .u8 z] rfl rfl ?c1z ?c2z ?c3z ?c4z ?c5z ?_)
        case c1z => exact one_new _ _ _
        case c2z => intro u hu; simp at hu; subst hu; rfl
        case c3z => have := HL.out; simp [maxLen]; omega
        case c4z => have := HL.out; simp; omega
        case c5z => simp; omega
        intro v' w1 hown hg _
        have hW2 := writer_grown (ys := bs ++ pre ++ [z]) hB (heap_old HP.out _) (hv.alloc _) (by rw [u8s_app, List.length_append, List.length_append]; exact hown) hg (by simp; omega)
        have hp1 := (hg.block p (by simp; omega) (fun e => row_block (by decide) hv HP.out e.symm)).trans (heap_old HP.out _)
        have hc1 := cell_of_one hp1
        have hf1 := free_of_one hp1
        obtain ⟨g, cap, rfl⟩ := Joins.ownsRow_form hown (by omega)
        have HW := hide hW2
        clear hW2 hp1 hown hg
        go_wp2
        go_roundw
        case rel =>
          refine ⟨f, y / 128, pre ++ [z], HY.out, Uv.half_u64 _ hy64, by simp, ?_, ?_, hb.trans (((Below.refl B wr).alloc (by omega) _).trans HW.out.2)⟩
          · rw [HU.out, HG.out, HZ.out, List.append_assoc]; rfl
          · rw [← List.append_assoc]; exact HW.out.1
        case measure => simp [intOf]; omega
    · have HS := hide (Uv.uvf_small f y (by omega))
      clear hy
      go_wp2_with (at_builtin; refine wpList_append_own _ rfl (.tmp 24) (.tmp 27) 25 rfl B 5 i0 (.int .u8 0) 1 1 Tryd.underlying25 hi hz0 hz1 hz2 rfl (by decide) _ _ _ rfl (hv.alloc _) ⟨wr.heap.size, 0, none⟩ 1 1 [.int .u8 y] rfl rfl ?c1y ?c2y ?c3y ?c4y ?c5y ?_)
      case c1y => exact one_new _ _ _
      case c2y => intro u hu; simp at hu; subst hu; rfl
      case c3y => have := HL.out; simp [maxLen]; omega
      case c4y => have := HL.out; simp; omega
      case c5y => simp; omega
      intro v' w1 hown hg _
      have hW2 := writer_grown (ys := bs ++ pre ++ [y]) hB (heap_old HP.out _) (hv.alloc _) (by rw [u8s_app, List.length_append, List.length_append]; exact hown) hg (by simp; omega)
      have hp1 := (hg.block p (by simp; omega) (fun e => row_block (by decide) hv HP.out e.symm)).trans (heap_old HP.out _)
      have hc1 := cell_of_one hp1
      have hf1 := free_of_one hp1
      obtain ⟨g, cap, rfl⟩ := Joins.ownsRow_form hown (by omega)
      have HW := hide hW2
      clear hW2 hp1 hown hg
      go_wp2
      go_end0
      refine ⟨rfl, ?_, hb.trans (((Below.refl B wr).alloc (by omega) _).trans HW.out.2)⟩
      rw [HU.out, HS.out, ← List.append_assoc]
      exact HW.out.1
end Go.Proofs.YtgebekklkodpaaaDoor
