/- texts of this proof, one behind the other: RefDc DcAny Blk Un Sc RefSc Sn Mk Fam Og -/
import Derived.Test.YtgebekklkodpaaaDoorMOwnsImage0
import Derived.Test.YtgebekklkodpaaaDoorMOwnsImage1
import Derived.Deep.RegionWith
import Derived.OwnWalk
import Derived.RangeFuncLeaves
import Derived.RangeFuncCalls
import Derived.Shelf.Abstract
import Derived.Shelf.RegionOpen
import Derived.OwnWalkIn
import Derived.TacticsInMore
import Derived.LoopNIn
import Derived.LoopIn
import Derived.Deep.AppendLies
/-! RefDc: the reference's Decode -/
namespace Go.Proofs.YtgebekklkodpaaaDoor
open Go.RowKit

theorem Tryd.results36 : Tryd.f36.results = #[.cell 2 47, .tmp 3, .tmp 4] := rfl
/-- the reference's number of an error -/
def errNum (g : Nat) : Nat := if g = 0 then 6 else if g = 6 then 7 else g
/-- a body: bytes, in a block of bytes -/
def Bod (w : World) (v : Value) (bs : List Nat) : Prop := Src w v bs ∧ ∀ g, v.ownBlock = some g → ∃ cs fr, w.heap[g]? = some (.cells cs 5 fr)
theorem bod_own {w : World} {B : Nat} {v : Value} {bs : List Nat} (h : Own w B v bs) (hx : ∀ x ∈ bs, x < 256) : Bod w v bs := by
  refine ⟨own_src h hx, fun g hg => ?_⟩
  rcases h.2 with ⟨rfl, _⟩ | ⟨g', cap, cur, rfl, _, hh, _⟩
  · simp [Value.ownBlock] at hg
  · simp only [Value.ownBlock, Option.some.injEq] at hg
    subst hg
    exact ⟨cur, (0, 0), hh⟩
def RefDecOut (B : Nat) (bs : List Nat) (e : Ending) (w' : World) : Prop :=
  match dec bs with
  | .inl g => e = .returned (.tuple #[.agg #[.int .u8 0, .slice none 0 0], .int .i64 0, .int .i64 (errNum g : Nat)])
  | .inr (i, j) => ∃ v, e = .returned (.tuple #[.agg #[.int .u8 (bs.getD 0 0 : Nat), v], .int .i64 ((j + 4 : Nat) : Int), .int .i64 0]) ∧ Bod w' v ((bs.take j).drop i) ∧ ∀ g, v.ownBlock = some g → B ≤ g

theorem add_blk (a : Addr) (n : Nat) : (a.add n).block = a.block := by unfold Addr.add; split <;> rfl
theorem src_far {w : World} {v : Value} {bs : List Nat} (h : Src w v bs) (a : Addr) (x : Value) (hne : ∀ g, v.ownBlock = some g → a.block ≠ g) : Src (w.setCell a x) v bs := by
  rcases h with ⟨h1, h2 | ⟨ad, cap, rfl, h3, h4, hc⟩⟩
  · exact ⟨h1, .inl h2⟩
  · exact ⟨h1, .inr ⟨ad, cap, rfl, h3, h4, fun k y hk => (World.cell?_setCell_far _ _ _ _ (by rw [add_blk]; exact hne _ rfl)).trans (hc k y hk)⟩⟩
theorem bod_far {w : World} {v : Value} {bs : List Nat} (h : Bod w v bs) (a : Addr) (x : Value) (hne : ∀ g, v.ownBlock = some g → a.block ≠ g) : Bod (w.setCell a x) v bs :=
  ⟨src_far h.1 a x hne, fun g hg => by
    obtain ⟨cs, fr, hh⟩ := h.2 g hg
    exact ⟨cs, fr, heap_far hh (fun e => hne g hg e.symm) x⟩⟩
theorem str_eq (X : ByteArray) : (!(@BEq.beq (List UInt8) (@List.instBEq UInt8 (@instBEqOfDecidableEq UInt8 instDecidableEqUInt8)) X.toList X.toList)) = false := by rw [beq_self_eq_true]; rfl
theorem str_ne {X Y : ByteArray} (h : X ≠ Y) : (!(@BEq.beq (List UInt8) (@List.instBEq UInt8 (@instBEqOfDecidableEq UInt8 instDecidableEqUInt8)) X.toList Y.toList)) = true := by
  rw [Bool.not_eq_true']
  apply beq_false_of_ne
  intro e
  rw [ByteArray.toList_eq, ByteArray.toList_eq] at e
  exact h (ByteArray.ext (Array.toList_inj.1 e))

set_option maxRecDepth 100000 in
theorem ref_decode_nil (w : World) (ao : Option Addr) (cap : Nat) :
    Calls Tryd.prog 36 #[.slice ao 0 cap] w fun e w' => RefDecOut w.heap.size [] e w' ∧ Below w.heap.size w w' := by
  have HB := hide ((Below.refl w.heap.size w).alloc (Nat.le_refl _) (.cells #[.int .u8 0, .slice none 0 0] 47))
  have HR := hide (heap_new (w := w) rfl (.cells #[.int .u8 0, .slice none 0 0] 47))
  obtain ⟨c0, c1⟩ := cells2 HR.out
  have f0 := free_at HR.out 0
  have f1 := free_at HR.out 1
  go_enter Tryd.func36, Tryd.ntmps36
  go_wp2_with fail
  refine bodyPost_ret (results_cell_row2 Tryd.results36 _ _ w.heap.size 47 #[.int .u8 0, .slice none 0 0] (0, 0) _ rfl HR.out rfl rfl (by kernel_rfl)) rfl ?_
  exact ⟨rfl, HB.out⟩

set_option maxRecDepth 100000 in
theorem ref_decode_zero (w : World) (ad : Addr) (cap : Nat) (r : List Nat) (hl : r.length < 140737488355328) (hc : w.cell? ad = some (.int .u8 0)) :
    Calls Tryd.prog 36 #[.slice (some ad) (r.length + 1) cap] w fun e w' => RefDecOut w.heap.size (0 :: r) e w' ∧ Below w.heap.size w w' := by
  have HB := hide ((Below.refl w.heap.size w).alloc (Nat.le_refl _) (.cells #[.int .u8 0, .slice none 0 0] 47))
  have HR := hide (heap_new (w := w) rfl (.cells #[.int .u8 0, .slice none 0 0] 47))
  obtain ⟨c0, c1⟩ := cells2 HR.out
  have f0 := free_at HR.out 0
  have f1 := free_at HR.out 1
  have hcA : (w.alloc (.cells #[.int .u8 0, .slice none 0 0] 47)).cell? ad = some (.int .u8 0) := (HB.out.cell (p := ad) (World.block_lt_of_cell? w _ hc)).trans hc
  have hn : ((r.length : Int) + 1 == 0) = false := by simp; omega
  have hn2 : ((r.length : Int) + 1 = 0) = False := by simp; omega
  go_enter Tryd.func36, Tryd.ntmps36
  go_wp2_with fail
  refine bodyPost_ret (results_cell_row2 Tryd.results36 _ _ w.heap.size 47 #[.int .u8 0, .slice none 0 0] (0, 0) _ rfl HR.out rfl rfl (by kernel_rfl)) rfl ?_
  exact ⟨rfl, HB.out⟩

set_option maxRecDepth 100000 in
theorem ref_decode_one (w : World) (ad : Addr) (t : Nat) (ht : t ≠ 0) (hc : w.cell? ad = some (.int .u8 t)) :
    Calls Tryd.prog 36 #[.slice (some ad) 1 1] w fun e w' => RefDecOut w.heap.size [t] e w' ∧ Below w.heap.size w w' := by
  have HB := hide ((Below.refl w.heap.size w).alloc (Nat.le_refl _) (.cells #[.int .u8 0, .slice none 0 0] 47))
  have HR := hide (heap_new (w := w) rfl (.cells #[.int .u8 0, .slice none 0 0] 47))
  obtain ⟨c0, c1⟩ := cells2 HR.out
  have f0 := free_at HR.out 0
  have f1 := free_at HR.out 1
  have hcA : (w.alloc (.cells #[.int .u8 0, .slice none 0 0] 47)).cell? ad = some (.int .u8 t) := (HB.out.cell (p := ad) (World.block_lt_of_cell? w _ hc)).trans hc
  have ht0 : ((t : Int) == 0) = false := by simp; omega
  have HN := hide (ref_number (w.alloc (.cells #[.int .u8 0, .slice none 0 0] 47)) (.slice (some ad) 0 0) [] ⟨fun _ h => by simp at h, .inr ⟨ad, 0, rfl, by simp, by omega, fun k x h => by simp at h⟩⟩ (by simp))
  go_enter Tryd.func36, Tryd.ntmps36
  go_wp2_with fail
  refine HN.out.mono ?_
  rintro e w1 ⟨hout, rfl⟩
  rcases hout with ⟨hz, _⟩ | ⟨_, rfl⟩ | ⟨hz, _⟩
  · simp [Nm.num] at hz
  · have hd : dec [t] = .inl 1 := dec_err ht rfl (by omega)
    have HD := hide hd
    clear hd HN
    go_wp2_with fail
    refine bodyPost_ret (results_cell_row2 Tryd.results36 _ _ w.heap.size 47 #[.int .u8 0, .slice none 0 0] (0, 0) _ rfl HR.out rfl rfl (by kernel_rfl)) rfl ?_
    exact ⟨by rw [RefDecOut, HD.out]; rfl, HB.out⟩
  · simp [Nm.num] at hz

theorem word_cmp {b : List Nat} (hb : ∀ x ∈ b, x < 256) {m : Nat} (h : m + 4 ≤ b.length) {S : Nat} (hS : S < 4294967296) :
    wordAt b m = S ↔ bstr (Uv.word S) = bstr ((b.take (m + 4)).drop m) := by
  have hf : (b.take (m + 4)).drop m = [b.getD m 0, b.getD (m + 1) 0, b.getD (m + 2) 0, b.getD (m + 3) 0] := by
    rw [List.drop_take, Nat.add_sub_cancel_left, four_drop h]
  have hg : ∀ k, k < 4 → b.getD (m + k) 0 < 256 := fun k hk => by
    rw [List.getD_eq_getElem?_getD, List.getElem?_eq_getElem (by omega)]
    exact hb _ (List.getElem_mem _)
  have g0 := hg 0 (by omega)
  have g1 := hg 1 (by omega)
  have g2 := hg 2 (by omega)
  have g3 := hg 3 (by omega)
  rw [Nat.add_zero] at g0
  constructor
  · intro e
    rw [← e, wordAt, word_wordOf g0 g1 g2 g3, hf]
  · intro e
    have e2 := bstr_inj (word_lt S) (fun x hx => hb x (List.mem_of_mem_take (List.mem_of_mem_drop hx))) e
    rw [hf] at e2
    simp only [Uv.word, List.cons.injEq, and_true] at e2
    rw [wordAt, ← e2.1, ← e2.2.1, ← e2.2.2.1, ← e2.2.2.2]
    exact word_bytes S hS

set_option maxRecDepth 100000 in
set_option maxHeartbeats 4000000 in
theorem ref_decode_some (w : World) (ad : Addr) (cap t : Nat) (r : List Nat) (hs : Src w (.slice (some ad) (r.length + 1) cap) (t :: r)) (ht : t ≠ 0) (hl : r.length < 140737488355328) (hc1 : cap ≠ 1) :
    Calls Tryd.prog 36 #[.slice (some ad) (r.length + 1) cap] w fun e w' => RefDecOut w.heap.size (t :: r) e w' ∧ Below w.heap.size w w' := by
  have hn : ((r.length : Int) + 1 == 0) = false := by simp; omega
  have hn2 : ((r.length : Int) + 1 = 0) = False := by simp; omega
  obtain ⟨ad', e1, hc⟩ := src_cell hs (show (t :: r)[0]? = some t from rfl)
  obtain rfl := Option.some.inj e1
  rw [Addr.add_zero'] at hc
  have ht0 : ((t : Int) == 0) = false := by simp; omega
  have hcap : r.length + 1 ≤ cap ∧ cap ≤ 9223372036854775807 := by
    rcases hs.2 with ⟨h, _⟩ | ⟨ad', c', h, ha, hb, _⟩
    · simp at h
    · simp only [Value.slice.injEq] at h
      obtain ⟨_, _, rfl⟩ := h
      exact ⟨by simpa using ha, hb⟩
  have HB := hide ((Below.refl w.heap.size w).alloc (Nat.le_refl _) (.cells #[.int .u8 0, .slice none 0 0] 47))
  have HR := hide (heap_new (w := w) rfl (.cells #[.int .u8 0, .slice none 0 0] 47))
  obtain ⟨c0, c1⟩ := cells2 HR.out
  have f0 := free_at HR.out 0
  have f1 := free_at HR.out 1
  have hadlt := World.block_lt_of_cell? w _ hc
  have hcA : (w.alloc (.cells #[.int .u8 0, .slice none 0 0] 47)).cell? ad = some (.int .u8 t) := (HB.out.cell (p := ad) hadlt).trans hc
  have hsp : Src (w.alloc (.cells #[.int .u8 0, .slice none 0 0] 47)) (.slice (some (ad.add 1)) (r.length + 1 - 1) (cap - 1)) (((t :: r).take (r.length + 1)).drop 1) := src_part (src_keep hs HB.out) 1 (r.length + 1) (cap - 1) (by omega) (by simp) (by omega) (by omega)
  rw [show ((t :: r).take (r.length + 1)).drop 1 = r by rw [List.take_succ_cons, List.drop_succ_cons, List.drop_zero, List.take_of_length_le (Nat.le_refl _)]] at hsp
  have HN := hide (ref_number _ _ r hsp (by omega))
  have HS := hide hs
  clear hs e1 hsp
  go_enter Tryd.func36, Tryd.ntmps36
  go_wp2_with fail
  refine HN.out.mono ?_
  rintro e w1 ⟨hout, rfl⟩
  generalize w.alloc (.cells #[.int .u8 0, .slice none 0 0] 47) = w1 at *
  rcases hout with ⟨hz, rfl⟩ | ⟨hz, rfl⟩ | ⟨hz, rfl⟩
  · obtain ⟨n, hn0⟩ : ∃ n, Nm.num 10 0 r = (n, 0) := ⟨(Nm.num 10 0 r).1, Prod.ext rfl hz⟩
    have hok := Nm.num_ok (by omega) hn0
    have hv := Nm.val_ok hn0
    rw [hn0]
    obtain ⟨v, hvv⟩ : ∃ v, Nm.val (r.take n) = v := ⟨_, rfl⟩
    have HD := hide (dec_num ht hn0 hvv)
    simp only [hvv] at hv ⊢
    have hnl : n ≤ r.length := hok.2.2.1
    clear hn0 hvv hz hok HN
    go_wp2_with fail
    · refine bodyPost_ret (results_cell_row2 Tryd.results36 _ _ w.heap.size 47 #[.int .u8 0, .slice none 0 0] (0, 0) _ rfl (heap_set (heap_set HR.out _) _) rfl rfl (by kernel_rfl)) rfl ?_
      exact ⟨by rw [RefDecOut, HD.out, if_pos (by simp; omega)]; rfl, below_set (below_set HB.out (Nat.le_refl _) _) (Nat.le_refl _) _⟩
    · have e : 1 + (n : Int) + (v : Int) = ((1 + n + v : Nat) : Int) := by omega
      rw [e]
      clear e
      have hm4 : 1 + n + v + 4 ≤ r.length + 1 := by omega
      have hi : 1 + n ≤ 1 + n + v := by omega
      have HD := hide (HD.out.trans (if_neg (by simp; omega)))
      generalize 1 + n + v = m at *
      have hsub := sum_lt (bs := (t :: r).take m) fun x hx => HS.out.1 x (List.mem_of_mem_take hx)
      have hS1 := src_keep HS.out HB.out
      have hsB : Src w1 (.slice (some (ad.add 0)) (m - 0) cap) (((t :: r).take m).drop 0) := src_part hS1 0 m cap (by omega) (by simp; omega) (by omega) (by omega)
      rw [Addr.add_zero', List.drop_zero, Nat.sub_zero] at hsB
      have hsQ : Src w (.slice (some (ad.add m)) (m + 4 - m) (cap - m)) (((t :: r).take (m + 4)).drop m) := src_part HS.out m (m + 4) (cap - m) (by omega) (by simp; omega) (by omega) (by omega)
      rw [Nat.add_sub_cancel_left] at hsQ
      have HQ := hide fun w' (h : Below w.heap.size w w') => src_string (src_keep hsQ h)
      have HU := hide (ref_sum w1.drew _ _ (src_drew hsB 1) (by simp; omega))
      have hCM := word_cmp HS.out.1 (show m + 4 ≤ (t :: r).length by simp; omega) hsub
      clear hS1 hsB hsQ
      have i1 : (m : Int) ≤ (cap : Int) := by omega
      have i2 : (m : Int) + 4 ≤ (cap : Int) := by omega
      have i3 : cap ≠ m := by omega
      have i4 : m ≤ cap := by omega
      have i5 : (0 : Int) ≤ (m : Int) + 4 := by omega
      have i6 : (m : Int) ≤ (m : Int) + 4 := by omega
      have i7 : ((m : Int) + 4).toNat = m + 4 := by omega
      have i8 : m + 4 ≤ cap := by omega
      have i9 : m ≤ m + 4 := by omega
      have i10 : (cap : Int) < (m : Int) + 4 ↔ False := by simp; omega
      have i11 : IntKind.i64.wrap ((m : Int) + 4) = (m : Int) + 4 := by rw [IntKind.wrap_i64]; omega
      generalize sum ((t :: r).take m) = U at HU HD hsub hCM
      have hwlen : (Uv.word U).length = 4 := rfl
      have hbk : Src (w1.alloc (.cells (u8s (Uv.word U)).toArray 5)).drew (.slice (some ⟨w1.heap.size, 0, none⟩) 4 4) (Uv.word U) := src_block (heap_new rfl _) (word_lt U) (by rw [hwlen]; omega)
      have hX1 := src_string hbk
      obtain ⟨X1, hX1e⟩ : ∃ X1, bstr (Uv.word U) = X1 := ⟨_, rfl⟩
      rw [hX1e] at hX1 hCM
      clear hwlen hbk
      generalize bstr (((t :: r).take (m + 4)).drop m) = X2 at HQ hCM
      have hq1 := HQ.out _ HB.out.drew
      have hq2 := HQ.out _ (HB.out.alloc HB.out.size (.cells (u8s (Uv.word U)).toArray 5)).drew
      go_region_with
        (first
          | (go_at_call 29
             refine HU.out.mono ?_
             rintro e w2 ⟨rfl, rfl⟩)
          | (go_at_call 64
             refine (ref_word _ U hsub).mono ?_
             rintro e w2 ⟨rfl, rfl⟩))
      all_goals
        have HX := hide (HB.out.alloc HB.out.size (.cells (u8s (Uv.word U)).toArray 5)).drew
        have HR2 := hide (show (w1.alloc (.cells (u8s (Uv.word U)).toArray 5)).drew.heap[w.heap.size]? = _ from heap_old HR.out _)
        clear hX1 hcA HQ HU hq1 hq2
        generalize (w1.alloc (.cells (u8s (Uv.word U)).toArray 5)).drew = w2 at HX HR2 ⊢
        obtain ⟨d0, d1⟩ := cells2 HR2.out
        have e0 := free_at HR2.out 0
        have e1 := free_at HR2.out 1
        clear c0 c1 f0 f1
        have hbe : ∃ bb, (!(@BEq.beq (List UInt8) (@List.instBEq UInt8 (@instBEqOfDecidableEq UInt8 instDecidableEqUInt8)) X1.toList X2.toList)) = bb ∧ (wordAt (t :: r) m = U → bb = false) ∧ (wordAt (t :: r) m ≠ U → bb = true) :=
          ⟨_, rfl, fun h => by rw [hCM.1 h]; exact str_eq _, fun h => str_ne fun h2 => h (hCM.2 h2)⟩
        obtain ⟨bb, hbb, hb1, hb2⟩ := hbe
        rw [hbb]
        clear hbb hCM
        by_cases hWU : wordAt (t :: r) m = U
        · obtain rfl := hb1 hWU
          have HD2 := hide (HD.out.trans (if_neg (by simp [hWU])))
          have hw2 := HX.out.size
          have hz2 := heap_lt HR2.out
          have HK := hide fun w' (h : Below w2.heap.size w2 w') => (((HX.out.trans (h.mono hw2)).cell (p := ad) hadlt).trans hc)
          have HRK := hide fun w' (h : Below w2.heap.size w2 w') => (h.block _ hz2).trans HR2.out
          have HSP := hide (src_part HS.out (1 + n) m (cap - (1 + n)) hi (by simp; omega) (by omega) (by omega))
          have hbl : (((t :: r).take m).drop (1 + n)).length = m - (1 + n) := by rw [List.length_drop, List.length_take]; simp; omega
          obtain ⟨body, hbody⟩ : ∃ body, ((t :: r).take m).drop (1 + n) = body := ⟨_, rfl⟩
          rw [hbody] at HSP hbl
          have hO := own_lit w2 w2.heap.size [] (Nat.le_refl _) (by simp) #[] rfl
          have hBA := (Below.refl w2.heap.size w2).alloc (Nat.le_refl _) (.cells #[] 5)
          clear hX1e
          go_wp2_with (refine append_src w2 (w2.alloc (.cells #[] 5)) w2.heap.size _ _ [] body rfl (.tmp 65) (.tmp 70) rfl rfl rfl hO (src_keep HSP.out (HX.out.trans (hBA.mono hw2))) (by simp; omega) hBA.size hBA ?_)
          intro v3 w3 ho3 hb3
          have hc3 := HK.out w3 hb3
          have hr3 := HRK.out w3 hb3
          obtain ⟨g0, g1⟩ := cells2 hr3
          have k0 := free_at hr3 0
          have k1 := free_at hr3 1
          have hsrc3 := bod_own ho3 HSP.out.1
          have hlt3 := World.ownsRow.lt ho3
          obtain ⟨a3, c3, rfl⟩ := src_form hsrc3.1
          have HS3 := hide hsrc3
          have HL3 := hide hlt3
          have HR3 := hide hr3
          have HB3 := hide (HX.out.trans (hb3.mono hw2))
          clear ho3 hb3 hsrc3 hlt3 hr3 hO hBA hbl
          go_wp2_with fail
          refine bodyPost_ret (results_cell_row2 Tryd.results36 _ _ w.heap.size 47 #[.int .u8 t, .slice a3 body.length c3] (0, 0) _ rfl (heap_set (heap_set HR3.out _) _) rfl rfl (by kernel_rfl)) rfl ?_
          refine ⟨?_, below_set (below_set HB3.out (Nat.le_refl _) _) (Nat.le_refl _) _⟩
          rw [RefDecOut, HD2.out]
          refine ⟨.slice a3 body.length c3, rfl, ?_, fun g hg => by have := (HL3.out g hg).1; omega⟩
          rw [hbody]
          exact bod_far (bod_far HS3.out _ _ (fun g hg => by have := (HL3.out g hg).1; simp; omega)) _ _ (fun g hg => by have := (HL3.out g hg).1; simp; omega)
        · obtain rfl := hb2 hWU
          have HD2 := hide (HD.out.trans (if_pos hWU))
          clear hX1e
          go_wp2_with fail
          refine bodyPost_ret (results_cell_row2 Tryd.results36 _ _ w.heap.size 47 #[.int .u8 0, .slice none 0 0] (0, 0) _ rfl (heap_set (heap_set HR2.out _) _) rfl rfl (by kernel_rfl)) rfl ?_
          exact ⟨by rw [RefDecOut, HD2.out]; rfl, below_set (below_set HX.out (Nat.le_refl _) _) (Nat.le_refl _) _⟩
    · refine bodyPost_ret (results_cell_row2 Tryd.results36 _ _ w.heap.size 47 #[.int .u8 0, .slice none 0 0] (0, 0) _ rfl (heap_set (heap_set HR.out _) _) rfl rfl (by kernel_rfl)) rfl ?_
      exact ⟨by rw [RefDecOut, HD.out, if_pos (by simp; omega)]; rfl, below_set (below_set HB.out (Nat.le_refl _) _) (Nat.le_refl _) _⟩
  · have hd : dec (t :: r) = .inl 1 := dec_err ht hz (by omega)
    have HD := hide hd
    clear hd HN
    go_wp2_with fail
    refine bodyPost_ret (results_cell_row2 Tryd.results36 _ _ w.heap.size 47 #[.int .u8 0, .slice none 0 0] (0, 0) _ rfl (heap_set (heap_set HR.out _) _) rfl rfl (by kernel_rfl)) rfl ?_
    exact ⟨by rw [RefDecOut, HD.out]; rfl, below_set (below_set HB.out (Nat.le_refl _) _) (Nat.le_refl _) _⟩
  · have hd : dec (t :: r) = .inl 2 := dec_err ht hz (by omega)
    have HD := hide hd
    clear hd HN
    go_wp2_with fail
    refine bodyPost_ret (results_cell_row2 Tryd.results36 _ _ w.heap.size 47 #[.int .u8 0, .slice none 0 0] (0, 0) _ rfl (heap_set (heap_set HR.out _) _) rfl rfl (by kernel_rfl)) rfl ?_
    exact ⟨by rw [RefDecOut, HD.out]; rfl, below_set (below_set HB.out (Nat.le_refl _) _) (Nat.le_refl _) _⟩
end Go.Proofs.YtgebekklkodpaaaDoor

/-! DcAny: the reference's Decode of any list; what Decode's errors are -/
namespace Go.Proofs.YtgebekklkodpaaaDoor
open Go.RowKit

theorem ref_decode_any (w : World) (v : Value) (bs : List Nat) (hs : Src w v bs) (hl : bs.length ≤ 140737488355328) :
    Calls Tryd.prog 36 #[v] w fun e w' => RefDecOut w.heap.size bs e w' ∧ Below w.heap.size w w' := by
  obtain ⟨ao, cap, rfl⟩ := src_form hs
  cases bs with
  | nil => exact ref_decode_nil w ao cap
  | cons t r =>
    obtain ⟨ad, rfl, hc⟩ := src_cell hs (show (t :: r)[0]? = some t from rfl)
    rw [Addr.add_zero'] at hc
    have hl' : r.length < 140737488355328 := by simp only [List.length_cons] at hl; omega
    by_cases ht : t = 0
    · subst ht
      exact ref_decode_zero w ad cap r hl' hc
    · by_cases hc1 : cap = 1
      · subst hc1
        have hr : r = [] := by
          rcases hs.2 with ⟨h, _⟩ | ⟨ad', c', h, ha, hb, _⟩
          · simp at h
          · simp only [Value.slice.injEq] at h
            have h3 := h.2.2
            rw [← h3] at ha
            exact List.eq_nil_of_length_eq_zero (by simp only [List.length_cons] at ha; omega)
        subst hr
        exact ref_decode_one w ad t ht hc
      · exact ref_decode_some w ad cap t r hs ht hl' hc1
theorem dec_inl {b : List Nat} {g : Nat} (h : dec b = .inl g) : g = 0 ∨ g = 1 ∨ g = 2 ∨ g = 6 := by
  cases b with
  | nil => simp [dec] at h; omega
  | cons t r =>
    rw [dec] at h
    split at h
    · simp at h; omega
    · split at h
      · rename_i hn
        simp only [Sum.inl.injEq] at h
        rcases Nm.num_err (f := 10) (i := 0) r with h0 | h0 | h0
        · exact absurd h0 hn
        · rw [h0] at h; simp at h; omega
        · rw [h0] at h; simp at h; omega
      · split at h
        · simp at h; omega
        · split at h
          · simp at h; omega
          · simp at h
/-- the number of an error of Decode -/
theorem num_dec (w : World) (E : Nat → Addr) (h : Errs w E allErrs) {b : List Nat} {g : Nat} (hd : dec b = .inl g) :
    Calls Tryd.prog 26 #[.iface 124 (.pointer (some (E g)))] w fun e w' => e = .returned (.int .i64 (errNum g : Nat)) ∧ w = w' := by
  rcases dec_inl hd with rfl | rfl | rfl | rfl
  · exact num_0 w E h
  · exact num_1 w E h
  · exact num_2 w E h
  · exact num_6 w E h
end Go.Proofs.YtgebekklkodpaaaDoor

/-! Blk: lists of blocks; the image -/
namespace Go.Proofs.YtgebekklkodpaaaDoor
open Go.RowKit

abbrev Bl := Nat × List Nat
def BlkAt (w : World) (ad : Addr) (x : Bl) : Prop := x.1 < 256 ∧ ∃ bv, w.cell? ad = some (.int .u8 (x.1 : Int)) ∧ w.cell? (ad.add 1) = some bv ∧ Src w bv x.2
def Blocks (w : World) (v : Value) (bl : List Bl) : Prop :=
  (v = .slice none 0 0 ∧ bl = []) ∨ ∃ ad cap, v = .slice (some ad) bl.length cap ∧ bl.length ≤ cap ∧ cap ≤ 9223372036854775807 ∧ ∀ (k : Nat) (x : Bl), bl[k]? = some x → BlkAt w (ad.add (2 * k)) x
theorem blk_keep {w w' : World} {ad : Addr} {x : Bl} (h : BlkAt w ad x) (hb : Below w.heap.size w w') : BlkAt w' ad x := by
  obtain ⟨h1, bv, h2, h3, h4⟩ := h
  exact ⟨h1, bv, (hb.cell (World.block_lt_of_cell? w _ h2)).trans h2, (hb.cell (World.block_lt_of_cell? w _ h3)).trans h3, src_keep h4 hb⟩
theorem blocks_keep {w w' : World} {v : Value} {bl : List Bl} (h : Blocks w v bl) (hb : Below w.heap.size w w') : Blocks w' v bl := by
  rcases h with h | ⟨ad, cap, h1, h2, h3, h4⟩
  · exact .inl h
  · exact .inr ⟨ad, cap, h1, h2, h3, fun k x hk => blk_keep (h4 k x hk) hb⟩

def encs (bl : List Bl) : List Nat := bl.flatMap fun x => enc x.1 x.2
def tot (bl : List Bl) : Nat := (bl.map fun x => x.2.length + 15).sum
theorem encs_len (bl : List Bl) : (encs bl).length ≤ tot bl := by
  induction bl with
  | nil => simp [encs, tot]
  | cons x r ih =>
    have := enc_len x.1 x.2
    simp only [encs, tot, List.flatMap_cons, List.map_cons, List.sum_cons, List.length_append] at *
    omega
theorem encs_app (xs ys : List Bl) : encs (xs ++ ys) = encs xs ++ encs ys := by simp [encs]
theorem encs_one (x : Bl) : encs [x] = enc x.1 x.2 := by simp [encs]
theorem tot_take (bl : List Bl) (k : Nat) : tot (bl.take k) ≤ tot bl := by
  induction bl generalizing k with
  | nil => simp [tot]
  | cons x r ih =>
    cases k with
    | zero => simp [tot]
    | succ k =>
      have := ih k
      simp only [tot, List.take_succ_cons, List.map_cons, List.sum_cons] at *
      omega
theorem tot_get {bl : List Bl} {k : Nat} {x : Bl} (h : bl[k]? = some x) : tot (bl.take k) + (x.2.length + 15) ≤ tot bl := by
  have h1 := tot_take bl (k + 1)
  rw [List.take_add_one, h] at h1
  simp only [tot, List.map_append, List.sum_append, Option.toList_some, List.map_cons, List.map_nil, List.sum_cons, List.sum_nil] at h1
  simp only [tot]
  omega
def imgHead (kind n : Nat) : List Nat := [99, 110, 99, 100] ++ [kind] ++ Uv.uv n
def imgBody (kind : Nat) (bl : List Bl) : List Nat := imgHead kind bl.length ++ encs bl
def img (kind : Nat) (bl : List Bl) : List Nat := imgBody kind bl ++ Uv.word (seal_ (imgBody kind bl))
theorem imgHead_len (kind n : Nat) : (imgHead kind n).length ≤ 15 := by
  have := (Uv.uv_len n).1
  simp [imgHead]; omega
theorem encs_lt {bl : List Bl} (h : ∀ x ∈ bl, x.1 < 256 ∧ (∀ y ∈ x.2, y < 256) ∧ x.2.length < Uv.u64) : ∀ y ∈ encs bl, y < 256 := by
  intro y hy
  simp only [encs, List.mem_flatMap] at hy
  obtain ⟨x, hx, hy⟩ := hy
  obtain ⟨h1, h2, h3⟩ := h x hx
  exact enc_lt h1 h2 h3 y hy
theorem imgHead_lt {kind n : Nat} (hk : kind < 256) (hn : n < Uv.u64) : ∀ y ∈ imgHead kind n, y < 256 := by
  intro y hy
  simp only [imgHead, List.mem_append, List.mem_cons, List.not_mem_nil, or_false] at hy
  rcases hy with (h | rfl) | h
  · omega
  · exact hk
  · exact Uv.uv_lt n (by rw [Uv.u64_eq] at hn; exact hn) y h
theorem imgBody_lt {kind : Nat} {bl : List Bl} (hk : kind < 256) (hn : bl.length < Uv.u64) (h : ∀ x ∈ bl, x.1 < 256 ∧ (∀ y ∈ x.2, y < 256) ∧ x.2.length < Uv.u64) : ∀ y ∈ imgBody kind bl, y < 256 := by
  intro y hy
  rcases List.mem_append.1 hy with h1 | h1
  · exact imgHead_lt hk hn y h1
  · exact encs_lt h y h1
theorem imgBody_len (kind : Nat) (bl : List Bl) : (imgBody kind bl).length ≤ tot bl + 15 := by
  have h1 := imgHead_len kind bl.length
  have h2 := encs_len bl
  simp only [imgBody, List.length_append]
  omega
theorem img_len (kind : Nat) (bl : List Bl) : (img kind bl).length ≤ tot bl + 19 := by
  have h1 := imgBody_len kind bl
  simp only [img, List.length_append]
  have : (Uv.word (seal_ (imgBody kind bl))).length = 4 := rfl
  omega
theorem len_tot (bl : List Bl) : bl.length ≤ tot bl := by
  induction bl with
  | nil => simp
  | cons x r ih => simp only [tot, List.map_cons, List.sum_cons, List.length_cons] at *; omega
theorem get_tot {bl : List Bl} {x : Bl} (h : x ∈ bl) : x.2.length ≤ tot bl := by
  obtain ⟨k, hk⟩ := List.getElem?_of_mem h
  have := tot_get hk
  omega
end Go.Proofs.YtgebekklkodpaaaDoor

/-! Un: plain: what an image's bytes are; rows of blocks -/
namespace Go.Proofs.YtgebekklkodpaaaDoor
open Go.RowKit

/-- n blocks, and nothing behind them -/
def blks : Nat → List Nat → Nat ⊕ List Bl
  | 0, r => if r = [] then .inr [] else .inl 5
  | n + 1, r =>
    match dec r with
    | .inl g => .inl g
    | .inr (i, j) =>
      match blks n (r.drop (j + 4)) with
      | .inl g => .inl g
      | .inr bl => .inr ((r.getD 0 0, (r.take j).drop i) :: bl)
/-- blocks ahead of an answer -/
def ahead (acc : List Bl) : Nat ⊕ List Bl → Nat ⊕ List Bl
  | .inl g => .inl g
  | .inr bl => .inr (acc ++ bl)
theorem ahead_nil (a : Nat ⊕ List Bl) : ahead [] a = a := by cases a <;> rfl
theorem ahead_step (acc : List Bl) (n : Nat) (r : List Nat) (i j : Nat) (h : dec r = .inr (i, j)) :
    ahead acc (blks (n + 1) r) = ahead (acc ++ [(r.getD 0 0, (r.take j).drop i)]) (blks n (r.drop (j + 4))) := by
  rw [blks, h]
  simp only
  cases blks n (r.drop (j + 4)) with
  | inl g => rfl
  | inr bl => simp [ahead]
theorem ahead_err (acc : List Bl) (n : Nat) (r : List Nat) (g : Nat) (h : dec r = .inl g) : ahead acc (blks (n + 1) r) = .inl g := by
  rw [blks, h]
  rfl
/-- what an image's bytes are, asked for a kind: the error by its variable's number, or the blocks -/
def unp (kind : Nat) (im : List Nat) : Nat ⊕ List Bl :=
  if im.length < 10 then .inl 1
  else if wordAt im (im.length - 4) ≠ seal_ (im.take (im.length - 4)) then .inl 6
  else if kind = 0 ∨ im.take 4 ≠ [99, 110, 99, 100] ∨ im.getD 4 0 ≠ kind then .inl 0
  else if (Nm.num 10 0 ((im.take (im.length - 4)).drop 5)).2 ≠ 0 then .inl (Nm.num 10 0 ((im.take (im.length - 4)).drop 5)).2
  else blks (Nm.val (((im.take (im.length - 4)).drop 5).take (Nm.num 10 0 ((im.take (im.length - 4)).drop 5)).1)) (((im.take (im.length - 4)).drop 5).drop (Nm.num 10 0 ((im.take (im.length - 4)).drop 5)).1)

/-! rows of blocks that a call owns -/
/-- a block that was taken: its tag, its body's value, its body -/
abbrev It := Nat × Value × List Nat
def cellsOf (its : List It) : List Value := its.flatMap fun x => [.int .u8 (x.1 : Nat), x.2.1]
def blOf (its : List It) : List Bl := its.map fun x => (x.1, x.2.2)
theorem cellsOf_len (its : List It) : (cellsOf its).length = its.length * 2 := by
  induction its with
  | nil => rfl
  | cons x r ih => simp only [cellsOf, List.flatMap_cons, List.length_append, List.length_cons, List.length_nil] at *; omega
theorem cellsOf_app (xs ys : List It) : cellsOf (xs ++ ys) = cellsOf xs ++ cellsOf ys := by simp [cellsOf]
theorem cellsOf_get (its : List It) (k : Nat) (x : It) (h : its[k]? = some x) : (cellsOf its)[2 * k]? = some (.int .u8 (x.1 : Nat)) ∧ (cellsOf its)[2 * k + 1]? = some x.2.1 := by
  induction its generalizing k with
  | nil => simp at h
  | cons y r ih =>
    cases k with
    | zero =>
      simp only [List.getElem?_cons_zero, Option.some.injEq] at h
      subst h
      exact ⟨rfl, rfl⟩
    | succ k =>
      have := ih k (by simpa using h)
      rw [show 2 * (k + 1) = 2 * k + 1 + 1 by omega]
      exact this
theorem blOf_app (xs ys : List It) : blOf (xs ++ ys) = blOf xs ++ blOf ys := by simp [blOf]
def BOwn (w : World) (B : Nat) (v : Value) (its : List It) : Prop :=
  w.ownsRow B 47 2 v its.length (cellsOf its) ∧ ∀ x ∈ its, x.1 < 256 ∧ Bod w x.2.1 x.2.2
theorem bod_keep {w w' : World} {v : Value} {bs : List Nat} (h : Bod w v bs) (hb : Below w.heap.size w w') : Bod w' v bs :=
  ⟨src_keep h.1 hb, fun g hg => by
    obtain ⟨cs, fr, hh⟩ := h.2 g hg
    exact ⟨cs, fr, (hb.block g (heap_lt hh)).trans hh⟩⟩
theorem bown_nil (w : World) (B : Nat) : BOwn w B (.slice none 0 0) [] := ⟨World.ownsRow_nil w B 47 2, fun x hx => by cases hx⟩
theorem bown_keep {w w' : World} {B : Nat} {v : Value} {its : List It} (h : BOwn w B v its) (hb : Below w.heap.size w w') : BOwn w' B v its :=
  ⟨World.ownsRow.kept (row := none) h.1 ⟨hb.os, hb.tape, hb.output, hb.size, fun k hk _ => hb.block k hk⟩ (by cases hv : v.ownBlock <;> simp), fun x hx => ⟨(h.2 x hx).1, bod_keep (h.2 x hx).2 hb⟩⟩
/-- a body stays where another row grows -/
theorem bod_grown {w w' : World} {v : Value} {bs : List Nat} {row : Option Nat} (h : Bod w v bs) (hg : w.grownBy w' row) (hne : ∀ g, v.ownBlock = some g → some g ≠ row) : Bod w' v bs := by
  refine ⟨?_, fun g hgo => ?_⟩
  · rcases h.1 with ⟨h1, h2 | ⟨ad, cap, rfl, h3, h4, hc⟩⟩
    · exact ⟨h1, .inl h2⟩
    · exact ⟨h1, .inr ⟨ad, cap, rfl, h3, h4, fun k y hk => hg.cell (hc k y hk) (by rw [add_blk]; exact hne _ rfl)⟩⟩
  · obtain ⟨cs, fr, hh⟩ := h.2 g hgo
    exact ⟨cs, fr, (hg.block g (heap_lt hh) (hne g hgo)).trans hh⟩
theorem info47 : (Tryd.prog.info? 47).map (fun i => (i.zero, i.size, i.bytes)) = some (some (.agg #[.int .u8 0, .slice none 0 0]), 2, 32) := by kernel_rfl

theorem src_one {w : World} {v : Value} {bs : List Nat} (h : Src w v bs) : v.oneCell' = true := by
  rcases h with ⟨_, ⟨rfl, _⟩ | ⟨ad, cap, rfl, _⟩⟩ <;> rfl
set_option maxRecDepth 100000 in
theorem append_blk {ops : Array Oper} {rest : List Oper} {o : Oper} {a : Act} {Q : Exit → Act → World → Prop} (w0 w : World) (B g : Nat) (v : Value) (its : List It) (x : It) (hgd : o.guard = none) (s y : Operand)
    (ho : o.op = .call { callee := .builtin .append, args := #[s, y], argTypes := #[38, 38] }) (hs : a.eval s = v) (hy : a.eval y = .slice (some ⟨g, 0, none⟩) 1 1)
    (hown : BOwn w B v its) (hx : x.1 < 256) (hbod : Bod w x.2.1 x.2.2) (hh : w.heap[g]? = some (.cells #[.int .u8 (x.1 : Nat), x.2.1] 47 (0, 0))) (hl : its.length ≤ 1099511627776) (hB : B ≤ w.heap.size) (hb : Below B w0 w)
    (h : ∀ v' w', BOwn w' B v' (its ++ [x]) → Below B w0 w' → wpList Tryd.prog ops Q rest (a.put o.dst v') w') :
    wpList Tryd.prog ops Q (o :: rest) a w := by
  obtain ⟨i0, hi, hz0, hz1, hz2⟩ := info_parts info47
  refine wpList_append_own w hgd s y 38 ho B 47 i0 (.agg #[.int .u8 0, .slice none 0 0]) 2 32 Tryd.underlying38 hi hz0 hz1 hz2 rfl (by decide) v its.length (cellsOf its) hs hown.1 ⟨g, 0, none⟩ 1 1 (cellsOf [x]) hy rfl ?_ ?_ (by simp only [maxLen]; omega) (by omega) hB ?_
  · intro j u hu
    have e : w.cell? ((⟨g, 0, none⟩ : Addr).add j) = w.cell? ⟨g, j, none⟩ := by
      unfold Addr.add
      split
      · rename_i hj; rw [hj]
      · simp
    rw [e, cell_at hh]
    simpa [cellsOf] using hu
  · intro u hu
    simp only [cellsOf, List.flatMap_cons, List.flatMap_nil, List.append_nil, List.mem_cons, List.not_mem_nil, or_false] at hu
    rcases hu with rfl | rfl
    · rfl
    · exact src_one hbod.1
  · intro v' w' hown' hg _
    have hne : ∀ (u : Value) (bs : List Nat), Bod w u bs → ∀ k, u.ownBlock = some k → some k ≠ v.ownBlock := by
      intro u bs hu k hk e
      obtain ⟨cs, fr, hc⟩ := hu.2 k hk
      rcases hown.1.2 with ⟨rfl, _⟩ | ⟨g', cap, cur, rfl, _, hh', _⟩
      · simp [Value.ownBlock] at e
      · simp only [Value.ownBlock, Option.some.injEq] at e
        subst e
        rw [hh'] at hc
        simp at hc
    refine h v' w' ⟨?_, ?_⟩ (hb.grown hg hB (fun k hk => (World.ownsRow.lt hown.1 k hk).1))
    · rw [cellsOf_app, List.length_append]
      exact hown'
    · intro z hz
      rcases List.mem_append.1 hz with hz | hz
      · exact ⟨(hown.2 z hz).1, bod_grown (hown.2 z hz).2 hg (hne _ _ (hown.2 z hz).2)⟩
      · simp only [List.mem_cons, List.not_mem_nil, or_false] at hz
        subst hz
        exact ⟨hx, bod_grown hbod hg (hne _ _ hbod)⟩
/-- an owned row reads as a list of blocks -/
theorem bown_blocks {w : World} {B : Nat} {v : Value} {its : List It} (h : BOwn w B v its) : Blocks w v (blOf its) := by
  have hlen : (blOf its).length = its.length := by simp [blOf]
  rcases h.1.2 with ⟨rfl, h0⟩ | ⟨g, cap, cur, rfl, _, hh, hn, hm, _, ht⟩
  · exact .inl ⟨rfl, by rw [List.eq_nil_of_length_eq_zero h0]; rfl⟩
  · refine .inr ⟨⟨g, 0, none⟩, cap, by rw [hlen], by rw [hlen]; exact hn, by simp only [maxLen] at hm; omega, fun k x hk => ?_⟩
    simp only [blOf, List.getElem?_map, Option.map_eq_some_iff] at hk
    obtain ⟨y, hy, rfl⟩ := hk
    obtain ⟨h1, h2⟩ := h.2 y (List.mem_of_getElem? hy)
    obtain ⟨c1, c2⟩ := cellsOf_get its k y hy
    have hkl := (List.getElem?_eq_some_iff.1 hy).1
    have hcell : ∀ m, m < its.length * 2 → w.cell? ⟨g, m, none⟩ = (cellsOf its)[m]? := fun m hm' => by
      rw [cell_at hh, ← ht, List.getElem?_take, if_pos hm', Array.getElem?_toList]
    have e : ∀ m : Nat, w.cell? ((⟨g, 0, none⟩ : Addr).add m) = w.cell? ⟨g, m, none⟩ := fun m => by
      unfold Addr.add
      split
      · rename_i hj; rw [hj]
      · simp
    refine ⟨h1, y.2.1, ?_, ?_, h2.1⟩
    · rw [e, hcell _ (by omega)]; exact c1
    · rw [Addr.add_add, e, hcell _ (by omega)]; exact c2
end Go.Proofs.YtgebekklkodpaaaDoor

/-! Sc: sums of a list and of its copy; lists of numbers; the reference's Scan -/
namespace Go.Proofs.YtgebekklkodpaaaDoor
open Go.RowKit

set_option maxRecDepth 100000 in
/-- the law's 'sums' -/
theorem sums_any (w : World) (Z : Zip w) (S : SealT w) (va vb : Value) (bs : List Nat) (ha : Src w va bs) (hb : Src w vb bs) (hl : bs.length ≤ 9223372036854775807) :
    Calls Tryd.prog 38 #[va, vb] w fun e w' => e = .returned (.bool true) ∧ w = w' := by
  obtain ⟨a1, c1, rfl⟩ := src_form ha
  obtain ⟨a2, c2, rfl⟩ := src_form hb
  have H1 := hide (sum_any w Z _ bs ha hl)
  have H2 := hide (ref_sum w _ bs hb hl)
  have H3 := hide (seal_any w S _ bs ha hl)
  have H4 := hide (ref_seal w _ bs hb hl)
  have H5 := hide (extend_any w Z 7 (by omega) _ bs ha hl)
  have H6 := hide (ref_extend w 7 (by omega) _ bs hb hl)
  clear Z S ha hb
  generalize sum bs = s1 at H1 H2
  generalize seal_ bs = s2 at H3 H4
  generalize ext 7 bs = s3 at H5 H6
  go_enter Tryd.func38, Tryd.ntmps38
  go_wp2_with fail
  refine H1.out.mono ?_
  rintro e w' ⟨rfl, rfl⟩
  go_wp2_with fail
  refine H2.out.mono ?_
  rintro e w' ⟨rfl, rfl⟩
  go_wp2_with fail
  refine H3.out.mono ?_
  rintro e w' ⟨rfl, rfl⟩
  go_wp2_with fail
  refine H4.out.mono ?_
  rintro e w' ⟨rfl, rfl⟩
  go_wp2_with fail
  refine H5.out.mono ?_
  rintro e w' ⟨rfl, rfl⟩
  go_wp2_with fail
  refine H6.out.mono ?_
  rintro e w' ⟨rfl, rfl⟩
  go_wp2
  go_ret
  exact ⟨rfl, rfl⟩

/-- a list of numbers that lies in memory -/
def Ints (w : World) (v : Value) (ns : List Nat) : Prop :=
  ∃ ao cap, v = .slice ao ns.length cap ∧ ∀ (k n : Nat), ns[k]? = some n → ∃ ad, ao = some ad ∧ w.cell? (ad.add k) = some (.int .i64 (n : Nat))
set_option maxRecDepth 100000 in
set_option maxHeartbeats 4000000 in
theorem same_ints (w : World) (va vb : Value) (ns : List Nat) (ha : Ints w va ns) (hb : Ints w vb ns) (hl : ns.length ≤ 1099511627776) :
    Calls Tryd.prog 43 #[va, vb] w fun e w' => e = .returned (.bool true) ∧ ∃ q, w' = w.drewN q := by
  obtain ⟨aa, ca, rfl, ha⟩ := ha
  obtain ⟨ab, cb, rfl, hb⟩ := hb
  have HA := hide ha
  have HB := hide hb
  clear ha hb
  go_enter Tryd.func43, Tryd.ntmps43
  go_wp2_with fail
  go_loopw [13] (fun c wr => ∃ i : Nat, i ≤ ns.length ∧ c = .int .i64 i ∧ ∃ q, wr = w.drewN q) (fun c _ => ns.length - (intOf c).toNat)
  case atStart => exact ⟨0, by omega, rfl, 0, rfl⟩
  case round =>
    obtain ⟨i, hi, rfl, q, rfl⟩ := hrel
    by_cases hlt : i < ns.length
    · obtain ⟨x, hx⟩ : ∃ x, ns[i]? = some x := ⟨_, List.getElem?_eq_getElem hlt⟩
      obtain ⟨ad, rfl, c0⟩ := HA.out i x hx
      obtain ⟨ad2, rfl, d0⟩ := HB.out i x hx
      have hi1 : (i : Int) < (ns.length : Int) := by omega
      clear hx
      go_wp2_with fail
      go_quiet (fail)
      go_wp2_with fail
      exact ⟨⟨i + 1, by omega, by simp, _, rfl⟩, by simp [intOf]; omega⟩
    · obtain rfl : i = ns.length := by omega
      go_wp2_with fail
      go_ret
      exact ⟨rfl, q, rfl⟩
end Go.Proofs.YtgebekklkodpaaaDoor

/-! RefSc: the reference's Scan -/
namespace Go.Proofs.YtgebekklkodpaaaDoor
open Go.RowKit

/-- the places and the blocks with which a list begins -/
def scan : Nat → Nat → List Nat → List Nat × List Bl
  | 0, _, _ => ([], [])
  | f + 1, at_, r =>
    match dec r with
    | .inl _ => ([], [])
    | .inr (i, j) => (at_ :: (scan f (at_ + (j + 4)) (r.drop (j + 4))).1, (r.getD 0 0, (r.take j).drop i) :: (scan f (at_ + (j + 4)) (r.drop (j + 4))).2)
theorem scan_err (f at_ : Nat) (r : List Nat) (g : Nat) (h : dec r = .inl g) : scan f at_ r = ([], []) := by
  cases f with
  | zero => rfl
  | succ f => rw [scan, h]
theorem scan_ok (f at_ : Nat) (r : List Nat) (i j : Nat) (h : dec r = .inr (i, j)) :
    scan (f + 1) at_ r = (at_ :: (scan f (at_ + (j + 4)) (r.drop (j + 4))).1, (r.getD 0 0, (r.take j).drop i) :: (scan f (at_ + (j + 4)) (r.drop (j + 4))).2) := by rw [scan, h]

theorem info3 : (Tryd.prog.info? 3).map (fun i => (i.zero, i.size, i.bytes)) = some (some (.int .i64 0), 1, 8) := by kernel_rfl
def i64s (ns : List Nat) : List Value := ns.map fun (n : Nat) => Value.int .i64 (n : Int)
theorem i64s_app (xs ys : List Nat) : i64s (xs ++ ys) = i64s xs ++ i64s ys := by simp [i64s]
/-- an own row of numbers -/
def IOwn (w : World) (B : Nat) (v : Value) (ns : List Nat) : Prop := w.ownsRow B 3 1 v ns.length (i64s ns)
theorem iown_nil (w : World) (B : Nat) : IOwn w B (.slice none 0 0) [] := World.ownsRow_nil w B 3 1
theorem iown_keep {w w' : World} {B : Nat} {v : Value} {ns : List Nat} (h : IOwn w B v ns) (hb : Below w.heap.size w w') : IOwn w' B v ns :=
  World.ownsRow.kept (row := none) h ⟨hb.os, hb.tape, hb.output, hb.size, fun k hk _ => hb.block k hk⟩ (by cases hv : v.ownBlock <;> simp)
theorem row_ne {w : World} {B1 B2 e1 e2 s1 s2 n m : Nat} {v u : Value} {xs ys : List Value} (h1 : w.ownsRow B1 e1 s1 v n xs) (h2 : w.ownsRow B2 e2 s2 u m ys) (he : e1 ≠ e2) : u.ownBlock = none ∨ u.ownBlock ≠ v.ownBlock := by
  rcases h2.2 with ⟨rfl, _⟩ | ⟨g, cap, cur, rfl, _, hh, _⟩
  · exact .inl rfl
  · right
    intro e
    rcases h1.2 with ⟨rfl, _⟩ | ⟨g', cap', cur', rfl, _, hh', _⟩
    · simp [Value.ownBlock] at e
    · simp only [Value.ownBlock, Option.some.injEq] at e
      subst e
      rw [hh'] at hh
      simp only [Option.some.injEq, Obj.cells.injEq] at hh
      exact he hh.2.1
set_option maxRecDepth 100000 in
/-- a number is appended; the blocks stay -/
theorem append_int {ops : Array Oper} {rest : List Oper} {o : Oper} {a : Act} {Q : Exit → Act → World → Prop} (w0 w : World) (B g n : Nat) (v u : Value) (ns : List Nat) (its : List It) (hgd : o.guard = none) (s y : Operand)
    (ho : o.op = .call { callee := .builtin .append, args := #[s, y], argTypes := #[63, 63] }) (hs : a.eval s = v) (hy : a.eval y = .slice (some ⟨g, 0, none⟩) 1 1)
    (hown : IOwn w B v ns) (hblk : BOwn w B u its) (hh : w.heap[g]? = some (.cells #[.int .i64 (n : Nat)] 3 (0, 0))) (hl : ns.length ≤ 1099511627776) (hB : B ≤ w.heap.size) (hb : Below B w0 w)
    (h : ∀ v' w', IOwn w' B v' (ns ++ [n]) → BOwn w' B u its → (∀ (k : Nat) (cs : Array Value) (E : TypeId) (fr : Nat × Nat), w.heap[k]? = some (.cells cs E fr) → E ≠ 3 → w'.heap[k]? = some (.cells cs E fr)) → Below B w0 w' → wpList Tryd.prog ops Q rest (a.put o.dst v') w') :
    wpList Tryd.prog ops Q (o :: rest) a w := by
  obtain ⟨i0, hi, hz0, hz1, hz2⟩ := info_parts info3
  refine wpList_append_own w hgd s y 63 ho B 3 i0 (.int .i64 0) 1 8 Tryd.underlying63 hi hz0 hz1 hz2 rfl (by decide) v ns.length (i64s ns) hs hown ⟨g, 0, none⟩ 1 1 (i64s [n]) hy rfl ?_ ?_ (by simp only [maxLen]; omega) (by omega) hB ?_
  · intro j x hx
    have e : w.cell? ((⟨g, 0, none⟩ : Addr).add j) = w.cell? ⟨g, j, none⟩ := by
      unfold Addr.add
      split
      · rename_i hj; rw [hj]
      · simp
    rw [e, cell_at hh]
    simpa [i64s] using hx
  · intro x hx
    simp only [i64s, List.map_cons, List.map_nil, List.mem_cons, List.not_mem_nil, or_false] at hx
    subst hx
    rfl
  · intro v' w' hown' hg _
    refine h v' w' ?_ ⟨World.ownsRow.kept hblk.1 hg (row_ne hown hblk.1 (by decide)), fun z hz => ⟨(hblk.2 z hz).1, bod_grown (hblk.2 z hz).2 hg ?_⟩⟩ ?_ (hb.grown hg hB (fun k hk => (World.ownsRow.lt hown k hk).1))
    rotate_right
    · intro k cs E fr hk hE
      refine (hg.block k (heap_lt hk) ?_).trans hk
      intro e
      rcases hown.2 with ⟨rfl, _⟩ | ⟨g', cap, cur, rfl, _, hh', _⟩
      · simp [Value.ownBlock] at e
      · simp only [Value.ownBlock, Option.some.injEq] at e
        subst e
        rw [hh'] at hk
        simp only [Option.some.injEq, Obj.cells.injEq] at hk
        exact hE hk.2.1.symm
    · unfold IOwn
      rw [i64s_app, List.length_append]
      exact hown'
    · intro k hk e
      obtain ⟨cs, fr, hc⟩ := (hblk.2 z hz).2.2 k hk
      rcases hown.2 with ⟨rfl, _⟩ | ⟨g', cap, cur, rfl, _, hh', _⟩
      · simp [Value.ownBlock] at e
      · simp only [Value.ownBlock, Option.some.injEq] at e
        subst e
        rw [hh'] at hc
        simp at hc
set_option maxRecDepth 100000 in
/-- a block is appended; the numbers stay -/
theorem append_blk2 {ops : Array Oper} {rest : List Oper} {o : Oper} {a : Act} {Q : Exit → Act → World → Prop} (w0 w : World) (B g : Nat) (v u : Value) (its : List It) (ns : List Nat) (x : It) (hgd : o.guard = none) (s y : Operand)
    (ho : o.op = .call { callee := .builtin .append, args := #[s, y], argTypes := #[38, 38] }) (hs : a.eval s = v) (hy : a.eval y = .slice (some ⟨g, 0, none⟩) 1 1)
    (hown : BOwn w B v its) (hint : IOwn w B u ns) (hx : x.1 < 256) (hbod : Bod w x.2.1 x.2.2) (hh : w.heap[g]? = some (.cells #[.int .u8 (x.1 : Nat), x.2.1] 47 (0, 0))) (hl : its.length ≤ 1099511627776) (hB : B ≤ w.heap.size) (hb : Below B w0 w)
    (h : ∀ v' w', BOwn w' B v' (its ++ [x]) → IOwn w' B u ns → Below B w0 w' → wpList Tryd.prog ops Q rest (a.put o.dst v') w') :
    wpList Tryd.prog ops Q (o :: rest) a w := by
  obtain ⟨i0, hi, hz0, hz1, hz2⟩ := info_parts info47
  refine wpList_append_own w hgd s y 38 ho B 47 i0 (.agg #[.int .u8 0, .slice none 0 0]) 2 32 Tryd.underlying38 hi hz0 hz1 hz2 rfl (by decide) v its.length (cellsOf its) hs hown.1 ⟨g, 0, none⟩ 1 1 (cellsOf [x]) hy rfl ?_ ?_ (by simp only [maxLen]; omega) (by omega) hB ?_
  · intro j u hu
    have e : w.cell? ((⟨g, 0, none⟩ : Addr).add j) = w.cell? ⟨g, j, none⟩ := by
      unfold Addr.add
      split
      · rename_i hj; rw [hj]
      · simp
    rw [e, cell_at hh]
    simpa [cellsOf] using hu
  · intro u hu
    simp only [cellsOf, List.flatMap_cons, List.flatMap_nil, List.append_nil, List.mem_cons, List.not_mem_nil, or_false] at hu
    rcases hu with rfl | rfl
    · rfl
    · exact src_one hbod.1
  · intro v' w' hown' hg _
    have hne : ∀ (u : Value) (bs : List Nat), Bod w u bs → ∀ k, u.ownBlock = some k → some k ≠ v.ownBlock := by
      intro u bs hu k hk e
      obtain ⟨cs, fr, hc⟩ := hu.2 k hk
      rcases hown.1.2 with ⟨rfl, _⟩ | ⟨g', cap, cur, rfl, _, hh', _⟩
      · simp [Value.ownBlock] at e
      · simp only [Value.ownBlock, Option.some.injEq] at e
        subst e
        rw [hh'] at hc
        simp at hc
    refine h v' w' ⟨?_, ?_⟩ (World.ownsRow.kept hint hg (row_ne hown.1 hint (by decide))) (hb.grown hg hB (fun k hk => (World.ownsRow.lt hown.1 k hk).1))
    · rw [cellsOf_app, List.length_append]
      exact hown'
    · intro z hz
      rcases List.mem_append.1 hz with hz | hz
      · exact ⟨(hown.2 z hz).1, bod_grown (hown.2 z hz).2 hg (hne _ _ (hown.2 z hz).2)⟩
      · simp only [List.mem_cons, List.not_mem_nil, or_false] at hz
        subst hz
        exact ⟨hx, bod_grown hbod hg (hne _ _ hbod)⟩

/-- a body stays where the blocks of bytes stay -/
theorem bod_by {w w' : World} {v : Value} {bs : List Nat} (h : Bod w v bs) (hk : ∀ (k : Nat) (cs : Array Value) (fr : Nat × Nat), w.heap[k]? = some (.cells cs 5 fr) → w'.heap[k]? = some (.cells cs 5 fr)) : Bod w' v bs := by
  refine ⟨?_, fun g hg => ?_⟩
  · rcases h.1 with ⟨h1, h2 | ⟨ad, cap, rfl, h3, h4, hc⟩⟩
    · exact ⟨h1, .inl h2⟩
    · obtain ⟨cs, fr, hh⟩ := h.2 _ rfl
      refine ⟨h1, .inr ⟨ad, cap, rfl, h3, h4, fun k y hky => ?_⟩⟩
      rw [← hc k y hky]
      exact World.cell?_of_block (by rw [add_blk, hh]; exact hk _ _ _ hh)
  · obtain ⟨cs, fr, hh⟩ := h.2 g hg
    exact ⟨cs, fr, hk _ _ _ hh⟩
def RefScanOut (B : Nat) (bs : List Nat) (e : Ending) (w' : World) : Prop :=
  ∃ v2 v3 its, e = .returned (.tuple #[v2, v3]) ∧ IOwn w' B v2 (scan (bs.length + 1) 0 bs).1 ∧ BOwn w' B v3 its ∧ blOf its = (scan (bs.length + 1) 0 bs).2 ∧ ∀ x ∈ its, ∀ g, x.2.1.ownBlock = some g → B ≤ g

set_option maxRecDepth 100000 in
set_option maxHeartbeats 4000000 in
theorem ref_scan_some (w : World) (ad : Addr) (cap n : Nat) (bs : List Nat) (hn : bs.length = n) (hs : Src w (.slice (some ad) n cap) bs) (hl : n ≤ 100000000) :
    Calls Tryd.prog 41 #[.slice (some ad) n cap] w fun e w' => RefScanOut w.heap.size bs e w' ∧ Below w.heap.size w w' := by
  have hcap : n ≤ cap ∧ cap ≤ 9223372036854775807 := by
    rcases hs.2 with ⟨h, _⟩ | ⟨ad', c', h, ha, hb, _⟩
    · simp at h
    · simp only [Value.slice.injEq] at h
      obtain ⟨_, _, rfl⟩ := h
      exact ⟨by rw [← hn]; exact ha, hb⟩
  have HS := hide hs
  have HN := hide hn
  clear hs hn
  go_enter Tryd.func41, Tryd.ntmps41
  go_wp2_with fail
  go_loopw [4, 5, 6] (fun s4 s5 s6 wr => ∃ (f at_ : Nat) (ns : List Nat) (its : List It), s6 = .int .i64 at_ ∧ at_ ≤ n ∧ n - at_ < f ∧ IOwn wr w.heap.size s4 ns ∧ BOwn wr w.heap.size s5 its ∧ ns.length ≤ at_ ∧ its.length ≤ at_ ∧
    (scan (bs.length + 1) 0 bs).1 = ns ++ (scan f at_ (bs.drop at_)).1 ∧ (scan (bs.length + 1) 0 bs).2 = blOf its ++ (scan f at_ (bs.drop at_)).2 ∧ (∀ x ∈ its, ∀ g, x.2.1.ownBlock = some g → w.heap.size ≤ g) ∧ Below w.heap.size w wr) (fun _ _ s6 _ => n - (intOf s6).toNat)
  case atStart => exact ⟨bs.length + 1, 0, [], [], rfl, by omega, by rw [HN.out]; omega, iown_nil _ _, bown_nil _ _, by simp, by simp, rfl, rfl, by simp, Below.refl _ _⟩
  case round =>
    obtain ⟨f, at_, ns, its, rfl, han, hf, hio, hbo, hnl, hil, h1, h2, hbase, hb⟩ := hrel
    have HBA := hide hbase
    clear hbase
    have hsr := hb.size
    have HI := hide hio
    have HBO := hide hbo
    have H1 := hide h1
    have H2 := hide h2
    have HB := hide hb
    have hq0 := src_part (src_keep HS.out hb) at_ n (cap - at_) han (by rw [HN.out]; omega) (by omega) (by omega)
    rw [List.take_of_length_le (by rw [HN.out]; omega)] at hq0
    have hrl : (bs.drop at_).length = n - at_ := by rw [List.length_drop, HN.out]
    clear hio hbo h1 h2 hb
    by_cases hce : cap = at_
    · have hnat : n = at_ := by omega
      have hr : bs.drop at_ = [] := List.eq_nil_of_length_eq_zero (by omega)
      have HD := hide (ref_decode_nil wr (some ad) 0)
      have H1' := hide (H1.out.trans (by rw [scan_err f at_ _ 1 (by rw [hr]; rfl), List.append_nil]))
      have H2' := hide (H2.out.trans (by rw [scan_err f at_ _ 1 (by rw [hr]; rfl), List.append_nil]))
      clear hr hq0 hrl
      subst hce
      obtain rfl : n = cap := hnat
      go_wp2_with fail
      refine HD.out.mono ?_
      rintro e w4 ⟨hout, hb4⟩
      rw [RefDecOut, show dec [] = .inl 1 from rfl] at hout
      subst hout
      have HB4 := hide (HB.out.trans (hb4.mono hsr))
      have hb5 := (Below.refl w4.heap.size w4).alloc (Nat.le_refl _) (.cells #[.int .u8 0, .slice none 0 0] 47)
      have HI5 := hide (iown_keep (iown_keep HI.out hb4) hb5)
      have HBO5 := hide (bown_keep (bown_keep HBO.out hb4) hb5)
      have HB5 := hide (HB4.out.trans (hb5.mono HB4.out.size))
      clear hb4 hb5
      go_wp2_with fail
      go_ret2
      exact ⟨⟨_, _, its, rfl, by rw [H1'.out]; exact HI5.out, HBO5.out, H2'.out.symm, HBA.out⟩, HB5.out⟩
    · have hdec := ref_decode_any wr _ _ hq0 (by rw [hrl]; omega)
      have hr256 : ∀ x ∈ bs.drop at_, x < 256 := hq0.1
      have HRT := hide hrl
      have H256 := hide hr256
      have HDC := hide hdec
      have a1 : (at_ : Int) ≤ (n : Int) := by omega
      have a2 : cap - at_ ≠ 0 := by omega
      have a3 : cap ≠ at_ := hce
      have a4 : at_ ≤ cap := by omega
      clear hq0 hrl hdec hr256 hce
      go_wp2_with fail
      refine HDC.out.mono ?_
      rintro e9 w4 ⟨hout, hb4⟩
      have HB10 := hide (HB.out.trans (hb4.mono hsr))
      have hs10 := HB10.out.size
      have HBO4 := hide (bown_keep HBO.out hb4)
      have HI4 := hide (iown_keep HI.out hb4)
      clear hb4 HDC HBO HI
      cases hd : dec (bs.drop at_) with
      | inl g =>
        rw [RefDecOut, hd] at hout
        subst hout
        have H1' := hide (H1.out.trans (by rw [scan_err f at_ _ g hd, List.append_nil]))
        have H2' := hide (H2.out.trans (by rw [scan_err f at_ _ g hd, List.append_nil]))
        have hb5 := (Below.refl w4.heap.size w4).alloc (Nat.le_refl _) (.cells #[.int .u8 0, .slice none 0 0] 47)
        have HI5 := hide (iown_keep HI4.out hb5)
        have HBO5 := hide (bown_keep HBO4.out hb5)
        have HB5 := hide (HB10.out.trans (hb5.mono hs10))
        obtain ⟨g1, hg1⟩ : ∃ g1, errNum g = g1 := ⟨_, rfl⟩
        have hg2 : 0 < g1 := by rw [← hg1]; rcases dec_inl hd with rfl | rfl | rfl | rfl <;> decide
        have hg3 : ((g1 : Int) == 0) = false := by simp; omega
        have hg4 : ((g1 : Int) = 0) = False := by simp; omega
        rw [hg1]
        clear hd hg1 hb5
        go_wp2_with fail
        go_ret2
        exact ⟨⟨_, _, its, rfl, by rw [H1'.out]; exact HI5.out, HBO5.out, H2'.out.symm, HBA.out⟩, HB5.out⟩
      | inr q =>
        obtain ⟨i, j⟩ := q
        rw [RefDecOut, hd] at hout
        obtain ⟨v8, rfl, hbod, hb8'⟩ := hout
        have HB8' := hide (fun g hg => Nat.le_trans hsr (hb8' g hg))
        clear hb8'
        obtain ⟨t, r2, hrt, ht1, hij, hjl, hi2, _⟩ := dec_ok H256.out hd
        have hrl := HRT.out
        have htt : t < 256 := H256.out t (by rw [hrt]; exact List.mem_cons_self ..)
        obtain ⟨f2, rfl⟩ : ∃ f2, f = f2 + 1 := ⟨f - 1, by omega⟩
        have H1' := H1.out.trans (by rw [scan_ok f2 at_ _ i j hd])
        have H2' := H2.out.trans (by rw [scan_ok f2 at_ _ i j hd])
        obtain ⟨body, hbody⟩ : ∃ body, ((bs.drop at_).take j).drop i = body := ⟨_, rfl⟩
        rw [hbody] at hbod H2'
        rw [show (bs.drop at_).getD 0 0 = t by rw [hrt]; rfl] at H2' ⊢
        rw [List.drop_drop] at H1' H2'
        obtain ⟨s, hs4⟩ : ∃ s, j + 4 = s := ⟨_, rfl⟩
        rw [hs4] at hjl H1' H2' ⊢
        have hs44 : 4 ≤ s := by omega
        have hse : at_ + s ≤ n := by omega
        have H1' := hide H1'
        have H2' := hide H2'
        have HBOD := hide hbod
        have HTT := hide htt
        clear hd hbody hbod htt hs4 hij hi2 ht1 hrt hrl hjl
        obtain ⟨a8, c8, rfl⟩ := src_form HBOD.out.1
        have hb5 := (Below.refl w4.heap.size w4).alloc (Nat.le_refl _) (.cells #[.int .u8 t, .slice a8 body.length c8] 47)
        have hx5 := heap_new (w := w4) rfl (.cells #[.int .u8 t, .slice a8 body.length c8] 47)
        have hb6 := hb5.alloc hb5.size (.cells #[.int .i64 (at_ : Nat)] 3)
        have hx6 := heap_old hx5 (.cells #[.int .i64 (at_ : Nat)] 3)
        have hh6 := heap_new (w := w4.alloc (.cells #[.int .u8 t, .slice a8 body.length c8] 47)) rfl (.cells #[.int .i64 (at_ : Nat)] 3)
        rw [World.size_alloc] at hh6
        have HH6 := hide hh6
        have HX6 := hide hx6
        have HB6 := hide (HB10.out.trans (hb6.mono hs10))
        have hs6 := HB6.out.size
        have HBO6 := hide (bown_keep HBO4.out hb6)
        have HI6 := hide (iown_keep HI4.out hb6)
        have HBD6 := hide (bod_keep HBOD.out hb6)
        clear hb5 hb6 hh6 hx5 hx6 HBO4 HI4 HBOD
        go_wp2_with (refine append_int w _ w.heap.size _ at_ _ _ ns its rfl (.tmp 22) (.tmp 24) rfl rfl rfl HI6.out HBO6.out HH6.out (by omega) hs6 HB6.out ?_)
        intro v7 w7 hi7 hbo7 hkeep hb7
        have HI7 := hide hi7
        have HBO7 := hide hbo7
        have HB7 := hide hb7
        have HX7 := hide (hkeep _ _ _ _ _ HX6.out (by decide))
        have HBD7 := hide (show Bod w7 (.slice a8 body.length c8) body from bod_by HBD6.out fun k cs fr hk => hkeep _ _ _ _ _ hk (by decide))
        clear hi7 hbo7 hkeep hb7 HI6 HBO6 HH6 HX6 HBD6 HB6
        obtain ⟨c0, c1⟩ := cells2 HX7.out
        have hs7 := HB7.out.size
        have hb8 := (Below.refl w7.heap.size w7).alloc (Nat.le_refl _) (.cells #[.int .u8 t, .slice a8 body.length c8] 47)
        have HH8 := hide (heap_new (w := w7) rfl (.cells #[.int .u8 t, .slice a8 body.length c8] 47))
        have HB8 := hide (HB7.out.trans (hb8.mono hs7))
        have hs8 := HB8.out.size
        have HBO8 := hide (bown_keep HBO7.out hb8)
        have HI8 := hide (iown_keep HI7.out hb8)
        have HBD8 := hide (bod_keep HBD7.out hb8)
        clear hb8
        go_wp2_with (refine append_blk2 w _ w.heap.size _ _ _ its _ (t, .slice a8 body.length c8, body) rfl (.tmp 26) (.tmp 28) rfl rfl rfl HBO8.out HI8.out HTT.out HBD8.out HH8.out (by omega) hs8 HB8.out ?_)
        intro v9 w9 hbo9 hi9 hb9
        have HI9 := hide hi9
        have HBO9 := hide hbo9
        have HB9 := hide hb9
        clear hi9 hbo9 hb9 HBO8 HI8 HB8 HH8 HBD8 c0 c1
        go_wp2_with fail
        refine ⟨⟨f2, at_ + s, ns ++ [at_], its ++ [(t, .slice a8 body.length c8, body)], by simp, by omega, by omega, HI9.out, HBO9.out, ?_, ?_, ?_, ?_, ?_, HB9.out⟩, ?_⟩
        · simp only [List.length_append, List.length_cons, List.length_nil]; omega
        · simp only [List.length_append, List.length_cons, List.length_nil]; omega
        · rw [H1'.out, List.append_assoc]; rfl
        · rw [H2'.out, blOf_app, List.append_assoc]; rfl
        · intro x hx g hg
          rcases List.mem_append.1 hx with hx | hx
          · exact HBA.out x hx g hg
          · simp at hx
            subst hx
            exact HB8'.out g hg
        · simp only [intOf]; omega

set_option maxRecDepth 100000 in
theorem ref_scan_nil (w : World) : Calls Tryd.prog 41 #[.slice none 0 0] w fun e w' => RefScanOut w.heap.size [] e w' ∧ Below w.heap.size w w' := by
  go_enter Tryd.func41, Tryd.ntmps41
  go_wp2_with fail
  go_loopw [4, 5, 6] (fun s4 s5 s6 wr => s4 = .slice none 0 0 ∧ s5 = .slice none 0 0 ∧ s6 = .int .i64 0 ∧ w = wr) (fun _ _ _ _ => 0)
  case atStart => exact ⟨rfl, rfl, rfl, rfl⟩
  case round =>
    obtain ⟨rfl, rfl, rfl, rfl⟩ := hrel
    go_wp2_with fail
    refine (ref_decode_nil w none 0).mono ?_
    rintro e w4 ⟨hout, hb4⟩
    rw [RefDecOut, show dec [] = .inl 1 from rfl] at hout
    subst hout
    have hb5 := hb4.alloc hb4.size (.cells #[.int .u8 0, .slice none 0 0] 47)
    have HB5 := hide hb5
    clear hb4 hb5
    go_wp2_with fail
    go_ret2
    exact ⟨⟨_, _, [], rfl, iown_nil _ _, bown_nil _ _, rfl, by simp⟩, HB5.out⟩
theorem ref_scan_any (w : World) (v : Value) (bs : List Nat) (hs : Src w v bs) (hl : bs.length ≤ 100000000) :
    Calls Tryd.prog 41 #[v] w fun e w' => RefScanOut w.heap.size bs e w' ∧ Below w.heap.size w w' := by
  rcases hs with ⟨h256, ⟨rfl, rfl⟩ | ⟨ad, cap, rfl, h1, h2, hc⟩⟩
  · exact ref_scan_nil w
  · exact ref_scan_some w ad cap bs.length bs rfl ⟨h256, .inr ⟨ad, cap, rfl, h1, h2, hc⟩⟩ hl
end Go.Proofs.YtgebekklkodpaaaDoor

/-! Sn: frame.Scan, and what its iterator tells -/
namespace Go.Proofs.YtgebekklkodpaaaDoor
open Go.RowKit Go.Shelf
attribute [local go_sem] Oper.semAt_some

/-- the bytes that a Scan has kept -/
def Kept (w : World) (Bx g : Nat) (bs : List Nat) : Prop :=
  w.heap[Bx]? = some (.cells #[.slice (some ⟨g, 0, none⟩) bs.length bs.length] 25 (0, 0)) ∧ w.heap[g]? = some (.cells (u8s bs).toArray 5 (0, 0))
theorem kept_same {S : Nat → Prop} {w w' : World} {Bx g : Nat} {bs : List Nat} (h : Kept w Bx g bs) (hb : Same S w w') (h1 : S Bx) (h2 : S g) : Kept w' Bx g bs :=
  ⟨hb.same _ _ h1 h.1, hb.same _ _ h2 h.2⟩
theorem zip_same {S : Nat → Prop} {w w' : World} (Z : Zip w) (h : Same S w w') (h16 : S 16) : Zip w' := fun k hk => same_cell h (p := ⟨16, k, none⟩) h16 (Z k hk)
theorem err_same2 {S : Nat → Prop} {w w' : World} {g : Nat} {a : Addr} (Z : ErrAt w g a) (h : Same S w w') (hg : S g) : ErrAt w' g a := same_cell h (p := ⟨g, 0, none⟩) hg Z

set_option maxRecDepth 100000 in
theorem scan_any (w : World) (v : Value) (bs : List Nat) (hs : Src w v bs) (hl : bs.length ≤ 140737488355328) :
    Calls Tryd.prog 45 #[v] w fun e w' => ∃ Bx g, e = .returned (.func (.func 71) #[] #[.pointer (some ⟨Bx, 0, none⟩)]) ∧ w.heap.size ≤ Bx ∧ w.heap.size ≤ g ∧ Kept w' Bx g bs ∧ Below w.heap.size w w' := by
  obtain ⟨ao, cap, rfl⟩ := src_form hs
  have hb1 := (Below.refl w.heap.size w).alloc (Nat.le_refl _) (.cells #[.slice ao bs.length cap] 25)
  have HB1 := hide hb1
  have HC := hide (concat_any (w.alloc (.cells #[.slice ao bs.length cap] 25)) w.heap.size (.slice ao bs.length cap) bs (by rw [World.cell?_alloc_new]; rfl) (src_keep hs hb1) hl)
  clear hb1 hs
  go_enter Tryd.func45, Tryd.ntmps45
  go_wp2_with fail
  refine HC.out.mono ?_
  rintro e w2 ⟨rfl, hh, hb⟩
  rw [World.size_alloc] at hh hb ⊢
  have HB2 := hide (HB1.out.trans (hb.mono (by omega)))
  have hz := heap_lt hh
  have HH := hide hh
  clear hh hb
  go_wp2_with fail
  go_ret
  exact ⟨w2.heap.size, w.heap.size + 1, rfl, HB2.out.size, by omega, ⟨heap_new rfl _, heap_old HH.out _⟩, HB2.out.alloc HB2.out.size _⟩

theorem wide_depth {n : Nat} : Fence.wide.depth.isSome = true → 1 ≤ n := fun h => by cases h
theorem src_nil (w : World) (ad : Addr) : Src w (.slice (some ad) 0 0) [] := ⟨by simp, .inr ⟨ad, 0, rfl, by simp, by omega, by simp⟩⟩
/-- what is told: its place, its tag, its body's value, its body -/
abbrev Itm := Nat × It
def itEnc (x : Itm) : Array Value := #[.int .i64 (x.1 : Nat), .agg #[.int .u8 (x.2.1 : Nat), x.2.2.1]]
def itOk (A : World) (x : Itm) (C : World) : Prop :=
  x.2.1 < 256 ∧ ∃ gx m, x.2.2.1 = .slice (some ⟨gx, 0, none⟩) m m ∧ m = x.2.2.2.length ∧ A.heap.size ≤ gx ∧ C.heap[gx]? = some (.cells (u8s x.2.2.2).toArray 5 (0, 0)) ∧ (∀ y ∈ x.2.2.2, y < 256) ∧ m ≤ 100000000
def pls (xs : List Itm) : List Nat := xs.map (·.1)
def bds (xs : List Itm) : List Bl := xs.map fun x => (x.2.1, x.2.2.2)
def scanAll (bs : List Nat) (xs : List Itm) : Prop := (scan (bs.length + 1) 0 bs).1 = pls xs ∧ (scan (bs.length + 1) 0 bs).2 = bds xs
def scanPart (bs : List Nat) (xs : List Itm) : Prop := ∃ r1 r2, (scan (bs.length + 1) 0 bs).1 = pls xs ++ r1 ∧ (scan (bs.length + 1) 0 bs).2 = bds xs ++ r2

set_option maxRecDepth 100000 in
set_option maxHeartbeats 4000000 in
theorem scan_tells (S : Nat → Prop) (n Bx g : Nat) (bs : List Nat) (w : World) (Z : Zip w) (E : Nat → Addr) (h0 : ErrAt w 0 (E 0)) (h1 : ErrAt w 1 (E 1)) (h2 : ErrAt w 2 (E 2)) (h6 : ErrAt w 6 (E 6)) (hg : ∀ k, k < 17 → S k) (hg2 : 17 ≤ w.heap.size) (hBx : S Bx) (hgB : S g) (hk : Kept w Bx g bs)
    (hx : ∀ x ∈ bs, x < 256) (hl : bs.length ≤ 100000000) :
    Tells Fence.wide n Tryd.prog 71 #[.pointer (some ⟨Bx, 0, none⟩)] itEnc itOk (scanAll bs) (scanPart bs) S w := fun l J Jx W hW hJ hJx hY hst => by
  obtain ⟨m, hm⟩ : ∃ m, bs.length = m := ⟨_, rfl⟩
  have hbW : Same S w W := same_below hW
  have HZ := hide Z
  have H0 := hide h0
  have H1 := hide h1
  have H2 := hide h2
  have H6 := hide h6
  have HK := hide hk
  have HX := hide hx
  have HM := hide hm
  have HY := hide hY
  have HJ := hide hJ
  have HBW := hide hbW
  have HST := hide hst
  rw [hm] at hl
  clear Z h0 h1 h2 h6 hk hx hm hY hJ hbW hst hW
  refine callsIn_of_wp Tryd.func71 rfl trivial ?_ rfl
  simp only [Tryd.ntmps71, List.size_toArray, List.length_cons, List.length_nil, Nat.reduceAdd, Nat.reduceSub, Array.replicate_succ, Array.replicate_zero, List.push_toArray, List.append_toArray, List.nil_append, List.cons_append]
  gi_wp2_with fail
  gi_loopw [3] (fun s3 wr => ∃ (f at_ : Nat) (pre : List Itm), s3 = .int .i64 at_ ∧ at_ ≤ m ∧ m - at_ < f ∧ (scan (bs.length + 1) 0 bs).1 = pls pre ++ (scan f at_ (bs.drop at_)).1 ∧ (scan (bs.length + 1) 0 bs).2 = bds pre ++ (scan f at_ (bs.drop at_)).2 ∧ J pre wr ∧ Same S w wr) (fun s3 _ => m - (intOf s3).toNat)
  case atStart => exact ⟨bs.length + 1, 0, [], rfl, by omega, by have := HM.out; omega, rfl, rfl, HST.out, HBW.out⟩
  case round =>
    obtain ⟨f, at_, pre, rfl, ham, hf, h1, h2, hj, hb⟩ := hrel
    have hs := hb.size
    obtain ⟨hk1, hk2⟩ := kept_same HK.out hb hBx hgB
    have hc := cell_at hk1 0
    rw [HM.out] at hc
    have hsrc := src_block hk2 HX.out (by have := HM.out; omega)
    have hpart := src_part hsrc at_ bs.length (bs.length - at_) (by have := HM.out; omega) (Nat.le_refl _) (by have := HM.out; omega) (by have := HM.out; omega)
    have HC := hide hc
    have HJr := hide hj
    have HB := hide hb
    have HS1 := hide h1
    have HS2 := hide h2
    by_cases hce : at_ = m
    · have hr : bs.drop at_ = [] := by rw [hce]; exact List.drop_eq_nil_of_le (by rw [HM.out]; exact Nat.le_refl _)
      have HD := hide (decode_any wr (zip_same HZ.out hb (hg _ (by omega))) E (err_same2 H0.out hb (hg _ (by omega))) (err_same2 H1.out hb (hg _ (by omega))) (err_same2 H2.out hb (hg _ (by omega))) (err_same2 H6.out hb (hg _ (by omega))) (by omega) (.slice (some ⟨g, 0, none⟩) 0 0) [] (src_nil _ _) (by simp))
      have HF1 := hide (HS1.out.trans (by rw [scan_err f at_ _ 1 (by rw [hr]; rfl), List.append_nil]))
      have HF2 := hide (HS2.out.trans (by rw [scan_err f at_ _ 1 (by rw [hr]; rfl), List.append_nil]))
      have c0 := HC.out
      clear hc h1 h2 hj hb hpart hsrc hk1 hk2 hr
      subst hce
      gi_wp2_with fail
      refine ⟨trivial, wide_depth, (callsIn_wide.2 HD.out).mono ?_⟩
      rintro e w4 ⟨hout, hb4⟩
      rw [DecOut, show dec [] = .inl 1 from rfl] at hout
      subst hout
      have hb5 := hb4.trans ((Below.refl w4.heap.size w4).alloc (Nat.le_refl _) (.cells #[.int .u8 0, .slice none 0 0] 47) |>.mono hb4.size)
      have HJ5 := hide (HJ.out _ _ _ HJr.out hb5)
      clear hb4 hb5
      gi_wp2_with fail
      refine ⟨fun _ h => (by cases h), ?_⟩
      gi_wp2_with fail
      refine bodyPost_ret (results_none rfl _ _ _) rfl ?_
      exact ⟨⟨_, rfl⟩, .inl ⟨pre, ⟨HF1.out, HF2.out⟩, HJ5.out⟩⟩
    · have a1 : (at_ : Int) < (m : Int) := by omega
      have hpl : (bs.drop at_).length = m - at_ := by rw [List.length_drop, HM.out]
      have hsr : Src wr (.slice (some ⟨g, at_, none⟩) (m - at_) (m - at_)) (bs.drop at_) := by
        rw [List.take_length, HM.out, Addr.add_lit, Nat.zero_add] at hpart
        exact hpart
      have HR := hide hsr
      have HPL := hide hpl
      have H256 := hide (fun x hx => HX.out x (List.mem_of_mem_drop hx) : ∀ x ∈ bs.drop at_, x < 256)
      have HD := hide (decode_any wr (zip_same HZ.out hb (hg _ (by omega))) E (err_same2 H0.out hb (hg _ (by omega))) (err_same2 H1.out hb (hg _ (by omega))) (err_same2 H2.out hb (hg _ (by omega))) (err_same2 H6.out hb (hg _ (by omega))) (by omega) _ (bs.drop at_) hsr (by rw [hpl]; omega))
      have c0 := HC.out
      have a2 : (at_ : Int) ≤ (m : Int) := by omega
      have a3 : m ≠ at_ := fun h => hce h.symm
      have a4 : m - at_ ≠ 0 := by omega
      clear hc h1 h2 hj hb hpart hsrc hk1 hk2 hsr hpl
      gi_wp2_with fail
      refine ⟨trivial, wide_depth, (callsIn_wide.2 HD.out).mono ?_⟩
      rintro e w4 ⟨hout, hb4⟩
      have HB4 := hide hb4
      clear hb4 HD
      cases hd : dec (bs.drop at_) with
      | inl q =>
        rw [DecOut, hd] at hout
        subst hout
        have HF1 := hide (HS1.out.trans (by rw [scan_err f at_ _ q hd, List.append_nil]))
        have HF2 := hide (HS2.out.trans (by rw [scan_err f at_ _ q hd, List.append_nil]))
        have hb5 := HB4.out.trans ((Below.refl w4.heap.size w4).alloc (Nat.le_refl _) (.cells #[.int .u8 0, .slice none 0 0] 47) |>.mono HB4.out.size)
        have HJ5 := hide (HJ.out _ _ _ HJr.out hb5)
        clear hd hb5
        gi_wp2_with fail
        refine ⟨fun _ h => (by cases h), ?_⟩
        gi_wp2_with fail
        refine bodyPost_ret (results_none rfl _ _ _) rfl ?_
        exact ⟨⟨_, rfl⟩, .inl ⟨pre, ⟨HF1.out, HF2.out⟩, HJ5.out⟩⟩
      | inr q =>
        obtain ⟨i, j⟩ := q
        rw [DecOut, hd] at hout
        obtain ⟨gx, rfl, hgx, hhx⟩ := hout
        obtain ⟨t, r2, hrt, ht1, hij, hjl, hi2, _⟩ := dec_ok H256.out hd
        have htt : t < 256 := H256.out t (by rw [hrt]; exact List.mem_cons_self ..)
        have hpl := HPL.out
        obtain ⟨f2, rfl⟩ : ∃ f2, f = f2 + 1 := ⟨f - 1, by omega⟩
        have H1' := HS1.out.trans (by rw [scan_ok f2 at_ _ i j hd])
        have H2' := HS2.out.trans (by rw [scan_ok f2 at_ _ i j hd])
        have hbl : (((bs.drop at_).take j).drop i).length = j - i := by rw [List.length_drop, List.length_take]; omega
        have hb256 : ∀ y ∈ ((bs.drop at_).take j).drop i, y < 256 := fun y hy => H256.out y (List.mem_of_mem_take (List.mem_of_mem_drop hy))
        obtain ⟨body, hbody⟩ : ∃ body, ((bs.drop at_).take j).drop i = body := ⟨_, rfl⟩
        rw [hbody] at hhx H2' hbl hb256
        rw [show (bs.drop at_).getD 0 0 = t by rw [hrt]; rfl] at H2' ⊢
        rw [List.drop_drop] at H1' H2'
        obtain ⟨k, hk⟩ : ∃ k, j - i = k := ⟨_, rfl⟩
        obtain ⟨s, hs4⟩ : ∃ s, j + 4 = s := ⟨_, rfl⟩
        rw [hk] at hbl ⊢
        rw [hs4] at hjl H1' H2' ⊢
        have hkm : k ≤ m := by omega
        have hs44 : 4 ≤ s := by omega
        have hse : at_ + s ≤ m := by omega
        have hq5 := (Below.refl w4.heap.size w4).alloc (Nat.le_refl _) (.cells #[.int .u8 t, .slice (some ⟨gx, 0, none⟩) k k] 47)
        have hok : itOk wr (at_, t, .slice (some ⟨gx, 0, none⟩) k k, body) (w4.alloc (.cells #[.int .u8 t, .slice (some ⟨gx, 0, none⟩) k k] 47)) :=
          ⟨htt, gx, k, rfl, hbl.symm, hgx, heap_old hhx _, hb256, by omega⟩
        have HB5 := hide (HB4.out.trans (hq5.mono HB4.out.size))
        obtain ⟨fn, tmps, assign, bdy, hy, hR⟩ := HY.out pre (at_, t, .slice (some ⟨gx, 0, none⟩) k k, body) wr _ HJr.out HB5.out hok
        have HH1 := hide H1'
        have HH2 := hide H2'
        have HRD := hide hR
        dsimp only [itEnc] at hy
        clear hd hhx hrt hok hq5 H1' H2' hbody hb256 hpl hR hk hs4 hij hjl hi2 ht1 hbl
        gi_wp2_with fail
        refine ⟨wide_depth, HRD.out.mono ?_⟩
        rintro e W3 (⟨rfl, hJ3, hk3⟩ | ⟨rfl, hJx3⟩)
        · have HJ3 := hide hJ3
          have HB3 := hide ((HB.out.trans (same_below HB5.out)).trans hk3)
          have e1 : IntKind.i64.wrap ((at_ : Int) + (s : Int)) = ((at_ + s : Nat) : Int) := by rw [IntKind.wrap_i64]; omega
          clear hJ3 hk3 hy
          gi_wp2_with fail
          refine ⟨⟨f2, at_ + s, pre ++ [(at_, t, .slice (some ⟨gx, 0, none⟩) k k, body)], by simp, hse, by omega, ?_, ?_, HJ3.out, HB3.out⟩, by simp [intOf]; omega⟩
          · rw [HH1.out]; simp [pls]
          · rw [HH2.out]; simp [bds]
        · have HJx3 := hide hJx3
          clear hJx3 hy
          gi_wp2_with fail
          refine bodyPost_ret (results_none rfl _ _ _) rfl ?_
          refine ⟨⟨_, rfl⟩, .inr ⟨_, ⟨(scan f2 (at_ + s) (bs.drop (at_ + s))).1, (scan f2 (at_ + s) (bs.drop (at_ + s))).2, ?_, ?_⟩, HJx3.out⟩⟩
          · rw [HH1.out]; simp [pls]
          · rw [HH2.out]; simp [bds]

def itAt (bs : List Nat) (pre : List Itm) (A : World) (x : Itm) (C : World) : Prop := scanPart bs (pre ++ [x]) ∧ itOk A x C

set_option maxRecDepth 100000 in
set_option maxHeartbeats 4000000 in
theorem scan_tells_at (S : Nat → Prop) (n Bx g : Nat) (bs : List Nat) (w : World) (Z : Zip w) (E : Nat → Addr) (h0 : ErrAt w 0 (E 0)) (h1 : ErrAt w 1 (E 1)) (h2 : ErrAt w 2 (E 2)) (h6 : ErrAt w 6 (E 6)) (hg : ∀ k, k < 17 → S k) (hg2 : 17 ≤ w.heap.size) (hBx : S Bx) (hgB : S g) (hk : Kept w Bx g bs)
    (hx : ∀ x ∈ bs, x < 256) (hl : bs.length ≤ 100000000) :
    TellsAt Fence.wide n Tryd.prog 71 #[.pointer (some ⟨Bx, 0, none⟩)] itEnc (itAt bs) (scanAll bs) (scanPart bs) S w := fun l J Jx W hW hJ hJx hY hst => by
  obtain ⟨m, hm⟩ : ∃ m, bs.length = m := ⟨_, rfl⟩
  have hbW : Same S w W := same_below hW
  have HZ := hide Z
  have H0 := hide h0
  have H1 := hide h1
  have H2 := hide h2
  have H6 := hide h6
  have HK := hide hk
  have HX := hide hx
  have HM := hide hm
  have HY := hide hY
  have HJ := hide hJ
  have HBW := hide hbW
  have HST := hide hst
  rw [hm] at hl
  clear Z h0 h1 h2 h6 hk hx hm hY hJ hbW hst hW
  refine callsIn_of_wp Tryd.func71 rfl trivial ?_ rfl
  simp only [Tryd.ntmps71, List.size_toArray, List.length_cons, List.length_nil, Nat.reduceAdd, Nat.reduceSub, Array.replicate_succ, Array.replicate_zero, List.push_toArray, List.append_toArray, List.nil_append, List.cons_append]
  gi_wp2_with fail
  gi_loopw [3] (fun s3 wr => ∃ (f at_ : Nat) (pre : List Itm), s3 = .int .i64 at_ ∧ at_ ≤ m ∧ m - at_ < f ∧ (scan (bs.length + 1) 0 bs).1 = pls pre ++ (scan f at_ (bs.drop at_)).1 ∧ (scan (bs.length + 1) 0 bs).2 = bds pre ++ (scan f at_ (bs.drop at_)).2 ∧ J pre wr ∧ Same S w wr) (fun s3 _ => m - (intOf s3).toNat)
  case atStart => exact ⟨bs.length + 1, 0, [], rfl, by omega, by have := HM.out; omega, rfl, rfl, HST.out, HBW.out⟩
  case round =>
    obtain ⟨f, at_, pre, rfl, ham, hf, h1, h2, hj, hb⟩ := hrel
    have hs := hb.size
    obtain ⟨hk1, hk2⟩ := kept_same HK.out hb hBx hgB
    have hc := cell_at hk1 0
    rw [HM.out] at hc
    have hsrc := src_block hk2 HX.out (by have := HM.out; omega)
    have hpart := src_part hsrc at_ bs.length (bs.length - at_) (by have := HM.out; omega) (Nat.le_refl _) (by have := HM.out; omega) (by have := HM.out; omega)
    have HC := hide hc
    have HJr := hide hj
    have HB := hide hb
    have HS1 := hide h1
    have HS2 := hide h2
    by_cases hce : at_ = m
    · have hr : bs.drop at_ = [] := by rw [hce]; exact List.drop_eq_nil_of_le (by rw [HM.out]; exact Nat.le_refl _)
      have HD := hide (decode_any wr (zip_same HZ.out hb (hg _ (by omega))) E (err_same2 H0.out hb (hg _ (by omega))) (err_same2 H1.out hb (hg _ (by omega))) (err_same2 H2.out hb (hg _ (by omega))) (err_same2 H6.out hb (hg _ (by omega))) (by omega) (.slice (some ⟨g, 0, none⟩) 0 0) [] (src_nil _ _) (by simp))
      have HF1 := hide (HS1.out.trans (by rw [scan_err f at_ _ 1 (by rw [hr]; rfl), List.append_nil]))
      have HF2 := hide (HS2.out.trans (by rw [scan_err f at_ _ 1 (by rw [hr]; rfl), List.append_nil]))
      have c0 := HC.out
      clear hc h1 h2 hj hb hpart hsrc hk1 hk2 hr
      subst hce
      gi_wp2_with fail
      refine ⟨trivial, wide_depth, (callsIn_wide.2 HD.out).mono ?_⟩
      rintro e w4 ⟨hout, hb4⟩
      rw [DecOut, show dec [] = .inl 1 from rfl] at hout
      subst hout
      have hb5 := hb4.trans ((Below.refl w4.heap.size w4).alloc (Nat.le_refl _) (.cells #[.int .u8 0, .slice none 0 0] 47) |>.mono hb4.size)
      have HJ5 := hide (HJ.out _ _ _ HJr.out hb5)
      clear hb4 hb5
      gi_wp2_with fail
      refine ⟨fun _ h => (by cases h), ?_⟩
      gi_wp2_with fail
      refine bodyPost_ret (results_none rfl _ _ _) rfl ?_
      exact ⟨⟨_, rfl⟩, .inl ⟨pre, ⟨HF1.out, HF2.out⟩, HJ5.out⟩⟩
    · have a1 : (at_ : Int) < (m : Int) := by omega
      have hpl : (bs.drop at_).length = m - at_ := by rw [List.length_drop, HM.out]
      have hsr : Src wr (.slice (some ⟨g, at_, none⟩) (m - at_) (m - at_)) (bs.drop at_) := by
        rw [List.take_length, HM.out, Addr.add_lit, Nat.zero_add] at hpart
        exact hpart
      have HR := hide hsr
      have HPL := hide hpl
      have H256 := hide (fun x hx => HX.out x (List.mem_of_mem_drop hx) : ∀ x ∈ bs.drop at_, x < 256)
      have HD := hide (decode_any wr (zip_same HZ.out hb (hg _ (by omega))) E (err_same2 H0.out hb (hg _ (by omega))) (err_same2 H1.out hb (hg _ (by omega))) (err_same2 H2.out hb (hg _ (by omega))) (err_same2 H6.out hb (hg _ (by omega))) (by omega) _ (bs.drop at_) hsr (by rw [hpl]; omega))
      have c0 := HC.out
      have a2 : (at_ : Int) ≤ (m : Int) := by omega
      have a3 : m ≠ at_ := fun h => hce h.symm
      have a4 : m - at_ ≠ 0 := by omega
      clear hc h1 h2 hj hb hpart hsrc hk1 hk2 hsr hpl
      gi_wp2_with fail
      refine ⟨trivial, wide_depth, (callsIn_wide.2 HD.out).mono ?_⟩
      rintro e w4 ⟨hout, hb4⟩
      have HB4 := hide hb4
      clear hb4 HD
      cases hd : dec (bs.drop at_) with
      | inl q =>
        rw [DecOut, hd] at hout
        subst hout
        have HF1 := hide (HS1.out.trans (by rw [scan_err f at_ _ q hd, List.append_nil]))
        have HF2 := hide (HS2.out.trans (by rw [scan_err f at_ _ q hd, List.append_nil]))
        have hb5 := HB4.out.trans ((Below.refl w4.heap.size w4).alloc (Nat.le_refl _) (.cells #[.int .u8 0, .slice none 0 0] 47) |>.mono HB4.out.size)
        have HJ5 := hide (HJ.out _ _ _ HJr.out hb5)
        clear hd hb5
        gi_wp2_with fail
        refine ⟨fun _ h => (by cases h), ?_⟩
        gi_wp2_with fail
        refine bodyPost_ret (results_none rfl _ _ _) rfl ?_
        exact ⟨⟨_, rfl⟩, .inl ⟨pre, ⟨HF1.out, HF2.out⟩, HJ5.out⟩⟩
      | inr q =>
        obtain ⟨i, j⟩ := q
        rw [DecOut, hd] at hout
        obtain ⟨gx, rfl, hgx, hhx⟩ := hout
        obtain ⟨t, r2, hrt, ht1, hij, hjl, hi2, _⟩ := dec_ok H256.out hd
        have htt : t < 256 := H256.out t (by rw [hrt]; exact List.mem_cons_self ..)
        have hpl := HPL.out
        obtain ⟨f2, rfl⟩ : ∃ f2, f = f2 + 1 := ⟨f - 1, by omega⟩
        have H1' := HS1.out.trans (by rw [scan_ok f2 at_ _ i j hd])
        have H2' := HS2.out.trans (by rw [scan_ok f2 at_ _ i j hd])
        have hbl : (((bs.drop at_).take j).drop i).length = j - i := by rw [List.length_drop, List.length_take]; omega
        have hb256 : ∀ y ∈ ((bs.drop at_).take j).drop i, y < 256 := fun y hy => H256.out y (List.mem_of_mem_take (List.mem_of_mem_drop hy))
        obtain ⟨body, hbody⟩ : ∃ body, ((bs.drop at_).take j).drop i = body := ⟨_, rfl⟩
        rw [hbody] at hhx H2' hbl hb256
        rw [show (bs.drop at_).getD 0 0 = t by rw [hrt]; rfl] at H2' ⊢
        rw [List.drop_drop] at H1' H2'
        obtain ⟨k, hk⟩ : ∃ k, j - i = k := ⟨_, rfl⟩
        obtain ⟨s, hs4⟩ : ∃ s, j + 4 = s := ⟨_, rfl⟩
        rw [hk] at hbl ⊢
        rw [hs4] at hjl H1' H2' ⊢
        have hkm : k ≤ m := by omega
        have hs44 : 4 ≤ s := by omega
        have hse : at_ + s ≤ m := by omega
        have hq5 := (Below.refl w4.heap.size w4).alloc (Nat.le_refl _) (.cells #[.int .u8 t, .slice (some ⟨gx, 0, none⟩) k k] 47)
        have hpt : scanPart bs (pre ++ [(at_, t, .slice (some ⟨gx, 0, none⟩) k k, body)]) :=
          ⟨(scan f2 (at_ + s) (bs.drop (at_ + s))).1, (scan f2 (at_ + s) (bs.drop (at_ + s))).2, by rw [H1']; simp [pls], by rw [H2']; simp [bds]⟩
        have hok : itAt bs pre wr (at_, t, .slice (some ⟨gx, 0, none⟩) k k, body) (w4.alloc (.cells #[.int .u8 t, .slice (some ⟨gx, 0, none⟩) k k] 47)) :=
          ⟨hpt, htt, gx, k, rfl, hbl.symm, hgx, heap_old hhx _, hb256, by omega⟩
        have HB5 := hide (HB4.out.trans (hq5.mono HB4.out.size))
        obtain ⟨fn, tmps, assign, bdy, hy, hR⟩ := HY.out pre (at_, t, .slice (some ⟨gx, 0, none⟩) k k, body) wr _ HJr.out HB5.out hok
        have HH1 := hide H1'
        have HH2 := hide H2'
        have HRD := hide hR
        dsimp only [itEnc] at hy
        clear hd hhx hrt hok hpt hq5 H1' H2' hbody hb256 hpl hR hk hs4 hij hjl hi2 ht1 hbl
        gi_wp2_with fail
        refine ⟨wide_depth, HRD.out.mono ?_⟩
        rintro e W3 (⟨rfl, hJ3, hk3⟩ | ⟨rfl, hJx3⟩)
        · have HJ3 := hide hJ3
          have HB3 := hide ((HB.out.trans (same_below HB5.out)).trans hk3)
          have e1 : IntKind.i64.wrap ((at_ : Int) + (s : Int)) = ((at_ + s : Nat) : Int) := by rw [IntKind.wrap_i64]; omega
          clear hJ3 hk3 hy
          gi_wp2_with fail
          refine ⟨⟨f2, at_ + s, pre ++ [(at_, t, .slice (some ⟨gx, 0, none⟩) k k, body)], by simp, hse, by omega, ?_, ?_, HJ3.out, HB3.out⟩, by simp [intOf]; omega⟩
          · rw [HH1.out]; simp [pls]
          · rw [HH2.out]; simp [bds]
        · have HJx3 := hide hJx3
          clear hJx3 hy
          gi_wp2_with fail
          refine bodyPost_ret (results_none rfl _ _ _) rfl ?_
          refine ⟨⟨_, rfl⟩, .inr ⟨_, ⟨(scan f2 (at_ + s) (bs.drop (at_ + s))).1, (scan f2 (at_ + s) (bs.drop (at_ + s))).2, ?_, ?_⟩, HJx3.out⟩⟩
          · rw [HH1.out]; simp [pls]
          · rw [HH2.out]; simp [bds]
end Go.Proofs.YtgebekklkodpaaaDoor

/-! Mk: concordmem: Mark, Spare, Kept -/
namespace Go.Proofs.YtgebekklkodpaaaDoor
open Go.RowKit

def markH (i j : Int) : Int := IntKind.u64.wrap (IntKind.u64.wrap (IntKind.u64.wrap (wrap64 (i + 1)) * 11400714819323198485) + IntKind.u64.wrap (IntKind.u64.wrap (wrap64 (j + 1)) * 13787848793156543929))
def mark (i j : Int) : Int := wrap64 (wrap64 (IntKind.u64.wrap (bits .xor .u64 (markH i j) (markH i j / 536870912) * 10723151780598845931) / 8589934592) + 1)
/-- the byte of a mark -/
def mb (i j : Nat) : Nat := (IntKind.u8.wrap (mark i j)).toNat
theorem mb_wrap (i j : Nat) : IntKind.u8.wrap (mark i j) = (mb i j : Int) := by
  have h : 0 ≤ IntKind.u8.wrap (mark i j) := by rw [IntKind.wrap_u8]; omega
  rw [mb, Int.toNat_of_nonneg h]
theorem mb_lt (i j : Nat) : mb i j < 256 := by
  have h : IntKind.u8.wrap (mark i j) < 256 := by rw [IntKind.wrap_u8]; omega
  have := mb_wrap i j
  omega
set_option maxRecDepth 100000 in
theorem mark_any (w : World) (i j : Int) :
    Calls Tryd.prog 70 #[.int .i64 i, .int .i64 j] w fun e w' => e = .returned (.int .i64 (mark i j)) ∧ w = w' := by
  go_enter Tryd.func70, Tryd.ntmps70
  go_wp2
  go_ret
  exact ⟨rfl, rfl⟩
/-- the room's bytes -/
def room (n : Nat) : List Nat := (List.range n).map fun j => mb 7 j
theorem room_len (n : Nat) : (room n).length = n := by simp [room]
theorem room_lt (n : Nat) : ∀ x ∈ room n, x < 256 := by
  intro x hx
  simp only [room, List.mem_map, List.mem_range] at hx
  obtain ⟨j, _, rfl⟩ := hx
  exact mb_lt 7 j
theorem room_succ (n : Nat) : room (n + 1) = room n ++ [mb 7 n] := by simp [room, List.range_succ]
theorem room_get (n j : Nat) (h : j < n) : (room n)[j]? = some (mb 7 j) := by simp [room, h]

set_option maxRecDepth 100000 in
/-- append within the room -/
theorem append_fit {ops : Array Oper} {rest : List Oper} {o : Oper} {a : Act} {Q : Exit → Act → World → Prop} (w0 w : World) (B g cap k : Nat) (xv : Value) (cur bs : List Nat) (hgd : o.guard = none) (s x : Operand)
    (ho : o.op = .call { callee := .builtin .append, args := #[s, x], argTypes := #[25, 25] }) (hs : a.eval s = .slice (some ⟨g, 0, none⟩) k cap) (hx : a.eval x = xv)
    (hk : cur.length = k) (hown : Own w B (.slice (some ⟨g, 0, none⟩) k cap) cur) (hsrc : Src w xv bs) (hl : k + bs.length ≤ cap) (hB : B ≤ w.heap.size) (hb : Below B w0 w)
    (h : ∀ w', Own w' B (.slice (some ⟨g, 0, none⟩) (k + bs.length) cap) (cur ++ bs) → Below B w0 w' → wpList Tryd.prog ops Q rest (a.put o.dst (.slice (some ⟨g, 0, none⟩) (k + bs.length) cap)) w') :
    wpList Tryd.prog ops Q (o :: rest) a w := by
  obtain ⟨i0, hi, hz0, hz1, hz2⟩ := info_parts info5
  obtain ⟨ao, c, rfl⟩ := src_form hsrc
  subst hk
  refine wpList_append_fits_any w hgd s x 25 ho B 5 i0 1 Tryd.underlying25 hi hz1 g cur.length cap (u8s cur) hs hown ao bs.length c (u8s bs) hx (by simp [u8s_len]) ?_ ?_ (u8s_one _) hl ?_
  · intro h0
    rcases hsrc with ⟨_, ⟨h1, h2⟩ | ⟨ad, c', h1, _⟩⟩
    · simp only [Value.slice.injEq] at h1
      exact ⟨h1.2.1, h1.2.2⟩
    · simp only [Value.slice.injEq] at h1
      rw [h0] at h1
      exact absurd h1.1 (by simp)
  · intro ad had
    rcases hsrc with ⟨_, ⟨h1, h2⟩ | ⟨ad', c', h1, _, _, hc⟩⟩
    · subst h2
      intro j u hu
      simp [u8s] at hu
    · simp only [Value.slice.injEq] at h1
      rw [had] at h1
      obtain rfl := Option.some.inj h1.1
      exact src_news hc
  · intro w' hown' hg
    refine h w' ?_ (hb.grown hg hB (fun j hj => by
      obtain rfl := Option.some.inj hj
      exact (World.ownsRow.lt hown g rfl).1))
    unfold Own
    rw [u8s_app, List.length_append]
    exact hown'
theorem mark_src (w : World) (B x : Nat) (hx : x < 256) : Src (w.alloc (.cells #[.int .u8 (x : Nat)] 5)) (.slice (some ⟨w.heap.size, 0, none⟩) 1 1) [x] := by
  have h := own_src (B := w.heap.size) (own_lit w w.heap.size [x] (Nat.le_refl _) (by simp) #[.int .u8 (x : Nat)] rfl) (fun y hy => by simp at hy; omega)
  exact h

set_option maxRecDepth 100000 in
set_option maxHeartbeats 4000000 in
theorem spare_any (w : World) (v : Value) (bs : List Nat) (hs : Src w v bs) (hl : bs.length ≤ 140737488355000) :
    Calls Tryd.prog 37 #[v] w fun e w' => ∃ g, e = .returned (.tuple #[.slice (some ⟨g, 0, none⟩) bs.length (bs.length + 80), .slice (some ⟨g, 0, none⟩) (bs.length + 80) (bs.length + 80)]) ∧ w.heap.size ≤ g ∧
      w'.heap[g]? = some (.cells (u8s (bs ++ room 80)).toArray 5 (0, 0)) ∧ Below w.heap.size w w' := by
  obtain ⟨ao, cap, rfl⟩ := src_form hs
  have HS := hide hs
  clear hs
  obtain ⟨i0, hi, hz0, hz1, hz2⟩ := info_parts info5
  have hw : IntKind.i64.wrap ((bs.length : Int) + 80) = ((bs.length + 80 : Nat) : Int) := by rw [IntKind.wrap_i64]; omega
  go_enter Tryd.func37, Tryd.ntmps37
  go_wp2_with (first | (at_make; refine wpList_make_own _ rfl _ _ 25 rfl w.heap.size 5 i0 (.int .u8 0) 1 Tryd.underlying25 hi hz0 hz1 _ _ _ (bs.length + 80) rfl rfl ?_ ?_ ?_ (Nat.le_refl _) ?_))
  · omega
  · rw [hz2]; omega
  · simp only [maxLen]; omega
  intro w1 ho1 hg1
  have HB1 := hide (show Below w.heap.size w w1 from ⟨hg1.os, hg1.tape, hg1.output, hg1.size, fun k hk => hg1.block k hk (by simp)⟩)
  have HO1 := hide (show Own w1 w.heap.size (.slice (some ⟨w.heap.size, 0, none⟩) 0 (bs.length + 80)) [] from ho1)
  clear ho1 hg1
  go_wp2_with (refine append_fit w w1 w.heap.size w.heap.size (bs.length + 80) 0 _ [] bs rfl (.tmp 10) (.tmp 11) rfl rfl rfl rfl HO1.out (src_keep HS.out HB1.out) (by omega) HB1.out.size HB1.out ?_)
  intro w2 ho2 hb2
  have HO2 := hide ho2
  have HB2 := hide hb2
  clear ho2 hb2 HO1 HB1
  go_wp2_with fail
  go_loopw [4, 5] (fun v4 c wr => ∃ j : Nat, j ≤ 80 ∧ c = .int .i64 j ∧ v4 = .slice (some ⟨w.heap.size, 0, none⟩) (bs.length + j) (bs.length + 80) ∧
    Own wr w.heap.size (.slice (some ⟨w.heap.size, 0, none⟩) (bs.length + j) (bs.length + 80)) (bs ++ room j) ∧ Below w.heap.size w wr) (fun _ c _ => 80 - (intOf c).toNat)
  case atStart => exact ⟨0, by omega, rfl, rfl, by simpa [room] using HO2.out, HB2.out⟩
  case round =>
    obtain ⟨j, hj, rfl, rfl, ho, hb⟩ := hrel
    have HO := hide ho
    have HB := hide hb
    have hsr := hb.size
    clear ho hb
    by_cases hlt : j < 80
    · have hj1 : (j : Int) < 80 := by omega
      have hbw : IntKind.u8.wrap (mark 7 j) = (mb 7 j : Int) := mb_wrap 7 j
      have HM := hide (mark_any wr 7 j)
      have hba := (Below.refl wr.heap.size wr).alloc (Nat.le_refl _) (.cells #[.int .u8 (mb 7 j : Nat)] 5)
      have HOA := hide (own_keep HO.out hba)
      have HBA := hide (HB.out.trans (hba.mono hsr))
      have hlr : (bs ++ room j).length = bs.length + j := by simp [room_len]
      have HSA := hide (mark_src wr 0 (mb 7 j) (mb_lt 7 j))
      clear hba
      go_wp2_with fail
      refine HM.out.mono ?_
      rintro e w' ⟨rfl, rfl⟩
      go_wp2_with (refine append_fit w _ w.heap.size w.heap.size (bs.length + 80) (bs.length + j) _ (bs ++ room j) [mb 7 j] rfl (.tmp 17) (.tmp 21) rfl rfl rfl hlr HOA.out HSA.out (by simp; omega) HBA.out.size HBA.out ?_)
      intro w5 ho5 hb5
      have HO5 := hide ho5
      have HB5 := hide hb5
      clear ho5 hb5
      go_wp2_with fail
      exact ⟨⟨j + 1, by omega, by simp, rfl, by rw [room_succ]; exact HO5.out, HB5.out⟩, by simp [intOf]; omega⟩
    · obtain rfl : j = 80 := by omega
      have hrow : wr.heap[w.heap.size]? = some (.cells (u8s (bs ++ room 80)).toArray 5 (0, 0)) := by
        have h := HO.out
        unfold Own at h
        rw [List.length_append, room_len] at h
        exact row_full h
      have HRW := hide hrow
      have k1 : (bs.length : Int) ≤ (bs.length : Int) + 80 := by omega
      clear hrow
      go_wp2_with fail
      go_ret2
      exact ⟨w.heap.size, rfl, Nat.le_refl _, HRW.out, HB.out⟩

set_option maxRecDepth 100000 in
set_option maxHeartbeats 4000000 in
/-- Kept: the whole is what Spare made -/
theorem kept_any (w : World) (g : Nat) (vb : Value) (bs : List Nat) (hg : w.heap[g]? = some (.cells (u8s (bs ++ room 80)).toArray 5 (0, 0))) (hs : Src w vb bs) (hl : bs.length ≤ 140737488355000) :
    Calls Tryd.prog 39 #[.slice (some ⟨g, 0, none⟩) (bs.length + 80) (bs.length + 80), vb] w fun e w' => e = .returned (.bool true) ∧ ∃ q, w' = w.drewN q := by
  obtain ⟨ao, cap, rfl⟩ := src_form hs
  have HS := hide hs
  have HG := hide hg
  clear hs hg
  go_enter Tryd.func39, Tryd.ntmps39
  go_wp2_with fail
  go_loopw [15] (fun c wr => ∃ i : Nat, i ≤ bs.length ∧ c = .int .i64 i ∧ ∃ q, wr = w.drewN q) (fun c _ => bs.length - (intOf c).toNat)
  case atStart => exact ⟨0, by omega, rfl, 0, rfl⟩
  case round =>
    obtain ⟨i, hi, rfl, q, rfl⟩ := hrel
    by_cases hlt : i < bs.length
    · obtain ⟨x, hx⟩ : ∃ x, bs[i]? = some x := ⟨_, List.getElem?_eq_getElem hlt⟩
      obtain ⟨ad, rfl, hc⟩ := src_cell HS.out hx
      have hfull : w.cell? ⟨g, i, none⟩ = some (.int .u8 (x : Nat)) := by
        rw [cell_at HG.out]
        have h : (bs ++ room 80)[i]? = some x := by rw [List.getElem?_append_left hlt, hx]
        simp only [u8s, List.getElem?_toArray, List.getElem?_map, h, Option.map_some]
      have hi1 : (i : Int) < (bs.length : Int) := by omega
      have hi2 : (i : Int) < (bs.length : Int) + 80 := by omega
      clear hx
      go_wp2_with fail
      go_quiet (fail)
      go_wp2_with fail
      exact ⟨⟨i + 1, by omega, by simp, _, rfl⟩, by simp [intOf]; omega⟩
    · obtain rfl : i = bs.length := by omega
      go_wp2_with fail
      go_loopw [6] (fun c wr => ∃ j : Nat, j ≤ 80 ∧ c = .int .i64 j ∧ ∃ q, wr = w.drewN q) (fun c _ => 80 - (intOf c).toNat)
      case atStart => exact ⟨0, by omega, rfl, q, rfl⟩
      case round =>
        obtain ⟨j, hj, rfl, q2, rfl⟩ := hrel
        by_cases hlj : j < 80
        · have hj1 : (j : Int) < 80 := by omega
          have hfull : w.cell? ⟨g, bs.length + j, none⟩ = some (.int .u8 (mb 7 j : Nat)) := by
            rw [cell_at HG.out]
            have h : (bs ++ room 80)[bs.length + j]? = some (mb 7 j) := by rw [List.getElem?_append_right (by omega), Nat.add_sub_cancel_left, room_get 80 j hlj]
            simp only [u8s, List.getElem?_toArray, List.getElem?_map, h, Option.map_some]
          have hbw : IntKind.u8.wrap (mark 7 j) = (mb 7 j : Int) := mb_wrap 7 j
          have hfull : (w.drewN q2).cell? ⟨g, bs.length + j, none⟩ = some (.int .u8 (mb 7 j : Nat)) := hfull
          generalize hwq : w.drewN q2 = wq at hfull ⊢
          have HWQ := hide hwq
          have HM := hide fun q => mark_any (wq.drewN q) 7 j
          clear hwq
          obtain ⟨m, hm⟩ : ∃ m, bs.length + j = m := ⟨_, rfl⟩
          have hmi : IntKind.i64.wrap ((bs.length : Int) + (j : Int)) = (m : Int) := by rw [IntKind.wrap_i64]; omega
          have hm2 : (m : Int) < (bs.length : Int) + 80 := by omega
          rw [hm] at hfull
          clear hm
          go_wp2_with fail
          go_quiet (first | (go_at_call 70; exact Calls.quiet_of_same ((HM.out _).mono fun e w1 h => ⟨h.1, h.2.symm⟩)))
          go_wp2_with fail
          exact ⟨⟨j + 1, by omega, by simp, q2 + nq, by rw [← HWQ.out, World.drewN_drewN]⟩, by simp [intOf]; omega⟩
        · obtain rfl : j = 80 := by omega
          go_wp2_with fail
          go_ret
          exact ⟨rfl, q2, rfl⟩
end Go.Proofs.YtgebekklkodpaaaDoor

/-! Fam: plain: a family of own rows of bytes, each in a block of its own -/
namespace Go.Proofs.YtgebekklkodpaaaDoor
open Go.RowKit

/-- a cell of an own row is written -/
theorem own_put {w : World} {B g n cap : Nat} {bs : List Nat} (h : Own w B (.slice (some ⟨g, 0, none⟩) n cap) bs) (j y : Nat) :
    Own (w.setCell ⟨g, j, none⟩ (.int .u8 (y : Nat))) B (.slice (some ⟨g, 0, none⟩) n cap) (bs.set j y) := by
  unfold Own at *
  rw [List.length_set]
  obtain ⟨hl, h⟩ := h
  refine ⟨by simp [u8s], ?_⟩
  rcases h with ⟨h, _⟩ | ⟨g', cap', cur, hv, hb, hh, hn, hm, hs, ht⟩
  · simp at h
  · simp only [Value.slice.injEq, Option.some.injEq, Addr.mk.injEq] at hv
    obtain ⟨⟨rfl, _⟩, rfl, rfl⟩ := hv
    refine .inr ⟨g, cap, cur.setIfInBounds j (.int .u8 (y : Nat)), rfl, hb, heap_set hh _, hn, hm, by rw [Array.size_setIfInBounds]; exact hs, ?_⟩
    rw [Array.toList_setIfInBounds, List.take_set, ht]
    simp [u8s, List.map_set]
/-- a cell of another block is written -/
theorem own_far {w : World} {B : Nat} {v : Value} {bs : List Nat} (h : Own w B v bs) (a : Addr) (x : Value) (hne : v.ownBlock ≠ some a.block) : Own (w.setCell a x) B v bs := by
  obtain ⟨hl, h⟩ := h
  refine ⟨hl, ?_⟩
  rcases h with h | ⟨g, cap, cur, rfl, hb, hh, hn⟩
  · exact .inl h
  · refine .inr ⟨g, cap, cur, rfl, hb, heap_far hh (fun e => hne ?_) x, hn⟩
    rw [← e]
    rfl
/-- own rows, pairwise apart -/
def Fam (w : World) (B : Nat) (rows : List (Value × List Nat)) : Prop :=
  (∀ (i : Nat) (r : Value × List Nat), rows[i]? = some r → Own w B r.1 r.2 ∧ ∀ x ∈ r.2, x < 256) ∧
    ∀ (i j : Nat) (r s : Value × List Nat), i ≠ j → rows[i]? = some r → rows[j]? = some s → ∀ g, r.1.ownBlock = some g → s.1.ownBlock ≠ some g
theorem fam_keep {w w' : World} {B : Nat} {rows : List (Value × List Nat)} (h : Fam w B rows) (hb : Below w.heap.size w w') : Fam w' B rows :=
  ⟨fun i r hr => ⟨own_keep (h.1 i r hr).1 hb, (h.1 i r hr).2⟩, h.2⟩
theorem fam_put {w : World} {B g n cap : Nat} {rows : List (Value × List Nat)} {bs : List Nat} (h : Fam w B rows) (i j y : Nat) (hi : rows[i]? = some (.slice (some ⟨g, 0, none⟩) n cap, bs)) (hy : y < 256) :
    Fam (w.setCell ⟨g, j, none⟩ (.int .u8 (y : Nat))) B (rows.set i (.slice (some ⟨g, 0, none⟩) n cap, bs.set j y)) := by
  obtain ⟨h1, h2⟩ := h
  have hil := (List.getElem?_eq_some_iff.1 hi).1
  refine ⟨fun k r hr => ?_, fun k l r s hkl hr hs => ?_⟩
  · by_cases hk : k = i
    · subst hk
      rw [List.getElem?_set_self hil, Option.some.injEq] at hr
      subst hr
      refine ⟨own_put (h1 k _ hi).1 j y, fun x hx => ?_⟩
      rcases List.mem_or_eq_of_mem_set hx with h | h
      · exact (h1 k _ hi).2 x h
      · omega
    · rw [List.getElem?_set_ne (fun e => hk e.symm)] at hr
      exact ⟨own_far (h1 k r hr).1 _ _ (h2 i k _ r (fun e => hk e.symm) hi hr g rfl), (h1 k r hr).2⟩
  · have row : ∀ (m : Nat) (q : Value × List Nat), (rows.set i (.slice (some ⟨g, 0, none⟩) n cap, bs.set j y))[m]? = some q → ∃ bs', rows[m]? = some (q.1, bs') := by
      intro m q hq
      by_cases hm : m = i
      · subst hm
        rw [List.getElem?_set_self hil, Option.some.injEq] at hq
        subst hq
        exact ⟨bs, hi⟩
      · rw [List.getElem?_set_ne (fun e => hm e.symm)] at hq
        exact ⟨q.2, hq⟩
    obtain ⟨b1, hr'⟩ := row k r hr
    obtain ⟨b2, hs'⟩ := row l s hs
    exact h2 k l (r.1, b1) (s.1, b2) hkl hr' hs'
/-- one row grows -/
theorem fam_grow {w w' : World} {B g : Nat} {rows : List (Value × List Nat)} {v v' : Value} {bs bs' : List Nat} (h : Fam w B rows) (i : Nat) (hi : rows[i]? = some (v, bs)) (hown : Own w' B v' bs') (hx : ∀ x ∈ bs', x < 256)
    (hg : w.grownBy w' v.ownBlock) (hv' : v'.ownBlock = some g) (hat : v.ownBlock = some g ∨ g = w.heap.size) : Fam w' B (rows.set i (v', bs')) := by
  obtain ⟨h1, h2⟩ := h
  have hil := (List.getElem?_eq_some_iff.1 hi).1
  have lt : ∀ (k : Nat) (r : Value × List Nat), rows[k]? = some r → ∀ q, r.1.ownBlock = some q → q < w.heap.size := fun k r hr q hq => (World.ownsRow.lt (h1 k r hr).1 q hq).2
  have new : ∀ (k : Nat) (r : Value × List Nat), k ≠ i → rows[k]? = some r → r.1.ownBlock ≠ some g := by
    intro k r hk hr e
    rcases hat with h | h
    · exact h2 k i r _ hk hr hi g e h
    · have := lt k r hr g e
      omega
  refine ⟨fun k r hr => ?_, fun k l r s hkl hr hs q hq => ?_⟩
  · by_cases hk : k = i
    · subst hk
      rw [List.getElem?_set_self hil, Option.some.injEq] at hr
      subst hr
      exact ⟨hown, hx⟩
    · rw [List.getElem?_set_ne (fun e => hk e.symm)] at hr
      refine ⟨World.ownsRow.kept (h1 k r hr).1 hg ?_, (h1 k r hr).2⟩
      cases hb : r.1.ownBlock with
      | none => exact .inl rfl
      | some q => exact .inr (fun e => h2 k i r _ hk hr hi q hb e.symm)
  · by_cases hk : k = i
    · subst hk
      rw [List.getElem?_set_self hil, Option.some.injEq] at hr
      subst hr
      rw [List.getElem?_set_ne hkl] at hs
      have : q = g := Option.some.inj (hq.symm.trans hv')
      subst this
      exact new l s (fun e => hkl e.symm) hs
    · rw [List.getElem?_set_ne (fun e => hk e.symm)] at hr
      by_cases hl : l = i
      · subst hl
        rw [List.getElem?_set_self hil, Option.some.injEq] at hs
        subst hs
        rw [hv']
        intro e
        obtain rfl := Option.some.inj e
        exact new k r hk hr hq
      · rw [List.getElem?_set_ne (fun e => hl e.symm)] at hs
        exact h2 k l r s hkl hr hs q hq
end Go.Proofs.YtgebekklkodpaaaDoor

/-! Og: plain: lists that are marked, then grown, each in a block of its own -/
namespace Go.Proofs.YtgebekklkodpaaaDoor
open Go.RowKit

theorem below_undrew' {w w' : World} {B : Nat} (h : Below B w.drew w') : Below B w w' := ⟨h.os, h.tape, h.output, h.size, h.block⟩
theorem below_new (w : World) (o : Obj) : Below w.heap.size w (w.drew.alloc o) := below_undrew' ((Below.refl w.drew.heap.size w.drew).alloc (Nat.le_refl _) o)
/-- a row of bytes grown by one byte: in its place, or in the block that is made now -/
def Grown (w : World) (B : Nat) (v : Value) (cur : List Nat) (x g cap : Nat) (w' : World) : Prop :=
  Own w' B (.slice (some ⟨g, 0, none⟩) (cur.length + 1) cap) (cur ++ [x]) ∧
    ((v = .slice (some ⟨g, 0, none⟩) cur.length cap ∧ w.grownBy w' (some g)) ∨ (g = w.heap.size ∧ Below w.heap.size w w'))
theorem u8s_snoc (cur : List Nat) (x : Nat) : u8s (cur ++ [x]) = u8s cur ++ [.int .u8 (x : Nat)] := by rw [u8s_app]; rfl
set_option maxRecDepth 100000 in
theorem run_grow (w : World) (B : Nat) (v : Value) (cur : List Nat) (x : Nat) (ty : TypeId) (hown : Own w B v cur) (ad : Addr) (c : Nat) (hnew : w.cell? ad = some (.int .u8 (x : Nat))) (hl : cur.length + 1 ≤ 140737488355328) (hB : B ≤ w.heap.size) :
    ∃ g cap w', (Builtin.append_ #[25, 25] ty #[v, .slice (some ad) 1 c]).run Tryd.prog w = .ok (.slice (some ⟨g, 0, none⟩) (cur.length + 1) cap) w' ∧ Grown w B v cur x g cap w' := by
  obtain ⟨i0, hi, hz0, hz1, hz2⟩ := info_parts info5
  have hnews : ∀ j u, [Value.int .u8 (x : Nat)][j]? = some u → w.cell? (ad.add j) = some u := by
    intro j u hu
    match j, hu with
    | 0, hu =>
      simp at hu
      subst hu
      rw [Addr.add_zero']
      exact hnew
  have hone : ∀ u ∈ [Value.int .u8 (x : Nat)], u.oneCell' = true := by
    intro u hu
    simp at hu
    subst hu
    rfl
  obtain ⟨g, cap, w', hr, h2, h3, h4, h5⟩ := run_append_lies (P := Tryd.prog) w 25 ty B 5 i0 (.int .u8 0) 1 1 Tryd.underlying25 hi hz0 hz1 hz2 rfl (by decide) v cur.length (u8s cur) hown ad 1 c [.int .u8 (x : Nat)] rfl hnews hone (by decide) (by simp only [maxLen]; omega) (by omega) hB _ rfl
  have hO : Own w' B (.slice (some ⟨g, 0, none⟩) (cur.length + 1) cap) (cur ++ [x]) := by
    unfold Own
    rw [List.length_append, u8s_snoc]
    exact h2
  refine ⟨g, cap, w', hr, hO, ?_⟩
  have mk : ∀ (v1 : Value) (w1 : World), (Builtin.append_ #[25, 25] ty #[v, .slice (some ad) 1 c]).run Tryd.prog w = .ok v1 w1 → v1 = .slice (some ⟨g, 0, none⟩) (cur.length + 1) cap ∧ w1 = w' := by
    intro v1 w1 h
    rw [hr] at h
    injection h with h1 h2
    exact ⟨h1.symm, h2.symm⟩
  rcases hown.2 with ⟨rfl, h0⟩ | ⟨g0, cap0, cur0, rfl, hb, hh, hn, hm, hs, ht⟩
  · obtain ⟨e1, e2⟩ := mk _ _ (run_append_nil (P := Tryd.prog) w 25 ty 5 i0 (.int .u8 0) Tryd.underlying25 hi hz0 ad 1 c [.int .u8 (x : Nat)] (by rw [hz1]; rfl) hnews (by decide) (by decide) (by rw [hz2]; decide))
    simp only [Value.slice.injEq, Option.some.injEq, Addr.mk.injEq] at e1
    exact .inr ⟨e1.1.1.symm, e2 ▸ below_new w _⟩
  · by_cases hroom : cur.length + 1 ≤ cap0
    · obtain ⟨e1, e2⟩ := mk _ _ (run_append_room (P := Tryd.prog) w 25 ty 5 i0 Tryd.underlying25 hi g0 cur.length cap0 cur0 hh ad 1 c [.int .u8 (x : Nat)] (by rw [hz1]; rfl) hnews hone hroom (by rw [hz1, hs]; simp; omega))
      simp only [Value.slice.injEq, Option.some.injEq, Addr.mk.injEq] at e1
      obtain ⟨⟨rfl, _⟩, _, rfl⟩ := e1
      exact .inl ⟨rfl, h3⟩
    · have holds : ∀ j u, (u8s cur)[j]? = some u → w.cell? ((⟨g0, 0, none⟩ : Addr).add j) = some u := World.ownsRow.cells hown (g := g0) rfl
      obtain ⟨e1, e2⟩ := mk _ _ (run_append_grow (P := Tryd.prog) w 25 ty 5 i0 (.int .u8 0) Tryd.underlying25 hi hz0 ⟨g0, 0, none⟩ cur.length cap0 (u8s cur) (by rw [hz1]; simp [u8s_len]) holds ad 1 c [.int .u8 (x : Nat)] (by rw [hz1]; rfl) hnews (by omega) (by omega) (growslice_fits (by omega) (by rw [hz2]; omega)))
      simp only [Value.slice.injEq, Option.some.injEq, Addr.mk.injEq] at e1
      exact .inr ⟨e1.1.1.symm, e2 ▸ below_new w _⟩
/-- at a step of a region that draws -/
theorem step_grow {ops : Array Oper} {o : Oper} {a : Act} {K : Act → World → Prop} {Q : Exit → Act → World → Prop} {E : Prop} (w : World) (B : Nat) (v : Value) (cur : List Nat) (x : Nat) (hgd : o.guard = none) (s y : Operand)
    (ho : o.op = .call { callee := .builtin .append, args := #[s, y], argTypes := #[25, 25] }) (hs : a.eval s = v) (ad : Addr) (c : Nat) (hy : a.eval y = .slice (some ad) 1 c)
    (hown : Own w B v cur) (hnew : w.cell? ad = some (.int .u8 (x : Nat))) (hl : cur.length + 1 ≤ 140737488355328) (hB : B ≤ w.heap.size)
    (h : ∀ g cap w', Grown w B v cur x g cap w' → K (a.put o.dst (.slice (some ⟨g, 0, none⟩) (cur.length + 1) cap)) w') :
    if Region.wanted o (yielded ops a.tmps) = true then Oper.wp Tryd.prog o a w K Q else E := by
  have hw : Region.wanted o (yielded ops a.tmps) = true := by simp [Region.wanted, hgd]
  rw [if_pos hw]
  obtain ⟨g, cap, w', hr, hg⟩ := run_grow w B v cur x o.type hown ad c hnew hl hB
  unfold Oper.wp execOp
  simp only [ho, resolve, invoke, builtin, Sem.run_bind, Sem.run_pure, Result.andThen_ok, List.map_toArray, List.map_cons, List.map_nil, hs, hy, hr]
  exact h g cap w' hg

abbrev Rw := Value × List Nat
/-- the blocks of some rows -/
def InRows (rows : List Rw) (g : Nat) : Prop := ∃ (k : Nat) (r : Rw), rows[k]? = some r ∧ r.1.ownBlock = some g
/-- all but the rows' blocks is as it was -/
structure Foot (w w' : World) (S : Nat → Prop) : Prop where
  os : w'.os = w.os
  tape : w'.tape = w.tape
  output : w'.output = w.output
  size : w.heap.size ≤ w'.heap.size
  block : ∀ k, k < w.heap.size → ¬ S k → w'.heap[k]? = w.heap[k]?
theorem Foot.refl (w : World) (S : Nat → Prop) : Foot w w S := ⟨rfl, rfl, rfl, Nat.le_refl _, fun _ _ _ => rfl⟩
theorem Foot.drewN {w w' : World} {S : Nat → Prop} (h : Foot w w' S) (n : Nat) : Foot w (w'.drewN n) S := ⟨h.os, h.tape, h.output, h.size, h.block⟩
theorem Foot.drew {w w' : World} {S : Nat → Prop} (h : Foot w w' S) : Foot w w'.drew S := ⟨h.os, h.tape, h.output, h.size, h.block⟩
theorem Foot.below {w w' : World} {S : Nat → Prop} {B : Nat} (h : Foot w w' S) (hS : ∀ g, S g → B ≤ g) (hB : B ≤ w.heap.size) : Below B w w' :=
  ⟨h.os, h.tape, h.output, h.size, fun k hk => h.block k (by omega) (fun hs => by have := hS k hs; omega)⟩
theorem Foot.setCell {w w' : World} {S : Nat → Prop} (h : Foot w w' S) (a : Addr) (x : Value) (ha : S a.block ∨ w.heap.size ≤ a.block) : Foot w (w'.setCell a x) S :=
  ⟨h.os, h.tape, h.output, by rw [World.size_setCell]; exact h.size, fun k hk hs => by
    rw [Below.heap_setCell w' a x k (fun e => by subst e; rcases ha with h | h; exact hs h; omega)]
    exact h.block k hk hs⟩
theorem Foot.grown {w w' w2 : World} {S : Nat → Prop} (h : Foot w w' S) {r : Option Nat} (hg : w'.grownBy w2 r) (hr : ∀ g, r = some g → S g ∨ w.heap.size ≤ g) : Foot w w2 S :=
  ⟨hg.os.trans h.os, hg.tape.trans h.tape, hg.output.trans h.output, Nat.le_trans h.size hg.size, fun k hk hs => by
    rw [hg.block k (Nat.lt_of_lt_of_le hk h.size) (fun e => by rcases hr k e.symm with h | h; exact hs h; omega)]
    exact h.block k hk hs⟩
theorem Foot.keep {w w' w2 : World} {S : Nat → Prop} (h : Foot w w' S) (hb : Below w'.heap.size w' w2) : Foot w w2 S :=
  h.grown (r := none) ⟨hb.os, hb.tape, hb.output, hb.size, fun k hk _ => hb.block k hk⟩ (fun _ e => by cases e)

/-- a row that began as r is c now: still in its place, or elsewhere and r left alone -/
def Link (w : World) (B : Nat) (r c : Rw) (cur : List Rw) : Prop :=
  (∃ g cap, r.1 = .slice (some ⟨g, 0, none⟩) r.2.length cap ∧ c.1 = .slice (some ⟨g, 0, none⟩) c.2.length cap ∧ r.2.length ≤ c.2.length ∧ c.2.take r.2.length = r.2) ∨
    (Own w B r.1 r.2 ∧ ∀ g, r.1.ownBlock = some g → ∀ (l : Nat) (d : Rw), cur[l]? = some d → d.1.ownBlock ≠ some g)
structure St (w0 w : World) (B : Nat) (rows cur : List Rw) : Prop where
  fam : Fam w B cur
  len : cur.length = rows.length
  link : ∀ (k : Nat) (r c : Rw), rows[k]? = some r → cur[k]? = some c → Link w B r c cur
  at_ : ∀ (l : Nat) (d : Rw) (g : Nat), cur[l]? = some d → d.1.ownBlock = some g → InRows rows g ∨ w0.heap.size ≤ g
  foot : Foot w0 w (InRows rows)
theorem own_trunc {w : World} {B g m cap : Nat} {xs : List Nat} (h : Own w B (.slice (some ⟨g, 0, none⟩) xs.length cap) xs) (hm : m ≤ xs.length) : Own w B (.slice (some ⟨g, 0, none⟩) m cap) (xs.take m) := by
  unfold Own at *
  rw [List.length_take, Nat.min_eq_left hm]
  refine ⟨by simp [u8s]; omega, ?_⟩
  rcases h.2 with ⟨h, _⟩ | ⟨g', cap', cur, hv, hb, hh, hn, hmx, hs, ht⟩
  · simp at h
  · simp only [Value.slice.injEq, Option.some.injEq, Addr.mk.injEq] at hv
    obtain ⟨⟨rfl, _⟩, _, rfl⟩ := hv
    refine .inr ⟨g, cap, cur, rfl, hb, hh, by omega, hmx, hs, ?_⟩
    have e : u8s (xs.take m) = (u8s xs).take m := by simp [u8s, List.map_take]
    rw [e, ← ht, List.take_take]
    congr 1
    omega
theorem st_start {w0 w : World} {B : Nat} {rows : List Rw} (h : Fam w B rows) (hf : Foot w0 w (InRows rows)) : St w0 w B rows rows := by
  refine ⟨h, rfl, fun k r c hr hc => ?_, fun l d g hd hg => .inl ⟨l, d, hd, hg⟩, hf⟩
  obtain rfl : r = c := Option.some.inj (hr.symm.trans hc)
  obtain ⟨ho, _⟩ := h.1 k r hr
  have ho' := ho
  rcases ho.2 with ⟨h1, h0⟩ | ⟨g, cap, cur, h1, _⟩
  · refine .inr ⟨ho', fun g hg => ?_⟩
    rw [h1] at hg
    cases hg
  · exact .inl ⟨g, cap, h1, h1, Nat.le_refl _, List.take_length⟩
theorem link_keep {w w' : World} {B : Nat} {r c : Rw} {cur : List Rw} (h : Link w B r c cur) (hk : ∀ v bs, Own w B v bs → (∀ g, v.ownBlock = some g → ∀ (l : Nat) (d : Rw), cur[l]? = some d → d.1.ownBlock ≠ some g) → Own w' B v bs) : Link w' B r c cur := by
  rcases h with h | ⟨h1, h2⟩
  · exact .inl h
  · exact .inr ⟨hk _ _ h1 h2, h2⟩
theorem st_drewN {w0 w : World} {B : Nat} {rows cur : List Rw} (h : St w0 w B rows cur) (n : Nat) : St w0 (w.drewN n) B rows cur :=
  ⟨h.fam, h.len, h.link, h.at_, h.foot.drewN n⟩
theorem st_drew {w0 w : World} {B : Nat} {rows cur : List Rw} (h : St w0 w B rows cur) : St w0 w.drew B rows cur :=
  ⟨h.fam, h.len, h.link, h.at_, h.foot.drew⟩
theorem st_keep {w0 w w' : World} {B : Nat} {rows cur : List Rw} (h : St w0 w B rows cur) (hb : Below w.heap.size w w') : St w0 w' B rows cur :=
  ⟨fam_keep h.fam hb, h.len, fun k r c hr hc => link_keep (h.link k r c hr hc) (fun _ _ ho _ => own_keep ho hb), h.at_, h.foot.keep hb⟩
/-- a cell of a block of another type, made since, is written -/
theorem own_type {w : World} {B G : Nat} {v : Value} {bs : List Nat} {cs : Array Value} {t : TypeId} {fr : Nat × Nat} (h : Own w B v bs) (hG : w.heap[G]? = some (.cells cs t fr)) (ht : t ≠ 5) : v.ownBlock ≠ some G := by
  intro e
  rcases h.2 with ⟨rfl, _⟩ | ⟨g, cap, cur, rfl, _, hh, _⟩
  · cases e
  · simp only [Value.ownBlock, Option.some.injEq] at e
    subst e
    rw [hh] at hG
    simp only [Option.some.injEq, Obj.cells.injEq] at hG
    exact ht hG.2.1.symm
theorem fam_far {w : World} {B : Nat} {rows : List Rw} (h : Fam w B rows) (a : Addr) (x : Value) (hne : ∀ (k : Nat) (r : Rw), rows[k]? = some r → r.1.ownBlock ≠ some a.block) : Fam (w.setCell a x) B rows :=
  ⟨fun i r hr => ⟨own_far (h.1 i r hr).1 a x (hne i r hr), (h.1 i r hr).2⟩, h.2⟩
theorem st_other {w0 w : World} {B G : Nat} {rows cur : List Rw} {cs : Array Value} {t : TypeId} {fr : Nat × Nat} (h : St w0 w B rows cur) (hG : w.heap[G]? = some (.cells cs t fr)) (ht : t ≠ 5) (hg : w0.heap.size ≤ G) (j : Nat) (x : Value) :
    St w0 (w.setCell ⟨G, j, none⟩ x) B rows cur :=
  ⟨fam_far h.fam _ _ (fun k r hr => own_type (h.fam.1 k r hr).1 hG ht), h.len, fun k r c hr hc => link_keep (h.link k r c hr hc) (fun _ _ ho _ => own_far ho _ _ (own_type ho hG ht)), h.at_, h.foot.setCell _ _ (.inr hg)⟩
/-- one row grows -/
theorem st_grow {w0 w w' : World} {B g cap : Nat} {rows cur : List Rw} {v : Value} {bs : List Nat} {x : Nat} (h : St w0 w B rows cur) (i : Nat) (hi : cur[i]? = some (v, bs)) (hx : x < 256) (hg : Grown w B v bs x g cap w') :
    St w0 w' B rows (cur.set i (.slice (some ⟨g, 0, none⟩) (bs.length + 1) cap, bs ++ [x])) := by
  obtain ⟨hO, hcase⟩ := hg
  have hil := (List.getElem?_eq_some_iff.1 hi).1
  have hown := (h.fam.1 i _ hi).1
  have hlt : ∀ (v : Value) (bs : List Nat), Own w B v bs → ∀ q, v.ownBlock = some q → q < w.heap.size := fun v bs ho q hq => (World.ownsRow.lt ho q hq).2
  have hgr : w.grownBy w' v.ownBlock := by
    rcases hcase with ⟨rfl, h1⟩ | ⟨_, h1⟩
    · exact h1
    · exact ⟨h1.os, h1.tape, h1.output, h1.size, fun k hk _ => h1.block k hk⟩
  have hat : v.ownBlock = some g ∨ g = w.heap.size := by
    rcases hcase with ⟨rfl, _⟩ | ⟨h1, _⟩
    · exact .inl rfl
    · exact .inr h1
  have h256 : ∀ y ∈ bs ++ [x], y < 256 := by
    intro y hy
    rcases List.mem_append.1 hy with hy | hy
    · exact (h.fam.1 i _ hi).2 y hy
    · simp at hy; omega
  have hvb : v.ownBlock = some g → InRows rows g ∨ w0.heap.size ≤ g := fun e => h.at_ i _ g hi e
  -- the blocks of the new family
  have row : ∀ (l : Nat) (d : Rw), (cur.set i (.slice (some ⟨g, 0, none⟩) (bs.length + 1) cap, bs ++ [x]))[l]? = some d → (l = i ∧ d = (.slice (some ⟨g, 0, none⟩) (bs.length + 1) cap, bs ++ [x])) ∨ (l ≠ i ∧ cur[l]? = some d) := by
    intro l d hd
    by_cases hl : l = i
    · subst hl
      rw [List.getElem?_set_self hil, Option.some.injEq] at hd
      exact .inl ⟨rfl, hd.symm⟩
    · rw [List.getElem?_set_ne (fun e => hl e.symm)] at hd
      exact .inr ⟨hl, hd⟩
  -- a row that is nobody's now stays so
  have away : ∀ (u : Value) (us : List Nat), Own w B u us → (∀ q, u.ownBlock = some q → ∀ (l : Nat) (d : Rw), cur[l]? = some d → d.1.ownBlock ≠ some q) →
      Own w' B u us ∧ ∀ q, u.ownBlock = some q → ∀ (l : Nat) (d : Rw), (cur.set i (.slice (some ⟨g, 0, none⟩) (bs.length + 1) cap, bs ++ [x]))[l]? = some d → d.1.ownBlock ≠ some q := by
    intro u us hu hq
    refine ⟨World.ownsRow.kept hu hgr ?_, fun q hqq l d hd => ?_⟩
    · cases hb : u.ownBlock with
      | none => exact .inl rfl
      | some q => exact .inr (fun e => hq q hb i _ hi e.symm)
    · rcases row l d hd with ⟨rfl, rfl⟩ | ⟨_, hd⟩
      · intro e
        simp only [Value.ownBlock, Option.some.injEq] at e
        subst e
        rcases hat with h1 | h1
        · exact hq g hqq l _ hi h1
        · have := hlt u us hu g hqq
          omega
      · exact hq q hqq l d hd
  refine ⟨fam_grow h.fam i hi hO h256 hgr rfl hat, by rw [List.length_set]; exact h.len, fun k r c hr hc => ?_, fun l d q hd hq => ?_, h.foot.grown hgr (fun q hq => h.at_ i _ q hi hq)⟩
  · rcases row k c hc with ⟨rfl, rfl⟩ | ⟨hki, hc⟩
    · rcases h.link k r _ hr hi with ⟨g1, cap1, h1, h2, h3, h4⟩ | ⟨h1, h2⟩
      · simp only at h2 h3 h4
        rcases hcase with ⟨e, _⟩ | ⟨e, hb⟩
        · rw [e] at h2
          simp only [Value.slice.injEq, Option.some.injEq, Addr.mk.injEq] at h2
          obtain ⟨⟨rfl, _⟩, _, rfl⟩ := h2
          refine .inl ⟨g, cap, h1, by simp, by simp; omega, ?_⟩
          rw [List.take_append_of_le_length h3]
          exact h4
        · refine .inr ⟨?_, fun q hq l d hd => ?_⟩
          · rw [h2] at hown
            have ht := own_trunc hown h3
            simp only [h4] at ht
            rw [h1]
            exact own_keep ht hb
          · have hq1 : g1 = q := by rw [h1] at hq; simpa [Value.ownBlock] using hq
            subst hq1
            have hvg : v.ownBlock = some g1 := by rw [h2]; rfl
            rcases row l d hd with ⟨rfl, rfl⟩ | ⟨hl, hd⟩
            · intro e'
              simp only [Value.ownBlock, Option.some.injEq] at e'
              have := hlt v bs hown g1 hvg
              omega
            · exact h.fam.2 k l _ d (fun e => hl e.symm) hi hd g1 hvg
      · exact .inr (away _ _ h1 h2)
    · rcases h.link k r c hr hc with h1 | ⟨h1, h2⟩
      · exact .inl h1
      · exact .inr (away _ _ h1 h2)
  · rcases row l d hd with ⟨rfl, rfl⟩ | ⟨_, hd⟩
    · simp only [Value.ownBlock, Option.some.injEq] at hq
      subst hq
      rcases hat with h1 | h1
      · exact hvb h1
      · exact .inr (by have := h.foot.size; omega)
    · exact h.at_ l d q hd hq
/-- the rows as they began -/
theorem st_orig {w0 w : World} {B : Nat} {rows cur : List Rw} (h : St w0 w B rows cur) (k : Nat) (r : Rw) (hr : rows[k]? = some r) : Own w B r.1 r.2 := by
  have hkl : k < cur.length := by rw [h.len]; exact (List.getElem?_eq_some_iff.1 hr).1
  have hc := List.getElem?_eq_getElem hkl
  rcases h.link k r _ hr hc with ⟨g, cap, h1, h2, h3, h4⟩ | ⟨h1, _⟩
  · have hown := (h.fam.1 k _ hc).1
    rw [h2] at hown
    have ht := own_trunc hown h3
    rw [h4] at ht
    rw [h1]
    exact ht
  · exact h1
end Go.Proofs.YtgebekklkodpaaaDoor
