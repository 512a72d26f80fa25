/- the reference's Decode -/
import Derived.Test.YtgebekklkodpaaaDoorDc
import Derived.Test.YtgebekklkodpaaaDoorStr
import Derived.Test.YtgebekklkodpaaaDoorRefEnc
import Derived.Deep.RegionWith
namespace Go.Proofs.YtgebekklkodpaaaDoor
open Go.RowKit

theorem Tryd.results36 : Tryd.f36.results = #[.cell 2 47, .tmp 3, .tmp 4] := rfl
/-- the reference's number of an error -/
def errNum (g : Nat) : Nat := if g = 0 then 6 else if g = 6 then 7 else g
/-- a body: bytes, in a block of bytes -/
def Bod (w : World) (v : Value) (bs : List Nat) : Prop := Src w v bs ∧ ∀ g, v.ownBlock = some g → ∃ cs fr, w.heap[g]? = some (.cells cs 5 fr)
theorem bod_own {w : World} {B : Nat} {v : Value} {bs : List Nat} (h : Own w B v bs) (hx : ∀ x ∈ bs, x < 256) : Bod w v bs := by
  refine ⟨own_src h hx, fun g hg => ?_⟩
  rcases h.2 with ⟨rfl, _⟩ | ⟨g', cap, cur, rfl, _, hh, _⟩
  · simp [Value.ownBlock] at hg
  · simp only [Value.ownBlock, Option.some.injEq] at hg
    subst hg
    exact ⟨cur, (0, 0), hh⟩
def RefDecOut (B : Nat) (bs : List Nat) (e : Ending) (w' : World) : Prop :=
  match dec bs with
  | .inl g => e = .returned (.tuple #[.agg #[.int .u8 0, .slice none 0 0], .int .i64 0, .int .i64 (errNum g : Nat)])
  | .inr (i, j) => ∃ v, e = .returned (.tuple #[.agg #[.int .u8 (bs.getD 0 0 : Nat), v], .int .i64 ((j + 4 : Nat) : Int), .int .i64 0]) ∧ Bod w' v ((bs.take j).drop i) ∧ ∀ g, v.ownBlock = some g → B ≤ g

theorem add_blk (a : Addr) (n : Nat) : (a.add n).block = a.block := by unfold Addr.add; split <;> rfl
theorem src_far {w : World} {v : Value} {bs : List Nat} (h : Src w v bs) (a : Addr) (x : Value) (hne : ∀ g, v.ownBlock = some g → a.block ≠ g) : Src (w.setCell a x) v bs := by
  rcases h with ⟨h1, h2 | ⟨ad, cap, rfl, h3, h4, hc⟩⟩
  · exact ⟨h1, .inl h2⟩
  · exact ⟨h1, .inr ⟨ad, cap, rfl, h3, h4, fun k y hk => (World.cell?_setCell_far _ _ _ _ (by rw [add_blk]; exact hne _ rfl)).trans (hc k y hk)⟩⟩
theorem bod_far {w : World} {v : Value} {bs : List Nat} (h : Bod w v bs) (a : Addr) (x : Value) (hne : ∀ g, v.ownBlock = some g → a.block ≠ g) : Bod (w.setCell a x) v bs :=
  ⟨src_far h.1 a x hne, fun g hg => by
    obtain ⟨cs, fr, hh⟩ := h.2 g hg
    exact ⟨cs, fr, heap_far hh (fun e => hne g hg e.symm) x⟩⟩
theorem str_eq (X : ByteArray) : (!(@BEq.beq (List UInt8) (@List.instBEq UInt8 (@instBEqOfDecidableEq UInt8 instDecidableEqUInt8)) X.toList X.toList)) = false := by rw [beq_self_eq_true]; rfl
theorem str_ne {X Y : ByteArray} (h : X ≠ Y) : (!(@BEq.beq (List UInt8) (@List.instBEq UInt8 (@instBEqOfDecidableEq UInt8 instDecidableEqUInt8)) X.toList Y.toList)) = true := by
  rw [Bool.not_eq_true']
  apply beq_false_of_ne
  intro e
  rw [ByteArray.toList_eq, ByteArray.toList_eq] at e
  exact h (ByteArray.ext (Array.toList_inj.1 e))

set_option maxRecDepth 100000 in
theorem ref_decode_nil (w : World) (ao : Option Addr) (cap : Nat) :
    Calls Tryd.prog 36 #[.slice ao 0 cap] w fun e w' => RefDecOut w.heap.size [] e w' ∧ Below w.heap.size w w' := by
  have HB := hide ((Below.refl w.heap.size w).alloc (Nat.le_refl _) (.cells #[.int .u8 0, .slice none 0 0] 47))
  have HR := hide (heap_new (w := w) rfl (.cells #[.int .u8 0, .slice none 0 0] 47))
  obtain ⟨c0, c1⟩ := cells2 HR.out
  have f0 := free_at HR.out 0
  have f1 := free_at HR.out 1
  go_enter Tryd.func36, Tryd.ntmps36
  go_wp2_with fail
  refine bodyPost_ret (results_cell_row2 Tryd.results36 _ _ w.heap.size 47 #[.int .u8 0, .slice none 0 0] (0, 0) _ rfl HR.out rfl rfl (by kernel_rfl)) rfl ?_
  exact ⟨rfl, HB.out⟩

set_option maxRecDepth 100000 in
theorem ref_decode_zero (w : World) (ad : Addr) (cap : Nat) (r : List Nat) (hl : r.length < 140737488355328) (hc : w.cell? ad = some (.int .u8 0)) :
    Calls Tryd.prog 36 #[.slice (some ad) (r.length + 1) cap] w fun e w' => RefDecOut w.heap.size (0 :: r) e w' ∧ Below w.heap.size w w' := by
  have HB := hide ((Below.refl w.heap.size w).alloc (Nat.le_refl _) (.cells #[.int .u8 0, .slice none 0 0] 47))
  have HR := hide (heap_new (w := w) rfl (.cells #[.int .u8 0, .slice none 0 0] 47))
  obtain ⟨c0, c1⟩ := cells2 HR.out
  have f0 := free_at HR.out 0
  have f1 := free_at HR.out 1
  have hcA : (w.alloc (.cells #[.int .u8 0, .slice none 0 0] 47)).cell? ad = some (.int .u8 0) := (HB.out.cell (p := ad) (World.block_lt_of_cell? w _ hc)).trans hc
  have hn : ((r.length : Int) + 1 == 0) = false := by simp; omega
  have hn2 : ((r.length : Int) + 1 = 0) = False := by simp; omega
  go_enter Tryd.func36, Tryd.ntmps36
  go_wp2_with fail
  refine bodyPost_ret (results_cell_row2 Tryd.results36 _ _ w.heap.size 47 #[.int .u8 0, .slice none 0 0] (0, 0) _ rfl HR.out rfl rfl (by kernel_rfl)) rfl ?_
  exact ⟨rfl, HB.out⟩

set_option maxRecDepth 100000 in
theorem ref_decode_one (w : World) (ad : Addr) (t : Nat) (ht : t ≠ 0) (hc : w.cell? ad = some (.int .u8 t)) :
    Calls Tryd.prog 36 #[.slice (some ad) 1 1] w fun e w' => RefDecOut w.heap.size [t] e w' ∧ Below w.heap.size w w' := by
  have HB := hide ((Below.refl w.heap.size w).alloc (Nat.le_refl _) (.cells #[.int .u8 0, .slice none 0 0] 47))
  have HR := hide (heap_new (w := w) rfl (.cells #[.int .u8 0, .slice none 0 0] 47))
  obtain ⟨c0, c1⟩ := cells2 HR.out
  have f0 := free_at HR.out 0
  have f1 := free_at HR.out 1
  have hcA : (w.alloc (.cells #[.int .u8 0, .slice none 0 0] 47)).cell? ad = some (.int .u8 t) := (HB.out.cell (p := ad) (World.block_lt_of_cell? w _ hc)).trans hc
  have ht0 : ((t : Int) == 0) = false := by simp; omega
  have HN := hide (ref_number (w.alloc (.cells #[.int .u8 0, .slice none 0 0] 47)) (.slice (some ad) 0 0) [] ⟨fun _ h => by simp at h, .inr ⟨ad, 0, rfl, by simp, by omega, fun k x h => by simp at h⟩⟩ (by simp))
  go_enter Tryd.func36, Tryd.ntmps36
  go_wp2_with fail
  refine HN.out.mono ?_
  rintro e w1 ⟨hout, rfl⟩
  rcases hout with ⟨hz, _⟩ | ⟨_, rfl⟩ | ⟨hz, _⟩
  · simp [Nm.num] at hz
  · have hd : dec [t] = .inl 1 := dec_err ht rfl (by omega)
    have HD := hide hd
    clear hd HN
    go_wp2_with fail
    refine bodyPost_ret (results_cell_row2 Tryd.results36 _ _ w.heap.size 47 #[.int .u8 0, .slice none 0 0] (0, 0) _ rfl HR.out rfl rfl (by kernel_rfl)) rfl ?_
    exact ⟨by rw [RefDecOut, HD.out]; rfl, HB.out⟩
  · simp [Nm.num] at hz

theorem word_cmp {b : List Nat} (hb : ∀ x ∈ b, x < 256) {m : Nat} (h : m + 4 ≤ b.length) {S : Nat} (hS : S < 4294967296) :
    wordAt b m = S ↔ bstr (Uv.word S) = bstr ((b.take (m + 4)).drop m) := by
  have hf : (b.take (m + 4)).drop m = [b.getD m 0, b.getD (m + 1) 0, b.getD (m + 2) 0, b.getD (m + 3) 0] := by
    rw [List.drop_take, Nat.add_sub_cancel_left, four_drop h]
  have hg : ∀ k, k < 4 → b.getD (m + k) 0 < 256 := fun k hk => by
    rw [List.getD_eq_getElem?_getD, List.getElem?_eq_getElem (by omega)]
    exact hb _ (List.getElem_mem _)
  have g0 := hg 0 (by omega)
  have g1 := hg 1 (by omega)
  have g2 := hg 2 (by omega)
  have g3 := hg 3 (by omega)
  rw [Nat.add_zero] at g0
  constructor
  · intro e
    rw [← e, wordAt, word_wordOf g0 g1 g2 g3, hf]
  · intro e
    have e2 := bstr_inj (word_lt S) (fun x hx => hb x (List.mem_of_mem_take (List.mem_of_mem_drop hx))) e
    rw [hf] at e2
    simp only [Uv.word, List.cons.injEq, and_true] at e2
    rw [wordAt, ← e2.1, ← e2.2.1, ← e2.2.2.1, ← e2.2.2.2]
    exact word_bytes S hS

set_option maxRecDepth 100000 in
set_option maxHeartbeats 4000000 in
theorem ref_decode_some (w : World) (ad : Addr) (cap t : Nat) (r : List Nat) (hs : Src w (.slice (some ad) (r.length + 1) cap) (t :: r)) (ht : t ≠ 0) (hl : r.length < 140737488355328) (hc1 : cap ≠ 1) :
    Calls Tryd.prog 36 #[.slice (some ad) (r.length + 1) cap] w fun e w' => RefDecOut w.heap.size (t :: r) e w' ∧ Below w.heap.size w w' := by
  have hn : ((r.length : Int) + 1 == 0) = false := by simp; omega
  have hn2 : ((r.length : Int) + 1 = 0) = False := by simp; omega
  obtain ⟨ad', e1, hc⟩ := src_cell hs (show (t :: r)[0]? = some t from rfl)
  obtain rfl := Option.some.inj e1
  rw [Addr.add_zero'] at hc
  have ht0 : ((t : Int) == 0) = false := by simp; omega
  have hcap : r.length + 1 ≤ cap ∧ cap ≤ 9223372036854775807 := by
    rcases hs.2 with ⟨h, _⟩ | ⟨ad', c', h, ha, hb, _⟩
    · simp at h
    · simp only [Value.slice.injEq] at h
      obtain ⟨_, _, rfl⟩ := h
      exact ⟨by simpa using ha, hb⟩
  have HB := hide ((Below.refl w.heap.size w).alloc (Nat.le_refl _) (.cells #[.int .u8 0, .slice none 0 0] 47))
  have HR := hide (heap_new (w := w) rfl (.cells #[.int .u8 0, .slice none 0 0] 47))
  obtain ⟨c0, c1⟩ := cells2 HR.out
  have f0 := free_at HR.out 0
  have f1 := free_at HR.out 1
  have hadlt := World.block_lt_of_cell? w _ hc
  have hcA : (w.alloc (.cells #[.int .u8 0, .slice none 0 0] 47)).cell? ad = some (.int .u8 t) := (HB.out.cell (p := ad) hadlt).trans hc
  have hsp : Src (w.alloc (.cells #[.int .u8 0, .slice none 0 0] 47)) (.slice (some (ad.add 1)) (r.length + 1 - 1) (cap - 1)) (((t :: r).take (r.length + 1)).drop 1) := src_part (src_keep hs HB.out) 1 (r.length + 1) (cap - 1) (by omega) (by simp) (by omega) (by omega)
  rw [show ((t :: r).take (r.length + 1)).drop 1 = r by rw [List.take_succ_cons, List.drop_succ_cons, List.drop_zero, List.take_of_length_le (Nat.le_refl _)]] at hsp
  have HN := hide (ref_number _ _ r hsp (by omega))
  have HS := hide hs
  clear hs e1 hsp
  go_enter Tryd.func36, Tryd.ntmps36
  go_wp2_with fail
  refine HN.out.mono ?_
  rintro e w1 ⟨hout, rfl⟩
  generalize w.alloc (.cells #[.int .u8 0, .slice none 0 0] 47) = w1 at *
  rcases hout with ⟨hz, rfl⟩ | ⟨hz, rfl⟩ | ⟨hz, rfl⟩
  · obtain ⟨n, hn0⟩ : ∃ n, Nm.num 10 0 r = (n, 0) := ⟨(Nm.num 10 0 r).1, Prod.ext rfl hz⟩
    have hok := Nm.num_ok (by omega) hn0
    have hv := Nm.val_ok hn0
    rw [hn0]
    obtain ⟨v, hvv⟩ : ∃ v, Nm.val (r.take n) = v := ⟨_, rfl⟩
    have HD := hide (dec_num ht hn0 hvv)
    simp only [hvv] at hv ⊢
    have hnl : n ≤ r.length := hok.2.2.1
    clear hn0 hvv hz hok HN
    go_wp2_with fail
    · refine bodyPost_ret (results_cell_row2 Tryd.results36 _ _ w.heap.size 47 #[.int .u8 0, .slice none 0 0] (0, 0) _ rfl (heap_set (heap_set HR.out _) _) rfl rfl (by kernel_rfl)) rfl ?_
      exact ⟨by rw [RefDecOut, HD.out, if_pos (by simp; omega)]; rfl, below_set (below_set HB.out (Nat.le_refl _) _) (Nat.le_refl _) _⟩
    · have e : 1 + (n : Int) + (v : Int) = ((1 + n + v : Nat) : Int) := by omega
      rw [e]
      clear e
      have hm4 : 1 + n + v + 4 ≤ r.length + 1 := by omega
      have hi : 1 + n ≤ 1 + n + v := by omega
      have HD := hide (HD.out.trans (if_neg (by simp; omega)))
      generalize 1 + n + v = m at *
      have hsub := sum_lt (bs := (t :: r).take m) fun x hx => HS.out.1 x (List.mem_of_mem_take hx)
      have hS1 := src_keep HS.out HB.out
      have hsB : Src w1 (.slice (some (ad.add 0)) (m - 0) cap) (((t :: r).take m).drop 0) := src_part hS1 0 m cap (by omega) (by simp; omega) (by omega) (by omega)
      rw [Addr.add_zero', List.drop_zero, Nat.sub_zero] at hsB
      have hsQ : Src w (.slice (some (ad.add m)) (m + 4 - m) (cap - m)) (((t :: r).take (m + 4)).drop m) := src_part HS.out m (m + 4) (cap - m) (by omega) (by simp; omega) (by omega) (by omega)
      rw [Nat.add_sub_cancel_left] at hsQ
      have HQ := hide fun w' (h : Below w.heap.size w w') => src_string (src_keep hsQ h)
      have HU := hide (ref_sum w1.drew _ _ (src_drew hsB 1) (by simp; omega))
      have hCM := word_cmp HS.out.1 (show m + 4 ≤ (t :: r).length by simp; omega) hsub
      clear hS1 hsB hsQ
      have i1 : (m : Int) ≤ (cap : Int) := by omega
      have i2 : (m : Int) + 4 ≤ (cap : Int) := by omega
      have i3 : cap ≠ m := by omega
      have i4 : m ≤ cap := by omega
      have i5 : (0 : Int) ≤ (m : Int) + 4 := by omega
      have i6 : (m : Int) ≤ (m : Int) + 4 := by omega
      have i7 : ((m : Int) + 4).toNat = m + 4 := by omega
      have i8 : m + 4 ≤ cap := by omega
      have i9 : m ≤ m + 4 := by omega
      have i10 : (cap : Int) < (m : Int) + 4 ↔ False := by simp; omega
      have i11 : IntKind.i64.wrap ((m : Int) + 4) = (m : Int) + 4 := by rw [IntKind.wrap_i64]; omega
      generalize sum ((t :: r).take m) = U at HU HD hsub hCM
      have hwlen : (Uv.word U).length = 4 := rfl
      have hbk : Src (w1.alloc (.cells (u8s (Uv.word U)).toArray 5)).drew (.slice (some ⟨w1.heap.size, 0, none⟩) 4 4) (Uv.word U) := src_block (heap_new rfl _) (word_lt U) (by rw [hwlen]; omega)
      have hX1 := src_string hbk
      obtain ⟨X1, hX1e⟩ : ∃ X1, bstr (Uv.word U) = X1 := ⟨_, rfl⟩
      rw [hX1e] at hX1 hCM
      clear hwlen hbk
      generalize bstr (((t :: r).take (m + 4)).drop m) = X2 at HQ hCM
      have hq1 := HQ.out _ HB.out.drew
      have hq2 := HQ.out _ (HB.out.alloc HB.out.size (.cells (u8s (Uv.word U)).toArray 5)).drew
      go_region_with
        (first
          | (go_at_call 29
             refine HU.out.mono ?_
             rintro e w2 ⟨rfl, rfl⟩)
          | (go_at_call 64
             refine (ref_word _ U hsub).mono ?_
             rintro e w2 ⟨rfl, rfl⟩))
      all_goals
        have HX := hide (HB.out.alloc HB.out.size (.cells (u8s (Uv.word U)).toArray 5)).drew
        have HR2 := hide (show (w1.alloc (.cells (u8s (Uv.word U)).toArray 5)).drew.heap[w.heap.size]? = _ from heap_old HR.out _)
        clear hX1 hcA HQ HU hq1 hq2
        generalize (w1.alloc (.cells (u8s (Uv.word U)).toArray 5)).drew = w2 at HX HR2 ⊢
        obtain ⟨d0, d1⟩ := cells2 HR2.out
        have e0 := free_at HR2.out 0
        have e1 := free_at HR2.out 1
        clear c0 c1 f0 f1
        have hbe : ∃ bb, (!(@BEq.beq (List UInt8) (@List.instBEq UInt8 (@instBEqOfDecidableEq UInt8 instDecidableEqUInt8)) X1.toList X2.toList)) = bb ∧ (wordAt (t :: r) m = U → bb = false) ∧ (wordAt (t :: r) m ≠ U → bb = true) :=
          ⟨_, rfl, fun h => by rw [hCM.1 h]; exact str_eq _, fun h => str_ne fun h2 => h (hCM.2 h2)⟩
        obtain ⟨bb, hbb, hb1, hb2⟩ := hbe
        rw [hbb]
        clear hbb hCM
        by_cases hWU : wordAt (t :: r) m = U
        · obtain rfl := hb1 hWU
          have HD2 := hide (HD.out.trans (if_neg (by simp [hWU])))
          have hw2 := HX.out.size
          have hz2 := heap_lt HR2.out
          have HK := hide fun w' (h : Below w2.heap.size w2 w') => (((HX.out.trans (h.mono hw2)).cell (p := ad) hadlt).trans hc)
          have HRK := hide fun w' (h : Below w2.heap.size w2 w') => (h.block _ hz2).trans HR2.out
          have HSP := hide (src_part HS.out (1 + n) m (cap - (1 + n)) hi (by simp; omega) (by omega) (by omega))
          have hbl : (((t :: r).take m).drop (1 + n)).length = m - (1 + n) := by rw [List.length_drop, List.length_take]; simp; omega
          obtain ⟨body, hbody⟩ : ∃ body, ((t :: r).take m).drop (1 + n) = body := ⟨_, rfl⟩
          rw [hbody] at HSP hbl
          have hO := own_lit w2 w2.heap.size [] (Nat.le_refl _) (by simp) #[] rfl
          have hBA := (Below.refl w2.heap.size w2).alloc (Nat.le_refl _) (.cells #[] 5)
          clear hX1e
          go_wp2_with (refine append_src w2 (w2.alloc (.cells #[] 5)) w2.heap.size _ _ [] body rfl (.tmp 65) (.tmp 70) rfl rfl rfl hO (src_keep HSP.out (HX.out.trans (hBA.mono hw2))) (by simp; omega) hBA.size hBA ?_)
          intro v3 w3 ho3 hb3
          have hc3 := HK.out w3 hb3
          have hr3 := HRK.out w3 hb3
          obtain ⟨g0, g1⟩ := cells2 hr3
          have k0 := free_at hr3 0
          have k1 := free_at hr3 1
          have hsrc3 := bod_own ho3 HSP.out.1
          have hlt3 := World.ownsRow.lt ho3
          obtain ⟨a3, c3, rfl⟩ := src_form hsrc3.1
          have HS3 := hide hsrc3
          have HL3 := hide hlt3
          have HR3 := hide hr3
          have HB3 := hide (HX.out.trans (hb3.mono hw2))
          clear ho3 hb3 hsrc3 hlt3 hr3 hO hBA hbl
          go_wp2_with fail
          refine bodyPost_ret (results_cell_row2 Tryd.results36 _ _ w.heap.size 47 #[.int .u8 t, .slice a3 body.length c3] (0, 0) _ rfl (heap_set (heap_set HR3.out _) _) rfl rfl (by kernel_rfl)) rfl ?_
          refine ⟨?_, below_set (below_set HB3.out (Nat.le_refl _) _) (Nat.le_refl _) _⟩
          rw [RefDecOut, HD2.out]
          refine ⟨.slice a3 body.length c3, rfl, ?_, fun g hg => by have := (HL3.out g hg).1; omega⟩
          rw [hbody]
          exact bod_far (bod_far HS3.out _ _ (fun g hg => by have := (HL3.out g hg).1; simp; omega)) _ _ (fun g hg => by have := (HL3.out g hg).1; simp; omega)
        · obtain rfl := hb2 hWU
          have HD2 := hide (HD.out.trans (if_pos hWU))
          clear hX1e
          go_wp2_with fail
          refine bodyPost_ret (results_cell_row2 Tryd.results36 _ _ w.heap.size 47 #[.int .u8 0, .slice none 0 0] (0, 0) _ rfl (heap_set (heap_set HR2.out _) _) rfl rfl (by kernel_rfl)) rfl ?_
          exact ⟨by rw [RefDecOut, HD2.out]; rfl, below_set (below_set HX.out (Nat.le_refl _) _) (Nat.le_refl _) _⟩
    · refine bodyPost_ret (results_cell_row2 Tryd.results36 _ _ w.heap.size 47 #[.int .u8 0, .slice none 0 0] (0, 0) _ rfl (heap_set (heap_set HR.out _) _) rfl rfl (by kernel_rfl)) rfl ?_
      exact ⟨by rw [RefDecOut, HD.out, if_pos (by simp; omega)]; rfl, below_set (below_set HB.out (Nat.le_refl _) _) (Nat.le_refl _) _⟩
  · have hd : dec (t :: r) = .inl 1 := dec_err ht hz (by omega)
    have HD := hide hd
    clear hd HN
    go_wp2_with fail
    refine bodyPost_ret (results_cell_row2 Tryd.results36 _ _ w.heap.size 47 #[.int .u8 0, .slice none 0 0] (0, 0) _ rfl (heap_set (heap_set HR.out _) _) rfl rfl (by kernel_rfl)) rfl ?_
    exact ⟨by rw [RefDecOut, HD.out]; rfl, below_set (below_set HB.out (Nat.le_refl _) _) (Nat.le_refl _) _⟩
  · have hd : dec (t :: r) = .inl 2 := dec_err ht hz (by omega)
    have HD := hide hd
    clear hd HN
    go_wp2_with fail
    refine bodyPost_ret (results_cell_row2 Tryd.results36 _ _ w.heap.size 47 #[.int .u8 0, .slice none 0 0] (0, 0) _ rfl (heap_set (heap_set HR.out _) _) rfl rfl (by kernel_rfl)) rfl ?_
    exact ⟨by rw [RefDecOut, HD.out]; rfl, below_set (below_set HB.out (Nat.le_refl _) _) (Nat.le_refl _) _⟩
end Go.Proofs.YtgebekklkodpaaaDoor
