/- least, fixed -/
import Derived.Test.YtbimpoabiafdaaaDoorCpd
import Derived.Test.YtbimpoabiafdaaaDoorEn
namespace Go.Proofs.YtbimpoabiafdaaaDoor
open Go.RowKit Vf
def lcode : List Ins := [(4, 0, 5), (15, 2, 0), (2, 0, 0), (6, 0, 0), (0, 0, 0)]
def lbytes : List Nat := [4, 0, 5, 15, 2, 2, 6, 0]
def lname : ByteArray := ⟨#[97]⟩
def P0 : Prg := ⟨[0], [(0, lname)], [], true, [], lbytes⟩
def P1 : Prg := ⟨[], [(0, lname)], [], true, [], lbytes⟩
theorem lbytes_enc : enc lcode = lbytes := by decide +kernel
theorem lbytes_dc : dc lbytes = some lcode := by decide +kernel
theorem lcode_ok : ∀ x ∈ lcode, OkI x := by
  intro x hx
  simp only [lcode, List.mem_cons, List.not_mem_nil, or_false] at hx
  rcases hx with rfl | rfl | rfl | rfl | rfl <;> exact ⟨⟨by decide, by decide, by decide⟩, by decide, by decide⟩
theorem good0 : Vf.Good (sz P0) lcode [0, 1, 1, 2, 1] := by
  refine ⟨rfl, by decide, rfl, fun i hi => ?_⟩
  have hcs : i = 0 ∨ i = 1 ∨ i = 2 ∨ i = 3 ∨ i = 4 := by simp [lcode] at hi; omega
  rcases hcs with rfl | rfl | rfl | rfl | rfl
  · exact ⟨(4, 0, 5), 0, 1, rfl, rfl, by decide, by decide, by decide, fun _ => rfl, fun h => by simp at h⟩
  · exact ⟨(15, 2, 0), 1, 1, rfl, rfl, by decide, by decide, by decide, fun _ => rfl, fun _ => ⟨by decide, rfl⟩⟩
  · exact ⟨(2, 0, 0), 1, 2, rfl, rfl, by decide, by decide, by decide, fun _ => rfl, fun h => by simp at h⟩
  · exact ⟨(6, 0, 0), 2, 1, rfl, rfl, by decide, by decide, by decide, fun _ => rfl, fun h => by simp at h⟩
  · exact ⟨(0, 0, 0), 1, 1, rfl, rfl, by decide, by decide, by decide, fun h => by simp [lcode] at h, fun h => by simp at h⟩
theorem tab0 : tabOk P0 := by
  refine ⟨by decide, by decide, by simp [P0], ?_, by simp [P0], by simp [P0], by simp [P0]⟩
  intro x hx
  simp only [P0, List.mem_cons, List.not_mem_nil, or_false] at hx
  subst hx
  exact ⟨by decide, by decide, by decide⟩
theorem ans0 : ans P0 = some [0, 1, 1, 2, 1] := ans_some lbytes_dc tab0 good0
theorem ans1 : ans P1 = none := ans_none fun _ _ h => absurd h.1 (by decide)
theorem little0 : Little P0 1099511627776 := ⟨by decide, by decide, by decide, by decide, by decide, by simp [P0], by
  intro x hx
  simp only [P0, List.mem_cons, List.not_mem_nil, or_false] at hx
  subst hx
  decide⟩
theorem little1 : Little P1 1099511627776 := ⟨by decide, by decide, by decide, by decide, by decide, by simp [P1], by
  intro x hx
  simp only [P1, List.mem_cons, List.not_mem_nil, or_false] at hx
  subst hx
  decide⟩
theorem ints_nats {w : World} {g : Nat} {H : List Nat} {n : Nat} (hn : H.length = n) (h : w.heap[g]? = some (.cells (nats H).toArray 3 (0, 0))) (hl : n ≤ 9223372036854775807) : Ints w (.slice (some ⟨g, 0, none⟩) n n) (H.map Int.ofNat) := by
  subst hn
  refine .inr ⟨⟨g, 0, none⟩, H.length, by simp, by simp, hl, fun k x hk => ?_⟩
  rw [Addr.add_lit, Nat.zero_add, cell_at h]
  simp only [List.getElem?_map, Option.map_eq_some_iff] at hk
  obtain ⟨m, hm, rfl⟩ := hk
  exact nats_get hm
theorem ints_lit {w : World} {g : Nat} {cs : Array Value} {zs : List Int} (h : w.heap[g]? = some (.cells cs 3 (0, 0))) (hc : cs = (intCells zs).toArray) (n : Nat) (hn : zs.length = n) (hl : n ≤ 9223372036854775807) : Ints w (.slice (some ⟨g, 0, none⟩) n n) zs := by
  subst hn hc
  refine .inr ⟨⟨g, 0, none⟩, zs.length, rfl, Nat.le_refl _, hl, fun k x hk => ?_⟩
  rw [Addr.add_lit, Nat.zero_add, cell_at h]
  simp [intCells, hk]
/-- what least hands out -/
def LeastOut (w : World) (e : Ending) (w' : World) : Prop :=
  ∃ ga gc ab cb, e = .returned (.agg #[.slice (some ⟨ga, 0, none⟩) 1 1, .slice (some ⟨gc, 0, none⟩) 1 1, .slice none 0 0, .bool true, .slice none 0 0, .slice ab 8 cb]) ∧
    PrgAt w' (.slice (some ⟨ga, 0, none⟩) 1 1) (.slice (some ⟨gc, 0, none⟩) 1 1) (.slice none 0 0) (.slice none 0 0) (.slice ab 8 cb) P0 ∧ Below w.heap.size w w'
set_option maxRecDepth 100000 in
set_option maxHeartbeats 4000000 in
theorem least_any (w : World) : Calls Tryd.prog 22 #[] w (LeastOut w) := by
  have hq1 := (Below.refl w.heap.size w).alloc (Nat.le_refl _) (.cells #[.slice none 0 0, .slice none 0 0, .slice none 0 0, .bool false, .slice none 0 0, .slice none 0 0] 27)
  have HZ := hide (heap_new (w := w) rfl (.cells #[.slice none 0 0, .slice none 0 0, .slice none 0 0, .bool false, .slice none 0 0, .slice none 0 0] 27))
  have HB := hide hq1
  clear hq1
  go_enter Tryd.func22, Tryd.ntmps22
  go_upto_region 1 with (fail)
  generalize w.alloc (.cells #[.slice none 0 0, .slice none 0 0, .slice none 0 0, .bool false, .slice none 0 0, .slice none 0 0] 27) = W at *
  have hsW := HB.out.size
  have hc := heap_new (w := W) rfl (.cells #[.int .i64 4, .int .u64 0, .int .u64 5, .int .i64 15, .int .u64 2, .int .u64 0, .int .i64 2, .int .u64 0, .int .u64 0, .int .i64 6, .int .u64 0, .int .u64 0, .int .i64 0, .int .u64 0, .int .u64 0] 56)
  have hq := (Below.refl W.heap.size W).alloc (Nat.le_refl _) (.cells #[.int .i64 4, .int .u64 0, .int .u64 5, .int .i64 15, .int .u64 2, .int .u64 0, .int .i64 2, .int .u64 0, .int .u64 0, .int .i64 6, .int .u64 0, .int .u64 0, .int .i64 0, .int .u64 0, .int .u64 0] 56)
  have HI := hide (show Inss (W.alloc (.cells #[.int .i64 4, .int .u64 0, .int .u64 5, .int .i64 15, .int .u64 2, .int .u64 0, .int .i64 2, .int .u64 0, .int .u64 0, .int .i64 6, .int .u64 0, .int .u64 0, .int .i64 0, .int .u64 0, .int .u64 0] 56)) (.slice (some ⟨W.heap.size, 0, none⟩) 5 5) lcode from
    inown_inss (B := W.heap.size) (World.ownsRow_lit (base := W.heap.size) (e := 56) (size := 3) W #[.int .i64 4, .int .u64 0, .int .u64 5, .int .i64 15, .int .u64 2, .int .u64 0, .int .i64 2, .int .u64 0, .int .u64 0, .int .i64 6, .int .u64 0, .int .u64 0, .int .i64 0, .int .u64 0, .int .u64 0] 5 (Nat.le_refl _) (by simp [maxLen]) (by simp)))
  have HB2 := hide (HB.out.trans (hq.mono hsW))
  have hz2 := keepTy_below hq 27 _ _ _ HZ.out
  go_wp2_with fail
  generalize W.alloc (.cells #[.int .i64 4, .int .u64 0, .int .u64 5, .int .i64 15, .int .u64 2, .int .u64 0, .int .i64 2, .int .u64 0, .int .u64 0, .int .i64 6, .int .u64 0, .int .u64 0, .int .i64 0, .int .u64 0, .int .u64 0] 56) = W2 at *
  clear hc hq
  have hs2 := HB2.out.size
  refine (show Calls Tryd.prog 35 #[.slice (some ⟨W.heap.size, 0, none⟩) 5 5] W2 _ from ref_encode_any W2 (some ⟨W.heap.size, 0, none⟩) 5 lcode HI.out lcode_ok (by decide)).mono ?_
  rintro e w3 ⟨v, rfl, ho, hb⟩
  rw [lbytes_enc] at ho
  obtain ⟨ab, cb, rfl⟩ := row_shape ho
  have hz3 := keepTy_below hb 27 _ _ _ hz2
  have HB3 := hide (HB2.out.trans (hb.mono hs2))
  have hs3 := HB3.out.size
  -- the lists
  have hq4 := (Below.refl w3.heap.size w3).alloc (Nat.le_refl _) (.cells #[.int .i64 0] 3)
  have hq5 := hq4.alloc (by simp) (.cells #[.int .i64 0, .string { data := #[97] }] 63)
  have hsz : (w3.alloc (.cells #[.int .i64 0] 3)).heap.size = w3.heap.size + 1 := by simp
  have HG4 := hide (heap_old (heap_new (w := w3) rfl (.cells #[.int .i64 0] 3)) (.cells #[.int .i64 0, .string { data := #[97] }] 63))
  have HG5 := hide (heap_new (w := w3.alloc (.cells #[.int .i64 0] 3)) rfl (.cells #[.int .i64 0, .string { data := #[97] }] 63))
  rw [hsz] at HG5
  have HO5 := hide (own_keep ho hq5)
  have hz5 := keepTy_below hq5 27 _ _ _ hz3
  have HB5 := hide (HB3.out.trans (hq5.mono hs3))
  obtain ⟨a0, a1, a2, a3, a4, a5⟩ := cells6 hz5
  have f0 := free_at hz5 0
  have f1 := free_at hz5 1
  have f2 := free_at hz5 2
  have f3 := free_at hz5 3
  have f4 := free_at hz5 4
  have f5 := free_at hz5 5
  have HZ5 := hide hz5
  clear hz2 hb ho hz3 hq4 hq5 hz5
  have H6 := hide (set6 HZ5.out (.slice (some ⟨w3.heap.size, 0, none⟩) 1 1) (.slice (some ⟨w3.heap.size + 1, 0, none⟩) 1 1) (.slice none 0 0) (.bool true) (.slice none 0 0) (.slice ab lbytes.length cb))
  go_wp2_with fail
  refine bodyPost_ret (results_cell_row rfl _ _ w.heap.size 27 _ (0, 0) _ rfl H6.out.1 Tryd.underlying27 rfl size27) rfl ?_
  have k3 := H6.out.2.1 3 (by decide)
  have k63 := H6.out.2.1 63 (by decide)
  have k5 := H6.out.2.1 5 (by decide)
  refine ⟨w3.heap.size, w3.heap.size + 1, ab, cb, rfl, ⟨ints_lit (k3 _ _ _ HG4.out) rfl 1 rfl (by omega), ?_, .inl ⟨rfl, rfl⟩, .inl ⟨rfl, rfl⟩, src_own (row_keepTy HO5.out k5) (by decide)⟩, H6.out.2.2 _ _ HB5.out (Nat.le_refl _)⟩
  have hg := k63 _ _ _ HG5.out
  refine .inr ⟨⟨w3.heap.size + 1, 0, none⟩, 1, rfl, by decide, by omega, fun k x hk => ?_⟩
  have hk0 : k = 0 := by
    have := (List.getElem?_eq_some_iff.1 hk).1
    simp [P0] at this
    exact this
  subst hk0
  simp only [P0, List.getElem?_cons_zero, Option.some.injEq] at hk
  subst hk
  rw [Addr.add_lit, Nat.zero_add]
  exact ⟨by rw [cell_at hg]; rfl, by rw [cell_at hg]; rfl⟩
set_option maxRecDepth 100000 in
set_option maxHeartbeats 4000000 in
theorem fixed_any (w : World) (T : TabAt w) (E : Nat → Addr) (hE : Errs w E allErrs) (hg : 25 ≤ w.heap.size) : Calls Tryd.prog 8 #[] w fun e w' => e = .returned (.bool true) ∧ Below w.heap.size w w' := by
  have HT := hide T
  have HE := hide hE
  clear T hE
  have er := hide fun (k : Nat) (hk : k ∈ allErrs) (w1 : World) (h : Below w.heap.size w w1) => err_below (HE.out.cell k hk) h (ids_lt hg k hk)
  go_enter Tryd.func8, Tryd.ntmps8
  go_wp2_with fail
  refine (least_any w).mono ?_
  rintro e w1 ⟨ga, gc, ab, cb, rfl, hp, hb⟩
  have hs1 := hb.size
  have hq2 := (Below.refl w1.heap.size w1).alloc (Nat.le_refl _) (.cells #[.slice (some ⟨ga, 0, none⟩) 1 1, .slice (some ⟨gc, 0, none⟩) 1 1, .slice none 0 0, .bool true, .slice none 0 0, .slice ab 8 cb] 27)
  have HP2 := hide (hp.keep hq2)
  have HC2 := hide (heap_new (w := w1) rfl (.cells #[.slice (some ⟨ga, 0, none⟩) 1 1, .slice (some ⟨gc, 0, none⟩) 1 1, .slice none 0 0, .bool true, .slice none 0 0, .slice ab 8 cb] 27))
  have HB2 := hide (hb.trans (hq2.mono hs1))
  have HD2 := hide hq2
  have HQ1 := hide (show PrgAt w1 (.slice none 0 0) (.slice (some ⟨gc, 0, none⟩) 1 1) (.slice none 0 0) (.slice none 0 0) (.slice ab 8 cb) P1 from ⟨.inl ⟨rfl, rfl⟩, hp.cur, hp.nears, hp.drive, hp.code⟩)
  obtain ⟨a0, a1, a2, a3, a4, a5⟩ := cells6 HC2.out
  clear hp hb hq2
  go_wp2_with fail
  generalize w1.alloc (.cells #[.slice (some ⟨ga, 0, none⟩) 1 1, .slice (some ⟨gc, 0, none⟩) 1 1, .slice none 0 0, .bool true, .slice none 0 0, .slice ab 8 cb] 27) = w2 at *
  obtain ⟨G, hG⟩ : ∃ G, G = w1.heap.size := ⟨_, rfl⟩
  rw [← hG] at HC2 HD2 hs1 a0 a1 a2 a3 a4 a5 ⊢
  have HG := hide hG.symm
  clear hG
  have hs2 := HB2.out.size
  refine (show Calls Tryd.prog 10 #[.agg #[.slice (some ⟨ga, 0, none⟩) 1 1, .slice (some ⟨gc, 0, none⟩) 1 1, .slice none 0 0, .bool true, .slice none 0 0, .slice ab 8 cb]] w2 _ from check_any w2 (tab_below HT.out HB2.out (by omega)) E (er.out 0 (by decide) _ HB2.out) (er.out 1 (by decide) _ HB2.out) (er.out 2 (by decide) _ HB2.out) (by omega) _ _ _ _ _ 1 1 0 0 cb true P0 rfl HP2.out little0).mono ?_
  rintro e w3 ⟨ho, hb⟩
  rw [CkOut, ans0] at ho
  obtain rfl : e = .returned (.tuple #[.agg #[.int .i64 5, .int .i64 2], .nilIface]) := ho
  have HB3 := hide (HB2.out.trans (hb.mono hs2))
  have hs3 := HB3.out.size
  have hq4 := (Below.refl w3.heap.size w3).alloc (Nat.le_refl _) (.cells #[.int .i64 5, .int .i64 2] 31)
  have HC4 := hide (keepTy_below (hb.trans (hq4.mono hb.size)) 27 _ _ _ HC2.out)
  have HP4 := hide (HP2.out.keep (hb.trans (hq4.mono hb.size)))
  have HR4 := hide (heap_new (w := w3) rfl (.cells #[.int .i64 5, .int .i64 2] 31))
  have HB4 := hide (HB3.out.trans (hq4.mono hs3))
  have HD4 := hide (HD2.out.trans ((hb.trans (hq4.mono hb.size)).mono (HG.out ▸ HD2.out.size)))
  clear hb hq4 a0 a1 a2 a3 a4 a5
  obtain ⟨a0, a1, a2, a3, a4, a5⟩ := cells6 HC4.out
  go_wp2_with fail
  generalize w3.alloc (.cells #[.int .i64 5, .int .i64 2] 31) = w4 at *
  generalize w3.heap.size = R at *
  have hs4 := HB4.out.size
  refine (show Calls Tryd.prog 12 #[.agg #[.slice (some ⟨ga, 0, none⟩) 1 1, .slice (some ⟨gc, 0, none⟩) 1 1, .slice none 0 0, .bool true, .slice none 0 0, .slice ab 8 cb]] w4 _ from hts_any w4 (tab_below HT.out HB4.out (by omega)) E (er.out 0 (by decide) _ HB4.out) (er.out 1 (by decide) _ HB4.out) (er.out 2 (by decide) _ HB4.out) (by omega) _ _ _ _ _ 1 1 0 0 cb true P0 rfl HP4.out little0).mono ?_
  rintro e w5 ⟨ho, hb⟩
  rw [HsOut, ans0] at ho
  obtain ⟨h1, hh1, ho, hrow⟩ := ho
  obtain rfl : e = .returned (.tuple #[.slice (some ⟨h1, 0, none⟩) 5 5, .nilIface]) := ho
  have HB5 := hide (HB4.out.trans (hb.mono hs4))
  have hs5 := HB5.out.size
  have hq6 := (Below.refl w5.heap.size w5).alloc (Nat.le_refl _) (.cells #[.int .i64 0, .int .i64 1, .int .i64 1, .int .i64 2, .int .i64 1] 3)
  have HC6 := hide (keepTy_below (hb.trans (hq6.mono hb.size)) 27 _ _ _ HC4.out)
  have HP6 := hide (HP4.out.keep (hb.trans (hq6.mono hb.size)))
  have hR5 := keepTy_below hb 31 _ _ _ HR4.out
  have HA6 := hide (ints_nats (n := 5) rfl (keepTy_below hq6 3 _ _ _ hrow) (by omega))
  have HA7 := hide (ints_lit (zs := [0, 1, 1, 2, 1]) (heap_new (w := w5) rfl (.cells #[.int .i64 0, .int .i64 1, .int .i64 1, .int .i64 2, .int .i64 1] 3)) rfl 5 rfl (by omega))
  have HB6 := hide (HB5.out.trans (hq6.mono hs5))
  have HD6 := hide (HD4.out.trans ((hb.trans (hq6.mono hb.size)).mono (HG.out ▸ HD4.out.size)))
  obtain ⟨r0, r1⟩ := cells2 hR5
  have HR5 := hide hR5
  clear hb hq6 hrow hR5 a0 a1 a2 a3 a4 a5
  go_wp2_with fail
  generalize w5.alloc (.cells #[.int .i64 0, .int .i64 1, .int .i64 1, .int .i64 2, .int .i64 1] 3) = w6 at *
  have hs6 := HB6.out.size
  refine (same_ints w6 (some ⟨h1, 0, none⟩) (some ⟨w5.heap.size, 0, none⟩) 5 5 5 [0, 1, 1, 2, 1] rfl HA6.out HA7.out (by omega)).mono ?_
  rintro e w7 ⟨rfl, n7, rfl⟩
  have HC7 := hide (show (w6.drewN n7).heap[G]? = _ from HC6.out)
  have HB7 := hide (below_drewN HB6.out n7)
  have HD7 := hide (below_drewN HD6.out n7)
  have HP7 := hide (HP6.out.keep (below_drewN (Below.refl w6.heap.size w6) n7))
  generalize w6.drewN n7 = w7 at *
  obtain ⟨a0, a1, a2, a3, a4, a5⟩ := cells6 HC7.out
  have f0 := free_at HC7.out 0
  have hh8 := heap_set (i := 0) HC7.out (.slice none 0 0)
  have HC8 := hide (show (w7.setCell ⟨G, 0, none⟩ (.slice none 0 0)).heap[G]? = some (.cells #[.slice none 0 0, .slice (some ⟨gc, 0, none⟩) 1 1, .slice none 0 0, .bool true, .slice none 0 0, .slice ab 8 cb] 27 (0, 0)) from by simpa using hh8)
  have HB8 := hide (below_set (i := 0) HB7.out (by omega : w.heap.size ≤ G) (.slice none 0 0))
  have HD8 := hide (below_set (i := 0) HD7.out (Nat.le_refl G) (.slice none 0 0))
  have HP8 := hide (HQ1.out.keep (by rw [HG.out]; exact HD8.out))
  clear hh8
  go_wp2_with fail
  generalize w7.setCell ⟨G, 0, none⟩ (.slice none 0 0) = w8 at *
  clear a0 a1 a2 a3 a4 a5 f0
  obtain ⟨a0, a1, a2, a3, a4, a5⟩ := cells6 HC8.out
  have hs8 := HB8.out.size
  go_wp2_with fail
  refine (show Calls Tryd.prog 10 #[.agg #[.slice none 0 0, .slice (some ⟨gc, 0, none⟩) 1 1, .slice none 0 0, .bool true, .slice none 0 0, .slice ab 8 cb]] w8 _ from check_any w8 (tab_below HT.out HB8.out (by omega)) E (er.out 0 (by decide) _ HB8.out) (er.out 1 (by decide) _ HB8.out) (er.out 2 (by decide) _ HB8.out) (by omega) _ _ _ _ _ 0 1 0 0 cb true P1 rfl HP8.out little1).mono ?_
  rintro e w9 ⟨ho, hb⟩
  rw [CkOut, ans1] at ho
  obtain rfl : e = .returned (.tuple #[.agg #[.int .i64 0, .int .i64 0], .iface 108 (.pointer (some (E 0)))]) := ho
  have HB9 := hide (HB8.out.trans (hb.mono hs8))
  have hs9 := HB9.out.size
  clear hb a0 a1 a2 a3 a4 a5
  go_wp2_with fail
  refine (least_any w9).mono ?_
  rintro e w10 ⟨ga2, gc2, ab2, cb2, rfl, hp, hb⟩
  have HB10 := hide (HB9.out.trans (hb.mono hs9))
  have hs10 := HB10.out.size
  have HP10 := hide hp
  clear hp hb
  go_wp2_with fail
  refine (show Calls Tryd.prog 12 #[.agg #[.slice (some ⟨ga2, 0, none⟩) 1 1, .slice (some ⟨gc2, 0, none⟩) 1 1, .slice none 0 0, .bool true, .slice none 0 0, .slice ab2 8 cb2]] w10 _ from hts_any w10 (tab_below HT.out HB10.out (by omega)) E (er.out 0 (by decide) _ HB10.out) (er.out 1 (by decide) _ HB10.out) (er.out 2 (by decide) _ HB10.out) (by omega) _ _ _ _ _ 1 1 0 0 cb2 true P0 rfl HP10.out little0).mono ?_
  rintro e w11 ⟨ho, hb⟩
  rw [HsOut, ans0] at ho
  obtain ⟨h2, hh2, ho, hrow⟩ := ho
  obtain rfl : e = .returned (.tuple #[.slice (some ⟨h2, 0, none⟩) 5 5, .nilIface]) := ho
  have HB11 := hide (HB10.out.trans (hb.mono hs10))
  clear hb hrow
  go_wp2_with fail
  refine (num_code w11 E (HE.out.below HB11.out (Nat.le_refl _) (ids_lt hg))).mono ?_
  rintro e w12 ⟨rfl, rfl⟩
  go_wp2_with fail
  go_ret
  exact ⟨rfl, HB11.out⟩
end Go.Proofs.YtbimpoabiafdaaaDoor
