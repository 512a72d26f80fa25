/- the reference's Scan -/
import Derived.Test.YtgebekklkodpaaaDoorSc
import Derived.OwnWalk
namespace Go.Proofs.YtgebekklkodpaaaDoor
open Go.RowKit

/-- the places and the blocks with which a list begins -/
def scan : Nat → Nat → List Nat → List Nat × List Bl
  | 0, _, _ => ([], [])
  | f + 1, at_, r =>
    match dec r with
    | .inl _ => ([], [])
    | .inr (i, j) => (at_ :: (scan f (at_ + (j + 4)) (r.drop (j + 4))).1, (r.getD 0 0, (r.take j).drop i) :: (scan f (at_ + (j + 4)) (r.drop (j + 4))).2)
theorem scan_err (f at_ : Nat) (r : List Nat) (g : Nat) (h : dec r = .inl g) : scan f at_ r = ([], []) := by
  cases f with
  | zero => rfl
  | succ f => rw [scan, h]
theorem scan_ok (f at_ : Nat) (r : List Nat) (i j : Nat) (h : dec r = .inr (i, j)) :
    scan (f + 1) at_ r = (at_ :: (scan f (at_ + (j + 4)) (r.drop (j + 4))).1, (r.getD 0 0, (r.take j).drop i) :: (scan f (at_ + (j + 4)) (r.drop (j + 4))).2) := by rw [scan, h]

theorem info3 : (Tryd.prog.info? 3).map (fun i => (i.zero, i.size, i.bytes)) = some (some (.int .i64 0), 1, 8) := by kernel_rfl
def i64s (ns : List Nat) : List Value := ns.map fun (n : Nat) => Value.int .i64 (n : Int)
theorem i64s_app (xs ys : List Nat) : i64s (xs ++ ys) = i64s xs ++ i64s ys := by simp [i64s]
/-- an own row of numbers -/
def IOwn (w : World) (B : Nat) (v : Value) (ns : List Nat) : Prop := w.ownsRow B 3 1 v ns.length (i64s ns)
theorem iown_nil (w : World) (B : Nat) : IOwn w B (.slice none 0 0) [] := World.ownsRow_nil w B 3 1
theorem iown_keep {w w' : World} {B : Nat} {v : Value} {ns : List Nat} (h : IOwn w B v ns) (hb : Below w.heap.size w w') : IOwn w' B v ns :=
  World.ownsRow.kept (row := none) h ⟨hb.os, hb.tape, hb.output, hb.size, fun k hk _ => hb.block k hk⟩ (by cases hv : v.ownBlock <;> simp)
theorem row_ne {w : World} {B1 B2 e1 e2 s1 s2 n m : Nat} {v u : Value} {xs ys : List Value} (h1 : w.ownsRow B1 e1 s1 v n xs) (h2 : w.ownsRow B2 e2 s2 u m ys) (he : e1 ≠ e2) : u.ownBlock = none ∨ u.ownBlock ≠ v.ownBlock := by
  rcases h2.2 with ⟨rfl, _⟩ | ⟨g, cap, cur, rfl, _, hh, _⟩
  · exact .inl rfl
  · right
    intro e
    rcases h1.2 with ⟨rfl, _⟩ | ⟨g', cap', cur', rfl, _, hh', _⟩
    · simp [Value.ownBlock] at e
    · simp only [Value.ownBlock, Option.some.injEq] at e
      subst e
      rw [hh'] at hh
      simp only [Option.some.injEq, Obj.cells.injEq] at hh
      exact he hh.2.1
set_option maxRecDepth 100000 in
/-- a number is appended; the blocks stay -/
theorem append_int {ops : Array Oper} {rest : List Oper} {o : Oper} {a : Act} {Q : Exit → Act → World → Prop} (w0 w : World) (B g n : Nat) (v u : Value) (ns : List Nat) (its : List It) (hgd : o.guard = none) (s y : Operand)
    (ho : o.op = .call { callee := .builtin .append, args := #[s, y], argTypes := #[63, 63] }) (hs : a.eval s = v) (hy : a.eval y = .slice (some ⟨g, 0, none⟩) 1 1)
    (hown : IOwn w B v ns) (hblk : BOwn w B u its) (hh : w.heap[g]? = some (.cells #[.int .i64 (n : Nat)] 3 (0, 0))) (hl : ns.length ≤ 1099511627776) (hB : B ≤ w.heap.size) (hb : Below B w0 w)
    (h : ∀ v' w', IOwn w' B v' (ns ++ [n]) → BOwn w' B u its → (∀ (k : Nat) (cs : Array Value) (E : TypeId) (fr : Nat × Nat), w.heap[k]? = some (.cells cs E fr) → E ≠ 3 → w'.heap[k]? = some (.cells cs E fr)) → Below B w0 w' → wpList Tryd.prog ops Q rest (a.put o.dst v') w') :
    wpList Tryd.prog ops Q (o :: rest) a w := by
  obtain ⟨i0, hi, hz0, hz1, hz2⟩ := info_parts info3
  refine wpList_append_own w hgd s y 63 ho B 3 i0 (.int .i64 0) 1 8 Tryd.underlying63 hi hz0 hz1 hz2 rfl (by decide) v ns.length (i64s ns) hs hown ⟨g, 0, none⟩ 1 1 (i64s [n]) hy rfl ?_ ?_ (by simp only [maxLen]; omega) (by omega) hB ?_
  · intro j x hx
    have e : w.cell? ((⟨g, 0, none⟩ : Addr).add j) = w.cell? ⟨g, j, none⟩ := by
      unfold Addr.add
      split
      · rename_i hj; rw [hj]
      · simp
    rw [e, cell_at hh]
    simpa [i64s] using hx
  · intro x hx
    simp only [i64s, List.map_cons, List.map_nil, List.mem_cons, List.not_mem_nil, or_false] at hx
    subst hx
    rfl
  · intro v' w' hown' hg _
    refine h v' w' ?_ ⟨World.ownsRow.kept hblk.1 hg (row_ne hown hblk.1 (by decide)), fun z hz => ⟨(hblk.2 z hz).1, bod_grown (hblk.2 z hz).2 hg ?_⟩⟩ ?_ (hb.grown hg hB (fun k hk => (World.ownsRow.lt hown k hk).1))
    rotate_right
    · intro k cs E fr hk hE
      refine (hg.block k (heap_lt hk) ?_).trans hk
      intro e
      rcases hown.2 with ⟨rfl, _⟩ | ⟨g', cap, cur, rfl, _, hh', _⟩
      · simp [Value.ownBlock] at e
      · simp only [Value.ownBlock, Option.some.injEq] at e
        subst e
        rw [hh'] at hk
        simp only [Option.some.injEq, Obj.cells.injEq] at hk
        exact hE hk.2.1.symm
    · unfold IOwn
      rw [i64s_app, List.length_append]
      exact hown'
    · intro k hk e
      obtain ⟨cs, fr, hc⟩ := (hblk.2 z hz).2.2 k hk
      rcases hown.2 with ⟨rfl, _⟩ | ⟨g', cap, cur, rfl, _, hh', _⟩
      · simp [Value.ownBlock] at e
      · simp only [Value.ownBlock, Option.some.injEq] at e
        subst e
        rw [hh'] at hc
        simp at hc
set_option maxRecDepth 100000 in
/-- a block is appended; the numbers stay -/
theorem append_blk2 {ops : Array Oper} {rest : List Oper} {o : Oper} {a : Act} {Q : Exit → Act → World → Prop} (w0 w : World) (B g : Nat) (v u : Value) (its : List It) (ns : List Nat) (x : It) (hgd : o.guard = none) (s y : Operand)
    (ho : o.op = .call { callee := .builtin .append, args := #[s, y], argTypes := #[38, 38] }) (hs : a.eval s = v) (hy : a.eval y = .slice (some ⟨g, 0, none⟩) 1 1)
    (hown : BOwn w B v its) (hint : IOwn w B u ns) (hx : x.1 < 256) (hbod : Bod w x.2.1 x.2.2) (hh : w.heap[g]? = some (.cells #[.int .u8 (x.1 : Nat), x.2.1] 47 (0, 0))) (hl : its.length ≤ 1099511627776) (hB : B ≤ w.heap.size) (hb : Below B w0 w)
    (h : ∀ v' w', BOwn w' B v' (its ++ [x]) → IOwn w' B u ns → Below B w0 w' → wpList Tryd.prog ops Q rest (a.put o.dst v') w') :
    wpList Tryd.prog ops Q (o :: rest) a w := by
  obtain ⟨i0, hi, hz0, hz1, hz2⟩ := info_parts info47
  refine wpList_append_own w hgd s y 38 ho B 47 i0 (.agg #[.int .u8 0, .slice none 0 0]) 2 32 Tryd.underlying38 hi hz0 hz1 hz2 rfl (by decide) v its.length (cellsOf its) hs hown.1 ⟨g, 0, none⟩ 1 1 (cellsOf [x]) hy rfl ?_ ?_ (by simp only [maxLen]; omega) (by omega) hB ?_
  · intro j u hu
    have e : w.cell? ((⟨g, 0, none⟩ : Addr).add j) = w.cell? ⟨g, j, none⟩ := by
      unfold Addr.add
      split
      · rename_i hj; rw [hj]
      · simp
    rw [e, cell_at hh]
    simpa [cellsOf] using hu
  · intro u hu
    simp only [cellsOf, List.flatMap_cons, List.flatMap_nil, List.append_nil, List.mem_cons, List.not_mem_nil, or_false] at hu
    rcases hu with rfl | rfl
    · rfl
    · exact src_one hbod.1
  · intro v' w' hown' hg _
    have hne : ∀ (u : Value) (bs : List Nat), Bod w u bs → ∀ k, u.ownBlock = some k → some k ≠ v.ownBlock := by
      intro u bs hu k hk e
      obtain ⟨cs, fr, hc⟩ := hu.2 k hk
      rcases hown.1.2 with ⟨rfl, _⟩ | ⟨g', cap, cur, rfl, _, hh', _⟩
      · simp [Value.ownBlock] at e
      · simp only [Value.ownBlock, Option.some.injEq] at e
        subst e
        rw [hh'] at hc
        simp at hc
    refine h v' w' ⟨?_, ?_⟩ (World.ownsRow.kept hint hg (row_ne hown.1 hint (by decide))) (hb.grown hg hB (fun k hk => (World.ownsRow.lt hown.1 k hk).1))
    · rw [cellsOf_app, List.length_append]
      exact hown'
    · intro z hz
      rcases List.mem_append.1 hz with hz | hz
      · exact ⟨(hown.2 z hz).1, bod_grown (hown.2 z hz).2 hg (hne _ _ (hown.2 z hz).2)⟩
      · simp only [List.mem_cons, List.not_mem_nil, or_false] at hz
        subst hz
        exact ⟨hx, bod_grown hbod hg (hne _ _ hbod)⟩

/-- a body stays where the blocks of bytes stay -/
theorem bod_by {w w' : World} {v : Value} {bs : List Nat} (h : Bod w v bs) (hk : ∀ (k : Nat) (cs : Array Value) (fr : Nat × Nat), w.heap[k]? = some (.cells cs 5 fr) → w'.heap[k]? = some (.cells cs 5 fr)) : Bod w' v bs := by
  refine ⟨?_, fun g hg => ?_⟩
  · rcases h.1 with ⟨h1, h2 | ⟨ad, cap, rfl, h3, h4, hc⟩⟩
    · exact ⟨h1, .inl h2⟩
    · obtain ⟨cs, fr, hh⟩ := h.2 _ rfl
      refine ⟨h1, .inr ⟨ad, cap, rfl, h3, h4, fun k y hky => ?_⟩⟩
      rw [← hc k y hky]
      exact World.cell?_of_block (by rw [add_blk, hh]; exact hk _ _ _ hh)
  · obtain ⟨cs, fr, hh⟩ := h.2 g hg
    exact ⟨cs, fr, hk _ _ _ hh⟩
def RefScanOut (B : Nat) (bs : List Nat) (e : Ending) (w' : World) : Prop :=
  ∃ v2 v3 its, e = .returned (.tuple #[v2, v3]) ∧ IOwn w' B v2 (scan (bs.length + 1) 0 bs).1 ∧ BOwn w' B v3 its ∧ blOf its = (scan (bs.length + 1) 0 bs).2 ∧ ∀ x ∈ its, ∀ g, x.2.1.ownBlock = some g → B ≤ g

set_option maxRecDepth 100000 in
set_option maxHeartbeats 4000000 in
theorem ref_scan_some (w : World) (ad : Addr) (cap n : Nat) (bs : List Nat) (hn : bs.length = n) (hs : Src w (.slice (some ad) n cap) bs) (hl : n ≤ 100000000) :
    Calls Tryd.prog 41 #[.slice (some ad) n cap] w fun e w' => RefScanOut w.heap.size bs e w' ∧ Below w.heap.size w w' := by
  have hcap : n ≤ cap ∧ cap ≤ 9223372036854775807 := by
    rcases hs.2 with ⟨h, _⟩ | ⟨ad', c', h, ha, hb, _⟩
    · simp at h
    · simp only [Value.slice.injEq] at h
      obtain ⟨_, _, rfl⟩ := h
      exact ⟨by rw [← hn]; exact ha, hb⟩
  have HS := hide hs
  have HN := hide hn
  clear hs hn
  go_enter Tryd.func41, Tryd.ntmps41
  go_wp2_with fail
  go_loopw [4, 5, 6] (fun s4 s5 s6 wr => ∃ (f at_ : Nat) (ns : List Nat) (its : List It), s6 = .int .i64 at_ ∧ at_ ≤ n ∧ n - at_ < f ∧ IOwn wr w.heap.size s4 ns ∧ BOwn wr w.heap.size s5 its ∧ ns.length ≤ at_ ∧ its.length ≤ at_ ∧
    (scan (bs.length + 1) 0 bs).1 = ns ++ (scan f at_ (bs.drop at_)).1 ∧ (scan (bs.length + 1) 0 bs).2 = blOf its ++ (scan f at_ (bs.drop at_)).2 ∧ (∀ x ∈ its, ∀ g, x.2.1.ownBlock = some g → w.heap.size ≤ g) ∧ Below w.heap.size w wr) (fun _ _ s6 _ => n - (intOf s6).toNat)
  case atStart => exact ⟨bs.length + 1, 0, [], [], rfl, by omega, by rw [HN.out]; omega, iown_nil _ _, bown_nil _ _, by simp, by simp, rfl, rfl, by simp, Below.refl _ _⟩
  case round =>
    obtain ⟨f, at_, ns, its, rfl, han, hf, hio, hbo, hnl, hil, h1, h2, hbase, hb⟩ := hrel
    have HBA := hide hbase
    clear hbase
    have hsr := hb.size
    have HI := hide hio
    have HBO := hide hbo
    have H1 := hide h1
    have H2 := hide h2
    have HB := hide hb
    have hq0 := src_part (src_keep HS.out hb) at_ n (cap - at_) han (by rw [HN.out]; omega) (by omega) (by omega)
    rw [List.take_of_length_le (by rw [HN.out]; omega)] at hq0
    have hrl : (bs.drop at_).length = n - at_ := by rw [List.length_drop, HN.out]
    clear hio hbo h1 h2 hb
    by_cases hce : cap = at_
    · have hnat : n = at_ := by omega
      have hr : bs.drop at_ = [] := List.eq_nil_of_length_eq_zero (by omega)
      have HD := hide (ref_decode_nil wr (some ad) 0)
      have H1' := hide (H1.out.trans (by rw [scan_err f at_ _ 1 (by rw [hr]; rfl), List.append_nil]))
      have H2' := hide (H2.out.trans (by rw [scan_err f at_ _ 1 (by rw [hr]; rfl), List.append_nil]))
      clear hr hq0 hrl
      subst hce
      obtain rfl : n = cap := hnat
      go_wp2_with fail
      refine HD.out.mono ?_
      rintro e w4 ⟨hout, hb4⟩
      rw [RefDecOut, show dec [] = .inl 1 from rfl] at hout
      subst hout
      have HB4 := hide (HB.out.trans (hb4.mono hsr))
      have hb5 := (Below.refl w4.heap.size w4).alloc (Nat.le_refl _) (.cells #[.int .u8 0, .slice none 0 0] 47)
      have HI5 := hide (iown_keep (iown_keep HI.out hb4) hb5)
      have HBO5 := hide (bown_keep (bown_keep HBO.out hb4) hb5)
      have HB5 := hide (HB4.out.trans (hb5.mono HB4.out.size))
      clear hb4 hb5
      go_wp2_with fail
      go_ret2
      exact ⟨⟨_, _, its, rfl, by rw [H1'.out]; exact HI5.out, HBO5.out, H2'.out.symm, HBA.out⟩, HB5.out⟩
    · have hdec := ref_decode_any wr _ _ hq0 (by rw [hrl]; omega)
      have hr256 : ∀ x ∈ bs.drop at_, x < 256 := hq0.1
      have HRT := hide hrl
      have H256 := hide hr256
      have HDC := hide hdec
      have a1 : (at_ : Int) ≤ (n : Int) := by omega
      have a2 : cap - at_ ≠ 0 := by omega
      have a3 : cap ≠ at_ := hce
      have a4 : at_ ≤ cap := by omega
      clear hq0 hrl hdec hr256 hce
      go_wp2_with fail
      refine HDC.out.mono ?_
      rintro e9 w4 ⟨hout, hb4⟩
      have HB10 := hide (HB.out.trans (hb4.mono hsr))
      have hs10 := HB10.out.size
      have HBO4 := hide (bown_keep HBO.out hb4)
      have HI4 := hide (iown_keep HI.out hb4)
      clear hb4 HDC HBO HI
      cases hd : dec (bs.drop at_) with
      | inl g =>
        rw [RefDecOut, hd] at hout
        subst hout
        have H1' := hide (H1.out.trans (by rw [scan_err f at_ _ g hd, List.append_nil]))
        have H2' := hide (H2.out.trans (by rw [scan_err f at_ _ g hd, List.append_nil]))
        have hb5 := (Below.refl w4.heap.size w4).alloc (Nat.le_refl _) (.cells #[.int .u8 0, .slice none 0 0] 47)
        have HI5 := hide (iown_keep HI4.out hb5)
        have HBO5 := hide (bown_keep HBO4.out hb5)
        have HB5 := hide (HB10.out.trans (hb5.mono hs10))
        obtain ⟨g1, hg1⟩ : ∃ g1, errNum g = g1 := ⟨_, rfl⟩
        have hg2 : 0 < g1 := by rw [← hg1]; rcases dec_inl hd with rfl | rfl | rfl | rfl <;> decide
        have hg3 : ((g1 : Int) == 0) = false := by simp; omega
        have hg4 : ((g1 : Int) = 0) = False := by simp; omega
        rw [hg1]
        clear hd hg1 hb5
        go_wp2_with fail
        go_ret2
        exact ⟨⟨_, _, its, rfl, by rw [H1'.out]; exact HI5.out, HBO5.out, H2'.out.symm, HBA.out⟩, HB5.out⟩
      | inr q =>
        obtain ⟨i, j⟩ := q
        rw [RefDecOut, hd] at hout
        obtain ⟨v8, rfl, hbod, hb8'⟩ := hout
        have HB8' := hide (fun g hg => Nat.le_trans hsr (hb8' g hg))
        clear hb8'
        obtain ⟨t, r2, hrt, ht1, hij, hjl, hi2, _⟩ := dec_ok H256.out hd
        have hrl := HRT.out
        have htt : t < 256 := H256.out t (by rw [hrt]; exact List.mem_cons_self ..)
        obtain ⟨f2, rfl⟩ : ∃ f2, f = f2 + 1 := ⟨f - 1, by omega⟩
        have H1' := H1.out.trans (by rw [scan_ok f2 at_ _ i j hd])
        have H2' := H2.out.trans (by rw [scan_ok f2 at_ _ i j hd])
        obtain ⟨body, hbody⟩ : ∃ body, ((bs.drop at_).take j).drop i = body := ⟨_, rfl⟩
        rw [hbody] at hbod H2'
        rw [show (bs.drop at_).getD 0 0 = t by rw [hrt]; rfl] at H2' ⊢
        rw [List.drop_drop] at H1' H2'
        obtain ⟨s, hs4⟩ : ∃ s, j + 4 = s := ⟨_, rfl⟩
        rw [hs4] at hjl H1' H2' ⊢
        have hs44 : 4 ≤ s := by omega
        have hse : at_ + s ≤ n := by omega
        have H1' := hide H1'
        have H2' := hide H2'
        have HBOD := hide hbod
        have HTT := hide htt
        clear hd hbody hbod htt hs4 hij hi2 ht1 hrt hrl hjl
        obtain ⟨a8, c8, rfl⟩ := src_form HBOD.out.1
        have hb5 := (Below.refl w4.heap.size w4).alloc (Nat.le_refl _) (.cells #[.int .u8 t, .slice a8 body.length c8] 47)
        have hx5 := heap_new (w := w4) rfl (.cells #[.int .u8 t, .slice a8 body.length c8] 47)
        have hb6 := hb5.alloc hb5.size (.cells #[.int .i64 (at_ : Nat)] 3)
        have hx6 := heap_old hx5 (.cells #[.int .i64 (at_ : Nat)] 3)
        have hh6 := heap_new (w := w4.alloc (.cells #[.int .u8 t, .slice a8 body.length c8] 47)) rfl (.cells #[.int .i64 (at_ : Nat)] 3)
        rw [World.size_alloc] at hh6
        have HH6 := hide hh6
        have HX6 := hide hx6
        have HB6 := hide (HB10.out.trans (hb6.mono hs10))
        have hs6 := HB6.out.size
        have HBO6 := hide (bown_keep HBO4.out hb6)
        have HI6 := hide (iown_keep HI4.out hb6)
        have HBD6 := hide (bod_keep HBOD.out hb6)
        clear hb5 hb6 hh6 hx5 hx6 HBO4 HI4 HBOD
        go_wp2_with (refine append_int w _ w.heap.size _ at_ _ _ ns its rfl (.tmp 22) (.tmp 24) rfl rfl rfl HI6.out HBO6.out HH6.out (by omega) hs6 HB6.out ?_)
        intro v7 w7 hi7 hbo7 hkeep hb7
        have HI7 := hide hi7
        have HBO7 := hide hbo7
        have HB7 := hide hb7
        have HX7 := hide (hkeep _ _ _ _ _ HX6.out (by decide))
        have HBD7 := hide (show Bod w7 (.slice a8 body.length c8) body from bod_by HBD6.out fun k cs fr hk => hkeep _ _ _ _ _ hk (by decide))
        clear hi7 hbo7 hkeep hb7 HI6 HBO6 HH6 HX6 HBD6 HB6
        obtain ⟨c0, c1⟩ := cells2 HX7.out
        have hs7 := HB7.out.size
        have hb8 := (Below.refl w7.heap.size w7).alloc (Nat.le_refl _) (.cells #[.int .u8 t, .slice a8 body.length c8] 47)
        have HH8 := hide (heap_new (w := w7) rfl (.cells #[.int .u8 t, .slice a8 body.length c8] 47))
        have HB8 := hide (HB7.out.trans (hb8.mono hs7))
        have hs8 := HB8.out.size
        have HBO8 := hide (bown_keep HBO7.out hb8)
        have HI8 := hide (iown_keep HI7.out hb8)
        have HBD8 := hide (bod_keep HBD7.out hb8)
        clear hb8
        go_wp2_with (refine append_blk2 w _ w.heap.size _ _ _ its _ (t, .slice a8 body.length c8, body) rfl (.tmp 26) (.tmp 28) rfl rfl rfl HBO8.out HI8.out HTT.out HBD8.out HH8.out (by omega) hs8 HB8.out ?_)
        intro v9 w9 hbo9 hi9 hb9
        have HI9 := hide hi9
        have HBO9 := hide hbo9
        have HB9 := hide hb9
        clear hi9 hbo9 hb9 HBO8 HI8 HB8 HH8 HBD8 c0 c1
        go_wp2_with fail
        refine ⟨⟨f2, at_ + s, ns ++ [at_], its ++ [(t, .slice a8 body.length c8, body)], by simp, by omega, by omega, HI9.out, HBO9.out, ?_, ?_, ?_, ?_, ?_, HB9.out⟩, ?_⟩
        · simp only [List.length_append, List.length_cons, List.length_nil]; omega
        · simp only [List.length_append, List.length_cons, List.length_nil]; omega
        · rw [H1'.out, List.append_assoc]; rfl
        · rw [H2'.out, blOf_app, List.append_assoc]; rfl
        · intro x hx g hg
          rcases List.mem_append.1 hx with hx | hx
          · exact HBA.out x hx g hg
          · simp at hx
            subst hx
            exact HB8'.out g hg
        · simp only [intOf]; omega

set_option maxRecDepth 100000 in
theorem ref_scan_nil (w : World) : Calls Tryd.prog 41 #[.slice none 0 0] w fun e w' => RefScanOut w.heap.size [] e w' ∧ Below w.heap.size w w' := by
  go_enter Tryd.func41, Tryd.ntmps41
  go_wp2_with fail
  go_loopw [4, 5, 6] (fun s4 s5 s6 wr => s4 = .slice none 0 0 ∧ s5 = .slice none 0 0 ∧ s6 = .int .i64 0 ∧ w = wr) (fun _ _ _ _ => 0)
  case atStart => exact ⟨rfl, rfl, rfl, rfl⟩
  case round =>
    obtain ⟨rfl, rfl, rfl, rfl⟩ := hrel
    go_wp2_with fail
    refine (ref_decode_nil w none 0).mono ?_
    rintro e w4 ⟨hout, hb4⟩
    rw [RefDecOut, show dec [] = .inl 1 from rfl] at hout
    subst hout
    have hb5 := hb4.alloc hb4.size (.cells #[.int .u8 0, .slice none 0 0] 47)
    have HB5 := hide hb5
    clear hb4 hb5
    go_wp2_with fail
    go_ret2
    exact ⟨⟨_, _, [], rfl, iown_nil _ _, bown_nil _ _, rfl, by simp⟩, HB5.out⟩
theorem ref_scan_any (w : World) (v : Value) (bs : List Nat) (hs : Src w v bs) (hl : bs.length ≤ 100000000) :
    Calls Tryd.prog 41 #[v] w fun e w' => RefScanOut w.heap.size bs e w' ∧ Below w.heap.size w w' := by
  rcases hs with ⟨h256, ⟨rfl, rfl⟩ | ⟨ad, cap, rfl, h1, h2, hc⟩⟩
  · exact ref_scan_nil w
  · exact ref_scan_some w ad cap bs.length bs rfl ⟨h256, .inr ⟨ad, cap, rfl, h1, h2, hc⟩⟩ hl
end Go.Proofs.YtgebekklkodpaaaDoor
