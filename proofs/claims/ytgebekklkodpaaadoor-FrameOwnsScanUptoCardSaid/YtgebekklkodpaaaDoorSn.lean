/- frame.Scan, and what its iterator tells -/
import Derived.Test.YtgebekklkodpaaaDoorRf
import Derived.Test.YtgebekklkodpaaaDoorRefSc
import Derived.Test.YtgebekklkodpaaaDoorDc
import Derived.RangeFuncLeaves
import Derived.RangeFuncCalls
import Derived.Shelf.Abstract
import Derived.Shelf.RegionOpen
import Derived.OwnWalkIn
import Derived.TacticsInMore
import Derived.LoopNIn
import Derived.LoopIn
namespace Go.Proofs.YtgebekklkodpaaaDoor
open Go.RowKit Go.Shelf
attribute [local go_sem] Oper.semAt_some

/-- the bytes that a Scan has kept -/
def Kept (w : World) (Bx g : Nat) (bs : List Nat) : Prop :=
  w.heap[Bx]? = some (.cells #[.slice (some ⟨g, 0, none⟩) bs.length bs.length] 25 (0, 0)) ∧ w.heap[g]? = some (.cells (u8s bs).toArray 5 (0, 0))
theorem kept_same {S : Nat → Prop} {w w' : World} {Bx g : Nat} {bs : List Nat} (h : Kept w Bx g bs) (hb : Same S w w') (h1 : S Bx) (h2 : S g) : Kept w' Bx g bs :=
  ⟨hb.same _ _ h1 h.1, hb.same _ _ h2 h.2⟩
theorem zip_same {S : Nat → Prop} {w w' : World} (Z : Zip w) (h : Same S w w') (h16 : S 16) : Zip w' := fun k hk => same_cell h (p := ⟨16, k, none⟩) h16 (Z k hk)
theorem err_same2 {S : Nat → Prop} {w w' : World} {g : Nat} {a : Addr} (Z : ErrAt w g a) (h : Same S w w') (hg : S g) : ErrAt w' g a := same_cell h (p := ⟨g, 0, none⟩) hg Z

set_option maxRecDepth 100000 in
theorem scan_any (w : World) (v : Value) (bs : List Nat) (hs : Src w v bs) (hl : bs.length ≤ 140737488355328) :
    Calls Tryd.prog 45 #[v] w fun e w' => ∃ Bx g, e = .returned (.func (.func 71) #[] #[.pointer (some ⟨Bx, 0, none⟩)]) ∧ w.heap.size ≤ Bx ∧ w.heap.size ≤ g ∧ Kept w' Bx g bs ∧ Below w.heap.size w w' := by
  obtain ⟨ao, cap, rfl⟩ := src_form hs
  have hb1 := (Below.refl w.heap.size w).alloc (Nat.le_refl _) (.cells #[.slice ao bs.length cap] 25)
  have HB1 := hide hb1
  have HC := hide (concat_any (w.alloc (.cells #[.slice ao bs.length cap] 25)) w.heap.size (.slice ao bs.length cap) bs (by rw [World.cell?_alloc_new]; rfl) (src_keep hs hb1) hl)
  clear hb1 hs
  go_enter Tryd.func45, Tryd.ntmps45
  go_wp2_with fail
  refine HC.out.mono ?_
  rintro e w2 ⟨rfl, hh, hb⟩
  rw [World.size_alloc] at hh hb ⊢
  have HB2 := hide (HB1.out.trans (hb.mono (by omega)))
  have hz := heap_lt hh
  have HH := hide hh
  clear hh hb
  go_wp2_with fail
  go_ret
  exact ⟨w2.heap.size, w.heap.size + 1, rfl, HB2.out.size, by omega, ⟨heap_new rfl _, heap_old HH.out _⟩, HB2.out.alloc HB2.out.size _⟩

theorem wide_depth {n : Nat} : Fence.wide.depth.isSome = true → 1 ≤ n := fun h => by cases h
theorem src_nil (w : World) (ad : Addr) : Src w (.slice (some ad) 0 0) [] := ⟨by simp, .inr ⟨ad, 0, rfl, by simp, by omega, by simp⟩⟩
/-- what is told: its place, its tag, its body's value, its body -/
abbrev Itm := Nat × It
def itEnc (x : Itm) : Array Value := #[.int .i64 (x.1 : Nat), .agg #[.int .u8 (x.2.1 : Nat), x.2.2.1]]
def itOk (A : World) (x : Itm) (C : World) : Prop :=
  x.2.1 < 256 ∧ ∃ gx m, x.2.2.1 = .slice (some ⟨gx, 0, none⟩) m m ∧ m = x.2.2.2.length ∧ A.heap.size ≤ gx ∧ C.heap[gx]? = some (.cells (u8s x.2.2.2).toArray 5 (0, 0)) ∧ (∀ y ∈ x.2.2.2, y < 256) ∧ m ≤ 100000000
def pls (xs : List Itm) : List Nat := xs.map (·.1)
def bds (xs : List Itm) : List Bl := xs.map fun x => (x.2.1, x.2.2.2)
def scanAll (bs : List Nat) (xs : List Itm) : Prop := (scan (bs.length + 1) 0 bs).1 = pls xs ∧ (scan (bs.length + 1) 0 bs).2 = bds xs
def scanPart (bs : List Nat) (xs : List Itm) : Prop := ∃ r1 r2, (scan (bs.length + 1) 0 bs).1 = pls xs ++ r1 ∧ (scan (bs.length + 1) 0 bs).2 = bds xs ++ r2

set_option maxRecDepth 100000 in
set_option maxHeartbeats 4000000 in
theorem scan_tells (S : Nat → Prop) (n Bx g : Nat) (bs : List Nat) (w : World) (Z : Zip w) (E : Nat → Addr) (h0 : ErrAt w 0 (E 0)) (h1 : ErrAt w 1 (E 1)) (h2 : ErrAt w 2 (E 2)) (h6 : ErrAt w 6 (E 6)) (hg : ∀ k, k < 17 → S k) (hg2 : 17 ≤ w.heap.size) (hBx : S Bx) (hgB : S g) (hk : Kept w Bx g bs)
    (hx : ∀ x ∈ bs, x < 256) (hl : bs.length ≤ 100000000) :
    Tells Fence.wide n Tryd.prog 71 #[.pointer (some ⟨Bx, 0, none⟩)] itEnc itOk (scanAll bs) (scanPart bs) S w := fun l J Jx W hW hJ hJx hY hst => by
  obtain ⟨m, hm⟩ : ∃ m, bs.length = m := ⟨_, rfl⟩
  have hbW : Same S w W := same_below hW
  have HZ := hide Z
  have H0 := hide h0
  have H1 := hide h1
  have H2 := hide h2
  have H6 := hide h6
  have HK := hide hk
  have HX := hide hx
  have HM := hide hm
  have HY := hide hY
  have HJ := hide hJ
  have HBW := hide hbW
  have HST := hide hst
  rw [hm] at hl
  clear Z h0 h1 h2 h6 hk hx hm hY hJ hbW hst hW
  refine callsIn_of_wp Tryd.func71 rfl trivial ?_ rfl
  simp only [Tryd.ntmps71, List.size_toArray, List.length_cons, List.length_nil, Nat.reduceAdd, Nat.reduceSub, Array.replicate_succ, Array.replicate_zero, List.push_toArray, List.append_toArray, List.nil_append, List.cons_append]
  gi_wp2_with fail
  gi_loopw [3] (fun s3 wr => ∃ (f at_ : Nat) (pre : List Itm), s3 = .int .i64 at_ ∧ at_ ≤ m ∧ m - at_ < f ∧ (scan (bs.length + 1) 0 bs).1 = pls pre ++ (scan f at_ (bs.drop at_)).1 ∧ (scan (bs.length + 1) 0 bs).2 = bds pre ++ (scan f at_ (bs.drop at_)).2 ∧ J pre wr ∧ Same S w wr) (fun s3 _ => m - (intOf s3).toNat)
  case atStart => exact ⟨bs.length + 1, 0, [], rfl, by omega, by have := HM.out; omega, rfl, rfl, HST.out, HBW.out⟩
  case round =>
    obtain ⟨f, at_, pre, rfl, ham, hf, h1, h2, hj, hb⟩ := hrel
    have hs := hb.size
    obtain ⟨hk1, hk2⟩ := kept_same HK.out hb hBx hgB
    have hc := cell_at hk1 0
    rw [HM.out] at hc
    have hsrc := src_block hk2 HX.out (by have := HM.out; omega)
    have hpart := src_part hsrc at_ bs.length (bs.length - at_) (by have := HM.out; omega) (Nat.le_refl _) (by have := HM.out; omega) (by have := HM.out; omega)
    have HC := hide hc
    have HJr := hide hj
    have HB := hide hb
    have HS1 := hide h1
    have HS2 := hide h2
    by_cases hce : at_ = m
    · have hr : bs.drop at_ = [] := by rw [hce]; exact List.drop_eq_nil_of_le (by rw [HM.out]; exact Nat.le_refl _)
      have HD := hide (decode_any wr (zip_same HZ.out hb (hg _ (by omega))) E (err_same2 H0.out hb (hg _ (by omega))) (err_same2 H1.out hb (hg _ (by omega))) (err_same2 H2.out hb (hg _ (by omega))) (err_same2 H6.out hb (hg _ (by omega))) (by omega) (.slice (some ⟨g, 0, none⟩) 0 0) [] (src_nil _ _) (by simp))
      have HF1 := hide (HS1.out.trans (by rw [scan_err f at_ _ 1 (by rw [hr]; rfl), List.append_nil]))
      have HF2 := hide (HS2.out.trans (by rw [scan_err f at_ _ 1 (by rw [hr]; rfl), List.append_nil]))
      have c0 := HC.out
      clear hc h1 h2 hj hb hpart hsrc hk1 hk2 hr
      subst hce
      gi_wp2_with fail
      refine ⟨trivial, wide_depth, (callsIn_wide.2 HD.out).mono ?_⟩
      rintro e w4 ⟨hout, hb4⟩
      rw [DecOut, show dec [] = .inl 1 from rfl] at hout
      subst hout
      have hb5 := hb4.trans ((Below.refl w4.heap.size w4).alloc (Nat.le_refl _) (.cells #[.int .u8 0, .slice none 0 0] 47) |>.mono hb4.size)
      have HJ5 := hide (HJ.out _ _ _ HJr.out hb5)
      clear hb4 hb5
      gi_wp2_with fail
      refine ⟨fun _ h => (by cases h), ?_⟩
      gi_wp2_with fail
      refine bodyPost_ret (results_none rfl _ _ _) rfl ?_
      exact ⟨⟨_, rfl⟩, .inl ⟨pre, ⟨HF1.out, HF2.out⟩, HJ5.out⟩⟩
    · have a1 : (at_ : Int) < (m : Int) := by omega
      have hpl : (bs.drop at_).length = m - at_ := by rw [List.length_drop, HM.out]
      have hsr : Src wr (.slice (some ⟨g, at_, none⟩) (m - at_) (m - at_)) (bs.drop at_) := by
        rw [List.take_length, HM.out, Addr.add_lit, Nat.zero_add] at hpart
        exact hpart
      have HR := hide hsr
      have HPL := hide hpl
      have H256 := hide (fun x hx => HX.out x (List.mem_of_mem_drop hx) : ∀ x ∈ bs.drop at_, x < 256)
      have HD := hide (decode_any wr (zip_same HZ.out hb (hg _ (by omega))) E (err_same2 H0.out hb (hg _ (by omega))) (err_same2 H1.out hb (hg _ (by omega))) (err_same2 H2.out hb (hg _ (by omega))) (err_same2 H6.out hb (hg _ (by omega))) (by omega) _ (bs.drop at_) hsr (by rw [hpl]; omega))
      have c0 := HC.out
      have a2 : (at_ : Int) ≤ (m : Int) := by omega
      have a3 : m ≠ at_ := fun h => hce h.symm
      have a4 : m - at_ ≠ 0 := by omega
      clear hc h1 h2 hj hb hpart hsrc hk1 hk2 hsr hpl
      gi_wp2_with fail
      refine ⟨trivial, wide_depth, (callsIn_wide.2 HD.out).mono ?_⟩
      rintro e w4 ⟨hout, hb4⟩
      have HB4 := hide hb4
      clear hb4 HD
      cases hd : dec (bs.drop at_) with
      | inl q =>
        rw [DecOut, hd] at hout
        subst hout
        have HF1 := hide (HS1.out.trans (by rw [scan_err f at_ _ q hd, List.append_nil]))
        have HF2 := hide (HS2.out.trans (by rw [scan_err f at_ _ q hd, List.append_nil]))
        have hb5 := HB4.out.trans ((Below.refl w4.heap.size w4).alloc (Nat.le_refl _) (.cells #[.int .u8 0, .slice none 0 0] 47) |>.mono HB4.out.size)
        have HJ5 := hide (HJ.out _ _ _ HJr.out hb5)
        clear hd hb5
        gi_wp2_with fail
        refine ⟨fun _ h => (by cases h), ?_⟩
        gi_wp2_with fail
        refine bodyPost_ret (results_none rfl _ _ _) rfl ?_
        exact ⟨⟨_, rfl⟩, .inl ⟨pre, ⟨HF1.out, HF2.out⟩, HJ5.out⟩⟩
      | inr q =>
        obtain ⟨i, j⟩ := q
        rw [DecOut, hd] at hout
        obtain ⟨gx, rfl, hgx, hhx⟩ := hout
        obtain ⟨t, r2, hrt, ht1, hij, hjl, hi2, _⟩ := dec_ok H256.out hd
        have htt : t < 256 := H256.out t (by rw [hrt]; exact List.mem_cons_self ..)
        have hpl := HPL.out
        obtain ⟨f2, rfl⟩ : ∃ f2, f = f2 + 1 := ⟨f - 1, by omega⟩
        have H1' := HS1.out.trans (by rw [scan_ok f2 at_ _ i j hd])
        have H2' := HS2.out.trans (by rw [scan_ok f2 at_ _ i j hd])
        have hbl : (((bs.drop at_).take j).drop i).length = j - i := by rw [List.length_drop, List.length_take]; omega
        have hb256 : ∀ y ∈ ((bs.drop at_).take j).drop i, y < 256 := fun y hy => H256.out y (List.mem_of_mem_take (List.mem_of_mem_drop hy))
        obtain ⟨body, hbody⟩ : ∃ body, ((bs.drop at_).take j).drop i = body := ⟨_, rfl⟩
        rw [hbody] at hhx H2' hbl hb256
        rw [show (bs.drop at_).getD 0 0 = t by rw [hrt]; rfl] at H2' ⊢
        rw [List.drop_drop] at H1' H2'
        obtain ⟨k, hk⟩ : ∃ k, j - i = k := ⟨_, rfl⟩
        obtain ⟨s, hs4⟩ : ∃ s, j + 4 = s := ⟨_, rfl⟩
        rw [hk] at hbl ⊢
        rw [hs4] at hjl H1' H2' ⊢
        have hkm : k ≤ m := by omega
        have hs44 : 4 ≤ s := by omega
        have hse : at_ + s ≤ m := by omega
        have hq5 := (Below.refl w4.heap.size w4).alloc (Nat.le_refl _) (.cells #[.int .u8 t, .slice (some ⟨gx, 0, none⟩) k k] 47)
        have hok : itOk wr (at_, t, .slice (some ⟨gx, 0, none⟩) k k, body) (w4.alloc (.cells #[.int .u8 t, .slice (some ⟨gx, 0, none⟩) k k] 47)) :=
          ⟨htt, gx, k, rfl, hbl.symm, hgx, heap_old hhx _, hb256, by omega⟩
        have HB5 := hide (HB4.out.trans (hq5.mono HB4.out.size))
        obtain ⟨fn, tmps, assign, bdy, hy, hR⟩ := HY.out pre (at_, t, .slice (some ⟨gx, 0, none⟩) k k, body) wr _ HJr.out HB5.out hok
        have HH1 := hide H1'
        have HH2 := hide H2'
        have HRD := hide hR
        dsimp only [itEnc] at hy
        clear hd hhx hrt hok hq5 H1' H2' hbody hb256 hpl hR hk hs4 hij hjl hi2 ht1 hbl
        gi_wp2_with fail
        refine ⟨wide_depth, HRD.out.mono ?_⟩
        rintro e W3 (⟨rfl, hJ3, hk3⟩ | ⟨rfl, hJx3⟩)
        · have HJ3 := hide hJ3
          have HB3 := hide ((HB.out.trans (same_below HB5.out)).trans hk3)
          have e1 : IntKind.i64.wrap ((at_ : Int) + (s : Int)) = ((at_ + s : Nat) : Int) := by rw [IntKind.wrap_i64]; omega
          clear hJ3 hk3 hy
          gi_wp2_with fail
          refine ⟨⟨f2, at_ + s, pre ++ [(at_, t, .slice (some ⟨gx, 0, none⟩) k k, body)], by simp, hse, by omega, ?_, ?_, HJ3.out, HB3.out⟩, by simp [intOf]; omega⟩
          · rw [HH1.out]; simp [pls]
          · rw [HH2.out]; simp [bds]
        · have HJx3 := hide hJx3
          clear hJx3 hy
          gi_wp2_with fail
          refine bodyPost_ret (results_none rfl _ _ _) rfl ?_
          refine ⟨⟨_, rfl⟩, .inr ⟨_, ⟨(scan f2 (at_ + s) (bs.drop (at_ + s))).1, (scan f2 (at_ + s) (bs.drop (at_ + s))).2, ?_, ?_⟩, HJx3.out⟩⟩
          · rw [HH1.out]; simp [pls]
          · rw [HH2.out]; simp [bds]

def itAt (bs : List Nat) (pre : List Itm) (A : World) (x : Itm) (C : World) : Prop := scanPart bs (pre ++ [x]) ∧ itOk A x C

set_option maxRecDepth 100000 in
set_option maxHeartbeats 4000000 in
theorem scan_tells_at (S : Nat → Prop) (n Bx g : Nat) (bs : List Nat) (w : World) (Z : Zip w) (E : Nat → Addr) (h0 : ErrAt w 0 (E 0)) (h1 : ErrAt w 1 (E 1)) (h2 : ErrAt w 2 (E 2)) (h6 : ErrAt w 6 (E 6)) (hg : ∀ k, k < 17 → S k) (hg2 : 17 ≤ w.heap.size) (hBx : S Bx) (hgB : S g) (hk : Kept w Bx g bs)
    (hx : ∀ x ∈ bs, x < 256) (hl : bs.length ≤ 100000000) :
    TellsAt Fence.wide n Tryd.prog 71 #[.pointer (some ⟨Bx, 0, none⟩)] itEnc (itAt bs) (scanAll bs) (scanPart bs) S w := fun l J Jx W hW hJ hJx hY hst => by
  obtain ⟨m, hm⟩ : ∃ m, bs.length = m := ⟨_, rfl⟩
  have hbW : Same S w W := same_below hW
  have HZ := hide Z
  have H0 := hide h0
  have H1 := hide h1
  have H2 := hide h2
  have H6 := hide h6
  have HK := hide hk
  have HX := hide hx
  have HM := hide hm
  have HY := hide hY
  have HJ := hide hJ
  have HBW := hide hbW
  have HST := hide hst
  rw [hm] at hl
  clear Z h0 h1 h2 h6 hk hx hm hY hJ hbW hst hW
  refine callsIn_of_wp Tryd.func71 rfl trivial ?_ rfl
  simp only [Tryd.ntmps71, List.size_toArray, List.length_cons, List.length_nil, Nat.reduceAdd, Nat.reduceSub, Array.replicate_succ, Array.replicate_zero, List.push_toArray, List.append_toArray, List.nil_append, List.cons_append]
  gi_wp2_with fail
  gi_loopw [3] (fun s3 wr => ∃ (f at_ : Nat) (pre : List Itm), s3 = .int .i64 at_ ∧ at_ ≤ m ∧ m - at_ < f ∧ (scan (bs.length + 1) 0 bs).1 = pls pre ++ (scan f at_ (bs.drop at_)).1 ∧ (scan (bs.length + 1) 0 bs).2 = bds pre ++ (scan f at_ (bs.drop at_)).2 ∧ J pre wr ∧ Same S w wr) (fun s3 _ => m - (intOf s3).toNat)
  case atStart => exact ⟨bs.length + 1, 0, [], rfl, by omega, by have := HM.out; omega, rfl, rfl, HST.out, HBW.out⟩
  case round =>
    obtain ⟨f, at_, pre, rfl, ham, hf, h1, h2, hj, hb⟩ := hrel
    have hs := hb.size
    obtain ⟨hk1, hk2⟩ := kept_same HK.out hb hBx hgB
    have hc := cell_at hk1 0
    rw [HM.out] at hc
    have hsrc := src_block hk2 HX.out (by have := HM.out; omega)
    have hpart := src_part hsrc at_ bs.length (bs.length - at_) (by have := HM.out; omega) (Nat.le_refl _) (by have := HM.out; omega) (by have := HM.out; omega)
    have HC := hide hc
    have HJr := hide hj
    have HB := hide hb
    have HS1 := hide h1
    have HS2 := hide h2
    by_cases hce : at_ = m
    · have hr : bs.drop at_ = [] := by rw [hce]; exact List.drop_eq_nil_of_le (by rw [HM.out]; exact Nat.le_refl _)
      have HD := hide (decode_any wr (zip_same HZ.out hb (hg _ (by omega))) E (err_same2 H0.out hb (hg _ (by omega))) (err_same2 H1.out hb (hg _ (by omega))) (err_same2 H2.out hb (hg _ (by omega))) (err_same2 H6.out hb (hg _ (by omega))) (by omega) (.slice (some ⟨g, 0, none⟩) 0 0) [] (src_nil _ _) (by simp))
      have HF1 := hide (HS1.out.trans (by rw [scan_err f at_ _ 1 (by rw [hr]; rfl), List.append_nil]))
      have HF2 := hide (HS2.out.trans (by rw [scan_err f at_ _ 1 (by rw [hr]; rfl), List.append_nil]))
      have c0 := HC.out
      clear hc h1 h2 hj hb hpart hsrc hk1 hk2 hr
      subst hce
      gi_wp2_with fail
      refine ⟨trivial, wide_depth, (callsIn_wide.2 HD.out).mono ?_⟩
      rintro e w4 ⟨hout, hb4⟩
      rw [DecOut, show dec [] = .inl 1 from rfl] at hout
      subst hout
      have hb5 := hb4.trans ((Below.refl w4.heap.size w4).alloc (Nat.le_refl _) (.cells #[.int .u8 0, .slice none 0 0] 47) |>.mono hb4.size)
      have HJ5 := hide (HJ.out _ _ _ HJr.out hb5)
      clear hb4 hb5
      gi_wp2_with fail
      refine ⟨fun _ h => (by cases h), ?_⟩
      gi_wp2_with fail
      refine bodyPost_ret (results_none rfl _ _ _) rfl ?_
      exact ⟨⟨_, rfl⟩, .inl ⟨pre, ⟨HF1.out, HF2.out⟩, HJ5.out⟩⟩
    · have a1 : (at_ : Int) < (m : Int) := by omega
      have hpl : (bs.drop at_).length = m - at_ := by rw [List.length_drop, HM.out]
      have hsr : Src wr (.slice (some ⟨g, at_, none⟩) (m - at_) (m - at_)) (bs.drop at_) := by
        rw [List.take_length, HM.out, Addr.add_lit, Nat.zero_add] at hpart
        exact hpart
      have HR := hide hsr
      have HPL := hide hpl
      have H256 := hide (fun x hx => HX.out x (List.mem_of_mem_drop hx) : ∀ x ∈ bs.drop at_, x < 256)
      have HD := hide (decode_any wr (zip_same HZ.out hb (hg _ (by omega))) E (err_same2 H0.out hb (hg _ (by omega))) (err_same2 H1.out hb (hg _ (by omega))) (err_same2 H2.out hb (hg _ (by omega))) (err_same2 H6.out hb (hg _ (by omega))) (by omega) _ (bs.drop at_) hsr (by rw [hpl]; omega))
      have c0 := HC.out
      have a2 : (at_ : Int) ≤ (m : Int) := by omega
      have a3 : m ≠ at_ := fun h => hce h.symm
      have a4 : m - at_ ≠ 0 := by omega
      clear hc h1 h2 hj hb hpart hsrc hk1 hk2 hsr hpl
      gi_wp2_with fail
      refine ⟨trivial, wide_depth, (callsIn_wide.2 HD.out).mono ?_⟩
      rintro e w4 ⟨hout, hb4⟩
      have HB4 := hide hb4
      clear hb4 HD
      cases hd : dec (bs.drop at_) with
      | inl q =>
        rw [DecOut, hd] at hout
        subst hout
        have HF1 := hide (HS1.out.trans (by rw [scan_err f at_ _ q hd, List.append_nil]))
        have HF2 := hide (HS2.out.trans (by rw [scan_err f at_ _ q hd, List.append_nil]))
        have hb5 := HB4.out.trans ((Below.refl w4.heap.size w4).alloc (Nat.le_refl _) (.cells #[.int .u8 0, .slice none 0 0] 47) |>.mono HB4.out.size)
        have HJ5 := hide (HJ.out _ _ _ HJr.out hb5)
        clear hd hb5
        gi_wp2_with fail
        refine ⟨fun _ h => (by cases h), ?_⟩
        gi_wp2_with fail
        refine bodyPost_ret (results_none rfl _ _ _) rfl ?_
        exact ⟨⟨_, rfl⟩, .inl ⟨pre, ⟨HF1.out, HF2.out⟩, HJ5.out⟩⟩
      | inr q =>
        obtain ⟨i, j⟩ := q
        rw [DecOut, hd] at hout
        obtain ⟨gx, rfl, hgx, hhx⟩ := hout
        obtain ⟨t, r2, hrt, ht1, hij, hjl, hi2, _⟩ := dec_ok H256.out hd
        have htt : t < 256 := H256.out t (by rw [hrt]; exact List.mem_cons_self ..)
        have hpl := HPL.out
        obtain ⟨f2, rfl⟩ : ∃ f2, f = f2 + 1 := ⟨f - 1, by omega⟩
        have H1' := HS1.out.trans (by rw [scan_ok f2 at_ _ i j hd])
        have H2' := HS2.out.trans (by rw [scan_ok f2 at_ _ i j hd])
        have hbl : (((bs.drop at_).take j).drop i).length = j - i := by rw [List.length_drop, List.length_take]; omega
        have hb256 : ∀ y ∈ ((bs.drop at_).take j).drop i, y < 256 := fun y hy => H256.out y (List.mem_of_mem_take (List.mem_of_mem_drop hy))
        obtain ⟨body, hbody⟩ : ∃ body, ((bs.drop at_).take j).drop i = body := ⟨_, rfl⟩
        rw [hbody] at hhx H2' hbl hb256
        rw [show (bs.drop at_).getD 0 0 = t by rw [hrt]; rfl] at H2' ⊢
        rw [List.drop_drop] at H1' H2'
        obtain ⟨k, hk⟩ : ∃ k, j - i = k := ⟨_, rfl⟩
        obtain ⟨s, hs4⟩ : ∃ s, j + 4 = s := ⟨_, rfl⟩
        rw [hk] at hbl ⊢
        rw [hs4] at hjl H1' H2' ⊢
        have hkm : k ≤ m := by omega
        have hs44 : 4 ≤ s := by omega
        have hse : at_ + s ≤ m := by omega
        have hq5 := (Below.refl w4.heap.size w4).alloc (Nat.le_refl _) (.cells #[.int .u8 t, .slice (some ⟨gx, 0, none⟩) k k] 47)
        have hpt : scanPart bs (pre ++ [(at_, t, .slice (some ⟨gx, 0, none⟩) k k, body)]) :=
          ⟨(scan f2 (at_ + s) (bs.drop (at_ + s))).1, (scan f2 (at_ + s) (bs.drop (at_ + s))).2, by rw [H1']; simp [pls], by rw [H2']; simp [bds]⟩
        have hok : itAt bs pre wr (at_, t, .slice (some ⟨gx, 0, none⟩) k k, body) (w4.alloc (.cells #[.int .u8 t, .slice (some ⟨gx, 0, none⟩) k k] 47)) :=
          ⟨hpt, htt, gx, k, rfl, hbl.symm, hgx, heap_old hhx _, hb256, by omega⟩
        have HB5 := hide (HB4.out.trans (hq5.mono HB4.out.size))
        obtain ⟨fn, tmps, assign, bdy, hy, hR⟩ := HY.out pre (at_, t, .slice (some ⟨gx, 0, none⟩) k k, body) wr _ HJr.out HB5.out hok
        have HH1 := hide H1'
        have HH2 := hide H2'
        have HRD := hide hR
        dsimp only [itEnc] at hy
        clear hd hhx hrt hok hpt hq5 H1' H2' hbody hb256 hpl hR hk hs4 hij hjl hi2 ht1 hbl
        gi_wp2_with fail
        refine ⟨wide_depth, HRD.out.mono ?_⟩
        rintro e W3 (⟨rfl, hJ3, hk3⟩ | ⟨rfl, hJx3⟩)
        · have HJ3 := hide hJ3
          have HB3 := hide ((HB.out.trans (same_below HB5.out)).trans hk3)
          have e1 : IntKind.i64.wrap ((at_ : Int) + (s : Int)) = ((at_ + s : Nat) : Int) := by rw [IntKind.wrap_i64]; omega
          clear hJ3 hk3 hy
          gi_wp2_with fail
          refine ⟨⟨f2, at_ + s, pre ++ [(at_, t, .slice (some ⟨gx, 0, none⟩) k k, body)], by simp, hse, by omega, ?_, ?_, HJ3.out, HB3.out⟩, by simp [intOf]; omega⟩
          · rw [HH1.out]; simp [pls]
          · rw [HH2.out]; simp [bds]
        · have HJx3 := hide hJx3
          clear hJx3 hy
          gi_wp2_with fail
          refine bodyPost_ret (results_none rfl _ _ _) rfl ?_
          refine ⟨⟨_, rfl⟩, .inr ⟨_, ⟨(scan f2 (at_ + s) (bs.drop (at_ + s))).1, (scan f2 (at_ + s) (bs.drop (at_ + s))).2, ?_, ?_⟩, HJx3.out⟩⟩
          · rw [HH1.out]; simp [pls]
          · rw [HH2.out]; simp [bds]
end Go.Proofs.YtgebekklkodpaaaDoor
