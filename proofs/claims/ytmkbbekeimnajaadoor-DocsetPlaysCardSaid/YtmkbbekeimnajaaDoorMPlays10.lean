/- texts of this proof, one behind the other: Dd Sz Rq Rt -/
import Derived.Test.YtmkbbekeimnajaaDoorMPlays0
import Derived.Test.YtmkbbekeimnajaaDoorMPlays1
import Derived.Test.YtmkbbekeimnajaaDoorMPlays2
import Derived.Test.YtmkbbekeimnajaaDoorMPlays3
import Derived.Test.YtmkbbekeimnajaaDoorMPlays4
import Derived.Test.YtmkbbekeimnajaaDoorMPlays5
import Derived.Test.YtmkbbekeimnajaaDoorMPlays6
import Derived.Test.YtmkbbekeimnajaaDoorMPlays7
import Derived.Test.YtmkbbekeimnajaaDoorMPlays8
import Derived.Test.YtmkbbekeimnajaaDoorMPlays9
import Derived.Sort.QuietIn
import Derived.Sort.BigQuietIn
import Derived.RangeFuncNested
import Derived.StillTailTactics
/-! Dd: Decode -/
namespace Go.Proofs.YtmkbbekeimnajaaDoor
open Go.RowKit Ds
theorem uv_inj {n k : Nat} {r s : List Nat} (hn : n ≤ 1048576) (hk : k ≤ 1048576) (h : Uv.uv n ++ r = Uv.uv k ++ s) : n = k ∧ r = s := by
  have h1 := Nm.num_uv n (by omega) r
  have h2 := Nm.num_uv k (by omega) s
  rw [h, h2] at h1
  have hl : (Uv.uv k).length = (Uv.uv n).length := by simpa using h1
  obtain ⟨e1, e2⟩ := List.append_inj h hl.symm
  refine ⟨?_, e2⟩
  have := congrArg Nm.val e1
  rwa [Nm.val_uv n (by omega), Nm.val_uv k (by omega)] at this
theorem src_block_lt {w : World} {ad : Addr} {n cap p a k : Nat} {bs : List Nat} (h : Src w (.slice (some ad) n cap) bs) (hb : 0 < bs.length) (hR : RdAt w p a (.slice (some ad) n cap) k) : ad.block < w.heap.size ∧ ad.block ≠ p := by
  obtain ⟨x, hx⟩ : ∃ x, bs[0]? = some x := ⟨_, List.getElem?_eq_getElem hb⟩
  obtain ⟨ad', had, hc⟩ := src_cell h hx
  obtain rfl : ad = ad' := by simpa using had
  have hbl : (ad.add 0).block = ad.block := by unfold Addr.add; split <;> rfl
  refine ⟨by rw [← hbl]; exact World.block_lt_of_cell? w _ hc, fun e => ?_⟩
  unfold RdAt at hR
  simp only [World.cell?, hbl, e, hR] at hc
  split at hc
  · cases hc
  · revert hc
    generalize (ad.add 0).off = o
    match o with
    | 0 => intro h; simp at h
    | 1 => intro h; simp at h
    | 2 => intro h; simp at h
    | o + 3 => intro h; simp at h
def DecOut (w w' : World) (bs : List Nat) (a : Addr) (e : Ending) : Prop :=
  (∃ n m S g, n ≤ 1048576 ∧ bs = encS n m ∧ e = .returned (.tuple #[.pointer (some ⟨S, 0, none⟩), .nilIface]) ∧ w.heap.size ≤ S ∧ w.heap.size ≤ g ∧ SetAt w' S g (nw n) n m) ∨
  ((∀ n m, n ≤ 1048576 → bs ≠ encS n m) ∧ e = .returned (.tuple #[.pointer none, .iface 153 (.pointer (some a))]))
theorem not_enc_uv {bs : List Nat} (h : ∀ n r, n ≤ 1048576 → bs ≠ Uv.uv n ++ r) : ∀ n m, n ≤ 1048576 → bs ≠ encS n m := fun n _ hn e => h n _ hn e
theorem not_enc_body {n : Nat} {r bs : List Nat} (hn : n ≤ 1048576) (hb : bs = Uv.uv n ++ r) (h : ∀ k, r ≠ body n k (nb n)) : ∀ n' m, n' ≤ 1048576 → bs ≠ encS n' m := fun n' m hn' e => by
  rw [hb] at e
  obtain ⟨rfl, e2⟩ := uv_inj hn hn' e
  exact h m e2
structure DcSt (w wr : World) (S g n p N cap at_ j : Nat) (m : Nat → Bool) (ao : Option Addr) (bs r0 : List Nat) : Prop where
  set : SetAt wr S g (nw n) n m
  rd : RdAt wr p at_ (.slice ao N cap) N
  src : Src wr (.slice ao N cap) bs
  below : Below w.heap.size w wr
  high : ∀ k, 256 * j ≤ k → m k = false
  read : r0 = body n m j ++ bs.drop at_
  le : at_ ≤ N
set_option maxRecDepth 100000 in
theorem new_reader2 (w : World) (v : Value) (bs : List Nat) (hs : Src w v bs) (hn : bs.length ≤ 140737488355328) :
    Calls Tryd.prog 62 #[v] w fun e w' => ∃ p bv, e = .returned (.pointer (some ⟨p, 0, none⟩)) ∧ w.heap.size ≤ p ∧ w'.heap.size = p + 1 ∧ RdAt w' p 0 bv bs.length ∧ Src w' bv bs ∧ Below w.heap.size w w' := by
  obtain ⟨ao, cap, rfl⟩ := src_form hs
  have HS := hide hs
  clear hs
  go_enter Tryd.func62, Tryd.ntmps62
  go_wp2_with fail
  have HBA := hide ((Below.refl w.heap.size w).alloc (Nat.le_refl _) (.cells #[.slice ao bs.length cap] 46))
  refine (concat_any _ w.heap.size (.slice ao bs.length cap) bs (by rw [World.cell?_alloc_new]; rfl) (src_keep HS.out HBA.out) hn).mono ?_
  rintro e w1 ⟨rfl, hh, hb⟩
  have HB1 := hide (HBA.out.trans (hb.mono HBA.out.size))
  rw [World.size_alloc] at hh
  have HS1 := hide (src_block hh HS.out.1 (by omega))
  clear hh hb
  go_wp2
  go_ret
  exact ⟨w1.heap.size, _, rfl, HB1.out.size, World.size_alloc _ _, heap_new rfl _, src_keep HS1.out ((Below.refl _ _).alloc (Nat.le_refl _) _), HB1.out.alloc HB1.out.size _⟩
set_option maxRecDepth 100000 in
set_option maxHeartbeats 4000000 in
theorem decode_any (w : World) (v : Value) (bs : List Nat) (hs : Src w v bs) (hl : bs.length ≤ 140737488351232) (E : Nat → Addr) (hE : Errs w E allErrs) (hg : 25 ≤ w.heap.size) :
    Calls Tryd.prog 30 #[v] w fun e w' => DecOut w w' bs (E 1) e ∧ Below w.heap.size w w' := by
  obtain ⟨ao0, cap0, rfl⟩ := src_form hs
  have HS := hide hs
  have HE := hide hE
  clear hs hE
  go_enter Tryd.func30, Tryd.ntmps30
  go_wp2_with fail
  refine (new_reader2 w _ bs HS.out (by omega)).mono ?_
  rintro e w1 ⟨p, bv, rfl, hp, hp1, hr1, hs1, hb1⟩
  obtain ⟨ao, cap, rfl⟩ := src_form hs1
  have HB1 := hide hb1
  have z1 := hb1.size
  have hE1 := HE.out.below hb1 (Nat.le_refl _) (ids_lt hg)
  have HE1 := hide hE1
  have HS1 := hide hs1
  have HU := hide (upto_any w1 p _ bs hr1 hs1 (by omega) E (hE1.cell 2 (by decide)) (hE1.cell 3 (by decide)) (hE1.cell 4 (by decide)) (by omega))
  have hpl := heap_lt hr1
  have HR1 := hide hr1
  clear hr1 hs1 hb1 hE1
  go_wp2_with fail
  refine HU.out.mono ?_
  rintro e w2 ⟨ho, hb2⟩
  have HB2 := hide (HB1.out.trans (hb2.mono hp))
  have HE2 := hide (HE.out.below HB2.out (Nat.le_refl _) (ids_lt hg))
  have z2 := HB2.out.size
  have z12 := hb2.size
  unfold UptoOut at ho
  rcases ho with ⟨n, r, hn, hbs, rfl, hr2⟩ | ⟨hno, a, rfl⟩
  · obtain ⟨N, hNe⟩ : ∃ N, bs.length = N := ⟨_, rfl⟩
    have hN0 : 0 < bs.length := by rw [hbs, List.length_append]; have := (Uv.uv_len n).2; omega
    obtain ⟨x0, hx0⟩ : ∃ x, bs[0]? = some x := ⟨_, List.getElem?_eq_getElem hN0⟩
    obtain ⟨ad, rfl, _⟩ := src_cell HS1.out hx0
    obtain ⟨hab1, hab2⟩ := src_block_lt HS1.out hN0 HR1.out
    obtain ⟨rfl, _⟩ : N = bs.length ∧ True := ⟨hNe.symm, trivial⟩
    obtain ⟨N, hNN⟩ : ∃ N, bs.length = N := ⟨_, rfl⟩
    rw [hNN] at hr2 HS1 hl
    have HNN := hide hNN
    obtain ⟨u, hu⟩ : ∃ u, (Uv.uv n).length = u := ⟨_, rfl⟩
    rw [hu] at hr2
    have huN : u ≤ N := by rw [← hNN, ← hu, hbs, List.length_append]; omega
    have hdr : bs.drop u = r := by rw [hbs, ← hu, List.drop_left]
    have hrl : r.length = N - u := by rw [← hdr, List.length_drop, hNN]
    have HDR := hide hdr
    have HRL := hide hrl
    have HBS := hide hbs
    have HR2 := hide hr2
    have hpl2 := heap_lt hr2
    have HS2 := hide (src_same (w' := w2) HS1.out (fun k hk => by
      have hk' : k = ad.block := by simpa [Value.ownBlock] using hk.symm
      subst hk'
      exact hb2.block _ (by omega)))
    have HLF := hide (left_any w2 p u N _ HR2.out huN (by omega))
    have hab : ad.block < w2.heap.size := by omega
    have hq : ((n : Int) + 256 - 1) / 256 = (nb n : Int) := by unfold nb; omega
    have hqw : IntKind.i64.wrap ((n : Int) + 256 - 1) = (n : Int) + 256 - 1 := by rw [IntKind.wrap_i64]; omega
    have hnbl : nb n ≤ 4096 := by unfold nb; omega
    obtain ⟨nbn, hnbn⟩ : ∃ k, nb n = k := ⟨_, rfl⟩
    rw [hnbn] at hq hnbl
    have HNB := hide hnbn
    have hE1 := HE2.out.cell 1 (by decide)
    clear hbs hu hdr hr2 hb2 hNN hx0 hN0 HR1 HS1 HU hnbn hNe
    by_cases hsh : N - u < nbn
    · have hlt : (N : Int) - (u : Int) < (nbn : Int) := by omega
      have HNO := hide (not_enc_body hn HBS.out (fun k e => by
        have h1 := (body_len n k (nb n)).1
        rw [← e, HRL.out, HNB.out] at h1
        omega))
      unfold ErrAt at hE1
      go_wp2_with fail
      refine HLF.out.mono ?_
      rintro e w3 ⟨rfl, q, rfl⟩
      go_wp2_with fail
      go_quiet (fail)
      go_wp2_with fail
      go_ret2
      exact ⟨.inr ⟨HNO.out, rfl⟩, below_drewN (below_drewN HB2.out _) _⟩
    · have hlt : ¬ (N : Int) - (u : Int) < (nbn : Int) := by omega
      clear hE1
      go_wp2_with fail
      refine HLF.out.mono ?_
      rintro e w3 ⟨rfl, q, rfl⟩
      have HR3 := hide (rd_drew HR2.out q)
      have HS3 := hide (src_drew HS2.out q)
      have HB3 := hide (below_drewN HB2.out q)
      have hz3 : (w2.drewN q).heap.size = w2.heap.size := rfl
      clear HR2 HS2 HLF HB2
      generalize w2.drewN q = w3 at *
      go_wp2_with fail
      refine (empty_any w3 n hn).mono ?_
      rintro e w4 ⟨S, g, rfl, hS, hgg, hs4, hb4⟩
      have HST := hide (show DcSt w w4 S g n p N cap u 0 (fun _ => false) (some ad) bs r from
        ⟨hs4, (hb4.block p (by omega)).trans HR3.out, src_keep HS3.out hb4, HB3.out.trans (hb4.mono (by omega)), fun _ _ => rfl, by rw [body_zero, HDR.out]; rfl, huN⟩)
      have z4 := hb4.size
      have hSp : S ≠ p := by omega
      have hgp : g ≠ p := by omega
      have hSa : S ≠ ad.block := by omega
      have hga : g ≠ ad.block := by omega
      clear hs4 hb4 HR3 HS3 HB3 hlt hq hqw
      go_wp2_with fail
      go_loopw [8] (fun i wr => ∃ (j at_ : Nat) (m : Nat → Bool), i = .int .i64 (j : Nat) ∧ j ≤ nbn ∧ DcSt w wr S g n p N cap at_ j m (some ad) bs r ∧ w4.heap.size ≤ wr.heap.size) (fun i _ => nbn - (intOf i).toNat)
      case atStart => exact ⟨0, u, _, rfl, Nat.zero_le _, HST.out, Nat.le_refl _⟩
      case round =>
        obtain ⟨j, at_, m, rfl, hj, hst, hzr⟩ := hrel
        have HSr := hide hst
        clear hst HST
        have hwj : IntKind.i64.wrap (256 * (j : Int)) = 256 * (j : Int) := by rw [IntKind.wrap_i64]; omega
        by_cases hlt : 256 * j < n
        · have hlti : 256 * (j : Int) < (n : Int) := by omega
          have hjn : j < nb n := nb_lt.2 hlt
          have HTK := hide (take_any wr j p at_ N cap (some ad) bs ⟨HSr.out.set, HSr.out.rd, HSr.out.src, Foot.refl _ _⟩ hlt HSr.out.high HNN.out (by omega) HSr.out.le hSp hgp
            (fun k hk => by
              have hk' : k = ad.block := by simpa [Value.ownBlock] using hk.symm
              subst hk'
              exact ⟨by omega, hab2⟩) (E 2) (err_below (HE.out.cell 2 (by decide)) HSr.out.below (by omega)) (by omega) (by omega) (by omega) (by omega))
          clear hwj
          go_wp2_with fail
          refine HTK.out.mono ?_
          rintro e w5 ⟨ht, hf⟩
          have hb5 := hf.below (B := w.heap.size) (fun k hk => by rcases hk with rfl | rfl | rfl <;> omega) HSr.out.below.size
          have HB5 := hide (HSr.out.below.trans hb5)
          have HF5 := hide hf
          have hz5 := hf.size
          unfold TakeOut at ht
          rcases ht with ⟨f, r', at', htk, rfl, hs5, hr5, hle5, hdr5⟩ | ⟨hno, rfl⟩
          · have HST5 := hide (show DcSt w w5 S g n p N cap at' (j + 1) (setB m n j f) (some ad) bs r from
              ⟨hs5, hr5, src_same HSr.out.src (fun k hk => by
                have hk' : k = ad.block := by simpa [Value.ownBlock] using hk.symm
                subst hk'
                exact hf.block _ (by omega) (fun e => by rcases e with e | e | e; exact hSa e.symm; exact hga e.symm; exact hab2 e)), HB5.out, fun k hk => by
                unfold setB
                have := wid_le n j
                rw [if_neg (by omega)]
                exact HSr.out.high k (by omega), by rw [hdr5]; exact body_read hjn HSr.out.read htk, hle5⟩)
            have hj1 : j + 1 ≤ nbn := by rw [← HNB.out]; exact hjn
            clear htk hs5 hr5 hdr5 hf hb5
            go_wp2_with fail
            exact ⟨⟨j + 1, at', _, vi (by omega), hj1, HST5.out, by omega⟩, by simp only [intOf]; omega⟩
          · have HNO := hide (not_enc_body hn HBS.out (body_stuck hjn HSr.out.read hno))
            have hE1 := err_below (HE.out.cell 1 (by decide)) HB5.out (by omega)
            unfold ErrAt at hE1
            clear hno hf hb5
            go_wp2_with fail
            go_quiet (fail)
            go_wp2_with fail
            go_ret2
            exact ⟨.inr ⟨HNO.out, rfl⟩, below_drewN HB5.out _⟩
        · have hlti : ¬ 256 * (j : Int) < (n : Int) := by omega
          obtain rfl : nbn = j := by have := HNB.out; unfold nb at this; omega
          have hrd := HSr.out.read
          rw [← HNB.out] at hrd
          by_cases hend : at_ = N
          · subst hend
            have HEN := hide (show bs = encS n m from by
              rw [HBS.out, hrd, List.drop_eq_nil_of_le (by rw [HNN.out]; exact Nat.le_refl _), List.append_nil]; rfl)
            have HDY := hide (done_yes wr p at_ _ HSr.out.rd)
            clear hrd
            go_wp2_with fail
            refine HDY.out.mono ?_
            rintro e w5 ⟨rfl, q5, rfl⟩
            have HFS := hide (HSr.out.set.keep (below_drewN (Below.refl _ _) q5))
            have HFB := hide (below_drewN HSr.out.below q5)
            go_wp2_with fail
            go_ret2
            exact ⟨.inl ⟨n, m, S, g, hn, HEN.out, rfl, by omega, by omega, HFS.out⟩, HFB.out⟩
          · have hle := HSr.out.le
            have HNO := hide (not_enc_body hn HBS.out (body_left hrd (fun e => by
              have := congrArg List.length e
              rw [List.length_drop, HNN.out] at this
              simp at this
              omega)))
            have HDN := hide (done_no wr p at_ N _ HSr.out.rd (by omega) (E 6) (err_below (HE.out.cell 6 (by decide)) HSr.out.below (by omega)))
            have hE1 := err_below (HE.out.cell 1 (by decide)) HSr.out.below (by omega)
            unfold ErrAt at hE1
            clear hrd
            go_wp2_with fail
            refine HDN.out.mono ?_
            rintro e w5 ⟨rfl, q5, rfl⟩
            go_wp2_with fail
            go_quiet (fail)
            go_wp2_with fail
            go_ret2
            exact ⟨.inr ⟨HNO.out, rfl⟩, below_drewN (below_drewN HSr.out.below _) _⟩
  · have HNO := hide (not_enc_uv hno)
    have hE1 := HE2.out.cell 1 (by decide)
    unfold ErrAt at hE1
    clear hno hb2
    go_wp2_with fail
    go_quiet (fail)
    go_wp2_with fail
    go_ret2
    exact ⟨.inr ⟨HNO.out, rfl⟩, below_drewN HB2.out _⟩
end Go.Proofs.YtmkbbekeimnajaaDoor

/-! Sz: the document's reading of a set's size (59) -/
namespace Go.Proofs.YtmkbbekeimnajaaDoor
open Go.RowKit Ds
structure SzInv (bs : List Nat) (i val s : Nat) : Prop where
  i4 : i ≤ 4
  il : i ≤ bs.length
  s_ : s = 128 ^ i
  vl : val < s
  rd : ∀ n r, n ≤ 1048576 → bs = Uv.uv n ++ r → ∃ y, bs.drop i = Uv.uvf (9 - i) y ++ r ∧ n = val + y * s ∧ (i = 0 ∨ 0 < y) ∧ (Uv.uv n).length = i + (Uv.uvf (9 - i) y).length
theorem sz_zero (bs : List Nat) : SzInv bs 0 0 1 := ⟨by omega, Nat.zero_le _, rfl, by omega, fun n r _ h => ⟨n, by rw [List.drop_zero, h]; rfl, by omega, .inl rfl, by simp [Uv.uv]⟩⟩
theorem drop_at {bs : List Nat} {i b : Nat} (h : bs[i]? = some b) : bs.drop i = b :: bs.drop (i + 1) := by
  obtain ⟨h1, h2⟩ := List.getElem?_eq_some_iff.1 h
  rw [List.drop_eq_getElem_cons h1, h2]
theorem sz_more {bs : List Nat} {i val s b : Nat} (h : SzInv bs i val s) (hi : i < 4) (hb : bs[i]? = some b) (h2 : 128 ≤ b) : SzInv bs (i + 1) (val + b % 128 * s) (s * 128) := by
  have hl := (List.getElem?_eq_some_iff.1 hb).1
  have hv := h.vl
  have hm : b % 128 * s ≤ 127 * s := Nat.mul_le_mul_right _ (by omega)
  refine ⟨by omega, by omega, by rw [Nat.pow_succ, ← h.s_], by omega, fun n r hn e => ?_⟩
  obtain ⟨y, e1, e2, e3, e4⟩ := h.rd n r hn e
  rw [drop_at hb] at e1
  have hy : 128 ≤ y := by
    by_cases hy : 128 ≤ y
    · exact hy
    · rw [Uv.uvf_small _ y (by omega)] at e1
      simp only [List.cons_append, List.nil_append, List.cons.injEq] at e1
      omega
  rw [show 9 - i = 9 - (i + 1) + 1 by omega, Uv.uvf_great _ y hy] at e1 e4
  simp only [List.cons_append, List.cons.injEq] at e1
  rw [List.length_cons] at e4
  refine ⟨y / 128, e1.2, ?_, .inr (by omega), by omega⟩
  have hbm : b % 128 = y % 128 := by omega
  have hd := Nat.div_add_mod y 128
  rw [hbm, e2]
  conv => lhs; rw [← hd]
  rw [Nat.add_mul, Nat.mul_comm 128 (y / 128), Nat.mul_assoc, Nat.mul_comm 128 s]
  omega
theorem sz_last {bs : List Nat} {i val s b : Nat} (h : SzInv bs i val s) (hb : bs[i]? = some b) (h2 : b < 128) : ∀ n r, n ≤ 1048576 → bs = Uv.uv n ++ r → val + b % 128 * s = n ∧ (Uv.uv n).length = i + 1 := by
  intro n r hn e
  obtain ⟨y, e1, e2, e3, e4⟩ := h.rd n r hn e
  rw [drop_at hb] at e1
  have hy : y < 128 := by
    by_cases hy : y < 128
    · exact hy
    · have hi := h.i4
      rw [show 9 - i = 9 - (i + 1) + 1 by omega, Uv.uvf_great _ y (by omega)] at e1
      simp only [List.cons_append, List.cons.injEq] at e1
      omega
  rw [Uv.uvf_small _ y hy] at e1 e4
  simp only [List.cons_append, List.nil_append, List.cons.injEq] at e1
  rw [show b % 128 = y by omega]
  exact ⟨e2.symm, e4⟩
theorem sz_end {bs : List Nat} {i val s : Nat} (h : SzInv bs i val s) (hi : ¬ (i < bs.length ∧ i < 4)) : ∀ n r, n ≤ 1048576 → bs ≠ Uv.uv n ++ r := by
  intro n r hn e
  obtain ⟨y, e1, e2, e3, e4⟩ := h.rd n r hn e
  have hl := (Uv.uvf_len (9 - i) y).2
  have hll := congrArg List.length e1
  rw [List.length_drop, List.length_append] at hll
  have h4 := h.i4
  by_cases h3 : i = 4
  · subst h3
    have hs := h.s_
    have hy : 0 < y := by omega
    have : s ≤ y * s := Nat.le_mul_of_pos_left _ hy
    have hs4 : s = 268435456 := by rw [hs]
    omega
  · omega
theorem ret_ints {a b c d : Int} (h : a = c) (k : b = d) : Ending.returned (.tuple #[.int .i64 a, .int .i64 b]) = .returned (.tuple #[.int .i64 c, .int .i64 d]) := by rw [h, k]
def SizeOut (bs : List Nat) (x k : Nat) : Prop :=
  (x = 0 ∧ k = 0 ∧ ∀ n r, n ≤ 1048576 → bs ≠ Uv.uv n ++ r) ∨ (x ≤ 1048576 ∧ 1 ≤ k ∧ k ≤ bs.length ∧ ∀ n r, n ≤ 1048576 → bs = Uv.uv n ++ r → x = n ∧ (Uv.uv n).length = k)
set_option maxRecDepth 100000 in
set_option maxHeartbeats 2000000 in
theorem ref_size (w : World) (v : Value) (bs : List Nat) (hs : Src w v bs) :
    Calls Tryd.prog 59 #[v] w fun e w' => ∃ x k : Nat, e = .returned (.tuple #[.int .i64 (x : Nat), .int .i64 (k : Nat)]) ∧ SizeOut bs x k ∧ w = w' := by
  obtain ⟨ao, cap, rfl⟩ := src_form hs
  have HS := hide hs
  clear hs
  obtain ⟨N, hN⟩ : ∃ N, bs.length = N := ⟨_, rfl⟩
  rw [hN] at HS ⊢
  have HN := hide hN
  clear hN
  go_enter Tryd.func59, Tryd.ntmps59
  go_wp2_with fail
  go_loopw [4, 5, 6] (fun a b c wr => ∃ val s i : Nat, a = .int .i64 (val : Nat) ∧ b = .int .i64 (s : Nat) ∧ c = .int .i64 (i : Nat) ∧ SzInv bs i val s ∧ w = wr) (fun _ _ c _ => 4 - (intOf c).toNat)
  case atStart => exact ⟨0, 1, 0, rfl, rfl, rfl, sz_zero bs, rfl⟩
  case round =>
    obtain ⟨val, s, i, rfl, rfl, rfl, hz, hw⟩ := hrel
    subst hw
    have HZ := hide hz
    have hi4 := hz.i4
    have hiN : i ≤ N := by rw [← HN.out]; exact hz.il
    have hv := hz.vl
    have hs4 : s ≤ 268435456 := by
      rw [hz.s_]
      exact Nat.le_trans (Nat.pow_le_pow_right (by decide) hi4) (by decide)
    clear hz
    by_cases hlt : i < N
    · by_cases hlt4 : i < 4
      · have hx : ∃ b, bs[i]? = some b := ⟨_, List.getElem?_eq_getElem (by rw [HN.out]; exact hlt)⟩
        obtain ⟨b, hb⟩ := hx
        obtain ⟨ad, rfl, hcell⟩ := src_cell HS.out hb
        have hb256 := HS.out.1 b (List.mem_of_getElem? hb)
        have hs3 : s ≤ 2097152 := by
          rw [HZ.out.s_]
          exact Nat.le_trans (Nat.pow_le_pow_right (by decide) (show i ≤ 3 by omega)) (by decide)
        obtain ⟨t, ht⟩ : ∃ t, b % 128 * s = t := ⟨_, rfl⟩
        have hts : t ≤ 127 * s := by rw [← ht]; exact Nat.mul_le_mul_right _ (by omega)
        have hti : (b : Int) % 128 * (s : Int) = (t : Int) := by rw [← ht]; push_cast; rfl
        have hii : (i : Int) < (N : Int) := by omega
        have hii4 : (i : Int) < 4 := by omega
        by_cases hb1 : 128 ≤ b
        · have hbi : ¬ (b : Int) < 128 := by omega
          have HM := hide (sz_more HZ.out hlt4 hb hb1)
          rw [ht] at HM
          clear ht hb
          go_wp2_with fail
          exact ⟨⟨val + t, s * 128, i + 1, vi (by push_cast; omega), vi (by push_cast; omega), vi (by push_cast; omega), HM.out, trivial⟩, by simp only [intOf]; omega⟩
        · have hbi : (b : Int) < 128 := by omega
          have HL := hide (sz_last HZ.out hb (by omega))
          rw [ht] at HL
          clear ht hb
          by_cases hgr : 1048576 < val + t
          · have hgi : (1048576 : Int) < (val : Int) + (t : Int) := by omega
            go_wp2_with fail
            go_ret2
            exact ⟨0, 0, rfl, .inl ⟨rfl, rfl, fun n r hn e => by have := (HL.out n r hn e).1; omega⟩, rfl⟩
          · have hgi : ¬ (1048576 : Int) < (val : Int) + (t : Int) := by omega
            go_wp2_with fail
            go_ret2
            exact ⟨val + t, i + 1, ret_ints (by push_cast; omega) (by push_cast; omega), .inr ⟨by omega, by omega, by rw [HN.out]; omega, fun n r hn e => ⟨(HL.out n r hn e).1, (HL.out n r hn e).2⟩⟩, rfl⟩
      · have hii : (i : Int) < (N : Int) := by omega
        have hii4 : ¬ (i : Int) < 4 := by omega
        have HE := hide (sz_end HZ.out (by omega))
        go_wp2_with fail
        go_ret2
        exact ⟨0, 0, rfl, .inl ⟨rfl, rfl, HE.out⟩, rfl⟩
    · have hii : ¬ (i : Int) < (N : Int) := by omega
      have HE := hide (sz_end HZ.out (by rw [HN.out]; omega))
      go_wp2_with fail
      go_ret2
      exact ⟨0, 0, rfl, .inl ⟨rfl, rfl, HE.out⟩, rfl⟩
end Go.Proofs.YtmkbbekeimnajaaDoor

/-! Rq: A region that only reads, in whatever order, in a round of a range over a function: plain, for any program. -/
namespace Go.Proofs.YtmkbbekeimnajaaDoor
open Go.RowKit
variable {F : Fence} {n : Nat} {P : Program} {ops : Array Oper} {Q : Exit → Act → World → Prop}

def noDefer (o : Oper) : Bool := match o.op with | .defer _ => false | _ => true
theorem noDefer_ne {o : Oper} (h : noDefer o = true) : ∀ c, o.op ≠ .defer c := by
  intro c e
  simp [noDefer, e] at h
theorem oper_round (l : Nat) (_hro : F.round = none) {o : Oper} (ho : noDefer o = true) {a : Act} {w : World} {K K' : Act → World → Prop} (hK : ∀ a w, K a w → K' a w) (h : o.wpIn F n P a w K Q) : o.wpIn (F.inRound l) n P a w K' Q := by
  have h' := Oper.wpIn_mono hK h
  unfold Oper.wpIn at *
  refine ⟨h'.1, ?_⟩
  have h2 := h'.2
  rw [Oper.semAt_eq _ _ _ (noDefer_ne ho)] at h2 ⊢
  generalize (execOp a.eval o).run P w = r at *
  cases r with
  | ok x w' => cases x <;> exact h2
  | halt x w' => cases x <;> exact h2
theorem any_round (l : Nat) (hro : F.round = none) {md : Region.Mode} (hp : ∀ (i : Nat) (o : Oper), ops[i]? = some o → noDefer o = true) : ∀ (fuel : Nat) (listed : Array Bool) (a : Act) (w : World), wpAnyIn F n P md ops Q fuel listed a w → wpAnyIn (F.inRound l) n P md ops Q fuel listed a w
  | 0, _, _, _, h => h
  | fuel + 1, listed, a, w, h => by
    refine ⟨h.1, fun i hi => ?_⟩
    have h1 := h.2 i hi
    unfold wpOpIn at *
    cases ho : ops[i]? with
    | none =>
      simp only [ho] at h1 ⊢
      exact any_round l hro hp fuel _ _ _ h1
    | some o =>
      simp only [ho] at h1 ⊢
      split
      · rename_i hw
        rw [if_pos hw] at h1
        exact oper_round l hro (hp i o ho) (fun a w => any_round l hro hp fuel _ a w) h1
      · rename_i hw
        rw [if_neg hw] at h1
        exact ⟨h1.1, any_round l hro hp fuel _ _ _ h1.2⟩
theorem region_quiet_round {id l : Nat} {a : Act} {w : World} {os : List Oper} (hro : F.round = none) (hm : P.follows .mixedOrders = true) (hB : Region.lexB .any os.toArray = true) (hp : os.all noDefer = true)
    (h : wpQuietIn F n P os.toArray (fun w' => ∃ n, w' = w.drewN n) (fun a' => ∀ w', (∃ n, w' = w.drewN n) → Q .normal a' w') os a) : (Code.region id os.toArray true).wpIn (F.inRound l) n P Q a w := by
  simp only [Region.lexB, Bool.and_eq_true] at hB
  refine wpIn_region_any hm (any_round l hro (fun i o ho => List.all_eq_true.1 hp o (by simpa using Array.mem_of_getElem? ho)) _ _ _ _ (wpAnyIn_of_quiet (C := fun w' => ∃ n, w' = w.drewN n) (Q := fun a' => ∀ w', (∃ n, w' = w.drewN n) → Q .normal a' w') hro (fun _ w' hw' h => h w' hw') _ _ _ _ ⟨1, rfl⟩ ?_))
  have := wpAnyQIn_lex (F := F) (n := n) (C := fun w' => ∃ n, w' = w.drewN n) (md := .any) hB.1 os.toArray.toList 0 (Array.replicate os.toArray.size false) a (by simp) (by simpa using hB.2) (by simpa using h)
  simpa using this
end Go.Proofs.YtmkbbekeimnajaaDoor

/-! Rt: A region that draws its order, in a round of a range over a function: what the plain walk shows of it serves; plain, for any program. -/
namespace Go.Proofs.YtmkbbekeimnajaaDoor
open Go.RowKit
variable {n : Nat} {P : Program} {ops : Array Oper} {Q : Exit → Act → World → Prop}
theorem rowsIn_wide' {row : String} {args : Array Value} {w : World} {R : Value → World → Prop} (h : Rows P row args w R) : RowsIn Fence.wide n P row args w R :=
  fun c cs _ => let ⟨v, w', r, s⟩ := h c cs; ⟨v, w', r, stepsIn_wide.2 s⟩
theorem operIn_wide {o : Oper} {a : Act} {w : World} {K : Act → World → Prop} (h : o.wp P a w K Q) : o.wpIn Fence.wide n P a w K Q := by
  unfold Oper.wpIn
  refine ⟨fun _ _ => trivial, ?_⟩
  have h' : o.upon P a K Q ((o.semAt Fence.wide.round a.eval).run P w) := h
  generalize (o.semAt Fence.wide.round a.eval).run P w = r at h' ⊢
  cases r with
  | ok x w' =>
    cases x <;> simp only [Oper.upon, Oper.uponIn] at h' ⊢ <;>
      first
        | exact h'
        | exact ⟨fun e => (by cases e), callsIn_wide.2 h'⟩
        | exact ⟨fun e => (by cases e), rowsIn_wide' h'⟩
        | exact h'.elim
  | halt x w' => cases x <;> simp only [Oper.upon, Oper.uponIn] at h' ⊢ <;> exact h'
theorem anyIn_wide {md : Region.Mode} (hQ : ¬ LetsOut Q) : ∀ (fuel : Nat) (listed : Array Bool) (a : Act) (w : World), wpAny P md ops Q fuel listed a w → wpAnyIn Fence.wide n P md ops Q fuel listed a w
  | 0, _, _, _, h => h
  | fuel + 1, listed, a, w, h => by
    refine ⟨h.1, fun i hi => ?_⟩
    have h1 := h.2 i hi
    unfold wpOp at h1
    unfold wpOpIn
    cases ho : ops[i]? with
    | none =>
      simp only [ho] at h1 ⊢
      exact anyIn_wide hQ fuel _ _ _ h1
    | some o =>
      simp only [ho] at h1 ⊢
      split
      · rename_i hw
        rw [if_pos hw] at h1
        exact Oper.wpIn_mono (fun a w => anyIn_wide hQ fuel _ a w) (operIn_wide (h1.resolve_right fun h => hQ h.2))
      · rename_i hw
        rw [if_neg hw] at h1
        exact ⟨fun _ _ => trivial, anyIn_wide hQ fuel _ _ _ h1⟩
/-- any region that draws, in a round -/
theorem region_any_round {id l : Nat} {a : Act} {w : World} {os : List Oper} (hQ : ¬ LetsOut Q) (hm : P.follows .mixedOrders = true) (hp : os.all noDefer = true)
    (h : wpAny P .any os.toArray Q os.toArray.size (Array.replicate os.toArray.size false) a { w with drawn := w.drawn + 1 }) : (Code.region id os.toArray true).wpIn (Fence.wide.inRound l) n P Q a w :=
  wpIn_region_any hm (any_round l rfl (fun i o ho => List.all_eq_true.1 hp o (by simpa using Array.mem_of_getElem? ho)) _ _ _ _ (anyIn_wide hQ _ _ _ _ h))
/-- reads, then what stands last -/
theorem region_still_round {id k : Nat} {a : Act} {w : World} {l : List Oper} (m : Nat) (hQ : ¬ LetsOut Q) (hm : P.follows .mixedOrders = true) (hp : l.all noDefer = true) (hB : Region.lexTailB .any l.toArray m = true)
    (h : wpStill P l.toArray { w with drawn := w.drawn + 1 } (fun a' => wpList P l.toArray Q (l.drop m) a' { w with drawn := w.drawn + 1 }) (l.take m) a) : (Code.region id l.toArray true).wpIn (Fence.wide.inRound k) n P Q a w := by
  simp only [Region.lexTailB, Bool.and_eq_true, decide_eq_true_eq] at hB
  obtain ⟨⟨⟨⟨hsel, hn⟩, hs⟩, hc⟩, hlex⟩ := hB
  have hn' : m < l.length := by simpa using hn
  have htl : (l.take m).length = m := by simp; omega
  have hdl : (l.drop m).length = l.toArray.size - m := by simp
  have inv0 : HeadInv .any l.toArray m (Array.replicate l.toArray.size false) :=
    ⟨by simp, fun j oj _ hl => (by rw [getD_replicate_false] at hl; cases hl), fun t _ ht => getD_in (by simpa using ht) (getD_replicate_false _ _)⟩
  have H := wpAnyL_lex (md := .any) (g := l.toArray.size - m) hsel hs hc hn (l.take m) 0 _ a (fun j hj => by
    have hj' : j < m := by rw [htl] at hj; exact hj
    simp [hj']) (by simpa using htl) inv0 (by rw [htl]; exact hlex) h
  refine region_any_round hQ hm hp ?_
  have := wpAny_of_head (Q' := Q) (g := l.toArray.size - m) (fun listed a' hL => by
    have := wpAny_of_seq (md := .any) (Q' := Q) (l.drop m) m listed a' { w with drawn := w.drawn + 1 } (fun j => by simp [List.getElem?_drop]) (by rw [hdl]; exact hL.1) hL.2
    rwa [hdl] at this) _ _ _ H
  rw [htl, show m + (l.toArray.size - m) = l.toArray.size by omega] at this
  exact this
end Go.Proofs.YtmkbbekeimnajaaDoor
