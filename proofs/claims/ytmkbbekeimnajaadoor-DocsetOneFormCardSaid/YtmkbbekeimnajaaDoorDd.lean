/- Decode -/
import Derived.Test.YtmkbbekeimnajaaDoorTa
namespace Go.Proofs.YtmkbbekeimnajaaDoor
open Go.RowKit Ds
theorem uv_inj {n k : Nat} {r s : List Nat} (hn : n ≤ 1048576) (hk : k ≤ 1048576) (h : Uv.uv n ++ r = Uv.uv k ++ s) : n = k ∧ r = s := by
  have h1 := Nm.num_uv n (by omega) r
  have h2 := Nm.num_uv k (by omega) s
  rw [h, h2] at h1
  have hl : (Uv.uv k).length = (Uv.uv n).length := by simpa using h1
  obtain ⟨e1, e2⟩ := List.append_inj h hl.symm
  refine ⟨?_, e2⟩
  have := congrArg Nm.val e1
  rwa [Nm.val_uv n (by omega), Nm.val_uv k (by omega)] at this
theorem src_block_lt {w : World} {ad : Addr} {n cap p a k : Nat} {bs : List Nat} (h : Src w (.slice (some ad) n cap) bs) (hb : 0 < bs.length) (hR : RdAt w p a (.slice (some ad) n cap) k) : ad.block < w.heap.size ∧ ad.block ≠ p := by
  obtain ⟨x, hx⟩ : ∃ x, bs[0]? = some x := ⟨_, List.getElem?_eq_getElem hb⟩
  obtain ⟨ad', had, hc⟩ := src_cell h hx
  obtain rfl : ad = ad' := by simpa using had
  have hbl : (ad.add 0).block = ad.block := by unfold Addr.add; split <;> rfl
  refine ⟨by rw [← hbl]; exact World.block_lt_of_cell? w _ hc, fun e => ?_⟩
  unfold RdAt at hR
  simp only [World.cell?, hbl, e, hR] at hc
  split at hc
  · cases hc
  · revert hc
    generalize (ad.add 0).off = o
    match o with
    | 0 => intro h; simp at h
    | 1 => intro h; simp at h
    | 2 => intro h; simp at h
    | o + 3 => intro h; simp at h
def DecOut (w w' : World) (bs : List Nat) (a : Addr) (e : Ending) : Prop :=
  (∃ n m S g, n ≤ 1048576 ∧ bs = encS n m ∧ e = .returned (.tuple #[.pointer (some ⟨S, 0, none⟩), .nilIface]) ∧ w.heap.size ≤ S ∧ w.heap.size ≤ g ∧ SetAt w' S g (nw n) n m) ∨
  ((∀ n m, n ≤ 1048576 → bs ≠ encS n m) ∧ e = .returned (.tuple #[.pointer none, .iface 153 (.pointer (some a))]))
theorem not_enc_uv {bs : List Nat} (h : ∀ n r, n ≤ 1048576 → bs ≠ Uv.uv n ++ r) : ∀ n m, n ≤ 1048576 → bs ≠ encS n m := fun n _ hn e => h n _ hn e
theorem not_enc_body {n : Nat} {r bs : List Nat} (hn : n ≤ 1048576) (hb : bs = Uv.uv n ++ r) (h : ∀ k, r ≠ body n k (nb n)) : ∀ n' m, n' ≤ 1048576 → bs ≠ encS n' m := fun n' m hn' e => by
  rw [hb] at e
  obtain ⟨rfl, e2⟩ := uv_inj hn hn' e
  exact h m e2
structure DcSt (w wr : World) (S g n p N cap at_ j : Nat) (m : Nat → Bool) (ao : Option Addr) (bs r0 : List Nat) : Prop where
  set : SetAt wr S g (nw n) n m
  rd : RdAt wr p at_ (.slice ao N cap) N
  src : Src wr (.slice ao N cap) bs
  below : Below w.heap.size w wr
  high : ∀ k, 256 * j ≤ k → m k = false
  read : r0 = body n m j ++ bs.drop at_
  le : at_ ≤ N
set_option maxRecDepth 100000 in
theorem new_reader2 (w : World) (v : Value) (bs : List Nat) (hs : Src w v bs) (hn : bs.length ≤ 140737488355328) :
    Calls Tryd.prog 62 #[v] w fun e w' => ∃ p bv, e = .returned (.pointer (some ⟨p, 0, none⟩)) ∧ w.heap.size ≤ p ∧ w'.heap.size = p + 1 ∧ RdAt w' p 0 bv bs.length ∧ Src w' bv bs ∧ Below w.heap.size w w' := by
  obtain ⟨ao, cap, rfl⟩ := src_form hs
  have HS := hide hs
  clear hs
  go_enter Tryd.func62, Tryd.ntmps62
  go_wp2_with fail
  have HBA := hide ((Below.refl w.heap.size w).alloc (Nat.le_refl _) (.cells #[.slice ao bs.length cap] 46))
  refine (concat_any _ w.heap.size (.slice ao bs.length cap) bs (by rw [World.cell?_alloc_new]; rfl) (src_keep HS.out HBA.out) hn).mono ?_
  rintro e w1 ⟨rfl, hh, hb⟩
  have HB1 := hide (HBA.out.trans (hb.mono HBA.out.size))
  rw [World.size_alloc] at hh
  have HS1 := hide (src_block hh HS.out.1 (by omega))
  clear hh hb
  go_wp2
  go_ret
  exact ⟨w1.heap.size, _, rfl, HB1.out.size, World.size_alloc _ _, heap_new rfl _, src_keep HS1.out ((Below.refl _ _).alloc (Nat.le_refl _) _), HB1.out.alloc HB1.out.size _⟩
set_option maxRecDepth 100000 in
set_option maxHeartbeats 4000000 in
theorem decode_any (w : World) (v : Value) (bs : List Nat) (hs : Src w v bs) (hl : bs.length ≤ 140737488351232) (E : Nat → Addr) (hE : Errs w E allErrs) (hg : 25 ≤ w.heap.size) :
    Calls Tryd.prog 30 #[v] w fun e w' => DecOut w w' bs (E 1) e ∧ Below w.heap.size w w' := by
  obtain ⟨ao0, cap0, rfl⟩ := src_form hs
  have HS := hide hs
  have HE := hide hE
  clear hs hE
  go_enter Tryd.func30, Tryd.ntmps30
  go_wp2_with fail
  refine (new_reader2 w _ bs HS.out (by omega)).mono ?_
  rintro e w1 ⟨p, bv, rfl, hp, hp1, hr1, hs1, hb1⟩
  obtain ⟨ao, cap, rfl⟩ := src_form hs1
  have HB1 := hide hb1
  have z1 := hb1.size
  have hE1 := HE.out.below hb1 (Nat.le_refl _) (ids_lt hg)
  have HE1 := hide hE1
  have HS1 := hide hs1
  have HU := hide (upto_any w1 p _ bs hr1 hs1 (by omega) E (hE1.cell 2 (by decide)) (hE1.cell 3 (by decide)) (hE1.cell 4 (by decide)) (by omega))
  have hpl := heap_lt hr1
  have HR1 := hide hr1
  clear hr1 hs1 hb1 hE1
  go_wp2_with fail
  refine HU.out.mono ?_
  rintro e w2 ⟨ho, hb2⟩
  have HB2 := hide (HB1.out.trans (hb2.mono hp))
  have HE2 := hide (HE.out.below HB2.out (Nat.le_refl _) (ids_lt hg))
  have z2 := HB2.out.size
  have z12 := hb2.size
  unfold UptoOut at ho
  rcases ho with ⟨n, r, hn, hbs, rfl, hr2⟩ | ⟨hno, a, rfl⟩
  · obtain ⟨N, hNe⟩ : ∃ N, bs.length = N := ⟨_, rfl⟩
    have hN0 : 0 < bs.length := by rw [hbs, List.length_append]; have := (Uv.uv_len n).2; omega
    obtain ⟨x0, hx0⟩ : ∃ x, bs[0]? = some x := ⟨_, List.getElem?_eq_getElem hN0⟩
    obtain ⟨ad, rfl, _⟩ := src_cell HS1.out hx0
    obtain ⟨hab1, hab2⟩ := src_block_lt HS1.out hN0 HR1.out
    obtain ⟨rfl, _⟩ : N = bs.length ∧ True := ⟨hNe.symm, trivial⟩
    obtain ⟨N, hNN⟩ : ∃ N, bs.length = N := ⟨_, rfl⟩
    rw [hNN] at hr2 HS1 hl
    have HNN := hide hNN
    obtain ⟨u, hu⟩ : ∃ u, (Uv.uv n).length = u := ⟨_, rfl⟩
    rw [hu] at hr2
    have huN : u ≤ N := by rw [← hNN, ← hu, hbs, List.length_append]; omega
    have hdr : bs.drop u = r := by rw [hbs, ← hu, List.drop_left]
    have hrl : r.length = N - u := by rw [← hdr, List.length_drop, hNN]
    have HDR := hide hdr
    have HRL := hide hrl
    have HBS := hide hbs
    have HR2 := hide hr2
    have hpl2 := heap_lt hr2
    have HS2 := hide (src_same (w' := w2) HS1.out (fun k hk => by
      have hk' : k = ad.block := by simpa [Value.ownBlock] using hk.symm
      subst hk'
      exact hb2.block _ (by omega)))
    have HLF := hide (left_any w2 p u N _ HR2.out huN (by omega))
    have hab : ad.block < w2.heap.size := by omega
    have hq : ((n : Int) + 256 - 1) / 256 = (nb n : Int) := by unfold nb; omega
    have hqw : IntKind.i64.wrap ((n : Int) + 256 - 1) = (n : Int) + 256 - 1 := by rw [IntKind.wrap_i64]; omega
    have hnbl : nb n ≤ 4096 := by unfold nb; omega
    obtain ⟨nbn, hnbn⟩ : ∃ k, nb n = k := ⟨_, rfl⟩
    rw [hnbn] at hq hnbl
    have HNB := hide hnbn
    have hE1 := HE2.out.cell 1 (by decide)
    clear hbs hu hdr hr2 hb2 hNN hx0 hN0 HR1 HS1 HU hnbn hNe
    by_cases hsh : N - u < nbn
    · have hlt : (N : Int) - (u : Int) < (nbn : Int) := by omega
      have HNO := hide (not_enc_body hn HBS.out (fun k e => by
        have h1 := (body_len n k (nb n)).1
        rw [← e, HRL.out, HNB.out] at h1
        omega))
      unfold ErrAt at hE1
      go_wp2_with fail
      refine HLF.out.mono ?_
      rintro e w3 ⟨rfl, q, rfl⟩
      go_wp2_with fail
      go_quiet (fail)
      go_wp2_with fail
      go_ret2
      exact ⟨.inr ⟨HNO.out, rfl⟩, below_drewN (below_drewN HB2.out _) _⟩
    · have hlt : ¬ (N : Int) - (u : Int) < (nbn : Int) := by omega
      clear hE1
      go_wp2_with fail
      refine HLF.out.mono ?_
      rintro e w3 ⟨rfl, q, rfl⟩
      have HR3 := hide (rd_drew HR2.out q)
      have HS3 := hide (src_drew HS2.out q)
      have HB3 := hide (below_drewN HB2.out q)
      have hz3 : (w2.drewN q).heap.size = w2.heap.size := rfl
      clear HR2 HS2 HLF HB2
      generalize w2.drewN q = w3 at *
      go_wp2_with fail
      refine (empty_any w3 n hn).mono ?_
      rintro e w4 ⟨S, g, rfl, hS, hgg, hs4, hb4⟩
      have HST := hide (show DcSt w w4 S g n p N cap u 0 (fun _ => false) (some ad) bs r from
        ⟨hs4, (hb4.block p (by omega)).trans HR3.out, src_keep HS3.out hb4, HB3.out.trans (hb4.mono (by omega)), fun _ _ => rfl, by rw [body_zero, HDR.out]; rfl, huN⟩)
      have z4 := hb4.size
      have hSp : S ≠ p := by omega
      have hgp : g ≠ p := by omega
      have hSa : S ≠ ad.block := by omega
      have hga : g ≠ ad.block := by omega
      clear hs4 hb4 HR3 HS3 HB3 hlt hq hqw
      go_wp2_with fail
      go_loopw [8] (fun i wr => ∃ (j at_ : Nat) (m : Nat → Bool), i = .int .i64 (j : Nat) ∧ j ≤ nbn ∧ DcSt w wr S g n p N cap at_ j m (some ad) bs r ∧ w4.heap.size ≤ wr.heap.size) (fun i _ => nbn - (intOf i).toNat)
      case atStart => exact ⟨0, u, _, rfl, Nat.zero_le _, HST.out, Nat.le_refl _⟩
      case round =>
        obtain ⟨j, at_, m, rfl, hj, hst, hzr⟩ := hrel
        have HSr := hide hst
        clear hst HST
        have hwj : IntKind.i64.wrap (256 * (j : Int)) = 256 * (j : Int) := by rw [IntKind.wrap_i64]; omega
        by_cases hlt : 256 * j < n
        · have hlti : 256 * (j : Int) < (n : Int) := by omega
          have hjn : j < nb n := nb_lt.2 hlt
          have HTK := hide (take_any wr j p at_ N cap (some ad) bs ⟨HSr.out.set, HSr.out.rd, HSr.out.src, Foot.refl _ _⟩ hlt HSr.out.high HNN.out (by omega) HSr.out.le hSp hgp
            (fun k hk => by
              have hk' : k = ad.block := by simpa [Value.ownBlock] using hk.symm
              subst hk'
              exact ⟨by omega, hab2⟩) (E 2) (err_below (HE.out.cell 2 (by decide)) HSr.out.below (by omega)) (by omega) (by omega) (by omega) (by omega))
          clear hwj
          go_wp2_with fail
          refine HTK.out.mono ?_
          rintro e w5 ⟨ht, hf⟩
          have hb5 := hf.below (B := w.heap.size) (fun k hk => by rcases hk with rfl | rfl | rfl <;> omega) HSr.out.below.size
          have HB5 := hide (HSr.out.below.trans hb5)
          have HF5 := hide hf
          have hz5 := hf.size
          unfold TakeOut at ht
          rcases ht with ⟨f, r', at', htk, rfl, hs5, hr5, hle5, hdr5⟩ | ⟨hno, rfl⟩
          · have HST5 := hide (show DcSt w w5 S g n p N cap at' (j + 1) (setB m n j f) (some ad) bs r from
              ⟨hs5, hr5, src_same HSr.out.src (fun k hk => by
                have hk' : k = ad.block := by simpa [Value.ownBlock] using hk.symm
                subst hk'
                exact hf.block _ (by omega) (fun e => by rcases e with e | e | e; exact hSa e.symm; exact hga e.symm; exact hab2 e)), HB5.out, fun k hk => by
                unfold setB
                have := wid_le n j
                rw [if_neg (by omega)]
                exact HSr.out.high k (by omega), by rw [hdr5]; exact body_read hjn HSr.out.read htk, hle5⟩)
            have hj1 : j + 1 ≤ nbn := by rw [← HNB.out]; exact hjn
            clear htk hs5 hr5 hdr5 hf hb5
            go_wp2_with fail
            exact ⟨⟨j + 1, at', _, vi (by omega), hj1, HST5.out, by omega⟩, by simp only [intOf]; omega⟩
          · have HNO := hide (not_enc_body hn HBS.out (body_stuck hjn HSr.out.read hno))
            have hE1 := err_below (HE.out.cell 1 (by decide)) HB5.out (by omega)
            unfold ErrAt at hE1
            clear hno hf hb5
            go_wp2_with fail
            go_quiet (fail)
            go_wp2_with fail
            go_ret2
            exact ⟨.inr ⟨HNO.out, rfl⟩, below_drewN HB5.out _⟩
        · have hlti : ¬ 256 * (j : Int) < (n : Int) := by omega
          obtain rfl : nbn = j := by have := HNB.out; unfold nb at this; omega
          have hrd := HSr.out.read
          rw [← HNB.out] at hrd
          by_cases hend : at_ = N
          · subst hend
            have HEN := hide (show bs = encS n m from by
              rw [HBS.out, hrd, List.drop_eq_nil_of_le (by rw [HNN.out]; exact Nat.le_refl _), List.append_nil]; rfl)
            have HDY := hide (done_yes wr p at_ _ HSr.out.rd)
            clear hrd
            go_wp2_with fail
            refine HDY.out.mono ?_
            rintro e w5 ⟨rfl, q5, rfl⟩
            have HFS := hide (HSr.out.set.keep (below_drewN (Below.refl _ _) q5))
            have HFB := hide (below_drewN HSr.out.below q5)
            go_wp2_with fail
            go_ret2
            exact ⟨.inl ⟨n, m, S, g, hn, HEN.out, rfl, by omega, by omega, HFS.out⟩, HFB.out⟩
          · have hle := HSr.out.le
            have HNO := hide (not_enc_body hn HBS.out (body_left hrd (fun e => by
              have := congrArg List.length e
              rw [List.length_drop, HNN.out] at this
              simp at this
              omega)))
            have HDN := hide (done_no wr p at_ N _ HSr.out.rd (by omega) (E 6) (err_below (HE.out.cell 6 (by decide)) HSr.out.below (by omega)))
            have hE1 := err_below (HE.out.cell 1 (by decide)) HSr.out.below (by omega)
            unfold ErrAt at hE1
            clear hrd
            go_wp2_with fail
            refine HDN.out.mono ?_
            rintro e w5 ⟨rfl, q5, rfl⟩
            go_wp2_with fail
            go_quiet (fail)
            go_wp2_with fail
            go_ret2
            exact ⟨.inr ⟨HNO.out, rfl⟩, below_drewN (below_drewN HSr.out.below _) _⟩
  · have HNO := hide (not_enc_uv hno)
    have hE1 := HE2.out.cell 1 (by decide)
    unfold ErrAt at hE1
    clear hno hb2
    go_wp2_with fail
    go_quiet (fail)
    go_wp2_with fail
    go_ret2
    exact ⟨.inr ⟨HNO.out, rfl⟩, below_drewN HB2.out _⟩
end Go.Proofs.YtmkbbekeimnajaaDoor
