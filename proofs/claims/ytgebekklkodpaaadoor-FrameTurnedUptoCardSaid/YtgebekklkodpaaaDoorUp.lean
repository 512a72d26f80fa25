/- frame.Unpack -/
import Derived.Test.YtgebekklkodpaaaDoorUn
import Derived.Deep.DeepCutAuto
namespace Go.Proofs.YtgebekklkodpaaaDoor
open Go.RowKit

def UnpOut (E : Nat → Addr) (B kind : Nat) (im : List Nat) (e : Ending) (w' : World) : Prop :=
  match unp kind im with
  | .inl g => e = .returned (.tuple #[.slice none 0 0, .iface 124 (.pointer (some (E g)))])
  | .inr bl => ∃ v its, blOf its = bl ∧ e = .returned (.tuple #[v, .nilIface]) ∧ BOwn w' B v its
/-- the letters that an image begins with -/
theorem magic_iff (xs : List Nat) (hx : ∀ x ∈ xs, x < 256) : (bstr xs).toList = [99, 110, 99, 100] ↔ xs = [99, 110, 99, 100] := by
  rw [ByteArray.toList_eq]
  constructor
  · intro h
    refine bstr_inj hx (by decide) (ByteArray.ext (Array.toList_inj.1 (h.trans ?_)))
    rfl
  · rintro rfl
    rfl

theorem add_five (ad : Addr) (n : Nat) : (ad.add 5).add n = ⟨ad.block, ad.off + 5 + n, none⟩ := by
  unfold Addr.add
  split <;> simp_all
theorem unpack_short (w : World) (E : Nat → Addr) (h1 : ErrAt w 1 (E 1)) (kind : Nat) (ao : Option Addr) (cap : Nat) (im : List Nat) (hl : im.length < 10) :
    Calls Tryd.prog 47 #[.int .u8 kind, .slice ao im.length cap] w fun e w' => UnpOut E w.heap.size kind im e w' ∧ Below w.heap.size w w' := by
  have hu : unp kind im = .inl 1 := if_pos hl
  have HU := hide hu
  have hl1 : (im.length : Int) < 10 := by omega
  unfold ErrAt at h1
  clear hu
  go_enter Tryd.func47, Tryd.ntmps47
  go_wp2
  go_quiet (fail)
  go_wp2
  go_ret2
  exact ⟨by rw [UnpOut, HU.out]; rfl, below_drewN (Below.refl _ _) _⟩

set_option maxRecDepth 100000 in
set_option maxHeartbeats 4000000 in
theorem unpack_long (w : World) (Z : Zip w) (S : SealT w) (E : Nat → Addr) (h0 : ErrAt w 0 (E 0)) (h1 : ErrAt w 1 (E 1)) (h2 : ErrAt w 2 (E 2)) (h5 : ErrAt w 5 (E 5)) (h6 : ErrAt w 6 (E 6)) (hg : 16 < w.heap.size) (kind : Nat) (hk : kind < 256)
    (ad : Addr) (cap e : Nat) (im : List Nat) (he : im.length = e + 4) (h10 : 6 ≤ e) (hs : Src w (.slice (some ad) (e + 4) cap) im) (hl : im.length ≤ 100000000) :
    Calls Tryd.prog 47 #[.int .u8 kind, .slice (some ad) (e + 4) cap] w fun e w' => UnpOut E w.heap.size kind im e w' ∧ Below w.heap.size w w' := by
  have hcap : e + 4 ≤ cap ∧ cap ≤ 9223372036854775807 := by
    rcases hs.2 with ⟨h, _⟩ | ⟨ad', c', h, ha, hb, _⟩
    · simp at h
    · simp only [Value.slice.injEq] at h
      obtain ⟨_, _, rfl⟩ := h
      exact ⟨by rw [← he]; exact ha, hb⟩
  have hsW : Src w (.slice (some (ad.add e)) (e + 4 - e) (cap - e)) ((im.take (e + 4)).drop e) := src_part hs e (e + 4) (cap - e) (by omega) (by omega) (by omega) (by omega)
  have hsB : Src w (.slice (some (ad.add 0)) (e - 0) cap) ((im.take e).drop 0) := src_part hs 0 e cap (by omega) (by omega) (by omega) (by omega)
  rw [List.take_of_length_le (show im.length ≤ e + 4 by omega), Nat.add_sub_cancel_left] at hsW
  rw [Addr.add_zero', List.drop_zero, Nat.sub_zero] at hsB
  have hget : ∀ k, k < 4 → (im.drop e)[k]? = some (im.getD (e + k) 0) := fun k hk => by
    rw [List.getElem?_drop, List.getD_eq_getElem?_getD, List.getElem?_eq_getElem (by omega)]; rfl
  have HW := hide fun q => word_any (w.drewN q) _ _ (src_drew hsW q) _ _ _ _ (hget 0 (by omega)) (hget 1 (by omega)) (hget 2 (by omega)) (hget 3 (by omega))
  have HSE := hide fun q => seal_any (w.drewN q) (seal_below (B := w.heap.size) S (below_drewN (Below.refl _ _) q) (by omega)) _ _ (src_drew hsB q) (by simp; omega)
  have hww : wordOf (im.getD (e + 0) 0) (im.getD (e + 1) 0) (im.getD (e + 2) 0) (im.getD (e + 3) 0) = wordAt im e := rfl
  rw [hww] at HW
  have hsl := seal_lt' (bs := im.take e) fun x hx => hs.1 x (List.mem_of_mem_take hx)
  have hunp : unp kind im = if wordAt im e ≠ seal_ (im.take e) then .inl 6
    else if kind = 0 ∨ im.take 4 ≠ [99, 110, 99, 100] ∨ im.getD 4 0 ≠ kind then .inl 0
    else if (Nm.num 10 0 ((im.take e).drop 5)).2 ≠ 0 then .inl (Nm.num 10 0 ((im.take e).drop 5)).2
    else blks (Nm.val (((im.take e).drop 5).take (Nm.num 10 0 ((im.take e).drop 5)).1)) (((im.take e).drop 5).drop (Nm.num 10 0 ((im.take e).drop 5)).1) := by
    rw [unp, if_neg (by omega), he, Nat.add_sub_cancel]
  have HUN := hide hunp
  generalize wordAt im e = W at HW HUN
  generalize seal_ (im.take e) = U at HSE HUN hsl
  have HS := hide hs
  have HZ := hide Z
  have HE0 := hide h0
  have HE1 := hide h1
  have HE2 := hide h2
  have HE5 := hide h5
  have HE6 := hide h6
  have i1 : (e : Int) ≤ (cap : Int) := by omega
  have i2 : cap - e ≠ 0 := by omega
  have i3 : cap ≠ e := by omega
  have i4 : e ≤ cap := by omega
  have i5 : e ≤ e + 4 := by omega
  have i6 : ¬ ((e : Int) + 4 < 10) := by omega
  clear hs hsW hsB hget hww hunp Z S h0 h1 h2 h5 h6
  go_enter Tryd.func47, Tryd.ntmps47
  go_wp2_with fail
  by_cases hWU : W = U
  · have HUN := hide (HUN.out.trans (if_neg (by simp [hWU])))
    go_quiet (first | (go_at_call 72; exact Calls.quiet_of (HW.out _)) | (go_at_call 27; exact Calls.quiet_of_same ((HSE.out _).mono fun e w' h => ⟨h.1, h.2.symm⟩)))
    have HB1 := hide (below_drewN (Below.refl w.heap.size w) nq)
    clear HW HSE
    generalize w.drewN nq = w1 at HB1 ⊢
    have hs1 := HB1.out.size
    have hS1 := src_keep HS.out HB1.out
    have hc4 := src_part hS1 0 4 cap (by omega) (by omega) (by omega) (by omega)
    rw [Addr.add_zero', List.drop_zero, Nat.sub_zero] at hc4
    have hstr := src_string hc4
    have hx4 : w1.cell? { block := ad.block, off := ad.off + 4 } = some (.int .u8 ((im.getD 4 0 : Nat) : Int)) := by
      obtain ⟨ad', e1, hc⟩ := src_cell hS1 (show im[4]? = some (im.getD 4 0) from by rw [List.getD_eq_getElem?_getD, List.getElem?_eq_getElem (by omega)]; rfl)
      obtain rfl := Option.some.inj e1
      exact hc
    have hS1 := hide hS1
    by_cases hA : kind = 0 ∨ im.take 4 ≠ [99, 110, 99, 100] ∨ im.getD 4 0 ≠ kind
    · have HUN := hide (HUN.out.trans (if_pos hA))
      have hE := err_below HE0.out HB1.out (by omega)
      unfold ErrAt at hE
      by_cases hk0 : kind = 0
      · subst hk0
        go_wp2_with fail
        go_quiet (fail)
        go_wp2
        go_ret2
        exact ⟨by rw [UnpOut, HUN.out]; rfl, below_drewN HB1.out _⟩
      · have hk1 : ((kind : Int) == 0) = false := by simp; omega
        by_cases ht : im.take 4 = [99, 110, 99, 100]
        · have hk4 : im.getD 4 0 ≠ kind := by rcases hA with h | h | h; exact absurd h hk0; exact absurd ht h; exact h
          have hq := (magic_iff _ (fun x hx => hS1.out.1 x (List.mem_of_mem_take hx))).2 ht
          generalize bstr (im.take 4) = X at hstr hq
          generalize im.getD 4 0 = y at hk4 hx4
          have e1 : ((y : Int) == (kind : Int)) = false := by simp; omega
          have e2 : ((y : Int) = (kind : Int)) = False := by simp; omega
          go_wp2_with fail
          go_quiet (fail)
          go_wp2
          go_ret2
          exact ⟨by rw [UnpOut, HUN.out]; rfl, below_drewN HB1.out _⟩
        · have hq := mt (magic_iff _ (fun x hx => hS1.out.1 x (List.mem_of_mem_take hx))).1 ht
          generalize bstr (im.take 4) = X at hstr hq
          generalize im.getD 4 0 = y at hx4
          go_wp2_with fail
          go_quiet (fail)
          go_wp2
          go_ret2
          exact ⟨by rw [UnpOut, HUN.out]; rfl, below_drewN HB1.out _⟩
    · have HUN := hide (HUN.out.trans (if_neg hA))
      have hk0 : kind ≠ 0 := fun h => hA (.inl h)
      have ht : im.take 4 = [99, 110, 99, 100] := Classical.byContradiction fun h => hA (.inr (.inl h))
      have hy : im.getD 4 0 = kind := Classical.byContradiction fun h => hA (.inr (.inr h))
      have hk1 : ((kind : Int) == 0) = false := by simp; omega
      have hq := (magic_iff _ (fun x hx => hS1.out.1 x (List.mem_of_mem_take hx))).2 ht
      generalize bstr (im.take 4) = X at hstr hq
      rw [hy] at hx4
      have hsR := src_part hS1.out 5 e (cap - 5) (by omega) (by omega) (by omega) (by omega)
      have hRl : ((im.take e).drop 5).length = e - 5 := by rw [List.length_drop, List.length_take]; omega
      have hsub : ∀ z ∈ (im.take e).drop 5, z < 256 := fun z hz => HS.out.1 z (List.mem_of_mem_take (List.mem_of_mem_drop hz))
      have hsRw := src_part HS.out 5 e (cap - 5) (by omega) (by omega) (by omega) (by omega)
      generalize (im.take e).drop 5 = R at hsR hsRw hRl HUN hsub
      have HR := hide fun w' (h : Below w1.heap.size w1 w') => src_keep hsR h
      have HRw := hide fun w' (h : Below w.heap.size w w') => src_keep hsRw h
      have HRL := hide hRl
      have HSU := hide hsub
      have j1 : (5 : Int) ≤ (e : Int) := by omega
      have j2 : cap - 5 ≠ 0 := by omega
      have j3 : cap ≠ 5 := by omega
      have j4 : 5 ≤ e := by omega
      have j5 : 5 ≤ cap := by omega
      have j6 : e - 5 ≤ cap - 5 := by omega
      clear hA hk0 ht hy hsR hsRw hRl hsub
      go_upto_region 9 with (fail)
      generalize hde : e - 5 = d at HR HRw HRL
      have hde2 : cap - 5 ≠ 0 := j2
      have HDE := hide hde
      have hd1 : d + 9 ≤ cap := by omega
      have hd2 : d ≤ 100000000 := by omega
      have hR0 := HR.out w1 (Below.refl _ _)
      have hp1 : 10 < d → Src w1 (.slice (some (ad.add 5)) 10 (cap - 5)) (R.take 10) := fun h => by
        have hrl := HRL.out
        have := src_part hR0 0 10 (cap - 5) (by omega) (by omega) (by omega) (by omega)
        rw [Addr.add_zero', List.drop_zero] at this
        exact this
      have hp2 : ¬ 10 < d → Src w1 (.slice (some (ad.add 5)) d (cap - 5)) (R.take 10) := fun h => by
        have hrl := HRL.out
        rw [List.take_of_length_le (by omega)]
        exact hR0
      have HP1 := hide hp1
      have HP2 := hide hp2
      clear hR0 hp1 hp2 hde hstr hx4 hq
      go_cut [8] (fun s8 wx => ∃ p bv, s8 = .pointer (some ⟨p, 0, none⟩) ∧ w.heap.size ≤ p ∧ RdAt wx p 0 bv (R.take 10).length ∧ Src wx bv (R.take 10) ∧ Below w1.heap.size w1 wx)
      case first =>
        by_cases hd10 : 10 < d
        · have k1 : (10 : Int) < (d : Int) := by omega
          have k2 : 10 ≤ cap - 5 := by omega
          go_wp2_with fail
          refine (new_reader w1 _ (R.take 10) (HP1.out hd10) (by simp; omega)).mono ?_
          rintro e9 w2 ⟨p, bv, rfl, hp, hr, hs, hb⟩
          go_wp2_with fail
          go_meet
          exact ⟨p, bv, rfl, by omega, hr, hs, hb⟩
        · have k1 : (d : Int) ≤ 10 := by omega
          have k2 : d ≤ cap - 5 := by omega
          go_wp2_with fail
          refine (new_reader w1 _ (R.take 10) (HP2.out hd10) (by simp; omega)).mono ?_
          rintro e9 w2 ⟨p, bv, rfl, hp, hr, hs, hb⟩
          go_wp2_with fail
          go_meet
          exact ⟨p, bv, rfl, by omega, hr, hs, hb⟩
      case rest =>
        obtain ⟨p, bv, rfl, hp, hR, hS, hB⟩ := hcut
        have HBc := hide (HB1.out.trans (hB.mono hs1))
        have HRc := hide (HR.out wc hB)
        have hnt := Nm.num_take R (i := 0) (f := 10) (by omega)
        have hout := reader_uvarint wc w.heap.size p bv (R.take 10) hp hR hS (by simp; omega) E (err_below HE1.out HBc.out (by omega)) (err_below HE2.out HBc.out (by omega)) (by omega)
        unfold NumOut at hout
        rw [hnt] at hout
        have HN := hide hout
        clear hnt hR hS hB hout HP1 HP2 HR
        go_wp2_with fail
        refine HN.out.mono ?_
        rintro e9 w2 ⟨hout, hb, hRd⟩
        have HB2 := hide (HBc.out.trans (hb.mono (Nat.le_refl _)))
        have HRd := hide hRd
        clear hb hRd HN HBc
        rcases hout with ⟨hz, rfl⟩ | ⟨hz, rfl⟩ | ⟨hz, rfl⟩
        · obtain ⟨n, hn0⟩ : ∃ n, Nm.num 10 0 R = (n, 0) := ⟨(Nm.num 10 0 R).1, Prod.ext rfl hz⟩
          have hok := Nm.num_ok (by omega) hn0
          have hRD := HRd.out hz
          have hv := Nm.val_ok hn0
          have HUN := hide (HUN.out.trans (if_neg (by rw [hn0]; simp)))
          rw [hn0] at hRD HUN ⊢
          rw [show (R.take 10).take n = R.take n by rw [List.take_take, Nat.min_eq_left (by omega)]]
          simp only at hRD HUN ⊢
          generalize Nm.val (R.take n) = v at hv HUN ⊢
          have hnd : n ≤ d := by have := hok.2.2.1; have := HRL.out; omega
          have HRD := hide hRD
          have hs2 := HB2.out.size
          have hR2 := src_part (HRw.out w (Below.refl _ _)) n d (cap - 5 - n) hnd (by have := HRL.out; omega) (by omega) (by omega)
          rw [List.take_of_length_le (by have := HRL.out; omega)] at hR2
          have hl3 : (R.drop n).length = d - n := by rw [List.length_drop, HRL.out]
          clear hRD hn0 hz HRd hok
          have q1 : (n : Int) ≤ (d : Int) := by omega
          have q2 : cap - 5 - n ≠ 0 := by omega
          have q3 : cap - 5 ≠ n := by omega
          have q4 : n ≤ cap - 5 := by omega
          have HB2' := hide (Below.refl w2.heap.size w2)
          go_wp2_with fail
          refine (at_any w2 p n _ bv HRD.out).mono ?_
          rintro e9 w3 ⟨rfl, rfl⟩
          go_wp2_with fail
          rw [add_five] at hR2
          have HR2 := hide hR2
          have HL3 := hide hl3
          clear hR2 hl3 HRD HRc
          go_loopw [7, 9, 11] (fun s7 s9 s11 wr => ∃ (m : Nat) (r : List Nat) (its : List It) (a : Addr) (c : Nat), s7 = .slice (some a) r.length c ∧ s9 = .int .u64 m ∧ m < 18446744073709551616 ∧ r.length + 4 ≤ c ∧ Src w (.slice (some a) r.length c) r ∧ BOwn wr w.heap.size s11 its ∧
            unp kind im = ahead (blOf its) (blks m r) ∧ its.length + r.length ≤ im.length ∧ Below w.heap.size w wr) (fun _ s9 _ _ => (intOf s9).toNat)
          case atStart =>
            refine ⟨v, R.drop n, [], ⟨ad.block, ad.off + 5 + n, none⟩, cap - 5 - n, by rw [HL3.out], rfl, hv, by rw [HL3.out]; omega, by rw [HL3.out]; exact HR2.out, bown_nil _ _, ?_, by rw [HL3.out]; have := HDE.out; simp only [List.length_nil]; omega, HB2.out⟩
            rw [HUN.out]
            exact (ahead_nil _).symm
          case round =>
            obtain ⟨m, r, its, a, c, rfl, rfl, hm, hrc, hs, hbo, hun, hil, hb⟩ := hrel
            have hlr : r.length ≤ 140737488355328 := by omega
            have HSw := hide hs
            have HS9 := hide (src_keep hs hb)
            have HBO := hide hbo
            have HUN := hide hun
            have HB9 := hide hb
            have hs9 := hb.size
            have hc4 : r.length ≤ c ∧ c ≤ 9223372036854775807 := by
              rcases hs.2 with ⟨h, _⟩ | ⟨ad', c', h, ha, hbb, _⟩
              · simp at h
              · simp only [Value.slice.injEq] at h
                obtain ⟨_, _, rfl⟩ := h
                exact ⟨ha, hbb⟩
            have hdec := decode_any wr (zip_below HZ.out hb hg) E (err_below HE0.out hb (by omega)) (err_below HE1.out hb (by omega)) (err_below HE2.out hb (by omega)) (err_below HE6.out hb (by omega)) (by omega) _ r (src_keep hs hb) hlr
            have HDC := hide hdec
            have hE5 := err_below HE5.out hb (by omega)
            unfold ErrAt at hE5
            clear hs hbo hun hb hdec
            by_cases hm0 : m = 0
            · subst hm0
              by_cases hr : r = []
              · subst hr
                have hu : unp kind im = .inr (blOf its) := by rw [HUN.out, blks, if_pos rfl, ahead, List.append_nil]
                have HU := hide hu
                clear hu
                go_wp2_with fail
                go_ret2
                exact ⟨by rw [UnpOut, HU.out]; exact ⟨_, its, rfl, rfl, HBO.out⟩, HB9.out⟩
              · have hu : unp kind im = .inl 5 := by rw [HUN.out, blks, if_neg hr]; rfl
                have HU := hide hu
                have hr0 : 0 < (r.length : Int) := by have := List.length_pos_iff.2 hr; omega
                clear hu
                go_wp2_with fail
                go_quiet (fail)
                go_wp2
                go_ret2
                exact ⟨by rw [UnpOut, HU.out]; rfl, below_drewN HB9.out _⟩
            · obtain ⟨k, rfl⟩ : ∃ k, m = k + 1 := ⟨m - 1, by omega⟩
              have hk1 : (0 : Int) < ((k + 1 : Nat) : Int) := by omega
              go_wp2_with fail
              refine HDC.out.mono ?_
              rintro e9 w4 ⟨hout, hb4⟩
              have HB10 := hide (HB9.out.trans (hb4.mono hs9))
              have hs10 := HB10.out.size
              have HBO4 := hide (bown_keep HBO.out hb4)
              have HS10 := hide (src_keep HS9.out hb4)
              clear hb4 HDC HBO hE5
              cases hd : dec r with
              | inl g =>
                rw [DecOut, hd] at hout
                subst hout
                have HU := hide (HUN.out.trans (ahead_err _ _ _ _ hd))
                have HBA := hide (HB10.out.alloc hs10 (.cells #[.int .u8 0, .slice none 0 0] 47))
                clear hd
                go_wp2_with fail
                go_ret2
                exact ⟨by rw [UnpOut, HU.out]; rfl, HBA.out⟩
              | inr q =>
                obtain ⟨i, j⟩ := q
                rw [DecOut, hd] at hout
                obtain ⟨g8, rfl, hg8, hh8⟩ := hout
                obtain ⟨t, r2, rfl, ht1, hij, hjl, hi2, _⟩ := dec_ok HS9.out.1 hd
                have HU := hide (HUN.out.trans (ahead_step _ _ _ _ _ hd))
                have htt : t < 256 := HS9.out.1 t (List.mem_cons_self ..)
                have hz256 : ∀ x ∈ ((t :: r2).take j).drop i, x < 256 := fun x hx => HS9.out.1 x (List.mem_of_mem_take (List.mem_of_mem_drop hx))
                have hzl : (((t :: r2).take j).drop i).length = j - i := by rw [List.length_drop, List.length_take]; omega
                obtain ⟨body, hbody⟩ : ∃ body, ((t :: r2).take j).drop i = body := ⟨_, rfl⟩
                rw [hbody] at hz256 hzl hh8 HU
                have hbod : Bod w4 (.slice (some ⟨g8, 0, none⟩) body.length body.length) body := ⟨src_block hh8 hz256 (by omega), fun g' hg' => by
                  simp only [Value.ownBlock, Option.some.injEq] at hg'
                  subst hg'
                  exact ⟨_, _, hh8⟩⟩
                rw [← hzl, show (t :: r2).getD 0 0 = t from rfl]
                rw [show (t :: r2).getD 0 0 = t from rfl] at HU
                obtain ⟨s, hs4⟩ : ∃ s, j + 4 = s := ⟨_, rfl⟩
                rw [hs4] at hjl HU ⊢
                have hs44 : 4 ≤ s := by omega
                have HBOD := hide hbod
                have HTT := hide htt
                generalize hrl : (t :: r2).length = rl at *
                have HRL9 := hide hrl
                clear hd hz256 hzl hbody hbod hh8 hg8 htt hs4 hrl hij hi2 ht1
                have hb5 := (Below.refl w4.heap.size w4).alloc (Nat.le_refl _) (.cells #[.int .u8 t, .slice (some ⟨g8, 0, none⟩) body.length body.length] 47)
                have hb6 := hb5.alloc hb5.size (.cells #[.int .u8 t, .slice (some ⟨g8, 0, none⟩) body.length body.length] 47)
                obtain ⟨c0, c1⟩ := cells2 (heap_new (w := w4) rfl (.cells #[.int .u8 t, .slice (some ⟨g8, 0, none⟩) body.length body.length] 47))
                have hh6 := heap_new (w := w4.alloc (.cells #[.int .u8 t, .slice (some ⟨g8, 0, none⟩) body.length body.length] 47)) rfl (.cells #[.int .u8 t, .slice (some ⟨g8, 0, none⟩) body.length body.length] 47)
                rw [World.size_alloc] at hh6
                have HH6 := hide hh6
                clear hh6
                have HB6 := hide (HB10.out.trans (hb6.mono hs10))
                have hs6 := HB6.out.size
                have HBO6 := hide (bown_keep HBO4.out hb6)
                have HBD6 := hide (bod_keep HBOD.out hb6)
                have hkw : IntKind.u64.wrap (((k + 1 : Nat) : Int) - 1) = (k : Int) := by rw [IntKind.wrap_u64]; omega
                have hsr : (s : Int) ≤ (rl : Int) := by omega
                have hsc : (s : Int) ≤ (c : Int) := by omega
                have hsc2 : c - s ≠ 0 := by omega
                have hsc3 : c ≠ s := by omega
                have hsc4 : s ≤ c := by omega
                clear hb5 hb6
                go_wp2_with (refine append_blk w _ w.heap.size _ _ its (t, .slice (some ⟨g8, 0, none⟩) body.length body.length, body) rfl (.tmp 84) (.tmp 86) rfl rfl rfl HBO6.out HTT.out HBD6.out HH6.out (by omega) hs6 HB6.out ?_)
                intro v7 w7 hbo7 hb7
                have hsp := src_part HSw.out s rl (c - s) (by omega) (by rw [HRL9.out]; omega) (by omega) (by omega)
                rw [List.take_of_length_le (by rw [HRL9.out]; omega)] at hsp
                have hdl : ((t :: r2).drop s).length = rl - s := by rw [List.length_drop, HRL9.out]
                have HSP := hide hsp
                have HDL := hide hdl
                have HBO7 := hide hbo7
                have HB7 := hide hb7
                clear hsp hdl hbo7 hb7 HBO6 HB6 HH6 HBD6 HBO4 HBOD c0 c1
                go_wp2_with fail
                refine ⟨⟨k, (t :: r2).drop s, its ++ [(t, .slice (some ⟨g8, 0, none⟩) body.length body.length, body)], a.add s, c - s, by rw [HDL.out], rfl, by omega, by rw [HDL.out]; omega, by rw [HDL.out]; exact HSP.out, HBO7.out, ?_, ?_, HB7.out⟩, ?_⟩
                · rw [HU.out, blOf_app]
                  rfl
                · rw [HDL.out]
                  simp only [List.length_append, List.length_cons, List.length_nil]
                  omega
                · simp [intOf]
        · have HUN := hide (HUN.out.trans (if_pos (by omega)))
          rw [hz] at HUN
          go_wp2_with fail
          go_ret2
          exact ⟨by rw [UnpOut, HUN.out]; rfl, HB2.out⟩
        · have HUN := hide (HUN.out.trans (if_pos (by omega)))
          rw [hz] at HUN
          go_wp2_with fail
          go_ret2
          exact ⟨by rw [UnpOut, HUN.out]; rfl, HB2.out⟩
  · have e1 : ((W : Int) == (U : Int)) = false := by simp; omega
    have e2 : ((W : Int) = (U : Int)) = False := by simp; omega
    have HUN := hide (HUN.out.trans (if_pos hWU))
    go_quiet (first | (go_at_call 72; exact Calls.quiet_of (HW.out _)) | (go_at_call 27; exact Calls.quiet_of_same ((HSE.out _).mono fun e w' h => ⟨h.1, h.2.symm⟩)))
    have hE := HE6.out
    unfold ErrAt at hE
    go_wp2_with fail
    go_quiet (fail)
    go_wp2
    go_ret2
    exact ⟨by rw [UnpOut, HUN.out]; rfl, below_drewN (below_drewN (Below.refl _ _) _) _⟩

theorem unpack_any (w : World) (Z : Zip w) (S : SealT w) (E : Nat → Addr) (h0 : ErrAt w 0 (E 0)) (h1 : ErrAt w 1 (E 1)) (h2 : ErrAt w 2 (E 2)) (h5 : ErrAt w 5 (E 5)) (h6 : ErrAt w 6 (E 6)) (hg : 16 < w.heap.size) (kind : Nat) (hk : kind < 256)
    (v : Value) (im : List Nat) (hs : Src w v im) (hl : im.length ≤ 100000000) :
    Calls Tryd.prog 47 #[.int .u8 kind, v] w fun e w' => UnpOut E w.heap.size kind im e w' ∧ Below w.heap.size w w' := by
  obtain ⟨ao, cap, rfl⟩ := src_form hs
  by_cases h10 : im.length < 10
  · exact unpack_short w E h1 kind ao cap im h10
  · obtain ⟨ad, rfl, _⟩ := src_cell hs (List.getElem?_eq_getElem (show 0 < im.length by omega))
    obtain ⟨e, he⟩ : ∃ e, im.length = e + 4 := ⟨im.length - 4, by omega⟩
    rw [he] at hs ⊢
    exact unpack_long w Z S E h0 h1 h2 h5 h6 hg kind hk ad cap e im he (by omega) hs hl
end Go.Proofs.YtgebekklkodpaaaDoor
