/- the reference's Unpack -/
import Derived.Test.YtgebekklkodpaaaDoorUp
import Derived.Deep.RegionWith
namespace Go.Proofs.YtgebekklkodpaaaDoor
open Go.RowKit

def RefUnpOut (B kind : Nat) (im : List Nat) (e : Ending) (w' : World) : Prop :=
  match unp kind im with
  | .inl g => e = .returned (.tuple #[.slice none 0 0, .int .i64 (errNum g : Nat)])
  | .inr bl => ∃ v its, blOf its = bl ∧ e = .returned (.tuple #[v, .int .i64 0]) ∧ BOwn w' B v its

theorem ref_unpack_short (w : World) (kind : Nat) (ao : Option Addr) (cap : Nat) (im : List Nat) (hl : im.length < 10) :
    Calls Tryd.prog 48 #[.int .u8 kind, .slice ao im.length cap] w fun e w' => RefUnpOut w.heap.size kind im e w' ∧ Below w.heap.size w w' := by
  have hu : unp kind im = .inl 1 := if_pos hl
  have HU := hide hu
  have hl1 : (im.length : Int) < 10 := by omega
  clear hu
  go_enter Tryd.func48, Tryd.ntmps48
  go_wp2
  go_ret2
  exact ⟨by rw [RefUnpOut, HU.out]; rfl, Below.refl _ _⟩

set_option maxRecDepth 100000 in
set_option maxHeartbeats 4000000 in
theorem ref_unpack_long (w : World) (kind : Nat) (hk : kind < 256)
    (ad : Addr) (cap e : Nat) (im : List Nat) (he : im.length = e + 4) (h10 : 6 ≤ e) (hs : Src w (.slice (some ad) (e + 4) cap) im) (hl : im.length ≤ 100000000) :
    Calls Tryd.prog 48 #[.int .u8 kind, .slice (some ad) (e + 4) cap] w fun e w' => RefUnpOut w.heap.size kind im e w' ∧ Below w.heap.size w w' := by
  have hcap : e + 4 ≤ cap ∧ cap ≤ 9223372036854775807 := by
    rcases hs.2 with ⟨h, _⟩ | ⟨ad', c', h, ha, hb, _⟩
    · simp at h
    · simp only [Value.slice.injEq] at h
      obtain ⟨_, _, rfl⟩ := h
      exact ⟨by rw [← he]; exact ha, hb⟩
  have hsB : Src w (.slice (some (ad.add 0)) (e - 0) cap) ((im.take e).drop 0) := src_part hs 0 e cap (by omega) (by omega) (by omega) (by omega)
  rw [Addr.add_zero', List.drop_zero, Nat.sub_zero] at hsB
  have hsQ : Src w (.slice (some (ad.add e)) (e + 4 - e) (cap - e)) ((im.take (e + 4)).drop e) := src_part hs e (e + 4) (cap - e) (by omega) (by omega) (by omega) (by omega)
  rw [Nat.add_sub_cancel_left] at hsQ
  have HSE := hide (ref_seal w.drew _ _ (src_drew hsB 1) (by simp; omega))
  have hsl := seal_lt' (bs := im.take e) fun x hx => hs.1 x (List.mem_of_mem_take hx)
  have hCM := word_cmp hs.1 (show e + 4 ≤ im.length by omega) hsl
  have hunp : unp kind im = if wordAt im e ≠ seal_ (im.take e) then .inl 6
    else if kind = 0 ∨ im.take 4 ≠ [99, 110, 99, 100] ∨ im.getD 4 0 ≠ kind then .inl 0
    else if (Nm.num 10 0 ((im.take e).drop 5)).2 ≠ 0 then .inl (Nm.num 10 0 ((im.take e).drop 5)).2
    else blks (Nm.val (((im.take e).drop 5).take (Nm.num 10 0 ((im.take e).drop 5)).1)) (((im.take e).drop 5).drop (Nm.num 10 0 ((im.take e).drop 5)).1) := by
    rw [unp, if_neg (by omega), he, Nat.add_sub_cancel]
  have HUN := hide hunp
  generalize wordAt im e = W at hCM HUN
  generalize seal_ (im.take e) = U at HSE HUN hsl hCM
  have hbk : Src (w.alloc (.cells (u8s (Uv.word U)).toArray 5)).drew (.slice (some ⟨w.heap.size, 0, none⟩) 4 4) (Uv.word U) := src_block (heap_new rfl _) (word_lt U) (by have : (Uv.word U).length = 4 := rfl; omega)
  have hX1 := src_string hbk
  have HB1 := hide ((Below.refl w.heap.size w).alloc (Nat.le_refl _) (.cells (u8s (Uv.word U)).toArray 5)).drew
  have hq1 := src_string (src_keep hsQ (Below.refl w.heap.size w).drew)
  have hq2 := src_string (src_keep hsQ HB1.out)
  generalize bstr (Uv.word U) = X1 at hX1 hCM
  generalize bstr ((im.take (e + 4)).drop e) = X2 at hq1 hq2 hCM
  have HS := hide hs
  have i1 : (e : Int) ≤ (cap : Int) := by omega
  have i2 : cap - e ≠ 0 := by omega
  have i3 : cap ≠ e := by omega
  have i4 : e ≤ cap := by omega
  have i5 : e ≤ e + 4 := by omega
  have i6 : ¬ ((e : Int) + 4 < 10) := by omega
  clear hs hsB hsQ hunp hbk
  have hbe : ∃ bb, (!(@BEq.beq (List UInt8) (@List.instBEq UInt8 (@instBEqOfDecidableEq UInt8 instDecidableEqUInt8)) X1.toList X2.toList)) = bb ∧ (W = U → bb = false) ∧ (W ≠ U → bb = true) :=
    ⟨_, rfl, fun h => by rw [hCM.1 h]; exact str_eq _, fun h => str_ne fun h2 => h (hCM.2 h2)⟩
  obtain ⟨bb, hbb, hb1, hb2⟩ := hbe
  have HBB := hide hbb
  have HBB1 := hide hb1
  have HBB2 := hide hb2
  clear hbb hb1 hb2 hCM
  go_enter Tryd.func48, Tryd.ntmps48
  go_upto_region 4 with (fail)
  go_cut [32] (fun s32 wx => s32 = .bool bb ∧ Below w.heap.size w wx)
  case first =>
    go_region_with
      (first
        | (go_at_call 30
           refine HSE.out.mono ?_
           rintro e w2 ⟨rfl, rfl⟩)
        | (go_at_call 64
           refine (ref_word _ U hsl).mono ?_
           rintro e w2 ⟨rfl, rfl⟩))
    all_goals (go_wp2_with fail; go_meet; exact ⟨by rw [HBB.out], HB1.out⟩)
  case rest =>
    obtain ⟨rfl, hb1⟩ := hcut
    have HB1 := hide hb1
    have hs1 := hb1.size
    have hS1 := src_keep HS.out hb1
    clear hb1 hX1 hq1 hq2 HSE
    by_cases hWU : W = U
    · have HUN := hide (HUN.out.trans (if_neg (by simp [hWU])))
      obtain rfl := HBB1.out hWU
      clear hWU
      have hc4 := src_part hS1 0 4 cap (by omega) (by omega) (by omega) (by omega)
      rw [Addr.add_zero', List.drop_zero, Nat.sub_zero] at hc4
      have hstr := src_string hc4
      have hx4 : wc.cell? { block := ad.block, off := ad.off + 4 } = some (.int .u8 ((im.getD 4 0 : Nat) : Int)) := by
        obtain ⟨ad', e1, hc⟩ := src_cell hS1 (show im[4]? = some (im.getD 4 0) from by rw [List.getD_eq_getElem?_getD, List.getElem?_eq_getElem (by omega)]; rfl)
        obtain rfl := Option.some.inj e1
        exact hc
      have hS1 := hide hS1
      by_cases hA : kind = 0 ∨ im.take 4 ≠ [99, 110, 99, 100] ∨ im.getD 4 0 ≠ kind
      · have HUN := hide (HUN.out.trans (if_pos hA))
        by_cases hk0 : kind = 0
        · subst hk0
          go_wp2_with fail
          go_ret2
          exact ⟨by rw [RefUnpOut, HUN.out]; rfl, HB1.out⟩
        · have hk1 : ((kind : Int) == 0) = false := by simp; omega
          by_cases ht : im.take 4 = [99, 110, 99, 100]
          · have hk4 : im.getD 4 0 ≠ kind := by rcases hA with h | h | h; exact absurd h hk0; exact absurd ht h; exact h
            have hq := (magic_iff _ (fun x hx => hS1.out.1 x (List.mem_of_mem_take hx))).2 ht
            generalize bstr (im.take 4) = X at hstr hq
            generalize im.getD 4 0 = y at hk4 hx4
            have e1 : ((y : Int) == (kind : Int)) = false := by simp; omega
            have e2 : ((y : Int) = (kind : Int)) = False := by simp; omega
            go_wp2_with fail
            go_ret2
            exact ⟨by rw [RefUnpOut, HUN.out]; rfl, HB1.out⟩
          · have hq := mt (magic_iff _ (fun x hx => hS1.out.1 x (List.mem_of_mem_take hx))).1 ht
            generalize bstr (im.take 4) = X at hstr hq
            generalize im.getD 4 0 = y at hx4
            go_wp2_with fail
            go_ret2
            exact ⟨by rw [RefUnpOut, HUN.out]; rfl, HB1.out⟩
      · have HUN := hide (HUN.out.trans (if_neg hA))
        have hk0 : kind ≠ 0 := fun h => hA (.inl h)
        have ht : im.take 4 = [99, 110, 99, 100] := Classical.byContradiction fun h => hA (.inr (.inl h))
        have hy : im.getD 4 0 = kind := Classical.byContradiction fun h => hA (.inr (.inr h))
        have hk1 : ((kind : Int) == 0) = false := by simp; omega
        have hq := (magic_iff _ (fun x hx => hS1.out.1 x (List.mem_of_mem_take hx))).2 ht
        generalize bstr (im.take 4) = X at hstr hq
        rw [hy] at hx4
        have j1 : (5 : Int) ≤ (e : Int) := by omega
        have j2 : cap - 5 ≠ 0 := by omega
        have j3 : cap ≠ 5 := by omega
        have j4 : 5 ≤ e := by omega
        have j5 : 5 ≤ cap := by omega
        have hsR : Src wc (.slice (some (ad.add 5)) (e - 5) (cap - 5)) ((im.take e).drop 5) := src_part hS1.out 5 e (cap - 5) (by omega) (by omega) (by omega) (by omega)
        have HN := hide (ref_number wc _ _ hsR (by simp; omega))
        have hRl : ((im.take e).drop 5).length = e - 5 := by rw [List.length_drop, List.length_take]; omega
        have HRL := hide hRl
        clear hA hk0 ht hy hsR hRl
        go_wp2_with fail
        refine HN.out.mono ?_
        rintro e9 w2 ⟨hout, rfl⟩
        clear hstr hx4 hq
        rcases hout with ⟨hz, rfl⟩ | ⟨hz, rfl⟩ | ⟨hz, rfl⟩
        · obtain ⟨n, hn0⟩ : ∃ n, Nm.num 10 0 ((im.take e).drop 5) = (n, 0) := ⟨(Nm.num 10 0 ((im.take e).drop 5)).1, Prod.ext rfl hz⟩
          have hok := Nm.num_ok (by omega) hn0
          have hv := Nm.val_ok hn0
          have HUN := hide (HUN.out.trans (if_neg (by rw [hn0]; simp)))
          rw [hn0] at HUN ⊢
          simp only at HUN ⊢
          have hne : n ≤ e - 5 := by have := hok.2.2.1; have := HRL.out; omega
          have hdd : ((im.take e).drop 5).drop n = (im.take e).drop (5 + n) := List.drop_drop
          rw [hdd] at HUN
          generalize Nm.val (((im.take e).drop 5).take n) = v at hv HUN ⊢
          clear hn0 hz hok hdd HN
          go_wp2_with fail
          go_loopw [10, 11, 12] (fun s10 s11 s12 wr => ∃ (kk at_ : Nat) (its : List It), s10 = .int .i64 at_ ∧ s12 = .int .u64 kk ∧ kk ≤ v ∧ 5 ≤ at_ ∧ at_ ≤ e ∧ BOwn wr w.heap.size s11 its ∧
            unp kind im = ahead (blOf its) (blks (v - kk) ((im.take e).drop at_)) ∧ its.length ≤ at_ ∧ Below w.heap.size w wr) (fun _ _ s12 _ => v - (intOf s12).toNat)
          case atStart =>
            refine ⟨0, 5 + n, [], by simp, rfl, by omega, by omega, by omega, bown_nil _ _, ?_, by simp, HB1.out⟩
            rw [HUN.out, Nat.sub_zero]
            exact (ahead_nil _).symm
          case round =>
            obtain ⟨kk, at_, its, rfl, rfl, hkv, ha5, hae, hbo, hun, hil, hb⟩ := hrel
            have hs9 := hb.size
            have HUL := hide hun
            have HBO := hide hbo
            have HB9 := hide hb
            have hq0 := src_part (src_keep HS.out hb) at_ e (cap - at_) hae (by omega) (by omega) (by omega)
            have hrl : ((im.take e).drop at_).length = e - at_ := by rw [List.length_drop, List.length_take]; omega
            have hdec := ref_decode_any wr _ _ hq0 (by rw [hrl]; omega)
            have hr256 : ∀ x ∈ (im.take e).drop at_, x < 256 := hq0.1
            have HRT := hide hrl
            have H256 := hide hr256
            generalize hr : (im.take e).drop at_ = r at hdec HRT H256 HUL
            have HR9 := hide hr
            have HDC := hide hdec
            have a1 : (at_ : Int) ≤ (e : Int) := by omega
            have a2 : cap - at_ ≠ 0 := by omega
            have a3 : cap ≠ at_ := by omega
            have a4 : at_ ≤ cap := by omega
            clear hun hbo hb hq0 hrl hdec hr256 hr
            by_cases hkk : kk = v
            · subst hkk
              rw [Nat.sub_self] at HUL
              by_cases hre : at_ = e
              · subst hre
                have hrn : r = [] := List.eq_nil_of_length_eq_zero (by rw [HRT.out]; omega)
                have HU := hide (show unp kind im = .inr (blOf its) by rw [HUL.out, hrn, blks, if_pos rfl, ahead, List.append_nil])
                clear hrn
                go_wp2_with fail
                go_ret2
                exact ⟨by rw [RefUnpOut, HU.out]; exact ⟨_, its, rfl, rfl, HBO.out⟩, HB9.out⟩
              · have hrn : r ≠ [] := fun h => by have := HRT.out; rw [h] at this; simp at this; omega
                have HU := hide (show unp kind im = .inl 5 by rw [HUL.out, blks, if_neg hrn]; rfl)
                have a5 : (at_ : Int) < (e : Int) := by omega
                clear hrn
                go_wp2_with fail
                go_ret2
                exact ⟨by rw [RefUnpOut, HU.out]; rfl, HB9.out⟩
            · have hkv2 : (kk : Int) < (v : Int) := by omega
              obtain ⟨k, hk9⟩ : ∃ k, v - kk = k + 1 := ⟨v - kk - 1, by omega⟩
              rw [hk9] at HUL
              have HK9 := hide hk9
              clear hk9
              go_wp2_with fail
              refine HDC.out.mono ?_
              rintro e9 w4 ⟨hout, hb4⟩
              have HB10 := hide (HB9.out.trans (hb4.mono hs9))
              have hs10 := HB10.out.size
              have HBO4 := hide (bown_keep HBO.out hb4)
              clear hb4 HDC HBO
              cases hd : dec r with
              | inl g =>
                rw [RefDecOut, hd] at hout
                subst hout
                have HU := hide (HUL.out.trans (ahead_err _ _ _ _ hd))
                have HBA := hide (HB10.out.alloc hs10 (.cells #[.int .u8 0, .slice none 0 0] 47))
                obtain ⟨g1, hg1⟩ : ∃ g1, errNum g = g1 := ⟨_, rfl⟩
                have hg2 : 0 < g1 := by rw [← hg1]; rcases dec_inl hd with rfl | rfl | rfl | rfl <;> decide
                have HG1 := hide hg1
                have hg3 : ((g1 : Int) == 0) = false := by simp; omega
                have hg4 : ((g1 : Int) = 0) = False := by simp; omega
                rw [hg1]
                clear hd hg1
                go_wp2_with fail
                go_ret2
                exact ⟨by rw [RefUnpOut, HU.out]; show _ = Ending.returned (.tuple #[.slice none 0 0, .int .i64 (errNum g : Nat)]); rw [HG1.out]; rfl, HBA.out⟩
              | inr q =>
                obtain ⟨i, j⟩ := q
                rw [RefDecOut, hd] at hout
                obtain ⟨v8, rfl, hbod⟩ := hout
                obtain ⟨t, r2, hrt, ht1, hij, hjl, hi2, _⟩ := dec_ok H256.out hd
                have HU := hide (HUL.out.trans (ahead_step _ _ _ _ _ hd))
                have hrl := HRT.out
                have htt : t < 256 := H256.out t (by rw [hrt]; exact List.mem_cons_self ..)
                obtain ⟨body, hbody⟩ : ∃ body, (r.take j).drop i = body := ⟨_, rfl⟩
                rw [hbody] at hbod HU
                rw [show r.getD 0 0 = t by rw [hrt]; rfl] at HU ⊢
                obtain ⟨s, hs4⟩ : ∃ s, j + 4 = s := ⟨_, rfl⟩
                rw [hs4] at hjl HU ⊢
                have hs44 : 4 ≤ s := by omega
                have hse : at_ + s ≤ e := by omega
                have hdrop : r.drop s = (im.take e).drop (at_ + s) := by rw [← HR9.out, List.drop_drop]
                rw [hdrop] at HU
                have HBOD := hide hbod
                have HTT := hide htt
                clear hd hbody hbod htt hs4 hij hi2 ht1 hrt hrl hdrop hjl
                have hb5 := (Below.refl w4.heap.size w4).alloc (Nat.le_refl _) (.cells #[.int .u8 t, v8] 47)
                have hb6 := hb5.alloc hb5.size (.cells #[.int .u8 t, v8] 47)
                obtain ⟨c0, c1⟩ := cells2 (heap_new (w := w4) rfl (.cells #[.int .u8 t, v8] 47))
                have hh6 := heap_new (w := w4.alloc (.cells #[.int .u8 t, v8] 47)) rfl (.cells #[.int .u8 t, v8] 47)
                rw [World.size_alloc] at hh6
                have HH6 := hide hh6
                have HB6 := hide (HB10.out.trans (hb6.mono hs10))
                have hs6 := HB6.out.size
                have HBO6 := hide (bown_keep HBO4.out hb6)
                have HBD6 := hide (bod_keep HBOD.out hb6)
                have hkw : IntKind.u64.wrap ((kk : Int) + 1) = ((kk + 1 : Nat) : Int) := by rw [IntKind.wrap_u64]; omega
                clear hb5 hb6 hh6
                obtain ⟨a8, c8, rfl⟩ := src_form HBOD.out.1
                go_wp2_with (refine append_blk w _ w.heap.size _ _ its (t, .slice a8 body.length c8, body) rfl (.tmp 78) (.tmp 80) rfl rfl rfl HBO6.out HTT.out HBD6.out HH6.out (by omega) hs6 HB6.out ?_)
                intro v7 w7 hbo7 hb7
                have HBO7 := hide hbo7
                have HB7 := hide hb7
                clear hbo7 hb7 HBO6 HB6 HH6 HBD6 HBO4 HBOD c0 c1
                go_wp2_with fail
                refine ⟨⟨kk + 1, at_ + s, its ++ [(t, .slice a8 body.length c8, body)], by simp, by simp, by omega, by omega, hse, HBO7.out, ?_, ?_, HB7.out⟩, ?_⟩
                · rw [HU.out, blOf_app]
                  have hk9 := HK9.out
                  rw [show v - (kk + 1) = k by omega]
                  rfl
                · simp only [List.length_append, List.length_cons, List.length_nil]
                  omega
                · simp only [intOf]
                  omega
        · have HUN := hide (HUN.out.trans (if_pos (by omega)))
          rw [hz] at HUN
          go_wp2_with fail
          go_ret2
          exact ⟨by rw [RefUnpOut, HUN.out]; rfl, HB1.out⟩
        · have HUN := hide (HUN.out.trans (if_pos (by omega)))
          rw [hz] at HUN
          go_wp2_with fail
          go_ret2
          exact ⟨by rw [RefUnpOut, HUN.out]; rfl, HB1.out⟩
    · have HUN := hide (HUN.out.trans (if_pos hWU))
      obtain rfl := HBB2.out hWU
      go_wp2_with fail
      go_ret2
      exact ⟨by rw [RefUnpOut, HUN.out]; rfl, HB1.out⟩

theorem ref_unpack_any (w : World) (kind : Nat) (hk : kind < 256) (v : Value) (im : List Nat) (hs : Src w v im) (hl : im.length ≤ 100000000) :
    Calls Tryd.prog 48 #[.int .u8 kind, v] w fun e w' => RefUnpOut w.heap.size kind im e w' ∧ Below w.heap.size w w' := by
  obtain ⟨ao, cap, rfl⟩ := src_form hs
  by_cases h10 : im.length < 10
  · exact ref_unpack_short w kind ao cap im h10
  · obtain ⟨ad, rfl, _⟩ := src_cell hs (List.getElem?_eq_getElem (show 0 < im.length by omega))
    obtain ⟨e, he⟩ : ∃ e, im.length = e + 4 := ⟨im.length - 4, by omega⟩
    rw [he] at hs ⊢
    exact ref_unpack_long w kind hk ad cap e im he (by omega) hs hl
end Go.Proofs.YtgebekklkodpaaaDoor
