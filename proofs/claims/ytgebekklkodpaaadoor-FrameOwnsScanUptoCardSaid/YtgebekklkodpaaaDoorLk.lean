/- frame.look -/
import Derived.Test.YtgebekklkodpaaaDoorWo
import Derived.Test.YtgebekklkodpaaaDoorNum
import Derived.Deep.DeepCutAuto
namespace Go.Proofs.YtgebekklkodpaaaDoor
open Go.RowKit

def wordAt (b : List Nat) (i : Nat) : Nat := wordOf (b.getD i 0) (b.getD (i + 1) 0) (b.getD (i + 2) 0) (b.getD (i + 3) 0)
/-- what a block's bytes are: the error by its variable's number, or from, to -/
def dec (b : List Nat) : Nat ⊕ (Nat × Nat) :=
  match b with
  | [] => .inl 1
  | t :: r =>
    if t = 0 then .inl 0
    else if (Nm.num 10 0 r).2 ≠ 0 then .inl (Nm.num 10 0 r).2
    else if (t :: r).length < (Nm.num 10 0 r).1 + 5 + Nm.val (r.take (Nm.num 10 0 r).1) then .inl 1
    else if wordAt (t :: r) (1 + (Nm.num 10 0 r).1 + Nm.val (r.take (Nm.num 10 0 r).1)) ≠ sum ((t :: r).take (1 + (Nm.num 10 0 r).1 + Nm.val (r.take (Nm.num 10 0 r).1))) then .inl 6
    else .inr (1 + (Nm.num 10 0 r).1, 1 + (Nm.num 10 0 r).1 + Nm.val (r.take (Nm.num 10 0 r).1))

theorem dec_num {t n v : Nat} {r : List Nat} (ht : t ≠ 0) (hn : Nm.num 10 0 r = (n, 0)) (hv : Nm.val (r.take n) = v) :
    dec (t :: r) = if (t :: r).length < n + 5 + v then .inl 1 else if wordAt (t :: r) (1 + n + v) ≠ sum ((t :: r).take (1 + n + v)) then .inl 6 else .inr (1 + n, 1 + n + v) := by
  rw [dec, if_neg ht, hn]
  simp only
  rw [if_neg (by simp), hv]
theorem dec_err {t g : Nat} {r : List Nat} (ht : t ≠ 0) (hg : (Nm.num 10 0 r).2 = g) (h0 : g ≠ 0) : dec (t :: r) = .inl g := by
  rw [dec, if_neg ht, if_pos (by omega), hg]

theorem results_tmp4 {fn : Func} {t u v x : Tmp} (h : fn.results = #[.tmp t, .tmp u, .tmp v, .tmp x]) (tmps : Array Value) (P : Program) (w : World) :
    (results fn tmps).run P w = .ok (.tuple #[tmps.getD t undef, tmps.getD u undef, tmps.getD v undef, tmps.getD x undef]) w := by
  simp [results, h]
theorem Tryd.results67 : Tryd.f67.results = #[.tmp 2, .tmp 3, .tmp 4, .tmp 5] := rfl

/-- a part of a source -/
theorem src_part {w : World} {ad : Addr} {n cap : Nat} {bs : List Nat} (h : Src w (.slice (some ad) n cap) bs) (i j c : Nat) (hij : i ≤ j) (hj : j ≤ bs.length) (hc : j - i ≤ c) (hc2 : c ≤ 9223372036854775807) :
    Src w (.slice (some (ad.add i)) (j - i) c) ((bs.take j).drop i) := by
  have hl : ((bs.take j).drop i).length = j - i := by rw [List.length_drop, List.length_take]; omega
  refine ⟨fun x hx => h.1 x (List.mem_of_mem_take (List.mem_of_mem_drop hx)), .inr ⟨ad.add i, c, by rw [hl], by omega, hc2, fun k x hk => ?_⟩⟩
  rcases h with ⟨_, ⟨h1, _⟩ | ⟨ad', c', h1, _, _, hcell⟩⟩
  · simp at h1
  · simp only [Value.slice.injEq, Option.some.injEq] at h1
    obtain ⟨rfl, _, _⟩ := h1
    rw [Addr.add_add]
    refine hcell (i + k) x ?_
    rw [List.getElem?_drop, List.getElem?_take] at hk
    split at hk
    · exact hk
    · simp at hk

def errV (a : Addr) : Value := .iface 124 (.pointer (some a))
def LookOut (E : Nat → Addr) (b : List Nat) (e : Ending) : Prop :=
  match dec b with
  | .inl g => e = .returned (.tuple #[.int .i64 0, .int .i64 0, .int .i64 0, .iface 124 (.pointer (some (E g)))])
  | .inr (i, j) => e = .returned (.tuple #[.int .i64 (i : Nat), .int .i64 (j : Nat), .int .i64 ((j + 4 : Nat) : Int), .nilIface])

theorem look_nil (w : World) (E : Nat → Addr) (h1 : ErrAt w 1 (E 1)) (ao : Option Addr) (cap : Nat) :
    Calls Tryd.prog 67 #[.slice ao 0 cap] w fun e w' => LookOut E [] e ∧ Below w.heap.size w w' := by
  unfold ErrAt at h1
  go_enter Tryd.func67, Tryd.ntmps67
  go_wp2
  go_quiet (fail)
  go_wp2
  refine bodyPost_ret (results_tmp4 Tryd.results67 _ _ _) rfl ?_
  exact ⟨rfl, below_drewN (Below.refl _ _) _⟩

theorem look_zero (w : World) (E : Nat → Addr) (h0 : ErrAt w 0 (E 0)) (ad : Addr) (cap : Nat) (r : List Nat) (hl : r.length < 140737488355328) (hc : w.cell? ad = some (.int .u8 0)) :
    Calls Tryd.prog 67 #[.slice (some ad) (r.length + 1) cap] w fun e w' => LookOut E (0 :: r) e ∧ Below w.heap.size w w' := by
  unfold ErrAt at h0
  have hn : ((r.length : Int) + 1 == 0) = false := by simp; omega
  have hn2 : ((r.length : Int) + 1 = 0) = False := by simp; omega
  go_enter Tryd.func67, Tryd.ntmps67
  go_wp2
  go_quiet (fail)
  go_wp2
  refine bodyPost_ret (results_tmp4 Tryd.results67 _ _ _) rfl ?_
  exact ⟨rfl, below_drewN (Below.refl _ _) _⟩

set_option maxRecDepth 100000 in
theorem look_one (w : World) (E : Nat → Addr) (h1 : ErrAt w 1 (E 1)) (h2 : ErrAt w 2 (E 2)) (hg : 16 < w.heap.size) (ad : Addr) (t : Nat) (ht : t ≠ 0) (hc : w.cell? ad = some (.int .u8 t)) :
    Calls Tryd.prog 67 #[.slice (some ad) 1 1] w fun e w' => LookOut E [t] e ∧ Below w.heap.size w w' := by
  have ht0 : ((t : Int) == 0) = false := by simp; omega
  have HE1 := hide h1
  have HE2 := hide h2
  clear h1 h2
  go_enter Tryd.func67, Tryd.ntmps67
  go_wp2_with fail
  refine (new_reader w (.slice (some ad) 0 0) [] ⟨fun _ h => by simp at h, .inr ⟨ad, 0, rfl, by simp, by omega, fun k x h => by simp at h⟩⟩ (by simp)).mono ?_
  rintro e w1 ⟨p, bv, rfl, hp, hr, hs, hb⟩
  have HB := hide hb
  have hout := reader_uvarint w1 w.heap.size p bv [] hp hr hs (by simp) E (err_below HE1.out hb (by omega)) (err_below HE2.out hb (by omega)) (by omega)
  have HN := hide hout
  clear hr hs hb hout
  go_wp2_with fail
  refine HN.out.mono ?_
  rintro e w2 ⟨hout, hb, _⟩
  have HB2 := hide (HB.out.trans (hb.mono (Nat.le_refl _)))
  clear hb HN HB
  rcases hout with ⟨hz, _⟩ | ⟨_, rfl⟩ | ⟨hz, _⟩
  · simp [Nm.num] at hz
  · have hd : dec [t] = .inl 1 := dec_err ht rfl (by omega)
    have HD := hide hd
    clear hd
    go_wp2_with fail
    refine bodyPost_ret (results_tmp4 Tryd.results67 _ _ _) rfl ?_
    exact ⟨by rw [LookOut, HD.out]; rfl, HB2.out⟩
  · simp [Nm.num] at hz

set_option maxRecDepth 100000 in
set_option maxHeartbeats 4000000 in
theorem look_some (w : World) (Z : Zip w) (E : Nat → Addr) (h1 : ErrAt w 1 (E 1)) (h2 : ErrAt w 2 (E 2)) (h6 : ErrAt w 6 (E 6)) (hg : 16 < w.heap.size) (ad : Addr) (cap t : Nat) (r : List Nat)
    (hs : Src w (.slice (some ad) (r.length + 1) cap) (t :: r)) (ht : t ≠ 0) (hl : r.length < 140737488355328) (hc1 : cap ≠ 1) :
    Calls Tryd.prog 67 #[.slice (some ad) (r.length + 1) cap] w fun e w' => LookOut E (t :: r) e ∧ Below w.heap.size w w' := by
  have hn : ((r.length : Int) + 1 == 0) = false := by simp; omega
  have hn2 : ((r.length : Int) + 1 = 0) = False := by simp; omega
  obtain ⟨ad', e1, hc⟩ := src_cell hs (show (t :: r)[0]? = some t from rfl)
  obtain rfl := Option.some.inj e1
  rw [Addr.add_zero'] at hc
  have ht0 : ((t : Int) == 0) = false := by simp; omega
  have hcap : r.length + 1 ≤ cap ∧ cap ≤ 9223372036854775807 := by
    rcases hs.2 with ⟨h, _⟩ | ⟨ad', c', h, ha, hb, _⟩
    · simp at h
    · simp only [Value.slice.injEq] at h
      obtain ⟨_, _, rfl⟩ := h
      exact ⟨by simpa using ha, hb⟩
  have HS := hide hs
  have HZ := hide Z
  have HE1 := hide h1
  have HE2 := hide h2
  have HE6 := hide h6
  clear hs Z h1 h2 h6 e1
  go_enter Tryd.func67, Tryd.ntmps67
  go_upto_region 5 with (fail)
  go_cut [6] (fun s6 wx => ∃ p bv, s6 = .pointer (some ⟨p, 0, none⟩) ∧ w.heap.size ≤ p ∧ RdAt wx p 0 bv (r.take 10).length ∧ Src wx bv (r.take 10) ∧ Below w.heap.size w wx)
  case first =>
    go_wp2_with fail
    · have hsp : Src w (.slice (some (ad.add 1)) (11 - 1) (cap - 1)) (((t :: r).take 11).drop 1) := src_part HS.out 1 11 (cap - 1) (by omega) (by simp; omega) (by omega) (by omega)
      refine (new_reader w _ (r.take 10) hsp (by simp; omega)).mono ?_
      rintro e w1 ⟨p, bv, rfl, hp, hr, hs, hb⟩
      go_wp2_with fail
      go_meet
      exact ⟨p, bv, rfl, hp, hr, hs, hb⟩
    · have hle : r.length ≤ 10 := by omega
      have hsp : Src w (.slice (some (ad.add 1)) (r.length + 1 - 1) (cap - 1)) (((t :: r).take (r.length + 1)).drop 1) := src_part HS.out 1 (r.length + 1) (cap - 1) (by omega) (by simp) (by omega) (by omega)
      rw [show ((t :: r).take (r.length + 1)).drop 1 = r.take 10 by rw [List.take_succ_cons, List.drop_succ_cons, List.drop_zero, List.take_of_length_le (Nat.le_refl _), List.take_of_length_le hle]] at hsp
      refine (new_reader w _ (r.take 10) hsp (by simp; omega)).mono ?_
      rintro e w1 ⟨p, bv, rfl, hp, hr, hs, hb⟩
      go_wp2_with fail
      go_meet
      exact ⟨p, bv, rfl, hp, hr, hs, hb⟩
  case rest =>
    obtain ⟨p, bv, rfl, hp, hR, hS, hB⟩ := hcut
    have HB := hide hB
    have hnt := Nm.num_take r (i := 0) (f := 10) (by omega)
    have hout := reader_uvarint wc w.heap.size p bv (r.take 10) hp hR hS (by simp; omega) E (err_below HE1.out hB (by omega)) (err_below HE2.out hB (by omega)) (by omega)
    unfold NumOut at hout
    rw [hnt] at hout
    have HN := hide hout
    clear hnt hR hS hB hout
    go_wp2_with fail
    refine HN.out.mono ?_
    rintro e w2 ⟨hout, hb, hRd⟩
    have HB2 := hide (HB.out.trans (hb.mono (Nat.le_refl _)))
    have HRd := hide hRd
    have H256 := hide fun x hx => HS.out.1 x (List.mem_cons_of_mem _ hx)
    clear hb hRd HN HB
    rcases hout with ⟨hz, rfl⟩ | ⟨hz, rfl⟩ | ⟨hz, rfl⟩
    · obtain ⟨n, hn0⟩ : ∃ n, Nm.num 10 0 r = (n, 0) := ⟨(Nm.num 10 0 r).1, Prod.ext rfl hz⟩
      have hok := Nm.num_ok (by omega) hn0
      have hRD := HRd.out hz
      have hv := Nm.val_ok hn0
      rw [hn0] at hRD ⊢
      rw [show (r.take 10).take n = r.take n by rw [List.take_take, Nat.min_eq_left (by omega)]]
      obtain ⟨v, hvv⟩ : ∃ v, Nm.val (r.take n) = v := ⟨_, rfl⟩
      have HD := hide (dec_num ht hn0 hvv)
      simp only [hvv] at hv ⊢
      have hnl : n ≤ r.length := hok.2.2.1
      have HRD := hide hRD
      clear hRD hn0 hvv hz HRd hok
      have hw1 : IntKind.i64.wrap (1 + (n : Int)) = ((1 + n : Nat) : Int) := by rw [IntKind.wrap_i64]; omega
      have hw2 : IntKind.i64.wrap ((r.length : Int) + 1 - ((1 + n : Nat) : Int)) = ((r.length - n : Nat) : Int) := by rw [IntKind.wrap_i64]; omega
      go_wp2_with fail
      refine (at_any w2 p n _ bv HRD.out).mono ?_
      rintro e w3 ⟨rfl, rfl⟩
      go_wp2_with fail
      · have hE := err_below HE1.out HB2.out (by omega)
        unfold ErrAt at hE
        go_quiet (fail)
        go_wp2
        refine bodyPost_ret (results_tmp4 Tryd.results67 _ _ _) rfl ?_
        exact ⟨by rw [LookOut, HD.out, if_pos (by simp; omega)]; rfl, below_drewN HB2.out _⟩
      · have e : 1 + (n : Int) + (v : Int) = ((1 + n + v : Nat) : Int) := by omega
        rw [e]
        clear e
        have hm4 : 1 + n + v + 4 ≤ r.length + 1 := by omega
        have hi : 1 + n ≤ 1 + n + v := by omega
        have HD := hide (HD.out.trans (if_neg (by simp; omega)))
        generalize 1 + n + v = m at *
        have hsub := sum_lt (bs := (t :: r).take m) fun x hx => HS.out.1 x (List.mem_of_mem_take hx)
        have hS2 := src_keep HS.out HB2.out
        have hZ2 := zip_below HZ.out HB2.out hg
        have hsW : Src w2 (.slice (some (ad.add m)) (r.length + 1 - m) (cap - m)) (((t :: r).take (r.length + 1)).drop m) := src_part hS2 m (r.length + 1) (cap - m) (by omega) (by simp) (by omega) (by omega)
        have hsB : Src w2 (.slice (some (ad.add 0)) (m - 0) cap) (((t :: r).take m).drop 0) := src_part hS2 0 m cap (by omega) (by simp; omega) (by omega) (by omega)
        rw [List.take_of_length_le (show (t :: r).length ≤ r.length + 1 by simp)] at hsW
        rw [Addr.add_zero', List.drop_zero, Nat.sub_zero] at hsB
        have hget : ∀ k, k < 4 → ((t :: r).drop m)[k]? = some ((t :: r).getD (m + k) 0) := fun k hk => by
          rw [List.getElem?_drop, List.getD_eq_getElem?_getD, List.getElem?_eq_getElem (by simp; omega)]; rfl
        have HW := hide fun q => word_any (w2.drewN q) _ _ (src_drew hsW q) _ _ _ _ (hget 0 (by omega)) (hget 1 (by omega)) (hget 2 (by omega)) (hget 3 (by omega))
        have HU := hide fun q => sum_any (w2.drewN q) (zip_below hZ2 (below_drewN (Below.refl _ _) q) (Nat.lt_of_lt_of_le hg HB2.out.size)) _ _ (src_drew hsB q) (by simp; omega)
        have hww : wordOf ((t :: r).getD (m + 0) 0) ((t :: r).getD (m + 1) 0) ((t :: r).getD (m + 2) 0) ((t :: r).getD (m + 3) 0) = wordAt (t :: r) m := rfl
        rw [hww] at HW
        generalize wordAt (t :: r) m = W at HW HD
        generalize sum ((t :: r).take m) = U at HU HD hsub
        clear hget hsW hsB hS2 hZ2 hww
        have hcm : cap - m ≠ 0 := by omega
        have hmc : m ≤ cap := by omega
        by_cases hWU : W = U
        · go_quiet (first | (go_at_call 72; exact Calls.quiet_of (HW.out _)) | (go_at_call 28; exact Calls.quiet_of_same ((HU.out _).mono fun e w' h => ⟨h.1, h.2.symm⟩)))
          go_wp2_with fail
          refine bodyPost_ret (results_tmp4 Tryd.results67 _ _ _) rfl ?_
          have HD2 := HD.out.trans (if_neg (by simp [hWU]))
          exact ⟨by rw [LookOut, HD2]; rfl, below_drewN HB2.out _⟩
        · have e1 : ((W : Int) == (U : Int)) = false := by simp; omega
          have e2 : ((W : Int) = (U : Int)) = False := by simp; omega
          go_quiet (first | (go_at_call 72; exact Calls.quiet_of (HW.out _)) | (go_at_call 28; exact Calls.quiet_of_same ((HU.out _).mono fun e w' h => ⟨h.1, h.2.symm⟩)))
          have hE := err_below HE6.out HB2.out (by omega)
          unfold ErrAt at hE
          go_wp2_with fail
          go_quiet (fail)
          go_wp2
          refine bodyPost_ret (results_tmp4 Tryd.results67 _ _ _) rfl ?_
          have HD2 := HD.out.trans (if_pos hWU)
          exact ⟨by rw [LookOut, HD2]; rfl, below_drewN (below_drewN HB2.out _) _⟩
      · have hE := err_below HE1.out HB2.out (by omega)
        unfold ErrAt at hE
        go_quiet (fail)
        go_wp2
        refine bodyPost_ret (results_tmp4 Tryd.results67 _ _ _) rfl ?_
        exact ⟨by rw [LookOut, HD.out, if_pos (by simp; omega)]; rfl, below_drewN HB2.out _⟩
    · have hd : dec (t :: r) = .inl 1 := dec_err ht hz (by omega)
      have HD := hide hd
      clear hd
      go_wp2_with fail
      refine bodyPost_ret (results_tmp4 Tryd.results67 _ _ _) rfl ?_
      exact ⟨by rw [LookOut, HD.out]; rfl, HB2.out⟩
    · have hd : dec (t :: r) = .inl 2 := dec_err ht hz (by omega)
      have HD := hide hd
      clear hd
      go_wp2_with fail
      refine bodyPost_ret (results_tmp4 Tryd.results67 _ _ _) rfl ?_
      exact ⟨by rw [LookOut, HD.out]; rfl, HB2.out⟩
/-- any list -/
theorem look_any (w : World) (Z : Zip w) (E : Nat → Addr) (h0 : ErrAt w 0 (E 0)) (h1 : ErrAt w 1 (E 1)) (h2 : ErrAt w 2 (E 2)) (h6 : ErrAt w 6 (E 6)) (hg : 16 < w.heap.size) (v : Value) (bs : List Nat)
    (hs : Src w v bs) (hl : bs.length ≤ 140737488355328) : Calls Tryd.prog 67 #[v] w fun e w' => LookOut E bs e ∧ Below w.heap.size w w' := by
  obtain ⟨ao, cap, rfl⟩ := src_form hs
  cases bs with
  | nil => exact look_nil w E h1 ao cap
  | cons t r =>
    obtain ⟨ad, rfl, hc⟩ := src_cell hs (show (t :: r)[0]? = some t from rfl)
    rw [Addr.add_zero'] at hc
    have hl' : r.length < 140737488355328 := by simp only [List.length_cons] at hl; omega
    by_cases ht : t = 0
    · subst ht
      exact look_zero w E h0 ad cap r hl' hc
    · by_cases hc1 : cap = 1
      · subst hc1
        have hr : r = [] := by
          rcases hs.2 with ⟨h, _⟩ | ⟨ad', c', h, ha, hb, _⟩
          · simp at h
          · simp only [Value.slice.injEq] at h
            have h3 := h.2.2
            rw [← h3] at ha
            exact List.eq_nil_of_length_eq_zero (by simp only [List.length_cons] at ha; omega)
        subst hr
        exact look_one w E h1 h2 hg ad t ht hc
      · exact look_some w Z E h1 h2 h6 hg ad cap t r hs ht hl' hc1
end Go.Proofs.YtgebekklkodpaaaDoor
