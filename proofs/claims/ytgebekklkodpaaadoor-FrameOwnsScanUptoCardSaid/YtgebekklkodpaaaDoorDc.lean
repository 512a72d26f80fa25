/- frame.Decode -/
import Derived.Test.YtgebekklkodpaaaDoorDl
import Derived.Deep.RegionHeld3
import Derived.OwnWalk
namespace Go.Proofs.YtgebekklkodpaaaDoor
open Go.RowKit

theorem results_cell_row2 {P : Program} {fn : Func} {p u v : Tmp} {ty : TypeId} (h : fn.results = #[.cell p ty, .tmp u, .tmp v]) (tmps : Array Value) (w : World) (g : Nat) (t : TypeId) (cs : Array Value) (fr : Nat × Nat) (d : TypeDesc)
    (hp : tmps.getD p undef = .pointer (some ⟨g, 0, none⟩)) (hg : w.heap[g]? = some (.cells cs t fr))
    (hu : P.underlying ty = some d) (hd : (match d with | .struct _ | .array _ _ => true | _ => false) = true) (hi : (P.info? ty).map (·.size) = some cs.size) :
    (results fn tmps).run P w = .ok (.tuple #[.agg cs, tmps.getD u undef, tmps.getD v undef]) w := by
  have hp' : tmps[p]?.getD undef = .pointer (some ⟨g, 0, none⟩) := by simpa using hp
  simp [results, h, hp', asAddr, Result.andThen, run_loadVar_row w g t ty cs fr d hg hu hd hi]
theorem cells2 {w : World} {p : Nat} {a b : Value} {t : TypeId} {fr : Nat × Nat} (h : w.heap[p]? = some (.cells #[a, b] t fr)) :
    w.cell? ⟨p, 0, none⟩ = some a ∧ w.cell? ⟨p, 1, none⟩ = some b := by
  refine ⟨?_, ?_⟩
  · rw [cell_at h]; rfl
  · rw [cell_at h]; rfl
theorem Tryd.results35 : Tryd.f35.results = #[.cell 2 47, .tmp 3, .tmp 4] := rfl

def DecOut (E : Nat → Addr) (B : Nat) (bs : List Nat) (e : Ending) (w' : World) : Prop :=
  match dec bs with
  | .inl g => e = .returned (.tuple #[.agg #[.int .u8 0, .slice none 0 0], .int .i64 0, .iface 124 (.pointer (some (E g)))])
  | .inr (i, j) => ∃ g : Nat, e = .returned (.tuple #[.agg #[.int .u8 (bs.getD 0 0 : Nat), .slice (some ⟨g, 0, none⟩) (j - i) (j - i)], .int .i64 ((j + 4 : Nat) : Int), .nilIface]) ∧ B ≤ g ∧
      w'.heap[g]? = some (.cells (u8s ((bs.take j).drop i)).toArray 5 (0, 0))

set_option maxRecDepth 100000 in
set_option maxHeartbeats 4000000 in
theorem decode_any (w : World) (Z : Zip w) (E : Nat → Addr) (h0 : ErrAt w 0 (E 0)) (h1 : ErrAt w 1 (E 1)) (h2 : ErrAt w 2 (E 2)) (h6 : ErrAt w 6 (E 6)) (hg : 16 < w.heap.size) (v : Value) (bs : List Nat)
    (hs : Src w v bs) (hl : bs.length ≤ 140737488355328) : Calls Tryd.prog 35 #[v] w fun e w' => DecOut E w.heap.size bs e w' ∧ Below w.heap.size w w' := by
  obtain ⟨ao, cap, rfl⟩ := src_form hs
  have HB := hide ((Below.refl w.heap.size w).alloc (Nat.le_refl _) (.cells #[.int .u8 0, .slice none 0 0] 47))
  have HR := hide (heap_new (w := w) rfl (.cells #[.int .u8 0, .slice none 0 0] 47))
  have hlk := hide (look_any (w.alloc (.cells #[.int .u8 0, .slice none 0 0] 47)) (zip_below Z HB.out hg) E (err_below h0 HB.out (by omega)) (err_below h1 HB.out (by omega)) (err_below h2 HB.out (by omega)) (err_below h6 HB.out (by omega)) (by rw [World.size_alloc]; omega) _ bs (src_keep hs HB.out) hl)
  have HS := hide hs
  clear hs Z h0 h1 h2 h6
  go_enter Tryd.func35, Tryd.ntmps35
  go_wp2_with fail
  refine hlk.out.mono ?_
  rintro e w1 ⟨hout, hb⟩
  rw [World.size_alloc] at hb
  have HR1 := hide ((hb.block _ (by omega)).trans HR.out)
  have HB1 := hide (HB.out.trans (hb.mono (by omega)))
  have HO := hide hout
  clear hout hb hlk HR HB
  obtain ⟨c0, c1⟩ := cells2 HR1.out
  have f0 := free_at HR1.out 0
  have f1 := free_at HR1.out 1
  have hz := heap_lt HR1.out
  cases hd : dec bs with
  | inl g =>
    have hout := HO.out
    rw [LookOut, hd] at hout
    subst hout
    have HD := hide hd
    clear hd HO
    go_wp2_with fail
    refine bodyPost_ret (results_cell_row2 Tryd.results35 _ _ w.heap.size 47 #[.int .u8 0, .slice none 0 0] (0, 0) _ rfl (heap_set (heap_set HR1.out _) _) rfl rfl (by kernel_rfl)) rfl ?_
    refine ⟨?_, below_set (below_set HB1.out (Nat.le_refl _) _) (Nat.le_refl _) _⟩
    rw [DecOut, HD.out]
    rfl
  | inr q =>
    obtain ⟨i, j⟩ := q
    have hout := HO.out
    rw [LookOut, hd] at hout
    subst hout
    obtain ⟨t, r, rfl, ht0, hij, hjl, hi2, _⟩ := dec_ok HS.out.1 hd
    have HD := hide hd
    clear hd HO
    obtain ⟨ad, rfl, hc⟩ := src_cell HS.out (show (t :: r)[0]? = some t from rfl)
    rw [Addr.add_zero'] at hc
    have hadlt := World.block_lt_of_cell? w _ hc
    have hcw : w1.cell? ad = some (.int .u8 t) := (HB1.out.cell (p := ad) hadlt).trans hc
    have hcap : (t :: r).length ≤ cap ∧ cap ≤ 9223372036854775807 := by
      rcases HS.out.2 with ⟨h, _⟩ | ⟨ad', c', h, ha, hb, _⟩
      · simp at h
      · simp only [Value.slice.injEq] at h
        obtain ⟨_, _, rfl⟩ := h
        exact ⟨ha, hb⟩
    have hsP := src_part HS.out i j (cap - i) hij (by omega) (by omega) (by omega)
    have HP := hide fun w' (h : Below w.heap.size w w') => src_keep hsP h
    have HK := hide fun w' (h : Below w1.heap.size w1 w') => (h.cell (p := ad) (by omega)).trans hcw
    have hbl : (((t :: r).take j).drop i).length = j - i := by rw [List.length_drop, List.length_take]; omega
    obtain ⟨body, hbody⟩ : ∃ body, ((t :: r).take j).drop i = body := ⟨_, rfl⟩
    rw [hbody] at HP hbl
    have HC := hide fun (w' : World) (g : Nat) (h : Below w.heap.size w w') (hc : w'.cell? ⟨g, 0, none⟩ = some (.slice (some (ad.add i)) (j - i) (cap - i))) =>
      hbl ▸ concat_any w' g _ body hc (HP.out w' h) (by rw [hbl]; omega)
    have HY := hide hbody
    clear hsP hc hbody
    generalize hn : (t :: r).length = n at *
    have i0 : (0 : Int) < (n : Int) := by omega
    have i9 : 0 < n := by omega
    have i1 : (0 : Int) ≤ (i : Int) := by omega
    have i2 : (i : Int) ≤ (j : Int) := by omega
    have i3 : (j : Int) ≤ (cap : Int) := by omega
    have i4 : (j : Int) ≤ (n : Int) := by omega
    have i5 : cap - i ≠ 0 := by omega
    have i6 : i ≤ j := hij
    have i7 : j ≤ cap := by omega
    have i8 : i ≠ 0 := by omega
    have i10 : cap ≠ i := by omega
    have hcA := fun o => HK.out _ ((Below.refl _ _).alloc (Nat.le_refl _) o)
    go_wp2_with fail
    have HX := hide (HB1.out.alloc HB1.out.size (.cells #[.slice (some (ad.add i)) (j - i) (cap - i)] 25)).drew
    go_region_held3 (fun w' => w'.cell? ad = some (.int .u8 t)) (first | exact hcw | exact hcA _ | assumption | exact (World.cell?_setCell_far _ _ _ _ (by simp; omega)).trans ((World.cell?_setCell_far _ _ _ _ (by simp; omega)).trans (by assumption)))
      (first
        | (go_at_call 68
           refine (HC.out _ w1.heap.size HX.out (by show (w1.alloc _).cell? _ = _; rw [World.cell?_alloc_new]; rfl)).mono ?_
           rintro e w2 ⟨rfl, hh, hb⟩
           have hsz : (w1.alloc (.cells #[.slice (some (ad.add i)) (j - i) (cap - i)] 25)).drew.heap.size = w1.heap.size + 1 := World.size_alloc ..
           rw [hsz] at hh hb
           have hk2 := HK.out w2 (((Below.refl _ _).alloc (Nat.le_refl _) _).drew.trans (hb.mono (by omega)))
           have hr2 := (hb.block _ (by omega)).trans (heap_old HR1.out _)
           obtain ⟨d0, d1⟩ := cells2 hr2
           have e0 := free_at hr2 0
           have e1 := free_at hr2 1))
    have hB2 := HX.out.trans (hb.mono (by omega))
    have HH := hide hh
    have HB2 := hide hB2
    have HR2 := hide hr2
    clear hh hb hB2 hr2 hk2 d0 d1 e0 e1
    go_wp2_with fail
    refine bodyPost_ret (results_cell_row2 Tryd.results35 _ _ w.heap.size 47 #[.int .u8 t, .slice (some ⟨w1.heap.size + 1, 0, none⟩) (j - i) (j - i)] (0, 0) _ rfl (heap_set (heap_set HR2.out _) _) rfl rfl (by kernel_rfl)) rfl ?_
    refine ⟨?_, below_set (below_set HB2.out (Nat.le_refl _) _) (Nat.le_refl _) _⟩
    rw [DecOut, HD.out]
    refine ⟨w1.heap.size + 1, rfl, by omega, ?_⟩
    rw [HY.out]
    exact heap_else (heap_else HH.out (by omega) _) (by omega) _
end Go.Proofs.YtgebekklkodpaaaDoor
