/- texts of this proof, one behind the other: Fi Rde -/
import Derived.Test.YtmkbbekeimnajaaDoorMPlays0
import Derived.Test.YtmkbbekeimnajaaDoorMPlays1
import Derived.Test.YtmkbbekeimnajaaDoorMPlays2
import Derived.Test.YtmkbbekeimnajaaDoorMPlays3
import Derived.Test.YtmkbbekeimnajaaDoorMPlays4
import Derived.Test.YtmkbbekeimnajaaDoorMPlays5
import Derived.Test.YtmkbbekeimnajaaDoorMPlays6
import Derived.Test.YtmkbbekeimnajaaDoorMPlays7
import Derived.Test.YtmkbbekeimnajaaDoorMPlays8
import Derived.Test.YtmkbbekeimnajaaDoorMPlays9
import Derived.Test.YtmkbbekeimnajaaDoorMPlays10
import Derived.Deep.OwnRows
/-! Fi: the document's reading of a block (60) -/
namespace Go.Proofs.YtmkbbekeimnajaaDoor
open Go.RowKit Ds
/-- m with h laid at lo .. lo + k -/
def setR (m : Nat → Bool) (lo k : Nat) (h : Nat → Bool) : Nat → Bool := fun i => if lo ≤ i ∧ i < lo + k then h (i - lo) else m i
theorem setR_zero (m : Nat → Bool) (lo : Nat) (h : Nat → Bool) : setR m lo 0 h = m := by
  funext i
  unfold setR
  rw [if_neg (by omega)]
theorem setR_succ (m : Nat → Bool) (lo k : Nat) (h : Nat → Bool) : put (setR m lo k h) (lo + k) (h k) = setR m lo (k + 1) h := by
  funext i
  unfold put setR
  by_cases e : i = lo + k
  · rw [if_pos e, if_pos (by omega), show i - lo = k by omega]
  · rw [if_neg e]
    by_cases e2 : lo ≤ i ∧ i < lo + k
    · rw [if_pos e2, if_pos (by omega)]
    · rw [if_neg e2, if_neg (by omega)]
theorem setR_put (m : Nat → Bool) (lo k x : Nat) (h h' : Nat → Bool) (b : Bool) (hx : x < k) (hh : ∀ i, i < k → h' i = if i = x then b else h i) : put (setR m lo k h) (lo + x) b = setR m lo k h' := by
  funext i
  unfold put setR
  by_cases e2 : lo ≤ i ∧ i < lo + k
  · rw [if_pos e2, if_pos e2, hh _ (by omega)]
    by_cases e : i = lo + x
    · rw [if_pos e, if_pos (by omega)]
    · rw [if_neg e, if_neg (by omega)]
  · rw [if_neg e2, if_neg e2, if_neg (by omega)]
theorem setR_in (m : Nat → Bool) (lo k i : Nat) (h : Nat → Bool) (hi : i < k) : setR m lo k h (lo + i) = h i := by
  unfold setR
  rw [if_pos (by omega), show lo + i - lo = i by omega]
theorem setR_out (m : Nat → Bool) (lo k i : Nat) (h : Nat → Bool) (hi : i < lo ∨ lo + k ≤ i) : setR m lo k h i = m i := by
  unfold setR
  rw [if_neg (by omega)]
/-- the shapes of a block -/
theorem form_cases (f : Nat → Bool) (w : Nat) : (form f w = [0] ∧ ∀ i, i < w → f i = false) ∨ (form f w = [1] ∧ ∀ i, i < w → f i = true) ∨
    (form f w = 2 :: (cnt f w - 1) :: Ds.mem f w ∧ 0 < cnt f w) ∨ (form f w = 3 :: (w - cnt f w - 1) :: Ds.mem (inv f) w ∧ cnt f w < w) ∨ form f w = 4 :: bitsB f w := by
  have hc := cnt_le f w
  unfold form
  rcases tagOf_cases w (cnt f w) with ⟨e, h⟩ | ⟨e, h1, h2⟩ | ⟨e, h1, h2, _⟩ | ⟨e, h1, h2, _⟩ | ⟨e, h1, h2, _⟩ <;> rw [e]
  · refine .inl ⟨rfl, fun i hi => ?_⟩
    cases hfi : f i with
    | false => rfl
    | true =>
      have hm : i ∈ Ds.mem f w := mem_iff.2 ⟨hi, hfi⟩
      have : Ds.mem f w = [] := List.eq_nil_of_length_eq_zero h
      rw [this] at hm
      cases hm
  · refine .inr (.inl ⟨rfl, fun i hi => ?_⟩)
    cases hfi : f i with
    | true => rfl
    | false =>
      have hm : i ∈ Ds.mem (inv f) w := mem_iff.2 ⟨hi, by unfold inv; rw [hfi]; rfl⟩
      have h3 := cnt_inv f w
      rw [h2, Nat.sub_self] at h3
      have : Ds.mem (inv f) w = [] := List.eq_nil_of_length_eq_zero h3
      rw [this] at hm
      cases hm
  · exact .inr (.inr (.inl ⟨rfl, by omega⟩))
  · exact .inr (.inr (.inr (.inl ⟨rfl, by omega⟩)))
  · exact .inr (.inr (.inr (.inr rfl)))
/-- what the reading answers -/
structure FillOut (bs : List Nat) (lo wd p : Nat) (m m' : Nat → Bool) (r : Int) : Prop where
  far : ∀ i, i < lo ∨ lo + wd ≤ i → m' i = m i
  at_ : r = -1 ∨ ∃ p' : Nat, r = (p' : Int) ∧ p ≤ p' ∧ p' ≤ bs.length
  form : ∀ (f : Nat → Bool) r', bs.drop p = form f wd ++ r' → (∀ i, i < wd → m (lo + i) = false) → r = ((p + (form f wd).length : Nat) : Int) ∧ ∀ i, i < wd → m' (lo + i) = f i
theorem FillOut.bad {bs : List Nat} {lo wd p : Nat} {m m' : Nat → Bool} (hf : ∀ i, i < lo ∨ lo + wd ≤ i → m' i = m i) (h : ∀ f r', bs.drop p ≠ Ds.form f wd ++ r') : FillOut bs lo wd p m m' (-1) :=
  ⟨hf, .inl rfl, fun f r' e _ => absurd e (h f r')⟩
theorem bad_len {bs : List Nat} {p wd : Nat} (hw : wd ≤ 256) (hp : bs.length ≤ p) : ∀ f r', bs.drop p ≠ form f wd ++ r' := fun f r' e => by
  have h1 := (form_len f wd hw).1
  have h2 := congrArg List.length e
  rw [List.length_drop, List.length_append] at h2
  omega
theorem bad_tag {bs : List Nat} {p x wd : Nat} (hx : bs[p]? = some x) (h4 : 4 < x) : ∀ f r', bs.drop p ≠ form f wd ++ r' := fun f r' e => by
  rw [drop_at hx] at e
  rcases form_cases f wd with ⟨h, _⟩ | ⟨h, _⟩ | ⟨h, _⟩ | ⟨h, _⟩ | h <;> rw [h] at e <;> simp only [List.cons_append, List.cons.injEq] at e <;> omega
/-- the list's shape -/
def lst (b : Bool) (f : Nat → Bool) : Nat → Bool := if b then f else inv f
theorem list_form {bs : List Nat} {p wd : Nat} {b : Bool} (hx : bs[p]? = some (if b then 2 else 3)) (f : Nat → Bool) (r' : List Nat) (e : bs.drop p = form f wd ++ r') :
    bs.drop (p + 1) = (cnt (lst b f) wd - 1) :: (Ds.mem (lst b f) wd ++ r') ∧ 0 < cnt (lst b f) wd ∧ (form f wd).length = 2 + cnt (lst b f) wd := by
  rw [drop_at hx] at e
  have hc := cnt_le f wd
  have hi := cnt_inv f wd
  cases b with
  | true =>
    rw [if_pos rfl] at e
    unfold lst
    rw [if_pos rfl]
    rcases form_cases f wd with ⟨h, _⟩ | ⟨h, _⟩ | ⟨h, h0⟩ | ⟨h, _⟩ | h <;> rw [h] at e ⊢ <;> simp only [List.cons_append, List.cons.injEq] at e <;> first | omega | skip
    exact ⟨e.2, h0, by rw [List.length_cons, List.length_cons]; unfold cnt; omega⟩
  | false =>
    rw [if_neg (by decide)] at e
    unfold lst
    rw [if_neg (by decide)]
    rcases form_cases f wd with ⟨h, _⟩ | ⟨h, _⟩ | ⟨h, _⟩ | ⟨h, h0⟩ | h <;> rw [h] at e ⊢ <;> simp only [List.cons_append, List.cons.injEq] at e <;> first | omega | skip
    refine ⟨by rw [hi, e.2], by omega, ?_⟩
    rw [List.length_cons, List.length_cons]
    unfold cnt
    omega
theorem bad_short {bs : List Nat} {p wd : Nat} {b : Bool} (hx : bs[p]? = some (if b then 2 else 3)) (h : bs.length ≤ p + 1) : ∀ f r', bs.drop p ≠ form f wd ++ r' := fun f r' e => by
  have h1 := (list_form hx f r' e).1
  rw [List.drop_eq_nil_of_le h] at h1
  cases h1
theorem list_at {bs : List Nat} {p wd y : Nat} {b : Bool} (hx : bs[p]? = some (if b then 2 else 3)) (hy : bs[p + 1]? = some y) (f : Nat → Bool) (r' : List Nat) (e : bs.drop p = form f wd ++ r') :
    bs.drop (p + 2) = Ds.mem (lst b f) wd ++ r' ∧ y + 1 = cnt (lst b f) wd ∧ (form f wd).length = 2 + (y + 1) := by
  obtain ⟨h1, h2, h3⟩ := list_form hx f r' e
  rw [drop_at hy] at h1
  simp only [List.cons.injEq] at h1
  exact ⟨h1.2, by omega, by omega⟩
theorem bad_list {bs : List Nat} {p wd y q : Nat} {b : Bool} (hx : bs[p]? = some (if b then 2 else 3)) (hy : bs[p + 1]? = some y) (hq : q ≤ y) (h : bs.length ≤ p + 2 + q ∨ ∃ x, bs[p + 2 + q]? = some x ∧ wd ≤ x) : ∀ f r', bs.drop p ≠ form f wd ++ r' := fun f r' e => by
  obtain ⟨h1, h2, _⟩ := list_at hx hy f r' e
  have hl : q < (Ds.mem (lst b f) wd).length := by unfold cnt at h2; omega
  have hg : bs[p + 2 + q]? = (Ds.mem (lst b f) wd)[q]? := by
    rw [← List.getElem?_drop, h1, List.getElem?_append_left hl]
  rw [List.getElem?_eq_getElem hl] at hg
  rcases h with h | ⟨x, h, h3⟩
  · rw [List.getElem?_eq_none h] at hg
    cases hg
  · rw [h] at hg
    have := mem_lt (List.getElem_mem hl)
    simp only [Option.some.injEq] at hg
    omega
def lsM (m : Nat → Bool) (lo wd : Nat) (b : Bool) (L : List Nat) : Nat → Bool := setR m lo wd fun i => has L i == b
theorem good_list {bs : List Nat} {lo p wd y : Nat} {b : Bool} {m : Nat → Bool} (hx : bs[p]? = some (if b then 2 else 3)) (hy : bs[p + 1]? = some y) (hl : p + 2 + (y + 1) ≤ bs.length) :
    FillOut bs lo wd p m (lsM m lo wd b ((bs.drop (p + 2)).take (y + 1))) ((p + 2 + (y + 1) : Nat) : Int) := by
  refine ⟨fun i hi => setR_out _ _ _ _ _ hi, .inr ⟨_, rfl, by omega, hl⟩, fun f r' e _ => ?_⟩
  obtain ⟨h1, h2, h3⟩ := list_at hx hy f r' e
  refine ⟨by rw [h3]; push_cast; omega, fun i hi => ?_⟩
  unfold lsM
  rw [setR_in _ _ _ _ _ hi, h1, h2]
  have : (Ds.mem (lst b f) wd ++ r').take (cnt (lst b f) wd) = Ds.mem (lst b f) wd := List.take_left
  rw [this, has_mem _ _ _ hi]
  unfold lst
  cases b with
  | true => simp
  | false => simp [inv]
theorem lsM_zero (m : Nat → Bool) (lo wd : Nat) (b : Bool) (L : List Nat) : setR m lo wd (fun _ => !b) = lsM m lo wd b (L.take 0) := by
  unfold lsM
  congr 1
  funext i
  cases b <;> simp [has]
theorem lsM_succ {m : Nat → Bool} {lo wd q x : Nat} {b : Bool} {L : List Nat} (hx : L[q]? = some x) (hw : x < wd) : put (lsM m lo wd b (L.take q)) (lo + x) b = lsM m lo wd b (L.take (q + 1)) := by
  unfold lsM
  refine setR_put _ _ _ _ _ _ _ hw fun i _ => ?_
  have : L.take (q + 1) = L.take q ++ [x] := by rw [List.take_add_one, hx]; rfl
  rw [this]
  unfold has
  simp only [List.contains_append]
  by_cases e : i = x
  · rw [if_pos e]
    subst e
    cases b <;> simp
  · rw [if_neg e]
    have : ([x] : List Nat).contains i = false := by simp; exact e
    rw [this, Bool.or_false]
theorem bits_form {bs : List Nat} {p wd : Nat} (hx : bs[p]? = some 4) (f : Nat → Bool) (r' : List Nat) (e : bs.drop p = form f wd ++ r') : bs.drop (p + 1) = bitsB f wd ++ r' ∧ (form f wd).length = 1 + (wd + 7) / 8 := by
  rw [drop_at hx] at e
  rcases form_cases f wd with ⟨h, _⟩ | ⟨h, _⟩ | ⟨h, _⟩ | ⟨h, _⟩ | h <;> rw [h] at e ⊢ <;> simp only [List.cons_append, List.cons.injEq] at e <;> first | omega | skip
  exact ⟨e.2, by rw [List.length_cons, bitsB_len]; omega⟩
theorem bad_bits {bs : List Nat} {p wd k : Nat} (hx : bs[p]? = some 4) (hk : k < wd) (hl : bs.length ≤ p + 1 + k / 8) : ∀ f r', bs.drop p ≠ form f wd ++ r' := fun f r' e => by
  obtain ⟨h1, h2⟩ := bits_form hx f r' e
  have h3 := congrArg List.length h1
  rw [List.length_drop, List.length_append, bitsB_len] at h3
  omega
theorem good_bits {bs : List Nat} {lo p wd : Nat} {m : Nat → Bool} (hx : bs[p]? = some 4) (hl : p + 1 + (wd + 7) / 8 ≤ bs.length) : FillOut bs lo wd p m (setR m lo wd (bitAt (bs.drop (p + 1)))) ((p + 1 + (wd + 7) / 8 : Nat) : Int) := by
  refine ⟨fun i hi => setR_out _ _ _ _ _ hi, .inr ⟨_, rfl, by omega, hl⟩, fun f r' e _ => ?_⟩
  obtain ⟨h1, h2⟩ := bits_form hx f r' e
  refine ⟨by rw [h2]; push_cast; omega, fun i hi => ?_⟩
  rw [setR_in _ _ _ _ _ hi, h1, bitAt_bitsB _ _ _ _ hi]
theorem good_none {bs : List Nat} {lo p wd : Nat} {m : Nat → Bool} (hx : bs[p]? = some 0) : FillOut bs lo wd p m m ((p + 1 : Nat) : Int) := by
  have hl := (List.getElem?_eq_some_iff.1 hx).1
  refine ⟨fun _ _ => rfl, .inr ⟨_, rfl, by omega, by omega⟩, fun f r' e hm => ?_⟩
  rw [drop_at hx] at e
  rcases form_cases f wd with ⟨h, hf⟩ | ⟨h, _⟩ | ⟨h, _⟩ | ⟨h, _⟩ | h <;> rw [h] at e ⊢ <;> simp only [List.cons_append, List.cons.injEq] at e <;> first | omega | skip
  exact ⟨rfl, fun i hi => by rw [hm i hi, hf i hi]⟩
theorem good_all {bs : List Nat} {lo p wd : Nat} {m : Nat → Bool} (hx : bs[p]? = some 1) : FillOut bs lo wd p m (setR m lo wd fun _ => true) ((p + 1 : Nat) : Int) := by
  have hl := (List.getElem?_eq_some_iff.1 hx).1
  refine ⟨fun i hi => setR_out _ _ _ _ _ hi, .inr ⟨_, rfl, by omega, by omega⟩, fun f r' e _ => ?_⟩
  rw [drop_at hx] at e
  rcases form_cases f wd with ⟨h, _⟩ | ⟨h, hf⟩ | ⟨h, _⟩ | ⟨h, _⟩ | h <;> rw [h] at e ⊢ <;> simp only [List.cons_append, List.cons.injEq] at e <;> first | omega | skip
  exact ⟨rfl, fun i hi => by rw [setR_in _ _ _ _ _ hi, hf i hi]⟩
structure FiSt (w0 w : World) (Y g n : Nat) (m : Nat → Bool) (wr : World) : Prop where
  own : ROwn wr g n m
  box : wr.heap[Y]? = some (.cells #[.int .i64 (n : Nat), .slice (some ⟨g, 0, none⟩) n n] 54 (0, 0))
  below : Below w0.heap.size w0 wr
  old : ∀ k o, k ≠ g → w.heap[k]? = some o → wr.heap[k]? = some o
theorem FiSt.put {w0 w wr : World} {Y g n : Nat} {m : Nat → Bool} (h : FiSt w0 w Y g n m wr) (hY : Y ≠ g) (hg : w0.heap.size ≤ g) (i : Nat) (b : Bool) : FiSt w0 w Y g n (put m i b) (wr.setCell ⟨g, i, none⟩ (.bool b)) :=
  ⟨h.own.put i b, heap_else h.box hY _, below_set h.below hg _, fun k o hk ho => heap_else (h.old k o hk ho) hk _⟩
theorem FiSt.drew {w0 w wr : World} {Y g n : Nat} {m : Nat → Bool} (h : FiSt w0 w Y g n m wr) : FiSt w0 w Y g n m wr.drew := ⟨h.own, h.box, below_drewN h.below 1, h.old⟩
set_option maxRecDepth 100000 in
set_option maxHeartbeats 4000000 in
theorem ref_fill (w0 w : World) {g n : Nat} {m : Nat → Bool} (h : ROwn w g n m) (hn : n ≤ 1048576) (lo hi wd p : Nat) (hh : hi = lo + wd) (hin : hi ≤ n) (hw0 : 0 < wd) (hw : wd ≤ 256) (v : Value) (bs : List Nat) (hs : Src w0 v bs)
    (hb : Below w0.heap.size w0 w) (hg : w0.heap.size ≤ g) (hl : bs.length ≤ 140737488351232) (hp : p ≤ 140737488351232) :
    Calls Tryd.prog 60 #[RefV g n, .int .i64 (lo : Nat), .int .i64 (hi : Nat), v, .int .i64 (p : Nat)] w fun e w' => ∃ m' r, e = .returned (.int .i64 r) ∧ FillOut bs lo wd p m m' r ∧ ROwn w' g n m' ∧ Below w0.heap.size w0 w' ∧ ∀ k o, k ≠ g → w.heap[k]? = some o → w'.heap[k]? = some o := by
  obtain ⟨ao, cap, rfl⟩ := src_form hs
  have HS := hide hs
  clear hs
  obtain ⟨N, hN⟩ : ∃ N, bs.length = N := ⟨_, rfl⟩
  rw [hN] at hl HS ⊢
  have HN := hide hN
  have hq : (hi : Int) - (lo : Int) = (wd : Int) := by omega
  have HH := hide hh
  have hYg : w.heap.size ≠ g := by have := heap_lt h; omega
  clear hN hh
  go_enter Tryd.func60, Tryd.ntmps60
  have HST := hide (show FiSt w0 w w.heap.size g n m (w.alloc (.cells #[.int .i64 (n : Nat), .slice (some ⟨g, 0, none⟩) n n] 54)) from ⟨heap_old h _, heap_new rfl _, hb.alloc hb.size _, fun k o _ ho => heap_old ho _⟩)
  clear h hb
  by_cases hpN : p < N
  · have hpi : ¬ (N : Int) ≤ (p : Int) := by omega
    have hx : ∃ x, bs[p]? = some x := ⟨_, List.getElem?_eq_getElem (by rw [HN.out]; exact hpN)⟩
    obtain ⟨x, hx⟩ := hx
    obtain ⟨ad, rfl, hcell⟩ := src_cell HS.out hx
    have hx256 := HS.out.1 x (List.mem_of_getElem? hx)
    have HX := hide hx
    have hcell := (HST.out.below.cell (World.block_lt_of_cell? w0 _ hcell)).trans hcell
    clear hx
    go_upto_region 1 with (fail)
    generalize w.alloc (.cells #[.int .i64 (n : Nat), .slice (some ⟨g, 0, none⟩) n n] 54) = w1 at *
    obtain ⟨Y, hY⟩ : ∃ Y, w.heap.size = Y := ⟨_, rfl⟩
    rw [hY] at HST hYg ⊢
    clear hY
    obtain ⟨p1, hp1e⟩ : ∃ p1, p + 1 = p1 := ⟨_, rfl⟩
    have hp1i : (p : Int) + 1 = (p1 : Int) := by omega
    have HP1 := hide hp1e
    have hp1b : p1 ≤ 140737488351233 := by omega
    clear hp1e
    by_cases x0 : x = 0
    · subst x0
      have HG := hide (good_none (lo := lo) (m := m) (wd := wd) HX.out)
      go_wp2_with fail
      go_ret
      rw [HP1.out] at HG
      exact ⟨m, ((p1 : Nat) : Int), rfl, HG.out, HST.out.own, HST.out.below, HST.out.old⟩
    by_cases x1 : x = 1
    · subst x1
      have HG := hide (good_all (lo := lo) (m := m) (wd := wd) HX.out)
      go_wp2_with fail
      go_loopw [14] (fun k wr => ∃ i : Nat, k = .int .i64 ((lo + i : Nat) : Int) ∧ i ≤ wd ∧ FiSt w0 w Y g n (setR m lo i fun _ => true) wr) (fun k _ => hi - (intOf k).toNat)
      case atStart => exact ⟨0, rfl, Nat.zero_le _, by rw [setR_zero]; exact HST.out⟩
      case round =>
        obtain ⟨i, rfl, hiw, hst⟩ := hrel
        have HSr := hide hst
        clear hst HST
        by_cases hlt : i < wd
        · have hii : (lo : Int) + (i : Int) < (hi : Int) := by have := HH.out; omega
          obtain ⟨c0, c1⟩ := cells2 HSr.out.box
          have hcc := HSr.out.own.cell (i := lo + i) (by have := HH.out; omega)
          have hfr := HSr.out.own.free (lo + i)
          have HP := hide (show FiSt w0 w Y g n (setR m lo (i + 1) fun _ => true) (wr.setCell ⟨g, lo + i, none⟩ (.bool true)) from by rw [← setR_succ]; exact HSr.out.put hYg hg (lo + i) true)
          go_wp2_with fail
          exact ⟨⟨i + 1, vi (by push_cast; omega), by omega, HP.out⟩, by have := HH.out; simp only [intOf]; omega⟩
        · obtain rfl : wd = i := by omega
          have hii : ¬ (lo : Int) + (wd : Int) < (hi : Int) := by have := HH.out; omega
          go_wp2_with fail
          go_ret
          rw [HP1.out] at HG
          exact ⟨_, ((p1 : Nat) : Int), rfl, HG.out, HSr.out.own, HSr.out.below, HSr.out.old⟩
    by_cases x2 : x = 2
    · subst x2
      go_wp2_with fail
      go_loopw [14] (fun k wr => ∃ i : Nat, k = .int .i64 ((lo + i : Nat) : Int) ∧ i ≤ wd ∧ FiSt w0 w Y g n (setR m lo i fun _ => !true) wr) (fun k _ => hi - (intOf k).toNat)
      case atStart => exact ⟨0, rfl, Nat.zero_le _, by rw [setR_zero]; exact HST.out⟩
      case round =>
        obtain ⟨i, rfl, hiw, hst⟩ := hrel
        have HSr := hide hst
        clear hst HST
        by_cases hlt : i < wd
        · have hii : (lo : Int) + (i : Int) < (hi : Int) := by have := HH.out; omega
          obtain ⟨c0, c1⟩ := cells2 HSr.out.box
          have hcc := HSr.out.own.cell (i := lo + i) (by have := HH.out; omega)
          have hfr := HSr.out.own.free (lo + i)
          have HP := hide (show FiSt w0 w Y g n (setR m lo (i + 1) fun _ => !true) (wr.setCell ⟨g, lo + i, none⟩ (.bool !true)) from by rw [← setR_succ]; exact HSr.out.put hYg hg (lo + i) !true)
          go_wp2_with fail
          exact ⟨⟨i + 1, vi (by push_cast; omega), by omega, HP.out⟩, by have := HH.out; simp only [intOf]; omega⟩
        · obtain rfl : wd = i := by omega
          have hii : ¬ (lo : Int) + (wd : Int) < (hi : Int) := by have := HH.out; omega
          by_cases hp1 : p1 < N
          · have hp1n : ¬ (N : Int) ≤ (p1 : Int) := by omega
            obtain ⟨y, hy⟩ : ∃ y, bs[p + 1]? = some y := ⟨_, List.getElem?_eq_getElem (by rw [HN.out, HP1.out]; exact hp1)⟩
            obtain ⟨_, e1, hcell1⟩ := src_cell HS.out hy
            cases e1
            have hy256 := HS.out.1 y (List.mem_of_getElem? hy)
            have hcell1 := (HSr.out.below.cell (World.block_lt_of_cell? w0 _ hcell1)).trans hcell1
            have HY := hide hy
            rw [HP1.out] at hcell1
            clear hy
            obtain ⟨L, hL⟩ : ∃ L, bs.drop (p + 2) = L := ⟨_, rfl⟩
            have HL := hide hL
            clear hL
            go_wp2_with fail
            go_loopw [4, 16] (fun a c wr => ∃ q : Nat, a = .int .i64 ((p + 2 + q : Nat) : Int) ∧ c = .int .i64 (q : Nat) ∧ q ≤ y + 1 ∧ p + 2 + q ≤ N ∧ FiSt w0 w Y g n (lsM m lo wd true (L.take q)) wr) (fun _ c _ => y + 1 - (intOf c).toNat)
            case atStart => exact ⟨0, vi (by have := HP1.out; push_cast; omega), rfl, Nat.zero_le _, by have := HP1.out; omega, by rw [← lsM_zero]; exact HSr.out⟩
            case round =>
              obtain ⟨q, rfl, rfl, hqy, hqN, hst⟩ := hrel
              have HSq := hide hst
              clear hst HSr hcell1
              obtain ⟨a, ha⟩ : ∃ a, p + 2 + q = a := ⟨_, rfl⟩
              rw [ha] at hqN ⊢
              by_cases hlt : q < y + 1
              · have hqi : (q : Int) < (y : Int) + 1 := by omega
                by_cases haN : a < N
                · have hai : ¬ (N : Int) ≤ (a : Int) := by omega
                  obtain ⟨x, hx⟩ : ∃ x, bs[a]? = some x := ⟨_, List.getElem?_eq_getElem (by rw [HN.out]; exact haN)⟩
                  obtain ⟨_, e1, hcella⟩ := src_cell HS.out hx
                  cases e1
                  have hx256 := HS.out.1 x (List.mem_of_getElem? hx)
                  have hcella := (HSq.out.below.cell (World.block_lt_of_cell? w0 _ hcella)).trans hcella
                  by_cases hxw : x < wd
                  · obtain ⟨z, hz⟩ : ∃ z, lo + x = z := ⟨_, rfl⟩
                    have hzi : (lo : Int) + (x : Int) = (z : Int) := by omega
                    have hzn : z < n := by have := HH.out; omega
                    have hwx : IntKind.i64.wrap (x : Int) = (x : Int) := by rw [IntKind.wrap_i64]; omega
                    have hwz : IntKind.i64.wrap (z : Int) = (z : Int) := by rw [IntKind.wrap_i64]; omega
                    have hxi : ¬ (hi : Int) ≤ (z : Int) := by have := HH.out; omega
                    obtain ⟨c0, c1⟩ := cells2 HSq.out.box
                    have hcc := HSq.out.own.cell (i := z) hzn
                    have hfr := HSq.out.own.free z
                    have HP := hide (show FiSt w0 w Y g n (lsM m lo wd true (L.take (q + 1))) ((wr.setCell ⟨g, z, none⟩ (.bool true)).drew) from by
                      rw [← hz]
                      rw [← lsM_succ (x := x) (by rw [← HL.out, List.getElem?_drop, ha]; exact hx) hxw]
                      exact (HSq.out.put hYg hg (lo + x) true).drew)
                    clear hx hz
                    go_wp2_with fail
                    refine wp_region_still_tail 12 (by kernel_rfl) (by kernel_rfl) ?_
                    simp only [List.take_succ_cons, List.take_zero, List.drop_succ_cons, List.drop_zero]
                    repeat still_step
                    refine wpStill_nil ?_
                    go_wp2_with fail
                    exact ⟨⟨q + 1, vi (by push_cast; omega), vi (by push_cast; omega), by omega, by omega, HP.out⟩, by simp only [intOf]; omega⟩
                  · have hxi : (hi : Int) ≤ (lo : Int) + (x : Int) := by have := HH.out; omega
                    have HB := hide (bad_list (wd := wd) (show bs[p]? = some (if (true : Bool) = true then 2 else 3) from HX.out) HY.out (q := q) (by omega) (.inr ⟨x, by rw [ha]; exact hx, by omega⟩))
                    clear hx
                    go_wp2_with fail
                    go_ret
                    exact ⟨_, -1, rfl, .bad (fun i hi => setR_out _ _ _ _ _ hi) HB.out, HSq.out.own, HSq.out.below, HSq.out.old⟩
                · have hai : (N : Int) ≤ (a : Int) := by omega
                  have HB := hide (bad_list (wd := wd) (show bs[p]? = some (if (true : Bool) = true then 2 else 3) from HX.out) HY.out (q := q) (by omega) (.inl (by rw [HN.out]; omega)))
                  go_wp2_with fail
                  go_ret
                  exact ⟨_, -1, rfl, .bad (fun i hi => setR_out _ _ _ _ _ hi) HB.out, HSq.out.own, HSq.out.below, HSq.out.old⟩
              · obtain rfl : q = y + 1 := by omega
                have HG := hide (good_list (lo := lo) (m := m) (wd := wd) (show bs[p]? = some (if (true : Bool) = true then 2 else 3) from HX.out) HY.out (by rw [HN.out]; omega))
                rw [HL.out, ha] at HG
                go_wp2_with fail
                go_ret
                exact ⟨_, ((a : Nat) : Int), rfl, HG.out, HSq.out.own, HSq.out.below, HSq.out.old⟩
          · have hp1n : (N : Int) ≤ (p1 : Int) := by omega
            have HB := hide (bad_short (wd := wd) (show bs[p]? = some (if (true : Bool) = true then 2 else 3) from HX.out) (by rw [HN.out, HP1.out]; omega))
            go_wp2_with fail
            go_ret
            exact ⟨_, -1, rfl, .bad (fun i hi => setR_out _ _ _ _ _ hi) HB.out, HSr.out.own, HSr.out.below, HSr.out.old⟩
    by_cases x3 : x = 3
    · subst x3
      go_wp2_with fail
      go_loopw [14] (fun k wr => ∃ i : Nat, k = .int .i64 ((lo + i : Nat) : Int) ∧ i ≤ wd ∧ FiSt w0 w Y g n (setR m lo i fun _ => !false) wr) (fun k _ => hi - (intOf k).toNat)
      case atStart => exact ⟨0, rfl, Nat.zero_le _, by rw [setR_zero]; exact HST.out⟩
      case round =>
        obtain ⟨i, rfl, hiw, hst⟩ := hrel
        have HSr := hide hst
        clear hst HST
        by_cases hlt : i < wd
        · have hii : (lo : Int) + (i : Int) < (hi : Int) := by have := HH.out; omega
          obtain ⟨c0, c1⟩ := cells2 HSr.out.box
          have hcc := HSr.out.own.cell (i := lo + i) (by have := HH.out; omega)
          have hfr := HSr.out.own.free (lo + i)
          have HP := hide (show FiSt w0 w Y g n (setR m lo (i + 1) fun _ => !false) (wr.setCell ⟨g, lo + i, none⟩ (.bool !false)) from by rw [← setR_succ]; exact HSr.out.put hYg hg (lo + i) !false)
          go_wp2_with fail
          exact ⟨⟨i + 1, vi (by push_cast; omega), by omega, HP.out⟩, by have := HH.out; simp only [intOf]; omega⟩
        · obtain rfl : wd = i := by omega
          have hii : ¬ (lo : Int) + (wd : Int) < (hi : Int) := by have := HH.out; omega
          by_cases hp1 : p1 < N
          · have hp1n : ¬ (N : Int) ≤ (p1 : Int) := by omega
            obtain ⟨y, hy⟩ : ∃ y, bs[p + 1]? = some y := ⟨_, List.getElem?_eq_getElem (by rw [HN.out, HP1.out]; exact hp1)⟩
            obtain ⟨_, e1, hcell1⟩ := src_cell HS.out hy
            cases e1
            have hy256 := HS.out.1 y (List.mem_of_getElem? hy)
            have hcell1 := (HSr.out.below.cell (World.block_lt_of_cell? w0 _ hcell1)).trans hcell1
            have HY := hide hy
            rw [HP1.out] at hcell1
            clear hy
            obtain ⟨L, hL⟩ : ∃ L, bs.drop (p + 2) = L := ⟨_, rfl⟩
            have HL := hide hL
            clear hL
            go_wp2_with fail
            go_loopw [4, 16] (fun a c wr => ∃ q : Nat, a = .int .i64 ((p + 2 + q : Nat) : Int) ∧ c = .int .i64 (q : Nat) ∧ q ≤ y + 1 ∧ p + 2 + q ≤ N ∧ FiSt w0 w Y g n (lsM m lo wd false (L.take q)) wr) (fun _ c _ => y + 1 - (intOf c).toNat)
            case atStart => exact ⟨0, vi (by have := HP1.out; push_cast; omega), rfl, Nat.zero_le _, by have := HP1.out; omega, by rw [← lsM_zero]; exact HSr.out⟩
            case round =>
              obtain ⟨q, rfl, rfl, hqy, hqN, hst⟩ := hrel
              have HSq := hide hst
              clear hst HSr hcell1
              obtain ⟨a, ha⟩ : ∃ a, p + 2 + q = a := ⟨_, rfl⟩
              rw [ha] at hqN ⊢
              by_cases hlt : q < y + 1
              · have hqi : (q : Int) < (y : Int) + 1 := by omega
                by_cases haN : a < N
                · have hai : ¬ (N : Int) ≤ (a : Int) := by omega
                  obtain ⟨x, hx⟩ : ∃ x, bs[a]? = some x := ⟨_, List.getElem?_eq_getElem (by rw [HN.out]; exact haN)⟩
                  obtain ⟨_, e1, hcella⟩ := src_cell HS.out hx
                  cases e1
                  have hx256 := HS.out.1 x (List.mem_of_getElem? hx)
                  have hcella := (HSq.out.below.cell (World.block_lt_of_cell? w0 _ hcella)).trans hcella
                  by_cases hxw : x < wd
                  · obtain ⟨z, hz⟩ : ∃ z, lo + x = z := ⟨_, rfl⟩
                    have hzi : (lo : Int) + (x : Int) = (z : Int) := by omega
                    have hzn : z < n := by have := HH.out; omega
                    have hwx : IntKind.i64.wrap (x : Int) = (x : Int) := by rw [IntKind.wrap_i64]; omega
                    have hwz : IntKind.i64.wrap (z : Int) = (z : Int) := by rw [IntKind.wrap_i64]; omega
                    have hxi : ¬ (hi : Int) ≤ (z : Int) := by have := HH.out; omega
                    obtain ⟨c0, c1⟩ := cells2 HSq.out.box
                    have hcc := HSq.out.own.cell (i := z) hzn
                    have hfr := HSq.out.own.free z
                    have HP := hide (show FiSt w0 w Y g n (lsM m lo wd false (L.take (q + 1))) ((wr.setCell ⟨g, z, none⟩ (.bool false)).drew) from by
                      rw [← hz]
                      rw [← lsM_succ (x := x) (by rw [← HL.out, List.getElem?_drop, ha]; exact hx) hxw]
                      exact (HSq.out.put hYg hg (lo + x) false).drew)
                    clear hx hz
                    go_wp2_with fail
                    refine wp_region_still_tail 12 (by kernel_rfl) (by kernel_rfl) ?_
                    simp only [List.take_succ_cons, List.take_zero, List.drop_succ_cons, List.drop_zero]
                    repeat still_step
                    refine wpStill_nil ?_
                    go_wp2_with fail
                    exact ⟨⟨q + 1, vi (by push_cast; omega), vi (by push_cast; omega), by omega, by omega, HP.out⟩, by simp only [intOf]; omega⟩
                  · have hxi : (hi : Int) ≤ (lo : Int) + (x : Int) := by have := HH.out; omega
                    have HB := hide (bad_list (wd := wd) (show bs[p]? = some (if (false : Bool) = true then 2 else 3) from HX.out) HY.out (q := q) (by omega) (.inr ⟨x, by rw [ha]; exact hx, by omega⟩))
                    clear hx
                    go_wp2_with fail
                    go_ret
                    exact ⟨_, -1, rfl, .bad (fun i hi => setR_out _ _ _ _ _ hi) HB.out, HSq.out.own, HSq.out.below, HSq.out.old⟩
                · have hai : (N : Int) ≤ (a : Int) := by omega
                  have HB := hide (bad_list (wd := wd) (show bs[p]? = some (if (false : Bool) = true then 2 else 3) from HX.out) HY.out (q := q) (by omega) (.inl (by rw [HN.out]; omega)))
                  go_wp2_with fail
                  go_ret
                  exact ⟨_, -1, rfl, .bad (fun i hi => setR_out _ _ _ _ _ hi) HB.out, HSq.out.own, HSq.out.below, HSq.out.old⟩
              · obtain rfl : q = y + 1 := by omega
                have HG := hide (good_list (lo := lo) (m := m) (wd := wd) (show bs[p]? = some (if (false : Bool) = true then 2 else 3) from HX.out) HY.out (by rw [HN.out]; omega))
                rw [HL.out, ha] at HG
                go_wp2_with fail
                go_ret
                exact ⟨_, ((a : Nat) : Int), rfl, HG.out, HSq.out.own, HSq.out.below, HSq.out.old⟩
          · have hp1n : (N : Int) ≤ (p1 : Int) := by omega
            have HB := hide (bad_short (wd := wd) (show bs[p]? = some (if (false : Bool) = true then 2 else 3) from HX.out) (by rw [HN.out, HP1.out]; omega))
            go_wp2_with fail
            go_ret
            exact ⟨_, -1, rfl, .bad (fun i hi => setR_out _ _ _ _ _ hi) HB.out, HSr.out.own, HSr.out.below, HSr.out.old⟩
    by_cases x4 : x = 4
    · subst x4
      have hwpb : ((wd : Int) + 7) / 8 = (((wd + 7) / 8 : Nat) : Int) := by omega
      obtain ⟨wq, hwq⟩ : ∃ wq, (wd + 7) / 8 = wq := ⟨_, rfl⟩
      rw [hwq] at hwpb
      have HWQ := hide hwq
      have hwq32 : wq ≤ 32 := by omega
      clear hwq
      obtain ⟨D, hD⟩ : ∃ D, bs.drop (p + 1) = D := ⟨_, rfl⟩
      have HD := hide hD
      clear hD
      go_wp2_with fail
      go_loopw [12] (fun k wr => ∃ i : Nat, k = .int .i64 ((lo + i : Nat) : Int) ∧ i ≤ wd ∧ (0 < i → p1 + (i - 1) / 8 < N) ∧ FiSt w0 w Y g n (setR m lo i (bitAt D)) wr) (fun k _ => hi - (intOf k).toNat)
      case atStart => exact ⟨0, rfl, Nat.zero_le _, by omega, by rw [setR_zero]; exact HST.out⟩
      case round =>
        obtain ⟨i, rfl, hiw, hiN, hst⟩ := hrel
        have HSr := hide hst
        clear hst HST
        by_cases hlt : i < wd
        · have hii : (lo : Int) + (i : Int) < (hi : Int) := by have := HH.out; omega
          obtain ⟨e, he⟩ : ∃ e, i / 8 = e := ⟨_, rfl⟩
          have hei : (i : Int) / 8 = (e : Int) := by omega
          obtain ⟨r, hr⟩ : ∃ r, i % 8 = r := ⟨_, rfl⟩
          have hri : (i : Int) % 8 = (r : Int) := by omega
          have htr : (i : Int).tmod 8 = (r : Int) := by rw [Int.tmod_eq_emod_of_nonneg (by omega)]; exact hri
          obtain ⟨a, ha⟩ : ∃ a, p1 + e = a := ⟨_, rfl⟩
          have hai : (p1 : Int) + (e : Int) = (a : Int) := by omega
          have he32 : e ≤ 32 := by omega
          have hr8 : r < 8 := by omega
          by_cases haN : a < N
          · have hani : ¬ (N : Int) ≤ (a : Int) := by omega
            obtain ⟨x, hx⟩ : ∃ x, bs[a]? = some x := ⟨_, List.getElem?_eq_getElem (by rw [HN.out]; exact haN)⟩
            obtain ⟨_, e1, hcella⟩ := src_cell HS.out hx
            cases e1
            have hx256 := HS.out.1 x (List.mem_of_getElem? hx)
            have hcella := (HSr.out.below.cell (World.block_lt_of_cell? w0 _ hcella)).trans hcella
            obtain ⟨z, hz⟩ : ∃ z, lo + i = z := ⟨_, rfl⟩
            have hzi : (lo : Int) + (i : Int) = (z : Int) := by omega
            have hkz : (z : Int) - (lo : Int) = (i : Int) := by omega
            have hzn : z < n := by have := HH.out; omega
            have hwz : IntKind.i64.wrap (z : Int) = (z : Int) := by rw [IntKind.wrap_i64]; omega
            have hwx : IntKind.i64.wrap (x : Int) = (x : Int) := by rw [IntKind.wrap_i64]; omega
            have hwi : IntKind.i64.wrap (i : Int) = (i : Int) := by rw [IntKind.wrap_i64]; omega
            have hwr : IntKind.i64.wrap (r : Int) = (r : Int) := by rw [IntKind.wrap_i64]; omega
            have hbit : bitAt D i = decide (x / 2 ^ r % 2 = 1) := by
              unfold bitAt
              rw [he, hr, Nat.testBit_eq_decide_div_mod_eq]
              have : D[e]? = some x := by rw [← HD.out, List.getElem?_drop, HP1.out, ha]; exact hx
              rw [List.getD_eq_getElem?_getD, this]
              rfl
            have hbit : bitAt D i = (((x : Int) / 2 ^ r).tmod 2 == 1) := by
              rw [hbit]
              have hq2 : (x : Int) / 2 ^ r = ((x / 2 ^ r : Nat) : Int) := by push_cast; rfl
              rw [hq2, Int.tmod_eq_emod_of_nonneg (Int.natCast_nonneg _), Bool.eq_iff_iff]
              simp only [decide_eq_true_eq, beq_iff_eq]
              omega
            have HZ := hide hz
            have hnx : IntKind.u8.wrap (x : Int) = (x : Int) := by rw [IntKind.wrap_u8]; omega
            obtain ⟨c0, c1⟩ := cells2 HSr.out.box
            have hcc := HSr.out.own.cell (i := z) hzn
            have hfr := HSr.out.own.free z
            have HP := hide (show FiSt w0 w Y g n (setR m lo (i + 1) (bitAt D)) ((wr.setCell ⟨g, z, none⟩ (.bool (((x : Int) / 2 ^ r).tmod 2 == 1))).drew) from by
              rw [← setR_succ, hbit, hz]
              exact (HSr.out.put hYg hg z _).drew)
            clear hx hz hbit
            go_wp2_with fail
            refine wp_region_still_tail 16 (by kernel_rfl) (by kernel_rfl) ?_
            simp only [List.take_succ_cons, List.take_zero, List.drop_succ_cons, List.drop_zero]
            repeat still_step
            refine wpStill_nil ?_
            go_wp2_with fail
            have hz := HZ.out
            exact ⟨⟨i + 1, vi (by push_cast; omega), by omega, fun _ => by rw [Nat.add_sub_cancel, he, ha]; exact haN, HP.out⟩, by have := HH.out; simp only [intOf]; omega⟩
          · have hani : (N : Int) ≤ (a : Int) := by omega
            have HB := hide (bad_bits (wd := wd) HX.out hlt (by rw [HP1.out, he, ha, HN.out]; omega))
            have hkk : (lo : Int) + (i : Int) - (lo : Int) = (i : Int) := by omega
            go_wp2_with fail
            go_ret
            exact ⟨setR m lo i (bitAt D), -1, rfl, .bad (fun j hj => setR_out _ _ _ _ _ (by omega)) HB.out, HSr.out.own, HSr.out.below, HSr.out.old⟩
        · obtain rfl : wd = i := by omega
          have hii : ¬ (lo : Int) + (wd : Int) < (hi : Int) := by have := HH.out; omega
          have HG := hide (good_bits (lo := lo) (m := m) (wd := wd) HX.out (by have := HWQ.out; have := HP1.out; have := hiN hw0; rw [HN.out]; omega))
          rw [HD.out, HP1.out, HWQ.out] at HG
          clear hiN
          go_wp2_with fail
          go_ret
          exact ⟨_, ((p1 + wq : Nat) : Int), ret_int (by push_cast; rfl), HG.out, HSr.out.own, HSr.out.below, HSr.out.old⟩
    have hb0 : ((x : Int) == 0) = false := by simp only [beq_eq_false_iff_ne, ne_eq]; omega
    have hb4 : ((x : Int) == 4) = false := by simp only [beq_eq_false_iff_ne, ne_eq]; omega
    have hgt : (4 : Int) < (x : Int) := by omega
    have HB := hide (bad_tag (wd := wd) HX.out (by omega))
    go_wp2_with fail
    go_ret
    exact ⟨m, -1, rfl, .bad (fun _ _ => rfl) HB.out, HST.out.own, HST.out.below, HST.out.old⟩
  · have hpi : (N : Int) ≤ (p : Int) := by omega
    have HB := hide (bad_len (wd := wd) (p := p) hw (bs := bs) (by rw [HN.out]; omega))
    go_wp2_with fail
    go_ret
    exact ⟨m, -1, rfl, .bad (fun _ _ => rfl) HB.out, HST.out.own, HST.out.below, HST.out.old⟩
end Go.Proofs.YtmkbbekeimnajaaDoor

/-! Rde: the document's Decode (29) -/
namespace Go.Proofs.YtmkbbekeimnajaaDoor
open Go.RowKit Ds
theorem results_cell2 {P : Program} {fn : Func} {p u : Tmp} {ty : TypeId} (h : fn.results = #[.cell p ty, .tmp u]) (tmps : Array Value) (w : World) (g : Nat) (t : TypeId) (cs : Array Value) (fr : Nat × Nat) (d : TypeDesc)
    (hp : tmps.getD p undef = .pointer (some ⟨g, 0, none⟩)) (hg : w.heap[g]? = some (.cells cs t fr))
    (hu : P.underlying ty = some d) (hd : (match d with | .struct _ | .array _ _ => true | _ => false) = true) (hi : (P.info? ty).map (·.size) = some cs.size) :
    (results fn tmps).run P w = .ok (.tuple #[.agg cs, tmps.getD u undef]) w := by
  have hp' : tmps[p]?.getD undef = .pointer (some ⟨g, 0, none⟩) := by simpa using hp
  simp [results, h, hp', asAddr, run_loadVar_row w g t ty cs fr d hg hu hd hi, Result.andThen]
theorem size54 : (Tryd.prog.info? 54).map (·.size) = some 2 := by kernel_rfl
theorem body_split {n j : Nat} (k : Nat → Bool) (hj : j < nb n) : ∃ s, body n k (nb n) = body n k j ++ (encB n k j ++ s) := by
  have gen : ∀ d, ∃ s, body n k (j + 1 + d) = body n k j ++ (encB n k j ++ s) := by
    intro d
    induction d with
    | zero => exact ⟨[], by rw [Nat.add_zero, body_succ, List.append_nil]⟩
    | succ d ih =>
      obtain ⟨s, hs⟩ := ih
      refine ⟨s ++ encB n k (j + 1 + d), ?_⟩
      rw [show j + 1 + (d + 1) = (j + 1 + d) + 1 by omega, body_succ, hs]
      simp [List.append_assoc]
  have := gen (nb n - j - 1)
  rwa [show j + 1 + (nb n - j - 1) = nb n by omega] at this
/-- how far the reading is right -/
def DeEx (bs : List Nat) (n j p : Nat) (m : Nat → Bool) : Prop := ∀ m0, bs = encS n m0 → p = (Uv.uv n).length + (body n m0 j).length ∧ ∀ i, i < n → i < 256 * j → m i = m0 i
theorem DeEx.drop {bs : List Nat} {n j p : Nat} {m : Nat → Bool} (h : DeEx bs n j p m) (hj : j < nb n) (m0 : Nat → Bool) (e : bs = encS n m0) : ∃ s, bs.drop p = form (blk m0 j) (wid n j) ++ s := by
  obtain ⟨s, hs⟩ := body_split m0 hj
  refine ⟨s, ?_⟩
  rw [(h m0 e).1, e, encS, hs, ← List.append_assoc, ← List.length_append, List.drop_left]
  rfl
theorem DeEx.step {bs : List Nat} {n j p p' : Nat} {m m' : Nat → Bool} (h : DeEx bs n j p m) (hj : j < nb n) (hm : ∀ k, 256 * j ≤ k → m k = false) (hf : FillOut bs (256 * j) (wid n j) p m m' (p' : Nat)) : DeEx bs n (j + 1) p' m' := by
  intro m0 e
  obtain ⟨s, hs⟩ := h.drop hj m0 e
  obtain ⟨h1, h2⟩ := hf.form _ _ hs (fun i _ => hm _ (by omega))
  obtain ⟨h3, h4⟩ := h m0 e
  refine ⟨?_, fun i hin hi => ?_⟩
  · rw [body_succ, List.length_append]
    unfold encB
    omega
  · by_cases hij : i < 256 * j
    · rw [hf.far i (.inl hij)]
      exact h4 i hin hij
    · have h5 := h2 (i - 256 * j) (by unfold wid; omega)
      rw [show 256 * j + (i - 256 * j) = i by omega] at h5
      rw [h5]
      unfold blk
      rw [show 256 * j + (i - 256 * j) = i by omega]
theorem DeEx.bad {bs : List Nat} {n j p : Nat} {m m' : Nat → Bool} (h : DeEx bs n j p m) (hj : j < nb n) (hm : ∀ k, 256 * j ≤ k → m k = false) (hf : FillOut bs (256 * j) (wid n j) p m m' (-1)) : ∀ m0, bs ≠ encS n m0 := by
  intro m0 e
  obtain ⟨s, hs⟩ := h.drop hj m0 e
  have := (hf.form _ _ hs (fun i _ => hm _ (by omega))).1
  omega
theorem DeEx.end {bs : List Nat} {n p : Nat} {m : Nat → Bool} (h : DeEx bs n (nb n) p m) (hne : bs ≠ encS n m) : ∀ m0, bs ≠ encS n m0 := by
  intro m0 e
  apply hne
  rw [e]
  unfold encS
  rw [body_congr (m := m0) (k := m) fun i hi hj => ((h m0 e).2 i hi hj).symm]
def NoSet (bs : List Nat) : Prop := ∀ n m, n ≤ 1048576 → bs ≠ encS n m
theorem no_set {bs : List Nat} {n : Nat} (h : ∀ k r, k ≤ 1048576 → bs = Uv.uv k ++ r → n = k) (hn : ∀ m, bs ≠ encS n m) : NoSet bs := by
  intro k m hk e
  have := h k _ hk e
  subst this
  exact hn m e
structure DeSt (w : World) (Z g Y n : Nat) (m : Nat → Bool) (wr : World) : Prop where
  own : ROwn wr g n m
  box : wr.heap[Y]? = some (.cells #[.int .i64 (n : Nat), .slice (some ⟨g, 0, none⟩) n n] 54 (0, 0))
  res : wr.heap[Z]? = some (.cells #[.int .i64 0, .slice none 0 0] 54 (0, 0))
  below : Below w.heap.size w wr
theorem DeSt.keep {w wr w' : World} {Z g Y n : Nat} {m : Nat → Bool} (h : DeSt w Z g Y n m wr) (hb : Below wr.heap.size wr w') : DeSt w Z g Y n m w' :=
  ⟨h.own.keep hb, (hb.block _ (heap_lt h.box)).trans h.box, (hb.block _ (heap_lt h.res)).trans h.res, h.below.trans (hb.mono h.below.size)⟩
theorem DeSt.drewN {w wr : World} {Z g Y n : Nat} {m : Nat → Bool} (h : DeSt w Z g Y n m wr) (q : Nat) : DeSt w Z g Y n m (wr.drewN q) :=
  ⟨h.own, h.box, h.res, below_drewN h.below q⟩
/-- what Decode answers -/
def RefDec (B : Nat) (bs : List Nat) (e : Ending) (w' : World) : Prop :=
  (∃ n m g, n ≤ 1048576 ∧ bs = encS n m ∧ e = .returned (.tuple #[RefV g n, .int .i64 0]) ∧ B ≤ g ∧ ROwn w' g n m) ∨
  (NoSet bs ∧ e = .returned (.tuple #[.agg #[.int .i64 0, .slice none 0 0], .int .i64 10]))
theorem set2 {w : World} {Z : Nat} {a b x y : Value} {t : TypeId} {fr : Nat × Nat} (h : w.heap[Z]? = some (.cells #[a, b] t fr)) : ((w.setCell ⟨Z, 0, none⟩ x).setCell ⟨Z, 1, none⟩ y).heap[Z]? = some (.cells #[x, y] t fr) :=
  heap_set (heap_set h x) y
theorem dec_bad {w wr : World} {bs : List Nat} {Z : Nat} {a b : Value} (hr : wr.heap[Z]? = some (.cells #[a, b] 54 (0, 0))) (hZ : w.heap.size ≤ Z) (hb : Below w.heap.size w wr) (hno : NoSet bs) (tmps : Array Value) (hp : tmps.getD 2 undef = .pointer (some ⟨Z, 0, none⟩)) (h3 : tmps.getD 3 undef = .int .i64 10) :
    bodyPost Tryd.prog Tryd.f29 (fun e w' => RefDec w.heap.size bs e w' ∧ Below w.heap.size w w') Exit.ret ⟨tmps, []⟩ ((wr.setCell ⟨Z, 0, none⟩ (.int .i64 0)).setCell ⟨Z, 1, none⟩ (.slice none 0 0)) := by
  refine bodyPost_ret (results_cell2 rfl _ _ Z 54 _ (0, 0) _ hp (set2 hr) Tryd.underlying54 rfl size54) rfl ⟨.inr ⟨hno, by rw [h3]⟩, below_set (below_set hb hZ _) hZ _⟩
set_option maxRecDepth 100000 in
set_option maxHeartbeats 4000000 in
theorem ref_decode (w : World) (v : Value) (bs : List Nat) (hs : Src w v bs) (hl : bs.length ≤ 140737488351232) :
    Calls Tryd.prog 29 #[v] w fun e w' => RefDec w.heap.size bs e w' ∧ Below w.heap.size w w' := by
  obtain ⟨ao, cap, rfl⟩ := src_form hs
  have HS := hide hs
  obtain ⟨N, hN⟩ : ∃ N, bs.length = N := ⟨_, rfl⟩
  rw [hN] at hl HS ⊢
  have HN := hide hN
  have hbz := (Below.refl w.heap.size w).alloc (Nat.le_refl _) (.cells #[.int .i64 0, .slice none 0 0] 54)
  have hrz : (w.alloc (.cells #[.int .i64 0, .slice none 0 0] 54)).heap[w.heap.size]? = some (.cells #[.int .i64 0, .slice none 0 0] 54 (0, 0)) := heap_new rfl _
  have HRZ := hide hrz
  have HBZ := hide hbz
  have HSZ := hide (ref_size _ _ bs (src_keep hs hbz))
  rw [hN] at HSZ
  have hz1 : (w.alloc (.cells #[.int .i64 0, .slice none 0 0] 54)).heap.size = w.heap.size + 1 := World.size_alloc _ _
  have HZ1 := hide hz1
  clear hs hN hrz hbz hz1
  go_enter Tryd.func29, Tryd.ntmps29
  go_upto_region 1 with (fail)
  generalize w.alloc (.cells #[.int .i64 0, .slice none 0 0] 54) = w1 at *
  go_upto_region 2 with (go_at_call 59; refine (HSZ.out).mono ?_; rintro e wz ⟨x, k, rfl, hx, rfl⟩; have HX := hide hx; clear hx)
  -- WALK
  obtain ⟨c0, c1⟩ := cells2 HRZ.out
  have hf2 := free_at HRZ.out 0
  have hf3 := free_at HRZ.out 1
  rcases HX.out with ⟨rfl, rfl, hno⟩ | ⟨hx20, hk1, hkN, hex⟩
  · have HNO := hide (show NoSet bs from fun n m hn e => hno n _ hn e)
    go_wp2_with fail
    exact dec_bad HRZ.out (Nat.le_refl _) HBZ.out HNO.out _ rfl rfl
  · rw [HN.out] at hkN
    have HEX := hide (show ∀ n m, n ≤ 1048576 → bs = encS n m → x = n ∧ (Uv.uv n).length = k from fun n m hn e => hex n _ hn e)
    clear hex
    have hk0 : ((k : Int) == 0) = false := by simp only [beq_eq_false_iff_ne, ne_eq]; omega
    obtain ⟨q, hq⟩ : ∃ q, x / 256 = q := ⟨_, rfl⟩
    have hqi : (x : Int) / 256 = (q : Int) := by omega
    by_cases hqN : N < q
    · have hqn : (N : Int) < (q : Int) := by omega
      have HNO := hide (show NoSet bs from fun n m hn e => by
        have h1 := (HEX.out n m hn e).1
        have h2 := congrArg List.length e
        have h3 := (body_len n m (nb n)).1
        unfold encS at h2
        rw [List.length_append, HN.out] at h2
        unfold nb at h2 h3
        omega)
      clear hq
      go_wp2_with fail
      exact dec_bad HRZ.out (Nat.le_refl _) HBZ.out HNO.out _ rfl rfl
    · have hqn : ¬ (N : Int) < (q : Int) := by omega
      -- MAKE
      clear hq c0 c1 hf2 hf3
      have HEX2 := hide (show ∀ n r, n ≤ 1048576 → bs = Uv.uv n ++ r → x = n from fun n r hn e => by
        rcases HX.out with ⟨_, _, hno⟩ | ⟨_, _, _, hex⟩
        · exact absurd e (hno n r hn)
        · exact (hex n r hn e).1)
      obtain ⟨i4, hi4, hz0, hz41, hz42⟩ := info_parts info4
      obtain ⟨g, hg⟩ : ∃ g, w1.heap.size = g := ⟨_, rfl⟩
      have HG := hide hg
      have hown : ROwn (w1.alloc (.cells (madeCells #[Value.bool false] x) 4)) g x (fun _ => false) := by
        unfold ROwn
        rw [← made_bvs]
        exact heap_new hg.symm _
      have hbm : Below w1.heap.size w1 (w1.alloc (.cells (madeCells #[Value.bool false] x) 4)) := (Below.refl _ w1).alloc (Nat.le_refl _) _
      have hsz : (w1.alloc (.cells (madeCells #[Value.bool false] x) 4)).heap.size = g + 1 := by rw [World.size_alloc, hg]
      have HOM := hide hown
      have HBM := hide hbm
      have HSM := hide hsz
      have HRM := hide (heap_old HRZ.out (.cells (madeCells #[Value.bool false] x) 4))
      clear hown hbm hsz
      go_wp2_with (at_make; refine wpList_make_row w1 rfl (.tmp 27) (.tmp 27) 52 rfl 4 i4 (.bool false) Tryd.underlying52 hi4 hz0 hz41 rfl .i64 .i64 x rfl rfl (by rw [hz42]; omega) (by omega) ?_)
      generalize w1.alloc (.cells (madeCells #[Value.bool false] x) 4) = w2 at *
      have hsz2 := HSM.out
      have HB3 := hide (HBM.out.alloc (by omega) (.cells #[.int .i64 (x : Nat), .slice (some ⟨g, 0, none⟩) x x] 54))
      have HST := hide (show DeSt w1 w.heap.size g (g + 1) x (fun _ => false) (w2.alloc (.cells #[.int .i64 (x : Nat), .slice (some ⟨g, 0, none⟩) x x] 54)) from
        ⟨heap_old HOM.out _, heap_new hsz2.symm _, heap_old HRM.out _, HB3.out⟩)
      have HDX0 := hide (show DeEx bs x 0 k (fun _ => false) from fun m0 e => ⟨by rw [(HEX.out x m0 hx20 e).2]; rfl, fun i _ hi => by omega⟩)
      obtain ⟨Y, hY⟩ : ∃ Y, g + 1 = Y := ⟨_, rfl⟩
      rw [hY] at HST hsz2
      have hYg : Y ≠ g := by omega
      obtain ⟨Z, hZ⟩ : ∃ Z, w.heap.size = Z := ⟨_, rfl⟩
      have hZg : Z ≠ g := by have := HZ1.out; omega
      have hZw : w.heap.size ≤ Z := by omega
      have hgz : w.heap.size ≤ g := by have := HZ1.out; omega
      rw [hZ] at HST
      have HSV := hide (src_keep HS.out HBZ.out)
      have HYY := hide hY
      have HZZ := hide hZ
      have HG1 := hide (show w1.heap.size ≤ g by omega)
      go_wp2_with fail
      rw [HYY.out, HZZ.out]
      clear hsz2 HB3 HOM HBM HRM HSM HRZ hY hZ hg
      generalize w2.alloc (.cells #[.int .i64 (x : Nat), .slice (some ⟨g, 0, none⟩) x x] 54) = w3 at *
      go_loopw [5, 7] (fun a l wr => ∃ (j p : Nat) (m : Nat → Bool), a = .int .i64 (p : Nat) ∧ l = .int .i64 ((256 * j : Nat) : Int) ∧ j ≤ nb x ∧ p ≤ N ∧ (∀ k, 256 * j ≤ k → m k = false) ∧ DeEx bs x j p m ∧ DeSt w1 Z g Y x m wr) (fun _ l _ => x + 256 - (intOf l).toNat)
      case atStart => exact ⟨0, k, _, rfl, rfl, Nat.zero_le _, hkN, fun _ _ => rfl, HDX0.out, HST.out⟩
      case round =>
        obtain ⟨j, p, m, rfl, rfl, hj, hpN0, hmf, hdx, hst⟩ := hrel
        have HSr := hide hst
        clear hst HST HDX0
        obtain ⟨lo, hlo⟩ : ∃ lo, 256 * j = lo := ⟨_, rfl⟩
        by_cases hlt : 256 * j < x
        · have hjn : j < nb x := nb_lt.2 hlt
          have hw0 := wid_pos hjn
          have hwl := wid_le x j
          obtain ⟨wd, hwd⟩ : ∃ wd, wid x j = wd := ⟨_, rfl⟩
          have HWD := hide hwd
          rw [hwd] at hw0 hwl
          have hwn : wd = min 256 (x - 256 * j) := hwd.symm
          have HLO := hide hlo
          have hwb : wd = min 256 (x - lo) := by omega
          rw [hlo]
          obtain ⟨c0, c1⟩ := cells2 HSr.out.box
          have hii : (lo : Int) < (x : Int) := by omega
          clear hwd hlo hwn
          by_cases hAA : x < lo + 256
          · have hgi : (x : Int) < (lo : Int) + 256 := by omega
            have hcall := ref_fill w1 wr HSr.out.own hx20 lo x wd p (by omega) (Nat.le_refl _) hw0 hwl (.slice ao N cap) bs HSV.out HSr.out.below HG1.out (by rw [HN.out]; omega) (by omega)
            go_wp2_with fail
            refine hcall.mono ?_
            rintro e wz ⟨m', r, rfl, hfo, ho1, ho2, ho3⟩
            have HSz := hide (show DeSt w1 Z g Y x m' wz from ⟨ho1, ho3 Y _ hYg HSr.out.box, ho3 Z _ hZg HSr.out.res, ho2⟩)
            clear ho1 ho2 ho3 HSr
            rcases hfo.at_ with rfl | ⟨p', rfl, hpp, hpN⟩
            · have HNO := hide (no_set (fun n r hn e => HEX2.out n r hn e) (hdx.bad hjn hmf (by rw [HWD.out, HLO.out]; exact hfo)))
              clear hfo hdx
              obtain ⟨c0, c1⟩ := cells2 HSz.out.res
              have hf2 := free_at HSz.out.res 0
              have hf3 := free_at HSz.out.res 1
              go_wp2_with fail
              exact dec_bad HSz.out.res (by omega) (HBZ.out.trans (HSz.out.below.mono HBZ.out.size)) HNO.out _ rfl rfl
            · have HDX := hide (hdx.step hjn hmf (by rw [HWD.out, HLO.out]; exact hfo))
              have HFR := hide hfo.far
              clear hfo hdx
              rw [HN.out] at hpN
              go_wp2_with fail
              exact ⟨⟨j + 1, p', m', rfl, vi (by have := HLO.out; push_cast; omega), hjn, hpN, fun k hk => by rw [HFR.out k (.inr (by have := HLO.out; omega))]; exact hmf k (by omega), HDX.out, HSz.out⟩, by simp only [intOf]; omega⟩
          · have hgi : ¬ (x : Int) < (lo : Int) + 256 := by omega
            have hcall := ref_fill w1 wr HSr.out.own hx20 lo (lo + 256) wd p (by omega) (by omega) hw0 hwl (.slice ao N cap) bs HSV.out HSr.out.below HG1.out (by rw [HN.out]; omega) (by omega)
            rw [show ((lo + 256 : Nat) : Int) = (lo : Int) + 256 from by push_cast; rfl] at hcall
            go_wp2_with fail
            refine hcall.mono ?_
            rintro e wz ⟨m', r, rfl, hfo, ho1, ho2, ho3⟩
            have HSz := hide (show DeSt w1 Z g Y x m' wz from ⟨ho1, ho3 Y _ hYg HSr.out.box, ho3 Z _ hZg HSr.out.res, ho2⟩)
            clear ho1 ho2 ho3 HSr
            rcases hfo.at_ with rfl | ⟨p', rfl, hpp, hpN⟩
            · have HNO := hide (no_set (fun n r hn e => HEX2.out n r hn e) (hdx.bad hjn hmf (by rw [HWD.out, HLO.out]; exact hfo)))
              clear hfo hdx
              obtain ⟨c0, c1⟩ := cells2 HSz.out.res
              have hf2 := free_at HSz.out.res 0
              have hf3 := free_at HSz.out.res 1
              go_wp2_with fail
              exact dec_bad HSz.out.res (by omega) (HBZ.out.trans (HSz.out.below.mono HBZ.out.size)) HNO.out _ rfl rfl
            · have HDX := hide (hdx.step hjn hmf (by rw [HWD.out, HLO.out]; exact hfo))
              have HFR := hide hfo.far
              clear hfo hdx
              rw [HN.out] at hpN
              go_wp2_with fail
              exact ⟨⟨j + 1, p', m', rfl, vi (by have := HLO.out; push_cast; omega), hjn, hpN, fun k hk => by rw [HFR.out k (.inr (by have := HLO.out; omega))]; exact hmf k (by omega), HDX.out, HSz.out⟩, by simp only [intOf]; omega⟩
        · have hii : ¬ (lo : Int) < (x : Int) := by omega
          obtain rfl : j = nb x := by have := @nb_lt x j; omega
          rw [hlo]
          obtain ⟨c0, c1⟩ := cells2 HSr.out.box
          have HDX := hide hdx
          have HENC := hide (ref_encode wr HSr.out.own hx20)
          clear hdx hmf
          obtain ⟨L, hL⟩ : ∃ L, (encS x m).length = L := ⟨_, rfl⟩
          have HLL := hide hL
          have hL2 := encS_len (m := m) hx20
          rw [hL] at hL2
          clear hL
          go_upto_region 15 with (go_at_call 61; refine (HENC.out).mono ?_; rintro e w5 ⟨v9, rfl, ho9, hb9⟩; unfold Own at ho9; rw [HLL.out] at ho9; obtain ⟨vo9, vc9, rfl⟩ := row_shape ho9; have HO9 := hide ho9; have HB9 := hide hb9; clear ho9 hb9)
          have HS9 := hide (show Src w5 (.slice vo9 L vc9) (encS x m) from own_src (B := wr.heap.size) (by unfold Own; rw [HLL.out]; exact HO9.out) (encS_lt hx20))
          have HS5 := hide (show DeSt w1 Z g Y x m w5 from HSr.out.keep HB9.out)
          have HSV5 := hide (show Src w5 (.slice ao N cap) bs from src_keep HSV.out (HSr.out.below.trans (HB9.out.mono (HSr.out.below.size))))
          clear HO9 HB9 HSr c0 c1
          by_cases hLN : L = N
          · subst hLN
            go_wp2_with fail
            go_loopw [10] (fun i wr => ∃ i' : Nat, i = .int .i64 (i' : Nat) ∧ i' ≤ L ∧ (∀ k, k < i' → (encS x m)[k]? = bs[k]?) ∧ Src wr (.slice vo9 L vc9) (encS x m) ∧ Src wr (.slice ao L cap) bs ∧ DeSt w1 Z g Y x m wr) (fun i _ => L - (intOf i).toNat)
            case atStart => exact ⟨0, rfl, Nat.zero_le _, by omega, HS9.out, HSV5.out, HS5.out⟩
            case round =>
              obtain ⟨i, rfl, hiL, hsame, hs9r, hsvr, hstr⟩ := hrel
              have HSM := hide hsame
              have HS9r := hide hs9r
              have HSVr := hide hsvr
              have HSTr := hide hstr
              clear hsame hs9r hsvr hstr
              by_cases hlt : i < L
              · have hiL2 : (i : Int) < (L : Int) := by omega
                obtain ⟨b, hb⟩ : ∃ b, bs[i]? = some b := ⟨_, List.getElem?_eq_getElem (by rw [HN.out]; exact hlt)⟩
                obtain ⟨b9, hb9⟩ : ∃ b, (encS x m)[i]? = some b := ⟨_, List.getElem?_eq_getElem (by rw [HLL.out]; exact hlt)⟩
                obtain ⟨ad, rfl, hcb⟩ := src_cell HSVr.out hb
                obtain ⟨ad9, rfl, hcb9⟩ := src_cell HS9r.out hb9
                by_cases hbb : b9 = b
                · subst hbb
                  have HSM2 := hide (show ∀ k, k < i + 1 → (encS x m)[k]? = bs[k]? from fun k hk => by
                    by_cases e : k = i
                    · rw [e, hb, hb9]
                    · exact HSM.out k (by omega))
                  clear hb hb9
                  go_wp2_with fail
                  go_quiet (fail)
                  go_wp2_with fail
                  exact ⟨⟨i + 1, vi (by push_cast; omega), by omega, HSM2.out, src_drew HS9r.out _, src_drew HSVr.out _, HSTr.out.drewN _⟩, by simp only [intOf]; omega⟩
                · have hnb : ((b9 : Int) == (b : Int)) = false := by simp only [beq_eq_false_iff_ne, ne_eq]; omega
                  have hnb2 : ((b9 : Int) != (b : Int)) = true := by simp only [bne_iff_ne, ne_eq]; omega
                  have HNO := hide (no_set (fun n r hn e => HEX2.out n r hn e) (HDX.out.end (fun e => by rw [← e, hb] at hb9; simp only [Option.some.injEq] at hb9; exact hbb hb9.symm)))
                  obtain ⟨c0, c1⟩ := cells2 HSTr.out.res
                  have hf2 := free_at HSTr.out.res 0
                  have hf3 := free_at HSTr.out.res 1
                  clear hb hb9
                  go_wp2_with fail
                  go_quiet (fail)
                  go_wp2_with fail
                  exact dec_bad (HSTr.out.drewN _).res hZw (HBZ.out.trans ((HSTr.out.drewN _).below.mono HBZ.out.size)) HNO.out _ rfl rfl
              · obtain rfl : L = i := by omega
                have HEQ := hide (show bs = encS x m from by
                  apply List.ext_getElem?
                  intro k
                  by_cases hk : k < L
                  · exact (HSM.out k hk).symm
                  · rw [List.getElem?_eq_none (by rw [HN.out]; omega), List.getElem?_eq_none (by rw [HLL.out]; omega)])
                obtain ⟨c0, c1⟩ := cells2 HSTr.out.res
                obtain ⟨d0, d1⟩ := cells2 HSTr.out.box
                have hf2 := free_at HSTr.out.res 0
                have hf3 := free_at HSTr.out.res 1
                go_wp2_with fail
                refine bodyPost_ret (results_cell2 rfl _ _ Z 54 _ (0, 0) _ rfl (set2 HSTr.out.res) Tryd.underlying54 rfl size54) rfl ⟨.inl ⟨x, m, g, hx20, HEQ.out, rfl, hgz, ?_⟩, below_set (below_set (HBZ.out.trans (HSTr.out.below.mono HBZ.out.size)) hZw _) hZw _⟩
                exact heap_else (heap_else HSTr.out.own (fun e => hZg e.symm) _) (fun e => hZg e.symm) _
          · have HNO := hide (no_set (fun n r hn e => HEX2.out n r hn e) (HDX.out.end (fun e => hLN (by rw [← HLL.out, ← e, HN.out]))))
            have hne1 : ((L : Int) == (N : Int)) = false := by simp only [beq_eq_false_iff_ne, ne_eq]; omega
            have hne2 : ((L : Int) != (N : Int)) = true := by simp only [bne_iff_ne, ne_eq]; omega
            obtain ⟨c0, c1⟩ := cells2 HS5.out.res
            have hf2 := free_at HS5.out.res 0
            have hf3 := free_at HS5.out.res 1
            go_wp2_with fail
            exact dec_bad HS5.out.res hZw (HBZ.out.trans (HS5.out.below.mono HBZ.out.size)) HNO.out _ rfl rfl
end Go.Proofs.YtmkbbekeimnajaaDoor
