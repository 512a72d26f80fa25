/- texts of this proof, one behind the other: Rc Nm Rn Ul Rd2 -/
import Derived.Test.YtmkbbekeimnajaaDoorMPlays0
import Derived.Test.YtmkbbekeimnajaaDoorMPlays1
import Derived.Test.YtmkbbekeimnajaaDoorMPlays2
import Derived.Test.YtmkbbekeimnajaaDoorMPlays3
import Derived.Test.YtmkbbekeimnajaaDoorMPlays4
import Derived.Test.YtmkbbekeimnajaaDoorMPlays5
import Derived.Test.YtmkbbekeimnajaaDoorMPlays6
import Derived.StillTailTactics
/-! Rc: the document's form of a set (61) -/
namespace Go.Proofs.YtmkbbekeimnajaaDoor
open Go.RowKit Ds
/-- the shortest of the first t forms -/
def bestL (f : Nat → Bool) (w : Nat) : Nat → Option (List Nat)
  | 0 => none
  | t + 1 => match bestL f w t with
    | none => if blkOk f w t then some (blkL f w t) else none
    | some b => if blkOk f w t && decide ((blkL f w t).length < b.length) then some (blkL f w t) else some b
theorem best_form (f : Nat → Bool) (w : Nat) (hw : 0 < w) : bestL f w 5 = some (form f w) := by
  have hc := cnt_le f w
  have l1 : (Ds.mem f w).length = cnt f w := rfl
  have l2 : (Ds.mem (inv f) w).length = w - cnt f w := cnt_inv f w
  have l3 := bitsB_len f w
  obtain ⟨c, hcc⟩ : ∃ c, cnt f w = c := ⟨_, rfl⟩
  rw [hcc] at hc l1 l2
  have k0 : blkOk f w 0 = decide (c = 0) := by unfold blkOk; rw [hcc]; rfl
  have k1 : blkOk f w 1 = decide (c = w) := by unfold blkOk; rw [hcc]; rfl
  have k2 : blkOk f w 2 = !decide (c = 0 ∨ c = w) := by unfold blkOk; rw [hcc]; rfl
  have k3 : blkOk f w 3 = !decide (c = 0 ∨ c = w) := by unfold blkOk; rw [hcc]; rfl
  have k4 : blkOk f w 4 = !decide (c = 0 ∨ c = w) := by unfold blkOk; rw [hcc]; rfl
  have b0 : blkL f w 0 = [0] := rfl
  have b1 : blkL f w 1 = [1] := rfl
  have b2 : ¬ (c = 0 ∨ c = w) → blkL f w 2 = 2 :: (c - 1) :: Ds.mem f w := fun h => by unfold blkL; rw [hcc, if_neg (by decide), if_neg (by decide), if_neg h]; rfl
  have b3 : ¬ (c = 0 ∨ c = w) → blkL f w 3 = 3 :: (w - c - 1) :: Ds.mem (inv f) w := fun h => by unfold blkL; rw [hcc, if_neg (by decide), if_neg (by decide), if_neg h]; rfl
  have b4 : ¬ (c = 0 ∨ c = w) → blkL f w 4 = 4 :: bitsB f w := fun h => by unfold blkL; rw [hcc, if_neg (by decide), if_neg (by decide), if_neg h]; rfl
  have F : form f w = if tagOf w c = 0 then [0] else if tagOf w c = 1 then [1] else if tagOf w c = 2 then 2 :: (c - 1) :: Ds.mem f w else if tagOf w c = 3 then 3 :: (w - c - 1) :: Ds.mem (inv f) w else 4 :: bitsB f w := by unfold form; rw [hcc]
  by_cases z0 : c = 0
  · have hwc : ¬ c = w := by omega
    have ht : tagOf w c = 0 := by unfold tagOf; rw [if_pos z0]
    rw [F, if_pos ht]
    simp [bestL, k0, k1, k2, k3, k4, z0, b0, show ¬ 0 = w by omega]
  by_cases z1 : c = w
  · have ht : tagOf w c = 1 := by unfold tagOf; rw [if_neg z0, if_pos z1]
    rw [F, if_neg (by omega), if_pos ht]
    simp [bestL, k0, k1, k2, k3, k4, z1, b1, show ¬ w = 0 by omega]
  have hn : ¬ (c = 0 ∨ c = w) := by omega
  have m0 : bestL f w 1 = none := by simp [bestL, k0, z0]
  have m1 : bestL f w 2 = none := by rw [bestL, m0]; simp [k1, z1]
  have m2 : bestL f w 3 = some (2 :: (c - 1) :: Ds.mem f w) := by rw [bestL, m1]; simp [k2, z0, z1, b2 hn]
  rcases tagOf_cases w c with ⟨e, h⟩ | ⟨e, h1, h2⟩ | ⟨e, h1, h2, h3, h4⟩ | ⟨e, h1, h2, h3, h4⟩ | ⟨e, h1, h2, h3, h4⟩
  · exact absurd h z0
  · exact absurd h2 z1
  · rw [F, e]
    have m3 : bestL f w 4 = some (2 :: (c - 1) :: Ds.mem f w) := by
      rw [bestL, m2]
      simp only [k3, b3 hn, List.length_cons, l1, l2]
      rw [if_neg (by simp; omega)]
    rw [bestL, m3]
    simp only [k4, b4 hn, List.length_cons, l1, l3]
    rw [if_neg (by simp; omega)]
    rfl
  · rw [F, e]
    have m3 : bestL f w 4 = some (3 :: (w - c - 1) :: Ds.mem (inv f) w) := by
      rw [bestL, m2]
      simp only [k3, b3 hn, List.length_cons, l1, l2]
      rw [if_pos (by simp [z0, z1]; omega)]
    rw [bestL, m3]
    simp only [k4, b4 hn, List.length_cons, l2, l3]
    rw [if_neg (by simp; omega)]
    rfl
  · rw [F, e]
    by_cases h5 : 2 + w - c < 2 + c
    · have m3 : bestL f w 4 = some (3 :: (w - c - 1) :: Ds.mem (inv f) w) := by
        rw [bestL, m2]
        simp only [k3, b3 hn, List.length_cons, l1, l2]
        rw [if_pos (by simp [z0, z1]; omega)]
      rw [bestL, m3]
      simp only [k4, b4 hn, List.length_cons, l2, l3]
      rw [if_pos (by simp [z0, z1]; omega)]
      rfl
    · have m3 : bestL f w 4 = some (2 :: (c - 1) :: Ds.mem f w) := by
        rw [bestL, m2]
        simp only [k3, b3 hn, List.length_cons, l1, l2]
        rw [if_neg (by simp; omega)]
      rw [bestL, m3]
      simp only [k4, b4 hn, List.length_cons, l1, l3]
      rw [if_pos (by simp [z0, z1]; omega)]
      rfl
/-- what the loop holds as the best -/
def BestAt (w : World) (B : Nat) (v : Value) : Option (List Nat) → Prop
  | none => v = .slice none 0 0
  | some b => b ≠ [] ∧ Own w B v b
theorem blk_short (f : Nat → Bool) (w tag : Nat) (hw : w ≤ 256) : (blkL f w tag).length ≤ 300 := by
  have hc := cnt_le f w
  have l1 : (Ds.mem f w).length = cnt f w := rfl
  have l2 : (Ds.mem (inv f) w).length = w - cnt f w := cnt_inv f w
  have l3 := bitsB_len f w
  unfold blkL
  repeat' split
  all_goals simp only [List.length_cons, List.length_nil, l1, l2, l3]; omega
theorem blk_some {f : Nat → Bool} {w tag : Nat} (h : blkOk f w tag = true) : blkL f w tag ≠ [] := by
  unfold blkOk at h
  unfold blkL
  repeat' split
  all_goals first | (intro e; cases e; done) | skip
  all_goals simp_all
set_option maxRecDepth 100000 in
theorem run_eql_nil (w : World) (a : Option Addr) (n c : Nat) : (binOp .eql 46 (.slice a n c) (.slice none 0 0)).run Tryd.prog w = .ok (.bool a.isNone) w := by
  cases a <;> rfl
set_option maxRecDepth 100000 in
set_option maxHeartbeats 4000000 in
theorem ref_encode (w : World) {g n : Nat} {m : Nat → Bool} (h : ROwn w g n m) (hn : n ≤ 1048576) :
    Calls Tryd.prog 61 #[RefV g n] w fun e w' => ∃ v, e = .returned v ∧ Own w' w.heap.size v (encS n m) ∧ Below w.heap.size w w' := by
  have HR := hide h
  clear h
  go_enter Tryd.func61, Tryd.ntmps61
  have hb : Below w.heap.size w (w.alloc (.cells #[.int .i64 (n : Nat), .slice (some ⟨g, 0, none⟩) n n] 54)) := (Below.refl _ w).alloc (Nat.le_refl _) _
  have hA : (w.alloc (.cells #[.int .i64 (n : Nat), .slice (some ⟨g, 0, none⟩) n n] 54)).heap[w.heap.size]? = some (.cells #[.int .i64 (n : Nat), .slice (some ⟨g, 0, none⟩) n n] 54 (0, 0)) := heap_new rfl _
  have HB := hide hb
  have HA := hide hA
  have HR1 := hide (HR.out.keep hb)
  have HS1 := hide (World.size_alloc w (.cells #[.int .i64 (n : Nat), .slice (some ⟨g, 0, none⟩) n n] 54))
  obtain ⟨c0, c1⟩ := cells2 hA
  clear hA hb
  go_upto_region 1 with (fail)
  generalize w.alloc (.cells #[.int .i64 (n : Nat), .slice (some ⟨g, 0, none⟩) n n] 54) = w1 at *
  have HU := hide (ref_uv w1 n hn)
  go_wp2_with (go_at_call 80; refine (HU.out).mono ?_; rintro e w3 ⟨v3, rfl, ho3, hb3⟩; have HO3 := hide ho3; have HB3 := hide hb3; clear ho3 hb3)
  go_loopw [3, 4] (fun v l wr => ∃ j : Nat, l = .int .i64 ((256 * j : Nat) : Int) ∧ j ≤ nb n ∧ Own wr w1.heap.size v (Uv.uv n ++ body n m j) ∧ Below w1.heap.size w1 wr) (fun _ l _ => n + 256 - (intOf l).toNat)
  case atStart => exact ⟨0, rfl, Nat.zero_le _, by rw [body_zero, List.append_nil]; exact HO3.out, HB3.out⟩
  case round =>
    obtain ⟨j, rfl, hj, hown, hb6⟩ := hrel
    have HO := hide hown
    have HBr := hide hb6
    have zr := hb6.size
    obtain ⟨c0, c1⟩ := cells2 ((hb6.block _ (heap_lt HA.out)).trans HA.out)
    clear hown hb6 HO3 HB3
    obtain ⟨lo, hlo⟩ : ∃ lo, 256 * j = lo := ⟨_, rfl⟩
    by_cases hlt : 256 * j < n
    · have hjn : j < nb n := nb_lt.2 hlt
      have hw0 := wid_pos hjn
      have hwl := wid_le n j
      obtain ⟨wd, hwd⟩ : ∃ wd, wid n j = wd := ⟨_, rfl⟩
      obtain ⟨f, hf⟩ : ∃ f, blk m j = f := ⟨_, rfl⟩
      have HF := hide (show ∀ k, m (lo + k) = f k from fun k => by rw [← hf, ← hlo]; rfl)
      have HFB := hide hf
      have HW := hide hwd
      rw [hwd] at hw0 hwl
      have hwn : wd = min 256 (n - 256 * j) := hwd.symm
      rw [hlo] at hwn ⊢
      have hlo2 : lo < n := by omega
      clear hf hwd
      have hii : (lo : Int) < (n : Int) := by omega
      by_cases hAA : n < lo + 256
      · have HLH := hide (show n = lo + wd from by omega)
        have hgi : (n : Int) < (lo : Int) + 256 := by omega
        clear hwn
        go_wp2_with fail
        go_loopw [6, 7] (fun v t wr => ∃ k : Nat, t = .int .i64 (k : Nat) ∧ k ≤ 5 ∧ BestAt wr w1.heap.size v (bestL f wd k) ∧ Own wr w1.heap.size u3 (Uv.uv n ++ body n m j) ∧ Below w1.heap.size w1 wr) (fun _ t _ => 5 - (intOf t).toNat)
        case atStart => exact ⟨0, rfl, by omega, rfl, HO.out, HBr.out⟩
        case round =>
          obtain ⟨k, rfl, hk, hbest, hown, hb6⟩ := hrel
          have HOy := hide hown
          have HBy := hide hb6
          have zy := hb6.size
          have hRy := HR1.out.keep hb6
          obtain ⟨c0, c1⟩ := cells2 ((hb6.block _ (heap_lt HA.out)).trans HA.out)
          clear hown hb6 HO HBr
          by_cases hk5 : k < 5
          · have hki : (k : Int) ≤ 4 := by omega
            have hcall := ref_block wr hRy hn lo (n) wd k (by have := HLH.out; omega) (by omega) hw0 hwl (by omega) f HF.out
            have hdummy : True := trivial
            obtain ⟨l8, hl8⟩ : ∃ l8, (blkL f wd k).length = l8 := ⟨_, rfl⟩
            have hl8s : l8 ≤ 300 := by rw [← hl8]; exact blk_short f wd k hwl
            cases hbl : bestL f wd k with
            | none =>
              rw [hbl] at hbest
              obtain rfl := hbest
              cases hok : blkOk f wd k with
              | false =>
                have HN := hide (show bestL f wd (k + 1) = none from by rw [bestL, hbl]; simp [hok])
                have HC := hide (show Calls Tryd.prog 81 #[RefV g n, .int .i64 (lo : Nat), .int .i64 (n : Nat), .int .i64 (k : Nat)] wr fun e w' => ∃ v, e = .returned (.tuple #[v, .bool false]) ∧ Own w' wr.heap.size v (blkL f wd k) ∧ Below wr.heap.size wr w' from by rw [hok] at hcall; exact hcall)
                clear hcall hok hbl
                go_wp2_with (go_at_call 81; refine (HC.out).mono ?_; rintro e wz ⟨v8, rfl, ho8, hb8⟩; unfold Own at ho8; rw [hl8] at ho8; obtain ⟨vo8, vc8, rfl⟩ := row_shape ho8; have HO8 := hide ho8; have HB8 := hide hb8; clear ho8 hb8)
                go_wp2_with fail
                have hbz := HB8.out
                have zz := hbz.size
                refine ⟨⟨k + 1, vi (by push_cast; omega), by omega, ?_, own_keep HOy.out hbz, HBy.out.trans (hbz.mono zy)⟩, by simp only [intOf]; omega⟩
                rw [HN.out]
                rfl
              | true =>
                have HN := hide (show bestL f wd (k + 1) = some (blkL f wd k) from by rw [bestL, hbl]; simp [hok])
                have HC := hide (show Calls Tryd.prog 81 #[RefV g n, .int .i64 (lo : Nat), .int .i64 (n : Nat), .int .i64 (k : Nat)] wr fun e w' => ∃ v, e = .returned (.tuple #[v, .bool true]) ∧ Own w' wr.heap.size v (blkL f wd k) ∧ Below wr.heap.size wr w' from by rw [hok] at hcall; exact hcall)
                have hne := blk_some hok
                clear hcall hok hbl
                go_wp2_with (go_at_call 81; refine (HC.out).mono ?_; rintro e wz ⟨v8, rfl, ho8, hb8⟩; unfold Own at ho8; rw [hl8] at ho8; obtain ⟨vo8, vc8, rfl⟩ := row_shape ho8; have HO8 := hide ho8; have HB8 := hide hb8; clear ho8 hb8)
                go_wp2_with fail
                simp only [run_eql_nil, Result.andThen_ok, Oper.upon_value, Option.isNone]
                go_at_K
                go_wp2_with fail
                have hbz := HB8.out
                have zz := hbz.size
                refine ⟨⟨k + 1, vi (by push_cast; omega), by omega, ?_, own_keep HOy.out hbz, HBy.out.trans (hbz.mono zy)⟩, by simp only [intOf]; omega⟩
                rw [HN.out]
                exact ⟨hne, Own.le (by unfold Own; rw [hl8]; exact HO8.out) zy⟩
            | some b =>
              rw [hbl] at hbest
              obtain ⟨hbn, hob⟩ := hbest
              obtain ⟨l6, hl6⟩ : ∃ l6, b.length = l6 := ⟨_, rfl⟩
              have h60 : 0 < l6 := by rw [← hl6]; exact List.length_pos_iff.2 hbn
              obtain ⟨g6, cap6, rfl⟩ := own_form hob (by omega)
              rw [hl6] at hob ⊢
              have HOB := hide hob
              clear hob
              cases hok : blkOk f wd k with
              | false =>
                have HN := hide (show bestL f wd (k + 1) = some b from by rw [bestL, hbl]; simp [hok])
                have HC := hide (show Calls Tryd.prog 81 #[RefV g n, .int .i64 (lo : Nat), .int .i64 (n : Nat), .int .i64 (k : Nat)] wr fun e w' => ∃ v, e = .returned (.tuple #[v, .bool false]) ∧ Own w' wr.heap.size v (blkL f wd k) ∧ Below wr.heap.size wr w' from by rw [hok] at hcall; exact hcall)
                clear hcall hok hbl
                go_wp2_with (go_at_call 81; refine (HC.out).mono ?_; rintro e wz ⟨v8, rfl, ho8, hb8⟩; unfold Own at ho8; rw [hl8] at ho8; obtain ⟨vo8, vc8, rfl⟩ := row_shape ho8; have HO8 := hide ho8; have HB8 := hide hb8; clear ho8 hb8)
                go_wp2_with fail
                have hbz := HB8.out
                have zz := hbz.size
                refine ⟨⟨k + 1, vi (by push_cast; omega), by omega, ?_, own_keep HOy.out hbz, HBy.out.trans (hbz.mono zy)⟩, by simp only [intOf]; omega⟩
                rw [HN.out]
                exact ⟨hbn, own_keep HOB.out hbz⟩
              | true =>
                have HC := hide (show Calls Tryd.prog 81 #[RefV g n, .int .i64 (lo : Nat), .int .i64 (n : Nat), .int .i64 (k : Nat)] wr fun e w' => ∃ v, e = .returned (.tuple #[v, .bool true]) ∧ Own w' wr.heap.size v (blkL f wd k) ∧ Below wr.heap.size wr w' from by rw [hok] at hcall; exact hcall)
                have hne := blk_some hok
                by_cases hll : l8 < l6
                · have HN := hide (show bestL f wd (k + 1) = some (blkL f wd k) from by rw [bestL, hbl]; simp [hok, hl8, hl6, hll])
                  clear hcall hok hbl
                  go_wp2_with (go_at_call 81; refine (HC.out).mono ?_; rintro e wz ⟨v8, rfl, ho8, hb8⟩; unfold Own at ho8; rw [hl8] at ho8; obtain ⟨vo8, vc8, rfl⟩ := row_shape ho8; have HO8 := hide ho8; have HB8 := hide hb8; clear ho8 hb8)
                  go_wp2_with fail
                  simp only [run_eql_nil, Result.andThen_ok, Oper.upon_value, Option.isNone]
                  go_at_K
                  go_wp2_with fail
                  have hbz := HB8.out
                  have zz := hbz.size
                  refine ⟨⟨k + 1, vi (by push_cast; omega), by omega, ?_, own_keep HOy.out hbz, HBy.out.trans (hbz.mono zy)⟩, by simp only [intOf]; omega⟩
                  rw [HN.out]
                  exact ⟨hne, Own.le (by unfold Own; rw [hl8]; exact HO8.out) zy⟩
                · have HN := hide (show bestL f wd (k + 1) = some b from by rw [bestL, hbl]; simp [hl8, hl6, hll])
                  clear hcall hok hbl
                  go_wp2_with (go_at_call 81; refine (HC.out).mono ?_; rintro e wz ⟨v8, rfl, ho8, hb8⟩; unfold Own at ho8; rw [hl8] at ho8; obtain ⟨vo8, vc8, rfl⟩ := row_shape ho8; have HO8 := hide ho8; have HB8 := hide hb8; clear ho8 hb8)
                  go_wp2_with fail
                  simp only [run_eql_nil, Result.andThen_ok, Oper.upon_value, Option.isNone]
                  go_at_K
                  go_wp2_with fail
                  have hbz := HB8.out
                  have zz := hbz.size
                  refine ⟨⟨k + 1, vi (by push_cast; omega), by omega, ?_, own_keep HOy.out hbz, HBy.out.trans (hbz.mono zy)⟩, by simp only [intOf]; omega⟩
                  rw [HN.out]
                  exact ⟨hbn, own_keep HOB.out hbz⟩
          · obtain rfl : k = 5 := by omega
            rw [best_form f wd hw0] at hbest
            obtain ⟨hbn, hob⟩ := hbest
            have HOB := hide hob
            have HE := hide (show Uv.uv n ++ body n m (j + 1) = Uv.uv n ++ body n m j ++ form f wd from by rw [body_succ, List.append_assoc]; unfold encB; rw [HW.out, HFB.out])
            have HS := hide (own_src hob (form_lt f wd hwl))
            have hlen := form_len f wd hwl
            have HLN := hide (show (Uv.uv n ++ body n m j).length + (form f wd).length ≤ 140737488355328 from by
              have h1 := Uv.uv_len n
              have h2 := body_len n m j
              rw [List.length_append]; omega)
            clear hob hbn hlen
            go_wp2_with (at_builtin; refine append_src w1 wr w1.heap.size _ _ _ _ rfl (.tmp 52) (.tmp 53) rfl rfl rfl HOy.out HS.out HLN.out zy HBy.out ?_; intro v9 w9 ho9 hb9; have HO9 := hide ho9; have HB9 := hide hb9; clear ho9 hb9)
            go_wp2_with fail
            exact ⟨⟨j + 1, vi (by push_cast; omega), by omega, by rw [HE.out]; exact HO9.out, HB9.out⟩, by simp only [intOf]; omega⟩
      · have HLH := hide (show lo + 256 = lo + wd from by omega)
        have hgi : ¬ (n : Int) < (lo : Int) + 256 := by omega
        clear hwn
        go_wp2_with fail
        go_loopw [6, 7] (fun v t wr => ∃ k : Nat, t = .int .i64 (k : Nat) ∧ k ≤ 5 ∧ BestAt wr w1.heap.size v (bestL f wd k) ∧ Own wr w1.heap.size u3 (Uv.uv n ++ body n m j) ∧ Below w1.heap.size w1 wr) (fun _ t _ => 5 - (intOf t).toNat)
        case atStart => exact ⟨0, rfl, by omega, rfl, HO.out, HBr.out⟩
        case round =>
          obtain ⟨k, rfl, hk, hbest, hown, hb6⟩ := hrel
          have HOy := hide hown
          have HBy := hide hb6
          have zy := hb6.size
          have hRy := HR1.out.keep hb6
          obtain ⟨c0, c1⟩ := cells2 ((hb6.block _ (heap_lt HA.out)).trans HA.out)
          clear hown hb6 HO HBr
          by_cases hk5 : k < 5
          · have hki : (k : Int) ≤ 4 := by omega
            have hcall := ref_block wr hRy hn lo (lo + 256) wd k (by have := HLH.out; omega) (by omega) hw0 hwl (by omega) f HF.out
            rw [show ((lo + 256 : Nat) : Int) = (lo : Int) + 256 from by push_cast; rfl] at hcall
            obtain ⟨l8, hl8⟩ : ∃ l8, (blkL f wd k).length = l8 := ⟨_, rfl⟩
            have hl8s : l8 ≤ 300 := by rw [← hl8]; exact blk_short f wd k hwl
            cases hbl : bestL f wd k with
            | none =>
              rw [hbl] at hbest
              obtain rfl := hbest
              cases hok : blkOk f wd k with
              | false =>
                have HN := hide (show bestL f wd (k + 1) = none from by rw [bestL, hbl]; simp [hok])
                have HC := hide (show Calls Tryd.prog 81 #[RefV g n, .int .i64 (lo : Nat), .int .i64 ((lo : Int) + 256), .int .i64 (k : Nat)] wr fun e w' => ∃ v, e = .returned (.tuple #[v, .bool false]) ∧ Own w' wr.heap.size v (blkL f wd k) ∧ Below wr.heap.size wr w' from by rw [hok] at hcall; exact hcall)
                clear hcall hok hbl
                go_wp2_with (go_at_call 81; refine (HC.out).mono ?_; rintro e wz ⟨v8, rfl, ho8, hb8⟩; unfold Own at ho8; rw [hl8] at ho8; obtain ⟨vo8, vc8, rfl⟩ := row_shape ho8; have HO8 := hide ho8; have HB8 := hide hb8; clear ho8 hb8)
                go_wp2_with fail
                have hbz := HB8.out
                have zz := hbz.size
                refine ⟨⟨k + 1, vi (by push_cast; omega), by omega, ?_, own_keep HOy.out hbz, HBy.out.trans (hbz.mono zy)⟩, by simp only [intOf]; omega⟩
                rw [HN.out]
                rfl
              | true =>
                have HN := hide (show bestL f wd (k + 1) = some (blkL f wd k) from by rw [bestL, hbl]; simp [hok])
                have HC := hide (show Calls Tryd.prog 81 #[RefV g n, .int .i64 (lo : Nat), .int .i64 ((lo : Int) + 256), .int .i64 (k : Nat)] wr fun e w' => ∃ v, e = .returned (.tuple #[v, .bool true]) ∧ Own w' wr.heap.size v (blkL f wd k) ∧ Below wr.heap.size wr w' from by rw [hok] at hcall; exact hcall)
                have hne := blk_some hok
                clear hcall hok hbl
                go_wp2_with (go_at_call 81; refine (HC.out).mono ?_; rintro e wz ⟨v8, rfl, ho8, hb8⟩; unfold Own at ho8; rw [hl8] at ho8; obtain ⟨vo8, vc8, rfl⟩ := row_shape ho8; have HO8 := hide ho8; have HB8 := hide hb8; clear ho8 hb8)
                go_wp2_with fail
                simp only [run_eql_nil, Result.andThen_ok, Oper.upon_value, Option.isNone]
                go_at_K
                go_wp2_with fail
                have hbz := HB8.out
                have zz := hbz.size
                refine ⟨⟨k + 1, vi (by push_cast; omega), by omega, ?_, own_keep HOy.out hbz, HBy.out.trans (hbz.mono zy)⟩, by simp only [intOf]; omega⟩
                rw [HN.out]
                exact ⟨hne, Own.le (by unfold Own; rw [hl8]; exact HO8.out) zy⟩
            | some b =>
              rw [hbl] at hbest
              obtain ⟨hbn, hob⟩ := hbest
              obtain ⟨l6, hl6⟩ : ∃ l6, b.length = l6 := ⟨_, rfl⟩
              have h60 : 0 < l6 := by rw [← hl6]; exact List.length_pos_iff.2 hbn
              obtain ⟨g6, cap6, rfl⟩ := own_form hob (by omega)
              rw [hl6] at hob ⊢
              have HOB := hide hob
              clear hob
              cases hok : blkOk f wd k with
              | false =>
                have HN := hide (show bestL f wd (k + 1) = some b from by rw [bestL, hbl]; simp [hok])
                have HC := hide (show Calls Tryd.prog 81 #[RefV g n, .int .i64 (lo : Nat), .int .i64 ((lo : Int) + 256), .int .i64 (k : Nat)] wr fun e w' => ∃ v, e = .returned (.tuple #[v, .bool false]) ∧ Own w' wr.heap.size v (blkL f wd k) ∧ Below wr.heap.size wr w' from by rw [hok] at hcall; exact hcall)
                clear hcall hok hbl
                go_wp2_with (go_at_call 81; refine (HC.out).mono ?_; rintro e wz ⟨v8, rfl, ho8, hb8⟩; unfold Own at ho8; rw [hl8] at ho8; obtain ⟨vo8, vc8, rfl⟩ := row_shape ho8; have HO8 := hide ho8; have HB8 := hide hb8; clear ho8 hb8)
                go_wp2_with fail
                have hbz := HB8.out
                have zz := hbz.size
                refine ⟨⟨k + 1, vi (by push_cast; omega), by omega, ?_, own_keep HOy.out hbz, HBy.out.trans (hbz.mono zy)⟩, by simp only [intOf]; omega⟩
                rw [HN.out]
                exact ⟨hbn, own_keep HOB.out hbz⟩
              | true =>
                have HC := hide (show Calls Tryd.prog 81 #[RefV g n, .int .i64 (lo : Nat), .int .i64 ((lo : Int) + 256), .int .i64 (k : Nat)] wr fun e w' => ∃ v, e = .returned (.tuple #[v, .bool true]) ∧ Own w' wr.heap.size v (blkL f wd k) ∧ Below wr.heap.size wr w' from by rw [hok] at hcall; exact hcall)
                have hne := blk_some hok
                by_cases hll : l8 < l6
                · have HN := hide (show bestL f wd (k + 1) = some (blkL f wd k) from by rw [bestL, hbl]; simp [hok, hl8, hl6, hll])
                  clear hcall hok hbl
                  go_wp2_with (go_at_call 81; refine (HC.out).mono ?_; rintro e wz ⟨v8, rfl, ho8, hb8⟩; unfold Own at ho8; rw [hl8] at ho8; obtain ⟨vo8, vc8, rfl⟩ := row_shape ho8; have HO8 := hide ho8; have HB8 := hide hb8; clear ho8 hb8)
                  go_wp2_with fail
                  simp only [run_eql_nil, Result.andThen_ok, Oper.upon_value, Option.isNone]
                  go_at_K
                  go_wp2_with fail
                  have hbz := HB8.out
                  have zz := hbz.size
                  refine ⟨⟨k + 1, vi (by push_cast; omega), by omega, ?_, own_keep HOy.out hbz, HBy.out.trans (hbz.mono zy)⟩, by simp only [intOf]; omega⟩
                  rw [HN.out]
                  exact ⟨hne, Own.le (by unfold Own; rw [hl8]; exact HO8.out) zy⟩
                · have HN := hide (show bestL f wd (k + 1) = some b from by rw [bestL, hbl]; simp [hl8, hl6, hll])
                  clear hcall hok hbl
                  go_wp2_with (go_at_call 81; refine (HC.out).mono ?_; rintro e wz ⟨v8, rfl, ho8, hb8⟩; unfold Own at ho8; rw [hl8] at ho8; obtain ⟨vo8, vc8, rfl⟩ := row_shape ho8; have HO8 := hide ho8; have HB8 := hide hb8; clear ho8 hb8)
                  go_wp2_with fail
                  simp only [run_eql_nil, Result.andThen_ok, Oper.upon_value, Option.isNone]
                  go_at_K
                  go_wp2_with fail
                  have hbz := HB8.out
                  have zz := hbz.size
                  refine ⟨⟨k + 1, vi (by push_cast; omega), by omega, ?_, own_keep HOy.out hbz, HBy.out.trans (hbz.mono zy)⟩, by simp only [intOf]; omega⟩
                  rw [HN.out]
                  exact ⟨hbn, own_keep HOB.out hbz⟩
          · obtain rfl : k = 5 := by omega
            rw [best_form f wd hw0] at hbest
            obtain ⟨hbn, hob⟩ := hbest
            have HOB := hide hob
            have HE := hide (show Uv.uv n ++ body n m (j + 1) = Uv.uv n ++ body n m j ++ form f wd from by rw [body_succ, List.append_assoc]; unfold encB; rw [HW.out, HFB.out])
            have HS := hide (own_src hob (form_lt f wd hwl))
            have hlen := form_len f wd hwl
            have HLN := hide (show (Uv.uv n ++ body n m j).length + (form f wd).length ≤ 140737488355328 from by
              have h1 := Uv.uv_len n
              have h2 := body_len n m j
              rw [List.length_append]; omega)
            clear hob hbn hlen
            go_wp2_with (at_builtin; refine append_src w1 wr w1.heap.size _ _ _ _ rfl (.tmp 52) (.tmp 53) rfl rfl rfl HOy.out HS.out HLN.out zy HBy.out ?_; intro v9 w9 ho9 hb9; have HO9 := hide ho9; have HB9 := hide hb9; clear ho9 hb9)
            go_wp2_with fail
            exact ⟨⟨j + 1, vi (by push_cast; omega), by omega, by rw [HE.out]; exact HO9.out, HB9.out⟩, by simp only [intOf]; omega⟩
    · have hjn : j = nb n := by have := @nb_lt n j; omega
      subst hjn
      have hii : ¬ (lo : Int) < (n : Int) := by omega
      rw [hlo]
      go_wp2_with fail
      go_ret
      refine ⟨u3, rfl, HO.out.le (by have := HS1.out; omega), HB.out.trans (HBr.out.mono (by have := HS1.out; omega))⟩
end Go.Proofs.YtmkbbekeimnajaaDoor

/-! Nm: the plain law of a number in bytes -/
namespace Go.Proofs.YtmkbbekeimnajaaDoor.Nm

/-- the number that bytes make -/
def val : List Nat → Nat
  | [] => 0
  | x :: r => x % 128 + 128 * val r
/-- from index i on, f bytes at most: how many bytes it has, the error (1 short, 2 varint) -/
def num : Nat → Nat → List Nat → Nat × Nat
  | 0, _, _ => (0, 1)
  | f + 1, i, bs =>
    match bs[i]? with
    | none => (0, 1)
    | some x => if i = 9 ∧ 1 < x then (0, 2) else if 128 ≤ x then num f (i + 1) bs else if x = 0 ∧ 0 < i then (0, 2) else (i + 1, 0)

theorem val_app (xs : List Nat) (x : Nat) : val (xs ++ [x]) = val xs + x % 128 * 128 ^ xs.length := by
  induction xs with
  | nil => simp [val]
  | cons y r ih =>
    simp only [List.cons_append, val, ih, List.length_cons, Nat.pow_succ]
    rw [Nat.mul_add, Nat.add_assoc]
    congr 2
    rw [Nat.mul_comm 128, Nat.mul_assoc]
theorem val_lt (xs : List Nat) : val xs < 128 ^ xs.length := by
  induction xs with
  | nil => simp [val]
  | cons y r ih =>
    simp only [val, List.length_cons, Nat.pow_succ]
    have := Nat.mod_lt y (show 0 < 128 by decide)
    have : val r + 1 ≤ 128 ^ r.length := ih
    omega
theorem val_take {bs : List Nat} {i x : Nat} (h : bs[i]? = some x) : val (bs.take (i + 1)) = val (bs.take i) + x % 128 * 128 ^ i := by
  obtain ⟨hl, _⟩ := List.getElem?_eq_some_iff.1 h
  rw [List.take_add_one, h, Option.toList_some, val_app, List.length_take, Nat.min_eq_left (by omega)]
theorem val_take_lt (bs : List Nat) (i : Nat) : val (bs.take i) < 128 ^ i := by
  refine Nat.lt_of_lt_of_le (val_lt _) (Nat.pow_le_pow_right (by decide) ?_)
  rw [List.length_take]
  omega
theorem num_take {f i : Nat} (bs : List Nat) (h : i + f ≤ 10) : num f i (bs.take 10) = num f i bs := by
  induction f generalizing i with
  | zero => rfl
  | succ f ih =>
    rw [num, num, List.getElem?_take, if_pos (by omega)]
    cases hb : bs[i]? with
    | none => rfl
    | some x => simp only [ih (i := i + 1) (by omega)]
/-- what a good answer tells -/
theorem num_ok {f i n : Nat} {bs : List Nat} (hf : i + f ≤ 10) (h : num f i bs = (n, 0)) : i < n ∧ n ≤ 10 ∧ n ≤ bs.length ∧ ∃ x, bs[n - 1]? = some x ∧ x < 128 ∧ (n = 10 → x ≤ 1) ∧ (1 < n → 0 < x) := by
  induction f generalizing i with
  | zero => simp [num] at h
  | succ f ih =>
    rw [num] at h
    cases hb : bs[i]? with
    | none => rw [hb] at h; simp at h
    | some x =>
      obtain ⟨hl, _⟩ := List.getElem?_eq_some_iff.1 hb
      rw [hb] at h
      simp only at h
      split at h
      · simp at h
      · split at h
        · have := ih (by omega) h
          exact ⟨by omega, this.2⟩
        · split at h
          · simp at h
          · simp only [Prod.mk.injEq, and_true] at h
            subst h
            refine ⟨by omega, by omega, by omega, x, by simpa using hb, by omega, by omega, by omega⟩
theorem num_err {f i : Nat} (bs : List Nat) : (num f i bs).2 = 0 ∨ num f i bs = (0, 1) ∨ num f i bs = (0, 2) := by
  induction f generalizing i with
  | zero => exact .inr (.inl rfl)
  | succ f ih =>
    rw [num]
    cases bs[i]? with
    | none => exact .inr (.inl rfl)
    | some x =>
      simp only
      split
      · exact .inr (.inr rfl)
      · split
        · exact ih
        · split
          · exact .inr (.inr rfl)
          · exact .inl rfl
theorem val_ok {n : Nat} {bs : List Nat} (h : num 10 0 bs = (n, 0)) : val (bs.take n) < 18446744073709551616 := by
  obtain ⟨h1, h2, h3, x, hx, hx128, hx10, _⟩ := num_ok (by omega) h
  obtain ⟨m, rfl⟩ : ∃ m, n = m + 1 := ⟨n - 1, by omega⟩
  simp only [Nat.add_sub_cancel] at hx
  rw [val_take hx]
  have hv := val_take_lt bs m
  by_cases hm : m = 9
  · subst hm
    have := hx10 rfl
    have : x % 128 = x := by omega
    rw [this]
    have e : (128 : Nat) ^ 9 = 9223372036854775808 := by decide
    rw [e] at *
    have : x * 9223372036854775808 ≤ 1 * 9223372036854775808 := Nat.mul_le_mul_right _ (by omega)
    omega
  · have hp : 128 ^ (m + 1) ≤ 128 ^ 9 := Nat.pow_le_pow_right (by decide) (by omega)
    have e : (128 : Nat) ^ 9 = 9223372036854775808 := by decide
    have hs : 128 ^ (m + 1) = 128 ^ m * 128 := Nat.pow_succ ..
    have hx2 : x % 128 * 128 ^ m ≤ 127 * 128 ^ m := Nat.mul_le_mul_right _ (by omega)
    rw [e] at hp
    omega
theorem val_drop_le (l : List Nat) (j : Nat) : val (l.drop j) ≤ val l := by
  induction l generalizing j with
  | nil => simp
  | cons x r ih =>
    cases j with
    | zero => simp
    | succ j =>
      have := ih j
      rw [List.drop_succ_cons, val]
      omega
theorem val_drop {l : List Nat} {j x : Nat} (h : l[j]? = some x) : val (l.drop j) = x % 128 + 128 * val (l.drop (j + 1)) := by
  rw [List.drop_eq_getElem?_toList_append, h]
  rfl
end Go.Proofs.YtmkbbekeimnajaaDoor.Nm

/-! Rn: a reader: Uvarint -/
namespace Go.Proofs.YtmkbbekeimnajaaDoor
open Go.RowKit
/-- what Uvarint answers -/
def NumOut (E : Nat → Addr) (bs : List Nat) (e : Ending) : Prop :=
  ((Nm.num 10 0 bs).2 = 0 ∧ e = .returned (.tuple #[.int .u64 (Nm.val (bs.take (Nm.num 10 0 bs).1) : Nat), .nilIface])) ∨
  ((Nm.num 10 0 bs).2 = 1 ∧ e = .returned (.tuple #[.int .u64 0, .iface 153 (.pointer (some (E 2)))])) ∨
  ((Nm.num 10 0 bs).2 = 2 ∧ e = .returned (.tuple #[.int .u64 0, .iface 153 (.pointer (some (E 3)))]))
theorem rd_drew {w : World} {p a n : Nat} {bv : Value} (h : RdAt w p a bv n) (q : Nat) : RdAt (w.drewN q) p a bv n := h
theorem src_drew {w : World} {v : Value} {bs : List Nat} (h : Src w v bs) (q : Nat) : Src (w.drewN q) v bs := src_keep h (below_drewN (Below.refl _ _) q)
theorem or_val (i x : Nat) (bs : List Nat) (hx : bs[i]? = some x) (hi : i ≤ 9) (h9 : i = 9 → x ≤ 1) :
    bits .or .u64 ((Nm.val (bs.take i) : Nat) : Int) (IntKind.u64.wrap ((x : Int) % 128 * 2 ^ (7 * i))) = ((Nm.val (bs.take (i + 1)) : Nat) : Int) := by
  have hv := Nm.val_take_lt bs i
  have hp : (128 : Nat) ^ i = 2 ^ (7 * i) := by rw [show (128 : Nat) = 2 ^ 7 from rfl, ← Nat.pow_mul]
  have e9 : (2 : Nat) ^ 63 = 9223372036854775808 := by decide
  have hb : x % 128 * 2 ^ (7 * i) < 18446744073709551616 := by
    by_cases h : i = 9
    · have := h9 h
      subst h
      have : x % 128 * 2 ^ (7 * 9) ≤ 1 * 2 ^ 63 := Nat.mul_le_mul (by omega) (by decide)
      omega
    · have h2 : (2 : Nat) ^ (7 * i) ≤ 2 ^ 56 := Nat.pow_le_pow_right (by decide) (by omega)
      have h3 : x % 128 * 2 ^ (7 * i) ≤ 127 * 2 ^ 56 := Nat.mul_le_mul (by omega) h2
      have : (127 : Nat) * 2 ^ 56 < 18446744073709551616 := by decide
      omega
  have hvb : Nm.val (bs.take i) < 18446744073709551616 := by
    have h2 : (128 : Nat) ^ i ≤ 128 ^ 9 := Nat.pow_le_pow_right (by decide) hi
    have : (128 : Nat) ^ 9 < 18446744073709551616 := by decide
    omega
  have ec : ((x : Int) % 128 * 2 ^ (7 * i)) = ((x % 128 * 2 ^ (7 * i) : Nat) : Int) := by simp
  have ew : IntKind.u64.wrap ((x : Int) % 128 * 2 ^ (7 * i)) = ((x % 128 * 2 ^ (7 * i) : Nat) : Int) := by
    rw [ec, IntKind.wrap_u64]
    omega
  rw [ew, u64_or_nat _ _ hvb hb, Nm.val_take hx, hp]
  congr 1
  rw [hp] at hv
  have h := Nat.two_pow_add_eq_or_of_lt hv (x % 128)
  rw [Nat.mul_comm, Nat.add_comm] at h
  rw [h, Nat.or_comm, Nat.mul_comm]
theorem rd_set {w : World} {p a n : Nat} {bv : Value} (h : RdAt w p a bv n) (b : Nat) : RdAt (w.setCell ⟨p, 0, none⟩ (.int .i64 (b : Nat))) p b bv n := heap_set h _
theorem src_cell {w : World} {ao : Option Addr} {n cap i x : Nat} {bs : List Nat} (h : Src w (.slice ao n cap) bs) (hx : bs[i]? = some x) : ∃ ad, ao = some ad ∧ w.cell? (ad.add i) = some (.int .u8 x) := by
  rcases h with ⟨_, ⟨_, rfl⟩ | ⟨ad, c, hv, _, _, hc⟩⟩
  · simp at hx
  · simp only [Value.slice.injEq] at hv
    exact ⟨ad, hv.1, hc i x hx⟩
set_option maxRecDepth 100000 in
set_option maxHeartbeats 4000000 in
theorem reader_uvarint (w : World) (B p : Nat) (bv : Value) (bs : List Nat) (hB : B ≤ p) (hR : RdAt w p 0 bv bs.length) (hs : Src w bv bs) (hl : bs.length ≤ 140737488355328) (E : Nat → Addr) (hE1 : ErrAt w 2 (E 2)) (hE2 : ErrAt w 3 (E 3)) (hg : 3 < B) :
    Calls Tryd.prog 82 #[.pointer (some ⟨p, 0, none⟩)] w fun e w' => NumOut E bs e ∧ Below B w w' ∧ ((Nm.num 10 0 bs).2 = 0 → RdAt w' p (Nm.num 10 0 bs).1 bv bs.length) := by
  obtain ⟨ao, cap, rfl⟩ := src_form hs
  have HR := hide hR
  have HS := hide hs
  have HE1 := hide hE1
  have HE2 := hide hE2
  clear hR hs hE1 hE2
  go_enter Tryd.func82, Tryd.ntmps82
  go_wp2_with fail
  go_loopw [4, 5] (fun v c wr => ∃ i : Nat, i ≤ 9 ∧ c = .int .i64 i ∧ v = .int .u64 (Nm.val (bs.take i) : Nat) ∧ Nm.num 10 0 bs = Nm.num (10 - i) i bs ∧ RdAt wr p 0 (.slice ao bs.length cap) bs.length ∧ Src wr (.slice ao bs.length cap) bs ∧ Below B w wr) (fun _ c _ => 10 - (intOf c).toNat)
  case atStart => exact ⟨0, by omega, rfl, rfl, rfl, HR.out, HS.out, Below.refl _ _⟩
  case round =>
    obtain ⟨i, hi, rfl, rfl, hnum, hR, hS, hb⟩ := hrel
    have HN := hide hnum
    have HR' := hide hR
    have HS' := hide hS
    have HB' := hide hb
    clear hnum hR hS hb
    go_wp2_with fail
    refine (left_any wr p 0 bs.length _ HR'.out (by omega) (by omega)).mono ?_
    rintro e w1 ⟨rfl, q, rfl⟩
    have HR1 := hide (rd_drew HR'.out q)
    have HS1 := hide (src_drew HS'.out q)
    have HB1 := hide (below_drewN HB'.out q)
    clear HR' HS' HB'
    generalize wr.drewN q = w1 at HR1 HS1 HB1
    by_cases hlt : i < bs.length
    · obtain ⟨x, hx⟩ : ∃ x, bs[i]? = some x := ⟨_, List.getElem?_eq_getElem hlt⟩
      have HX := hide hx
      have hx256 := HS1.out.1 x (List.mem_of_getElem? hx)
      obtain ⟨h0, h1, h2⟩ := cells3 HR1.out
      clear hx
      obtain ⟨ad, rfl, hxc⟩ := src_cell HS1.out HX.out
      have hw0 : IntKind.i64.wrap ((0 : Int) + i) = (i : Int) := by rw [IntKind.wrap_i64]; omega
      go_wp2_with fail
      go_quiet (fail)
      have HR2 := hide (rd_drew HR1.out nq)
      have HS2 := hide (src_drew HS1.out nq)
      have HB2 := hide (below_drewN HB1.out nq)
      clear HR1 HS1 HB1 h0 h1 h2 hxc
      generalize w1.drewN nq = w2 at HR2 HS2 HB2
      obtain ⟨g0, g1, g2⟩ := cells3 HR2.out
      have HG0 := hide g0
      have e4 : bits .and .u8 (x : Int) 127 = ((x % 128 : Nat) : Int) := by
        have := u8_and_nat x 127 hx256 (by omega)
        rw [nat_mask7] at this
        exact this
      have e5 : IntKind.i64.wrap (7 * (i : Int)) = ((7 * i : Nat) : Int) := by rw [IntKind.wrap_i64]; omega
      have hstep : Nm.num (10 - i) i bs = if i = 9 ∧ 1 < x then (0, 2) else if 128 ≤ x then Nm.num (10 - (i + 1)) (i + 1) bs else if x = 0 ∧ 0 < i then (0, 2) else (i + 1, 0) := by
        rw [show 10 - i = (9 - i) + 1 by omega, Nm.num, HX.out, show 10 - (i + 1) = 9 - i by omega]
      have HST := hide (HN.out.trans hstep)
      clear hstep
      by_cases hA : i = 9 ∧ 1 < x
      · obtain ⟨rfl, hx1⟩ := hA
        have hr : Nm.num 10 0 bs = (0, 2) := by rw [HST.out, if_pos ⟨rfl, hx1⟩]
        have HRR := hide hr
        have hx2 : 1 < (x : Int) := by omega
        have hE := err_below HE2.out HB2.out hg
        unfold ErrAt at hE
        clear hr
        go_wp2_with fail
        go_quiet (fail)
        go_wp2
        go_ret2
        exact ⟨.inr (.inr ⟨by rw [HRR.out], rfl⟩), below_drewN HB2.out _, fun h => by rw [HRR.out] at h; simp at h⟩
      · by_cases hC : 128 ≤ x
        · have hi8 : i ≤ 8 := by omega
          have e1 : ((i : Int) == 9) = false := by simp; omega
          have e2 : 128 ≤ (x : Int) := by omega
          have e3 : ((i : Int) = 9) = False := by simp; omega
          have hr : Nm.num 10 0 bs = Nm.num (10 - (i + 1)) (i + 1) bs := by rw [HST.out, if_neg hA, if_pos hC]
          have HRR := hide hr
          have HV := hide (or_val i x bs HX.out (by omega) (fun h => by omega))
          clear hr
          go_wp2_with fail
          exact ⟨⟨i + 1, by omega, by simp, by rw [HV.out], HRR.out, HR2.out, HS2.out, HB2.out⟩, by simp [intOf]; omega⟩
        · by_cases hD : x = 0 ∧ 0 < i
          · obtain ⟨rfl, hi0⟩ := hD
            have hr : Nm.num 10 0 bs = (0, 2) := by rw [HST.out, if_neg hA, if_neg hC, if_pos ⟨rfl, hi0⟩]
            have HRR := hide hr
            have hi1 : 0 < (i : Int) := by omega
            have hE := err_below HE2.out HB2.out hg
            unfold ErrAt at hE
            clear hr
            go_wp2_with fail
            all_goals (go_quiet (fail); go_wp2; go_ret2; exact ⟨.inr (.inr ⟨by rw [HRR.out], rfl⟩), below_drewN HB2.out _, fun h => by rw [HRR.out] at h; simp at h⟩)
          · have hr : Nm.num 10 0 bs = (i + 1, 0) := by rw [HST.out, if_neg hA, if_neg hC, if_neg hD]
            have HRR := hide hr
            have hf := free_at HR2.out 0
            have hw1 : IntKind.i64.wrap ((i : Int) + 1) = ((i + 1 : Nat) : Int) := by rw [IntKind.wrap_i64]; omega
            have hx128 : x % 128 = x := by omega
            have hlx : x < 128 := by omega
            have HV := hide (or_val i x bs HX.out (by omega) (fun h => by omega))
            have HRD := hide (rd_set HR2.out (i + 1))
            have HBD := hide (below_set (i := 0) HB2.out hB (.int .i64 ((i + 1 : Nat) : Int)))
            clear hr
            by_cases h9 : i = 9
            · subst h9
              by_cases hx0 : x = 0
              · exact absurd ⟨hx0, by decide⟩ hD
              · have hx1 : x = 1 := by omega
                subst hx1
                go_wp2_with fail
                have hval : bits .or .u64 ((Nm.val (bs.take 9) : Nat) : Int) (IntKind.u64.wrap (IntKind.u64.wrap (bits .and .u8 1 127) * 9223372036854775808)) = ((Nm.val (bs.take 10) : Nat) : Int) := HV.out
                go_ret2
                refine ⟨.inl ⟨by rw [HRR.out], ?_⟩, HBD.out, fun _ => by rw [HRR.out]; exact HRD.out⟩
                rw [HRR.out, hval]
                rfl
            · have e1 : ((i : Int) == 9) = false := by simp; omega
              have e3 : ((i : Int) = 9) = False := by simp; omega
              by_cases hx0 : x = 0
              · have hi0 : i = 0 := by omega
                subst hi0
                subst hx0
                go_wp2_with fail
                have hval : bits .or .u64 ((Nm.val [] : Nat) : Int) (IntKind.u64.wrap (IntKind.u64.wrap (bits .and .u8 0 127))) = ((Nm.val (bs.take 1) : Nat) : Int) := HV.out
                go_ret2
                refine ⟨.inl ⟨by rw [HRR.out], ?_⟩, HBD.out, fun _ => by rw [HRR.out]; exact HRD.out⟩
                rw [HRR.out, hval]
                rfl
              · have ex : ((x : Int) == 0) = false := by simp; omega
                have ex2 : ((x : Int) = 0) = False := by simp; omega
                go_wp2_with fail
                have hm : (x : Int) % 128 = x := by omega
                have hval := HV.out
                rw [hm] at hval
                go_ret2
                refine ⟨.inl ⟨by rw [HRR.out], ?_⟩, HBD.out, fun _ => by rw [HRR.out]; exact HRD.out⟩
                rw [HRR.out, hval]
                rfl
    · have hge : (bs.length : Int) ≤ i := by omega
      have hr : Nm.num 10 0 bs = (0, 1) := by
        rw [HN.out, show 10 - i = (9 - i) + 1 by omega, Nm.num, List.getElem?_eq_none (by omega)]
      have HRR := hide hr
      have hE := err_below HE1.out HB1.out (by omega)
      unfold ErrAt at hE
      clear hr
      go_wp2_with fail
      go_quiet (fail)
      go_wp2
      go_ret2
      exact ⟨.inr (.inl ⟨by rw [HRR.out], rfl⟩), below_drewN HB1.out _, fun h => by rw [HRR.out] at h; simp at h⟩
end Go.Proofs.YtmkbbekeimnajaaDoor

/-! Ul: plain: a number of bytes and what is read of it (ported from wip/frame Dl) -/
namespace Go.Proofs.YtmkbbekeimnajaaDoor.Nm
theorem num_uvf : ∀ (g i x : Nat) (pre rest : List Nat), pre.length = i → i + g = 9 → x * 128 ^ i < 18446744073709551616 → (i = 0 ∨ 0 < x) →
    num (g + 1) i (pre ++ Uv.uvf g x ++ rest) = (i + (Uv.uvf g x).length, 0)
  | 0, i, x, pre, rest, hp, hi, hx, h0 => by
    obtain rfl : i = 9 := by omega
    have e9 : (128 : Nat) ^ 9 = 9223372036854775808 := by decide
    have hx1 : x ≤ 1 := by rw [e9] at hx; omega
    have hget : (pre ++ Uv.uvf 0 x ++ rest)[9]? = some x := by
      rw [List.append_assoc, List.getElem?_append_right (by omega), hp]; rfl
    rw [num, hget]
    simp only
    rw [if_neg (by omega), if_neg (by omega), if_neg (by omega)]
    rfl
  | g + 1, i, x, pre, rest, hp, hi, hx, h0 => by
    by_cases hs : x < 128
    · have hget : (pre ++ Uv.uvf (g + 1) x ++ rest)[i]? = some x := by
        rw [Uv.uvf_small _ _ hs, List.append_assoc, List.getElem?_append_right (by omega), hp, Nat.sub_self]; rfl
      rw [num, hget, Uv.uvf_small _ _ hs]
      simp only
      rw [if_neg (by omega), if_neg (by omega), if_neg (by omega)]
      rfl
    · have hu := Uv.uvf_great g x (by omega)
      have hget : (pre ++ Uv.uvf (g + 1) x ++ rest)[i]? = some (x % 128 + 128) := by
        rw [hu, List.append_assoc, List.getElem?_append_right (by omega), hp, Nat.sub_self]; rfl
      rw [num, hget]
      simp only
      rw [if_neg (by omega), if_pos (by omega), hu]
      have := num_uvf g (i + 1) (x / 128) (pre ++ [x % 128 + 128]) rest (by simp [hp]) (by omega)
        (by
          refine Nat.lt_of_le_of_lt ?_ hx
          rw [Nat.pow_succ, Nat.mul_comm (128 ^ i), ← Nat.mul_assoc]
          exact Nat.mul_le_mul_right _ (Nat.div_mul_le_self _ _)) (.inr (by omega))
      rw [show pre ++ (x % 128 + 128) :: Uv.uvf g (x / 128) ++ rest = pre ++ [x % 128 + 128] ++ Uv.uvf g (x / 128) ++ rest by simp, this]
      simp only [List.length_cons, Prod.mk.injEq, and_true]
      omega
theorem val_uvf : ∀ (g x : Nat), x < 128 ^ (g + 1) → val (Uv.uvf g x) = x
  | 0, x, h => by
    simp only [Uv.uvf, val]
    simp at h
    omega
  | g + 1, x, h => by
    by_cases hs : x < 128
    · rw [Uv.uvf_small _ _ hs]; simp only [val]; omega
    · rw [Uv.uvf_great _ _ (by omega), val, val_uvf g (x / 128) (by rw [Nat.div_lt_iff_lt_mul (by omega)]; rw [Nat.pow_succ] at h; exact h)]
      omega
theorem num_uv (x : Nat) (hx : x < 18446744073709551616) (rest : List Nat) : num 10 0 (Uv.uv x ++ rest) = ((Uv.uv x).length, 0) := by
  have := num_uvf 9 0 x [] rest rfl rfl (by omega) (.inl rfl)
  rw [List.nil_append, Nat.zero_add] at this
  exact this
theorem val_uv (x : Nat) (hx : x < 18446744073709551616) : val (Uv.uv x) = x := val_uvf 9 x (by
  have e : (128 : Nat) ^ (9 + 1) = 1180591620717411303424 := by decide
  omega)
theorem take_drop_cons {l : List Nat} {i n x : Nat} (h : l[i]? = some x) (hn : i < n) : (l.take n).drop i = x :: (l.take n).drop (i + 1) := by
  have hg : (l.take n)[i]? = some x := by rw [List.getElem?_take, if_pos hn, h]
  rw [List.drop_eq_getElem?_toList_append, hg]
  rfl
/-- what is taken is made again -/
theorem uv_num : ∀ (g i n : Nat) (bs : List Nat), (∀ x ∈ bs, x < 256) → i + g = 9 → num (g + 1) i bs = (n, 0) →
    Uv.uvf g (val ((bs.take n).drop i)) = (bs.take n).drop i ∧ (0 < i → 0 < val ((bs.take n).drop i))
  | g, i, n, bs, hb, hi, h => by
    have hok := num_ok (by omega) h
    rw [num] at h
    cases hx : bs[i]? with
    | none => rw [hx] at h; simp at h
    | some x =>
      have hxb := hb x (List.mem_of_getElem? hx)
      rw [hx] at h
      simp only at h
      rw [take_drop_cons hx hok.1]
      split at h
      · simp at h
      · split at h
        · cases g with
          | zero => simp [num] at h
          | succ g =>
            obtain ⟨h1, h2⟩ := uv_num g (i + 1) n bs hb (by omega) h
            have h3 := h2 (by omega)
            rw [val]
            refine ⟨?_, fun _ => by omega⟩
            rw [Uv.uvf_great _ _ (by omega)]
            rw [show (x % 128 + 128 * val ((bs.take n).drop (i + 1))) / 128 = val ((bs.take n).drop (i + 1)) by omega, h1]
            congr 1
            omega
        · split at h
          · simp at h
          · simp only [Prod.mk.injEq, and_true] at h
            subst h
            have hnil : (bs.take (i + 1)).drop (i + 1) = [] := by
              apply List.drop_eq_nil_of_le
              rw [List.length_take]; omega
            rw [hnil]
            simp only [val]
            refine ⟨?_, fun _ => by omega⟩
            rw [Uv.uvf_small _ _ (by omega)]
            congr 1
            omega
theorem uv_of_num {n : Nat} {bs : List Nat} (hb : ∀ x ∈ bs, x < 256) (h : num 10 0 bs = (n, 0)) : Uv.uv (val (bs.take n)) = bs.take n := by
  have := (uv_num 9 0 n bs hb rfl h).1
  rw [List.drop_zero] at this
  exact this
end Go.Proofs.YtmkbbekeimnajaaDoor.Nm

/-! Rd2: a reader: one byte, some bytes, a number up to a bound, the end -/
namespace Go.Proofs.YtmkbbekeimnajaaDoor
open Go.RowKit
set_option maxRecDepth 100000 in
theorem byte_end (w : World) (p n : Nat) (bv : Value) (a : Addr) (hR : RdAt w p n bv n) (hn : n ≤ 140737488355328) (hE : ErrAt w 2 a) :
    Calls Tryd.prog 83 #[.pointer (some ⟨p, 0, none⟩)] w fun e w' => e = .returned (.tuple #[.int .u8 0, .iface 153 (.pointer (some a))]) ∧ ∃ q, w' = w.drewN q := by
  have HL := hide (left_any w p n n bv hR (Nat.le_refl _) (by omega))
  rw [show (n : Int) - n = 0 by omega] at HL
  obtain ⟨h0, h1, h2⟩ := cells3 hR
  unfold ErrAt at hE
  clear hR
  go_enter Tryd.func83, Tryd.ntmps83
  go_wp2_with fail
  refine HL.out.mono ?_
  rintro e w1 ⟨rfl, q, rfl⟩
  go_wp2_with fail
  go_quiet (fail)
  go_wp2_with fail
  go_ret2
  exact ⟨rfl, by rw [World.drewN_drewN]; exact ⟨_, rfl⟩⟩
theorem own_add (ad : Addr) (n cap : Nat) : (Value.slice (some ad) n cap).ownBlock = some ad.block := rfl
theorem src_same {w w' : World} {v : Value} {bs : List Nat} (h : Src w v bs) (hk : ∀ g, v.ownBlock = some g → w'.heap[g]? = w.heap[g]?) : Src w' v bs := by
  rcases h with ⟨h1, h2 | ⟨ad, cap, rfl, hl, hm, hc⟩⟩
  · exact ⟨h1, .inl h2⟩
  · refine ⟨h1, .inr ⟨ad, cap, rfl, hl, hm, fun k x hk2 => ?_⟩⟩
    rw [← hc k x hk2]
    exact World.cell?_of_block (by rw [show (ad.add k).block = ad.block by unfold Addr.add; split <;> rfl]; exact hk _ rfl)
theorem src_foot {w w' : World} {v : Value} {bs : List Nat} {S : Nat → Prop} (h : Src w v bs) (hf : Foot w w' S) (hlt : ∀ g, v.ownBlock = some g → g < w.heap.size ∧ ¬ S g) : Src w' v bs :=
  src_same h fun g hg => hf.block g (hlt g hg).1 (hlt g hg).2
set_option maxRecDepth 100000 in
set_option maxHeartbeats 1000000 in
theorem byte_ok (w : World) (p at_ n cap x : Nat) (ao : Option Addr) (bs : List Nat) (hR : RdAt w p at_ (.slice ao n cap) n) (hS : Src w (.slice ao n cap) bs) (hbl : bs.length = n) (hn : n ≤ 140737488355328) (hx : bs[at_]? = some x)
    (hlt : ∀ g, (Value.slice ao n cap).ownBlock = some g → g < w.heap.size ∧ g ≠ p) :
    Calls Tryd.prog 83 #[.pointer (some ⟨p, 0, none⟩)] w fun e w' => e = .returned (.tuple #[.int .u8 x, .nilIface]) ∧ RdAt w' p (at_ + 1) (.slice ao n cap) n ∧ Foot w w' (fun k => k = p) := by
  have hat : at_ < n := by rw [← hbl]; exact (List.getElem?_eq_some_iff.1 hx).1
  have HL := hide (left_any w p at_ n _ hR (by omega) (by omega))
  have hne : (((n : Int) - (at_ : Int)) == 0) = false := by simp; omega
  have HR := hide hR
  have HS := hide hS
  have HX := hide hx
  have HLT := hide hlt
  have HBL := hide hbl
  clear hR hS hx hlt hbl
  go_enter Tryd.func83, Tryd.ntmps83
  go_wp2_with fail
  refine HL.out.mono ?_
  rintro e w1 ⟨rfl, q, rfl⟩
  have HR1 := hide (rd_drew HR.out q)
  have HS1 := hide (src_drew HS.out q)
  have HF1 := hide ((Foot.refl w (fun k => k = p)).drewN q)
  have HLT1 := hide (show ∀ g, (Value.slice ao n cap).ownBlock = some g → g < (w.drewN q).heap.size ∧ g ≠ p from HLT.out)
  clear HL HR HS HLT
  generalize w.drewN q = w1 at *
  obtain ⟨h0, h1, h2⟩ := cells3 HR1.out
  have hf := free_at HR1.out 0
  have hwa : IntKind.i64.wrap ((at_ : Int) + 1) = ((at_ + 1 : Nat) : Int) := by rw [IntKind.wrap_i64]; omega
  have HR2 := hide (show RdAt (w1.setCell ⟨p, 0, none⟩ (.int .i64 ((at_ : Int) + 1))) p (at_ + 1) (.slice ao n cap) n from rd_set HR1.out (at_ + 1))
  have HF2 := hide (HF1.out.setCell ⟨p, 0, none⟩ (.int .i64 ((at_ : Int) + 1)) (.inl rfl))
  have HS2 := hide (src_same (w' := w1.setCell ⟨p, 0, none⟩ (.int .i64 ((at_ : Int) + 1))) HS1.out (fun g hg => Below.heap_setCell w1 ⟨p, 0, none⟩ _ g (HLT1.out g hg).2))
  go_upto_region 4 with (fail)
  generalize w1.setCell ⟨p, 0, none⟩ (.int .i64 ((at_ : Int) + 1)) = w2 at *
  clear h0 h1 h2 hf hwa
  obtain ⟨h0, h1, h2⟩ := cells3 HR2.out
  obtain ⟨ad, rfl, hc⟩ := src_cell HS2.out HX.out
  have hw3 : IntKind.i64.wrap (((at_ + 1 : Nat) : Int) - 1) = (at_ : Int) := by rw [IntKind.wrap_i64]; omega
  have hati : (at_ : Int) < (n : Int) := by omega
  go_quiet (fail)
  go_wp2_with fail
  go_ret2
  exact ⟨rfl, rd_drew HR2.out _, HF2.out.drewN _⟩
theorem splice_all {α : Type} (Z X : List α) (h : X.length = Z.length) : splice Z 0 X = X := by
  unfold splice
  rw [List.take_zero, List.nil_append, List.drop_eq_nil_of_le (by omega), List.append_nil]
theorem foot_then {w a w' : World} {S : Nat → Prop} (h : Foot w a S) (hb : Below w.heap.size a w') : Foot w w' S :=
  ⟨hb.os.trans h.os, hb.tape.trans h.tape, hb.output.trans h.output, Nat.le_trans h.size hb.size, fun k hk hs => (hb.block k hk).trans (h.block k hk hs)⟩
set_option maxRecDepth 100000 in
theorem raw_short (w : World) (p at_ n k : Nat) (bv : Value) (a : Addr) (hR : RdAt w p at_ bv n) (hat : at_ ≤ n) (hn : n ≤ 140737488355328) (hk : n < at_ + k) (hE : ErrAt w 2 a) :
    Calls Tryd.prog 85 #[.pointer (some ⟨p, 0, none⟩), .int .i64 (k : Nat)] w fun e w' => e = .returned (.tuple #[.slice none 0 0, .iface 153 (.pointer (some a))]) ∧ ∃ q, w' = w.drewN q := by
  have HL := hide (left_any w p at_ n bv hR hat (by omega))
  obtain ⟨h0, h1, h2⟩ := cells3 hR
  unfold ErrAt at hE
  have hlt : (n : Int) - (at_ : Int) < (k : Int) := by omega
  have hk0 : ¬ (k : Int) < 0 := by omega
  clear hR
  go_enter Tryd.func85, Tryd.ntmps85
  go_wp2_with fail
  refine HL.out.mono ?_
  rintro e w1 ⟨rfl, q, rfl⟩
  go_wp2_with fail
  go_quiet (fail)
  go_wp2_with fail
  go_ret2
  exact ⟨rfl, by rw [World.drewN_drewN]; exact ⟨_, rfl⟩⟩
set_option maxRecDepth 100000 in
set_option maxHeartbeats 2000000 in
theorem raw_ok (w : World) (p at_ n cap k : Nat) (ao : Option Addr) (bs : List Nat) (hR : RdAt w p at_ (.slice ao n cap) n) (hS : Src w (.slice ao n cap) bs) (hbl : bs.length = n) (hn : n ≤ 140737488355328) (hk : at_ + k ≤ n) (hk0 : 0 < k)
    (hlt : ∀ g, (Value.slice ao n cap).ownBlock = some g → g < w.heap.size ∧ g ≠ p) :
    Calls Tryd.prog 85 #[.pointer (some ⟨p, 0, none⟩), .int .i64 (k : Nat)] w fun e w' => ∃ g, e = .returned (.tuple #[.slice (some ⟨g, 0, none⟩) k k, .nilIface]) ∧ w.heap.size ≤ g ∧ w'.heap[g]? = some (.cells (u8s ((bs.drop at_).take k)).toArray 5 (0, 0)) ∧ RdAt w' p (at_ + k) (.slice ao n cap) n ∧ Foot w w' (fun k => k = p) := by
  have HL := hide (left_any w p at_ n _ hR (by omega) (by omega))
  obtain ⟨i0, hi, hz0, hz1, hz2⟩ := info_parts info5
  have hnl : ¬ (n : Int) - (at_ : Int) < (k : Int) := by omega
  have hkn : ¬ (k : Int) < 0 := by omega
  have hp := heap_lt hR
  have HR := hide hR
  have HS := hide hS
  have HLT := hide hlt
  have HBL := hide hbl
  clear hR hS hlt hbl
  go_enter Tryd.func85, Tryd.ntmps85
  go_wp2_with fail
  refine HL.out.mono ?_
  rintro e w1 ⟨rfl, q, rfl⟩
  have HR1 := hide (rd_drew HR.out q)
  have HS1 := hide (src_drew HS.out q)
  have HF1 := hide ((Foot.refl w (fun k => k = p)).drewN q)
  have HLT1 := hide (show ∀ g, (Value.slice ao n cap).ownBlock = some g → g < (w.drewN q).heap.size ∧ g ≠ p from HLT.out)
  have hz1' : (w.drewN q).heap.size = w.heap.size := rfl
  have HZ1 := hide hz1'
  have hp1 : p < (w.drewN q).heap.size := hp
  clear HL HR HS HLT hz1'
  generalize w.drewN q = w1 at *
  go_wp2_with (at_make; refine wpList_make_full _ rfl (.tmp 17) (.tmp 17) 46 rfl w1.heap.size 5 i0 (.int .u8 0) 1 Tryd.underlying46 hi hz0 hz1 _ _ _ _ k rfl rfl rfl rfl ?_ ?_ (Nat.le_refl _) ?_)
  case refine_1 => rw [hz2]; omega
  case refine_2 => unfold maxLen; omega
  intro w2 hown hg
  have hB := (Below.refl w1.heap.size w1).grown hg (Nat.le_refl _) (fun k hk => by cases hk)
  have hrow := row_full hown
  have hml : (madeCells #[Value.int IntKind.u8 0] k).toList.length = k := by simp [madeCells]
  generalize (madeCells #[Value.int IntKind.u8 0] k).toList = Z at hrow hml
  have HRW := hide hrow
  have HML := hide hml
  have HB2 := hide hB
  have HR2 := hide (show RdAt w2 p at_ (.slice ao n cap) n from (hB.block _ hp1).trans HR1.out)
  have HS2 := hide (src_keep HS1.out hB)
  have HF2 := hide (HF1.out.keep hB)
  have z2 := hB.size
  clear hown hg hB hrow hml
  obtain ⟨x, hx⟩ : ∃ x, bs[at_]? = some x := ⟨_, List.getElem?_eq_getElem (by rw [HBL.out]; omega)⟩
  obtain ⟨ad, rfl, _⟩ := src_cell HS2.out hx
  obtain ⟨h0, h1, h2⟩ := cells3 HR2.out
  have hcap : n ≤ cap ∧ cap ≤ 9223372036854775807 := by
    rcases HS2.out with ⟨_, ⟨hv, _⟩ | ⟨ad', c', hv, hl1, hl2, _⟩⟩
    · cases hv
    · simp only [Value.slice.injEq] at hv
      have := HBL.out
      omega
  have HPA := hide (src_part HS2.out at_ (at_ + k) (cap - at_) (by omega) (by rw [HBL.out]; exact hk) (by omega) (by omega))
  have hati : (at_ : Int) ≤ (n : Int) := by omega
  have hatc : (at_ : Int) < (cap : Int) := by omega
  have hcne : ¬ cap = at_ := by omega
  clear hx
  go_wp2_with fail
  refine wp_region_still_tail 11 (by kernel_rfl) (by kernel_rfl) ?_
  simp only [List.take_succ_cons, List.take_zero, List.drop_succ_cons, List.drop_zero]
  repeat still_step
  refine wpStill_nil ?_
  have hcl : (u8s ((bs.take (at_ + k)).drop at_)).length = k := by rw [u8s_len, List.length_drop, List.length_take, HBL.out]; omega
  have HCL := hide hcl
  have hin : (bs.take (at_ + k)).drop at_ = (bs.drop at_).take k := by rw [List.drop_take, Nat.add_sub_cancel_left]
  have HIN := hide hin
  have hsz : w1.heap.size = w.heap.size := HZ1.out
  have HSZ := hide hsz
  have HR2' := hide (rd_drew HR2.out 1)
  clear hcl hin hsz h0 h1 h2
  have HCE := hide (show ∀ (j : Nat) (u : Value), (u8s ((bs.take (at_ + k)).drop at_))[j]? = some u → w2.cell? ((ad.add at_).add j) = some u from fun j u hu => by
    rcases HPA.out with ⟨_, ⟨hv, _⟩ | ⟨ad', c', hv, _, _, hc⟩⟩
    · cases hv
    · simp only [Value.slice.injEq, Option.some.injEq] at hv
      obtain ⟨rfl, _, _⟩ := hv
      simp only [u8s, List.getElem?_map, Option.map_eq_some_iff] at hu
      obtain ⟨y, hy, rfl⟩ := hu
      exact hc j y hy)
  go_wp2_with (refine wpList_copy_splice rfl (.tmp 19) (.tmp 29) 46 46 rfl 5 Tryd.underlying46 size5 (some ⟨w1.heap.size, 0, none⟩) (some (ad.add at_)) k k (n - at_) (cap - at_) rfl rfl w1.heap.size 0 Z 5 HRW.out (u8s ((bs.take (at_ + k)).drop at_)) ?_ ?_ ?_ ?_ w1.heap.size w2.drew (Below.refl _ _) (Nat.le_refl _) ?_)
  case refine_1 => rw [HCL.out]; exact (Nat.min_eq_right (by omega)).symm
  case refine_2 => first | exact fun _ => ⟨rfl, _, rfl, HCE.out⟩ | exact fun _ => HCE.out | exact HCE.out
  case refine_3 => rw [HCL.out, HML.out]; omega
  case refine_4 => exact u8s_one _
  intro w3 hR3 hB3
  have HB3 := hide hB3
  have HRW3 := hide (show w3.heap[w1.heap.size]? = some (.cells (u8s ((bs.drop at_).take k)).toArray 5 (0, 0)) from by
    have h := hR3.out
    have hs := splice_all Z (u8s ((bs.take (at_ + k)).drop at_)) (by rw [HCL.out, HML.out])
    rw [hs, HIN.out] at h
    exact h)
  have HR3 := hide (show RdAt w3 p at_ (.slice (some ad) n cap) n from (hB3.block p hp1).trans HR2'.out)
  have HF3 := hide (foot_then (HF2.out.drew) (by rw [← HSZ.out]; exact hB3))
  obtain ⟨h0, h1, h2⟩ := cells3 HR3.out
  have hf := free_at HR3.out 0
  have hwa : IntKind.i64.wrap ((at_ : Int) + (k : Int)) = ((at_ + k : Nat) : Int) := by rw [IntKind.wrap_i64]; omega
  have hpg : p ≠ w1.heap.size := by omega
  have hFin1 := hide (show (w3.setCell ⟨p, 0, none⟩ (.int .i64 ((at_ + k : Nat) : Int))).heap[w1.heap.size]? = some (.cells (u8s ((bs.drop at_).take k)).toArray 5 (0, 0)) from heap_else HRW3.out (fun e => hpg e.symm) _)
  have hFin2 := hide (show RdAt (w3.setCell ⟨p, 0, none⟩ (.int .i64 ((at_ + k : Nat) : Int))) p (at_ + k) (.slice (some ad) n cap) n from rd_set HR3.out (at_ + k))
  have hFin3 := hide (HF3.out.setCell ⟨p, 0, none⟩ (.int .i64 ((at_ + k : Nat) : Int)) (.inl rfl))
  clear hR3 hB3
  go_wp2_with fail
  go_ret2
  exact ⟨w1.heap.size, rfl, by rw [HSZ.out]; exact Nat.le_refl _, hFin1.out, hFin2.out, hFin3.out⟩
end Go.Proofs.YtmkbbekeimnajaaDoor
