/- the reference's number -/
import Derived.Test.YtgebekklkodpaaaDoorRdNum
import Derived.OwnWalk
namespace Go.Proofs.YtgebekklkodpaaaDoor
open Go.RowKit

/-- what number answers -/
def RefNumOut (bs : List Nat) (e : Ending) : Prop :=
  ((Nm.num 10 0 bs).2 = 0 ∧ e = .returned (.tuple #[.int .u64 (Nm.val (bs.take (Nm.num 10 0 bs).1) : Nat), .int .i64 ((Nm.num 10 0 bs).1 : Nat), .int .i64 0])) ∨
  ((Nm.num 10 0 bs).2 = 1 ∧ e = .returned (.tuple #[.int .u64 0, .int .i64 0, .int .i64 1])) ∨
  ((Nm.num 10 0 bs).2 = 2 ∧ e = .returned (.tuple #[.int .u64 0, .int .i64 0, .int .i64 2]))

theorem Tryd.results69 : Tryd.f69.results = #[.tmp 2, .tmp 3, .tmp 4] := rfl
theorem wrap_val (y a b : Nat) (h : b = y % 128 + 128 * a) (hb : b < 18446744073709551616) : IntKind.u64.wrap (IntKind.u64.wrap ((a : Int) * 128) + (y : Int) % 128) = (b : Int) := by
  have h1 : IntKind.u64.wrap ((a : Int) * 128) = (a : Int) * 128 := by rw [IntKind.wrap_u64]; omega
  rw [h1, IntKind.wrap_u64]
  omega
set_option maxRecDepth 100000 in
set_option maxHeartbeats 4000000 in
theorem ref_number (w : World) (v : Value) (bs : List Nat) (hs : Src w v bs) (hl : bs.length ≤ 140737488355328) :
    Calls Tryd.prog 69 #[v] w fun e w' => RefNumOut bs e ∧ w = w' := by
  obtain ⟨ao, cap, rfl⟩ := src_form hs
  have HS := hide hs
  clear hs
  go_enter Tryd.func69, Tryd.ntmps69
  go_wp2_with fail
  go_loopw [5] (fun c wr => ∃ i : Nat, i ≤ 10 ∧ c = .int .i64 ((i : Int) + 1) ∧ Nm.num 10 0 bs = Nm.num (10 - i) i bs ∧ wr = w) (fun c _ => 12 - (intOf c).toNat)
  case atStart => exact ⟨0, by omega, rfl, rfl, rfl⟩
  case round =>
    obtain ⟨i, hi, rfl, hnum, rfl⟩ := hrel
    have HN := hide hnum
    clear hnum
    have hw1 : IntKind.i64.wrap ((i : Int) + 1 - 1) = (i : Int) := by rw [IntKind.wrap_i64]; omega
    have hw2 : IntKind.i64.wrap ((i : Int) + 1 + 1) = (i : Int) + 1 + 1 := by rw [IntKind.wrap_i64]; omega
    by_cases hlt : i < bs.length ∧ i < 10
    · obtain ⟨hlt, hi10⟩ := hlt
      obtain ⟨x, hx⟩ : ∃ x, bs[i]? = some x := ⟨_, List.getElem?_eq_getElem hlt⟩
      have HX := hide hx
      have hx256 := HS.out.1 x (List.mem_of_getElem? hx)
      obtain ⟨ad, rfl, hxc⟩ := src_cell HS.out hx
      have hstep : Nm.num (10 - i) i bs = if i = 9 ∧ 1 < x then (0, 2) else if 128 ≤ x then Nm.num (10 - (i + 1)) (i + 1) bs else if x = 0 ∧ 0 < i then (0, 2) else (i + 1, 0) := by
        rw [show 10 - i = (9 - i) + 1 by omega, Nm.num, hx, show 10 - (i + 1) = 9 - i by omega]
      have HST := hide (HN.out.trans hstep)
      clear hx hstep
      have c1 : (i : Int) + 1 ≤ bs.length := by omega
      have c2 : (i : Int) + 1 ≤ 10 := by omega
      by_cases hA : i = 9 ∧ 1 < x
      · obtain ⟨rfl, hx1⟩ := hA
        have hr : Nm.num 10 0 bs = (0, 2) := by rw [HST.out, if_pos ⟨rfl, hx1⟩]
        have HRR := hide hr
        have hx2 : 1 < (x : Int) := by omega
        have hx3 : 9 < bs.length := hlt
        have hxc9 : wr.cell? { block := ad.block, off := ad.off + 9 } = some (.int .u8 (x : Int)) := hxc
        clear hr
        go_wp2
        all_goals (refine bodyPost_ret (results_tmp3 (t := 2) (u := 3) (v := 4) (Tryd.results69) _ _ _) rfl ?_; exact ⟨.inr (.inr ⟨by rw [HRR.out], rfl⟩), rfl⟩)
      · by_cases hC : 128 ≤ x
        · have hi8 : (i : Int) + 1 < 10 := by omega
          have e2 : 128 ≤ (x : Int) := by omega
          have hr : Nm.num 10 0 bs = Nm.num (10 - (i + 1)) (i + 1) bs := by rw [HST.out, if_neg hA, if_pos hC]
          have HRR := hide hr
          clear hr
          go_wp2_with fail
          exact ⟨⟨i + 1, by omega, by simp, HRR.out, trivial⟩, by simp [intOf]; omega⟩
        · by_cases hD : x = 0 ∧ 0 < i
          · obtain ⟨rfl, hi0⟩ := hD
            have hr : Nm.num 10 0 bs = (0, 2) := by rw [HST.out, if_neg hA, if_neg hC, if_pos ⟨rfl, hi0⟩]
            have HRR := hide hr
            have hi1 : 0 < (i : Int) := by omega
            clear hr
            by_cases h9 : i = 9
            · subst h9
              have hx3 : 9 < bs.length := hlt
              have hxc9 : wr.cell? { block := ad.block, off := ad.off + 9 } = some (.int .u8 0) := hxc
              go_wp2
              all_goals (refine bodyPost_ret (results_tmp3 (t := 2) (u := 3) (v := 4) Tryd.results69 _ _ _) rfl ?_; exact ⟨.inr (.inr ⟨by rw [HRR.out], rfl⟩), rfl⟩)
            · have e1 : ((i : Int) + 1 == 10) = false := by simp; omega
              have e3 : ((i : Int) = 9) = False := by simp; omega
              go_wp2
              go_ret3
              exact ⟨.inr (.inr ⟨by rw [HRR.out], rfl⟩), rfl⟩
          · have hr : Nm.num 10 0 bs = (i + 1, 0) := by rw [HST.out, if_neg hA, if_neg hC, if_neg hD]
            have HRR := hide hr
            have HVL := hide (Nm.val_ok hr)
            have hlx : x < 128 := by omega
            clear hr
            by_cases h9 : i = 9
            · subst h9
              have hx1 : ¬ 1 < x := fun h => hA ⟨rfl, h⟩
              have hx0 : x ≠ 0 := fun h => hD ⟨h, by decide⟩
              have hx3 : 9 < bs.length := hlt
              obtain rfl : x = 1 := by omega
              have hxc9 : wr.cell? { block := ad.block, off := ad.off + 9 } = some (.int .u8 1) := hxc
              go_wp2_with fail
              go_loopw [6, 7] (fun v c wq => ∃ j : Nat, j ≤ 10 ∧ c = .int .i64 ((j : Int) - 1) ∧ v = .int .u64 (Nm.val ((bs.take (10)).drop j) : Nat) ∧ wq = wr) (fun _ c _ => (intOf c + 1).toNat)
              case atStart => exact ⟨10, by omega, rfl, by rw [show (bs.take (10)).drop (10) = [] from List.drop_eq_nil_of_le (by rw [List.length_take]; omega)]; rfl, rfl⟩
              case round =>
                obtain ⟨j, hj, rfl, rfl, rfl⟩ := hrel
                cases j with
                | zero =>
                  go_wp2
                  go_ret3
                  exact ⟨.inl ⟨by rw [HRR.out], by rw [HRR.out]; rfl⟩, rfl⟩
                | succ j =>
                  obtain ⟨y, hy⟩ : ∃ y, bs[j]? = some y := ⟨_, List.getElem?_eq_getElem (by omega)⟩
                  have hy2 : (bs.take (10))[j]? = some y := by rw [List.getElem?_take, if_pos (by omega)]; exact hy
                  have hd := Nm.val_drop hy2
                  have hle := Nm.val_drop_le (bs.take (10)) j
                  obtain ⟨ad', ha, hyc⟩ := src_cell HS.out hy
                  obtain rfl := Option.some.inj ha
                  have HD := hide hd
                  have HLE := hide hle
                  clear hd hle hy2 ha hy
                  have HW := hide (wrap_val y (Nm.val ((bs.take 10).drop (j + 1))) (Nm.val ((bs.take 10).drop j)) HD.out (by have := HLE.out; have := HVL.out; simp only [Nat.reduceAdd] at *; omega))
                  go_wp2_with fail
                  exact ⟨⟨j, by omega, rfl, by rw [HW.out], trivial⟩, by simp [intOf]⟩
            · have e1 : ((i : Int) + 1 == 10) = false := by simp; omega
              have e3 : ((i : Int) = 9) = False := by simp; omega
              by_cases hi0 : i = 0
              · subst hi0
                have hxc0 : wr.cell? ad = some (.int .u8 (x : Int)) := by have := hxc; rw [Addr.add_zero'] at this; exact this
                go_wp2_with fail
                go_loopw [6, 7] (fun v c wq => ∃ j : Nat, j ≤ 1 ∧ c = .int .i64 ((j : Int) - 1) ∧ v = .int .u64 (Nm.val ((bs.take 1).drop j) : Nat) ∧ wq = wr) (fun _ c _ => (intOf c + 1).toNat)
                case atStart => exact ⟨1, by omega, rfl, by rw [show (bs.take 1).drop 1 = [] from List.drop_eq_nil_of_le (by rw [List.length_take]; omega)]; rfl, rfl⟩
                case round =>
                  obtain ⟨j, hj, rfl, rfl, rfl⟩ := hrel
                  cases j with
                  | zero =>
                    go_wp2
                    go_ret3
                    exact ⟨.inl ⟨by rw [HRR.out], by rw [HRR.out]; rfl⟩, rfl⟩
                  | succ j =>
                    obtain ⟨y, hy⟩ : ∃ y, bs[j]? = some y := ⟨_, List.getElem?_eq_getElem (by omega)⟩
                    have hy2 : (bs.take 1)[j]? = some y := by rw [List.getElem?_take, if_pos (by omega)]; exact hy
                    have hd := Nm.val_drop hy2
                    have hle := Nm.val_drop_le (bs.take 1) j
                    obtain ⟨ad', ha, hyc⟩ := src_cell HS.out hy
                    obtain rfl := Option.some.inj ha
                    have HD := hide hd
                    have HLE := hide hle
                    clear hd hle hy2 ha hy
                    have HW := hide (wrap_val y (Nm.val ((bs.take 1).drop (j + 1))) (Nm.val ((bs.take 1).drop j)) HD.out (by have := HLE.out; have h2 : Nm.val (bs.take 1) < 18446744073709551616 := HVL.out; omega))
                    go_wp2_with fail
                    exact ⟨⟨j, by omega, rfl, by rw [HW.out], trivial⟩, by simp [intOf]⟩
              · have ex : ((x : Int) == 0) = false := by simp; omega
                have ex2 : ((x : Int) = 0) = False := by simp; omega
                have hi1 : 0 < (i : Int) := by omega
                go_wp2_with fail
                go_loopw [6, 7] (fun v c wq => ∃ j : Nat, j ≤ i + 1 ∧ c = .int .i64 ((j : Int) - 1) ∧ v = .int .u64 (Nm.val ((bs.take (i + 1)).drop j) : Nat) ∧ wq = wr) (fun _ c _ => (intOf c + 1).toNat)
                case atStart => exact ⟨i + 1, by omega, by simp, by rw [show (bs.take (i + 1)).drop (i + 1) = [] from List.drop_eq_nil_of_le (by rw [List.length_take]; omega)]; rfl, rfl⟩
                case round =>
                  obtain ⟨j, hj, rfl, rfl, rfl⟩ := hrel
                  cases j with
                  | zero =>
                    go_wp2
                    go_ret3
                    exact ⟨.inl ⟨by rw [HRR.out], by rw [HRR.out]; rfl⟩, rfl⟩
                  | succ j =>
                    obtain ⟨y, hy⟩ : ∃ y, bs[j]? = some y := ⟨_, List.getElem?_eq_getElem (by omega)⟩
                    have hy2 : (bs.take (i + 1))[j]? = some y := by rw [List.getElem?_take, if_pos (by omega)]; exact hy
                    have hd := Nm.val_drop hy2
                    have hle := Nm.val_drop_le (bs.take (i + 1)) j
                    obtain ⟨ad', ha, hyc⟩ := src_cell HS.out hy
                    obtain rfl := Option.some.inj ha
                    have HD := hide hd
                    have HLE := hide hle
                    clear hd hle hy2 ha hy
                    have HW := hide (wrap_val y (Nm.val ((bs.take (i + 1)).drop (j + 1))) (Nm.val ((bs.take (i + 1)).drop j)) HD.out (by have := HLE.out; have := HVL.out; omega))
                    go_wp2_with fail
                    exact ⟨⟨j, by omega, rfl, by rw [HW.out], trivial⟩, by simp [intOf]⟩
    · have hr : Nm.num 10 0 bs = (0, 1) := by
        rw [HN.out]
        by_cases hi10 : i = 10
        · subst hi10; rfl
        · rw [show 10 - i = (9 - i) + 1 by omega, Nm.num, List.getElem?_eq_none (by omega)]
      have HRR := hide hr
      clear hr
      by_cases c1 : (i : Int) + 1 ≤ bs.length
      · have c2 : ¬ (i : Int) + 1 ≤ 10 := by omega
        go_wp2
        go_ret3
        exact ⟨.inr (.inl ⟨by rw [HRR.out], rfl⟩), rfl⟩
      · go_wp2
        go_ret3
        exact ⟨.inr (.inl ⟨by rw [HRR.out], rfl⟩), rfl⟩
end Go.Proofs.YtgebekklkodpaaaDoor
