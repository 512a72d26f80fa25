/- the reference's number, from a place on -/
import Derived.Test.YtbimpoabiafdaaaDoorRn
namespace Go.Proofs.YtbimpoabiafdaaaDoor
open Go.RowKit Vf

/-- what GetUvarint answers -/
def GetOut (a : Nat) (bs : List Nat) (e : Ending) : Prop :=
  ((Nm.num 10 0 bs).2 = 0 ∧ e = .returned (.tuple #[.int .u64 (Nm.val (bs.take (Nm.num 10 0 bs).1) : Nat), .int .i64 ((a : Int) + (Nm.num 10 0 bs).1), .int .i64 0])) ∨
  ((Nm.num 10 0 bs).2 ≠ 0 ∧ e = .returned (.tuple #[.int .u64 0, .int .i64 a, .int .i64 ((Nm.num 10 0 bs).2 : Nat)]))
theorem wrap_val (y a b : Nat) (h : b = y % 128 + 128 * a) (hb : b < 18446744073709551616) : IntKind.u64.wrap (IntKind.u64.wrap (128 * (a : Int)) + (y : Int) % 128) = (b : Int) := by
  have h1 : IntKind.u64.wrap (128 * (a : Int)) = 128 * (a : Int) := by rw [IntKind.wrap_u64]; omega
  rw [h1, IntKind.wrap_u64]
  omega
theorem Tryd.results41 : Tryd.f41.results = #[.tmp 4, .tmp 5, .tmp 6] := rfl
set_option maxRecDepth 100000 in
set_option maxHeartbeats 4000000 in
theorem get_uvarint (w : World) (v : Value) (bs t : List Nat) (a : Nat) (ht : t = bs.drop a) (ha : a ≤ bs.length) (hs : Src w v bs) (hl : bs.length ≤ 140737488355328) :
    Calls Tryd.prog 41 #[v, .int .i64 a] w fun e w' => GetOut a t e ∧ w = w' := by
  obtain ⟨ao, cap, rfl⟩ := src_form hs
  have HS := hide hs
  have htl : t.length = bs.length - a := by rw [ht, List.length_drop]
  have HG := hide (show ∀ i, t[i]? = bs[a + i]? from fun i => by rw [ht, List.getElem?_drop])
  clear hs ht
  go_enter Tryd.func41, Tryd.ntmps41
  go_wp2_with fail
  go_loopw [7] (fun c wr => ∃ i : Nat, i ≤ 9 ∧ c = .int .i64 i ∧ Nm.num 10 0 t = Nm.num (10 - i) i t ∧ wr = w) (fun c _ => 12 - (intOf c).toNat)
  case atStart => exact ⟨0, by omega, rfl, rfl, rfl⟩
  case round =>
    obtain ⟨i, hi, rfl, hnum, rfl⟩ := hrel
    have HN := hide hnum
    clear hnum
    have hw0 : IntKind.i64.wrap ((a : Int) + i) = (a : Int) + i := by rw [IntKind.wrap_i64]; omega
    have hw1 : IntKind.i64.wrap ((i : Int) + 1) = (i : Int) + 1 := by rw [IntKind.wrap_i64]; omega
    by_cases hlt : i < t.length
    · obtain ⟨x, hx⟩ : ∃ x, t[i]? = some x := ⟨_, List.getElem?_eq_getElem hlt⟩
      have HX := hide hx
      have hxb : bs[a + i]? = some x := (HG.out i).symm.trans hx
      have hx256 := HS.out.1 x (List.mem_of_getElem? hxb)
      obtain ⟨ad, rfl, hxc⟩ := src_cell HS.out hxb
      have hstep : Nm.num (10 - i) i t = if i = 9 ∧ 1 < x then (0, 2) else if 128 ≤ x then Nm.num (10 - (i + 1)) (i + 1) t else if x = 0 ∧ 0 < i then (0, 2) else (i + 1, 0) := by
        rw [show 10 - i = (9 - i) + 1 by omega, Nm.num, hx, show 10 - (i + 1) = 9 - i by omega]
      have HST := hide (HN.out.trans hstep)
      clear hx hstep hxb
      have c1 : (a : Int) + (i : Int) < bs.length := by omega
      have c2 : a + i < bs.length := by omega
      by_cases hA : i = 9 ∧ 1 < x
      · have hr : Nm.num 10 0 t = (0, 2) := by rw [HST.out, if_pos hA]
        have HRR := hide hr
        have hx2 : 1 < (x : Int) := by omega
        have e1 : ((i : Int) + 1 == 10) = true := by simp; omega
        have e3 : ((i : Int) + 1 = 10) = True := by simp; omega
        clear hr hA
        go_wp2_with fail
        go_ret3
        exact ⟨.inr ⟨by rw [HRR.out]; decide, by rw [HRR.out]; rfl⟩, rfl⟩
      · by_cases hC : 128 ≤ x
        · have hi8 : (i : Int) + 1 ≠ 10 := by omega
          have hi9 : i ≤ 8 := by omega
          have e1 : ((i : Int) + 1 == 10) = false := by simp; omega
          have e3 : ((i : Int) + 1 = 10) = False := by simp; omega
          have e2 : ¬ (x : Int) < 128 := by omega
          have hr : Nm.num 10 0 t = Nm.num (10 - (i + 1)) (i + 1) t := by rw [HST.out, if_neg hA, if_pos hC]
          have HRR := hide hr
          clear hr
          go_wp2_with fail
          exact ⟨⟨i + 1, by omega, by simp, HRR.out, trivial⟩, by simp [intOf]; omega⟩
        · have e2 : (x : Int) < 128 := by omega
          by_cases hD : x = 0 ∧ 0 < i
          · obtain ⟨rfl, hi0⟩ := hD
            have hr : Nm.num 10 0 t = (0, 2) := by rw [HST.out, if_neg hA, if_neg hC, if_pos ⟨rfl, hi0⟩]
            have HRR := hide hr
            have hi1 : 1 < (i : Int) + 1 := by omega
            clear hr
            by_cases h9 : i = 9
            · have e1 : ((i : Int) + 1 == 10) = true := by simp; omega
              have e3 : ((i : Int) + 1 = 10) = True := by simp; omega
              clear h9
              go_wp2_with fail
              all_goals (go_ret3; exact ⟨.inr ⟨by rw [HRR.out]; decide, by rw [HRR.out]; rfl⟩, rfl⟩)
            · have e1 : ((i : Int) + 1 == 10) = false := by simp; omega
              have e3 : ((i : Int) + 1 = 10) = False := by simp; omega
              go_wp2_with fail
              go_ret3
              exact ⟨.inr ⟨by rw [HRR.out]; decide, by rw [HRR.out]; rfl⟩, rfl⟩
          · have hr : Nm.num 10 0 t = (i + 1, 0) := by rw [HST.out, if_neg hA, if_neg hC, if_neg hD]
            have HRR := hide hr
            have HVL := hide (Nm.val_ok hr)
            clear hr
            by_cases h9 : i = 9
            · have e1 : ((i : Int) + 1 == 10) = true := by simp; omega
              have e3 : ((i : Int) + 1 = 10) = True := by simp; omega
              have hx1 : x = 1 := by omega
              subst hx1
              have hil : 1 < (i : Int) + 1 := by omega
              clear h9
              go_wp2_with fail
              go_loopw [9, 10] (fun v c wq => ∃ j : Nat, j ≤ i + 1 ∧ c = .int .i64 ((j : Int) - 1) ∧ v = .int .u64 (Nm.val ((t.take (i + 1)).drop j) : Nat) ∧ wq = wr) (fun _ c _ => (intOf c + 1).toNat)
              case atStart => exact ⟨i + 1, by omega, by simp, by rw [show (t.take (i + 1)).drop (i + 1) = [] from List.drop_eq_nil_of_le (by rw [List.length_take]; omega)]; rfl, rfl⟩
              case round =>
                obtain ⟨j, hj, rfl, rfl, rfl⟩ := hrel
                cases j with
                | zero =>
                  go_wp2_with fail
                  go_ret3
                  exact ⟨.inl ⟨by rw [HRR.out], by rw [HRR.out]; simp⟩, rfl⟩
                | succ j =>
                  obtain ⟨y, hy⟩ : ∃ y, t[j]? = some y := ⟨_, List.getElem?_eq_getElem (by omega)⟩
                  have hy2 : (t.take (i + 1))[j]? = some y := by rw [List.getElem?_take, if_pos (by omega)]; exact hy
                  have hd := Nm.val_drop hy2
                  have hle := Nm.val_drop_le (t.take (i + 1)) j
                  obtain ⟨ad', ha', hyc⟩ := src_cell HS.out ((HG.out j).symm.trans hy)
                  obtain rfl := Option.some.inj ha'
                  have HD := hide hd
                  have HLE := hide hle
                  clear hd hle hy2 ha' hy
                  have hw5 : IntKind.i64.wrap ((a : Int) + j) = (a : Int) + j := by rw [IntKind.wrap_i64]; omega
                  have haj : a + j < bs.length := by omega
                  have HW := hide (wrap_val y (Nm.val ((t.take (i + 1)).drop (j + 1))) (Nm.val ((t.take (i + 1)).drop j)) HD.out (by have := HLE.out; have := HVL.out; omega))
                  go_wp2_with fail
                  exact ⟨⟨j, by omega, rfl, by rw [HW.out], trivial⟩, by simp [intOf]⟩
            · have e1 : ((i : Int) + 1 == 10) = false := by simp; omega
              have e3 : ((i : Int) + 1 = 10) = False := by simp; omega
              by_cases hx0 : x = 0
              · have hi0 : i = 0 := by omega
                subst hx0
                have hil : ¬ 1 < (i : Int) + 1 := by omega
                have hil2 : (i : Int) + 1 ≤ 1 := by omega
                clear hi0
                go_wp2_with fail
                go_loopw [9, 10] (fun v c wq => ∃ j : Nat, j ≤ i + 1 ∧ c = .int .i64 ((j : Int) - 1) ∧ v = .int .u64 (Nm.val ((t.take (i + 1)).drop j) : Nat) ∧ wq = wr) (fun _ c _ => (intOf c + 1).toNat)
                case atStart => exact ⟨i + 1, by omega, by simp, by rw [show (t.take (i + 1)).drop (i + 1) = [] from List.drop_eq_nil_of_le (by rw [List.length_take]; omega)]; rfl, rfl⟩
                case round =>
                  obtain ⟨j, hj, rfl, rfl, rfl⟩ := hrel
                  cases j with
                  | zero =>
                    go_wp2_with fail
                    go_ret3
                    exact ⟨.inl ⟨by rw [HRR.out], by rw [HRR.out]; simp⟩, rfl⟩
                  | succ j =>
                    obtain ⟨y, hy⟩ : ∃ y, t[j]? = some y := ⟨_, List.getElem?_eq_getElem (by omega)⟩
                    have hy2 : (t.take (i + 1))[j]? = some y := by rw [List.getElem?_take, if_pos (by omega)]; exact hy
                    have hd := Nm.val_drop hy2
                    have hle := Nm.val_drop_le (t.take (i + 1)) j
                    obtain ⟨ad', ha', hyc⟩ := src_cell HS.out ((HG.out j).symm.trans hy)
                    obtain rfl := Option.some.inj ha'
                    have HD := hide hd
                    have HLE := hide hle
                    clear hd hle hy2 ha' hy
                    have hw5 : IntKind.i64.wrap ((a : Int) + j) = (a : Int) + j := by rw [IntKind.wrap_i64]; omega
                    have haj : a + j < bs.length := by omega
                    have HW := hide (wrap_val y (Nm.val ((t.take (i + 1)).drop (j + 1))) (Nm.val ((t.take (i + 1)).drop j)) HD.out (by have := HLE.out; have := HVL.out; omega))
                    go_wp2_with fail
                    exact ⟨⟨j, by omega, rfl, by rw [HW.out], trivial⟩, by simp [intOf]⟩
              · have ex : ((x : Int) == 0) = false := by simp; omega
                have ex2 : ((x : Int) = 0) = False := by simp; omega
                go_wp2_with fail
                go_loopw [9, 10] (fun v c wq => ∃ j : Nat, j ≤ i + 1 ∧ c = .int .i64 ((j : Int) - 1) ∧ v = .int .u64 (Nm.val ((t.take (i + 1)).drop j) : Nat) ∧ wq = wr) (fun _ c _ => (intOf c + 1).toNat)
                case atStart => exact ⟨i + 1, by omega, by simp, by rw [show (t.take (i + 1)).drop (i + 1) = [] from List.drop_eq_nil_of_le (by rw [List.length_take]; omega)]; rfl, rfl⟩
                case round =>
                  obtain ⟨j, hj, rfl, rfl, rfl⟩ := hrel
                  cases j with
                  | zero =>
                    go_wp2_with fail
                    go_ret3
                    exact ⟨.inl ⟨by rw [HRR.out], by rw [HRR.out]; simp⟩, rfl⟩
                  | succ j =>
                    obtain ⟨y, hy⟩ : ∃ y, t[j]? = some y := ⟨_, List.getElem?_eq_getElem (by omega)⟩
                    have hy2 : (t.take (i + 1))[j]? = some y := by rw [List.getElem?_take, if_pos (by omega)]; exact hy
                    have hd := Nm.val_drop hy2
                    have hle := Nm.val_drop_le (t.take (i + 1)) j
                    obtain ⟨ad', ha', hyc⟩ := src_cell HS.out ((HG.out j).symm.trans hy)
                    obtain rfl := Option.some.inj ha'
                    have HD := hide hd
                    have HLE := hide hle
                    clear hd hle hy2 ha' hy
                    have hw5 : IntKind.i64.wrap ((a : Int) + j) = (a : Int) + j := by rw [IntKind.wrap_i64]; omega
                    have haj : a + j < bs.length := by omega
                    have HW := hide (wrap_val y (Nm.val ((t.take (i + 1)).drop (j + 1))) (Nm.val ((t.take (i + 1)).drop j)) HD.out (by have := HLE.out; have := HVL.out; omega))
                    go_wp2_with fail
                    exact ⟨⟨j, by omega, rfl, by rw [HW.out], trivial⟩, by simp [intOf]⟩
    · have hr : Nm.num 10 0 t = (0, 1) := by
        rw [HN.out, show 10 - i = (9 - i) + 1 by omega, Nm.num, List.getElem?_eq_none (by omega)]
      have HRR := hide hr
      have c1 : (bs.length : Int) ≤ (a : Int) + (i : Int) := by omega
      clear hr
      go_wp2_with fail
      go_ret3
      exact ⟨.inr ⟨by rw [HRR.out]; decide, by rw [HRR.out]; rfl⟩, rfl⟩
end Go.Proofs.YtbimpoabiafdaaaDoor
