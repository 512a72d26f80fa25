/- sums of a list and of its copy; lists of numbers; the reference's Scan -/
import Derived.Test.YtgebekklkodpaaaDoorUn
import Derived.Test.YtgebekklkodpaaaDoorStr
namespace Go.Proofs.YtgebekklkodpaaaDoor
open Go.RowKit

set_option maxRecDepth 100000 in
/-- the law's 'sums' -/
theorem sums_any (w : World) (Z : Zip w) (S : SealT w) (va vb : Value) (bs : List Nat) (ha : Src w va bs) (hb : Src w vb bs) (hl : bs.length ≤ 9223372036854775807) :
    Calls Tryd.prog 38 #[va, vb] w fun e w' => e = .returned (.bool true) ∧ w = w' := by
  obtain ⟨a1, c1, rfl⟩ := src_form ha
  obtain ⟨a2, c2, rfl⟩ := src_form hb
  have H1 := hide (sum_any w Z _ bs ha hl)
  have H2 := hide (ref_sum w _ bs hb hl)
  have H3 := hide (seal_any w S _ bs ha hl)
  have H4 := hide (ref_seal w _ bs hb hl)
  have H5 := hide (extend_any w Z 7 (by omega) _ bs ha hl)
  have H6 := hide (ref_extend w 7 (by omega) _ bs hb hl)
  clear Z S ha hb
  generalize sum bs = s1 at H1 H2
  generalize seal_ bs = s2 at H3 H4
  generalize ext 7 bs = s3 at H5 H6
  go_enter Tryd.func38, Tryd.ntmps38
  go_wp2_with fail
  refine H1.out.mono ?_
  rintro e w' ⟨rfl, rfl⟩
  go_wp2_with fail
  refine H2.out.mono ?_
  rintro e w' ⟨rfl, rfl⟩
  go_wp2_with fail
  refine H3.out.mono ?_
  rintro e w' ⟨rfl, rfl⟩
  go_wp2_with fail
  refine H4.out.mono ?_
  rintro e w' ⟨rfl, rfl⟩
  go_wp2_with fail
  refine H5.out.mono ?_
  rintro e w' ⟨rfl, rfl⟩
  go_wp2_with fail
  refine H6.out.mono ?_
  rintro e w' ⟨rfl, rfl⟩
  go_wp2
  go_ret
  exact ⟨rfl, rfl⟩

/-- a list of numbers that lies in memory -/
def Ints (w : World) (v : Value) (ns : List Nat) : Prop :=
  ∃ ao cap, v = .slice ao ns.length cap ∧ ∀ (k n : Nat), ns[k]? = some n → ∃ ad, ao = some ad ∧ w.cell? (ad.add k) = some (.int .i64 (n : Nat))
set_option maxRecDepth 100000 in
set_option maxHeartbeats 4000000 in
theorem same_ints (w : World) (va vb : Value) (ns : List Nat) (ha : Ints w va ns) (hb : Ints w vb ns) (hl : ns.length ≤ 1099511627776) :
    Calls Tryd.prog 43 #[va, vb] w fun e w' => e = .returned (.bool true) ∧ ∃ q, w' = w.drewN q := by
  obtain ⟨aa, ca, rfl, ha⟩ := ha
  obtain ⟨ab, cb, rfl, hb⟩ := hb
  have HA := hide ha
  have HB := hide hb
  clear ha hb
  go_enter Tryd.func43, Tryd.ntmps43
  go_wp2_with fail
  go_loopw [13] (fun c wr => ∃ i : Nat, i ≤ ns.length ∧ c = .int .i64 i ∧ ∃ q, wr = w.drewN q) (fun c _ => ns.length - (intOf c).toNat)
  case atStart => exact ⟨0, by omega, rfl, 0, rfl⟩
  case round =>
    obtain ⟨i, hi, rfl, q, rfl⟩ := hrel
    by_cases hlt : i < ns.length
    · obtain ⟨x, hx⟩ : ∃ x, ns[i]? = some x := ⟨_, List.getElem?_eq_getElem hlt⟩
      obtain ⟨ad, rfl, c0⟩ := HA.out i x hx
      obtain ⟨ad2, rfl, d0⟩ := HB.out i x hx
      have hi1 : (i : Int) < (ns.length : Int) := by omega
      clear hx
      go_wp2_with fail
      go_quiet (fail)
      go_wp2_with fail
      exact ⟨⟨i + 1, by omega, by simp, _, rfl⟩, by simp [intOf]; omega⟩
    · obtain rfl : i = ns.length := by omega
      go_wp2_with fail
      go_ret
      exact ⟨rfl, q, rfl⟩
end Go.Proofs.YtgebekklkodpaaaDoor
