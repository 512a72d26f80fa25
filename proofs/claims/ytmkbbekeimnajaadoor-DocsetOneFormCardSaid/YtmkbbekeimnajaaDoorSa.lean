/- the slice of an array variable -/
import Derived.Test.YtmkbbekeimnajaaDoorBase
namespace Go.Proofs.YtmkbbekeimnajaaDoor
open Go.RowKit
theorem wpList_slice_arr {P : Program} {ops : Array Oper} {rest : List Oper} {o : Oper} {a : Act} {w : World} {Q : Exit → Act → World → Prop} (hgd : o.guard = none) (ty : TypeId) (x y : Operand) (ho : o.op = .slice ty x none (some y) none)
    (g : Nat) (hx : a.eval x = .pointer (some ⟨g, 0, none⟩)) (q N : Nat) (hh : a.eval y = .int .i64 (q : Nat)) (el : TypeId) (hu : P.underlying ty = some (.array N el)) (i : TypeInfo) (hi : P.info? el = some i) (hq : q ≤ N) (hN : N ≠ 0)
    (h : wpList P ops Q rest (a.put o.dst (.slice (some ⟨g, 0, none⟩) q N)) w) : wpList P ops Q (o :: rest) a w :=
  wpList_plain hgd fun _ hK => by
    have hb : (⟨g, 0, none⟩ : Addr).add 0 = ⟨g, 0, none⟩ := by unfold Addr.add; split <;> simp_all
    unfold Oper.wp execOp
    simp only [ho, hx, hh, Option.map, Instr.sliceAt, Instr.sureAddr, Instr.sliceBounds, Instr.sliceBound, Sem.run_bind, Sem.run_pure, Result.andThen_ok, run_underlying hu]
    simp [asIntOf, Sem.run_pure, hN, hq, sizeOf, typeInfo, hi, hb]
    exact hK _ _ h
end Go.Proofs.YtmkbbekeimnajaaDoor
