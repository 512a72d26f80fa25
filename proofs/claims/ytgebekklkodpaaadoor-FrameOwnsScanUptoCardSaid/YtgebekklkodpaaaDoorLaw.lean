/- what all laws of the seat share: the tables off the row's list, the post out of a walk, the witness -/
import Derived.Test.YtgebekklkodpaaaDoorRoll
import Derived.Test.YtgebekklkodpaaaDoorCards
import Derived.Test.YtgebekklkodpaaaDoorTie
import Derived.ProofKit
import Derived.OpenShut
import Derived.Deep.DeepHandedRow
import Derived.Lib.LaidTab
import Derived.LaidMore
import Derived.LaidHandle
namespace Go.Proofs.YtgebekklkodpaaaDoor
open Go.ChangeShapes Go.WideShapes Go.ChangeAt Go.RowKit

theorem own : ownKnob Tryd.prog.godebug = none := by kernel_rfl
theorem laidOut : laidOutB Tryd.prog = true := by kernel_rfl
theorem gZip : Tryd.prog.globalNamed "concord/frame.zipTable" = some 16 := by kernel_rfl
theorem tZip : (Tryd.prog.globals[16]?).map (·.type) = some 103 := by kernel_rfl
theorem gSeal : Tryd.prog.globalNamed "concord/frame.sealTable" = some 15 := by kernel_rfl
theorem tSeal : (Tryd.prog.globals[15]?).map (·.type) = some 103 := by kernel_rfl
theorem c22 : Tryd.prog.cellsOf 22 = 1 := by kernel_rfl
theorem c103 : Tryd.prog.cellsOf 103 = 16 := by kernel_rfl

def zipInts : List Int := [0, 498536548, 997073096, 651767980, 1994146192, 1802195444, 1303535960, 1342533948, 3988292384, 4027552580, 3604390888, 3412177804, 2607071920, 2262029012, 2685067896, 3183342108]
theorem zipInts_get : ∀ k, k < 16 → zipInts.getD k 0 = ((Crc.zipTable.getD k 0 : Nat) : Int) := by decide +kernel
def sealInts : List Int := [0, 274646895, 549293790, 820201905, 1098587580, 1361435347, 1640403810, 1905808397, 2197175160, 2460548119, 2722870694, 2987750089, 3280807620, 3553878443, 3811616794, 4084100981]
theorem sealInts_get : ∀ k, k < 16 → sealInts.getD k 0 = ((Crc.sealTable.getD k 0 : Nat) : Int) := by decide +kernel

theorem below_trodAll {H : Type} {enc : TypeId × Value → H} {P : Program} (hl : laidOutB P = true) {W W' : World} (hb : Below W.heap.size W W') (ts : List TypeId) : ∀ {vs : List Value} {ds : List (DataW H)} {ps : List MemPlace},
    ts.all (fun t => P.readableRec t && decide (t < P.types.size)) = true → DataW.TrodAll enc P W 0 (fun _ => true) true ts vs ds ps → (∀ x ∈ ps, x.block < W.heap.size) →
    DataW.TrodAll enc P W' 0 (fun b => decide (b < W.heap.size)) true ts vs ds ps := by
  induction ts with
  | nil =>
    intro vs ds ps _ h _
    obtain ⟨rfl, rfl, rfl⟩ := trodAll_nil h
    exact trodAll_mk0
  | cons t ts ih =>
    intro vs ds ps ht h hlt
    obtain ⟨v, vs', d, ds', p, q, rfl, rfl, rfl, h1, h2⟩ := trodAll_cons h
    simp only [List.all_cons, Bool.and_eq_true, decide_eq_true_eq] at ht
    exact trodAll_cons_mk (Below.trod hl ht.1.1 ht.1.2 h1 hb (fun x hx => hlt x (by simp [hx]))) (ih ht.2 h2 (fun x hx => hlt x (by simp [hx])))

/-- THE POST of every law: it answered true, and nothing that was there has turned -/
theorem law_post {H : Type} {enc : TypeId × Value → H} {s : ChangeSpec} {fn : Func} {W W' : World} {args : Array Value} {ds : List (DataW H)} {before : List MemPlace}
    (hW : DataW.Whole enc Tryd.prog fn.params.toList s.vars false W args.toList ds [] before) (hv : s.vars = []) (hfn : s.fn H (ds ++ []) = { results := [.lit (.bool true)], args := ds }) (hr : fn.resultTypes = #[4])
    (hts : fn.params.toList.all (fun t => Tryd.prog.readableRec t && decide (t < Tryd.prog.types.size)) = true) (hb : Below W.heap.size W W') :
    s.post enc Tryd.prog fn false true false false W args (.bool true) W' := by
  have hW' := hW
  obtain ⟨p, q, hA0, hV, rfl, hfz, hnd⟩ := hW
  have hA : DataW.TrodAll enc Tryd.prog W 0 (fun _ => true) true fn.params.toList args.toList ds p := hA0
  rw [hv] at hV
  obtain ⟨_, rfl⟩ := trodVars_none hV
  refine ⟨ds, [], _, [], p, [], hW', ?_, ?_, ?_, hb.frame _, fun h => by cases h⟩
  · rw [hfn, hr]
    exact trodAll_cons_mk (shut_bool Tryd.underlying4 true) trodAll_mk0
  · rw [hfn]
    exact below_trodAll laidOut hb _ hts hA (fun x hx => by simpa using hW'.lt x (by simp [hx]))
  · rw [hv, hfn]
    rfl

theorem zip_of_laid {W : World} {rest : List (String × DataW Unit)} (h : laidMet Tryd.prog (("concord/frame.zipTable", Rows.laid_concord_frame_zipTable) :: rest) W) : Zip W ∧ 16 < W.heap.size := by
  have h1 : Lib.TabIs Tryd.prog W "concord/frame.zipTable" .u32 zipInts := Lib.tabIs_of_head (rest := rest) gZip tZip Tryd.underlying103 Tryd.underlying22 c22 c103 h
  have h2 : Zip W := fun k hk => by
    have h3 := h1.cell gZip k hk
    rw [h3, zipInts_get k hk]
  exact ⟨h2, World.block_lt_of_cell? W ⟨16, 0, none⟩ (h2 0 (by omega))⟩
end Go.Proofs.YtgebekklkodpaaaDoor
