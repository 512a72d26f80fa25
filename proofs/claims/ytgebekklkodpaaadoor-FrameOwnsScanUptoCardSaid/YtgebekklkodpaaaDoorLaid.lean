/- the errors and the tables, off a row's list -/
import Derived.Test.YtgebekklkodpaaaDoorLaw
import Derived.Test.YtgebekklkodpaaaDoorNum
import Derived.Test.YtgebekklkodpaaaDoorSum
import Derived.Stop.LaidErr
namespace Go.Proofs.YtgebekklkodpaaaDoor
open Go.ChangeShapes Go.WideShapes Go.ChangeAt Go.RowKit

theorem star : "*" ++ "errors.errorString" = "*errors.errorString" := by decide
theorem row124 (u : TypeId) (h : Tryd.prog.typeName? 3 u = some "*errors.errorString") : u = 124 :=
  typeName_ptr_named (nm := "errors.errorString") (by rw [star]; kernel_rfl) (by kernel_rfl) (by decide) u (by rw [star]; exact h)
theorem c140 : Tryd.prog.cellsOf 140 = 1 := by kernel_rfl
theorem c9 : Tryd.prog.cellsOf 9 = 1 := by kernel_rfl

/-- a listed variable is read, wherever it stands on the list -/
theorem laid_mem {P : Program} {W : World} {l : List (String × DataW Unit)} (h : laidMet P l W) {n : String} {d : DataW Unit} (hm : (n, d) ∈ l) : ∃ r, laidMet P ((n, d) :: r) W := by
  induction l with
  | nil => cases hm
  | cons x r ih =>
    rcases List.mem_cons.1 hm with rfl | hm
    · exact ⟨r, h⟩
    · exact ih h.tail hm

/-- what a listed error reads as -/
theorem laid_err_any {P : Program} {n nm : String} {text : List UInt8} {r : List (String × DataW Unit)} {W : World} {g : Nat} {ti tp te ts : TypeId} {ms : Array (String × TypeId)} {f : Field}
    (h : laidMet P ((n, .iface nm (.ptr (.agg [.lit (.string text)]))) :: r) W)
    (hg : P.globalNamed n = some g) (ht : (P.globals[g]?).map (·.type) = some ti) (hi : P.underlying ti = some (.interface ms)) (hrow : ∀ u, P.typeName? 3 u = some nm → u = tp)
    (hp : P.underlying tp = some (.pointer te)) (he : P.underlying te = some (.struct #[f])) (hft : f.type = ts) (hfo : f.offset = 0) (hs : P.underlying ts = some .string) (hc : P.cellsOf te = 1) (hcs : P.cellsOf ts = 1) :
    ∃ (a : Addr) (s : ByteArray), W.cell? ⟨g, 0, none⟩ = some (.iface tp (.pointer (some a))) ∧ W.cell? a = some (.string s) ∧ s.data.toList = text ∧ ∃ c t, W.heap[a.block]? = some (.cells c t (0, 0)) := by
  obtain ⟨ps, ⟨g0, t0, cs0, f0, p0, q0, hg0, ht0, hv0, hd0, _, e0⟩, _, hrows⟩ := h
  obtain rfl := Option.some.inj (hg.symm.trans hg0)
  obtain rfl := Option.some.inj (ht.symm.trans ht0)
  subst e0
  obtain ⟨l0⟩ := cs0
  have ok0 : ∀ u v, l0 = [.iface u v] → Value.okWide P W .any 0 u v := fun u v e => by
    subst e
    exact (hrows g 0 (by simp [MemPlace.row])).2 u v (by simpa using World.var?_cell hg0 hv0 0)
  obtain ⟨a0, s0, rfl, hc0, hs0, _, hpp⟩ := errorString_of_trod hi hrow hp he hft hfo hs hc hcs hd0 ok0
  refine ⟨a0, s0, by simpa using World.var?_cell hg0 hv0 0, hc0, hs0, ?_⟩
  subst hpp
  exact (hrows a0.block a0.off (by simp [MemPlace.row])).1
theorem laid_err {W : World} {n : String} {text : List UInt8} {r : List (String × DataW Unit)} {g : Nat} (h : laidMet Tryd.prog ((n, .iface "*errors.errorString" (.ptr (.agg [.lit (.string text)]))) :: r) W)
    (hg : Tryd.prog.globalNamed n = some g) (ht : (Tryd.prog.globals[g]?).map (·.type) = some 28) :
    ∃ (a : Addr) (s : ByteArray), ErrAt W g a ∧ W.cell? a = some (.string s) ∧ s.data.toList = text ∧ ∃ c t, W.heap[a.block]? = some (.cells c t (0, 0)) :=
  laid_err_any h hg ht Tryd.underlying28 row124 Tryd.underlying124 Tryd.underlying140 rfl rfl Tryd.underlying9 c140 c9

/-- the texts, by the variable's number -/
def errText : Nat → List UInt8
  | 0 => [99, 111, 110, 99, 111, 114, 100, 58, 32, 116, 97, 103]
  | 1 => [99, 111, 110, 99, 111, 114, 100, 58, 32, 116, 111, 111, 32, 115, 104, 111, 114, 116]
  | 2 => [99, 111, 110, 99, 111, 114, 100, 58, 32, 118, 97, 114, 105, 110, 116]
  | 3 => [99, 111, 110, 99, 111, 114, 100, 58, 32, 108, 105, 109, 105, 116]
  | 4 => [99, 111, 110, 99, 111, 114, 100, 58, 32, 111, 114, 100, 101, 114]
  | 5 => [99, 111, 110, 99, 111, 114, 100, 58, 32, 116, 97, 105, 108]
  | 6 => [99, 111, 110, 99, 111, 114, 100, 58, 32, 115, 117, 109]
  | 7 => [99, 111, 110, 99, 111, 114, 100, 58, 32, 114, 97, 110, 103, 101]
  | 8 => [99, 111, 110, 99, 111, 114, 100, 58, 32, 115, 105, 122, 101]
  | 9 => [99, 111, 110, 99, 111, 114, 100, 58, 32, 99, 111, 114, 114, 117, 112, 116]
  | 10 => [99, 111, 110, 99, 111, 114, 100, 58, 32, 115, 99, 104, 101, 109, 97]
  | 11 => [99, 111, 110, 99, 111, 114, 100, 58, 32, 102, 105, 101, 108, 100]
  | 12 => [99, 111, 110, 99, 111, 114, 100, 58, 32, 118, 97, 108, 117, 101]
  | 13 => [99, 111, 110, 99, 111, 114, 100, 58, 32, 112, 97, 116, 116, 101, 114, 110]
  | 14 => [99, 111, 110, 99, 111, 114, 100, 58, 32, 115, 116, 97, 116, 101, 115]
  | 17 => [99, 111, 110, 99, 111, 114, 100, 58, 32, 115, 121, 110, 116, 97, 120]
  | 18 => [99, 111, 110, 99, 111, 114, 100, 58, 32, 116, 111, 111, 32, 100, 101, 101, 112]
  | 19 => [99, 111, 110, 99, 111, 114, 100, 58, 32, 110, 111, 100, 101]
  | 20 => [99, 111, 110, 99, 111, 114, 100, 58, 32, 116, 111, 111, 32, 109, 97, 110, 121, 32, 116, 101, 114, 109, 115]
  | 21 => [99, 111, 110, 99, 111, 114, 100, 58, 32, 115, 99, 111, 114, 101, 32, 111, 118, 101, 114, 102, 108, 111, 119]
  | 22 => [99, 111, 110, 99, 111, 114, 100, 58, 32, 99, 111, 100, 101]
  | 23 => [99, 111, 110, 99, 111, 114, 100, 58, 32, 102, 117, 101, 108]
  | 24 => [99, 111, 110, 99, 111, 114, 100, 58, 32, 100, 111, 99, 117, 109, 101, 110, 116]
  | 25 => [99, 111, 110, 99, 111, 114, 100, 58, 32, 99, 111, 109, 109, 97, 110, 100]
  | _ => []
theorem gE0 : Tryd.prog.globalNamed "concord/api.ErrTag" = some 0 := by kernel_rfl
theorem tE0 : (Tryd.prog.globals[0]?).map (·.type) = some 28 := by kernel_rfl
theorem gE1 : Tryd.prog.globalNamed "concord/api.ErrShort" = some 1 := by kernel_rfl
theorem tE1 : (Tryd.prog.globals[1]?).map (·.type) = some 28 := by kernel_rfl
theorem gE2 : Tryd.prog.globalNamed "concord/api.ErrVarint" = some 2 := by kernel_rfl
theorem tE2 : (Tryd.prog.globals[2]?).map (·.type) = some 28 := by kernel_rfl
theorem gE3 : Tryd.prog.globalNamed "concord/api.ErrLimit" = some 3 := by kernel_rfl
theorem tE3 : (Tryd.prog.globals[3]?).map (·.type) = some 28 := by kernel_rfl
theorem gE4 : Tryd.prog.globalNamed "concord/api.ErrOrder" = some 4 := by kernel_rfl
theorem tE4 : (Tryd.prog.globals[4]?).map (·.type) = some 28 := by kernel_rfl
theorem gE5 : Tryd.prog.globalNamed "concord/api.ErrTail" = some 5 := by kernel_rfl
theorem tE5 : (Tryd.prog.globals[5]?).map (·.type) = some 28 := by kernel_rfl
theorem gE6 : Tryd.prog.globalNamed "concord/api.ErrSum" = some 6 := by kernel_rfl
theorem tE6 : (Tryd.prog.globals[6]?).map (·.type) = some 28 := by kernel_rfl
theorem gE7 : Tryd.prog.globalNamed "concord/api.ErrRange" = some 7 := by kernel_rfl
theorem tE7 : (Tryd.prog.globals[7]?).map (·.type) = some 28 := by kernel_rfl
theorem gE8 : Tryd.prog.globalNamed "concord/api.ErrSize" = some 8 := by kernel_rfl
theorem tE8 : (Tryd.prog.globals[8]?).map (·.type) = some 28 := by kernel_rfl
theorem gE9 : Tryd.prog.globalNamed "concord/api.ErrCorrupt" = some 9 := by kernel_rfl
theorem tE9 : (Tryd.prog.globals[9]?).map (·.type) = some 28 := by kernel_rfl
theorem gE10 : Tryd.prog.globalNamed "concord/api.ErrSchema" = some 10 := by kernel_rfl
theorem tE10 : (Tryd.prog.globals[10]?).map (·.type) = some 28 := by kernel_rfl
theorem gE11 : Tryd.prog.globalNamed "concord/api.ErrField" = some 11 := by kernel_rfl
theorem tE11 : (Tryd.prog.globals[11]?).map (·.type) = some 28 := by kernel_rfl
theorem gE12 : Tryd.prog.globalNamed "concord/api.ErrValue" = some 12 := by kernel_rfl
theorem tE12 : (Tryd.prog.globals[12]?).map (·.type) = some 28 := by kernel_rfl
theorem gE13 : Tryd.prog.globalNamed "concord/api.ErrPattern" = some 13 := by kernel_rfl
theorem tE13 : (Tryd.prog.globals[13]?).map (·.type) = some 28 := by kernel_rfl
theorem gE14 : Tryd.prog.globalNamed "concord/api.ErrStates" = some 14 := by kernel_rfl
theorem tE14 : (Tryd.prog.globals[14]?).map (·.type) = some 28 := by kernel_rfl
theorem gE17 : Tryd.prog.globalNamed "concord/api.ErrSyntax" = some 17 := by kernel_rfl
theorem tE17 : (Tryd.prog.globals[17]?).map (·.type) = some 28 := by kernel_rfl
theorem gE18 : Tryd.prog.globalNamed "concord/api.ErrDeep" = some 18 := by kernel_rfl
theorem tE18 : (Tryd.prog.globals[18]?).map (·.type) = some 28 := by kernel_rfl
theorem gE19 : Tryd.prog.globalNamed "concord/api.ErrNode" = some 19 := by kernel_rfl
theorem tE19 : (Tryd.prog.globals[19]?).map (·.type) = some 28 := by kernel_rfl
theorem gE20 : Tryd.prog.globalNamed "concord/api.ErrTerms" = some 20 := by kernel_rfl
theorem tE20 : (Tryd.prog.globals[20]?).map (·.type) = some 28 := by kernel_rfl
theorem gE21 : Tryd.prog.globalNamed "concord/api.ErrScore" = some 21 := by kernel_rfl
theorem tE21 : (Tryd.prog.globals[21]?).map (·.type) = some 28 := by kernel_rfl
theorem gE22 : Tryd.prog.globalNamed "concord/api.ErrCode" = some 22 := by kernel_rfl
theorem tE22 : (Tryd.prog.globals[22]?).map (·.type) = some 28 := by kernel_rfl
theorem gE23 : Tryd.prog.globalNamed "concord/api.ErrFuel" = some 23 := by kernel_rfl
theorem tE23 : (Tryd.prog.globals[23]?).map (·.type) = some 28 := by kernel_rfl
theorem gE24 : Tryd.prog.globalNamed "concord/api.ErrDoc" = some 24 := by kernel_rfl
theorem tE24 : (Tryd.prog.globals[24]?).map (·.type) = some 28 := by kernel_rfl
theorem gE25 : Tryd.prog.globalNamed "concord/api.ErrCommand" = some 25 := by kernel_rfl
theorem tE25 : (Tryd.prog.globals[25]?).map (·.type) = some 28 := by kernel_rfl

/-- one error's reading -/
def ErrRead (W : World) (g : Nat) : Prop := ∃ (a : Addr) (s : ByteArray), ErrAt W g a ∧ W.cell? a = some (.string s) ∧ s.data.toList = errText g ∧ ∃ c t, W.heap[a.block]? = some (.cells c t (0, 0))
theorem errs_of_reads {W : World} {ids : List Nat} (h : ∀ g ∈ ids, ErrRead W g) (hd : ∀ g ∈ ids, ∀ k ∈ ids, g ≠ k → errText g ≠ errText k) : ∃ E, Errs W E ids := by
  have hs : ∀ g : Nat, ∃ a : Addr, g ∈ ids → ∃ s : ByteArray, ErrAt W g a ∧ W.cell? a = some (.string s) ∧ s.data.toList = errText g ∧ ∃ c t, W.heap[a.block]? = some (.cells c t (0, 0)) := fun g => by
    by_cases hg : g ∈ ids
    · obtain ⟨a, s, h1⟩ := h g hg
      exact ⟨a, fun _ => ⟨s, h1⟩⟩
    · exact ⟨default, fun hh => absurd hh hg⟩
  obtain ⟨E, hE⟩ := Classical.axiomOfChoice hs
  refine ⟨E, fun g hg => ?_, fun g hg => ?_, fun g hg k hk hne e => ?_⟩
  · obtain ⟨s, h1, _⟩ := hE g hg
    exact h1
  · obtain ⟨s, _, _, _, h4⟩ := hE g hg
    exact h4
  · obtain ⟨s, _, h2, h3, _⟩ := hE g hg
    obtain ⟨s', _, h2', h3', _⟩ := hE k hk
    rw [e] at h2
    have e2 := Option.some.inj (h2.symm.trans h2')
    simp only [Value.string.injEq] at e2
    exact hd g hg k hk hne (h3.symm.trans ((congrArg (fun b : ByteArray => b.data.toList) e2).trans h3'))
theorem texts_apart : ∀ g ∈ allErrs, ∀ k ∈ allErrs, g ≠ k → errText g ≠ errText k := by decide +kernel
theorem read0 {W : World} {l : List (String × DataW Unit)} (h : laidMet Tryd.prog l W) (hm : ("concord/api.ErrTag", Rows.laid_concord_api_ErrTag) ∈ l) : ErrRead W 0 := by
  obtain ⟨r, h1⟩ := laid_mem h hm
  exact laid_err (text := errText 0) h1 gE0 tE0
theorem read1 {W : World} {l : List (String × DataW Unit)} (h : laidMet Tryd.prog l W) (hm : ("concord/api.ErrShort", Rows.laid_concord_api_ErrShort) ∈ l) : ErrRead W 1 := by
  obtain ⟨r, h1⟩ := laid_mem h hm
  exact laid_err (text := errText 1) h1 gE1 tE1
theorem read2 {W : World} {l : List (String × DataW Unit)} (h : laidMet Tryd.prog l W) (hm : ("concord/api.ErrVarint", Rows.laid_concord_api_ErrVarint) ∈ l) : ErrRead W 2 := by
  obtain ⟨r, h1⟩ := laid_mem h hm
  exact laid_err (text := errText 2) h1 gE2 tE2
theorem read3 {W : World} {l : List (String × DataW Unit)} (h : laidMet Tryd.prog l W) (hm : ("concord/api.ErrLimit", Rows.laid_concord_api_ErrLimit) ∈ l) : ErrRead W 3 := by
  obtain ⟨r, h1⟩ := laid_mem h hm
  exact laid_err (text := errText 3) h1 gE3 tE3
theorem read4 {W : World} {l : List (String × DataW Unit)} (h : laidMet Tryd.prog l W) (hm : ("concord/api.ErrOrder", Rows.laid_concord_api_ErrOrder) ∈ l) : ErrRead W 4 := by
  obtain ⟨r, h1⟩ := laid_mem h hm
  exact laid_err (text := errText 4) h1 gE4 tE4
theorem read5 {W : World} {l : List (String × DataW Unit)} (h : laidMet Tryd.prog l W) (hm : ("concord/api.ErrTail", Rows.laid_concord_api_ErrTail) ∈ l) : ErrRead W 5 := by
  obtain ⟨r, h1⟩ := laid_mem h hm
  exact laid_err (text := errText 5) h1 gE5 tE5
theorem read6 {W : World} {l : List (String × DataW Unit)} (h : laidMet Tryd.prog l W) (hm : ("concord/api.ErrSum", Rows.laid_concord_api_ErrSum) ∈ l) : ErrRead W 6 := by
  obtain ⟨r, h1⟩ := laid_mem h hm
  exact laid_err (text := errText 6) h1 gE6 tE6
theorem read7 {W : World} {l : List (String × DataW Unit)} (h : laidMet Tryd.prog l W) (hm : ("concord/api.ErrRange", Rows.laid_concord_api_ErrRange) ∈ l) : ErrRead W 7 := by
  obtain ⟨r, h1⟩ := laid_mem h hm
  exact laid_err (text := errText 7) h1 gE7 tE7
theorem read8 {W : World} {l : List (String × DataW Unit)} (h : laidMet Tryd.prog l W) (hm : ("concord/api.ErrSize", Rows.laid_concord_api_ErrSize) ∈ l) : ErrRead W 8 := by
  obtain ⟨r, h1⟩ := laid_mem h hm
  exact laid_err (text := errText 8) h1 gE8 tE8
theorem read9 {W : World} {l : List (String × DataW Unit)} (h : laidMet Tryd.prog l W) (hm : ("concord/api.ErrCorrupt", Rows.laid_concord_api_ErrCorrupt) ∈ l) : ErrRead W 9 := by
  obtain ⟨r, h1⟩ := laid_mem h hm
  exact laid_err (text := errText 9) h1 gE9 tE9
theorem read10 {W : World} {l : List (String × DataW Unit)} (h : laidMet Tryd.prog l W) (hm : ("concord/api.ErrSchema", Rows.laid_concord_api_ErrSchema) ∈ l) : ErrRead W 10 := by
  obtain ⟨r, h1⟩ := laid_mem h hm
  exact laid_err (text := errText 10) h1 gE10 tE10
theorem read11 {W : World} {l : List (String × DataW Unit)} (h : laidMet Tryd.prog l W) (hm : ("concord/api.ErrField", Rows.laid_concord_api_ErrField) ∈ l) : ErrRead W 11 := by
  obtain ⟨r, h1⟩ := laid_mem h hm
  exact laid_err (text := errText 11) h1 gE11 tE11
theorem read12 {W : World} {l : List (String × DataW Unit)} (h : laidMet Tryd.prog l W) (hm : ("concord/api.ErrValue", Rows.laid_concord_api_ErrValue) ∈ l) : ErrRead W 12 := by
  obtain ⟨r, h1⟩ := laid_mem h hm
  exact laid_err (text := errText 12) h1 gE12 tE12
theorem read13 {W : World} {l : List (String × DataW Unit)} (h : laidMet Tryd.prog l W) (hm : ("concord/api.ErrPattern", Rows.laid_concord_api_ErrPattern) ∈ l) : ErrRead W 13 := by
  obtain ⟨r, h1⟩ := laid_mem h hm
  exact laid_err (text := errText 13) h1 gE13 tE13
theorem read14 {W : World} {l : List (String × DataW Unit)} (h : laidMet Tryd.prog l W) (hm : ("concord/api.ErrStates", Rows.laid_concord_api_ErrStates) ∈ l) : ErrRead W 14 := by
  obtain ⟨r, h1⟩ := laid_mem h hm
  exact laid_err (text := errText 14) h1 gE14 tE14
theorem read17 {W : World} {l : List (String × DataW Unit)} (h : laidMet Tryd.prog l W) (hm : ("concord/api.ErrSyntax", Rows.laid_concord_api_ErrSyntax) ∈ l) : ErrRead W 17 := by
  obtain ⟨r, h1⟩ := laid_mem h hm
  exact laid_err (text := errText 17) h1 gE17 tE17
theorem read18 {W : World} {l : List (String × DataW Unit)} (h : laidMet Tryd.prog l W) (hm : ("concord/api.ErrDeep", Rows.laid_concord_api_ErrDeep) ∈ l) : ErrRead W 18 := by
  obtain ⟨r, h1⟩ := laid_mem h hm
  exact laid_err (text := errText 18) h1 gE18 tE18
theorem read19 {W : World} {l : List (String × DataW Unit)} (h : laidMet Tryd.prog l W) (hm : ("concord/api.ErrNode", Rows.laid_concord_api_ErrNode) ∈ l) : ErrRead W 19 := by
  obtain ⟨r, h1⟩ := laid_mem h hm
  exact laid_err (text := errText 19) h1 gE19 tE19
theorem read20 {W : World} {l : List (String × DataW Unit)} (h : laidMet Tryd.prog l W) (hm : ("concord/api.ErrTerms", Rows.laid_concord_api_ErrTerms) ∈ l) : ErrRead W 20 := by
  obtain ⟨r, h1⟩ := laid_mem h hm
  exact laid_err (text := errText 20) h1 gE20 tE20
theorem read21 {W : World} {l : List (String × DataW Unit)} (h : laidMet Tryd.prog l W) (hm : ("concord/api.ErrScore", Rows.laid_concord_api_ErrScore) ∈ l) : ErrRead W 21 := by
  obtain ⟨r, h1⟩ := laid_mem h hm
  exact laid_err (text := errText 21) h1 gE21 tE21
theorem read22 {W : World} {l : List (String × DataW Unit)} (h : laidMet Tryd.prog l W) (hm : ("concord/api.ErrCode", Rows.laid_concord_api_ErrCode) ∈ l) : ErrRead W 22 := by
  obtain ⟨r, h1⟩ := laid_mem h hm
  exact laid_err (text := errText 22) h1 gE22 tE22
theorem read23 {W : World} {l : List (String × DataW Unit)} (h : laidMet Tryd.prog l W) (hm : ("concord/api.ErrFuel", Rows.laid_concord_api_ErrFuel) ∈ l) : ErrRead W 23 := by
  obtain ⟨r, h1⟩ := laid_mem h hm
  exact laid_err (text := errText 23) h1 gE23 tE23
theorem read24 {W : World} {l : List (String × DataW Unit)} (h : laidMet Tryd.prog l W) (hm : ("concord/api.ErrDoc", Rows.laid_concord_api_ErrDoc) ∈ l) : ErrRead W 24 := by
  obtain ⟨r, h1⟩ := laid_mem h hm
  exact laid_err (text := errText 24) h1 gE24 tE24
theorem read25 {W : World} {l : List (String × DataW Unit)} (h : laidMet Tryd.prog l W) (hm : ("concord/api.ErrCommand", Rows.laid_concord_api_ErrCommand) ∈ l) : ErrRead W 25 := by
  obtain ⟨r, h1⟩ := laid_mem h hm
  exact laid_err (text := errText 25) h1 gE25 tE25

theorem zip_of_mem {W : World} {l : List (String × DataW Unit)} (h : laidMet Tryd.prog l W) (hm : ("concord/frame.zipTable", Rows.laid_concord_frame_zipTable) ∈ l) : Zip W ∧ 16 < W.heap.size := by
  obtain ⟨r, h1⟩ := laid_mem h hm
  exact zip_of_laid h1
theorem seal_of_mem {W : World} {l : List (String × DataW Unit)} (h : laidMet Tryd.prog l W) (hm : ("concord/frame.sealTable", Rows.laid_concord_frame_sealTable) ∈ l) : SealT W := by
  obtain ⟨r, h1⟩ := laid_mem h hm
  have h2 : Lib.TabIs Tryd.prog W "concord/frame.sealTable" .u32 sealInts := Lib.tabIs_of_head (rest := r) gSeal tSeal Tryd.underlying103 Tryd.underlying22 c22 c103 h1
  intro k hk
  have h3 := h2.cell gSeal k hk
  rw [h3, sealInts_get k hk]
end Go.Proofs.YtgebekklkodpaaaDoor
