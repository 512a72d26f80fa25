/- Proved: WholeNames returns true (each limit has its number, each error its text, no two errors are one), and nothing that lay in memory ahead of the call has changed. Conditions: the package variables that the row lists (the errors) hold what their initialisers lay; the card ties that to the text. -/
import Derived.Test.YtjcllbkhhgfciaaDoorTop
import Derived.Test.YtjcllbkhhgfciaaDoorCards
import Derived.Test.YtjcllbkhhgfciaaDoorTie
import Derived.ProofKit
import Derived.OpenShut
import Derived.Deep.DeepHandedRow
import Derived.LaidMore
import Derived.LaidHandle
import Derived.Stop.LaidErr
import Derived.Deep.DeepWitnessRowRef
namespace Go.Proofs.YtjcllbkhhgfciaaDoor
open Go Go.ChangeShapes Go.WideShapes Go.ChangeAt Go.RowKit
theorem facts_of {P : Program} {f : FuncId} {fn : Func} {s : ChangeSpec} {c : OpenClaim}
    (k0 : (c.wf (OpenSpec.ofChange s)) = true)
    (k1 : (laidOutB P) = true)
    (k2 : (mapsRowed P) = true)
    (k3 : (fn.params.all (P.readableRec ·)) = true)
    (k4 : (namedTie P c.named s.vars) = true)
    (k5 : ((c.stops == [])) = true)
    (k6 : ((P.stops == [])) = true)
    (k7 : ((c.knobs == [])) = true)
    (k8 : ((P.stopKnobs == [])) = true)
    (k9 : ((c.inPlace == P.inPlace f)) = true)
    (k10 : ((c.unfollowed == P.unfollowed f)) = true)
    (k11 : ((c.recurses == P.recurses f)) = true)
    (k12 : ((c.named == P.varsNamed f)) = true)
    (k13 : ((c.maps == (fn.params.toList ++ s.plain.varTypes P).any (P.mapsRec ·))) = true)
    (k14 : ((c.ifaces == (fn.params.toList ++ s.plain.varTypes P).any (P.ifacesRec ·))) = true)
    (k15 : ((c.mapsOut == P.mapsAmong fn.resultTypes.toList)) = true)
    (k16 : ((c.loops == (fn.params.toList ++ s.plain.varTypes P).any (P.loopsFrom ·))) = true)
    (k17 : ((c.wideKeys == (fn.params.toList ++ s.plain.varTypes P ++ fn.resultTypes.toList).any (P.wideKeysFrom ·))) = true)
    (k18 : (s.vars.all (P.varReadable ·)) = true)
    (k19 : (fn.resultTypes.all (fun t => P.readableRec t && decide (t < P.types.size))) = true)
    (k20 : ((c.ifacesOut == fn.resultTypes.toList.any (P.ifacesRec ·))) = true)
    (k21 : ((c.loopsOut == fn.resultTypes.toList.any (P.loopsFrom ·))) = true)
    (k22 : ((c.plainKeys == P.plainKeys)) = true)
    (k23 : (c.shortTexts.isNone) = true)
    (k24 : (P.stopsHeard) = true)
    (k25 : (P.mayEnter) = true)
    (k26 : ((c.lifted == P.liftsFinal)) = true)
    (k27 : ((P.make == some c.make)) = true)
    (k28 : ((c.kinds == (if c.domain.isEmpty then [] else fn.params.toList.map fun t => match P.underlying t with | some (.int k) => some k | _ => none))) = true)
    (k29 : ((c.pinned == c.pinnedBy)) = true)
    (k30 : ((c.veiled == (fn.params.toList ++ s.plain.varTypes P ++ fn.resultTypes.toList).any (P.veiledRec ·))) = true)
    (k31 : (c.veiledFits P fn.params.toList (fn.params.toList ++ s.plain.varTypes P ++ fn.resultTypes.toList)) = true)
    : joinedFacts P f fn s c = true := by
  simp only [joinedFacts, Bool.and_eq_true]
  exact ⟨⟨⟨⟨⟨⟨⟨⟨⟨⟨⟨⟨⟨⟨⟨⟨⟨⟨⟨⟨⟨⟨⟨⟨⟨⟨⟨⟨⟨⟨⟨k0, k1⟩, k2⟩, k3⟩, k4⟩, k5⟩, k6⟩, k7⟩, k8⟩, k9⟩, k10⟩, k11⟩, k12⟩, k13⟩, k14⟩, k15⟩, k16⟩, k17⟩, k18⟩, k19⟩, k20⟩, k21⟩, k22⟩, k23⟩, k24⟩, k25⟩, k26⟩, k27⟩, k28⟩, k29⟩, k30⟩, k31⟩
theorem own : ownKnob Tryd.prog.godebug = none := by kernel_rfl
theorem laidOut : laidOutB Tryd.prog = true := by kernel_rfl
theorem below_trodAll {H : Type} {enc : TypeId × Value → H} {P : Program} (hl : laidOutB P = true) {W W' : World} (hb : Below W.heap.size W W') (ts : List TypeId) : ∀ {vs : List Value} {ds : List (DataW H)} {ps : List MemPlace},
    ts.all (fun t => P.readableRec t && decide (t < P.types.size)) = true → DataW.TrodAll enc P W 0 (fun _ => true) true ts vs ds ps → (∀ x ∈ ps, x.block < W.heap.size) →
    DataW.TrodAll enc P W' 0 (fun b => decide (b < W.heap.size)) true ts vs ds ps := by
  induction ts with
  | nil =>
    intro vs ds ps _ h _
    obtain ⟨rfl, rfl, rfl⟩ := trodAll_nil h
    exact trodAll_mk0
  | cons t ts ih =>
    intro vs ds ps ht h hlt
    obtain ⟨v, vs', d, ds', p, q, rfl, rfl, rfl, h1, h2⟩ := trodAll_cons h
    simp only [List.all_cons, Bool.and_eq_true, decide_eq_true_eq] at ht
    exact trodAll_cons_mk (Below.trod hl ht.1.1 ht.1.2 h1 hb (fun x hx => hlt x (by simp [hx]))) (ih ht.2 h2 (fun x hx => hlt x (by simp [hx])))

/-- THE POST of every law: it answered true, and nothing that was there has turned -/
theorem law_post {H : Type} {enc : TypeId × Value → H} {s : ChangeSpec} {fn : Func} {W W' : World} {args : Array Value} {ds : List (DataW H)} {before : List MemPlace}
    (hW : DataW.Whole enc Tryd.prog fn.params.toList s.vars false W args.toList ds [] before) (hv : s.vars = []) (hfn : s.fn H (ds ++ []) = { results := [.lit (.bool true)], args := ds }) (hr : fn.resultTypes = #[4])
    (hts : fn.params.toList.all (fun t => Tryd.prog.readableRec t && decide (t < Tryd.prog.types.size)) = true) (hb : Below W.heap.size W W') :
    s.post enc Tryd.prog fn false true false false W args (.bool true) W' := by
  have hW' := hW
  obtain ⟨p, q, hA0, hV, rfl, hfz, hnd⟩ := hW
  have hA : DataW.TrodAll enc Tryd.prog W 0 (fun _ => true) true fn.params.toList args.toList ds p := hA0
  rw [hv] at hV
  obtain ⟨_, rfl⟩ := trodVars_none hV
  refine ⟨ds, [], _, [], p, [], hW', ?_, ?_, ?_, hb.frame _, fun h => by cases h⟩
  · rw [hfn, hr]
    exact trodAll_cons_mk (shut_bool Tryd.underlying4 true) trodAll_mk0
  · rw [hfn]
    exact below_trodAll laidOut hb _ hts hA (fun x hx => by simpa using hW'.lt x (by simp [hx]))
  · rw [hv, hfn]
    rfl
def ErrAt (w : World) (g : Nat) (a : Addr) : Prop := w.cell? ⟨g, 0, none⟩ = some (.iface 32 (.pointer (some a)))
theorem star : "*" ++ "errors.errorString" = "*errors.errorString" := by decide
theorem row32 (u : TypeId) (h : Tryd.prog.typeName? 3 u = some "*errors.errorString") : u = 32 :=
  typeName_ptr_named (nm := "errors.errorString") (by rw [star]; kernel_rfl) (by kernel_rfl) (by decide) u (by rw [star]; exact h)
theorem c51 : Tryd.prog.cellsOf 51 = 1 := by kernel_rfl
theorem c9 : Tryd.prog.cellsOf 9 = 1 := by kernel_rfl

/-- a listed variable is read, wherever it stands on the list -/
theorem laid_mem {P : Program} {W : World} {l : List (String × DataW Unit)} (h : laidMet P l W) {n : String} {d : DataW Unit} (hm : (n, d) ∈ l) : ∃ r, laidMet P ((n, d) :: r) W := by
  induction l with
  | nil => cases hm
  | cons x r ih =>
    rcases List.mem_cons.1 hm with rfl | hm
    · exact ⟨r, h⟩
    · exact ih h.tail hm

/-- what a listed error reads as -/
theorem laid_err_any {P : Program} {n nm : String} {text : List UInt8} {r : List (String × DataW Unit)} {W : World} {g : Nat} {ti tp te ts : TypeId} {ms : Array (String × TypeId)} {f : Field}
    (h : laidMet P ((n, .iface nm (.ptr (.agg [.lit (.string text)]))) :: r) W)
    (hg : P.globalNamed n = some g) (ht : (P.globals[g]?).map (·.type) = some ti) (hi : P.underlying ti = some (.interface ms)) (hrow : ∀ u, P.typeName? 3 u = some nm → u = tp)
    (hp : P.underlying tp = some (.pointer te)) (he : P.underlying te = some (.struct #[f])) (hft : f.type = ts) (hfo : f.offset = 0) (hs : P.underlying ts = some .string) (hc : P.cellsOf te = 1) (hcs : P.cellsOf ts = 1) :
    ∃ (a : Addr) (s : ByteArray), W.cell? ⟨g, 0, none⟩ = some (.iface tp (.pointer (some a))) ∧ W.cell? a = some (.string s) ∧ s.data.toList = text ∧ ∃ c t, W.heap[a.block]? = some (.cells c t (0, 0)) := by
  obtain ⟨ps, ⟨g0, t0, cs0, f0, p0, q0, hg0, ht0, hv0, hd0, _, e0⟩, _, hrows⟩ := h
  obtain rfl := Option.some.inj (hg.symm.trans hg0)
  obtain rfl := Option.some.inj (ht.symm.trans ht0)
  subst e0
  obtain ⟨l0⟩ := cs0
  have ok0 : ∀ u v, l0 = [.iface u v] → Value.okWide P W .any 0 u v := fun u v e => by
    subst e
    exact (hrows g 0 (by simp [MemPlace.row])).2 u v (by simpa using World.var?_cell hg0 hv0 0)
  obtain ⟨a0, s0, rfl, hc0, hs0, _, hpp⟩ := errorString_of_trod hi hrow hp he hft hfo hs hc hcs hd0 ok0
  refine ⟨a0, s0, by simpa using World.var?_cell hg0 hv0 0, hc0, hs0, ?_⟩
  subst hpp
  exact (hrows a0.block a0.off (by simp [MemPlace.row])).1
theorem laid_err {W : World} {n : String} {text : List UInt8} {r : List (String × DataW Unit)} {g : Nat} (h : laidMet Tryd.prog ((n, .iface "*errors.errorString" (.ptr (.agg [.lit (.string text)]))) :: r) W)
    (hg : Tryd.prog.globalNamed n = some g) (ht : (Tryd.prog.globals[g]?).map (·.type) = some 23) :
    ∃ (a : Addr) (s : ByteArray), ErrAt W g a ∧ W.cell? a = some (.string s) ∧ s.data.toList = text ∧ ∃ c t, W.heap[a.block]? = some (.cells c t (0, 0)) :=
  laid_err_any h hg ht Tryd.underlying23 row32 Tryd.underlying32 Tryd.underlying51 rfl rfl Tryd.underlying9 c51 c9
def errText : Nat → List UInt8
  | 0 => [99, 111, 110, 99, 111, 114, 100, 58, 32, 116, 111, 111, 32, 115, 104, 111, 114, 116]
  | 1 => [99, 111, 110, 99, 111, 114, 100, 58, 32, 118, 97, 114, 105, 110, 116]
  | 2 => [99, 111, 110, 99, 111, 114, 100, 58, 32, 108, 105, 109, 105, 116]
  | 3 => [99, 111, 110, 99, 111, 114, 100, 58, 32, 111, 114, 100, 101, 114]
  | 4 => [99, 111, 110, 99, 111, 114, 100, 58, 32, 116, 97, 105, 108]
  | 5 => [99, 111, 110, 99, 111, 114, 100, 58, 32, 116, 97, 103]
  | 6 => [99, 111, 110, 99, 111, 114, 100, 58, 32, 115, 117, 109]
  | 7 => [99, 111, 110, 99, 111, 114, 100, 58, 32, 114, 97, 110, 103, 101]
  | 8 => [99, 111, 110, 99, 111, 114, 100, 58, 32, 115, 105, 122, 101]
  | 9 => [99, 111, 110, 99, 111, 114, 100, 58, 32, 99, 111, 114, 114, 117, 112, 116]
  | 10 => [99, 111, 110, 99, 111, 114, 100, 58, 32, 115, 99, 104, 101, 109, 97]
  | 11 => [99, 111, 110, 99, 111, 114, 100, 58, 32, 102, 105, 101, 108, 100]
  | 12 => [99, 111, 110, 99, 111, 114, 100, 58, 32, 118, 97, 108, 117, 101]
  | 13 => [99, 111, 110, 99, 111, 114, 100, 58, 32, 112, 97, 116, 116, 101, 114, 110]
  | 14 => [99, 111, 110, 99, 111, 114, 100, 58, 32, 115, 116, 97, 116, 101, 115]
  | 15 => [99, 111, 110, 99, 111, 114, 100, 58, 32, 115, 121, 110, 116, 97, 120]
  | 16 => [99, 111, 110, 99, 111, 114, 100, 58, 32, 116, 111, 111, 32, 100, 101, 101, 112]
  | 17 => [99, 111, 110, 99, 111, 114, 100, 58, 32, 110, 111, 100, 101]
  | 18 => [99, 111, 110, 99, 111, 114, 100, 58, 32, 116, 111, 111, 32, 109, 97, 110, 121, 32, 116, 101, 114, 109, 115]
  | 19 => [99, 111, 110, 99, 111, 114, 100, 58, 32, 115, 99, 111, 114, 101, 32, 111, 118, 101, 114, 102, 108, 111, 119]
  | 20 => [99, 111, 110, 99, 111, 114, 100, 58, 32, 99, 111, 100, 101]
  | 21 => [99, 111, 110, 99, 111, 114, 100, 58, 32, 102, 117, 101, 108]
  | 22 => [99, 111, 110, 99, 111, 114, 100, 58, 32, 100, 111, 99, 117, 109, 101, 110, 116]
  | _ => [99, 111, 110, 99, 111, 114, 100, 58, 32, 99, 111, 109, 109, 97, 110, 100]
theorem says_text : ∀ g, g < 24 → (says g).data.toList = errText g := by decide +kernel
theorem texts_apart : ∀ g, g < 24 → ∀ k, k < 24 → g ≠ k → errText g ≠ errText k := by decide +kernel
theorem gE0 : Tryd.prog.globalNamed "concord/api.ErrShort" = some 0 := by kernel_rfl
theorem tE0 : (Tryd.prog.globals[0]?).map (·.type) = some 23 := by kernel_rfl
theorem gE1 : Tryd.prog.globalNamed "concord/api.ErrVarint" = some 1 := by kernel_rfl
theorem tE1 : (Tryd.prog.globals[1]?).map (·.type) = some 23 := by kernel_rfl
theorem gE2 : Tryd.prog.globalNamed "concord/api.ErrLimit" = some 2 := by kernel_rfl
theorem tE2 : (Tryd.prog.globals[2]?).map (·.type) = some 23 := by kernel_rfl
theorem gE3 : Tryd.prog.globalNamed "concord/api.ErrOrder" = some 3 := by kernel_rfl
theorem tE3 : (Tryd.prog.globals[3]?).map (·.type) = some 23 := by kernel_rfl
theorem gE4 : Tryd.prog.globalNamed "concord/api.ErrTail" = some 4 := by kernel_rfl
theorem tE4 : (Tryd.prog.globals[4]?).map (·.type) = some 23 := by kernel_rfl
theorem gE5 : Tryd.prog.globalNamed "concord/api.ErrTag" = some 5 := by kernel_rfl
theorem tE5 : (Tryd.prog.globals[5]?).map (·.type) = some 23 := by kernel_rfl
theorem gE6 : Tryd.prog.globalNamed "concord/api.ErrSum" = some 6 := by kernel_rfl
theorem tE6 : (Tryd.prog.globals[6]?).map (·.type) = some 23 := by kernel_rfl
theorem gE7 : Tryd.prog.globalNamed "concord/api.ErrRange" = some 7 := by kernel_rfl
theorem tE7 : (Tryd.prog.globals[7]?).map (·.type) = some 23 := by kernel_rfl
theorem gE8 : Tryd.prog.globalNamed "concord/api.ErrSize" = some 8 := by kernel_rfl
theorem tE8 : (Tryd.prog.globals[8]?).map (·.type) = some 23 := by kernel_rfl
theorem gE9 : Tryd.prog.globalNamed "concord/api.ErrCorrupt" = some 9 := by kernel_rfl
theorem tE9 : (Tryd.prog.globals[9]?).map (·.type) = some 23 := by kernel_rfl
theorem gE10 : Tryd.prog.globalNamed "concord/api.ErrSchema" = some 10 := by kernel_rfl
theorem tE10 : (Tryd.prog.globals[10]?).map (·.type) = some 23 := by kernel_rfl
theorem gE11 : Tryd.prog.globalNamed "concord/api.ErrField" = some 11 := by kernel_rfl
theorem tE11 : (Tryd.prog.globals[11]?).map (·.type) = some 23 := by kernel_rfl
theorem gE12 : Tryd.prog.globalNamed "concord/api.ErrValue" = some 12 := by kernel_rfl
theorem tE12 : (Tryd.prog.globals[12]?).map (·.type) = some 23 := by kernel_rfl
theorem gE13 : Tryd.prog.globalNamed "concord/api.ErrPattern" = some 13 := by kernel_rfl
theorem tE13 : (Tryd.prog.globals[13]?).map (·.type) = some 23 := by kernel_rfl
theorem gE14 : Tryd.prog.globalNamed "concord/api.ErrStates" = some 14 := by kernel_rfl
theorem tE14 : (Tryd.prog.globals[14]?).map (·.type) = some 23 := by kernel_rfl
theorem gE15 : Tryd.prog.globalNamed "concord/api.ErrSyntax" = some 15 := by kernel_rfl
theorem tE15 : (Tryd.prog.globals[15]?).map (·.type) = some 23 := by kernel_rfl
theorem gE16 : Tryd.prog.globalNamed "concord/api.ErrDeep" = some 16 := by kernel_rfl
theorem tE16 : (Tryd.prog.globals[16]?).map (·.type) = some 23 := by kernel_rfl
theorem gE17 : Tryd.prog.globalNamed "concord/api.ErrNode" = some 17 := by kernel_rfl
theorem tE17 : (Tryd.prog.globals[17]?).map (·.type) = some 23 := by kernel_rfl
theorem gE18 : Tryd.prog.globalNamed "concord/api.ErrTerms" = some 18 := by kernel_rfl
theorem tE18 : (Tryd.prog.globals[18]?).map (·.type) = some 23 := by kernel_rfl
theorem gE19 : Tryd.prog.globalNamed "concord/api.ErrScore" = some 19 := by kernel_rfl
theorem tE19 : (Tryd.prog.globals[19]?).map (·.type) = some 23 := by kernel_rfl
theorem gE20 : Tryd.prog.globalNamed "concord/api.ErrCode" = some 20 := by kernel_rfl
theorem tE20 : (Tryd.prog.globals[20]?).map (·.type) = some 23 := by kernel_rfl
theorem gE21 : Tryd.prog.globalNamed "concord/api.ErrFuel" = some 21 := by kernel_rfl
theorem tE21 : (Tryd.prog.globals[21]?).map (·.type) = some 23 := by kernel_rfl
theorem gE22 : Tryd.prog.globalNamed "concord/api.ErrDoc" = some 22 := by kernel_rfl
theorem tE22 : (Tryd.prog.globals[22]?).map (·.type) = some 23 := by kernel_rfl
theorem gE23 : Tryd.prog.globalNamed "concord/api.ErrCommand" = some 23 := by kernel_rfl
theorem tE23 : (Tryd.prog.globals[23]?).map (·.type) = some 23 := by kernel_rfl
/-- one error's reading -/
def ErrRead (W : World) (g : Nat) : Prop := ∃ (a : Addr) (s : ByteArray), ErrAt W g a ∧ W.cell? a = some (.string s) ∧ s.data.toList = errText g ∧ ∃ c t, W.heap[a.block]? = some (.cells c t (0, 0))
theorem errs_of_reads {W : World} (h : ∀ g, g < 24 → ErrRead W g) : ∃ E, Errs W E := by
  have hs : ∀ g : Nat, ∃ a : Addr, g < 24 → ∃ s : ByteArray, ErrAt W g a ∧ W.cell? a = some (.string s) ∧ s.data.toList = errText g ∧ ∃ c t, W.heap[a.block]? = some (.cells c t (0, 0)) := fun g => by
    by_cases hg : g < 24
    · obtain ⟨a, s, h1⟩ := h g hg
      exact ⟨a, fun _ => ⟨s, h1⟩⟩
    · exact ⟨default, fun hh => absurd hh hg⟩
  obtain ⟨E, hE⟩ := Classical.axiomOfChoice hs
  refine ⟨E, fun g hg => ?_, fun g hg => ?_, fun g hg => ?_, fun g k hg hk hne e => ?_⟩
  · obtain ⟨s, h1, _⟩ := hE g hg
    exact h1
  · obtain ⟨s, _, h2, h3, _⟩ := hE g hg
    have e : s = says g := ByteArray.ext (Array.toList_inj.1 (h3.trans (says_text g hg).symm))
    rw [← e]
    exact h2
  · obtain ⟨s, _, _, _, h4⟩ := hE g hg
    exact h4
  · obtain ⟨s, _, h2, h3, _⟩ := hE g hg
    obtain ⟨s', _, h2', h3', _⟩ := hE k hk
    rw [e] at h2
    have e2 := Option.some.inj (h2.symm.trans h2')
    simp only [Value.string.injEq] at e2
    exact texts_apart g hg k hk hne (h3.symm.trans ((congrArg (fun b : ByteArray => b.data.toList) e2).trans h3'))
theorem read0 {W : World} {l : List (String × DataW Unit)} (h : laidMet Tryd.prog l W) (hm : ("concord/api.ErrShort", Rows.laid_concord_api_ErrShort) ∈ l) : ErrRead W 0 := by
  obtain ⟨r, h1⟩ := laid_mem h hm
  exact laid_err (text := errText 0) h1 gE0 tE0
theorem read1 {W : World} {l : List (String × DataW Unit)} (h : laidMet Tryd.prog l W) (hm : ("concord/api.ErrVarint", Rows.laid_concord_api_ErrVarint) ∈ l) : ErrRead W 1 := by
  obtain ⟨r, h1⟩ := laid_mem h hm
  exact laid_err (text := errText 1) h1 gE1 tE1
theorem read2 {W : World} {l : List (String × DataW Unit)} (h : laidMet Tryd.prog l W) (hm : ("concord/api.ErrLimit", Rows.laid_concord_api_ErrLimit) ∈ l) : ErrRead W 2 := by
  obtain ⟨r, h1⟩ := laid_mem h hm
  exact laid_err (text := errText 2) h1 gE2 tE2
theorem read3 {W : World} {l : List (String × DataW Unit)} (h : laidMet Tryd.prog l W) (hm : ("concord/api.ErrOrder", Rows.laid_concord_api_ErrOrder) ∈ l) : ErrRead W 3 := by
  obtain ⟨r, h1⟩ := laid_mem h hm
  exact laid_err (text := errText 3) h1 gE3 tE3
theorem read4 {W : World} {l : List (String × DataW Unit)} (h : laidMet Tryd.prog l W) (hm : ("concord/api.ErrTail", Rows.laid_concord_api_ErrTail) ∈ l) : ErrRead W 4 := by
  obtain ⟨r, h1⟩ := laid_mem h hm
  exact laid_err (text := errText 4) h1 gE4 tE4
theorem read5 {W : World} {l : List (String × DataW Unit)} (h : laidMet Tryd.prog l W) (hm : ("concord/api.ErrTag", Rows.laid_concord_api_ErrTag) ∈ l) : ErrRead W 5 := by
  obtain ⟨r, h1⟩ := laid_mem h hm
  exact laid_err (text := errText 5) h1 gE5 tE5
theorem read6 {W : World} {l : List (String × DataW Unit)} (h : laidMet Tryd.prog l W) (hm : ("concord/api.ErrSum", Rows.laid_concord_api_ErrSum) ∈ l) : ErrRead W 6 := by
  obtain ⟨r, h1⟩ := laid_mem h hm
  exact laid_err (text := errText 6) h1 gE6 tE6
theorem read7 {W : World} {l : List (String × DataW Unit)} (h : laidMet Tryd.prog l W) (hm : ("concord/api.ErrRange", Rows.laid_concord_api_ErrRange) ∈ l) : ErrRead W 7 := by
  obtain ⟨r, h1⟩ := laid_mem h hm
  exact laid_err (text := errText 7) h1 gE7 tE7
theorem read8 {W : World} {l : List (String × DataW Unit)} (h : laidMet Tryd.prog l W) (hm : ("concord/api.ErrSize", Rows.laid_concord_api_ErrSize) ∈ l) : ErrRead W 8 := by
  obtain ⟨r, h1⟩ := laid_mem h hm
  exact laid_err (text := errText 8) h1 gE8 tE8
theorem read9 {W : World} {l : List (String × DataW Unit)} (h : laidMet Tryd.prog l W) (hm : ("concord/api.ErrCorrupt", Rows.laid_concord_api_ErrCorrupt) ∈ l) : ErrRead W 9 := by
  obtain ⟨r, h1⟩ := laid_mem h hm
  exact laid_err (text := errText 9) h1 gE9 tE9
theorem read10 {W : World} {l : List (String × DataW Unit)} (h : laidMet Tryd.prog l W) (hm : ("concord/api.ErrSchema", Rows.laid_concord_api_ErrSchema) ∈ l) : ErrRead W 10 := by
  obtain ⟨r, h1⟩ := laid_mem h hm
  exact laid_err (text := errText 10) h1 gE10 tE10
theorem read11 {W : World} {l : List (String × DataW Unit)} (h : laidMet Tryd.prog l W) (hm : ("concord/api.ErrField", Rows.laid_concord_api_ErrField) ∈ l) : ErrRead W 11 := by
  obtain ⟨r, h1⟩ := laid_mem h hm
  exact laid_err (text := errText 11) h1 gE11 tE11
theorem read12 {W : World} {l : List (String × DataW Unit)} (h : laidMet Tryd.prog l W) (hm : ("concord/api.ErrValue", Rows.laid_concord_api_ErrValue) ∈ l) : ErrRead W 12 := by
  obtain ⟨r, h1⟩ := laid_mem h hm
  exact laid_err (text := errText 12) h1 gE12 tE12
theorem read13 {W : World} {l : List (String × DataW Unit)} (h : laidMet Tryd.prog l W) (hm : ("concord/api.ErrPattern", Rows.laid_concord_api_ErrPattern) ∈ l) : ErrRead W 13 := by
  obtain ⟨r, h1⟩ := laid_mem h hm
  exact laid_err (text := errText 13) h1 gE13 tE13
theorem read14 {W : World} {l : List (String × DataW Unit)} (h : laidMet Tryd.prog l W) (hm : ("concord/api.ErrStates", Rows.laid_concord_api_ErrStates) ∈ l) : ErrRead W 14 := by
  obtain ⟨r, h1⟩ := laid_mem h hm
  exact laid_err (text := errText 14) h1 gE14 tE14
theorem read15 {W : World} {l : List (String × DataW Unit)} (h : laidMet Tryd.prog l W) (hm : ("concord/api.ErrSyntax", Rows.laid_concord_api_ErrSyntax) ∈ l) : ErrRead W 15 := by
  obtain ⟨r, h1⟩ := laid_mem h hm
  exact laid_err (text := errText 15) h1 gE15 tE15
theorem read16 {W : World} {l : List (String × DataW Unit)} (h : laidMet Tryd.prog l W) (hm : ("concord/api.ErrDeep", Rows.laid_concord_api_ErrDeep) ∈ l) : ErrRead W 16 := by
  obtain ⟨r, h1⟩ := laid_mem h hm
  exact laid_err (text := errText 16) h1 gE16 tE16
theorem read17 {W : World} {l : List (String × DataW Unit)} (h : laidMet Tryd.prog l W) (hm : ("concord/api.ErrNode", Rows.laid_concord_api_ErrNode) ∈ l) : ErrRead W 17 := by
  obtain ⟨r, h1⟩ := laid_mem h hm
  exact laid_err (text := errText 17) h1 gE17 tE17
theorem read18 {W : World} {l : List (String × DataW Unit)} (h : laidMet Tryd.prog l W) (hm : ("concord/api.ErrTerms", Rows.laid_concord_api_ErrTerms) ∈ l) : ErrRead W 18 := by
  obtain ⟨r, h1⟩ := laid_mem h hm
  exact laid_err (text := errText 18) h1 gE18 tE18
theorem read19 {W : World} {l : List (String × DataW Unit)} (h : laidMet Tryd.prog l W) (hm : ("concord/api.ErrScore", Rows.laid_concord_api_ErrScore) ∈ l) : ErrRead W 19 := by
  obtain ⟨r, h1⟩ := laid_mem h hm
  exact laid_err (text := errText 19) h1 gE19 tE19
theorem read20 {W : World} {l : List (String × DataW Unit)} (h : laidMet Tryd.prog l W) (hm : ("concord/api.ErrCode", Rows.laid_concord_api_ErrCode) ∈ l) : ErrRead W 20 := by
  obtain ⟨r, h1⟩ := laid_mem h hm
  exact laid_err (text := errText 20) h1 gE20 tE20
theorem read21 {W : World} {l : List (String × DataW Unit)} (h : laidMet Tryd.prog l W) (hm : ("concord/api.ErrFuel", Rows.laid_concord_api_ErrFuel) ∈ l) : ErrRead W 21 := by
  obtain ⟨r, h1⟩ := laid_mem h hm
  exact laid_err (text := errText 21) h1 gE21 tE21
theorem read22 {W : World} {l : List (String × DataW Unit)} (h : laidMet Tryd.prog l W) (hm : ("concord/api.ErrDoc", Rows.laid_concord_api_ErrDoc) ∈ l) : ErrRead W 22 := by
  obtain ⟨r, h1⟩ := laid_mem h hm
  exact laid_err (text := errText 22) h1 gE22 tE22
theorem read23 {W : World} {l : List (String × DataW Unit)} (h : laidMet Tryd.prog l W) (hm : ("concord/api.ErrCommand", Rows.laid_concord_api_ErrCommand) ∈ l) : ErrRead W 23 := by
  obtain ⟨r, h1⟩ := laid_mem h hm
  exact laid_err (text := errText 23) h1 gE23 tE23
set_option maxRecDepth 100000 in
theorem contract (H : Type) (enc : TypeId × Value → H) (W : World) (args : Array Value) (ds gs : List (DataW H)) (before : List MemPlace)
    (hW : DataW.Whole enc Tryd.prog Tryd.f3.params.toList Rows.wholeNamesSpec.vars false W args.toList ds gs before) (hL : laidMetH Tryd.prog Rows.wholeNamesRow.laid W) :
    Calls Tryd.prog 3 args W fun e W' => ∃ v, e = .returned v ∧ Rows.wholeNamesSpec.post enc Tryd.prog Tryd.f3 false true false false W args v W' := by
  have hW' := hW
  obtain ⟨p, q, hA0, hV, rfl, hfz, hnd⟩ := hW
  have hA : DataW.TrodAll enc Tryd.prog W 0 (fun _ => true) true Tryd.f3.params.toList args.toList ds p := hA0
  rw [Tryd.params3] at hA
  obtain ⟨hargs, rfl, rfl⟩ := trodAll_nil hA
  obtain rfl : args = #[] := by cases args; simp_all
  obtain ⟨rfl, rfl⟩ := trodVars_none hV
  clear hA0
  simp only [List.append_nil] at hW'
  have hl : laidMet Tryd.prog Rows.wholeNamesRow.laid W := hL
  have hreads : ∀ g, g < 24 → ErrRead W g := by
    intro g hg
    match g, hg with
    | 0, _ => exact read0 hl (by simp [Rows.wholeNamesRow])
    | 1, _ => exact read1 hl (by simp [Rows.wholeNamesRow])
    | 2, _ => exact read2 hl (by simp [Rows.wholeNamesRow])
    | 3, _ => exact read3 hl (by simp [Rows.wholeNamesRow])
    | 4, _ => exact read4 hl (by simp [Rows.wholeNamesRow])
    | 5, _ => exact read5 hl (by simp [Rows.wholeNamesRow])
    | 6, _ => exact read6 hl (by simp [Rows.wholeNamesRow])
    | 7, _ => exact read7 hl (by simp [Rows.wholeNamesRow])
    | 8, _ => exact read8 hl (by simp [Rows.wholeNamesRow])
    | 9, _ => exact read9 hl (by simp [Rows.wholeNamesRow])
    | 10, _ => exact read10 hl (by simp [Rows.wholeNamesRow])
    | 11, _ => exact read11 hl (by simp [Rows.wholeNamesRow])
    | 12, _ => exact read12 hl (by simp [Rows.wholeNamesRow])
    | 13, _ => exact read13 hl (by simp [Rows.wholeNamesRow])
    | 14, _ => exact read14 hl (by simp [Rows.wholeNamesRow])
    | 15, _ => exact read15 hl (by simp [Rows.wholeNamesRow])
    | 16, _ => exact read16 hl (by simp [Rows.wholeNamesRow])
    | 17, _ => exact read17 hl (by simp [Rows.wholeNamesRow])
    | 18, _ => exact read18 hl (by simp [Rows.wholeNamesRow])
    | 19, _ => exact read19 hl (by simp [Rows.wholeNamesRow])
    | 20, _ => exact read20 hl (by simp [Rows.wholeNamesRow])
    | 21, _ => exact read21 hl (by simp [Rows.wholeNamesRow])
    | 22, _ => exact read22 hl (by simp [Rows.wholeNamesRow])
    | 23, _ => exact read23 hl (by simp [Rows.wholeNamesRow])
    | _ + 24, h => exact absurd h (by omega)
  obtain ⟨E, hE⟩ := errs_of_reads hreads
  have hg2 := World.block_lt_of_cell? W _ (hE.cell 23 (by decide))
  simp only at hg2
  refine (walk W E hE (by omega)).mono fun e W' ⟨he, hb⟩ => ?_
  subst he
  exact ⟨_, rfl, law_post hW' rfl rfl rfl (by kernel_rfl) hb⟩

noncomputable def laidWorld (os : Os) : World := World.doorLaid Tryd.prog 465 os
noncomputable def wargs : Array Value := #[]
theorem laid_met (os : Os) : laidMetH Tryd.prog Rows.wholeNamesRow.laid ((laidWorld os).forCall (fun _ _ => 0) ⟨#[], wargs, []⟩).memory :=
  laidMetH_of_parts3 (fuel := 8) (laidMet_of_run' 8 (by kernel_rfl) (by kernel_rfl)) (by kernel_rfl) (by kernel_rfl)
theorem reads (os : Os) {H : Type} (enc : TypeId × Value → H) : ∃ places, DataW.whole enc Tryd.prog ((laidWorld os).forCall (fun _ _ => 0) ⟨#[], wargs, []⟩).memory Tryd.f3.params.toList Rows.wholeNamesSpec.vars false wargs.toList 8 = some ([], [], places) :=
  ⟨[], by kernel_rfl⟩

set_option maxRecDepth 100000 in
theorem lifted (os : Os) (started : os.Started) (H : Type) (enc : TypeId × Value → H) (F : Stop.Interp) :
    ReturnsInHanded {} Tryd.checked os 3 .any ((OpenSpec.ofChange Rows.wholeNamesSpec).preRow enc Tryd.prog Tryd.f3 Rows.wholeNamesRow.domain false Rows.wholeNamesRow.laid) (((OpenSpec.ofChange Rows.wholeNamesSpec).at F).post enc Tryd.prog Tryd.f3 false true false false) := by
  obtain ⟨places, hx⟩ := reads os enc
  refine returnsInHanded_of_row (C := Tryd.checked) (s := OpenSpec.ofChange Rows.wholeNamesSpec) own started (by kernel_rfl) Tryd.func3
    (witness_row_atRef (enc := enc) (C := Tryd.checked) false (laidWorld os) wargs rfl (by kernel_rfl) (by kernel_rfl) (by kernel_rfl)
      (OpenSpec.preRow_of_cond 8 hx (by kernel_rfl) (fun k hk => by cases hk) (by kernel_rfl) (laid_met os))) ?_
  intro W base args ds gs before hval hW _ _ hsz hL _ _
  exact contract H enc W args ds gs before hW hL

theorem fact0 : (Rows.wholeNamesRow.wf (OpenSpec.ofChange (OpenSpec.ofChange Rows.wholeNamesSpec).bare)) = true := by kernel_rfl
theorem fact1 : (laidOutB Tryd.prog) = true := by kernel_rfl
theorem fact2 : (mapsRowed Tryd.prog) = true := by kernel_rfl
theorem fact3 : (Tryd.f3.params.all (Tryd.prog.readableRec ·)) = true := by kernel_rfl
theorem fact4 : (namedTie Tryd.prog Rows.wholeNamesRow.named (OpenSpec.ofChange Rows.wholeNamesSpec).bare.vars) = true := by kernel_rfl
theorem fact5 : ((Rows.wholeNamesRow.stops == [])) = true := by kernel_rfl
theorem fact6 : ((Tryd.prog.stops == [])) = true := by kernel_rfl
theorem fact7 : ((Rows.wholeNamesRow.knobs == [])) = true := by kernel_rfl
theorem fact8 : ((Tryd.prog.stopKnobs == [])) = true := by kernel_rfl
theorem fact9 : ((Rows.wholeNamesRow.inPlace == Tryd.prog.inPlace 3)) = true := by kernel_rfl
theorem fact10 : ((Rows.wholeNamesRow.unfollowed == Tryd.prog.unfollowed 3)) = true := by kernel_rfl
theorem fact11 : ((Rows.wholeNamesRow.recurses == Tryd.prog.recurses 3)) = true := by kernel_rfl
theorem fact12 : ((Rows.wholeNamesRow.named == Tryd.prog.varsNamed 3)) = true := by kernel_rfl
theorem fact13 : ((Rows.wholeNamesRow.maps == (Tryd.f3.params.toList ++ (OpenSpec.ofChange Rows.wholeNamesSpec).bare.plain.varTypes Tryd.prog).any (Tryd.prog.mapsRec ·))) = true := by kernel_rfl
theorem fact14 : ((Rows.wholeNamesRow.ifaces == (Tryd.f3.params.toList ++ (OpenSpec.ofChange Rows.wholeNamesSpec).bare.plain.varTypes Tryd.prog).any (Tryd.prog.ifacesRec ·))) = true := by kernel_rfl
theorem fact15 : ((Rows.wholeNamesRow.mapsOut == Tryd.prog.mapsAmong Tryd.f3.resultTypes.toList)) = true := by kernel_rfl
theorem fact16 : ((Rows.wholeNamesRow.loops == (Tryd.f3.params.toList ++ (OpenSpec.ofChange Rows.wholeNamesSpec).bare.plain.varTypes Tryd.prog).any (Tryd.prog.loopsFrom ·))) = true := by kernel_rfl
theorem fact17 : ((Rows.wholeNamesRow.wideKeys == (Tryd.f3.params.toList ++ (OpenSpec.ofChange Rows.wholeNamesSpec).bare.plain.varTypes Tryd.prog ++ Tryd.f3.resultTypes.toList).any (Tryd.prog.wideKeysFrom ·))) = true := by kernel_rfl
theorem fact18 : ((OpenSpec.ofChange Rows.wholeNamesSpec).bare.vars.all (Tryd.prog.varReadable ·)) = true := by kernel_rfl
theorem fact19 : (Tryd.f3.resultTypes.all (fun t => Tryd.prog.readableRec t && decide (t < Tryd.prog.types.size))) = true := by kernel_rfl
theorem fact20 : ((Rows.wholeNamesRow.ifacesOut == Tryd.f3.resultTypes.toList.any (Tryd.prog.ifacesRec ·))) = true := by kernel_rfl
theorem fact21 : ((Rows.wholeNamesRow.loopsOut == Tryd.f3.resultTypes.toList.any (Tryd.prog.loopsFrom ·))) = true := by kernel_rfl
theorem fact22 : ((Rows.wholeNamesRow.plainKeys == Tryd.prog.plainKeys)) = true := by kernel_rfl
theorem fact23 : (Rows.wholeNamesRow.shortTexts.isNone) = true := by kernel_rfl
theorem fact24 : (Tryd.prog.stopsHeard) = true := by kernel_rfl
theorem fact25 : (Tryd.prog.mayEnter) = true := by kernel_rfl
theorem fact26 : ((Rows.wholeNamesRow.lifted == Tryd.prog.liftsFinal)) = true := by kernel_rfl
theorem fact27 : ((Tryd.prog.make == some Rows.wholeNamesRow.make)) = true := by kernel_rfl
theorem fact29 : ((Rows.wholeNamesRow.pinned == Rows.wholeNamesRow.pinnedBy)) = true := by kernel_rfl
theorem fact30 : ((Rows.wholeNamesRow.veiled == (Tryd.f3.params.toList ++ (OpenSpec.ofChange Rows.wholeNamesSpec).bare.plain.varTypes Tryd.prog ++ Tryd.f3.resultTypes.toList).any (Tryd.prog.veiledRec ·))) = true := by kernel_rfl
theorem fact31 : (Rows.wholeNamesRow.veiledFits Tryd.prog Tryd.f3.params.toList (Tryd.f3.params.toList ++ (OpenSpec.ofChange Rows.wholeNamesSpec).bare.plain.varTypes Tryd.prog ++ Tryd.f3.resultTypes.toList)) = true := by kernel_rfl
theorem closed : joinedFacts Tryd.prog 3 Tryd.f3 (OpenSpec.ofChange Rows.wholeNamesSpec).bare Rows.wholeNamesRow = true :=
  facts_of fact0 fact1 fact2 fact3 fact4 fact5 fact6 fact7 fact8 fact9 fact10 fact11 fact12 fact13 fact14 fact15 fact16 fact17 fact18 fact19 fact20 fact21 fact22 fact23 fact24 fact25 fact26 fact27 (by kernel_rfl) fact29 fact30 fact31
theorem named : Tryd.prog.funcNamed Rows.wholeNamesRow.func = some 3 := by kernel_rfl
theorem instanced : Tryd.f3.isInstance Tryd.prog Rows.wholeNamesRow.origin Rows.wholeNamesRow.targs := of_decide_eq_true (by kernel_rfl)
theorem wrapped : Tryd.f3.isWrapper Tryd.prog Rows.wholeNamesRow.wrapper Rows.wholeNamesRow.mainSum := by unfold Func.isWrapper; first | (rw [if_pos (by decide +kernel)]; kernel_rfl) | (rw [if_neg (by decide +kernel)]; exact ⟨rfl, rfl⟩)
theorem said : Rows.WholeNamesSaid :=
  OpenClaim.holds_of_cond 3 Tryd.f3 rfl rfl rfl rfl rfl rfl rfl ⟨rfl, rfl, rfl, rfl, rfl⟩ rfl rfl rfl rfl rfl named Tryd.func3 closed
    instanced wrapped
    (fun os started H enc _ F => by rw [OpenClaim.pre_eq_preRow]; exact lifted os started H enc F)

theorem plain (f : FuncId) (fn : Func) (hf : Tryd.pinned.checked.prog.funcNamed "concord/concordtop.WholeNames" = some f) (hfn : Tryd.pinned.checked.prog.funcs[f]? = some fn) :
    true = Tryd.pinned.checked.prog.looks [] ∧ ∀ (j : Nat) t, fn.params[j]? = some t → Tryd.pinned.checked.prog.wantsStandIn t = false := by
  obtain rfl : f = 3 := Option.some.inj ((show Tryd.prog.funcNamed "concord/concordtop.WholeNames" = some 3 by kernel_rfl).symm.trans hf) |>.symm
  obtain rfl : fn = Tryd.f3 := (Option.some.inj (Tryd.func3.symm.trans hfn)).symm
  have hall : Tryd.f3.params.toList.all (fun t => !Tryd.pinned.checked.prog.wantsStandIn t) = true := by kernel_rfl
  refine ⟨by kernel_rfl, fun j t ht => ?_⟩
  have := List.all_eq_true.1 hall t (by simpa using Array.mem_of_getElem? ht)
  simpa using this

/-- THE CARD -/
theorem card : Rows.WholeNamesCardSaid :=
  Claim7.holds_tied_plain_at .later [] _ _ _ _ said (fun _ h => by cases h) (by kernel_rfl) (fun _ h => by cases h) wholeNames_row_tie rfl ⟨rfl, rfl⟩ (by kernel_rfl) rfl plain (by kernel_rfl)
end Go.Proofs.YtjcllbkhhgfciaaDoor
