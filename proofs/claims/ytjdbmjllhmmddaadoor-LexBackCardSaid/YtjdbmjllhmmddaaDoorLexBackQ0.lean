/- Parts of the proof of a law, in build order: RowL, RowM. -/
import Derived.Test.YtjdbmjllhmmddaaDoorW12Q7
import Derived.Test.YtjdbmjllhmmddaaDoorCards
import Derived.Test.YtjdbmjllhmmddaaDoorTie
import Derived.WalkKit
import Derived.ProofKit
import Derived.OpenShut
import Derived.Deep.DeepHandedRow
import Derived.Deep.DeepWitnessRowRef
import Derived.Lib.LaidTab
import Derived.LaidMore
import Derived.LaidLaws
import Derived.Shelf.Vars
set_option maxRecDepth 2000
set_option linter.unusedVariables false
set_option linter.unusedSimpArgs false
/- The rows of the lexer's laws: what the listed variables give, one start that fits, from a call that answers true to the row. -/
set_option linter.unusedVariables false
set_option linter.unusedSimpArgs false
namespace Go.Proofs.YtjdbmjllhmmddaaDoor
open Go.AE Go.ChangeShapes Go.WideShapes Go.ChangeAt Go.RowKit

theorem own : ownKnob Tryd.prog.godebug = none := by kernel_rfl
theorem gA : Tryd.prog.globalNamed "math/bits.deBruijn32tab" = some 4 := by kernel_rfl
theorem gB : Tryd.prog.globalNamed "math/bits.deBruijn64tab" = some 5 := by kernel_rfl
theorem gC : Tryd.prog.globalNamed "internal/strconv.uint64pow10" = some 3 := by kernel_rfl
theorem gD : Tryd.prog.globalNamed "strconv.ErrRange" = some 2 := by kernel_rfl
theorem gE : Tryd.prog.globalNamed "strconv.ErrSyntax" = some 1 := by kernel_rfl
theorem tyC : (Tryd.prog.globals[3]?).map (·.type) = some 138 := by kernel_rfl
theorem tyD : (Tryd.prog.globals[2]?).map (·.type) = some 95 := by kernel_rfl
theorem tyE : (Tryd.prog.globals[1]?).map (·.type) = some 95 := by kernel_rfl
theorem c138 : Tryd.prog.cellsOf 138 = 20 := by kernel_rfl
theorem c31 : Tryd.prog.cellsOf 31 = 1 := by kernel_rfl
theorem c95 : Tryd.prog.cellsOf 95 = 1 := by kernel_rfl
theorem star : "*" ++ "errors.errorString" = "*errors.errorString" := by decide
theorem row145 (u : TypeId) (h : Tryd.prog.typeName? 3 u = some "*errors.errorString") : u = 145 :=
  typeName_ptr_named (nm := "errors.errorString") (by rw [star]; kernel_rfl) (by kernel_rfl) (by decide) u (by rw [star]; exact h)

theorem gat_of_cells {W : World} {g : Nat} {cs : List AV} {vs : Array Value} (hv : ∃ e f, W.heap[g]? = some (.cells vs e f)) (hl : cs.length = vs.size) (h1 : ∀ x ∈ vs.toList, x.oneCell' = true) (hc : CRs (viewOf W) cs vs.toList) : GAt (viewOf W) g cs := by
  obtain ⟨e, f, hh⟩ := hv
  refine (show CR (viewOf W) (.dat cs) _ from ?_)
  simp only [CR]
  refine ⟨g, 0, rfl, lt_of_heap hh, ?_, ?_⟩
  · simp [viewOf, hh, hl]
  · refine CRat_of_list hc h1 fun j v hj => ?_
    show W.cell? _ = _
    rw [Nat.zero_add]
    simpa [World.cell?, hh] using hj

/-- A listed error. -/
theorem sentinel_cell {W : World} {g fuel : Nat} {cs : Array Value} {y : DataW Unit} {p : List MemPlace} {name : String} (hg : Tryd.prog.globalNamed name = some g) (hv : W.var? Tryd.prog name = some cs)
    (hd : DataW.trod (fun _ => ()) Tryd.prog W 0 (fun _ => true) false fuel 95 cs.toList = some (.iface "*errors.errorString" y, p)) : GAt (viewOf W) g [.iface 145 .any] := by
  have hu : Tryd.prog.underlying 95 = some (.interface _) := Tryd.underlying95
  have hcell : ∃ e f, W.heap[g]? = some (.cells cs e f) := by
    unfold World.var? at hv
    rw [hg] at hv
    simp only [Option.bind_some] at hv
    split at hv
    · rename_i c e f hh; injection hv with hv; subst hv; exact ⟨e, f, hh⟩
    · cases hv
  have hcs : ∃ x, cs.toList = [.iface 145 x] := by
    cases fuel with
    | zero => simp [DataW.trod] at hd
    | succ fuel =>
      generalize cs.toList = l at hd
      rcases l with _ | ⟨v, _ | ⟨v2, l⟩⟩
      · simp [DataW.trod, hu] at hd
      · cases v with
        | iface u v =>
          simp only [DataW.trod, hu] at hd
          cases hn : Tryd.prog.typeName? 3 u with
          | none => simp [hn] at hd
          | some nm =>
            simp only [hn, Option.map_eq_some_iff, Prod.mk.injEq, DataW.iface.injEq] at hd
            obtain ⟨a, _, ⟨rfl, _⟩, _⟩ := hd
            obtain rfl := row145 u hn
            exact ⟨v, rfl⟩
        | _ => simp [DataW.trod, hu] at hd
      · simp [DataW.trod, hu] at hd
  obtain ⟨x, hx⟩ := hcs
  have hsz : cs.size = 1 := by rw [← Array.length_toList, hx]; rfl
  exact gat_of_cells hcell (by rw [hsz]; rfl) (by rw [hx]; simp [Value.oneCell']) (by rw [hx]; simp [CRs, CR])

theorem gok {W : World} (hL : laidMetH Tryd.prog Rows.lexNamesRow.laid W) (hsh : W.ShapedOpen Tryd.prog) : GOK (viewOf W) := by
  rw [MakeChecks.laidMetH_plain _ _ _ (by kernel_rfl)] at hL
  obtain ⟨ps, ⟨g0, t0, cs0, f0, p0, q0, hg0, ht0, hv0, hd0, ⟨g1, t1, cs1, f1, p1, q1, hg1, ht1, hv1, hd1, ⟨g2, t2, cs2, f2, p2, q2, hg2, ht2, hv2, hd2, ⟨g3, t3, cs3, f3, p3, q3, hg3, ht3, hv3, hd3, ⟨g4, t4, cs4, f4, p4, q4, hg4, ht4, hv4, hd4, _, _⟩, _⟩, _⟩, _⟩, _⟩, _, _⟩ := hL
  obtain rfl := Option.some.inj (gC.symm.trans hg2)
  obtain rfl := Option.some.inj (gD.symm.trans hg3)
  obtain rfl := Option.some.inj (gE.symm.trans hg4)
  obtain rfl := Option.some.inj (tyC.symm.trans ht2)
  obtain rfl := Option.some.inj (tyD.symm.trans ht3)
  obtain rfl := Option.some.inj (tyE.symm.trans ht4)
  refine ⟨⟨sentinel_cell gE hv4 hd4, sentinel_cell gD hv3 hd3, ?_, trivial⟩, ?_⟩
  · have hc := Lib.cells_of_tab (zs := Lib.pow10Tab) Tryd.underlying138 Tryd.underlying31 c31 c138 hd2
    have hcell : ∃ e f, W.heap[3]? = some (.cells cs2 e f) := by
      unfold World.var? at hv2
      rw [gC] at hv2
      simp only [Option.bind_some] at hv2
      split at hv2
      · rename_i c e f hh; injection hv2 with hv2; subst hv2; exact ⟨e, f, hh⟩
      · cases hv2
    have e20 : Lib.pow10Tab = [1, 10, 100, 1000, 10000, 100000, 1000000, 10000000, 100000000, 1000000000, 10000000000, 100000000000, 1000000000000, 10000000000000, 100000000000000, 1000000000000000, 10000000000000000, 100000000000000000, 1000000000000000000, 10000000000000000000] := by decide
    have hsz : cs2.size = 20 := by rw [← Array.length_toList, hc]; rfl
    refine gat_of_cells hcell (by rw [hsz]; rfl) (by rw [hc, e20]; simp [Value.oneCell']) (by rw [hc, e20]; simp [CRs, CR])
  · intro x hx
    have : x = 0 := by simpa [theInt] using hx
    subst this
    have hg6 : 0 < Tryd.prog.globals.size := by rw [show Tryd.prog.globals.size = 6 by kernel_rfl]; decide
    obtain ⟨m, hm⟩ := cell_of_shapedOpen_int (g := 0) (t := 3) (zero := #[.int .i64 0]) (k := .i64) hsh hg6 (by kernel_rfl) rfl (by kernel_rfl) (by kernel_rfl) Tryd.underlying3
    refine ⟨m, ?_⟩
    have hm2 : ∃ c e f, W.heap[0]? = some (.cells c e f) ∧ c[0]? = some (.int .i64 m) := by
      unfold World.cell? at hm
      simp only at hm
      split at hm
      · rename_i c e f hh; exact ⟨c, e, f, hh, by simpa using hm⟩
      · cases hm
    obtain ⟨c, e, f, hh, hc⟩ := hm2
    refine (show CR (viewOf W) (.dat _) _ from ?_)
    simp only [CR]
    refine ⟨0, 0, rfl, lt_of_heap hh, ?_, ?_⟩
    · have := (Array.getElem?_eq_some_iff.1 hc).1
      simp [viewOf, hh]; omega
    · simp only [CRat, CR, and_true]
      exact ⟨_, hm, rfl, rfl⟩
end Go.Proofs.YtjdbmjllhmmddaaDoor

/- From a call that answers true, and turns nothing of what was there, to the row's condition behind the call. -/
set_option linter.unusedVariables false
namespace Go
open Go.RowKit Go.ChangeShapes Go.ChangeAt
variable {H : Type} {enc : TypeId × Value → H} {P : Program}
theorem post_of_below {f : Func} {s : ChangeSpec} {apart fresh handsOn again : Bool} {W W' : World} {args : Array Value} {v : Value} {ds gs : List (DataW H)} {before pa pv : List MemPlace}
    (hW : DataW.Whole enc P f.params.toList s.vars apart W args.toList ds gs before)
    (hres : ∀ (b : Nat) (sp : Nat → Bool) (hd : Bool), DataW.TrodAll enc P W' b sp hd f.resultTypes.toList (v.resultList f.resultTypes.size) (s.fn H (ds ++ gs)).results [])
    (hargs : ∀ sp : Nat → Bool, (∀ p ∈ before, sp p.block = true) → DataW.TrodAll enc P W' 0 sp true f.params.toList args.toList (s.fn H (ds ++ gs)).args pa)
    (hvars : ∀ sp : Nat → Bool, (∀ p ∈ before, sp p.block = true) → DataW.TrodVars enc P W' sp s.vars (s.fn H (ds ++ gs)).vars pv)
    (hps : before = pa ++ pv) (hb : Below W.heap.size W W')
    (hok : ∀ (j : Nat) (t : TypeId) (r : Value), f.resultTypes[j]? = some t → (v.resultList f.resultTypes.size)[j]? = some r → Value.okWide P W' .any 0 t r) :
    s.post enc P f apart fresh handsOn again W args v W' := by
  have hold : ∀ p ∈ before, (fun b => decide (b < W.heap.size)) p.block = true := fun p hp => by simpa using hW.lt p hp
  have hlt : ∀ p ∈ before, p.block < W.heap.size := fun p hp => hW.lt p hp
  refine ⟨ds, gs, before, [], pa, pv, hW, hres _ _ _, hargs _ hold, hvars _ hold, World.keptBut_mono (fun p hp => ⟨hp, ?_⟩) (hb.frame (· ∈ before)), fun _ => ?_⟩
  · rw [hps, List.mem_append] at hp
    exact Or.inr hp
  · obtain ⟨_, _, _, _, _, hz, hn⟩ := hW
    refine ⟨hok, _, _, ([] ++ pa) ++ pv, ⟨[] ++ pa, pv, trodAll_append (hargs _ (fun _ _ => rfl)) (hres _ _ _), hvars _ (fun _ _ => rfl), rfl, ?_, ?_⟩, ?_⟩
    · intro b off hp
      have hp' : MemPlace.cell b off ∈ before := by rw [hps]; simpa using hp
      rw [hb.frozen (p := ⟨b, off, none⟩) (hlt _ hp')]
      exact hz b off hp'
    · intro ha
      have := hn ha
      rw [hps] at this
      simpa using this
    · intro p hp _
      rw [hps]
      simpa using hp
end Go

