/- Parts of the proof of a law, in build order: RowL, RowM, RowN, P9, Ae24, PN, PN2, PSim, PSim3, PSim4, P12, PSz, LexT, LexU. -/
import Derived.Test.YtjdbmjllhmmddaaDoorP8Q8
import Derived.Test.YtjdbmjllhmmddaaDoorCards
import Derived.Test.YtjdbmjllhmmddaaDoorTie
import Derived.WalkKit
import Derived.ProofKit
import Derived.OpenShut
import Derived.Deep.DeepHandedRow
import Derived.Deep.DeepWitnessRowRef
import Derived.Lib.LaidTab
import Derived.LaidMore
import Derived.LaidLaws
import Derived.Shelf.Vars
import Derived.IntWalk
import Derived.Laws.IdiomStrings
set_option maxRecDepth 2000
set_option linter.unusedVariables false
set_option linter.unusedSimpArgs false
/- The rows of the lexer's laws: what the listed variables give, one start that fits, from a call that answers true to the row. -/
set_option linter.unusedVariables false
set_option linter.unusedSimpArgs false
namespace Go.Proofs.YtjdbmjllhmmddaaDoor
open Go.AE Go.ChangeShapes Go.WideShapes Go.ChangeAt Go.RowKit

theorem own : ownKnob Tryd.prog.godebug = none := by kernel_rfl
theorem gA : Tryd.prog.globalNamed "math/bits.deBruijn32tab" = some 4 := by kernel_rfl
theorem gB : Tryd.prog.globalNamed "math/bits.deBruijn64tab" = some 5 := by kernel_rfl
theorem gC : Tryd.prog.globalNamed "internal/strconv.uint64pow10" = some 3 := by kernel_rfl
theorem gD : Tryd.prog.globalNamed "strconv.ErrRange" = some 2 := by kernel_rfl
theorem gE : Tryd.prog.globalNamed "strconv.ErrSyntax" = some 1 := by kernel_rfl
theorem tyC : (Tryd.prog.globals[3]?).map (·.type) = some 138 := by kernel_rfl
theorem tyD : (Tryd.prog.globals[2]?).map (·.type) = some 95 := by kernel_rfl
theorem tyE : (Tryd.prog.globals[1]?).map (·.type) = some 95 := by kernel_rfl
theorem c138 : Tryd.prog.cellsOf 138 = 20 := by kernel_rfl
theorem c31 : Tryd.prog.cellsOf 31 = 1 := by kernel_rfl
theorem c95 : Tryd.prog.cellsOf 95 = 1 := by kernel_rfl
theorem star : "*" ++ "errors.errorString" = "*errors.errorString" := by decide
theorem row145 (u : TypeId) (h : Tryd.prog.typeName? 3 u = some "*errors.errorString") : u = 145 :=
  typeName_ptr_named (nm := "errors.errorString") (by rw [star]; kernel_rfl) (by kernel_rfl) (by decide) u (by rw [star]; exact h)

theorem gat_of_cells {W : World} {g : Nat} {cs : List AV} {vs : Array Value} (hv : ∃ e f, W.heap[g]? = some (.cells vs e f)) (hl : cs.length = vs.size) (h1 : ∀ x ∈ vs.toList, x.oneCell' = true) (hc : CRs (viewOf W) cs vs.toList) : GAt (viewOf W) g cs := by
  obtain ⟨e, f, hh⟩ := hv
  refine (show CR (viewOf W) (.dat cs) _ from ?_)
  simp only [CR]
  refine ⟨g, 0, rfl, lt_of_heap hh, ?_, ?_⟩
  · simp [viewOf, hh, hl]
  · refine CRat_of_list hc h1 fun j v hj => ?_
    show W.cell? _ = _
    rw [Nat.zero_add]
    simpa [World.cell?, hh] using hj

theorem sentinel_cell {W : World} {g fuel : Nat} {cs : Array Value} {y : DataW Unit} {p : List MemPlace} {name : String} (hg : Tryd.prog.globalNamed name = some g) (hv : W.var? Tryd.prog name = some cs)
    (hd : DataW.trod (fun _ => ()) Tryd.prog W 0 (fun _ => true) false fuel 95 cs.toList = some (.iface "*errors.errorString" y, p)) : GAt (viewOf W) g [.iface 145 .any] := by
  have hu : Tryd.prog.underlying 95 = some (.interface _) := Tryd.underlying95
  have hcell : ∃ e f, W.heap[g]? = some (.cells cs e f) := by
    unfold World.var? at hv
    rw [hg] at hv
    simp only [Option.bind_some] at hv
    split at hv
    · rename_i c e f hh; injection hv with hv; subst hv; exact ⟨e, f, hh⟩
    · cases hv
  have hcs : ∃ x, cs.toList = [.iface 145 x] := by
    cases fuel with
    | zero => simp [DataW.trod] at hd
    | succ fuel =>
      generalize cs.toList = l at hd
      rcases l with _ | ⟨v, _ | ⟨v2, l⟩⟩
      · simp [DataW.trod, hu] at hd
      · cases v with
        | iface u v =>
          simp only [DataW.trod, hu] at hd
          cases hn : Tryd.prog.typeName? 3 u with
          | none => simp [hn] at hd
          | some nm =>
            simp only [hn, Option.map_eq_some_iff, Prod.mk.injEq, DataW.iface.injEq] at hd
            obtain ⟨a, _, ⟨rfl, _⟩, _⟩ := hd
            obtain rfl := row145 u hn
            exact ⟨v, rfl⟩
        | _ => simp [DataW.trod, hu] at hd
      · simp [DataW.trod, hu] at hd
  obtain ⟨x, hx⟩ := hcs
  have hsz : cs.size = 1 := by rw [← Array.length_toList, hx]; rfl
  exact gat_of_cells hcell (by rw [hsz]; rfl) (by rw [hx]; simp [Value.oneCell']) (by rw [hx]; simp [CRs, CR])

theorem gok {W : World} (hL : laidMetH Tryd.prog Rows.lexNamesRow.laid W) (hsh : W.ShapedOpen Tryd.prog) : GOK (viewOf W) := by
  rw [MakeChecks.laidMetH_plain _ _ _ (by kernel_rfl)] at hL
  obtain ⟨ps, ⟨g0, t0, cs0, f0, p0, q0, hg0, ht0, hv0, hd0, ⟨g1, t1, cs1, f1, p1, q1, hg1, ht1, hv1, hd1, ⟨g2, t2, cs2, f2, p2, q2, hg2, ht2, hv2, hd2, ⟨g3, t3, cs3, f3, p3, q3, hg3, ht3, hv3, hd3, ⟨g4, t4, cs4, f4, p4, q4, hg4, ht4, hv4, hd4, _, _⟩, _⟩, _⟩, _⟩, _⟩, _, _⟩ := hL
  obtain rfl := Option.some.inj (gC.symm.trans hg2)
  obtain rfl := Option.some.inj (gD.symm.trans hg3)
  obtain rfl := Option.some.inj (gE.symm.trans hg4)
  obtain rfl := Option.some.inj (tyC.symm.trans ht2)
  obtain rfl := Option.some.inj (tyD.symm.trans ht3)
  obtain rfl := Option.some.inj (tyE.symm.trans ht4)
  refine ⟨⟨sentinel_cell gE hv4 hd4, sentinel_cell gD hv3 hd3, ?_, trivial⟩, ?_⟩
  · have hc := Lib.cells_of_tab (zs := Lib.pow10Tab) Tryd.underlying138 Tryd.underlying31 c31 c138 hd2
    have hcell : ∃ e f, W.heap[3]? = some (.cells cs2 e f) := by
      unfold World.var? at hv2
      rw [gC] at hv2
      simp only [Option.bind_some] at hv2
      split at hv2
      · rename_i c e f hh; injection hv2 with hv2; subst hv2; exact ⟨e, f, hh⟩
      · cases hv2
    have e20 : Lib.pow10Tab = [1, 10, 100, 1000, 10000, 100000, 1000000, 10000000, 100000000, 1000000000, 10000000000, 100000000000, 1000000000000, 10000000000000, 100000000000000, 1000000000000000, 10000000000000000, 100000000000000000, 1000000000000000000, 10000000000000000000] := by decide
    have hsz : cs2.size = 20 := by rw [← Array.length_toList, hc]; rfl
    refine gat_of_cells hcell (by rw [hsz]; rfl) (by rw [hc, e20]; simp [Value.oneCell']) (by rw [hc, e20]; simp [CRs, CR])
  · intro x hx
    have : x = 0 := by simpa [theInt] using hx
    subst this
    have hg6 : 0 < Tryd.prog.globals.size := by rw [show Tryd.prog.globals.size = 6 by kernel_rfl]; decide
    obtain ⟨m, hm⟩ := cell_of_shapedOpen_int (g := 0) (t := 3) (zero := #[.int .i64 0]) (k := .i64) hsh hg6 (by kernel_rfl) rfl (by kernel_rfl) (by kernel_rfl) Tryd.underlying3
    refine ⟨m, ?_⟩
    have hm2 : ∃ c e f, W.heap[0]? = some (.cells c e f) ∧ c[0]? = some (.int .i64 m) := by
      unfold World.cell? at hm
      simp only at hm
      split at hm
      · rename_i c e f hh; exact ⟨c, e, f, hh, by simpa using hm⟩
      · cases hm
    obtain ⟨c, e, f, hh, hc⟩ := hm2
    refine (show CR (viewOf W) (.dat _) _ from ?_)
    simp only [CR]
    refine ⟨0, 0, rfl, lt_of_heap hh, ?_, ?_⟩
    · have := (Array.getElem?_eq_some_iff.1 hc).1
      simp [viewOf, hh]; omega
    · simp only [CRat, CR, and_true]
      exact ⟨_, hm, rfl, rfl⟩
end Go.Proofs.YtjdbmjllhmmddaaDoor

/- From a call that answers true, and turns nothing of what was there, to the row's condition behind the call. -/
set_option linter.unusedVariables false
namespace Go
open Go.RowKit Go.ChangeShapes Go.ChangeAt
variable {H : Type} {enc : TypeId × Value → H} {P : Program}
theorem post_of_below {f : Func} {s : ChangeSpec} {apart fresh handsOn again : Bool} {W W' : World} {args : Array Value} {v : Value} {ds gs : List (DataW H)} {before pa pv : List MemPlace}
    (hW : DataW.Whole enc P f.params.toList s.vars apart W args.toList ds gs before)
    (hres : ∀ (b : Nat) (sp : Nat → Bool) (hd : Bool), DataW.TrodAll enc P W' b sp hd f.resultTypes.toList (v.resultList f.resultTypes.size) (s.fn H (ds ++ gs)).results [])
    (hargs : ∀ sp : Nat → Bool, (∀ p ∈ before, sp p.block = true) → DataW.TrodAll enc P W' 0 sp true f.params.toList args.toList (s.fn H (ds ++ gs)).args pa)
    (hvars : ∀ sp : Nat → Bool, (∀ p ∈ before, sp p.block = true) → DataW.TrodVars enc P W' sp s.vars (s.fn H (ds ++ gs)).vars pv)
    (hps : before = pa ++ pv) (hb : Below W.heap.size W W')
    (hok : ∀ (j : Nat) (t : TypeId) (r : Value), f.resultTypes[j]? = some t → (v.resultList f.resultTypes.size)[j]? = some r → Value.okWide P W' .any 0 t r) :
    s.post enc P f apart fresh handsOn again W args v W' := by
  have hold : ∀ p ∈ before, (fun b => decide (b < W.heap.size)) p.block = true := fun p hp => by simpa using hW.lt p hp
  have hlt : ∀ p ∈ before, p.block < W.heap.size := fun p hp => hW.lt p hp
  refine ⟨ds, gs, before, [], pa, pv, hW, hres _ _ _, hargs _ hold, hvars _ hold, World.keptBut_mono (fun p hp => ⟨hp, ?_⟩) (hb.frame (· ∈ before)), fun _ => ?_⟩
  · rw [hps, List.mem_append] at hp
    exact Or.inr hp
  · obtain ⟨_, _, _, _, _, hz, hn⟩ := hW
    refine ⟨hok, _, _, ([] ++ pa) ++ pv, ⟨[] ++ pa, pv, trodAll_append (hargs _ (fun _ _ => rfl)) (hres _ _ _), hvars _ (fun _ _ => rfl), rfl, ?_, ?_⟩, ?_⟩
    · intro b off hp
      have hp' : MemPlace.cell b off ∈ before := by rw [hps]; simpa using hp
      rw [hb.frozen (p := ⟨b, off, none⟩) (hlt _ hp')]
      exact hz b off hp'
    · intro ha
      have := hn ha
      rw [hps] at this
      simpa using this
    · intro p hp _
      rw [hps]
      simpa using hp
end Go

/- An int of 64 bits lies within its bounds. -/
namespace Go
theorem int_lo {n : Int} (h : (Lit.int .i64 n).wf = true) : -9223372036854775808 ≤ n := by
  simp only [Lit.wf, Bool.and_eq_true, decide_eq_true_eq] at h
  have : IntKind.i64.min = -9223372036854775808 := by decide
  omega
theorem int_hi {n : Int} (h : (Lit.int .i64 n).wf = true) : n ≤ 9223372036854775807 := by
  simp only [Lit.wf, Bool.and_eq_true, decide_eq_true_eq] at h
  have : IntKind.i64.max = 9223372036854775807 := by decide
  omega
end Go

set_option linter.unusedVariables false
set_option linter.unusedSimpArgs false
set_option maxRecDepth 4000
namespace Go.AE
open Go.Proofs

def aT1 : List UInt8 := [116, 104, 114, 101, 97, 100, 32, 123, 32, 112, 114, 105, 110, 116, 32, 49, 32, 43, 32, 50, 32, 42, 32, 51, 59, 32, 125]
def aT2 : List UInt8 := [116, 104, 114, 101, 97, 100, 32, 123, 32, 112, 114, 105, 110, 116, 32, 59, 32, 125]
def aL1 : List Tok := (lexS aT1).1
def aL2 : List Tok := (lexS aT2).1
theorem aLex1 : lexS aT1 = (aL1, 0, 0, 0) := by decide +kernel
theorem aLex2 : lexS aT2 = (aL2, 0, 0, 0) := by decide +kernel
theorem aPar1 : parseAV (programF 200 aL1 pgZ ⟨0, 0⟩) = .tuple [.agg [.slice [] 0 .no, .slice [] 0 .no, .slice [] 0 .no, .slice [.slice [.i 5, .str [], .i 0, .i 0, .i 0, .int .u64 0, .i 0, .str [], .str [], .slice [] 0 .no, .i 0, .i 0, .i 0, .str [], .str [], .i 0, .i 0, .int .u64 0, .i 0, .str [], .str [], .slice [] 0 .no, .i 0, .i 0, .i 0, .i 0, .str [], .i 0, .i 0, .i 0, .str [], .str [], .i 0, .i 0, .int .u64 0, .i 0, .str [], .str [], .slice [] 0 .no, .i 0, .i 0, .i 0, .i 0, .i 9, .i 0, .int .u64 0, .i 0, .str [], .str [], .slice [.i 1, .i 0, .int .u64 1, .i 0, .str [], .str [], .slice [] 0 .no, .i 1, .i 16, .i 9, .i 2, .int .u64 0, .i 0, .str [], .str [], .slice [.i 1, .i 0, .int .u64 2, .i 0, .str [], .str [], .slice [] 0 .no, .i 1, .i 20, .i 1, .i 0, .int .u64 3, .i 0, .str [], .str [], .slice [] 0 .no, .i 1, .i 24] 2 .no, .i 1, .i 22] 2 .no, .i 1, .i 18, .i 0, .slice [] 0 .no, .slice [] 0 .no, .slice [] 0 .no, .i 1, .i 10] 1 .no, .i 1, .i 1] 1 .no], .agg [.i 0, .i 0, .i 0]] := by kernel_rfl
theorem aPar2 : parseAV (programF 200 aL2 pgZ ⟨0, 0⟩) = .tuple [.agg [.slice [] 0 .exact, .slice [] 0 .exact, .slice [] 0 .exact, .slice [] 0 .exact], .agg [.i 4, .i 1, .i 16]] := by kernel_rfl
def R.isOut {α : Type} : R α → Bool
  | .out => true
  | _ => false
theorem R.not_out {α : Type} {x : R α} (h : x.isOut = false) : x ≠ .out := by rintro rfl; cases h
theorem aNe1 : programF 200 aL1 pgZ ⟨0, 0⟩ ≠ .out := R.not_out (by decide +kernel)
theorem aNe2 : programF 200 aL2 pgZ ⟨0, 0⟩ ≠ .out := R.not_out (by decide +kernel)

theorem alive5_walk  (σ : St)  : ACalls Tryd.prog 16 [] σ (fun e s => σ = s ∧ e = .ret (.bool true)) := by
  refine ACalls.enter hT Tryd.func16 rfl (by kernel_rfl) ?_
  refine ACode.seq ?_
  refine ACode.run hT nh [] (fr' := ⟨[], [], [], [], 0⟩) (σ' := σ) (ob := Tt 2) (by kernel_rfl) (tt 2) ?_
  refine ACode.seq ?_
  refine ACode.region ?_
  refine AOps.call (fid := 17) (cap := []) (avs := [.str [116, 104, 114, 101, 97, 100, 32, 123, 32, 112, 114, 105, 110, 116, 32, 49, 32, 43, 32, 50, 32, 42, 32, 51, 59, 32, 125]]) (by kernel_rfl) rfl (by kernel_rfl) (by kernel_rfl) en_17 (by kernel_rfl) (ACalls.mono (parse_ok aT1 aL1 aLex1 (by decide +kernel) 200 aNe1 _) ?_)
  rintro _ _ ⟨rfl, rfl⟩
  rw [aPar1]
  refine AOps.runN hT nh 7 [1, 2] (fr' := ⟨[(1, .loc 0 0), (2, .loc 1 0)], [[.slice [] 0 .no, .slice [] 0 .no, .slice [] 0 .no, .slice [.slice [.i 5, .str [], .i 0, .i 0, .i 0, .int .u64 0, .i 0, .str [], .str [], .slice [] 0 .no, .i 0, .i 0, .i 0, .str [], .str [], .i 0, .i 0, .int .u64 0, .i 0, .str [], .str [], .slice [] 0 .no, .i 0, .i 0, .i 0, .i 0, .str [], .i 0, .i 0, .i 0, .str [], .str [], .i 0, .i 0, .int .u64 0, .i 0, .str [], .str [], .slice [] 0 .no, .i 0, .i 0, .i 0, .i 0, .i 9, .i 0, .int .u64 0, .i 0, .str [], .str [], .slice [.i 1, .i 0, .int .u64 1, .i 0, .str [], .str [], .slice [] 0 .no, .i 1, .i 16, .i 9, .i 2, .int .u64 0, .i 0, .str [], .str [], .slice [.i 1, .i 0, .int .u64 2, .i 0, .str [], .str [], .slice [] 0 .no, .i 1, .i 20, .i 1, .i 0, .int .u64 3, .i 0, .str [], .str [], .slice [] 0 .no, .i 1, .i 24] 2 .no, .i 1, .i 22] 2 .no, .i 1, .i 18, .i 0, .slice [] 0 .no, .slice [] 0 .no, .slice [] 0 .no, .i 1, .i 10] 1 .no, .i 1, .i 1] 1 .no], [.i 0, .i 0, .i 0]], [], [], 0⟩) (σ' := σ) (ob := Tt 8) (by kernel_rfl) (tt 8) ?_
  refine AOps.nil ?_
  refine ACode.seq ?_
  refine ACode.region ?_
  refine AOps.call (fid := 17) (cap := []) (avs := [.str [116, 104, 114, 101, 97, 100, 32, 123, 32, 112, 114, 105, 110, 116, 32, 59, 32, 125]]) (by kernel_rfl) rfl (by kernel_rfl) (by kernel_rfl) en_17 (by kernel_rfl) (ACalls.mono (parse_ok aT2 aL2 aLex2 (by decide +kernel) 200 aNe2 _) ?_)
  rintro _ _ ⟨rfl, rfl⟩
  rw [aPar2]
  refine AOps.runN hT nh 7 [1, 2, 4] (fr' := ⟨[(1, .loc 0 0), (2, .loc 1 0), (4, .loc 3 0)], [[.slice [] 0 .no, .slice [] 0 .no, .slice [] 0 .no, .slice [.slice [.i 5, .str [], .i 0, .i 0, .i 0, .int .u64 0, .i 0, .str [], .str [], .slice [] 0 .no, .i 0, .i 0, .i 0, .str [], .str [], .i 0, .i 0, .int .u64 0, .i 0, .str [], .str [], .slice [] 0 .no, .i 0, .i 0, .i 0, .i 0, .str [], .i 0, .i 0, .i 0, .str [], .str [], .i 0, .i 0, .int .u64 0, .i 0, .str [], .str [], .slice [] 0 .no, .i 0, .i 0, .i 0, .i 0, .i 9, .i 0, .int .u64 0, .i 0, .str [], .str [], .slice [.i 1, .i 0, .int .u64 1, .i 0, .str [], .str [], .slice [] 0 .no, .i 1, .i 16, .i 9, .i 2, .int .u64 0, .i 0, .str [], .str [], .slice [.i 1, .i 0, .int .u64 2, .i 0, .str [], .str [], .slice [] 0 .no, .i 1, .i 20, .i 1, .i 0, .int .u64 3, .i 0, .str [], .str [], .slice [] 0 .no, .i 1, .i 24] 2 .no, .i 1, .i 22] 2 .no, .i 1, .i 18, .i 0, .slice [] 0 .no, .slice [] 0 .no, .slice [] 0 .no, .i 1, .i 10] 1 .no, .i 1, .i 1] 1 .no], [.i 0, .i 0, .i 0], [.slice [] 0 .exact, .slice [] 0 .exact, .slice [] 0 .exact, .slice [] 0 .exact], [.i 4, .i 1, .i 16]], [], [], 0⟩) (σ' := σ) (ob := Tt 8) (by kernel_rfl) (tt 8) ?_
  refine AOps.nil ?_
  refine ACode.seq ?_
  refine ACode.region ?_
  refine AOps.runN hT nh 63 [0] (fr' := ⟨[(0, .bool true)], [[.slice [] 0 .no, .slice [] 0 .no, .slice [] 0 .no, .slice [.slice [.i 5, .str [], .i 0, .i 0, .i 0, .int .u64 0, .i 0, .str [], .str [], .slice [] 0 .no, .i 0, .i 0, .i 0, .str [], .str [], .i 0, .i 0, .int .u64 0, .i 0, .str [], .str [], .slice [] 0 .no, .i 0, .i 0, .i 0, .i 0, .str [], .i 0, .i 0, .i 0, .str [], .str [], .i 0, .i 0, .int .u64 0, .i 0, .str [], .str [], .slice [] 0 .no, .i 0, .i 0, .i 0, .i 0, .i 9, .i 0, .int .u64 0, .i 0, .str [], .str [], .slice [.i 1, .i 0, .int .u64 1, .i 0, .str [], .str [], .slice [] 0 .no, .i 1, .i 16, .i 9, .i 2, .int .u64 0, .i 0, .str [], .str [], .slice [.i 1, .i 0, .int .u64 2, .i 0, .str [], .str [], .slice [] 0 .no, .i 1, .i 20, .i 1, .i 0, .int .u64 3, .i 0, .str [], .str [], .slice [] 0 .no, .i 1, .i 24] 2 .no, .i 1, .i 22] 2 .no, .i 1, .i 18, .i 0, .slice [] 0 .no, .slice [] 0 .no, .slice [] 0 .no, .i 1, .i 10] 1 .no, .i 1, .i 1] 1 .no], [.i 0, .i 0, .i 0], [.slice [] 0 .exact, .slice [] 0 .exact, .slice [] 0 .exact, .slice [] 0 .exact], [.i 4, .i 1, .i 16]], [], [], 0⟩) (σ' := σ) (ob := True ∧ True ∧ True ∧ True ∧ True ∧ True ∧ True ∧ True ∧ True ∧ True ∧ True ∧ True ∧ (0 ≤ (0 : Int) ∧ (0 : Int) < (1 : Nat) ∧ 0 * 3 ≤ ([.slice [.i 5, .str [], .i 0, .i 0, .i 0, .int .u64 0, .i 0, .str [], .str [], .slice [] 0 .no, .i 0, .i 0, .i 0, .str [], .str [], .i 0, .i 0, .int .u64 0, .i 0, .str [], .str [], .slice [] 0 .no, .i 0, .i 0, .i 0, .i 0, .str [], .i 0, .i 0, .i 0, .str [], .str [], .i 0, .i 0, .int .u64 0, .i 0, .str [], .str [], .slice [] 0 .no, .i 0, .i 0, .i 0, .i 0, .i 9, .i 0, .int .u64 0, .i 0, .str [], .str [], .slice [.i 1, .i 0, .int .u64 1, .i 0, .str [], .str [], .slice [] 0 .no, .i 1, .i 16, .i 9, .i 2, .int .u64 0, .i 0, .str [], .str [], .slice [.i 1, .i 0, .int .u64 2, .i 0, .str [], .str [], .slice [] 0 .no, .i 1, .i 20, .i 1, .i 0, .int .u64 3, .i 0, .str [], .str [], .slice [] 0 .no, .i 1, .i 24] 2 .no, .i 1, .i 22] 2 .no, .i 1, .i 18, .i 0, .slice [] 0 .no, .slice [] 0 .no, .slice [] 0 .no, .i 1, .i 10] 1 .no, .i 1, .i 1] : List AV).length) ∧ (0 ≤ ([.slice [.i 5, .str [], .i 0, .i 0, .i 0, .int .u64 0, .i 0, .str [], .str [], .slice [] 0 .no, .i 0, .i 0, .i 0, .str [], .str [], .i 0, .i 0, .int .u64 0, .i 0, .str [], .str [], .slice [] 0 .no, .i 0, .i 0, .i 0, .i 0, .str [], .i 0, .i 0, .i 0, .str [], .str [], .i 0, .i 0, .int .u64 0, .i 0, .str [], .str [], .slice [] 0 .no, .i 0, .i 0, .i 0, .i 0, .i 9, .i 0, .int .u64 0, .i 0, .str [], .str [], .slice [.i 1, .i 0, .int .u64 1, .i 0, .str [], .str [], .slice [] 0 .no, .i 1, .i 16, .i 9, .i 2, .int .u64 0, .i 0, .str [], .str [], .slice [.i 1, .i 0, .int .u64 2, .i 0, .str [], .str [], .slice [] 0 .no, .i 1, .i 20, .i 1, .i 0, .int .u64 3, .i 0, .str [], .str [], .slice [] 0 .no, .i 1, .i 24] 2 .no, .i 1, .i 22] 2 .no, .i 1, .i 18, .i 0, .slice [] 0 .no, .slice [] 0 .no, .slice [] 0 .no, .i 1, .i 10] 1 .no, .i 1, .i 1] : List AV).length) ∧ True ∧ True ∧ True ∧ True ∧ True ∧ True ∧ True ∧ (0 ≤ (0 : Int) ∧ (0 : Int) < (1 : Nat) ∧ 0 * 3 ≤ ([.slice [.i 5, .str [], .i 0, .i 0, .i 0, .int .u64 0, .i 0, .str [], .str [], .slice [] 0 .no, .i 0, .i 0, .i 0, .str [], .str [], .i 0, .i 0, .int .u64 0, .i 0, .str [], .str [], .slice [] 0 .no, .i 0, .i 0, .i 0, .i 0, .str [], .i 0, .i 0, .i 0, .str [], .str [], .i 0, .i 0, .int .u64 0, .i 0, .str [], .str [], .slice [] 0 .no, .i 0, .i 0, .i 0, .i 0, .i 9, .i 0, .int .u64 0, .i 0, .str [], .str [], .slice [.i 1, .i 0, .int .u64 1, .i 0, .str [], .str [], .slice [] 0 .no, .i 1, .i 16, .i 9, .i 2, .int .u64 0, .i 0, .str [], .str [], .slice [.i 1, .i 0, .int .u64 2, .i 0, .str [], .str [], .slice [] 0 .no, .i 1, .i 20, .i 1, .i 0, .int .u64 3, .i 0, .str [], .str [], .slice [] 0 .no, .i 1, .i 24] 2 .no, .i 1, .i 22] 2 .no, .i 1, .i 18, .i 0, .slice [] 0 .no, .slice [] 0 .no, .slice [] 0 .no, .i 1, .i 10] 1 .no, .i 1, .i 1] : List AV).length) ∧ (0 ≤ ([.slice [.i 5, .str [], .i 0, .i 0, .i 0, .int .u64 0, .i 0, .str [], .str [], .slice [] 0 .no, .i 0, .i 0, .i 0, .str [], .str [], .i 0, .i 0, .int .u64 0, .i 0, .str [], .str [], .slice [] 0 .no, .i 0, .i 0, .i 0, .i 0, .str [], .i 0, .i 0, .i 0, .str [], .str [], .i 0, .i 0, .int .u64 0, .i 0, .str [], .str [], .slice [] 0 .no, .i 0, .i 0, .i 0, .i 0, .i 9, .i 0, .int .u64 0, .i 0, .str [], .str [], .slice [.i 1, .i 0, .int .u64 1, .i 0, .str [], .str [], .slice [] 0 .no, .i 1, .i 16, .i 9, .i 2, .int .u64 0, .i 0, .str [], .str [], .slice [.i 1, .i 0, .int .u64 2, .i 0, .str [], .str [], .slice [] 0 .no, .i 1, .i 20, .i 1, .i 0, .int .u64 3, .i 0, .str [], .str [], .slice [] 0 .no, .i 1, .i 24] 2 .no, .i 1, .i 22] 2 .no, .i 1, .i 18, .i 0, .slice [] 0 .no, .slice [] 0 .no, .slice [] 0 .no, .i 1, .i 10] 1 .no, .i 1, .i 1] : List AV).length) ∧ True ∧ (0 ≤ (0 : Int) ∧ (0 : Int) < (1 : Nat) ∧ 0 * 58 ≤ ([.i 5, .str [], .i 0, .i 0, .i 0, .int .u64 0, .i 0, .str [], .str [], .slice [] 0 .no, .i 0, .i 0, .i 0, .str [], .str [], .i 0, .i 0, .int .u64 0, .i 0, .str [], .str [], .slice [] 0 .no, .i 0, .i 0, .i 0, .i 0, .str [], .i 0, .i 0, .i 0, .str [], .str [], .i 0, .i 0, .int .u64 0, .i 0, .str [], .str [], .slice [] 0 .no, .i 0, .i 0, .i 0, .i 0, .i 9, .i 0, .int .u64 0, .i 0, .str [], .str [], .slice [.i 1, .i 0, .int .u64 1, .i 0, .str [], .str [], .slice [] 0 .no, .i 1, .i 16, .i 9, .i 2, .int .u64 0, .i 0, .str [], .str [], .slice [.i 1, .i 0, .int .u64 2, .i 0, .str [], .str [], .slice [] 0 .no, .i 1, .i 20, .i 1, .i 0, .int .u64 3, .i 0, .str [], .str [], .slice [] 0 .no, .i 1, .i 24] 2 .no, .i 1, .i 22] 2 .no, .i 1, .i 18, .i 0, .slice [] 0 .no, .slice [] 0 .no, .slice [] 0 .no, .i 1, .i 10] : List AV).length) ∧ (0 ≤ ([.i 5, .str [], .i 0, .i 0, .i 0, .int .u64 0, .i 0, .str [], .str [], .slice [] 0 .no, .i 0, .i 0, .i 0, .str [], .str [], .i 0, .i 0, .int .u64 0, .i 0, .str [], .str [], .slice [] 0 .no, .i 0, .i 0, .i 0, .i 0, .str [], .i 0, .i 0, .i 0, .str [], .str [], .i 0, .i 0, .int .u64 0, .i 0, .str [], .str [], .slice [] 0 .no, .i 0, .i 0, .i 0, .i 0, .i 9, .i 0, .int .u64 0, .i 0, .str [], .str [], .slice [.i 1, .i 0, .int .u64 1, .i 0, .str [], .str [], .slice [] 0 .no, .i 1, .i 16, .i 9, .i 2, .int .u64 0, .i 0, .str [], .str [], .slice [.i 1, .i 0, .int .u64 2, .i 0, .str [], .str [], .slice [] 0 .no, .i 1, .i 20, .i 1, .i 0, .int .u64 3, .i 0, .str [], .str [], .slice [] 0 .no, .i 1, .i 24] 2 .no, .i 1, .i 22] 2 .no, .i 1, .i 18, .i 0, .slice [] 0 .no, .slice [] 0 .no, .slice [] 0 .no, .i 1, .i 10] : List AV).length) ∧ True ∧ True ∧ True ∧ True ∧ True ∧ True ∧ (0 ≤ (0 : Int) ∧ (0 : Int) < (1 : Nat) ∧ 0 * 3 ≤ ([.slice [.i 5, .str [], .i 0, .i 0, .i 0, .int .u64 0, .i 0, .str [], .str [], .slice [] 0 .no, .i 0, .i 0, .i 0, .str [], .str [], .i 0, .i 0, .int .u64 0, .i 0, .str [], .str [], .slice [] 0 .no, .i 0, .i 0, .i 0, .i 0, .str [], .i 0, .i 0, .i 0, .str [], .str [], .i 0, .i 0, .int .u64 0, .i 0, .str [], .str [], .slice [] 0 .no, .i 0, .i 0, .i 0, .i 0, .i 9, .i 0, .int .u64 0, .i 0, .str [], .str [], .slice [.i 1, .i 0, .int .u64 1, .i 0, .str [], .str [], .slice [] 0 .no, .i 1, .i 16, .i 9, .i 2, .int .u64 0, .i 0, .str [], .str [], .slice [.i 1, .i 0, .int .u64 2, .i 0, .str [], .str [], .slice [] 0 .no, .i 1, .i 20, .i 1, .i 0, .int .u64 3, .i 0, .str [], .str [], .slice [] 0 .no, .i 1, .i 24] 2 .no, .i 1, .i 22] 2 .no, .i 1, .i 18, .i 0, .slice [] 0 .no, .slice [] 0 .no, .slice [] 0 .no, .i 1, .i 10] 1 .no, .i 1, .i 1] : List AV).length) ∧ (0 ≤ ([.slice [.i 5, .str [], .i 0, .i 0, .i 0, .int .u64 0, .i 0, .str [], .str [], .slice [] 0 .no, .i 0, .i 0, .i 0, .str [], .str [], .i 0, .i 0, .int .u64 0, .i 0, .str [], .str [], .slice [] 0 .no, .i 0, .i 0, .i 0, .i 0, .str [], .i 0, .i 0, .i 0, .str [], .str [], .i 0, .i 0, .int .u64 0, .i 0, .str [], .str [], .slice [] 0 .no, .i 0, .i 0, .i 0, .i 0, .i 9, .i 0, .int .u64 0, .i 0, .str [], .str [], .slice [.i 1, .i 0, .int .u64 1, .i 0, .str [], .str [], .slice [] 0 .no, .i 1, .i 16, .i 9, .i 2, .int .u64 0, .i 0, .str [], .str [], .slice [.i 1, .i 0, .int .u64 2, .i 0, .str [], .str [], .slice [] 0 .no, .i 1, .i 20, .i 1, .i 0, .int .u64 3, .i 0, .str [], .str [], .slice [] 0 .no, .i 1, .i 24] 2 .no, .i 1, .i 22] 2 .no, .i 1, .i 18, .i 0, .slice [] 0 .no, .slice [] 0 .no, .slice [] 0 .no, .i 1, .i 10] 1 .no, .i 1, .i 1] : List AV).length) ∧ True ∧ (0 ≤ (0 : Int) ∧ (0 : Int) < (1 : Nat) ∧ 0 * 58 ≤ ([.i 5, .str [], .i 0, .i 0, .i 0, .int .u64 0, .i 0, .str [], .str [], .slice [] 0 .no, .i 0, .i 0, .i 0, .str [], .str [], .i 0, .i 0, .int .u64 0, .i 0, .str [], .str [], .slice [] 0 .no, .i 0, .i 0, .i 0, .i 0, .str [], .i 0, .i 0, .i 0, .str [], .str [], .i 0, .i 0, .int .u64 0, .i 0, .str [], .str [], .slice [] 0 .no, .i 0, .i 0, .i 0, .i 0, .i 9, .i 0, .int .u64 0, .i 0, .str [], .str [], .slice [.i 1, .i 0, .int .u64 1, .i 0, .str [], .str [], .slice [] 0 .no, .i 1, .i 16, .i 9, .i 2, .int .u64 0, .i 0, .str [], .str [], .slice [.i 1, .i 0, .int .u64 2, .i 0, .str [], .str [], .slice [] 0 .no, .i 1, .i 20, .i 1, .i 0, .int .u64 3, .i 0, .str [], .str [], .slice [] 0 .no, .i 1, .i 24] 2 .no, .i 1, .i 22] 2 .no, .i 1, .i 18, .i 0, .slice [] 0 .no, .slice [] 0 .no, .slice [] 0 .no, .i 1, .i 10] : List AV).length) ∧ (43 ≤ ([.i 5, .str [], .i 0, .i 0, .i 0, .int .u64 0, .i 0, .str [], .str [], .slice [] 0 .no, .i 0, .i 0, .i 0, .str [], .str [], .i 0, .i 0, .int .u64 0, .i 0, .str [], .str [], .slice [] 0 .no, .i 0, .i 0, .i 0, .i 0, .str [], .i 0, .i 0, .i 0, .str [], .str [], .i 0, .i 0, .int .u64 0, .i 0, .str [], .str [], .slice [] 0 .no, .i 0, .i 0, .i 0, .i 0, .i 9, .i 0, .int .u64 0, .i 0, .str [], .str [], .slice [.i 1, .i 0, .int .u64 1, .i 0, .str [], .str [], .slice [] 0 .no, .i 1, .i 16, .i 9, .i 2, .int .u64 0, .i 0, .str [], .str [], .slice [.i 1, .i 0, .int .u64 2, .i 0, .str [], .str [], .slice [] 0 .no, .i 1, .i 20, .i 1, .i 0, .int .u64 3, .i 0, .str [], .str [], .slice [] 0 .no, .i 1, .i 24] 2 .no, .i 1, .i 22] 2 .no, .i 1, .i 18, .i 0, .slice [] 0 .no, .slice [] 0 .no, .slice [] 0 .no, .i 1, .i 10] : List AV).length) ∧ (6 ≤ ([.i 9, .i 0, .int .u64 0, .i 0, .str [], .str [], .slice [.i 1, .i 0, .int .u64 1, .i 0, .str [], .str [], .slice [] 0 .no, .i 1, .i 16, .i 9, .i 2, .int .u64 0, .i 0, .str [], .str [], .slice [.i 1, .i 0, .int .u64 2, .i 0, .str [], .str [], .slice [] 0 .no, .i 1, .i 20, .i 1, .i 0, .int .u64 3, .i 0, .str [], .str [], .slice [] 0 .no, .i 1, .i 24] 2 .no, .i 1, .i 22] 2 .no, .i 1, .i 18, .i 0, .slice [] 0 .no, .slice [] 0 .no, .slice [] 0 .no, .i 1, .i 10] : List AV).length) ∧ True ∧ True ∧ True ∧ True ∧ True ∧ True ∧ True ∧ (0 ≤ (0 : Int) ∧ (0 : Int) < (1 : Nat) ∧ 0 * 3 ≤ ([.slice [.i 5, .str [], .i 0, .i 0, .i 0, .int .u64 0, .i 0, .str [], .str [], .slice [] 0 .no, .i 0, .i 0, .i 0, .str [], .str [], .i 0, .i 0, .int .u64 0, .i 0, .str [], .str [], .slice [] 0 .no, .i 0, .i 0, .i 0, .i 0, .str [], .i 0, .i 0, .i 0, .str [], .str [], .i 0, .i 0, .int .u64 0, .i 0, .str [], .str [], .slice [] 0 .no, .i 0, .i 0, .i 0, .i 0, .i 9, .i 0, .int .u64 0, .i 0, .str [], .str [], .slice [.i 1, .i 0, .int .u64 1, .i 0, .str [], .str [], .slice [] 0 .no, .i 1, .i 16, .i 9, .i 2, .int .u64 0, .i 0, .str [], .str [], .slice [.i 1, .i 0, .int .u64 2, .i 0, .str [], .str [], .slice [] 0 .no, .i 1, .i 20, .i 1, .i 0, .int .u64 3, .i 0, .str [], .str [], .slice [] 0 .no, .i 1, .i 24] 2 .no, .i 1, .i 22] 2 .no, .i 1, .i 18, .i 0, .slice [] 0 .no, .slice [] 0 .no, .slice [] 0 .no, .i 1, .i 10] 1 .no, .i 1, .i 1] : List AV).length) ∧ (0 ≤ ([.slice [.i 5, .str [], .i 0, .i 0, .i 0, .int .u64 0, .i 0, .str [], .str [], .slice [] 0 .no, .i 0, .i 0, .i 0, .str [], .str [], .i 0, .i 0, .int .u64 0, .i 0, .str [], .str [], .slice [] 0 .no, .i 0, .i 0, .i 0, .i 0, .str [], .i 0, .i 0, .i 0, .str [], .str [], .i 0, .i 0, .int .u64 0, .i 0, .str [], .str [], .slice [] 0 .no, .i 0, .i 0, .i 0, .i 0, .i 9, .i 0, .int .u64 0, .i 0, .str [], .str [], .slice [.i 1, .i 0, .int .u64 1, .i 0, .str [], .str [], .slice [] 0 .no, .i 1, .i 16, .i 9, .i 2, .int .u64 0, .i 0, .str [], .str [], .slice [.i 1, .i 0, .int .u64 2, .i 0, .str [], .str [], .slice [] 0 .no, .i 1, .i 20, .i 1, .i 0, .int .u64 3, .i 0, .str [], .str [], .slice [] 0 .no, .i 1, .i 24] 2 .no, .i 1, .i 22] 2 .no, .i 1, .i 18, .i 0, .slice [] 0 .no, .slice [] 0 .no, .slice [] 0 .no, .i 1, .i 10] 1 .no, .i 1, .i 1] : List AV).length) ∧ True ∧ (0 ≤ (0 : Int) ∧ (0 : Int) < (1 : Nat) ∧ 0 * 58 ≤ ([.i 5, .str [], .i 0, .i 0, .i 0, .int .u64 0, .i 0, .str [], .str [], .slice [] 0 .no, .i 0, .i 0, .i 0, .str [], .str [], .i 0, .i 0, .int .u64 0, .i 0, .str [], .str [], .slice [] 0 .no, .i 0, .i 0, .i 0, .i 0, .str [], .i 0, .i 0, .i 0, .str [], .str [], .i 0, .i 0, .int .u64 0, .i 0, .str [], .str [], .slice [] 0 .no, .i 0, .i 0, .i 0, .i 0, .i 9, .i 0, .int .u64 0, .i 0, .str [], .str [], .slice [.i 1, .i 0, .int .u64 1, .i 0, .str [], .str [], .slice [] 0 .no, .i 1, .i 16, .i 9, .i 2, .int .u64 0, .i 0, .str [], .str [], .slice [.i 1, .i 0, .int .u64 2, .i 0, .str [], .str [], .slice [] 0 .no, .i 1, .i 20, .i 1, .i 0, .int .u64 3, .i 0, .str [], .str [], .slice [] 0 .no, .i 1, .i 24] 2 .no, .i 1, .i 22] 2 .no, .i 1, .i 18, .i 0, .slice [] 0 .no, .slice [] 0 .no, .slice [] 0 .no, .i 1, .i 10] : List AV).length) ∧ (43 ≤ ([.i 5, .str [], .i 0, .i 0, .i 0, .int .u64 0, .i 0, .str [], .str [], .slice [] 0 .no, .i 0, .i 0, .i 0, .str [], .str [], .i 0, .i 0, .int .u64 0, .i 0, .str [], .str [], .slice [] 0 .no, .i 0, .i 0, .i 0, .i 0, .str [], .i 0, .i 0, .i 0, .str [], .str [], .i 0, .i 0, .int .u64 0, .i 0, .str [], .str [], .slice [] 0 .no, .i 0, .i 0, .i 0, .i 0, .i 9, .i 0, .int .u64 0, .i 0, .str [], .str [], .slice [.i 1, .i 0, .int .u64 1, .i 0, .str [], .str [], .slice [] 0 .no, .i 1, .i 16, .i 9, .i 2, .int .u64 0, .i 0, .str [], .str [], .slice [.i 1, .i 0, .int .u64 2, .i 0, .str [], .str [], .slice [] 0 .no, .i 1, .i 20, .i 1, .i 0, .int .u64 3, .i 0, .str [], .str [], .slice [] 0 .no, .i 1, .i 24] 2 .no, .i 1, .i 22] 2 .no, .i 1, .i 18, .i 0, .slice [] 0 .no, .slice [] 0 .no, .slice [] 0 .no, .i 1, .i 10] : List AV).length) ∧ (6 ≤ ([.i 9, .i 0, .int .u64 0, .i 0, .str [], .str [], .slice [.i 1, .i 0, .int .u64 1, .i 0, .str [], .str [], .slice [] 0 .no, .i 1, .i 16, .i 9, .i 2, .int .u64 0, .i 0, .str [], .str [], .slice [.i 1, .i 0, .int .u64 2, .i 0, .str [], .str [], .slice [] 0 .no, .i 1, .i 20, .i 1, .i 0, .int .u64 3, .i 0, .str [], .str [], .slice [] 0 .no, .i 1, .i 24] 2 .no, .i 1, .i 22] 2 .no, .i 1, .i 18, .i 0, .slice [] 0 .no, .slice [] 0 .no, .slice [] 0 .no, .i 1, .i 10] : List AV).length) ∧ True ∧ (0 ≤ (1 : Int) ∧ (1 : Int) < (2 : Nat) ∧ 1 * 9 ≤ ([.i 1, .i 0, .int .u64 1, .i 0, .str [], .str [], .slice [] 0 .no, .i 1, .i 16, .i 9, .i 2, .int .u64 0, .i 0, .str [], .str [], .slice [.i 1, .i 0, .int .u64 2, .i 0, .str [], .str [], .slice [] 0 .no, .i 1, .i 20, .i 1, .i 0, .int .u64 3, .i 0, .str [], .str [], .slice [] 0 .no, .i 1, .i 24] 2 .no, .i 1, .i 22] : List AV).length) ∧ (1 ≤ ([.i 9, .i 2, .int .u64 0, .i 0, .str [], .str [], .slice [.i 1, .i 0, .int .u64 2, .i 0, .str [], .str [], .slice [] 0 .no, .i 1, .i 20, .i 1, .i 0, .int .u64 3, .i 0, .str [], .str [], .slice [] 0 .no, .i 1, .i 24] 2 .no, .i 1, .i 22] : List AV).length) ∧ True ∧ True ∧ True ∧ True ∧ True ∧ True ∧ True ∧ True ∧ True ∧ True) (by kernel_rfl) ⟨trivial, trivial, trivial, trivial, trivial, trivial, trivial, trivial, trivial, trivial, trivial, trivial, (by decide), (by decide), trivial, trivial, trivial, trivial, trivial, trivial, trivial, (by decide), (by decide), trivial, (by decide), (by decide), trivial, trivial, trivial, trivial, trivial, trivial, (by decide), (by decide), trivial, (by decide), (by decide), (by decide), trivial, trivial, trivial, trivial, trivial, trivial, trivial, (by decide), (by decide), trivial, (by decide), (by decide), (by decide), trivial, (by decide), (by decide), trivial, trivial, trivial, trivial, trivial, trivial, trivial, trivial, trivial, trivial⟩ ?_
  refine AOps.nil ?_
  refine ACode.ret ?_
  exact retQ.ret (.bool true) (by kernel_rfl) ⟨rfl, rfl⟩

def rep (o : List UInt8) : Nat → List UInt8
  | 0 => []
  | n + 1 => rep o n ++ o
def deepT0 (n : Nat) : List UInt8 := ((([116, 104, 114, 101, 97, 100, 32, 123, 32, 112, 114, 105, 110, 116, 32] ++ rep [40] n) ++ [49]) ++ rep [41] n) ++ [59, 32, 125]
def deepOK0 (n : Nat) : Bool :=
  let x := lexS (deepT0 n)
  (x.2.1 == 0 && x.2.2.1 == 0 && x.2.2.2 == 0 && decide (x.1.length ≤ 100000)) && (match programF 400 x.1 pgZ ⟨0, 0⟩ with
   | .ok _ _ => decide (n ≤ 11)
   | .bad a b c => decide (11 < n) && a == 10 && b == 1 && c == 27
   | .out => false)
def deepT1 (n : Nat) : List UInt8 := ((([116, 104, 114, 101, 97, 100, 32, 123, 32, 112, 114, 105, 110, 116, 32] ++ rep [45] n) ++ [49]) ++ rep [] n) ++ [59, 32, 125]
def deepOK1 (n : Nat) : Bool :=
  let x := lexS (deepT1 n)
  (x.2.1 == 0 && x.2.2.1 == 0 && x.2.2.2 == 0 && decide (x.1.length ≤ 100000)) && (match programF 400 x.1 pgZ ⟨0, 0⟩ with
   | .ok _ _ => decide (n ≤ 11)
   | .bad a b c => decide (11 < n) && a == 10 && b == 1 && c == 27
   | .out => false)
def deepT2 (n : Nat) : List UInt8 := (([116, 104, 114, 101, 97, 100, 32, 123] ++ rep [97, 116, 111, 109, 105, 99, 32, 123] n) ++ rep [125] n) ++ [125]
def deepOK2 (n : Nat) : Bool :=
  let x := lexS (deepT2 n)
  (x.2.1 == 0 && x.2.2.1 == 0 && x.2.2.2 == 0 && decide (x.1.length ≤ 100000)) && (match programF 400 x.1 pgZ ⟨0, 0⟩ with
   | .ok _ _ => decide (n ≤ 11)
   | .bad a b c => decide (11 < n) && a == 10 && b == 1 && c == 104
   | .out => false)

end Go.AE

/- string(bytes). -/
set_option linter.unusedVariables false
set_option linter.unusedSimpArgs false
namespace Go.AE
section
variable {P : Program} {T : Tab} {nt : Nat} {Q : APost} {fr : Fr} {σ : St}

theorem bytesAV_get {V : View} {b : List UInt8} {k o : Nat} (h : CRat V (bytesAV b) k o) (j : Nat) (hj : j < b.length) : V.w.cell? ⟨k, o + j, none⟩ = some (.int .u8 (b[j].toNat : Int)) := by
  induction b generalizing o j with
  | nil => simp at hj
  | cons c b ih =>
    simp only [bytesAV, List.map_cons, CRat] at h
    obtain ⟨⟨v, h1, _, h2⟩, h3⟩ := h
    cases j with
    | zero => simp only [CR] at h2; subst h2; simpa using h1
    | succ j =>
      have := ih h3 j (by simpa using hj)
      rw [show o + (j + 1) = o + 1 + j by omega]
      simpa using this

theorem AOps.textOf (hT : TabOK P T) {ops : Array Oper} {o : Oper} {rest : List Oper} {s d e by_ n : Nat} {x : Operand} {b : List UInt8} {cs : List AV} {own : Own} (hw : awanted ops o fr = some true) (ho : o.op = .convert s d x) (hd : dstOk nt o.dst = true) (hx : ev fr x = .slice cs n own)
    (hcs : cs = bytesAV b) (hl : n = b.length) (hne : b ≠ []) (hs : T.str d = true) (he : T.elm s = some (e, 1, false, by_)) (hi : T.int e = some .u8)
    (h : AOps P nt ops rest Q (fr.put o.dst (.str b)) σ) : AOps P nt ops (o :: rest) Q fr σ := by
  intro E g a w hn R
  have hdl := dstOk_lt hd
  rw [← hn] at hdl
  have hxv := VR_ev' R x
  rw [hx] at hxv
  obtain ⟨own', hown, hc⟩ : ∃ own', own'.plain = true ∧ CR g.V (.slice cs n own') (a.eval x) := by
    cases own with
    | tok t sz => exact ⟨.no, rfl, CR_of_VR hxv rfl⟩
    | exact => exact ⟨.exact, rfl, CR_of_VR hxv rfl⟩
    | no => exact ⟨.no, rfl, CR_of_VR hxv rfl⟩
  subst hcs
  subst hl
  simp only [CR] at hc
  obtain ⟨_, A, cap, hv, hcap, _, hA⟩ := hc
  rcases hA with ⟨_, h0, _⟩ | ⟨k, off, rfl, hk, hoff, hat⟩
  · cases b with
    | nil => exact absurd rfl hne
    | cons c b => simp [bytesAV] at h0
  have hws := awanted_sound R hw
  have hu := (hT.elm s e 1 false by_ he).1
  have hrun : (execOp a.eval o).run P w = .ok (.value (.string ⟨b.toArray⟩)) w := by
    have := run_convert_bytes_back (P := P) w s d e ⟨k, off, none⟩ cap b hu (hT.int e .u8 hi) (hT.str d hs) (fun j hj => by
      have := bytesAV_get hat j hj
      rw [R.w] at this
      rw [show (⟨k, off, none⟩ : Addr).add j = ⟨k, off + j, none⟩ from by unfold Addr.add; split <;> simp_all]
      exact this)
    simp only [execOp, ho, hv, Sem.run_bind, this, Result.andThen_ok, Sem.run_pure]
  exact wpList_take hws hrun (.inl rfl) (h E _ _ _ hn (R.put o.dst (VR_of_CR (v := Value.string ⟨b.toArray⟩) (by simp only [CR]; exact ⟨_, rfl, by simp⟩)) hdl))

theorem u8_ret (e : Int) (h1 : 0 ≤ e) (h2 : e < 256) : ((UInt8.ofNat e.toNat).toNat : Int) = e := by
  rw [UInt8.toNat_ofNat']
  omega
end
end Go.AE

/- The reader of tokens never runs out of fuel, and never leaves the tokens. -/
set_option linter.unusedVariables false
set_option linter.unusedSimpArgs false
namespace Go.AE

structure LOK (l : List Tok) : Prop where
  len : l.length ≤ 100000
  last : (l.getD (l.length - 1) default).kind = 0
  text : ∀ i, (l.getD i default).text.length ≤ 8192

structure Good (l : List Tok) (s : PS) : Prop where
  pos : s.pos < l.length
  lo : 0 ≤ s.dep
  hi : s.dep ≤ 12

structure Nice {α : Type} (l : List Tok) (p : Nat) (d : Int) (x : R α) : Prop where
  out : x ≠ .out
  ok : ∀ v s', x = .ok v s' → p ≤ s'.pos ∧ Good l s' ∧ s'.dep = d

variable {α β : Type} {l : List Tok} {s : PS} {p q : Nat} {d e : Int}

theorem Nice.bind {x : R α} {f : α → PS → R β} (h : Nice l p d x) (k : ∀ v s', p ≤ s'.pos → Good l s' → s'.dep = d → Nice l q e (f v s')) : Nice l q e (x.bind f) := by
  cases x with
  | out => exact absurd rfl h.out
  | bad a b c => exact ⟨(by intro h9; cases h9), (by intro v s' h9; cases h9)⟩
  | ok v s' => obtain ⟨h1, h2, h3⟩ := h.ok v s' rfl; exact k v s' h1 h2 h3
theorem Nice.okI {v : α} (h1 : p ≤ s.pos) (h2 : Good l s) (h3 : s.dep = d) : Nice l p d (R.ok v s) := ⟨(by intro h9; cases h9), (by intro v s' h9; cases h9; exact ⟨h1, h2, h3⟩)⟩
theorem Nice.badI {a b c : Int} : Nice l p d (R.bad a b c : R α) := ⟨(by intro h9; cases h9), (by intro v s' h9; cases h9)⟩
theorem Nice.weak {x : R α} (h : Nice l p d x) (hq : q ≤ p) (he : d = e) : Nice l q e x := ⟨h.out, fun v s' h9 => by obtain ⟨h1, h2, h3⟩ := h.ok v s' h9; exact ⟨by omega, h2, by rw [h3, he]⟩⟩
theorem Nice.ite {c : Prop} [Decidable c] {x y : R α} (h1 : c → Nice l p d x) (h2 : ¬ c → Nice l p d y) : Nice l p d (if c then x else y) := by
  split
  · exact h1 ‹_›
  · exact h2 ‹_›

theorem Good.step (L : LOK l) (G : Good l s) (h : (l.getD s.pos default).kind ≠ 0) : Good l ⟨s.pos + 1, s.dep⟩ := by
  refine ⟨?_, G.lo, G.hi⟩
  show s.pos + 1 < l.length
  by_cases h9 : s.pos + 1 < l.length
  · exact h9
  · exfalso
    have := G.pos
    have e : s.pos = l.length - 1 := by omega
    exact h (by rw [e]; exact L.last)

theorem peek_eq (G : Good l s) : peekF l s = .ok (l.getD s.pos default) s := by unfold peekF; rw [if_pos G.pos]
theorem is_eq (G : Good l s) (w : List UInt8) : isF l w s = .ok (((l.getD s.pos default).kind == 2 || (l.getD s.pos default).kind == 5) && (l.getD s.pos default).text == w) s := by unfold isF; rw [peek_eq G]; rfl
theorem next_cases (L : LOK l) (G : Good l s) : ((l.getD s.pos default).kind ≠ 0 ∧ nextF l s = .ok (l.getD s.pos default) ⟨s.pos + 1, s.dep⟩ ∧ Good l ⟨s.pos + 1, s.dep⟩) ∨ ((l.getD s.pos default).kind = 0 ∧ nextF l s = .ok (l.getD s.pos default) s) := by
  unfold nextF
  rw [if_pos G.pos]
  by_cases h : (l.getD s.pos default).kind = 0
  · exact .inr ⟨h, by rw [h]; rfl⟩
  · exact .inl ⟨h, by rw [if_pos (by simpa using h)], G.step L h⟩
theorem next_nice (L : LOK l) (G : Good l s) : Nice l s.pos s.dep (nextF l s) := by
  rcases next_cases L G with ⟨_, e, G'⟩ | ⟨_, e⟩ <;> rw [e]
  · exact .okI (Nat.le_succ _) G' rfl
  · exact .okI (Nat.le_refl _) G rfl
theorem next_nice1 (L : LOK l) (G : Good l s) (h : (l.getD s.pos default).kind ≠ 0) : Nice l (s.pos + 1) s.dep (nextF l s) := by
  rcases next_cases L G with ⟨_, e, G'⟩ | ⟨h0, e⟩
  · rw [e]; exact .okI (Nat.le_refl _) G' rfl
  · exact absurd h0 h
theorem eat_cases (L : LOK l) (G : Good l s) (w : List UInt8) : (eatF l w s = .ok true ⟨s.pos + 1, s.dep⟩ ∧ Good l ⟨s.pos + 1, s.dep⟩) ∨ eatF l w s = .ok false s := by
  unfold eatF
  rw [is_eq G, R.ok_bind]
  split
  · rename_i h
    refine .inl ⟨rfl, G.step L ?_⟩
    intro h0
    rw [h0] at h
    simp at h
  · exact .inr rfl
theorem must_nice (L : LOK l) (G : Good l s) (w : List UInt8) : Nice l (s.pos + 1) s.dep (mustF l w s) := by
  unfold mustF
  rw [peek_eq G, R.ok_bind]
  rcases eat_cases L G w with ⟨e, G'⟩ | e <;> rw [e, R.ok_bind]
  · exact .okI (Nat.le_refl _) G' rfl
  · exact .badI
theorem kind_nice (L : LOK l) (G : Good l s) (k : Int) (hk : k ≠ 0) : Nice l (s.pos + 1) s.dep (kindF l k s) := by
  unfold kindF
  rw [peek_eq G, R.ok_bind]
  refine .ite (fun _ => .badI) fun h => next_nice1 L G ?_
  simp only [bne_iff_ne, ne_eq, Decidable.not_not] at h
  rw [h]; exact hk
theorem dep_ok (G : Good l s) : depOK s = true := by
  have := G.lo; have := G.hi
  simp only [depOK, Bool.and_eq_true, decide_eq_true_eq]; omega
theorem down_nice (G : Good l s) (t : Tok) : Nice l s.pos (s.dep + 1) (downF t s) := by
  unfold downF
  rw [if_pos (dep_ok G)]
  have := G.lo
  refine .ite (fun _ => .badI) fun h => .okI (Nat.le_refl _) ⟨G.pos, ?_, ?_⟩ rfl
  · show 0 ≤ s.dep + 1; omega
  · show s.dep + 1 ≤ 12; omega
theorem up_nice (G : Good l s) (h : 1 ≤ s.dep) : Nice l s.pos (s.dep - 1) (upF s) := by
  unfold upF
  rw [if_pos (dep_ok G)]
  have := G.hi
  refine .okI (Nat.le_refl _) ⟨G.pos, ?_, ?_⟩ rfl
  · show 0 ≤ s.dep - 1; omega
  · show s.dep - 1 ≤ 12; omega
theorem Nice.eat (L : LOK l) (G : Good l s) {w : List UInt8} {f : Bool → PS → R β} (h1 : Good l ⟨s.pos + 1, s.dep⟩ → Nice l p d (f true ⟨s.pos + 1, s.dep⟩)) (h2 : Nice l p d (f false s)) : Nice l p d ((eatF l w s).bind f) := by
  rcases eat_cases L G w with ⟨e, G'⟩ | e <;> rw [e, R.ok_bind]
  · exact h1 G'
  · exact h2
theorem Nice.peek (G : Good l s) {f : Tok → PS → R β} (h : Nice l p d (f (l.getD s.pos default) s)) : Nice l p d ((peekF l s).bind f) := by rw [peek_eq G]; exact h

theorem typ_nice (L : LOK l) (G : Good l s) : Nice l (s.pos + 1) s.dep (typF l s) := by
  unfold typF
  refine .eat L G (fun G1 => ?_) ?_
  · rw [if_pos rfl]; exact .okI (Nat.le_refl _) G1 rfl
  rw [if_neg (by simp)]
  refine .eat L G (fun G1 => ?_) ?_
  · rw [if_pos rfl]; exact .okI (Nat.le_refl _) G1 rfl
  rw [if_neg (by simp)]
  refine .eat L G (fun G1 => ?_) ?_
  · rw [if_pos rfl]; exact .okI (Nat.le_refl _) G1 rfl
  rw [if_neg (by simp)]
  exact (kind_nice L G 1 (by decide)).bind fun v s' h1 h2 h3 => .okI h1 h2 h3
theorem named_nice (L : LOK l) (G : Good l s) : Nice l (s.pos + 1) s.dep (namedF l s) := by
  unfold namedF
  refine (kind_nice L G 1 (by decide)).bind fun v s1 h1 G1 d1 => ?_
  refine (must_nice L G1 _).bind fun v s2 h2 G2 d2 => ?_
  refine (typ_nice L G2).bind fun v s3 h3 G3 d3 => ?_
  exact .okI (by omega) G3 (by omega)

structure ExNice (l : List Tok) (n : Nat) : Prop where
  expr : ∀ s, Good l s → 10 * (l.length - s.pos) + 7 ≤ n → Nice l (s.pos + 1) s.dep (exprF n l s)
  chain : ∀ v s, v ≤ 3 → Good l s → 10 * (l.length - s.pos) + 6 - v ≤ n → Nice l (s.pos + 1) s.dep (chainF n l v s)
  loop : ∀ v e s, v ≤ 2 → Good l s → 10 * (l.length - s.pos) + 1 ≤ n → Nice l s.pos s.dep (chainLoopF n l v e s)
  pre : ∀ s, Good l s → 10 * (l.length - s.pos) + 2 ≤ n → Nice l (s.pos + 1) s.dep (prefixF n l s)
  atom : ∀ s, Good l s → 10 * (l.length - s.pos) + 1 ≤ n → Nice l (s.pos + 1) s.dep (atomF n l s)

theorem ex_nice (L : LOK l) : ∀ n, ExNice l n
  | 0 => ⟨fun s G h => by omega, fun v s hv G h => by have := G.pos; omega, fun v e s hv G h => by omega, fun s G h => by omega, fun s G h => by omega⟩
  | n + 1 => by
    have ih := ex_nice L n
    refine ⟨fun s G h => ?_, fun v s hv G h => ?_, fun v e s hv G h => ?_, fun s G h => ?_, fun s G h => ?_⟩
    · rw [exprF]; exact ih.chain 0 s (by omega) G (by omega)
    · have hp := G.pos
      rw [chainF, if_neg (by omega)]
      refine .ite (fun h3 => ?_) fun h3 => ?_
      · have : v = 3 := by simp at h3; omega
        exact ih.pre s G (by omega)
      · have : v ≠ 3 := by simp at h3; omega
        refine (ih.chain (v + 1) s (by omega) G (by omega)).bind fun e1 s1 h1 G1 d1 => ?_
        exact (ih.loop v e1 s1 (by omega) G1 (by omega)).weak h1 d1
    · have hp := G.pos
      rw [chainLoopF]
      refine .peek G ?_
      rw [if_neg (by have := L.text s.pos; omega)]
      refine .ite (fun _ => .okI (Nat.le_refl _) G rfl) fun h5 => ?_
      have hk : (l.getD s.pos default).kind ≠ 0 := by
        intro h0; rw [h0] at h5; simp at h5
      refine (next_nice1 L G hk).bind fun t s1 h1 G1 d1 => ?_
      have hp1 := G1.pos
      refine (ih.chain (v + 1) s1 (by omega) G1 (by omega)).bind fun k s2 h2 G2 d2 => ?_
      refine .ite (fun _ => .okI (by omega) G2 (by omega)) fun _ => ?_
      exact (ih.loop v _ s2 hv G2 (by omega)).weak (by omega) (by omega)
    · have hp := G.pos
      rw [prefixF]
      refine .peek G ?_
      refine .ite (fun h25 => ?_) fun _ => ih.atom s G (by omega)
      refine .ite (fun _ => ih.atom s G (by omega)) fun _ => ?_
      have hk : (l.getD s.pos default).kind ≠ 0 := by
        intro h0; rw [h0] at h25; simp at h25
      refine (next_nice1 L G hk).bind fun t s1 h1 G1 d1 => ?_
      refine (down_nice G1 _).bind fun _ s2 h2 G2 d2 => ?_
      refine (ih.pre s2 G2 (by omega)).bind fun k s3 h3 G3 d3 => ?_
      have := G1.lo
      refine (up_nice G3 (by omega)).bind fun _ s4 h4 G4 d4 => ?_
      exact .okI (by omega) G4 (by omega)
    · have hp := G.pos
      rw [atomF]
      rcases next_cases L G with ⟨hk, e, G1⟩ | ⟨hk, e⟩ <;> rw [e, R.ok_bind]
      · refine .ite (fun _ => .okI (Nat.le_refl _) G1 rfl) fun _ => ?_
        refine .ite (fun _ => .okI (Nat.le_refl _) G1 rfl) fun _ => ?_
        refine .ite (fun _ => .okI (Nat.le_refl _) G1 rfl) fun _ => ?_
        refine .ite (fun _ => ?_) fun _ => ?_
        · exact (kind_nice L G1 3 (by decide)).bind fun u s2 h2 G2 d2 => .okI (by simp only at h2; omega) G2 d2
        refine .ite (fun _ => ?_) fun _ => ?_
        · refine .eat L G1 (fun G2 => ?_) ?_
          · rw [if_neg (by simp)]; exact .okI (by simp only; omega) G2 rfl
          · rw [if_pos (by simp)]; exact (kind_nice L G1 1 (by decide)).bind fun u s2 h2 G2 d2 => .okI (by simp only at h2; omega) G2 d2
        refine .ite (fun _ => ?_) fun _ => .badI
        refine (down_nice G1 _).bind fun _ s2 h2 G2 d2 => ?_
        simp only at h2 d2
        refine (ih.expr s2 G2 (by omega)).bind fun x s3 h3 G3 d3 => ?_
        refine (must_nice L G3 _).bind fun _ s4 h4 G4 d4 => ?_
        have := G.lo
        refine (up_nice G4 (by omega)).bind fun _ s5 h5 G5 d5 => ?_
        exact .okI (by omega) G5 (by omega)
      · rw [hk]
        simp only [show ((0 : Int) == 3) = false from rfl, show ((0 : Int) == 4) = false from rfl, show ((0 : Int) == 1) = false from rfl, show ((0 : Int) == 2) = false from rfl, show ((0 : Int) == 5) = false from rfl, Bool.false_and, Bool.false_eq_true, if_false]
        exact .badI

theorem expr_nice (L : LOK l) (G : Good l s) {n : Nat} (h : 10 * (l.length - s.pos) + 7 ≤ n) : Nice l (s.pos + 1) s.dep (exprF n l s) := (ex_nice L n).expr s G h

end Go.AE

/- .. nor does the reader of statements and items. -/
set_option linter.unusedVariables false
set_option linter.unusedSimpArgs false
namespace Go.AE
variable {α β : Type} {l : List Tok} {s : PS} {p q : Nat} {d e : Int}

theorem Nice.eatT (L : LOK l) (G : Good l s) {w : List UInt8} {A B : PS → R β} (h1 : Good l ⟨s.pos + 1, s.dep⟩ → Nice l p d (A ⟨s.pos + 1, s.dep⟩)) (h2 : Nice l p d (B s)) : Nice l p d ((eatF l w s).bind fun b s => if b then A s else B s) :=
  .eat L G (fun G1 => by rw [if_pos rfl]; exact h1 G1) (by rw [if_neg (by simp)]; exact h2)
theorem Nice.eatN (L : LOK l) (G : Good l s) {w : List UInt8} {A B : PS → R β} (h1 : Good l ⟨s.pos + 1, s.dep⟩ → Nice l p d (B ⟨s.pos + 1, s.dep⟩)) (h2 : Nice l p d (A s)) : Nice l p d ((eatF l w s).bind fun b s => if !b then A s else B s) :=
  .eat L G (fun G1 => by rw [if_neg (by simp)]; exact h1 G1) (by rw [if_pos (by simp)]; exact h2)
theorem Nice.isT (L : LOK l) (G : Good l s) {w : List UInt8} {A B : PS → R β} (h1 : (l.getD s.pos default).kind ≠ 0 → Nice l p d (A s)) (h2 : Nice l p d (B s)) : Nice l p d ((isF l w s).bind fun b s => if b then A s else B s) := by
  rw [is_eq G, R.ok_bind]
  refine .ite (fun h => h1 ?_) fun _ => h2
  intro h0; rw [h0] at h; simp at h

theorem place_nice (L : LOK l) (G : Good l s) {n : Nat} (h : 10 * (l.length - s.pos) + 7 ≤ n) : Nice l (s.pos + 1) s.dep (placeF n l s) := by
  have hp := G.pos
  unfold placeF
  refine (kind_nice L G 1 (by decide)).bind fun t s1 h1 G1 d1 => ?_
  refine .eatT L G1 (fun G2 => ?_) ?_
  · exact (kind_nice L G2 1 (by decide)).bind fun u s2 h2 G3 d2 => .okI (by simp only at h2; omega) G3 (by simp only at d2; omega)
  refine .eatT L G1 (fun G2 => ?_) ?_
  · refine (expr_nice L G2 (by simp only; omega)).bind fun x s2 h2 G3 d2 => ?_
    simp only at h2 d2
    exact (must_nice L G3 _).bind fun _ s3 h3 G4 d3 => .okI (by omega) G4 (by omega)
  · exact .okI h1 G1 d1
theorem right_nice (L : LOK l) (G : Good l s) {n : Nat} (h : 10 * (l.length - s.pos) + 7 ≤ n) : Nice l (s.pos + 1) s.dep (rightF n l s) := by
  have hp := G.pos
  unfold rightF
  refine .peek G ?_
  refine .eatT L G (fun G1 => ?_) ?_
  · exact (place_nice L G1 (by simp only; omega)).bind fun x s2 h2 G2 d2 => .okI (by simp only at h2; omega) G2 d2
  refine .eatT L G (fun G1 => ?_) ?_
  · exact (kind_nice L G1 1 (by decide)).bind fun x s2 h2 G2 d2 => .okI (by simp only at h2; omega) G2 d2
  refine .eatT L G (fun G1 => ?_) ?_
  · refine .eatT L G1 (fun G2 => ?_) ?_
    · exact (expr_nice L G2 (by simp only; omega)).bind fun x s2 h2 G2 d2 => .okI (by simp only at h2; omega) G2 d2
    · exact (kind_nice L G1 1 (by decide)).bind fun x s2 h2 G2 d2 => .okI (by simp only at h2; omega) G2 d2
  exact (expr_nice L G h).bind fun x s2 h2 G2 d2 => .okI h2 G2 d2
theorem label_nice (L : LOK l) (G : Good l s) : Nice l s.pos s.dep (labelF l s) := by
  unfold labelF
  refine .peek G ?_
  refine .ite (fun _ => ?_) fun _ => .okI (Nat.le_refl _) G rfl
  exact (next_nice L G).bind fun u s1 h1 G1 d1 => .okI h1 G1 d1
theorem argsLoop_nice (L : LOK l) : ∀ (n : Nat) (acc : List Ex) (s : PS), Good l s → acc.length ≤ s.pos → 10 * (l.length - s.pos) + 8 ≤ n → Nice l (s.pos + 1) s.dep (argsLoopF n l acc s)
  | 0, acc, s, G, ha, h => by omega
  | n + 1, acc, s, G, ha, h => by
    have hp := G.pos; have hL := L.len
    rw [argsLoopF]
    refine (expr_nice L G (by omega)).bind fun x s1 h1 G1 d1 => ?_
    have hp1 := G1.pos
    rw [if_neg (by omega)]
    refine .eatT L G1 (fun G2 => .okI (by simp only; omega) G2 d1) ?_
    refine (must_nice L G1 _).bind fun _ s2 h2 G2 d2 => ?_
    exact (argsLoop_nice L n _ s2 G2 (by simp only [List.length_append, List.length_cons, List.length_nil]; omega) (by omega)).weak (by omega) (by omega)
theorem args_nice (L : LOK l) (G : Good l s) {n : Nat} (h : 10 * (l.length - s.pos) + 8 ≤ n) : Nice l (s.pos + 1) s.dep (argsF n l s) := by
  have hp := G.pos
  unfold argsF
  refine (must_nice L G _).bind fun _ s1 h1 G1 d1 => ?_
  refine .eatT L G1 (fun G2 => .okI (by simp only; omega) G2 d1) ?_
  exact (argsLoop_nice L n [] s1 G1 (Nat.zero_le _) (by omega)).weak (by omega) d1
theorem let_nice (L : LOK l) (G : Good l s) {n : Nat} (ln cl : Int) (h : 10 * (l.length - s.pos) + 7 ≤ n) : Nice l (s.pos + 1) s.dep (letF n l ln cl s) := by
  have hp := G.pos
  unfold letF
  refine (next_nice L G).bind fun k s1 h1 G1 d1 => ?_
  refine (kind_nice L G1 1 (by decide)).bind fun u s2 h2 G2 d2 => ?_
  refine (must_nice L G2 _).bind fun _ s3 h3 G3 d3 => ?_
  refine (right_nice L G3 (by omega)).bind fun r s4 h4 G4 d4 => ?_
  exact (must_nice L G4 _).bind fun _ s5 h5 G5 d5 => .okI (by omega) G5 (by omega)

structure SmNice (l : List Tok) (n : Nat) : Prop where
  block : ∀ s, Good l s → 20 * (l.length - s.pos) + 1 ≤ n → Nice l (s.pos + 1) s.dep (blockF n l s)
  bloop : ∀ acc s, Good l s → 1 ≤ s.dep → acc.length ≤ s.pos → 20 * (l.length - s.pos) + 16 ≤ n → Nice l (s.pos + 1) (s.dep - 1) (blockLoopF n l acc s)
  loop : ∀ nm ln cl s, Good l s → 20 * (l.length - s.pos) + 2 ≤ n → Nice l (s.pos + 1) s.dep (loopF n l nm ln cl s)
  name : ∀ ln cl s, Good l s → 20 * (l.length - s.pos) + 10 ≤ n → Nice l (s.pos + 1) s.dep (byNameF n l ln cl s)
  branch : ∀ ln cl s, Good l s → 20 * (l.length - s.pos) + 10 ≤ n → Nice l (s.pos + 1) s.dep (branchF n l ln cl s)
  stmt : ∀ s, Good l s → 20 * (l.length - s.pos) + 15 ≤ n → Nice l (s.pos + 1) s.dep (stmtF n l s)

theorem sm_nice (L : LOK l) : ∀ n, SmNice l n
  | 0 => ⟨fun s G h => by omega, fun acc s G h1 h2 h => by omega, fun nm ln cl s G h => by omega, fun ln cl s G h => by omega, fun ln cl s G h => by omega, fun s G h => by omega⟩
  | n + 1 => by
    have ih := sm_nice L n
    refine ⟨fun s G h => ?_, fun acc s G hd ha h => ?_, fun nm ln cl s G h => ?_, fun ln cl s G h => ?_, fun ln cl s G h => ?_, fun s G h => ?_⟩ <;> have hp := G.pos
    · rw [blockF]
      refine (must_nice L G _).bind fun t s1 h1 G1 d1 => ?_
      refine (down_nice G1 _).bind fun _ s2 h2 G2 d2 => ?_
      have := G.lo
      exact (ih.bloop [] s2 G2 (by omega) (Nat.zero_le _) (by omega)).weak (by omega) (by omega)
    · have hL := L.len
      rw [blockLoopF]
      refine .eatN L G (fun G1 => ?_) ?_
      · exact (up_nice G1 hd).bind fun _ s2 h2 G2 d2 => .okI h2 G2 d2
      refine (ih.stmt s G (by omega)).bind fun v s1 h1 G1 d1 => ?_
      rw [if_neg (by omega)]
      exact (ih.bloop _ s1 G1 (by omega) (by simp only [List.length_append, List.length_cons, List.length_nil]; omega) (by omega)).weak (by omega) (by omega)
    · rw [loopF]
      refine (kind_nice L G 3 (by decide)).bind fun u s1 h1 G1 d1 => ?_
      have := G1.pos
      exact (ih.block s1 G1 (by omega)).bind fun b s2 h2 G2 d2 => .okI (by omega) G2 (by omega)
    · rw [byNameF]
      refine (next_nice L G).bind fun u s1 h1 G1 d1 => ?_
      refine .eatT L G1 (fun G2 => ?_) ?_
      · refine (must_nice L G2 _).bind fun _ s3 h3 G3 d3 => ?_
        simp only at h3 d3
        have := G3.pos
        exact (ih.loop _ _ _ s3 G3 (by omega)).weak (by omega) (by omega)
      · refine (must_nice L G1 _).bind fun _ s2 h2 G2 d2 => ?_
        refine (right_nice L G2 (by omega)).bind fun r s3 h3 G3 d3 => ?_
        exact (must_nice L G3 _).bind fun _ s4 h4 G4 d4 => .okI (by omega) G4 (by omega)
    · rw [branchF]
      refine (expr_nice L G (by omega)).bind fun e1 s1 h1 G1 d1 => ?_
      have := G1.pos
      refine (ih.block s1 G1 (by omega)).bind fun b s2 h2 G2 d2 => ?_
      refine .eatT L G2 (fun G3 => ?_) ?_
      · have := G3.pos
        simp only at this
        exact (ih.block _ G3 (by simp only; omega)).bind fun x s4 h4 G4 d4 => .okI (by simp only at h4; omega) G4 (by simp only at d4; omega)
      · exact .okI (by omega) G2 (by omega)
    · rw [stmtF]
      refine .peek G ?_
      refine .ite (fun _ => ih.name _ _ s G (by omega)) fun _ => ?_
      refine .eatT L G (fun G1 => (ih.loop _ _ _ _ G1 (by simp only; omega)).weak (by simp only; omega) rfl) ?_
      refine .eatT L G (fun G1 => (ih.branch _ _ _ G1 (by have := G1.pos; simp only at this ⊢; omega)).weak (by simp only; omega) rfl) ?_
      refine .eatT L G (fun G1 => ?_) ?_
      · exact (ih.block _ G1 (by simp only; omega)).bind fun x s2 h2 G2 d2 => .okI (by simp only at h2; omega) G2 d2
      refine .isT L G (fun _ => let_nice L G _ _ (by omega)) ?_
      refine .isT L G (fun _ => let_nice L G _ _ (by omega)) ?_
      refine .eatT L G (fun G1 => ?_) ?_
      · refine (place_nice L G1 (by simp only; omega)).bind fun x s2 h2 G2 d2 => ?_
        simp only at h2 d2
        refine (must_nice L G2 _).bind fun _ s3 h3 G3 d3 => ?_
        refine (expr_nice L G3 (by omega)).bind fun y s4 h4 G4 d4 => ?_
        exact (must_nice L G4 _).bind fun _ s5 h5 G5 d5 => .okI (by omega) G5 (by omega)
      refine .eatT L G (fun G1 => ?_) ?_
      · refine (expr_nice L G1 (by simp only; omega)).bind fun x s2 h2 G2 d2 => ?_
        simp only at h2 d2
        exact (must_nice L G2 _).bind fun _ s3 h3 G3 d3 => .okI (by omega) G3 (by omega)
      refine .eatT L G (fun G1 => ?_) ?_
      · refine (label_nice L G1).bind fun x s2 h2 G2 d2 => ?_
        simp only at h2 d2
        exact (must_nice L G2 _).bind fun _ s3 h3 G3 d3 => .okI (by omega) G3 (by omega)
      refine .eatT L G (fun G1 => ?_) ?_
      · refine (label_nice L G1).bind fun x s2 h2 G2 d2 => ?_
        simp only at h2 d2
        exact (must_nice L G2 _).bind fun _ s3 h3 G3 d3 => .okI (by omega) G3 (by omega)
      refine .eatT L G (fun G1 => ?_) .badI
      refine (kind_nice L G1 1 (by decide)).bind fun u s2 h2 G2 d2 => ?_
      simp only at h2 d2
      refine (args_nice L G2 (by omega)).bind fun a s3 h3 G3 d3 => ?_
      exact (must_nice L G3 _).bind fun _ s4 h4 G4 d4 => .okI (by omega) G4 (by omega)

theorem block_nice (L : LOK l) (G : Good l s) {n : Nat} (h : 20 * (l.length - s.pos) + 1 ≤ n) : Nice l (s.pos + 1) s.dep (blockF n l s) := (sm_nice L n).block s G h

theorem recordLoop_nice (L : LOK l) : ∀ (n : Nat) (acc : List Nm) (s : PS), Good l s → acc.length ≤ s.pos → l.length - s.pos + 1 ≤ n → Nice l (s.pos + 1) s.dep (recordLoopF n l acc s)
  | 0, acc, s, G, ha, h => by omega
  | n + 1, acc, s, G, ha, h => by
    have hp := G.pos; have hL := L.len
    rw [recordLoopF]
    refine .eatN L G (fun G1 => .okI (Nat.le_refl _) G1 rfl) ?_
    refine (named_nice L G).bind fun x s1 h1 G1 d1 => ?_
    rw [if_neg (by omega)]
    refine (must_nice L G1 _).bind fun _ s2 h2 G2 d2 => ?_
    exact (recordLoop_nice L n _ s2 G2 (by simp only [List.length_append, List.length_cons, List.length_nil]; omega) (by omega)).weak (by omega) (by omega)
theorem record_nice (L : LOK l) (G : Good l s) {n : Nat} (h : l.length - s.pos + 1 ≤ n) : Nice l (s.pos + 1) s.dep (recordF n l s) := by
  unfold recordF
  refine (kind_nice L G 1 (by decide)).bind fun t s1 h1 G1 d1 => ?_
  refine (must_nice L G1 _).bind fun _ s2 h2 G2 d2 => ?_
  exact (recordLoop_nice L n [] s2 G2 (Nat.zero_le _) (by omega)).bind fun f s3 h3 G3 d3 => .okI (by omega) G3 (by omega)
theorem paramsLoop_nice (L : LOK l) : ∀ (n : Nat) (acc : List Nm) (s : PS), Good l s → acc.length ≤ s.pos → l.length - s.pos + 1 ≤ n → Nice l (s.pos + 1) s.dep (paramsLoopF n l acc s)
  | 0, acc, s, G, ha, h => by omega
  | n + 1, acc, s, G, ha, h => by
    have hp := G.pos; have hL := L.len
    rw [paramsLoopF]
    refine (named_nice L G).bind fun x s1 h1 G1 d1 => ?_
    rw [if_neg (by omega)]
    refine .eatT L G1 (fun G2 => .okI (by simp only; omega) G2 d1) ?_
    refine (must_nice L G1 _).bind fun _ s2 h2 G2 d2 => ?_
    exact (paramsLoop_nice L n _ s2 G2 (by simp only [List.length_append, List.length_cons, List.length_nil]; omega) (by omega)).weak (by omega) (by omega)
theorem fun_nice (L : LOK l) (G : Good l s) {n : Nat} (h : 20 * (l.length - s.pos) + 1 ≤ n) : Nice l (s.pos + 1) s.dep (funF n l s) := by
  have hp := G.pos
  unfold funF
  refine (kind_nice L G 1 (by decide)).bind fun t s1 h1 G1 d1 => ?_
  refine (must_nice L G1 _).bind fun _ s2 h2 G2 d2 => ?_
  refine .eatN L G2 (fun G3 => ?_) ?_
  · exact (block_nice L G3 (by simp only; omega)).bind fun b s4 h4 G4 d4 => .okI (by simp only at h4; omega) G4 (by simp only at d4; omega)
  · refine (paramsLoop_nice L n [] s2 G2 (Nat.zero_le _) (by omega)).bind fun ps s3 h3 G3 d3 => ?_
    exact (block_nice L G3 (by omega)).bind fun b s4 h4 G4 d4 => .okI (by omega) G4 (by omega)

def pgCount (p : Pg) : Nat := p.recs.length + p.globals.length + p.funs.length + p.threads.length
theorem program_nice (L : LOK l) : ∀ (n : Nat) (p : Pg) (s : PS), Good l s → pgCount p ≤ s.pos → 20 * (l.length - s.pos) + 2 ≤ n → Nice l s.pos s.dep (programF n l p s)
  | 0, p, s, G, ha, h => by omega
  | n + 1, p, s, G, ha, h => by
    have hp := G.pos; have hL := L.len
    rw [programF, if_neg (by simp only [pgBig, Bool.or_eq_true, decide_eq_true_eq]; simp only [pgCount] at ha; omega)]
    refine .peek G ?_
    refine .ite (fun _ => .okI (Nat.le_refl _) G rfl) fun _ => ?_
    refine .eatT L G (fun G1 => ?_) ?_
    · refine (record_nice L G1 (by simp only; omega)).bind fun x s2 h2 G2 d2 => ?_
      simp only at h2 d2
      exact (program_nice L n _ s2 G2 (by simp only [pgCount, List.length_append, List.length_cons, List.length_nil] at ha ⊢; omega) (by omega)).weak (by omega) (by omega)
    refine .eatT L G (fun G1 => ?_) ?_
    · refine (named_nice L G1).bind fun x s2 h2 G2 d2 => ?_
      simp only at h2 d2
      refine (must_nice L G2 _).bind fun _ s3 h3 G3 d3 => ?_
      exact (program_nice L n _ s3 G3 (by simp only [pgCount, List.length_append, List.length_cons, List.length_nil] at ha ⊢; omega) (by omega)).weak (by omega) (by omega)
    refine .eatT L G (fun G1 => ?_) ?_
    · refine (fun_nice L G1 (by simp only; omega)).bind fun x s2 h2 G2 d2 => ?_
      simp only at h2 d2
      exact (program_nice L n _ s2 G2 (by simp only [pgCount, List.length_append, List.length_cons, List.length_nil] at ha ⊢; omega) (by omega)).weak (by omega) (by omega)
    refine .eatT L G (fun G1 => ?_) .badI
    refine (block_nice L G1 (by simp only; omega)).bind fun x s2 h2 G2 d2 => ?_
    simp only at h2 d2
    exact (program_nice L n _ s2 G2 (by simp only [pgCount, List.length_append, List.length_cons, List.length_nil] at ha ⊢; omega) (by omega)).weak (by omega) (by omega)

theorem program_out (L : LOK l) (h0 : 0 < l.length) {n : Nat} (h : 20 * l.length + 2 ≤ n) : programF n l pgZ ⟨0, 0⟩ ≠ .out :=
  (program_nice L n pgZ ⟨0, 0⟩ ⟨h0, by decide, by decide⟩ (by simp [pgCount, pgZ]) h).out

end Go.AE

/- Two lists of tokens that are alike for a stretch are read alike there. -/
set_option linter.unusedVariables false
set_option linter.unusedSimpArgs false
namespace Go.AE
variable {α β : Type}

class Mono {α : Type} (s : PS) (x : R α) : Prop where
  le : ∀ v s', x = .ok v s' → s.pos ≤ s'.pos
theorem R.bind_ok {x : R α} {f : α → PS → R β} {v : β} {s : PS} (h : x.bind f = .ok v s) : ∃ a s1, x = .ok a s1 ∧ f a s1 = .ok v s := by
  cases x with
  | ok a s1 => exact ⟨a, s1, rfl, h⟩
  | bad a b c => cases h
  | out => cases h
instance {s : PS} {v : α} : Mono s (R.ok v s) := ⟨fun _ _ h => by cases h; exact Nat.le_refl _⟩
instance {s : PS} {v : α} {d : Int} : Mono s (R.ok v ⟨s.pos, d⟩) := ⟨fun _ _ h => by cases h; exact Nat.le_refl _⟩
instance {s : PS} {v : α} {d : Int} : Mono s (R.ok v ⟨s.pos + 1, d⟩) := ⟨fun _ _ h => by cases h; exact Nat.le_succ _⟩
instance {s : PS} {a b c : Int} : Mono s (R.bad a b c : R α) := ⟨fun _ _ h => by cases h⟩
instance {s : PS} : Mono s (R.out : R α) := ⟨fun _ _ h => by cases h⟩
instance {s : PS} {x : R α} {f : α → PS → R β} [hx : Mono s x] [hf : ∀ a s1, Mono s1 (f a s1)] : Mono s (x.bind f) :=
  ⟨fun v s' h => by obtain ⟨a, s1, h1, h2⟩ := R.bind_ok h; exact Nat.le_trans (hx.le a s1 h1) ((hf a s1).le v s' h2)⟩
instance {s : PS} {c : Prop} [Decidable c] {x y : R α} [hx : Mono s x] [hy : Mono s y] : Mono s (if c then x else y) :=
  ⟨fun v s' h => by split at h; exact hx.le _ _ h; exact hy.le _ _ h⟩
theorem Mono.bindI {s : PS} {x : R α} {f : α → PS → R β} (hx : Mono s x) (hf : ∀ a s1, Mono s1 (f a s1)) : Mono s (x.bind f) := inferInstance
theorem Mono.iteI {s : PS} {c : Prop} [Decidable c] {x y : R α} (hx : Mono s x) (hy : Mono s y) : Mono s (if c then x else y) := inferInstance
instance {l : List Tok} {s : PS} : Mono s (peekF l s) := by unfold peekF; (repeat' first | with_reducible (refine Mono.bindI ?_ (fun _ _ => ?_)) | with_reducible (refine Mono.iteI ?_ ?_) | infer_instance)
instance {l : List Tok} {s : PS} : Mono s (nextF l s) := by unfold nextF; (repeat' first | with_reducible (refine Mono.bindI ?_ (fun _ _ => ?_)) | with_reducible (refine Mono.iteI ?_ ?_) | infer_instance)
instance {l : List Tok} {w : List UInt8} {s : PS} : Mono s (isF l w s) := by unfold isF; (repeat' first | with_reducible (refine Mono.bindI ?_ (fun _ _ => ?_)) | with_reducible (refine Mono.iteI ?_ ?_) | infer_instance)
instance {l : List Tok} {w : List UInt8} {s : PS} : Mono s (eatF l w s) := by unfold eatF; (repeat' first | with_reducible (refine Mono.bindI ?_ (fun _ _ => ?_)) | with_reducible (refine Mono.iteI ?_ ?_) | infer_instance)
instance {l : List Tok} {w : List UInt8} {s : PS} : Mono s (mustF l w s) := by unfold mustF; (repeat' first | with_reducible (refine Mono.bindI ?_ (fun _ _ => ?_)) | with_reducible (refine Mono.iteI ?_ ?_) | infer_instance)
instance {l : List Tok} {k : Int} {s : PS} : Mono s (kindF l k s) := by unfold kindF; (repeat' first | with_reducible (refine Mono.bindI ?_ (fun _ _ => ?_)) | with_reducible (refine Mono.iteI ?_ ?_) | infer_instance)
instance {t : Tok} {s : PS} : Mono s (downF t s) := by unfold downF; (repeat' first | with_reducible (refine Mono.bindI ?_ (fun _ _ => ?_)) | with_reducible (refine Mono.iteI ?_ ?_) | infer_instance)
instance {s : PS} : Mono s (upF s) := by unfold upF; (repeat' first | with_reducible (refine Mono.bindI ?_ (fun _ _ => ?_)) | with_reducible (refine Mono.iteI ?_ ?_) | infer_instance)
instance {l : List Tok} {s : PS} : Mono s (typF l s) := by unfold typF; (repeat' first | with_reducible (refine Mono.bindI ?_ (fun _ _ => ?_)) | with_reducible (refine Mono.iteI ?_ ?_) | infer_instance)
instance {l : List Tok} {s : PS} : Mono s (namedF l s) := by unfold namedF; (repeat' first | with_reducible (refine Mono.bindI ?_ (fun _ _ => ?_)) | with_reducible (refine Mono.iteI ?_ ?_) | infer_instance)
theorem ex_mono (l : List Tok) : ∀ n, (∀ s, Mono s (exprF n l s)) ∧ (∀ v s, Mono s (chainF n l v s)) ∧ (∀ v e s, Mono s (chainLoopF n l v e s)) ∧ (∀ s, Mono s (prefixF n l s)) ∧ (∀ s, Mono s (atomF n l s))
  | 0 => ⟨fun s => by rw [exprF]; (repeat' first | with_reducible (refine Mono.bindI ?_ (fun _ _ => ?_)) | with_reducible (refine Mono.iteI ?_ ?_) | infer_instance), fun v s => by rw [chainF]; (repeat' first | with_reducible (refine Mono.bindI ?_ (fun _ _ => ?_)) | with_reducible (refine Mono.iteI ?_ ?_) | infer_instance), fun v e s => by rw [chainLoopF]; (repeat' first | with_reducible (refine Mono.bindI ?_ (fun _ _ => ?_)) | with_reducible (refine Mono.iteI ?_ ?_) | infer_instance), fun s => by rw [prefixF]; (repeat' first | with_reducible (refine Mono.bindI ?_ (fun _ _ => ?_)) | with_reducible (refine Mono.iteI ?_ ?_) | infer_instance), fun s => by rw [atomF]; (repeat' first | with_reducible (refine Mono.bindI ?_ (fun _ _ => ?_)) | with_reducible (refine Mono.iteI ?_ ?_) | infer_instance)⟩
  | n + 1 => by
    obtain ⟨h1, h2, h3, h4, h5⟩ := ex_mono l n
    exact ⟨fun s => by rw [exprF]; (repeat' first | with_reducible (refine Mono.bindI ?_ (fun _ _ => ?_)) | with_reducible (refine Mono.iteI ?_ ?_) | infer_instance), fun v s => by rw [chainF]; (repeat' first | with_reducible (refine Mono.bindI ?_ (fun _ _ => ?_)) | with_reducible (refine Mono.iteI ?_ ?_) | infer_instance), fun v e s => by rw [chainLoopF]; (repeat' first | with_reducible (refine Mono.bindI ?_ (fun _ _ => ?_)) | with_reducible (refine Mono.iteI ?_ ?_) | infer_instance), fun s => by rw [prefixF]; (repeat' first | with_reducible (refine Mono.bindI ?_ (fun _ _ => ?_)) | with_reducible (refine Mono.iteI ?_ ?_) | infer_instance), fun s => by rw [atomF]; (repeat' first | with_reducible (refine Mono.bindI ?_ (fun _ _ => ?_)) | with_reducible (refine Mono.iteI ?_ ?_) | infer_instance)⟩
instance {n : Nat} {l : List Tok} {s : PS} : Mono s (exprF n l s) := (ex_mono l n).1 s
instance {n : Nat} {l : List Tok} {v : Nat} {s : PS} : Mono s (chainF n l v s) := (ex_mono l n).2.1 v s
instance {n : Nat} {l : List Tok} {v : Nat} {e : Ex} {s : PS} : Mono s (chainLoopF n l v e s) := (ex_mono l n).2.2.1 v e s
instance {n : Nat} {l : List Tok} {s : PS} : Mono s (prefixF n l s) := (ex_mono l n).2.2.2.1 s
instance {n : Nat} {l : List Tok} {s : PS} : Mono s (atomF n l s) := (ex_mono l n).2.2.2.2 s
instance {n : Nat} {l : List Tok} {s : PS} : Mono s (placeF n l s) := by unfold placeF; (repeat' first | with_reducible (refine Mono.bindI ?_ (fun _ _ => ?_)) | with_reducible (refine Mono.iteI ?_ ?_) | infer_instance)
instance {n : Nat} {l : List Tok} {s : PS} : Mono s (rightF n l s) := by unfold rightF; (repeat' first | with_reducible (refine Mono.bindI ?_ (fun _ _ => ?_)) | with_reducible (refine Mono.iteI ?_ ?_) | infer_instance)
instance {l : List Tok} {s : PS} : Mono s (labelF l s) := by unfold labelF; (repeat' first | with_reducible (refine Mono.bindI ?_ (fun _ _ => ?_)) | with_reducible (refine Mono.iteI ?_ ?_) | infer_instance)
theorem argsLoop_mono (l : List Tok) : ∀ n acc s, Mono s (argsLoopF n l acc s)
  | 0, acc, s => by rw [argsLoopF]; (repeat' first | with_reducible (refine Mono.bindI ?_ (fun _ _ => ?_)) | with_reducible (refine Mono.iteI ?_ ?_) | infer_instance)
  | n + 1, acc, s => by have := argsLoop_mono l n; rw [argsLoopF]; (repeat' first | with_reducible (refine Mono.bindI ?_ (fun _ _ => ?_)) | with_reducible (refine Mono.iteI ?_ ?_) | infer_instance)
instance {n : Nat} {l : List Tok} {acc : List Ex} {s : PS} : Mono s (argsLoopF n l acc s) := argsLoop_mono l n acc s
instance {n : Nat} {l : List Tok} {s : PS} : Mono s (argsF n l s) := by unfold argsF; (repeat' first | with_reducible (refine Mono.bindI ?_ (fun _ _ => ?_)) | with_reducible (refine Mono.iteI ?_ ?_) | infer_instance)
instance {n : Nat} {l : List Tok} {a b : Int} {s : PS} : Mono s (letF n l a b s) := by unfold letF; (repeat' first | with_reducible (refine Mono.bindI ?_ (fun _ _ => ?_)) | with_reducible (refine Mono.iteI ?_ ?_) | infer_instance)
theorem sm_mono (l : List Tok) : ∀ n, (∀ s, Mono s (blockF n l s)) ∧ (∀ acc s, Mono s (blockLoopF n l acc s)) ∧ (∀ nm a b s, Mono s (loopF n l nm a b s)) ∧ (∀ a b s, Mono s (byNameF n l a b s)) ∧ (∀ a b s, Mono s (branchF n l a b s)) ∧ (∀ s, Mono s (stmtF n l s))
  | 0 => ⟨fun s => by rw [blockF]; (repeat' first | with_reducible (refine Mono.bindI ?_ (fun _ _ => ?_)) | with_reducible (refine Mono.iteI ?_ ?_) | infer_instance), fun acc s => by rw [blockLoopF]; (repeat' first | with_reducible (refine Mono.bindI ?_ (fun _ _ => ?_)) | with_reducible (refine Mono.iteI ?_ ?_) | infer_instance), fun nm a b s => by rw [loopF]; (repeat' first | with_reducible (refine Mono.bindI ?_ (fun _ _ => ?_)) | with_reducible (refine Mono.iteI ?_ ?_) | infer_instance), fun a b s => by rw [byNameF]; (repeat' first | with_reducible (refine Mono.bindI ?_ (fun _ _ => ?_)) | with_reducible (refine Mono.iteI ?_ ?_) | infer_instance), fun a b s => by rw [branchF]; (repeat' first | with_reducible (refine Mono.bindI ?_ (fun _ _ => ?_)) | with_reducible (refine Mono.iteI ?_ ?_) | infer_instance), fun s => by rw [stmtF]; (repeat' first | with_reducible (refine Mono.bindI ?_ (fun _ _ => ?_)) | with_reducible (refine Mono.iteI ?_ ?_) | infer_instance)⟩
  | n + 1 => by
    obtain ⟨h1, h2, h3, h4, h5, h6⟩ := sm_mono l n
    exact ⟨fun s => by rw [blockF]; (repeat' first | with_reducible (refine Mono.bindI ?_ (fun _ _ => ?_)) | with_reducible (refine Mono.iteI ?_ ?_) | infer_instance), fun acc s => by rw [blockLoopF]; (repeat' first | with_reducible (refine Mono.bindI ?_ (fun _ _ => ?_)) | with_reducible (refine Mono.iteI ?_ ?_) | infer_instance), fun nm a b s => by rw [loopF]; (repeat' first | with_reducible (refine Mono.bindI ?_ (fun _ _ => ?_)) | with_reducible (refine Mono.iteI ?_ ?_) | infer_instance), fun a b s => by rw [byNameF]; (repeat' first | with_reducible (refine Mono.bindI ?_ (fun _ _ => ?_)) | with_reducible (refine Mono.iteI ?_ ?_) | infer_instance), fun a b s => by rw [branchF]; (repeat' first | with_reducible (refine Mono.bindI ?_ (fun _ _ => ?_)) | with_reducible (refine Mono.iteI ?_ ?_) | infer_instance), fun s => by rw [stmtF]; (repeat' first | with_reducible (refine Mono.bindI ?_ (fun _ _ => ?_)) | with_reducible (refine Mono.iteI ?_ ?_) | infer_instance)⟩
instance {n : Nat} {l : List Tok} {s : PS} : Mono s (blockF n l s) := (sm_mono l n).1 s
instance {n : Nat} {l : List Tok} {acc : List Sm} {s : PS} : Mono s (blockLoopF n l acc s) := (sm_mono l n).2.1 acc s
instance {n : Nat} {l : List Tok} {nm : List UInt8} {a b : Int} {s : PS} : Mono s (loopF n l nm a b s) := (sm_mono l n).2.2.1 nm a b s
instance {n : Nat} {l : List Tok} {a b : Int} {s : PS} : Mono s (byNameF n l a b s) := (sm_mono l n).2.2.2.1 a b s
instance {n : Nat} {l : List Tok} {a b : Int} {s : PS} : Mono s (branchF n l a b s) := (sm_mono l n).2.2.2.2.1 a b s
instance {n : Nat} {l : List Tok} {s : PS} : Mono s (stmtF n l s) := (sm_mono l n).2.2.2.2.2 s

end Go.AE

/- .. to the same, but for places. -/
set_option linter.unusedVariables false
set_option linter.unusedSimpArgs false
namespace Go.AE
variable {α β α' β' : Type}

mutual
def erE : Ex → Ex
  | ⟨op, bin, n, tk, tr, name, kids, _, _⟩ => ⟨op, bin, n, tk, tr, name, erEs kids, 0, 0⟩
def erEs : List Ex → List Ex
  | [] => []
  | e :: l => erE e :: erEs l
end
theorem erEs_append (a b : List Ex) : erEs (a ++ b) = erEs a ++ erEs b := by
  induction a with
  | nil => simp [erEs]
  | cons x a ih => simp [erEs, ih]
theorem erEs_length (a : List Ex) : (erEs a).length = a.length := by
  induction a with
  | nil => simp [erEs]
  | cons x a ih => simp [erEs, ih]

structure TR (F : Prop) (t1 t2 : Tok) : Prop where
  kind : t1.kind = t2.kind
  n : t1.n = t2.n
  text : t1.text = t2.text ∨ (F ∧ t1.kind = 5 ∧ t1.text = [59] ∧ t2.text = [41])
theorem TR.refl {F : Prop} (t : Tok) : TR F t t := ⟨rfl, rfl, .inl rfl⟩
theorem TR.is {F : Prop} {t1 t2 : Tok} (h : TR F t1 t2) (w : List UInt8) (hw : F → w ≠ [59] ∧ w ≠ [41]) : (t1.text == w) = (t2.text == w) := by
  rcases h.text with e | ⟨hF, _, e1, e2⟩
  · rw [e]
  · obtain ⟨h1, h2⟩ := hw hF
    rw [e1, e2, beq_eq_false_iff_ne.2 h1.symm, beq_eq_false_iff_ne.2 h2.symm]
theorem TR.txt {F : Prop} {t1 t2 : Tok} (h : TR F t1 t2) (hk : t1.kind ≠ 5) : t1.text = t2.text := by
  rcases h.text with e | ⟨_, e, _⟩
  · exact e
  · exact absurd e hk
theorem TR.len {F : Prop} {t1 t2 : Tok} (h : TR F t1 t2) : t1.text.length = t2.text.length := by
  rcases h.text with e | ⟨_, _, e1, e2⟩
  · rw [e]
  · rw [e1, e2]; rfl

structure Lk where
  F : Prop
  l1 : List Tok
  l2 : List Tok
  lo : Nat
  hi : Nat
  d : Nat
  δ : Int
  tok : ∀ i, lo ≤ i → i < hi → TR F (l1.getD i default) (l2.getD (i + d) default)
  inl : ∀ i, lo ≤ i → i < hi → i + d < l2.length
  dl : δ ≠ 0 → F
  d0 : 0 ≤ δ

def Lk.sh (C : Lk) (s : PS) : PS := ⟨s.pos + C.d, s.dep + C.δ⟩
variable {C : Lk} {s : PS}

def Sim (C : Lk) (V : α → α' → Prop) (x1 : R α) (x2 : R α') : Prop := ∀ a s1, x1 = .ok a s1 → s1.pos < C.hi → (∃ b, x2 = .ok b (C.sh s1) ∧ V a b) ∨ (C.F ∧ ∀ b s, x2 ≠ .ok b s)

theorem Sim.bind {V : α → α' → Prop} {W : β → β' → Prop} {x1 : R α} {x2 : R α'} {f1 : α → PS → R β} {f2 : α' → PS → R β'} (hm : Mono s x1) (h : Sim C V x1 x2) (m : ∀ a s1, Mono s1 (f1 a s1))
    (k : ∀ a b s1, V a b → s.pos ≤ s1.pos → s1.pos < C.hi → Sim C W (f1 a s1) (f2 b (C.sh s1))) : Sim C W (x1.bind f1) (x2.bind f2) := by
  intro c s' hc hs
  obtain ⟨a, s1, h1, h2⟩ := R.bind_ok hc
  have hlt : s1.pos < C.hi := Nat.lt_of_le_of_lt ((m a s1).le c s' h2) hs
  rcases h a s1 h1 hlt with ⟨b, hb, hv⟩ | ⟨hF, hx⟩
  · rcases k a b s1 hv (hm.le a s1 h1) hlt c s' h2 hs with ⟨b2, hb2, hv2⟩ | ⟨hF, hx⟩
    · exact .inl ⟨b2, by rw [hb]; exact hb2, hv2⟩
    · exact .inr ⟨hF, fun b3 s3 => by rw [hb]; exact hx b3 s3⟩
  · refine .inr ⟨hF, fun b s3 h9 => ?_⟩
    obtain ⟨a3, s4, h5, _⟩ := R.bind_ok h9
    exact hx a3 s4 h5
theorem Sim.okI {V : α → α' → Prop} {a : α} {b : α'} {s2 : PS} (hv : V a b) (e : s2 = C.sh s) : Sim C V (.ok a s) (.ok b s2) := by
  intro c s' hc _
  cases hc
  exact .inl ⟨b, by rw [e], hv⟩
theorem Sim.badI {V : α → α' → Prop} {a b c : Int} {x2 : R α'} : Sim C V (.bad a b c : R α) x2 := fun _ _ h => by cases h
theorem Sim.outI {V : α → α' → Prop} {x2 : R α'} : Sim C V (.out : R α) x2 := fun _ _ h => by cases h
theorem Sim.ite {V : α → α' → Prop} {c1 c2 : Prop} [Decidable c1] [Decidable c2] {x1 y1 : R α} {x2 y2 : R α'} (hc : c1 ↔ c2) (h1 : c1 → Sim C V x1 x2) (h2 : ¬ c1 → Sim C V y1 y2) : Sim C V (if c1 then x1 else y1) (if c2 then x2 else y2) := by
  by_cases h : c1
  · rw [if_pos h, if_pos (hc.1 h)]; exact h1 h
  · rw [if_neg h, if_neg (fun h9 => h (hc.2 h9))]; exact h2 h
theorem Sim.iteB {V : α → α' → Prop} {c1 c2 : Bool} {x1 y1 : R α} {x2 y2 : R α'} (hc : c1 = c2) (h1 : c1 = true → Sim C V x1 x2) (h2 : c1 = false → Sim C V y1 y2) : Sim C V (if c1 then x1 else y1) (if c2 then x2 else y2) :=
  .ite (by rw [hc]) h1 (fun h => h2 (by simpa using h))
theorem Sim.mono {V W : α → α' → Prop} {x1 : R α} {x2 : R α'} (h : Sim C V x1 x2) (hv : ∀ a b, V a b → W a b) : Sim C W x1 x2 := by
  intro a s1 h1 h2
  rcases h a s1 h1 h2 with ⟨b, e, v⟩ | h
  · exact .inl ⟨b, e, hv a b v⟩
  · exact .inr h

theorem sim_peek (h : C.lo ≤ s.pos) : Sim C (TR C.F) (peekF C.l1 s) (peekF C.l2 (C.sh s)) := by
  intro a s1 h1 h2
  unfold peekF at h1 ⊢
  split at h1
  · cases h1
    refine .inl ⟨_, if_pos ?_, C.tok _ h h2⟩
    exact C.inl _ h h2
  · cases h1
theorem sim_next (h : C.lo ≤ s.pos) : Sim C (TR C.F) (nextF C.l1 s) (nextF C.l2 (C.sh s)) := by
  intro a s1 h1 h2
  unfold nextF at h1 ⊢
  split at h1
  · have hle : s.pos ≤ s1.pos := by
      split at h1 <;> cases h1
      · exact Nat.le_succ _
      · exact Nat.le_refl _
    have hlt : s.pos < C.hi := Nat.lt_of_le_of_lt hle h2
    have ht := C.tok _ h hlt
    rw [if_pos (show (C.sh s).pos < C.l2.length from C.inl _ h hlt)]
    simp only [Lk.sh, ← ht.kind]
    split at h1 <;> cases h1
    · rename_i hk
      rw [if_pos hk]
      exact .inl ⟨_, by simp only [Lk.sh]; congr 2; omega, ht⟩
    · rename_i hk
      rw [if_neg hk]
      exact .inl ⟨_, rfl, ht⟩
  · cases h1
theorem sim_is (h : C.lo ≤ s.pos) (w : List UInt8) (hw : C.F → w ≠ [59] ∧ w ≠ [41]) : Sim C (· = ·) (isF C.l1 w s) (isF C.l2 w (C.sh s)) := by
  unfold isF
  refine Sim.bind (s := s) inferInstance (sim_peek h) (fun _ _ => inferInstance) fun a b s1 hv h1 h2 => ?_
  exact .okI (by rw [hv.kind, hv.is w hw]) rfl
theorem sim_eat (h : C.lo ≤ s.pos) (w : List UInt8) (hw : C.F → w ≠ [59] ∧ w ≠ [41]) : Sim C (· = ·) (eatF C.l1 w s) (eatF C.l2 w (C.sh s)) := by
  unfold eatF
  refine Sim.bind (s := s) inferInstance (sim_is h w hw) (fun _ _ => inferInstance) fun a b s1 hv h1 h2 => ?_
  subst hv
  exact .ite Iff.rfl (fun _ => .okI rfl (by simp only [Lk.sh]; congr 1; omega)) fun _ => .okI rfl rfl
theorem sim_must (h : C.lo ≤ s.pos) (w : List UInt8) : Sim C (TR C.F) (mustF C.l1 w s) (mustF C.l2 w (C.sh s)) := by
  intro a s1 h1 h2
  have hm : s.pos < s1.pos ∧ peekF C.l1 s = .ok (C.l1.getD s.pos default) s ∧ s1 = ⟨s.pos + 1, s.dep⟩ ∧ a = C.l1.getD s.pos default ∧ (((C.l1.getD s.pos default).kind == 2 || (C.l1.getD s.pos default).kind == 5) && (C.l1.getD s.pos default).text == w) = true := by
    unfold mustF at h1
    obtain ⟨t, s2, e1, h1⟩ := R.bind_ok h1
    have e1' := e1
    unfold peekF at e1
    split at e1
    · cases e1
      obtain ⟨b, s3, e2, h1⟩ := R.bind_ok h1
      unfold eatF at e2
      obtain ⟨b2, s4, e3, e2⟩ := R.bind_ok e2
      unfold isF at e3
      rw [e1', R.ok_bind] at e3
      cases e3
      split at e2
      · rename_i hc
        cases e2
        simp only [Bool.not_true, Bool.false_eq_true, if_false] at h1
        cases h1
        exact ⟨Nat.lt_succ_self _, e1', rfl, rfl, hc⟩
      · cases e2
        simp at h1
    · cases e1
  obtain ⟨hlt, hp, rfl, rfl, hc⟩ := hm
  have hlt2 : s.pos < C.hi := Nat.lt_trans hlt h2
  have ht := C.tok _ h hlt2
  have hp2 : peekF C.l2 (C.sh s) = .ok (C.l2.getD (s.pos + C.d) default) (C.sh s) := by
    unfold peekF; rw [if_pos (show (C.sh s).pos < C.l2.length from C.inl _ h hlt2)]; rfl
  rcases ht.text with e | ⟨hF, hk, e1, e2⟩
  · refine .inl ⟨C.l2.getD (s.pos + C.d) default, ?_, ht⟩
    unfold mustF
    rw [hp2, R.ok_bind]
    unfold eatF isF
    rw [hp2, R.ok_bind, R.ok_bind, ← ht.kind, ← e, if_pos hc, R.ok_bind]
    simp only [Bool.not_true, Bool.false_eq_true, if_false, Lk.sh]
    congr 2; omega
  · refine .inr ⟨hF, fun b s2 h9 => ?_⟩
    have hw : w = [59] := by
      simp only [Bool.and_eq_true, beq_iff_eq] at hc
      rw [← hc.2, e1]
    unfold mustF at h9
    rw [hp2, R.ok_bind] at h9
    unfold eatF isF at h9
    rw [hp2, R.ok_bind, R.ok_bind, e2, hw] at h9
    simp [show (([41] : List UInt8) == [59]) = false from rfl, R.bind] at h9
theorem sim_kind (h : C.lo ≤ s.pos) (k : Int) : Sim C (TR C.F) (kindF C.l1 k s) (kindF C.l2 k (C.sh s)) := by
  unfold kindF
  refine Sim.bind (s := s) inferInstance (sim_peek h) (fun _ _ => inferInstance) fun a b s1 hv h1 h2 => ?_
  exact .iteB (by rw [hv.kind]) (fun _ => .badI) fun _ => sim_next (by omega)
theorem sim_down (t1 t2 : Tok) : Sim C (fun _ _ => True) (downF t1 s) (downF t2 (C.sh s)) := by
  intro a s1 h1 h2
  unfold downF at h1
  split at h1
  · split at h1
    · cases h1
    · cases h1
      by_cases h9 : C.δ = 0
      · rename_i g1 g2
        refine .inl ⟨(), ?_, trivial⟩
        unfold downF
        have e : C.sh s = ⟨s.pos + C.d, s.dep⟩ := by simp [Lk.sh, h9]
        rw [e, if_pos (show depOK ⟨s.pos + C.d, s.dep⟩ = true from g1), if_neg g2]
        simp [Lk.sh, h9]
      · rename_i g1 g2
        by_cases h8 : depOK (C.sh s) = true ∧ ¬ ((C.sh s).dep + 1 > 12)
        · refine .inl ⟨(), ?_, trivial⟩
          unfold downF
          rw [if_pos h8.1, if_neg h8.2]
          simp only [Lk.sh]; congr 2; omega
        · refine .inr ⟨C.dl h9, fun b s2 h7 => ?_⟩
          unfold downF at h7
          split at h7
          · split at h7
            · cases h7
            · rename_i g3 g4; exact h8 ⟨g3, g4⟩
          · cases h7
  · cases h1
theorem sim_up : Sim C (fun _ _ => True) (upF s) (upF (C.sh s)) := by
  intro a s1 h1 h2
  unfold upF at h1
  split at h1
  · cases h1
    rename_i g1
    by_cases h9 : C.δ = 0
    · refine .inl ⟨(), ?_, trivial⟩
      unfold upF
      have e : C.sh s = ⟨s.pos + C.d, s.dep⟩ := by simp [Lk.sh, h9]
      rw [e, if_pos (show depOK ⟨s.pos + C.d, s.dep⟩ = true from g1)]
      simp [Lk.sh, h9]
    · by_cases h8 : depOK (C.sh s) = true
      · refine .inl ⟨(), ?_, trivial⟩
        unfold upF
        rw [if_pos h8]
        simp only [Lk.sh]; congr 2; omega
      · refine .inr ⟨C.dl h9, fun b s2 h7 => ?_⟩
        unfold upF at h7
        rw [if_neg h8] at h7
        cases h7
  · cases h1

end Go.AE

/- Expressions of lists of tokens that are alike for a stretch. -/
set_option linter.unusedVariables false
set_option linter.unusedSimpArgs false
namespace Go.AE
variable {C : Lk} {s : PS}

def VE (a b : Ex) : Prop := erE a = erE b
theorem sg_pair (v : Nat) : Lib.contains (signsS v) (([32] ++ [59]) ++ [32]) = false ∧ Lib.contains (signsS v) (([32] ++ [41]) ++ [32]) = false := by
  unfold signsS
  split
  · decide +kernel
  · split <;> decide +kernel
theorem TR.sign {F : Prop} {t1 t2 : Tok} (h : TR F t1 t2) (v : Nat) : Lib.contains (signsS v) (([32] ++ t1.text) ++ [32]) = Lib.contains (signsS v) (([32] ++ t2.text) ++ [32]) := by
  rcases h.text with e | ⟨_, _, e1, e2⟩
  · rw [e]
  · rw [e1, e2, (sg_pair v).1, (sg_pair v).2]
theorem TR.un {F : Prop} {t1 t2 : Tok} (h : TR F t1 t2) : unaryS t1.text = unaryS t2.text := by
  rcases h.text with e | ⟨_, _, e1, e2⟩
  · rw [e]
  · rw [e1, e2]; decide +kernel

theorem sim_kind1 (h : C.lo ≤ s.pos) : Sim C (fun t1 t2 => t1.text = t2.text ∧ t1.kind = 1) (kindF C.l1 1 s) (kindF C.l2 1 (C.sh s)) := by
  intro a s1 h1 h2
  have hk : a.kind = 1 := by
    unfold kindF at h1
    obtain ⟨t, s2, e1, h1⟩ := R.bind_ok h1
    unfold peekF at e1
    split at e1
    · cases e1
      by_cases hk : (C.l1.getD s.pos default).kind = 1
      · rw [hk] at h1
        simp only [bne_self_eq_false, Bool.false_eq_true, if_false] at h1
        unfold nextF at h1
        by_cases hp : s.pos < C.l1.length
        · rw [if_pos hp, hk, if_pos (by decide)] at h1
          cases h1
          exact hk
        · rw [if_neg hp] at h1
          cases h1
      · rw [if_pos (by simpa using hk)] at h1
        cases h1
    · cases e1
  rcases sim_kind h 1 a s1 h1 h2 with ⟨b, e, ht⟩ | h9
  · exact .inl ⟨b, e, ht.txt (by omega), hk⟩
  · exact .inr h9

structure ExSim (C : Lk) (n : Nat) : Prop where
  expr : ∀ s, C.lo ≤ s.pos → Sim C VE (exprF n C.l1 s) (exprF n C.l2 (C.sh s))
  chain : ∀ v s, C.lo ≤ s.pos → Sim C VE (chainF n C.l1 v s) (chainF n C.l2 v (C.sh s))
  loop : ∀ v e1 e2 s, VE e1 e2 → C.lo ≤ s.pos → Sim C VE (chainLoopF n C.l1 v e1 s) (chainLoopF n C.l2 v e2 (C.sh s))
  pre : ∀ s, C.lo ≤ s.pos → Sim C VE (prefixF n C.l1 s) (prefixF n C.l2 (C.sh s))
  atom : ∀ s, C.lo ≤ s.pos → Sim C VE (atomF n C.l1 s) (atomF n C.l2 (C.sh s))

theorem ex_sim (C : Lk) : ∀ n, ExSim C n
  | 0 => ⟨fun s h => by rw [exprF]; exact .outI, fun v s h => by rw [chainF]; exact .outI, fun v e1 e2 s hv h => by rw [chainLoopF]; exact .outI, fun s h => by rw [prefixF]; exact .outI, fun s h => by rw [atomF]; exact .outI⟩
  | n + 1 => by
    have ih := ex_sim C n
    refine ⟨fun s h => ?_, fun v s h => ?_, fun v e1 e2 s hve h => ?_, fun s h => ?_, fun s h => ?_⟩
    · rw [exprF, exprF]; exact ih.chain 0 s h
    · rw [chainF, chainF]
      refine .ite Iff.rfl (fun _ => .outI) fun _ => ?_
      refine .ite Iff.rfl (fun _ => ih.pre s h) fun _ => ?_
      refine Sim.bind (s := s) inferInstance (ih.chain (v + 1) s h) (fun _ _ => by repeat' first | with_reducible (refine Mono.bindI ?_ (fun _ _ => ?_)) | with_reducible (refine Mono.iteI ?_ ?_) | infer_instance) fun a b s1 hv h1 _ => ?_
      exact ih.loop v a b s1 hv (by omega)
    · rw [chainLoopF, chainLoopF]
      refine Sim.bind (s := s) inferInstance (sim_peek h) (fun _ _ => by repeat' first | with_reducible (refine Mono.bindI ?_ (fun _ _ => ?_)) | with_reducible (refine Mono.iteI ?_ ?_) | infer_instance) fun t1 t2 s1 ht h1 _ => ?_
      refine .ite (by rw [ht.len]) (fun _ => .outI) fun _ => ?_
      refine .iteB (by rw [ht.kind, ht.sign v]) (fun _ => .okI hve rfl) fun hc => ?_
      have htx : t1.text = t2.text := by
        rcases ht.text with e | ⟨_, _, e1, _⟩
        · exact e
        · rw [e1, (sg_pair v).1] at hc; simp at hc
      refine Sim.bind (s := s1) inferInstance (sim_next (by omega)) (fun _ _ => by repeat' first | with_reducible (refine Mono.bindI ?_ (fun _ _ => ?_)) | with_reducible (refine Mono.iteI ?_ ?_) | infer_instance) fun u1 u2 s2 _ h2 _ => ?_
      refine Sim.bind (s := s2) inferInstance (ih.chain (v + 1) s2 (by omega)) (fun _ _ => by repeat' first | with_reducible (refine Mono.bindI ?_ (fun _ _ => ?_)) | with_reducible (refine Mono.iteI ?_ ?_) | infer_instance) fun k1 k2 s3 hk h3 _ => ?_
      have hnew : VE ⟨9, binS t1.text, 0, 0, [], [], [e1, k1], t1.line, t1.col⟩ ⟨9, binS t2.text, 0, 0, [], [], [e2, k2], t2.line, t2.col⟩ := by
        simp only [VE, erE, erEs] at hve hk ⊢
        rw [hve, hk, htx]
      exact .ite Iff.rfl (fun _ => .okI hnew rfl) fun _ => ih.loop v _ _ s3 hnew (by omega)
    · rw [prefixF, prefixF]
      refine Sim.bind (s := s) inferInstance (sim_peek h) (fun _ _ => by repeat' first | with_reducible (refine Mono.bindI ?_ (fun _ _ => ?_)) | with_reducible (refine Mono.iteI ?_ ?_) | infer_instance) fun t1 t2 s1 ht h1 _ => ?_
      refine .iteB (by rw [ht.kind]) (fun _ => ?_) fun _ => ih.atom s1 (by omega)
      refine .iteB (by rw [ht.un]) (fun _ => ih.atom s1 (by omega)) fun _ => ?_
      refine Sim.bind (s := s1) inferInstance (sim_next (by omega)) (fun _ _ => by repeat' first | with_reducible (refine Mono.bindI ?_ (fun _ _ => ?_)) | with_reducible (refine Mono.iteI ?_ ?_) | infer_instance) fun u1 u2 s2 _ h2 _ => ?_
      refine Sim.bind (s := s2) inferInstance (sim_down t1 t2) (fun _ _ => by repeat' first | with_reducible (refine Mono.bindI ?_ (fun _ _ => ?_)) | with_reducible (refine Mono.iteI ?_ ?_) | infer_instance) fun _ _ s3 _ h3 _ => ?_
      refine Sim.bind (s := s3) inferInstance (ih.pre s3 (by omega)) (fun _ _ => by repeat' first | with_reducible (refine Mono.bindI ?_ (fun _ _ => ?_)) | with_reducible (refine Mono.iteI ?_ ?_) | infer_instance) fun k1 k2 s4 hk h4 _ => ?_
      refine Sim.bind (s := s4) inferInstance sim_up (fun _ _ => by repeat' first | with_reducible (refine Mono.bindI ?_ (fun _ _ => ?_)) | with_reducible (refine Mono.iteI ?_ ?_) | infer_instance) fun _ _ s5 _ h5 _ => ?_
      refine .okI ?_ rfl
      simp only [VE, erE, erEs] at hk ⊢
      rw [hk, ht.un]
    · rw [atomF, atomF]
      refine Sim.bind (s := s) inferInstance (sim_next h) (fun _ _ => by repeat' first | with_reducible (refine Mono.bindI ?_ (fun _ _ => ?_)) | with_reducible (refine Mono.iteI ?_ ?_) | infer_instance) fun t1 t2 s1 ht h1 _ => ?_
      refine .iteB (by rw [ht.kind]) (fun _ => .okI (by simp only [VE, erE]; rw [ht.n]) rfl) fun _ => ?_
      refine .iteB (by rw [ht.kind]) (fun _ => .okI (by simp only [VE, erE]; rw [ht.n]) rfl) fun _ => ?_
      refine .iteB (by rw [ht.kind]) (fun h9 => .okI (by simp only [VE, erE]; rw [ht.txt (by have := eq_of_beq h9; omega)]) rfl) fun _ => ?_
      refine .iteB (by rw [ht.kind, ht.is _ (fun _ => by decide)]) (fun _ => ?_) fun _ => ?_
      · refine Sim.bind (s := s1) inferInstance (sim_kind (by omega) 3) (fun _ _ => by repeat' first | with_reducible (refine Mono.bindI ?_ (fun _ _ => ?_)) | with_reducible (refine Mono.iteI ?_ ?_) | infer_instance) fun u1 u2 s2 hu h2 _ => ?_
        exact .okI (by simp only [VE, erE]; rw [hu.n]) rfl
      refine .iteB (by rw [ht.kind, ht.is _ (fun _ => by decide)]) (fun _ => ?_) fun _ => ?_
      · refine Sim.bind (s := s1) inferInstance (sim_eat (by omega) _ (fun _ => by decide)) (fun _ _ => by repeat' first | with_reducible (refine Mono.bindI ?_ (fun _ _ => ?_)) | with_reducible (refine Mono.iteI ?_ ?_) | infer_instance) fun b1 b2 s2 hb h2 _ => ?_
        subst hb
        refine .ite Iff.rfl (fun _ => ?_) fun _ => .okI (by simp only [VE, erE]) rfl
        refine Sim.bind (s := s2) inferInstance (sim_kind1 (by omega)) (fun _ _ => by repeat' first | with_reducible (refine Mono.bindI ?_ (fun _ _ => ?_)) | with_reducible (refine Mono.iteI ?_ ?_) | infer_instance) fun u1 u2 s3 hu h3 _ => ?_
        exact .okI (by simp only [VE, erE]; rw [hu.1]) rfl
      refine .iteB (by rw [ht.kind, ht.is _ (fun _ => by decide)]) (fun _ => ?_) fun _ => .badI
      refine Sim.bind (s := s1) inferInstance (sim_down t1 t2) (fun _ _ => by repeat' first | with_reducible (refine Mono.bindI ?_ (fun _ _ => ?_)) | with_reducible (refine Mono.iteI ?_ ?_) | infer_instance) fun _ _ s2 _ h2 _ => ?_
      refine Sim.bind (s := s2) inferInstance (ih.expr s2 (by omega)) (fun _ _ => by repeat' first | with_reducible (refine Mono.bindI ?_ (fun _ _ => ?_)) | with_reducible (refine Mono.iteI ?_ ?_) | infer_instance) fun k1 k2 s3 hk h3 _ => ?_
      refine Sim.bind (s := s3) inferInstance (sim_must (by omega) _) (fun _ _ => by repeat' first | with_reducible (refine Mono.bindI ?_ (fun _ _ => ?_)) | with_reducible (refine Mono.iteI ?_ ?_) | infer_instance) fun _ _ s4 _ h4 _ => ?_
      refine Sim.bind (s := s4) inferInstance sim_up (fun _ _ => by repeat' first | with_reducible (refine Mono.bindI ?_ (fun _ _ => ?_)) | with_reducible (refine Mono.iteI ?_ ?_) | infer_instance) fun _ _ s5 _ h5 _ => ?_
      exact .okI hk rfl

end Go.AE

set_option linter.unusedVariables false
set_option linter.unusedSimpArgs false
set_option maxRecDepth 4000
namespace Go.AE
open Go.Proofs


theorem u8_wrap_bd (x : Int) : 0 ≤ IntKind.u8.wrap x ∧ IntKind.u8.wrap x < 256 := by rw [IntKind.wrap_u8]; omega
theorem bytes_wrap : ∀ (xs : List Int), (xs.map fun x => AV.int .u8 (IntKind.u8.wrap x)) = bytesAV (xs.map fun x => UInt8.ofNat (IntKind.u8.wrap x).toNat)
  | [] => rfl
  | x :: xs => by
   have h := bytes_wrap xs
   simp only [bytesAV, List.map_cons, List.map_map] at h ⊢
   rw [h, u8_ret]
   ·exact (u8_wrap_bd x).1
   ·exact (u8_wrap_bd x).2

def textI (n : Int) : List UInt8 := (([((IntKind.u64.wrap (n))), (((IntKind.u64.wrap (n)) : Int).fdiv (2 ^ 8)), (((IntKind.u64.wrap (n)) : Int).fdiv (2 ^ 16)), (((IntKind.u64.wrap (n)) : Int).fdiv (2 ^ 24)), (((IntKind.u64.wrap (n)) : Int).fdiv (2 ^ 32)), (((IntKind.u64.wrap (n)) : Int).fdiv (2 ^ 40)), (((IntKind.u64.wrap (n)) : Int).fdiv (2 ^ 48)), (((IntKind.u64.wrap (n)) : Int).fdiv (2 ^ 56))] : List Int).map fun x => UInt8.ofNat (IntKind.u8.wrap x).toNat)
def strAV (l : List (List UInt8)) : List AV := l.map .str
theorem strAV_append (a b : List (List UInt8)) : strAV (a ++ b) = strAV a ++ strAV b := List.map_append
theorem strAV_length (a : List (List UInt8)) : (strAV a).length = a.length := List.length_map _
theorem strAV_closed : ∀ l, closedAll (strAV l) = true
  | [] => rfl
  | x :: l => by simp [strAV, closedAll, closed]; exact strAV_closed l
def exH (e : Ex) : List (List UInt8) := [[101, 120, 112, 114], textI e.op, textI e.bin, textI (IntKind.i64.wrap e.n), textI e.tk, e.tr, e.name, textI (e.kids.length : Int)]
mutual
def exT : Ex → List (List UInt8)
  | ⟨op, bin, n, tk, tr, name, kids, line, col⟩ => [[101, 120, 112, 114], textI op, textI bin, textI (IntKind.i64.wrap n), textI tk, tr, name, textI (kids.length : Int)] ++ exTs kids
def exTs : List Ex → List (List UInt8)
  | [] => []
  | e :: l => exT e ++ exTs l
end
theorem exT_eq (e : Ex) : exT e = exH e ++ exTs e.kids := by cases e; rw [exT]; rfl
theorem exTs_append (a b : List Ex) : exTs (a ++ b) = exTs a ++ exTs b := by
  induction a with
  | nil => simp [exTs]
  | cons x a ih => simp [exTs, ih]
theorem exT_pos (e : Ex) : 8 ≤ (exT e).length := by rw [exT_eq, List.length_append]; simp only [exH, List.length_cons, List.length_nil]; omega
theorem exTs_len (l : List Ex) : l.length ≤ (exTs l).length := by
  induction l with
  | nil => simp
  | cons x l ih => have := exT_pos x; rw [exTs, List.length_append, List.length_cons]; omega
theorem exTs_take (l : List Ex) (i : Nat) (h : i < l.length) : exTs (l.take (i + 1)) = exTs (l.take i) ++ exT (l.getD i exZ) := by
  have e : l.take (i + 1) = l.take i ++ [l.getD i exZ] := by
   rw [List.take_add_one, List.getElem?_eq_getElem h]; simp [List.getD, h]
  rw [e, exTs_append]; simp [exTs]
theorem exTs_le (l : List Ex) (i : Nat) (h : i < l.length) : (exTs (l.take i)).length + (exT (l.getD i exZ)).length ≤ (exTs l).length := by
  have e := exTs_take l i h
  have e2 : exTs l = exTs (l.take (i + 1)) ++ exTs (l.drop (i + 1)) := by rw [← exTs_append, List.take_append_drop]
  rw [e2, e]; simp only [List.length_append]; omega
theorem exRows_at : ∀ (l : List Ex) (j : Nat), j < l.length → ((exRows l).drop (j * 9)).take 9 = exAV (l.getD j exZ)
  | [], j, h => by simp at h
  | e :: l, 0, h => by rw [exRows_cons]; simp [exAV]
  | e :: l, j + 1, h => by
   have := exRows_at l j (by simpa using h)
   rw [exRows_cons, show (j + 1) * 9 = 9 + j * 9 from by omega, ← List.drop_drop]
   simpa [exAV] using this
mutual
theorem exT_er : ∀ e : Ex, exT (erE e) = exT e
  | ⟨op, bin, n, tk, tr, name, kids, line, col⟩ => by rw [erE, exT, exT, erEs_length, exTs_er kids]
theorem exTs_er : ∀ l : List Ex, exTs (erEs l) = exTs l
  | [] => by simp [erEs]
  | e :: l => by rw [erEs, exTs, exTs, exT_er e, exTs_er l]
end
theorem VE.text {a b : Ex} (h : VE a b) : exT a = exT b := by rw [← exT_er a, ← exT_er b, h]

theorem text_walk (n : Int) (σ : St)  : ACalls Tryd.prog 30 [.i n] σ (fun e s => σ = s ∧ e = .ret (.str (textI n))) := by
  refine ACalls.enter hT Tryd.func30 rfl (by kernel_rfl) ?_
  refine ACode.seq ?_
  refine ACode.run hT nh [0] (fr' := ⟨[(0, .i n)], [], [], [], 0⟩) (σ' := σ) (ob := Tt 2) (by kernel_rfl) (tt 2) ?_
  refine ACode.seq ?_
  refine ACode.region ?_
  refine AOps.runN hT nh 3 [3] (fr' := ⟨[(3, .int .u64 (IntKind.u64.wrap (n)))], [], [], [], 0⟩) (σ' := σ) (ob := Tt 4) (by kernel_rfl) (tt 4) ?_
  refine AOps.nil ?_
  refine ACode.seq ?_
  refine ACode.region ?_
  refine AOps.runN hT nh 24 [29] (fr' := ⟨[(29, .slice [.int .u8 (IntKind.u8.wrap ((IntKind.u64.wrap (n)))), .int .u8 (IntKind.u8.wrap (((IntKind.u64.wrap (n)) : Int).fdiv (2 ^ 8))), .int .u8 (IntKind.u8.wrap (((IntKind.u64.wrap (n)) : Int).fdiv (2 ^ 16))), .int .u8 (IntKind.u8.wrap (((IntKind.u64.wrap (n)) : Int).fdiv (2 ^ 24))), .int .u8 (IntKind.u8.wrap (((IntKind.u64.wrap (n)) : Int).fdiv (2 ^ 32))), .int .u8 (IntKind.u8.wrap (((IntKind.u64.wrap (n)) : Int).fdiv (2 ^ 40))), .int .u8 (IntKind.u8.wrap (((IntKind.u64.wrap (n)) : Int).fdiv (2 ^ 48))), .int .u8 (IntKind.u8.wrap (((IntKind.u64.wrap (n)) : Int).fdiv (2 ^ 56)))] 8 .exact)], [], [], [], 0⟩) (σ' := σ) (ob := True ∧ True ∧ True ∧ (¬ (8 : Int) < 0) ∧ True ∧ True ∧ (¬ (16 : Int) < 0) ∧ True ∧ True ∧ (¬ (24 : Int) < 0) ∧ True ∧ True ∧ (¬ (32 : Int) < 0) ∧ True ∧ True ∧ (¬ (40 : Int) < 0) ∧ True ∧ True ∧ (¬ (48 : Int) < 0) ∧ True ∧ True ∧ (¬ (56 : Int) < 0) ∧ True ∧ True ∧ True) (by kernel_rfl) ⟨trivial, trivial, trivial, (by first | omega | (simp; done) | (simp; omega)), trivial, trivial, (by first | omega | (simp; done) | (simp; omega)), trivial, trivial, (by first | omega | (simp; done) | (simp; omega)), trivial, trivial, (by first | omega | (simp; done) | (simp; omega)), trivial, trivial, (by first | omega | (simp; done) | (simp; omega)), trivial, trivial, (by first | omega | (simp; done) | (simp; omega)), trivial, trivial, (by first | omega | (simp; done) | (simp; omega)), trivial, trivial, trivial⟩ ?_
  refine AOps.textOf hT (b := (([((IntKind.u64.wrap (n))), (((IntKind.u64.wrap (n)) : Int).fdiv (2 ^ 8)), (((IntKind.u64.wrap (n)) : Int).fdiv (2 ^ 16)), (((IntKind.u64.wrap (n)) : Int).fdiv (2 ^ 24)), (((IntKind.u64.wrap (n)) : Int).fdiv (2 ^ 32)), (((IntKind.u64.wrap (n)) : Int).fdiv (2 ^ 40)), (((IntKind.u64.wrap (n)) : Int).fdiv (2 ^ 48)), (((IntKind.u64.wrap (n)) : Int).fdiv (2 ^ 56))] : List Int).map fun x => UInt8.ofNat (IntKind.u8.wrap x).toNat)) (cs := [.int .u8 (IntKind.u8.wrap ((IntKind.u64.wrap (n)))), .int .u8 (IntKind.u8.wrap (((IntKind.u64.wrap (n)) : Int).fdiv (2 ^ 8))), .int .u8 (IntKind.u8.wrap (((IntKind.u64.wrap (n)) : Int).fdiv (2 ^ 16))), .int .u8 (IntKind.u8.wrap (((IntKind.u64.wrap (n)) : Int).fdiv (2 ^ 24))), .int .u8 (IntKind.u8.wrap (((IntKind.u64.wrap (n)) : Int).fdiv (2 ^ 32))), .int .u8 (IntKind.u8.wrap (((IntKind.u64.wrap (n)) : Int).fdiv (2 ^ 40))), .int .u8 (IntKind.u8.wrap (((IntKind.u64.wrap (n)) : Int).fdiv (2 ^ 48))), .int .u8 (IntKind.u8.wrap (((IntKind.u64.wrap (n)) : Int).fdiv (2 ^ 56)))]) (n := 8) (own := .exact) (e := 5) (by_ := 1) (by kernel_rfl) rfl (by kernel_rfl) (by kernel_rfl) (bytes_wrap [((IntKind.u64.wrap (n))), (((IntKind.u64.wrap (n)) : Int).fdiv (2 ^ 8)), (((IntKind.u64.wrap (n)) : Int).fdiv (2 ^ 16)), (((IntKind.u64.wrap (n)) : Int).fdiv (2 ^ 24)), (((IntKind.u64.wrap (n)) : Int).fdiv (2 ^ 32)), (((IntKind.u64.wrap (n)) : Int).fdiv (2 ^ 40)), (((IntKind.u64.wrap (n)) : Int).fdiv (2 ^ 48)), (((IntKind.u64.wrap (n)) : Int).fdiv (2 ^ 56))]) rfl (by simp) (by kernel_rfl) (by kernel_rfl) (by kernel_rfl) ?_
  refine AOps.runN hT nh 1 [2] (fr' := ⟨[(2, .str (([((IntKind.u64.wrap (n))), (((IntKind.u64.wrap (n)) : Int).fdiv (2 ^ 8)), (((IntKind.u64.wrap (n)) : Int).fdiv (2 ^ 16)), (((IntKind.u64.wrap (n)) : Int).fdiv (2 ^ 24)), (((IntKind.u64.wrap (n)) : Int).fdiv (2 ^ 32)), (((IntKind.u64.wrap (n)) : Int).fdiv (2 ^ 40)), (((IntKind.u64.wrap (n)) : Int).fdiv (2 ^ 48)), (((IntKind.u64.wrap (n)) : Int).fdiv (2 ^ 56))] : List Int).map fun x => UInt8.ofNat (IntKind.u8.wrap x).toNat))], [], [], [], 0⟩) (σ' := σ) (ob := Tt 2) (by kernel_rfl) (tt 2) ?_
  refine AOps.nil ?_
  refine ACode.ret ?_
  exact retQ.ret (.str (([((IntKind.u64.wrap (n))), (((IntKind.u64.wrap (n)) : Int).fdiv (2 ^ 8)), (((IntKind.u64.wrap (n)) : Int).fdiv (2 ^ 16)), (((IntKind.u64.wrap (n)) : Int).fdiv (2 ^ 24)), (((IntKind.u64.wrap (n)) : Int).fdiv (2 ^ 32)), (((IntKind.u64.wrap (n)) : Int).fdiv (2 ^ 40)), (((IntKind.u64.wrap (n)) : Int).fdiv (2 ^ 48)), (((IntKind.u64.wrap (n)) : Int).fdiv (2 ^ 56))] : List Int).map fun x => UInt8.ofNat (IntKind.u8.wrap x).toNat)) (by kernel_rfl) ⟨rfl, rfl⟩
theorem expr_walk1 (e : Ex) (σ : St) (hL : (exTs e.kids).length ≤ 1000000) (ih : ∀ k, (exT k).length ≤ (exTs e.kids).length → (exT k).length ≤ 1000000 → ∀ σ, ACalls Tryd.prog 19 [.agg (exAV k)] σ (fun x s => σ = s ∧ x = .ret (.slice (strAV (exT k)) (exT k).length .no))) : ACalls Tryd.prog 19 [.agg [.i e.op, .i e.bin, .int .u64 e.n, .i e.tk, .str e.tr, .str e.name, .slice (exRows e.kids) e.kids.length .no, .i e.line, .i e.col]] σ (fun x s => σ = s ∧ x = .ret (.slice (strAV (exT e)) (exT e).length .no)) := by
  refine ACalls.soft ?_
  have hK := exTs_len e.kids
  refine ACalls.enter hT Tryd.func19 rfl (by kernel_rfl) ?_
  refine ACode.seq ?_
  refine ACode.run hT nh [1] (fr' := ⟨[(1, .loc 0 0)], [[.i e.op, .i e.bin, .int .u64 e.n, .i e.tk, .str e.tr, .str e.name, .slice (exRows e.kids) e.kids.length .no, .i e.line, .i e.col]], [], [], 0⟩) (σ' := σ) (ob := Tt 3) (by kernel_rfl) (tt 3) ?_
  refine ACode.seq ?_
  refine ACode.draw [] 1 [] 0 (by kernel_rfl) (by kernel_rfl) ?_
  refine AAny.run hT nh (fuel := 7) [0, 1, 3, 4, 6, 7, 8, 10, 11, 12, 14, 15, 16, 17, 18, 19, 20, 21] [1, 7, 10, 14, 18, 22, 24, 27] (fz' := true) (l' := #[true, true, false, true, true, false, true, true, true, false, true, true, true, false, true, true, true, true, true, true, true, true, false, false, false]) (fr' := ⟨[(1, .loc 0 0), (7, .i e.op), (10, .i e.bin), (14, .i (IntKind.i64.wrap (e.n))), (18, .i e.tk), (22, .str e.tr), (24, .str e.name), (27, .i ((e.kids.length : Nat) : Int))], [[.i e.op, .i e.bin, .int .u64 e.n, .i e.tk, .str e.tr, .str e.name, .slice (exRows e.kids) e.kids.length .no, .i e.line, .i e.col]], [], [], 0⟩) (σ' := σ) (ob := Tt 19) (by kernel_rfl) (by kernel_rfl) (tt 19) ?_
  refine AAny.call (fuel := 6) (i := 2) (fid := 30) (cap := []) (avs := [.i e.op]) rfl (by kernel_rfl) (by kernel_rfl) (by kernel_rfl) (by kernel_rfl) rfl (by kernel_rfl) en_30 (by kernel_rfl) (ACalls.mono (text_walk e.op _) ?_) (by kernel_rfl)
  rintro _ _ ⟨rfl, rfl⟩
  refine AAny.call (fuel := 5) (i := 5) (fid := 30) (cap := []) (avs := [.i e.bin]) rfl (by kernel_rfl) (by kernel_rfl) (by kernel_rfl) (by kernel_rfl) rfl (by kernel_rfl) en_30 (by kernel_rfl) (ACalls.mono (text_walk e.bin _) ?_) (by kernel_rfl)
  rintro _ _ ⟨rfl, rfl⟩
  refine AAny.call (fuel := 4) (i := 9) (fid := 30) (cap := []) (avs := [.i (IntKind.i64.wrap (e.n))]) rfl (by kernel_rfl) (by kernel_rfl) (by kernel_rfl) (by kernel_rfl) rfl (by kernel_rfl) en_30 (by kernel_rfl) (ACalls.mono (text_walk (IntKind.i64.wrap (e.n)) _) ?_) (by kernel_rfl)
  rintro _ _ ⟨rfl, rfl⟩
  refine AAny.call (fuel := 3) (i := 13) (fid := 30) (cap := []) (avs := [.i e.tk]) rfl (by kernel_rfl) (by kernel_rfl) (by kernel_rfl) (by kernel_rfl) rfl (by kernel_rfl) en_30 (by kernel_rfl) (ACalls.mono (text_walk e.tk _) ?_) (by kernel_rfl)
  rintro _ _ ⟨rfl, rfl⟩
  refine AAny.call (fuel := 2) (i := 22) (fid := 30) (cap := []) (avs := [.i ((e.kids.length : Nat) : Int)]) rfl (by kernel_rfl) (by kernel_rfl) (by kernel_rfl) (by kernel_rfl) rfl (by kernel_rfl) en_30 (by kernel_rfl) (ACalls.mono (text_walk ((e.kids.length : Nat) : Int) _) ?_) (by kernel_rfl)
  rintro _ _ ⟨rfl, rfl⟩
  refine AAny.run hT nh (fuel := 0) [23, 24] [1, 3] (fz' := false) (l' := #[true, true, true, true, true, true, true, true, true, true, true, true, true, true, true, true, true, true, true, true, true, true, true, true, true]) (fr' := ⟨[(1, .loc 0 0), (3, .slice [.str [101, 120, 112, 114], .str (textI e.op), .str (textI e.bin), .str (textI (IntKind.i64.wrap (e.n))), .str (textI e.tk), .str e.tr, .str e.name, .str (textI ((e.kids.length : Nat) : Int))] 8 .exact)], [[.i e.op, .i e.bin, .int .u64 e.n, .i e.tk, .str e.tr, .str e.name, .slice (exRows e.kids) e.kids.length .no, .i e.line, .i e.col]], [], [], 0⟩) (σ' := σ) (ob := Tt 3) (by kernel_rfl) (by kernel_rfl) (tt 3) ?_
  refine AAny.done (by kernel_rfl) ?_
  refine ACode.seq ?_
  refine ACode.seq ?_
  refine ACode.run hT nh [3, 31, 32, 33] (fr' := ⟨[(3, .slice [.str [101, 120, 112, 114], .str (textI e.op), .str (textI e.bin), .str (textI (IntKind.i64.wrap (e.n))), .str (textI e.tk), .str e.tr, .str e.name, .str (textI ((e.kids.length : Nat) : Int))] 8 .exact), (31, .slice (exRows e.kids) e.kids.length .no), (32, .i ((e.kids.length : Nat) : Int)), (33, .i 0)], [[.i e.op, .i e.bin, .int .u64 e.n, .i e.tk, .str e.tr, .str e.name, .slice (exRows e.kids) e.kids.length .no, .i e.line, .i e.col]], [], [], 0⟩) (σ' := σ) (ob := Tt 5) (by kernel_rfl) (tt 5) ?_
  refine ACode.block ?_
  refine ACode.loop [3, 31, 32, 33] 1 0 (fun n0 fr σ' => ∃ (i : Nat), ∃ (own : Own), ∃ (tk : List Nat), ∃ (nx : Nat), fr = ⟨[(3, .slice (strAV (exH e ++ exTs (e.kids.take i))) (8 + (exTs (e.kids.take i)).length) own), (31, .slice (exRows e.kids) e.kids.length .no), (32, .i ((e.kids.length : Nat) : Int)), (33, .i (i : Int))], [[.i e.op, .i e.bin, .int .u64 e.n, .i e.tk, .str e.tr, .str e.name, .slice (exRows e.kids) e.kids.length .no, .i e.line, .i e.col]], [], tk, nx⟩ ∧ σ = σ' ∧ (i ≤ e.kids.length ∧ Can tk 1 (8 + (exTs (e.kids.take i)).length) (strAV (exH e ++ exTs (e.kids.take i))).length own) ∧ n0 = e.kids.length - i) _ (by kernel_rfl) ⟨0, .exact, [], 0, rfl, rfl, ⟨Nat.zero_le _, rfl⟩, rfl⟩ ?_
  rintro n0 fr σ' ⟨i, own, tk, nx, rfl, rfl, ⟨hi, hC⟩, rfl⟩
  refine ACode.seq ?_
  refine ACode.run hT nh [3, 31, 32, 33, 34] (fr' := ⟨[(3, .slice (strAV (exH e ++ exTs (e.kids.take i))) (8 + (exTs (e.kids.take i)).length) own), (31, .slice (exRows e.kids) e.kids.length .no), (32, .i ((e.kids.length : Nat) : Int)), (33, .i (i : Int)), (34, .bool (decide ((i : Int) < ((e.kids.length : Nat) : Int))))], [[.i e.op, .i e.bin, .int .u64 e.n, .i e.tk, .str e.tr, .str e.name, .slice (exRows e.kids) e.kids.length .no, .i e.line, .i e.col]], [], tk, nx⟩) (σ' := σ) (ob := Tt 2) (by kernel_rfl) (tt 2) ?_
  refine ACode.seq ?_
  refine ACode.cond (t := decide ((i : Int) < ((e.kids.length : Nat) : Int))) (by kernel_rfl) (fun h1 => ?_) (fun h1 => ?_)
  ·
   have h1k := of_decide_eq_true h1
   refine ACode.skip ?_
   refine ACode.seq ?_
   refine ACode.block ?_
   refine ACode.seq ?_
   refine ACode.region ?_
   refine AOps.runN hT nh 1 [3, 31, 32, 33, 35] (fr' := ⟨[(3, .slice (strAV (exH e ++ exTs (e.kids.take i))) (8 + (exTs (e.kids.take i)).length) own), (31, .slice (exRows e.kids) e.kids.length .no), (32, .i ((e.kids.length : Nat) : Int)), (33, .i (i : Int)), (35, .dat (((exRows e.kids : List AV).drop (i * 9)).take 9))], [[.i e.op, .i e.bin, .int .u64 e.n, .i e.tk, .str e.tr, .str e.name, .slice (exRows e.kids) e.kids.length .no, .i e.line, .i e.col]], [], tk, nx⟩) (σ' := σ) (ob := (0 ≤ ((i : Int) : Int) ∧ ((i : Int) : Int) < (e.kids.length : Nat) ∧ i * 9 ≤ (exRows e.kids : List AV).length) ∧ True) (by kernel_rfl) ⟨(by first | (rw [exRows_length]; omega) | (simp; done) | decide), trivial⟩ ?_
   rw [exRows_at e.kids i (by omega)]
   refine AOps.runN hT nh 3 [3, 5, 31, 32, 33] (fr' := ⟨[(3, .slice (strAV (exH e ++ exTs (e.kids.take i))) (8 + (exTs (e.kids.take i)).length) own), (5, .loc 1 0), (31, .slice (exRows e.kids) e.kids.length .no), (32, .i ((e.kids.length : Nat) : Int)), (33, .i (i : Int))], [[.i e.op, .i e.bin, .int .u64 e.n, .i e.tk, .str e.tr, .str e.name, .slice (exRows e.kids) e.kids.length .no, .i e.line, .i e.col], [.i ((e.kids.getD i exZ).op), .i ((e.kids.getD i exZ).bin), .int .u64 ((e.kids.getD i exZ).n), .i ((e.kids.getD i exZ).tk), .str ((e.kids.getD i exZ).tr), .str ((e.kids.getD i exZ).name), .slice (exRows (e.kids.getD i exZ).kids) ((e.kids.getD i exZ).kids.length) .no, .i ((e.kids.getD i exZ).line), .i ((e.kids.getD i exZ).col)]], [], tk, nx⟩) (σ' := σ) (ob := (9 ≤ ([.i ((e.kids.getD i exZ).op), .i ((e.kids.getD i exZ).bin), .int .u64 ((e.kids.getD i exZ).n), .i ((e.kids.getD i exZ).tk), .str ((e.kids.getD i exZ).tr), .str ((e.kids.getD i exZ).name), .slice (exRows (e.kids.getD i exZ).kids) ((e.kids.getD i exZ).kids.length) .no, .i ((e.kids.getD i exZ).line), .i ((e.kids.getD i exZ).col)] : List AV).length) ∧ True ∧ True ∧ True) (by kernel_rfl) ⟨(by first | (rw [exRows_length]; omega) | (simp; done) | decide), trivial, trivial, trivial⟩ ?_
   refine AOps.nil ?_
   refine ACode.region ?_
   refine AOps.runN hT nh 2 [31, 32, 33, 37, 38] (fr' := ⟨[(31, .slice (exRows e.kids) e.kids.length .no), (32, .i ((e.kids.length : Nat) : Int)), (33, .i (i : Int)), (37, .slice (strAV (exH e ++ exTs (e.kids.take i))) (8 + (exTs (e.kids.take i)).length) own), (38, .agg [.i ((e.kids.getD i exZ).op), .i ((e.kids.getD i exZ).bin), .int .u64 ((e.kids.getD i exZ).n), .i ((e.kids.getD i exZ).tk), .str ((e.kids.getD i exZ).tr), .str ((e.kids.getD i exZ).name), .slice (exRows (e.kids.getD i exZ).kids) ((e.kids.getD i exZ).kids.length) .no, .i ((e.kids.getD i exZ).line), .i ((e.kids.getD i exZ).col)])], [[.i e.op, .i e.bin, .int .u64 e.n, .i e.tk, .str e.tr, .str e.name, .slice (exRows e.kids) e.kids.length .no, .i e.line, .i e.col], [.i ((e.kids.getD i exZ).op), .i ((e.kids.getD i exZ).bin), .int .u64 ((e.kids.getD i exZ).n), .i ((e.kids.getD i exZ).tk), .str ((e.kids.getD i exZ).tr), .str ((e.kids.getD i exZ).name), .slice (exRows (e.kids.getD i exZ).kids) ((e.kids.getD i exZ).kids.length) .no, .i ((e.kids.getD i exZ).line), .i ((e.kids.getD i exZ).col)]], [], tk, nx⟩) (σ' := σ) (ob := Tt 3) (by kernel_rfl) (tt 3) ?_
   refine AOps.call (fid := 19) (cap := []) (avs := [.agg [.i ((e.kids.getD i exZ).op), .i ((e.kids.getD i exZ).bin), .int .u64 ((e.kids.getD i exZ).n), .i ((e.kids.getD i exZ).tk), .str ((e.kids.getD i exZ).tr), .str ((e.kids.getD i exZ).name), .slice (exRows (e.kids.getD i exZ).kids) ((e.kids.getD i exZ).kids.length) .no, .i ((e.kids.getD i exZ).line), .i ((e.kids.getD i exZ).col)]]) (by kernel_rfl) rfl (by kernel_rfl) (by kernel_rfl) en_19 (by kernel_rfl) (ACalls.mono (ih (e.kids.getD i exZ) (by have := exTs_le e.kids i (by omega); omega) (by have := exTs_le e.kids i (by omega); omega) _) ?_)
   rintro _ _ ⟨rfl, rfl⟩
   refine AOps.append hT (cs := strAV (exH e ++ exTs (e.kids.take i))) (ds := strAV (exT (e.kids.getD i exZ))) (n := (8 + (exTs (e.kids.take i)).length)) (k := (exT (e.kids.getD i exZ)).length) (own := own) (own' := .no) (e := 9) (b := false) (sz := 1) (by_ := 16) [] (by kernel_rfl) rfl (by kernel_rfl) (by kernel_rfl) (by kernel_rfl) (by kernel_rfl) hC (by have := exT_pos (e.kids.getD i exZ); omega) (by rw [strAV_length]; omega) (by have := exTs_le e.kids i (by omega); unfold room; omega) (fun u hu => by cases hu) ?_
   refine AOps.runN hT nh 1 [3, 31, 32, 33] (fr' := ⟨[(3, .slice ((strAV (exH e ++ exTs (e.kids.take i))) ++ (strAV (exT (e.kids.getD i exZ)) : List AV)) ((8 + (exTs (e.kids.take i)).length) + (exT (e.kids.getD i exZ)).length) (.tok nx 1)), (31, .slice (exRows e.kids) e.kids.length .no), (32, .i ((e.kids.length : Nat) : Int)), (33, .i (i : Int))], [[.i e.op, .i e.bin, .int .u64 e.n, .i e.tk, .str e.tr, .str e.name, .slice (exRows e.kids) e.kids.length .no, .i e.line, .i e.col], [.i ((e.kids.getD i exZ).op), .i ((e.kids.getD i exZ).bin), .int .u64 ((e.kids.getD i exZ).n), .i ((e.kids.getD i exZ).tk), .str ((e.kids.getD i exZ).tr), .str ((e.kids.getD i exZ).name), .slice (exRows (e.kids.getD i exZ).kids) ((e.kids.getD i exZ).kids.length) .no, .i ((e.kids.getD i exZ).line), .i ((e.kids.getD i exZ).col)]], [], nx :: [], nx + 1⟩) (σ' := σ) (ob := Tt 2) (by kernel_rfl) (tt 2) ?_
   refine AOps.nil ?_
   refine ACode.run hT nh [3, 31, 32, 33] (fr' := ⟨[(3, .slice ((strAV (exH e ++ exTs (e.kids.take i))) ++ (strAV (exT (e.kids.getD i exZ)) : List AV)) ((8 + (exTs (e.kids.take i)).length) + (exT (e.kids.getD i exZ)).length) (.tok nx 1)), (31, .slice (exRows e.kids) e.kids.length .no), (32, .i ((e.kids.length : Nat) : Int)), (33, .i (IntKind.i64.wrap ((i : Int) + 1)))], [[.i e.op, .i e.bin, .int .u64 e.n, .i e.tk, .str e.tr, .str e.name, .slice (exRows e.kids) e.kids.length .no, .i e.line, .i e.col], [.i ((e.kids.getD i exZ).op), .i ((e.kids.getD i exZ).bin), .int .u64 ((e.kids.getD i exZ).n), .i ((e.kids.getD i exZ).tk), .str ((e.kids.getD i exZ).tr), .str ((e.kids.getD i exZ).name), .slice (exRows (e.kids.getD i exZ).kids) ((e.kids.getD i exZ).kids.length) .no, .i ((e.kids.getD i exZ).line), .i ((e.kids.getD i exZ).col)]], [], nx :: [], nx + 1⟩) (σ' := σ) (ob := Tt 3) (by kernel_rfl) (tt 3) ?_
   rw [IntWalk.i64_in ((i : Int) + 1) (by omega)]
   refine ⟨by kernel_rfl, _, ?_, i + 1, .tok nx 1, [nx], nx + 1, (by rw [exTs_take e.kids i (by omega), ← List.append_assoc (exH e), strAV_append (exH e ++ exTs (e.kids.take i)), List.length_append, ← Nat.add_assoc]; rfl), rfl, ?_, rfl⟩
   ·omega
   ·exact ⟨by omega, ⟨rfl, by simp⟩⟩
  ·
   have h1k := of_decide_eq_false h1
   refine ACode.exit ?_
   refine ACode.seq ?_
   refine ACode.softSl 3 ?_
   refine ACode.run hT nh [2] (fr' := ⟨[(2, .slice (strAV (exH e ++ exTs (e.kids.take i))) (8 + (exTs (e.kids.take i)).length) .no)], [[.i e.op, .i e.bin, .int .u64 e.n, .i e.tk, .str e.tr, .str e.name, .slice (exRows e.kids) e.kids.length .no, .i e.line, .i e.col]], [], tk, nx⟩) (σ' := σ) (ob := Tt 3) (by kernel_rfl) (tt 3) ?_
   refine ACode.ret ?_
   refine retQ.ret (.slice (strAV (exH e ++ exTs (e.kids.take i))) (8 + (exTs (e.kids.take i)).length) .no) (by kernel_rfl) ?_
   refine ⟨rfl, ?_⟩
   have hi2 : i = e.kids.length := by omega
   subst hi2
   rw [List.take_length]
   simp only [softE, softV]
   rw [exT_eq, List.length_append]; rfl

end Go.AE

/- An expression has no more parts than tokens. -/
set_option linter.unusedVariables false
set_option linter.unusedSimpArgs false
namespace Go.AE
open Go.Proofs

theorem next_ok {l : List Tok} {s s1 : PS} {t : Tok} (h : nextF l s = .ok t s1) : t = l.getD s.pos default ∧ s.pos ≤ s1.pos ∧ (t.kind ≠ 0 → s1.pos = s.pos + 1) := by
  unfold nextF at h
  by_cases hp : s.pos < l.length
  · rw [if_pos hp] at h
    by_cases hk : (l.getD s.pos default).kind = 0
    · rw [if_neg (by rw [hk]; decide)] at h
      cases h
      exact ⟨rfl, Nat.le_refl _, fun h9 => absurd hk h9⟩
    · rw [if_pos (by simpa using hk)] at h
      cases h
      exact ⟨rfl, Nat.le_succ _, fun _ => rfl⟩
  · rw [if_neg hp] at h; cases h
theorem peek_ok {l : List Tok} {s s1 : PS} {t : Tok} (h : peekF l s = .ok t s1) : t = l.getD s.pos default ∧ s1 = s := by
  unfold peekF at h
  by_cases hp : s.pos < l.length
  · rw [if_pos hp] at h; cases h; exact ⟨rfl, rfl⟩
  · rw [if_neg hp] at h; cases h

structure ExSz (l : List Tok) (n : Nat) : Prop where
  expr : ∀ s e s1, exprF n l s = .ok e s1 → (exT e).length + 8 * s.pos ≤ 8 * s1.pos
  chain : ∀ v s e s1, chainF n l v s = .ok e s1 → (exT e).length + 8 * s.pos ≤ 8 * s1.pos
  loop : ∀ v e0 s e s1, chainLoopF n l v e0 s = .ok e s1 → (exT e).length + 8 * s.pos ≤ (exT e0).length + 8 * s1.pos
  pre : ∀ s e s1, prefixF n l s = .ok e s1 → (exT e).length + 8 * s.pos ≤ 8 * s1.pos
  atom : ∀ s e s1, atomF n l s = .ok e s1 → (exT e).length + 8 * s.pos ≤ 8 * s1.pos

theorem exT_leaf (e : Ex) (h : e.kids = []) : (exT e).length = 8 := by
  rw [exT_eq, h, List.length_append]; simp [exH, exTs]
theorem exT_two (op bin n tk : Int) (tr name : List UInt8) (a b : Ex) (x y : Int) : (exT ⟨op, bin, n, tk, tr, name, [a, b], x, y⟩).length = 8 + (exT a).length + (exT b).length := by
  rw [exT_eq, List.length_append]; simp [exH, exTs]; omega
theorem exT_one (op bin n tk : Int) (tr name : List UInt8) (a : Ex) (x y : Int) : (exT ⟨op, bin, n, tk, tr, name, [a], x, y⟩).length = 8 + (exT a).length := by
  rw [exT_eq, List.length_append]; simp [exH, exTs]

theorem ex_sz (l : List Tok) : ∀ n, ExSz l n
  | 0 => ⟨fun s e s1 h => (by rw [exprF] at h; cases h), fun v s e s1 h => (by rw [chainF] at h; cases h), fun v e0 s e s1 h => (by rw [chainLoopF] at h; cases h), fun s e s1 h => (by rw [prefixF] at h; cases h), fun s e s1 h => (by rw [atomF] at h; cases h)⟩
  | n + 1 => by
    have ih := ex_sz l n
    refine ⟨fun s e s1 h => ?_, fun v s e s1 h => ?_, fun v e0 s e s1 h => ?_, fun s e s1 h => ?_, fun s e s1 h => ?_⟩
    · rw [exprF] at h; exact ih.chain _ _ _ _ h
    · rw [chainF] at h
      split at h
      · cases h
      · split at h
        · exact ih.pre _ _ _ h
        · obtain ⟨a, s2, h1, h2⟩ := R.bind_ok h
          have := ih.chain _ _ _ _ h1
          have := ih.loop _ _ _ _ _ h2
          omega
    · rw [chainLoopF] at h
      obtain ⟨t, s2, h1, h⟩ := R.bind_ok h
      obtain ⟨rfl, rfl⟩ := peek_ok h1
      split at h
      · cases h
      · split at h
        · cases h; omega
        · rename_i hc
          obtain ⟨u, s3, h2, h⟩ := R.bind_ok h
          obtain ⟨k, s4, h3, h⟩ := R.bind_ok h
          obtain ⟨rfl, h4, h5⟩ := next_ok h2
          have h6 := h5 (by intro h0; rw [h0] at hc; simp at hc)
          have h7 := ih.chain _ _ _ _ h3
          split at h
          · cases h
            rw [exT_two]; omega
          · have := ih.loop _ _ _ _ _ h
            rw [exT_two] at this; omega
    · rw [prefixF] at h
      obtain ⟨t, s2, h1, h⟩ := R.bind_ok h
      obtain ⟨rfl, rfl⟩ := peek_ok h1
      split at h
      · rename_i hc
        split at h
        · exact ih.atom _ _ _ h
        · obtain ⟨u, s3, h2, h⟩ := R.bind_ok h
          obtain ⟨_, s4, h3, h⟩ := R.bind_ok h
          obtain ⟨k, s5, h4, h⟩ := R.bind_ok h
          obtain ⟨_, s6, h5, h⟩ := R.bind_ok h
          obtain ⟨rfl, h6, h7⟩ := next_ok h2
          have h8 := h7 (by intro h0; rw [h0] at hc; simp at hc)
          have h9 := (inferInstance : Mono s3 (downF (l.getD s2.pos default) s3)).le _ _ h3
          have h10 := ih.pre _ _ _ h4
          have h11 := (inferInstance : Mono s5 (upF s5)).le _ _ h5
          cases h
          rw [exT_one]; omega
      · exact ih.atom _ _ _ h
    · rw [atomF] at h
      obtain ⟨t, s2, h1, h⟩ := R.bind_ok h
      obtain ⟨rfl, h2, h3⟩ := next_ok h1
      by_cases hk : (l.getD s.pos default).kind = 0
      · exfalso
        rw [hk] at h
        simp [show ((0 : Int) == 3) = false from rfl, show ((0 : Int) == 4) = false from rfl, show ((0 : Int) == 1) = false from rfl, show ((0 : Int) == 2) = false from rfl, show ((0 : Int) == 5) = false from rfl] at h
      have h4 := h3 hk
      split at h
      · cases h; rw [exT_leaf _ rfl]; omega
      split at h
      · cases h; rw [exT_leaf _ rfl]; omega
      split at h
      · cases h; rw [exT_leaf _ rfl]; omega
      split at h
      · obtain ⟨u, s3, h5, h⟩ := R.bind_ok h
        have h6 := (inferInstance : Mono s2 (kindF l 3 s2)).le _ _ h5
        cases h; rw [exT_leaf _ rfl]; omega
      split at h
      · obtain ⟨u, s3, h5, h⟩ := R.bind_ok h
        have h6 := (inferInstance : Mono s2 (eatF l [105, 110, 116, 115] s2)).le _ _ h5
        split at h
        · obtain ⟨u2, s4, h7, h⟩ := R.bind_ok h
          have h8 := (inferInstance : Mono s3 (kindF l 1 s3)).le _ _ h7
          cases h; rw [exT_leaf _ rfl]; omega
        · cases h; rw [exT_leaf _ rfl]; omega
      split at h
      · obtain ⟨_, s3, h5, h⟩ := R.bind_ok h
        obtain ⟨x, s4, h6, h⟩ := R.bind_ok h
        obtain ⟨_, s5, h7, h⟩ := R.bind_ok h
        obtain ⟨_, s6, h8, h⟩ := R.bind_ok h
        have a1 := (inferInstance : Mono s2 (downF (l.getD s.pos default) s2)).le _ _ h5
        have a2 := ih.expr _ _ _ h6
        have a3 := (inferInstance : Mono s4 (mustF l [41] s4)).le _ _ h7
        have a4 := (inferInstance : Mono s5 (upF s5)).le _ _ h8
        cases h; omega
      · cases h

theorem expr_walk : ∀ (N : Nat) (e : Ex), (exT e).length ≤ N → N ≤ 1000000 → ∀ σ, ACalls Tryd.prog 19 [.agg (exAV e)] σ (fun x s => σ = s ∧ x = .ret (.slice (strAV (exT e)) (exT e).length .no))
  | 0, e, h, _, _ => by have := exT_pos e; omega
  | N + 1, e, h, hN, σ => by
    have hl : (exT e).length = 8 + (exTs e.kids).length := by rw [exT_eq, List.length_append]; rfl
    exact expr_walk1 e σ (by omega) fun k h1 _ σ' => expr_walk N k (by omega) (by omega) σ'

end Go.AE

/- LexNames, in plain Lean. -/
set_option linter.unusedVariables false
set_option linter.unusedSimpArgs false
namespace Go.AE

theorem nextT_kind (r : Rd) (h : (nextT r).1.kind = 1 ∨ (nextT r).1.kind = 2) : (isNameS (nextT r).1.text || isWordS (nextT r).1.text) = true ∧ ((nextT r).1.kind = 1 → isNameS (nextT r).1.text = true) ∧ ((nextT r).1.kind = 2 → isWordS (nextT r).1.text = true) := by
  unfold nextT at *
  split at h
  · rename_i hw
    simp only [hw, if_true]
    unfold wordT at *
    dsimp only at *
    split at h
    · rename_i h1; simp [h1]
    · rename_i h1
      split at h
      · rename_i h2; simp [h1, h2]
      · simp at h
  · rename_i hw
    split at h
    · simp [realT] at h
    · unfold signT at h
      split at h
      · simp at h
      · split at h <;> simp at h

theorem lexF_front : ∀ (k : Nat) (r : Rd) (acc : List Tok), (lexF k r acc).2.1 = 0 → ∃ l, (lexF k r acc).1 = acc ++ l
  | 0, r, acc, _ => ⟨[], by simp [lexF]⟩
  | k + 1, r, acc, h => by
    rw [lexF] at h ⊢
    split
    · exact ⟨_, rfl⟩
    · rename_i h1
      rw [if_neg h1] at h
      split
      · rename_i h2
        rw [if_pos h2] at h
        obtain ⟨l, hl⟩ := lexF_front k _ _ h
        exact ⟨(nextT (blankS r)).1 :: l, by rw [hl]; simp⟩
      · rename_i h2
        rw [if_neg h2] at h
        simp at h

theorem u8_all {p : UInt8 → Bool} (h : ∀ n : Fin 256, p (UInt8.ofNat n.val) = true) (b : UInt8) : p b = true := by
  have := h ⟨b.toNat, b.toNat_lt⟩
  simpa using this

theorem wordB_not (b : UInt8) (h : wordB b = true) : blankB b = false ∧ b ≠ 47 ∧ b ≠ 35 := by
  have := u8_all (p := fun b => !(wordB b) || (!(blankB b) && (b != 47) && (b != 35))) (by decide +kernel) b
  rw [h] at this
  simp only [Bool.not_true, Bool.false_or, Bool.and_eq_true, Bool.not_eq_true', bne_iff_ne, ne_eq] at this
  exact ⟨this.1.1, this.1.2, this.2⟩

theorem blankS_word {r : Rd} (hne : r.rest ≠ []) (h : wordB (r.rest.getD 0 0) = true) : blankS r = r := by
  obtain ⟨h1, h2, _⟩ := wordB_not _ h
  unfold blankS
  cases hr : r.rest with
  | nil => exact absurd hr hne
  | cons b l =>
    rw [hr] at h1 h2
    rw [List.getD_cons_zero] at h1 h2
    simp only [List.length_cons]
    rw [blankF, if_neg (by rw [hr]; simp), if_neg, if_neg]
    · rw [hr, List.getD_cons_zero, h1]; simp
    · rw [hr]
      simp [List.isPrefixOf]
      intro h3; exact absurd h3.symm h2

theorem lexS_word (t : List UInt8) (hlen : t.length ≤ 8192) (hne : t ≠ []) (hall : t.all wordB = true) (k : Int) (hk : wordT ⟨t, 1, 1⟩ = (⟨k, t, 0, 1, 1⟩, true)) : ∃ l c, lexS t = ([⟨k, t, 0, 1, 1⟩, ⟨0, [], 0, l, c⟩], 0, 0, 0) := by
  have hw : wordB (t.getD 0 0) = true := by
    cases t with
    | nil => exact absurd rfl hne
    | cons b r => simp only [List.all_cons, Bool.and_eq_true] at hall; simpa using hall.1
  have hn : wordN t = t.length := by
    unfold wordN
    congr 1
    clear hk hlen hne hw
    induction t with
    | nil => rfl
    | cons b r ih =>
      simp only [List.all_cons, Bool.and_eq_true] at hall
      rw [List.takeWhile_cons, if_pos hall.1, ih hall.2]
  have hlt : t.length = (t.length - 1) + 1 := by
    cases t with
    | nil => exact absurd rfl hne
    | cons b r => simp
  have hnx : nextT ⟨t, 1, 1⟩ = (⟨k, t, 0, 1, 1⟩, true) := by unfold nextT; rw [if_pos hw]; exact hk
  have hnr : (nextR ⟨t, 1, 1⟩).rest = [] := by unfold nextR; rw [if_pos hw]; simp [skipS, hn]
  have hb2 : blankS (nextR ⟨t, 1, 1⟩) = nextR ⟨t, 1, 1⟩ := by unfold blankS; rw [hnr]; rfl
  refine ⟨(nextR ⟨t, 1, 1⟩).line, (nextR ⟨t, 1, 1⟩).col, ?_⟩
  unfold lexS
  rw [if_neg (by omega), lexF, blankS_word (r := ⟨t, 1, 1⟩) hne hw, if_neg hne, hnx, if_pos rfl, hlt, lexF, hb2, if_pos hnr]
  rfl

end Go.AE

/- Plain laws of the lexer: blanks; a token read again; what follows a token does not change it; places. -/
set_option linter.unusedVariables false
set_option linter.unusedSimpArgs false
namespace Go.AE

theorem skipS_add (r : Rd) (m n : Nat) (h : m ≤ r.rest.length) : skipS n (skipS m r) = skipS (m + n) r := by
  have e : r.rest.take (m + n) = r.rest.take m ++ (r.rest.drop m).take n := by rw [List.take_add]
  simp only [skipS, List.drop_drop, e, advL_append, advC_append]

def app (r : Rd) (t : List UInt8) : Rd := ⟨r.rest ++ t, r.line, r.col⟩

theorem skipS_app (r : Rd) (n : Nat) (t : List UInt8) (h : n ≤ r.rest.length) : skipS n (app r t) = app (skipS n r) t := by
  simp only [skipS, app, List.take_append_of_le_length h, List.drop_append_of_le_length h]

theorem blankF_len : ∀ (k : Nat) (r : Rd), (blankF k r).rest.length ≤ r.rest.length
  | 0, r => Nat.le_refl _
  | k + 1, r => by
    rw [blankF]
    split
    · exact Nat.le_refl _
    · split
      · refine Nat.le_trans (blankF_len k _) ?_
        simp only [skipS, List.length_drop]; omega
      · split
        · refine Nat.le_trans (blankF_len k _) ?_
          simp only [skipS, List.length_drop]; omega
        · exact Nat.le_refl _
theorem blankS_len (r : Rd) : (blankS r).rest.length ≤ r.rest.length := blankF_len _ r

theorem blankF_fuel : ∀ (k j : Nat) (r : Rd), r.rest.length ≤ k → r.rest.length ≤ j → blankF k r = blankF j r
  | 0, 0, r, _, _ => rfl
  | 0, j + 1, r, h, _ => by
    have : r.rest = [] := List.length_eq_zero_iff.1 (by omega)
    rw [blankF, blankF, if_pos this]
  | k + 1, 0, r, _, h => by
    have : r.rest = [] := List.length_eq_zero_iff.1 (by omega)
    rw [blankF, blankF, if_pos this]
  | k + 1, j + 1, r, h1, h2 => by
    rw [blankF, blankF]
    split
    · rfl
    · rename_i hne
      have hp : 1 ≤ r.rest.length := by cases hr : r.rest with | nil => exact absurd hr hne | cons _ _ => simp
      split
      · rename_i hl
        have := lineN_pos hl
        exact blankF_fuel k j _ (by simp only [skipS, List.length_drop]; omega) (by simp only [skipS, List.length_drop]; omega)
      · split
        · exact blankF_fuel k j _ (by simp only [skipS, List.length_drop]; omega) (by simp only [skipS, List.length_drop]; omega)
        · rfl

theorem blankS_step (r : Rd) : blankS r = if r.rest = [] then r else if [47, 47].isPrefixOf r.rest then blankS (skipS (lineN r.rest) r) else if blankB (r.rest.getD 0 0) then blankS (skipS 1 r) else r := by
  unfold blankS
  by_cases hne : r.rest = []
  · rw [if_pos hne, hne]; rfl
  · rw [if_neg hne]
    have hp : 1 ≤ r.rest.length := by cases hr : r.rest with | nil => exact absurd hr hne | cons _ _ => simp
    rw [show r.rest.length = (r.rest.length - 1) + 1 by omega, blankF, if_neg hne]
    split
    · rename_i hl
      have := lineN_pos hl
      exact blankF_fuel _ _ _ (by simp only [skipS, List.length_drop]; omega) (Nat.le_refl _)
    · split
      · exact blankF_fuel _ _ _ (by simp only [skipS, List.length_drop]; omega) (Nat.le_refl _)
      · rfl

theorem blankS_fix {r : Rd} (h1 : [47, 47].isPrefixOf r.rest = false) (h2 : blankB (r.rest.getD 0 0) = false) : blankS r = r := by
  rw [blankS_step]
  by_cases hne : r.rest = []
  · rw [if_pos hne]
  · rw [if_neg hne, if_neg (by rw [h1]; simp), if_neg (by rw [h2]; simp)]

theorem blankS_done (n : Nat) : ∀ (r : Rd), r.rest.length ≤ n → (blankS r).rest = [] ∨ ([47, 47].isPrefixOf (blankS r).rest = false ∧ blankB ((blankS r).rest.getD 0 0) = false) := by
  induction n with
  | zero =>
    intro r h
    have : r.rest = [] := List.length_eq_zero_iff.1 (by omega)
    rw [blankS_step, if_pos this]; exact .inl this
  | succ n ih =>
    intro r h
    rw [blankS_step]
    by_cases hne : r.rest = []
    · rw [if_pos hne]; exact .inl hne
    · rw [if_neg hne]
      have hp : 1 ≤ r.rest.length := by cases hr : r.rest with | nil => exact absurd hr hne | cons _ _ => simp
      split
      · rename_i hl
        have := lineN_pos hl
        exact ih _ (by simp only [skipS, List.length_drop]; omega)
      · rename_i hl
        split
        · exact ih _ (by simp only [skipS, List.length_drop]; omega)
        · rename_i hb
          exact .inr ⟨Bool.eq_false_iff.2 hl, Bool.eq_false_iff.2 hb⟩

theorem blankS_idem (r : Rd) : blankS (blankS r) = blankS r := by
  rcases blankS_done _ r (Nat.le_refl _) with h | ⟨h1, h2⟩
  · rw [blankS_step (blankS r), if_pos h]
  · exact blankS_fix h1 h2

theorem blankS_nl (rest : List UInt8) (L C : Int) : blankS ⟨10 :: rest, L, C⟩ = blankS ⟨rest, L + 1, 1⟩ := by
  rw [blankS_step, if_neg (by simp), if_neg (by simp [List.isPrefixOf]), if_pos (by simp only [List.getD_cons_zero]; decide)]
  simp [skipS, advL, advC]
theorem blankS_sp (rest : List UInt8) (L C : Int) : blankS ⟨32 :: rest, L, C⟩ = blankS ⟨rest, L, C + 1⟩ := by
  rw [blankS_step, if_neg (by simp), if_neg (by simp [List.isPrefixOf]), if_pos (by simp only [List.getD_cons_zero]; decide)]
  simp [skipS, advL, advC]
theorem blankS_tab (rest : List UInt8) (L C : Int) : blankS ⟨9 :: rest, L, C⟩ = blankS ⟨rest, L, C + 1⟩ := by
  rw [blankS_step, if_neg (by simp), if_neg (by simp [List.isPrefixOf]), if_pos (by simp only [List.getD_cons_zero]; decide)]
  simp [skipS, advL, advC]

theorem adv_plain : ∀ (s : List UInt8) (L C : Int), (∀ x ∈ s, x ≠ 10) → advL L s = L ∧ advC C s = C + s.length
  | [], L, C, _ => by simp [advL, advC]
  | b :: s, L, C, h => by
    have hb := h b (by simp)
    obtain ⟨h1, h2⟩ := adv_plain s L (C + 1) fun x hx => h x (by simp [hx])
    simp only [advL, advC, if_neg hb, h1, h2, List.length_cons]
    exact ⟨trivial, by omega⟩

theorem takeWhile_stop (p : UInt8 → Bool) (s rest : List UInt8) (b : UInt8) (h : p b = false) : (s ++ b :: rest).takeWhile p = s.takeWhile p := by
  induction s with
  | nil => rw [List.nil_append, List.takeWhile_cons, if_neg (by rw [h]; simp)]; rfl
  | cons x s ih => rw [List.cons_append, List.takeWhile_cons, List.takeWhile_cons, ih]

theorem takeWhile_all (p : UInt8 → Bool) (s : List UInt8) (h : ∀ x ∈ s, p x = true) : s.takeWhile p = s := by
  induction s with
  | nil => rfl
  | cons x s ih => rw [List.takeWhile_cons, if_pos (h x (by simp)), ih fun y hy => h y (by simp [hy])]

theorem takeWhile_mem (p : UInt8 → Bool) (s : List UInt8) : ∀ x ∈ s.takeWhile p, p x = true := by
  induction s with
  | nil => simp
  | cons y s ih =>
    intro x hx
    rw [List.takeWhile_cons] at hx
    split at hx
    · rename_i hy
      rcases List.mem_cons.1 hx with rfl | hx
      · exact hy
      · exact ih x hx
    · cases hx

theorem blankS_note (note rest : List UInt8) (L C : Int) (h : ∀ x ∈ note, x ≠ 10) : blankS ⟨47 :: 47 :: (note ++ 10 :: rest), L, C⟩ = blankS ⟨rest, L + 1, 1⟩ := by
  have hs : ∀ x ∈ 47 :: 47 :: note, x ≠ 10 := by
    intro x hx
    rcases List.mem_cons.1 hx with rfl | hx
    · decide
    · rcases List.mem_cons.1 hx with rfl | hx
      · decide
      · exact h x hx
  have hl : lineN (47 :: 47 :: (note ++ 10 :: rest)) = (47 :: 47 :: note).length := by
    show ((47 :: 47 :: note ++ 10 :: rest).takeWhile _).length = _
    rw [takeWhile_stop _ _ _ _ (by decide), takeWhile_all _ _ fun x hx => by simpa using hs x hx]
  rw [blankS_step, if_neg (by simp), if_pos (by simp [List.isPrefixOf])]
  simp only [hl]
  have e : skipS (47 :: 47 :: note).length ⟨47 :: 47 :: (note ++ 10 :: rest), L, C⟩ = ⟨10 :: rest, L, C + (47 :: 47 :: note).length⟩ := by
    have e1 : (47 :: 47 :: (note ++ 10 :: rest)).take (47 :: 47 :: note).length = 47 :: 47 :: note := by
      show ((47 :: 47 :: note) ++ 10 :: rest).take _ = _
      rw [List.take_append_of_le_length (Nat.le_refl _), List.take_length]
    have e2 : (47 :: 47 :: (note ++ 10 :: rest)).drop (47 :: 47 :: note).length = 10 :: rest := by
      show ((47 :: 47 :: note) ++ 10 :: rest).drop _ = _
      rw [List.drop_append_of_le_length (Nat.le_refl _), List.drop_length, List.nil_append]
    obtain ⟨h1, h2⟩ := adv_plain (47 :: 47 :: note) L C hs
    simp only [skipS, e1, e2, h1, h2]
  rw [e, blankS_nl]

def SepB (b : UInt8) : Prop := b = 10 ∨ b = 32
theorem SepB.word {b : UInt8} (h : SepB b) : wordB b = false := by rcases h with rfl | rfl <;> decide

theorem wordN_stop {b : UInt8} (h : SepB b) (v rest : List UInt8) : wordN (v ++ b :: rest) = wordN v := by
  rw [wordN_eq, wordN_eq, takeWhile_stop _ _ _ _ h.word]

theorem twoB_stop {b : UInt8} (h : SepB b) (v rest : List UInt8) (hv : v ≠ []) : twoB (v ++ b :: rest) = twoB v := by
  match v, hv with
  | [x], _ =>
    have hb : ((61 : UInt8) == b) = false := by rcases h with rfl | rfl <;> decide
    simp [twoB, List.isPrefixOf, hb]
  | x :: y :: v, _ => simp [twoB, List.isPrefixOf]

theorem getD_app (v t : List UInt8) (hv : v ≠ []) : (v ++ t).getD 0 0 = v.getD 0 0 := by
  cases v with
  | nil => exact absurd rfl hv
  | cons x v => rfl

theorem realText_app {b : UInt8} (h : SepB b) (r : Rd) (rest : List UInt8) (hv : r.rest ≠ []) : realText (app r (b :: rest)) = realText r := by
  have e : (r.rest ++ b :: rest).drop 1 = r.rest.drop 1 ++ b :: rest := List.drop_append_of_le_length (by cases hr : r.rest with | nil => exact absurd hr hv | cons _ _ => simp)
  simp only [realText, app, e, wordN_stop h]
  rw [List.take_append_of_le_length (wordN_le' _)]

theorem nextT_app {b : UInt8} (h : SepB b) (r : Rd) (rest : List UInt8) (hv : r.rest ≠ []) : nextT (app r (b :: rest)) = nextT r := by
  unfold nextT
  have e0 : (app r (b :: rest)).rest.getD 0 0 = r.rest.getD 0 0 := getD_app _ _ hv
  have hp : 1 ≤ r.rest.length := by cases hr : r.rest with | nil => exact absurd hr hv | cons _ _ => simp
  rw [e0]
  split
  · unfold wordT
    have e1 : (app r (b :: rest)).rest.take (wordN (app r (b :: rest)).rest) = r.rest.take (wordN r.rest) := by
      simp only [app, wordN_stop h]
      rw [List.take_append_of_le_length (wordN_le' _)]
    dsimp only
    rw [e1]
    rfl
  · split
    · unfold realT
      rw [realText_app h r rest hv]
      rfl
    · unfold signT
      have e2 : twoB (app r (b :: rest)).rest = twoB r.rest := twoB_stop h _ _ hv
      rw [e2, e0]
      split
      · rename_i ht
        have := twoB_len ht
        simp only [app]
        rw [List.take_append_of_le_length this]
      · split
        · simp only [app]
          rw [List.take_append_of_le_length hp]
        · rfl

theorem nextR_app {b : UInt8} (h : SepB b) (r : Rd) (rest : List UInt8) (hv : r.rest ≠ []) : nextR (app r (b :: rest)) = app (nextR r) (b :: rest) := by
  unfold nextR
  have e0 : (app r (b :: rest)).rest.getD 0 0 = r.rest.getD 0 0 := getD_app _ _ hv
  have hp : 1 ≤ r.rest.length := by cases hr : r.rest with | nil => exact absurd hr hv | cons _ _ => simp
  rw [e0]
  split
  · have e1 : wordN (app r (b :: rest)).rest = wordN r.rest := wordN_stop h _ _
    rw [e1, skipS_app _ _ _ (wordN_le' _)]
  · split
    · unfold realR
      rw [skipS_app _ _ _ hp]
      have e : (app r (b :: rest)).rest.drop 1 = r.rest.drop 1 ++ b :: rest := List.drop_append_of_le_length hp
      rw [e, wordN_stop h, skipS_app]
      simp only [skipS]
      exact wordN_le' _
    · unfold signR
      have e2 : twoB (app r (b :: rest)).rest = twoB r.rest := twoB_stop h _ _ hv
      rw [e2, e0]
      split
      · rename_i ht
        rw [skipS_app _ _ _ (twoB_len ht)]
      · split
        · rw [skipS_app _ _ _ hp]
        · rfl

theorem twoB_take (l : List UInt8) : twoB (l.take 2) = twoB l := by
  match l with
  | [] => rfl
  | [x] => rfl
  | x :: y :: l => simp [twoB, List.isPrefixOf]

theorem wordN_all (w : List UInt8) (h : ∀ x ∈ w, wordB x = true) : wordN w = w.length := by rw [wordN_eq, takeWhile_all _ _ h]

def startB (b : UInt8) : Bool := wordB b || (b == 35 || (b == 61 || (b == 33 || (b == 60 || signB b))))
theorem startB_blank (b : UInt8) (h : startB b = true) : blankB b = false ∧ b ≠ 10 := by
  have := u8_all (p := fun b => !(startB b) || (!(blankB b) && (b != 10))) (by decide +kernel) b
  rw [h] at this
  simp only [Bool.not_true, Bool.false_or, Bool.and_eq_true, Bool.not_eq_true', bne_iff_ne, ne_eq] at this
  exact this
theorem wordB_nl (b : UInt8) (h : wordB b = true) : b ≠ 10 := by
  intro h9; rw [h9] at h; revert h; decide

structure TokOK (x : Tok) : Prop where
  ne : x.text ≠ []
  nl : ∀ b ∈ x.text, b ≠ 10
  st : startB (x.text.getD 0 0) = true
  sl : x.text.getD 0 0 = 47 → x.text = [47]
  nt : ∀ L C, nextT ⟨x.text, L, C⟩ = (⟨x.kind, x.text, x.n, L, C⟩, true)
  nr : ∀ L C, nextR ⟨x.text, L, C⟩ = skipS x.text.length ⟨x.text, L, C⟩
  kd : x.kind ≠ 0

theorem word_head {l : List UInt8} (hne : l ≠ []) (h : wordB (l.getD 0 0) = true) : (l.takeWhile wordB).getD 0 0 = l.getD 0 0 ∧ l.takeWhile wordB ≠ [] := by
  cases l with
  | nil => exact absurd rfl hne
  | cons b l =>
    rw [List.getD_cons_zero] at h
    rw [List.takeWhile_cons, if_pos h]
    simp

theorem wordT_alone (r : Rd) (L C : Int) : wordT ⟨r.rest.takeWhile wordB, L, C⟩ = (⟨(wordT r).1.kind, r.rest.takeWhile wordB, (wordT r).1.n, L, C⟩, (wordT r).2) := by
  have e : (r.rest.takeWhile wordB).take (wordN (r.rest.takeWhile wordB)) = r.rest.takeWhile wordB := by
    rw [wordN_all _ (takeWhile_mem _ _), List.take_length]
  unfold wordT
  simp only [e, take_wordN]
  split
  · rfl
  · split <;> rfl

theorem wordT_text (r : Rd) : (wordT r).1.text = r.rest.takeWhile wordB ∧ (wordT r).1.kind ≠ 0 := by
  unfold wordT
  simp only [take_wordN]
  split
  · exact ⟨rfl, by simp⟩
  · split
    · exact ⟨rfl, by simp⟩
    · exact ⟨rfl, by simp⟩

theorem realText_eq (r : Rd) : realText r = 35 :: (r.rest.drop 1).takeWhile wordB := by simp [realText, take_wordN]

theorem one_take (l : List UInt8) (hne : l ≠ []) : l.take 1 = [l.getD 0 0] := by
  cases l with
  | nil => exact absurd rfl hne
  | cons b l => simp

theorem two_take {l : List UInt8} (h : twoB l = true) : l.take 2 = [61, 61] ∨ l.take 2 = [33, 61] ∨ l.take 2 = [60, 61] := by
  match l with
  | [] => simp [twoB, List.isPrefixOf] at h
  | [x] => simp [twoB, List.isPrefixOf] at h
  | x :: y :: l =>
    simp only [twoB, List.isPrefixOf, Bool.or_eq_true, Bool.and_eq_true, beq_iff_eq, and_true] at h
    rcases h with ⟨rfl, rfl⟩ | ⟨rfl, rfl⟩ | ⟨rfl, rfl⟩ <;> simp

theorem tokOK_sign (w : List UInt8) (l c : Int) (h1 : w ≠ []) (h2 : ∀ b ∈ w, b ≠ 10) (h3 : startB (w.getD 0 0) = true) (h4 : w.getD 0 0 = 47 → w = [47]) (h5 : wordB (w.getD 0 0) = false) (h6 : w.getD 0 0 ≠ 35)
    (h7 : ∀ L C, signT ⟨w, L, C⟩ = (⟨5, w, 0, L, C⟩, true)) (h8 : ∀ L C, signR ⟨w, L, C⟩ = skipS w.length ⟨w, L, C⟩) : TokOK ⟨5, w, 0, l, c⟩ where
  ne := h1
  nl := h2
  st := h3
  sl := h4
  nt L C := by unfold nextT; rw [if_neg (by simp only [h5]; simp), if_neg h6]; exact h7 L C
  nr L C := by unfold nextR; rw [if_neg (by simp only [h5]; simp), if_neg h6]; exact h8 L C
  kd := by simp

theorem nextT_ok (r : Rd) (hne : r.rest ≠ []) (h : (nextT r).2 = true) : TokOK (nextT r).1 := by
  unfold nextT at h ⊢
  split at h
  · rename_i hw
    rw [if_pos hw]
    obtain ⟨hh, hn⟩ := word_head hne hw
    obtain ⟨ht, hk⟩ := wordT_text r
    refine ⟨by rw [ht]; exact hn, fun b hb => wordB_nl b (takeWhile_mem _ _ b (by rw [← ht]; exact hb)), by rw [ht, hh]; unfold startB; rw [hw]; rfl, ?_, ?_, ?_, hk⟩
    · rw [ht, hh]
      intro h47; rw [h47] at hw; exact absurd hw (by decide)
    · intro L C
      rw [ht]
      unfold nextT
      rw [if_pos (by simp only [hh]; exact hw), wordT_alone, h]
    · intro L C
      rw [ht]
      unfold nextR
      rw [if_pos (by simp only [hh]; exact hw), wordN_all _ (takeWhile_mem _ _)]
  · rename_i hw
    rw [if_neg hw]
    split at h
    · rename_i h35
      rw [if_pos h35]
      have ht : (realT r).1.text = 35 :: (r.rest.drop 1).takeWhile wordB := realText_eq r
      have hd : ∀ L C, realText ⟨(realT r).1.text, L, C⟩ = (realT r).1.text := by
        intro L C
        rw [realText_eq, ht]
        simp only [List.drop_succ_cons, List.drop_zero]
        rw [takeWhile_all _ _ (takeWhile_mem _ _)]
      refine ⟨by rw [ht]; simp, ?_, by rw [ht]; rfl, by rw [ht]; intro h9; revert h9; simp, ?_, ?_, by simp [realT]⟩
      · intro b hb
        rw [ht] at hb
        rcases List.mem_cons.1 hb with rfl | hb
        · decide
        · exact wordB_nl b (takeWhile_mem _ _ b hb)
      · intro L C
        unfold nextT
        have e0 : (realT r).1.text.getD 0 0 = 35 := by rw [ht]; rfl
        rw [if_neg (by simp only [e0]; decide), if_pos e0]
        unfold realT
        rw [show realText ⟨realText r, L, C⟩ = realText r from hd L C]
        unfold realT at h
        simp only at h
        simp only [h]
      · intro L C
        unfold nextR
        have e0 : (realT r).1.text.getD 0 0 = 35 := by rw [ht]; rfl
        rw [if_neg (by simp only [e0]; decide), if_pos e0]
        unfold realR
        have e1 : (realT r).1.text.drop 1 = (r.rest.drop 1).takeWhile wordB := by rw [ht]; rfl
        simp only [e1]
        rw [wordN_all _ (takeWhile_mem _ _), skipS_add _ _ _ (by rw [ht]; simp), ht]
        simp only [List.length_cons]
        rw [Nat.add_comm]
    · rename_i h35
      rw [if_neg h35]
      unfold signT at h ⊢
      split at h
      · rename_i h2
        rw [if_pos h2]
        have key : ∀ w : List UInt8, (w = [61, 61] ∨ w = [33, 61] ∨ w = [60, 61]) → TokOK ⟨5, w, 0, r.line, r.col⟩ := by
          intro w hw
          rcases hw with rfl | rfl | rfl <;>
            exact tokOK_sign _ _ _ (by simp) (by simp) (by decide) (by decide) (by decide) (by decide) (fun L C => rfl) (fun L C => rfl)
        exact key _ (two_take h2)
      · rename_i h2
        rw [if_neg h2]
        split at h
        · rename_i h3
          rw [if_pos h3, one_take _ hne]
          have hnl := startB_blank (r.rest.getD 0 0) (by simp only [startB, h3, Bool.or_true])
          refine tokOK_sign _ _ _ (by simp) (by simpa using hnl.2) (by simp only [List.getD_cons_zero, startB, h3, Bool.or_true]) (by simp) ?_ (by simpa using h35) ?_ ?_
          · simpa using hw
          · intro L C
            unfold signT
            rw [if_neg (by simp [twoB, List.isPrefixOf]), if_pos (by simpa using h3)]
            simp
          · intro L C
            unfold signR
            rw [if_neg (by simp [twoB, List.isPrefixOf]), if_pos (by simpa using h3)]
            simp
        · cases h

theorem TokOK.front {x : Tok} (h : TokOK x) {b : UInt8} (hb : SepB b) (rest : List UInt8) (L C : Int) :
    blankS ⟨x.text ++ b :: rest, L, C⟩ = ⟨x.text ++ b :: rest, L, C⟩ ∧ nextT ⟨x.text ++ b :: rest, L, C⟩ = (⟨x.kind, x.text, x.n, L, C⟩, true) ∧
      nextR ⟨x.text ++ b :: rest, L, C⟩ = ⟨b :: rest, advL L x.text, advC C x.text⟩ := by
  have e0 : (x.text ++ b :: rest).getD 0 0 = x.text.getD 0 0 := getD_app _ _ h.ne
  refine ⟨blankS_fix ?_ ?_, ?_, ?_⟩
  · have hne := h.ne
    cases ht : x.text with
    | nil => exact absurd ht hne
    | cons y w =>
      by_cases h47 : y = 47
      · have := h.sl (by rw [ht]; exact h47)
        rw [ht] at this
        injection this with h1 h2
        subst h1; subst h2
        rcases hb with rfl | rfl <;> rfl
      · simp only [List.cons_append, List.isPrefixOf]
        have : ((47 : UInt8) == y) = false := by simpa using fun h9 => h47 h9.symm
        rw [this]; rfl
  · show blankB ((x.text ++ b :: rest).getD 0 0) = false
    rw [e0]
    exact (startB_blank _ h.st).1
  · have := nextT_app hb ⟨x.text, L, C⟩ rest h.ne
    rw [h.nt] at this
    exact this
  · have := nextR_app hb ⟨x.text, L, C⟩ rest h.ne
    rw [h.nr] at this
    refine this.trans ?_
    simp [app, skipS]

def glue (acc : List Tok) (x : List Tok × Int × Int × Int) : List Tok × Int × Int × Int := if x.2.1 = 0 then (acc ++ x.1, x.2) else x
theorem glue_glue (a b : List Tok) (x : List Tok × Int × Int × Int) : glue a (glue b x) = glue (a ++ b) x := by
  unfold glue
  by_cases h : x.2.1 = 0
  · simp only [h, if_true, List.append_assoc]
  · simp only [h, if_false]

theorem lexF_acc : ∀ (k : Nat) (r : Rd) (acc : List Tok), lexF k r acc = glue acc (lexF k r [])
  | 0, r, acc => by simp [lexF, glue]
  | k + 1, r, acc => by
    rw [lexF, lexF]
    split
    · simp [glue]
    · split
      · rw [lexF_acc k _ (acc ++ _), lexF_acc k _ ([] ++ _), glue_glue, List.nil_append]
      · simp [glue]

theorem lexF_fuel : ∀ (k j : Nat) (r : Rd), r.rest.length < k → r.rest.length < j → lexF k r [] = lexF j r []
  | 0, _, r, h, _ => absurd h (Nat.not_lt_zero _)
  | _, 0, r, _, h => absurd h (Nat.not_lt_zero _)
  | k + 1, j + 1, r, h1, h2 => by
    rw [lexF, lexF]
    split
    · rfl
    · rename_i hne
      split
      · rename_i hok
        have hl := nextR_lt hne hok
        have hb := blankS_len r
        rw [lexF_acc k, lexF_acc j, lexF_fuel k j _ (by omega) (by omega)]
      · rfl

def lexR (r : Rd) : List Tok × Int × Int × Int := lexF (r.rest.length + 1) r []

theorem lexR_step (r : Rd) : lexR r = if (blankS r).rest = [] then ([⟨0, [], 0, (blankS r).line, (blankS r).col⟩], 0, 0, 0)
    else if (nextT (blankS r)).2 then glue [(nextT (blankS r)).1] (lexR (nextR (blankS r))) else ([], 3, (nextT (blankS r)).1.line, (nextT (blankS r)).1.col) := by
  unfold lexR
  rw [lexF]
  split
  · rfl
  · rename_i hne
    split
    · rename_i hok
      have hl := nextR_lt hne hok
      have hb := blankS_len r
      rw [lexF_acc, List.nil_append, lexF_fuel _ _ _ (show (nextR (blankS r)).rest.length < r.rest.length by omega) (Nat.lt_succ_self _)]
    · rfl

theorem lexR_blank {r r' : Rd} (h : blankS r = blankS r') : lexR r = lexR r' := by rw [lexR_step, lexR_step r', h]

theorem lexS_eq (t : List UInt8) (h : t.length ≤ 8192) : lexS t = lexR ⟨t, 1, 1⟩ := by
  unfold lexS lexR
  rw [if_neg (by omega)]

theorem glue_err {a : List Tok} {x : List Tok × Int × Int × Int} : (glue a x).2 = x.2 := by unfold glue; split <;> rfl

theorem lexR_ind {P : Rd → List Tok × Int × Int × Int → Prop}
    (h1 : ∀ r, (blankS r).rest = [] → P r ([⟨0, [], 0, (blankS r).line, (blankS r).col⟩], 0, 0, 0))
    (h2 : ∀ r, (blankS r).rest ≠ [] → (nextT (blankS r)).2 = true → P (nextR (blankS r)) (lexR (nextR (blankS r))) → P r (glue [(nextT (blankS r)).1] (lexR (nextR (blankS r)))))
    (h3 : ∀ r, (blankS r).rest ≠ [] → (nextT (blankS r)).2 = false → P r ([], 3, (nextT (blankS r)).1.line, (nextT (blankS r)).1.col)) : ∀ r, P r (lexR r) := by
  have key : ∀ (n : Nat) (r : Rd), r.rest.length < n → P r (lexR r) := by
    intro n
    induction n with
    | zero => intro r h; exact absurd h (Nat.not_lt_zero _)
    | succ n ih =>
      intro r h
      rw [lexR_step]
      split
      · rename_i he; exact h1 r he
      · rename_i hne
        split
        · rename_i hok
          have hl := nextR_lt hne hok
          have hb := blankS_len r
          exact h2 r hne hok (ih _ (by omega))
        · rename_i hok; exact h3 r hne (Bool.eq_false_iff.2 hok)
  exact fun r => key _ r (Nat.lt_succ_self _)

theorem lexR_none (r : Rd) : (lexR r).2.1 ≠ 0 → (lexR r).1 = [] ∧ (lexR r).2.1 = 3 := by
  refine lexR_ind (P := fun r x => x.2.1 ≠ 0 → x.1 = [] ∧ x.2.1 = 3) ?_ ?_ ?_ r
  · intro r _ h; exact absurd rfl h
  · intro r _ _ ih h
    rw [glue_err] at h
    unfold glue
    rw [if_neg h]
    exact ih h
  · intro r _ _ _; exact ⟨rfl, rfl⟩

theorem lexR_toks (r : Rd) : (lexR r).2.1 = 0 → (lexR r).2 = (0, 0, 0) ∧ ∃ xs l c, (lexR r).1 = xs ++ [⟨0, [], 0, l, c⟩] ∧ (∀ x ∈ xs, TokOK x) ∧ xs.length ≤ r.rest.length ∧ ∀ x ∈ xs, x.text.length ≤ r.rest.length := by
  refine lexR_ind (P := fun r x => x.2.1 = 0 → x.2 = (0, 0, 0) ∧ ∃ xs l c, x.1 = xs ++ [⟨0, [], 0, l, c⟩] ∧ (∀ x ∈ xs, TokOK x) ∧ xs.length ≤ r.rest.length ∧ ∀ x ∈ xs, x.text.length ≤ r.rest.length) ?_ ?_ ?_ r
  · intro r _ _
    exact ⟨rfl, [], _, _, rfl, by simp, by simp, by simp⟩
  · intro r hne hok ih h
    rw [glue_err] at h
    obtain ⟨h0, xs, l, c, e, h1, h2, h3⟩ := ih h
    have hl := nextR_lt hne hok
    have hb := blankS_len r
    refine ⟨by rw [glue_err]; exact h0, (nextT (blankS r)).1 :: xs, l, c, by unfold glue; rw [if_pos h, e]; rfl, ?_, by simp only [List.length_cons]; omega, ?_⟩
    · intro x hx
      rcases List.mem_cons.1 hx with rfl | hx
      · exact nextT_ok _ hne hok
      · exact h1 x hx
    · intro x hx
      rcases List.mem_cons.1 hx with rfl | hx
      · refine Nat.le_trans ?_ hb
        have hp : 1 ≤ (blankS r).rest.length := by cases hr : (blankS r).rest with | nil => exact absurd hr hne | cons _ _ => simp
        unfold nextT
        split
        · rw [(wordT_text _).1]; exact takeWhile_le _ _
        · split
          · show (realText _).length ≤ _
            rw [realText_eq]
            have := takeWhile_le wordB ((blankS r).rest.drop 1)
            simp only [List.length_drop] at this
            simp only [List.length_cons]; omega
          · unfold signT
            split
            · simp only [List.length_take]; omega
            · split
              · simp only [List.length_take]; omega
              · simp
      · have := h3 x hx; omega
  · intro r _ _ h
    cases h

end Go.AE

