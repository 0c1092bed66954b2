/- Parts of the proof of a law, in build order: RowL, RowM, W14. -/
import Derived.Test.YtjdbmjllhmmddaaDoorW12Q7
import Derived.Test.YtjdbmjllhmmddaaDoorCards
import Derived.Test.YtjdbmjllhmmddaaDoorTie
import Derived.WalkKit
import Derived.ProofKit
import Derived.OpenShut
import Derived.Deep.DeepHandedRow
import Derived.Deep.DeepWitnessRowRef
import Derived.Lib.LaidTab
import Derived.LaidMore
import Derived.LaidLaws
import Derived.Shelf.Vars
import Derived.IntWalk
set_option maxRecDepth 2000
set_option linter.unusedVariables false
set_option linter.unusedSimpArgs false
/- The rows of the lexer's laws: what the listed variables give, one start that fits, from a call that answers true to the row. -/
set_option linter.unusedVariables false
set_option linter.unusedSimpArgs false
namespace Go.Proofs.YtjdbmjllhmmddaaDoor
open Go.AE Go.ChangeShapes Go.WideShapes Go.ChangeAt Go.RowKit

theorem own : ownKnob Tryd.prog.godebug = none := by kernel_rfl
theorem gA : Tryd.prog.globalNamed "math/bits.deBruijn32tab" = some 4 := by kernel_rfl
theorem gB : Tryd.prog.globalNamed "math/bits.deBruijn64tab" = some 5 := by kernel_rfl
theorem gC : Tryd.prog.globalNamed "internal/strconv.uint64pow10" = some 3 := by kernel_rfl
theorem gD : Tryd.prog.globalNamed "strconv.ErrRange" = some 2 := by kernel_rfl
theorem gE : Tryd.prog.globalNamed "strconv.ErrSyntax" = some 1 := by kernel_rfl
theorem tyC : (Tryd.prog.globals[3]?).map (·.type) = some 138 := by kernel_rfl
theorem tyD : (Tryd.prog.globals[2]?).map (·.type) = some 95 := by kernel_rfl
theorem tyE : (Tryd.prog.globals[1]?).map (·.type) = some 95 := by kernel_rfl
theorem c138 : Tryd.prog.cellsOf 138 = 20 := by kernel_rfl
theorem c31 : Tryd.prog.cellsOf 31 = 1 := by kernel_rfl
theorem c95 : Tryd.prog.cellsOf 95 = 1 := by kernel_rfl
theorem star : "*" ++ "errors.errorString" = "*errors.errorString" := by decide
theorem row145 (u : TypeId) (h : Tryd.prog.typeName? 3 u = some "*errors.errorString") : u = 145 :=
  typeName_ptr_named (nm := "errors.errorString") (by rw [star]; kernel_rfl) (by kernel_rfl) (by decide) u (by rw [star]; exact h)

theorem gat_of_cells {W : World} {g : Nat} {cs : List AV} {vs : Array Value} (hv : ∃ e f, W.heap[g]? = some (.cells vs e f)) (hl : cs.length = vs.size) (h1 : ∀ x ∈ vs.toList, x.oneCell' = true) (hc : CRs (viewOf W) cs vs.toList) : GAt (viewOf W) g cs := by
  obtain ⟨e, f, hh⟩ := hv
  refine (show CR (viewOf W) (.dat cs) _ from ?_)
  simp only [CR]
  refine ⟨g, 0, rfl, lt_of_heap hh, ?_, ?_⟩
  · simp [viewOf, hh, hl]
  · refine CRat_of_list hc h1 fun j v hj => ?_
    show W.cell? _ = _
    rw [Nat.zero_add]
    simpa [World.cell?, hh] using hj

/-- A listed error. -/
theorem sentinel_cell {W : World} {g fuel : Nat} {cs : Array Value} {y : DataW Unit} {p : List MemPlace} {name : String} (hg : Tryd.prog.globalNamed name = some g) (hv : W.var? Tryd.prog name = some cs)
    (hd : DataW.trod (fun _ => ()) Tryd.prog W 0 (fun _ => true) false fuel 95 cs.toList = some (.iface "*errors.errorString" y, p)) : GAt (viewOf W) g [.iface 145 .any] := by
  have hu : Tryd.prog.underlying 95 = some (.interface _) := Tryd.underlying95
  have hcell : ∃ e f, W.heap[g]? = some (.cells cs e f) := by
    unfold World.var? at hv
    rw [hg] at hv
    simp only [Option.bind_some] at hv
    split at hv
    · rename_i c e f hh; injection hv with hv; subst hv; exact ⟨e, f, hh⟩
    · cases hv
  have hcs : ∃ x, cs.toList = [.iface 145 x] := by
    cases fuel with
    | zero => simp [DataW.trod] at hd
    | succ fuel =>
      generalize cs.toList = l at hd
      rcases l with _ | ⟨v, _ | ⟨v2, l⟩⟩
      · simp [DataW.trod, hu] at hd
      · cases v with
        | iface u v =>
          simp only [DataW.trod, hu] at hd
          cases hn : Tryd.prog.typeName? 3 u with
          | none => simp [hn] at hd
          | some nm =>
            simp only [hn, Option.map_eq_some_iff, Prod.mk.injEq, DataW.iface.injEq] at hd
            obtain ⟨a, _, ⟨rfl, _⟩, _⟩ := hd
            obtain rfl := row145 u hn
            exact ⟨v, rfl⟩
        | _ => simp [DataW.trod, hu] at hd
      · simp [DataW.trod, hu] at hd
  obtain ⟨x, hx⟩ := hcs
  have hsz : cs.size = 1 := by rw [← Array.length_toList, hx]; rfl
  exact gat_of_cells hcell (by rw [hsz]; rfl) (by rw [hx]; simp [Value.oneCell']) (by rw [hx]; simp [CRs, CR])

theorem gok {W : World} (hL : laidMetH Tryd.prog Rows.lexNamesRow.laid W) (hsh : W.ShapedOpen Tryd.prog) : GOK (viewOf W) := by
  rw [MakeChecks.laidMetH_plain _ _ _ (by kernel_rfl)] at hL
  obtain ⟨ps, ⟨g0, t0, cs0, f0, p0, q0, hg0, ht0, hv0, hd0, ⟨g1, t1, cs1, f1, p1, q1, hg1, ht1, hv1, hd1, ⟨g2, t2, cs2, f2, p2, q2, hg2, ht2, hv2, hd2, ⟨g3, t3, cs3, f3, p3, q3, hg3, ht3, hv3, hd3, ⟨g4, t4, cs4, f4, p4, q4, hg4, ht4, hv4, hd4, _, _⟩, _⟩, _⟩, _⟩, _⟩, _, _⟩ := hL
  obtain rfl := Option.some.inj (gC.symm.trans hg2)
  obtain rfl := Option.some.inj (gD.symm.trans hg3)
  obtain rfl := Option.some.inj (gE.symm.trans hg4)
  obtain rfl := Option.some.inj (tyC.symm.trans ht2)
  obtain rfl := Option.some.inj (tyD.symm.trans ht3)
  obtain rfl := Option.some.inj (tyE.symm.trans ht4)
  refine ⟨⟨sentinel_cell gE hv4 hd4, sentinel_cell gD hv3 hd3, ?_, trivial⟩, ?_⟩
  · have hc := Lib.cells_of_tab (zs := Lib.pow10Tab) Tryd.underlying138 Tryd.underlying31 c31 c138 hd2
    have hcell : ∃ e f, W.heap[3]? = some (.cells cs2 e f) := by
      unfold World.var? at hv2
      rw [gC] at hv2
      simp only [Option.bind_some] at hv2
      split at hv2
      · rename_i c e f hh; injection hv2 with hv2; subst hv2; exact ⟨e, f, hh⟩
      · cases hv2
    have e20 : Lib.pow10Tab = [1, 10, 100, 1000, 10000, 100000, 1000000, 10000000, 100000000, 1000000000, 10000000000, 100000000000, 1000000000000, 10000000000000, 100000000000000, 1000000000000000, 10000000000000000, 100000000000000000, 1000000000000000000, 10000000000000000000] := by decide
    have hsz : cs2.size = 20 := by rw [← Array.length_toList, hc]; rfl
    refine gat_of_cells hcell (by rw [hsz]; rfl) (by rw [hc, e20]; simp [Value.oneCell']) (by rw [hc, e20]; simp [CRs, CR])
  · intro x hx
    have : x = 0 := by simpa [theInt] using hx
    subst this
    have hg6 : 0 < Tryd.prog.globals.size := by rw [show Tryd.prog.globals.size = 6 by kernel_rfl]; decide
    obtain ⟨m, hm⟩ := cell_of_shapedOpen_int (g := 0) (t := 3) (zero := #[.int .i64 0]) (k := .i64) hsh hg6 (by kernel_rfl) rfl (by kernel_rfl) (by kernel_rfl) Tryd.underlying3
    refine ⟨m, ?_⟩
    have hm2 : ∃ c e f, W.heap[0]? = some (.cells c e f) ∧ c[0]? = some (.int .i64 m) := by
      unfold World.cell? at hm
      simp only at hm
      split at hm
      · rename_i c e f hh; exact ⟨c, e, f, hh, by simpa using hm⟩
      · cases hm
    obtain ⟨c, e, f, hh, hc⟩ := hm2
    refine (show CR (viewOf W) (.dat _) _ from ?_)
    simp only [CR]
    refine ⟨0, 0, rfl, lt_of_heap hh, ?_, ?_⟩
    · have := (Array.getElem?_eq_some_iff.1 hc).1
      simp [viewOf, hh]; omega
    · simp only [CRat, CR, and_true]
      exact ⟨_, hm, rfl, rfl⟩
end Go.Proofs.YtjdbmjllhmmddaaDoor

/- From a call that answers true, and turns nothing of what was there, to the row's condition behind the call. -/
set_option linter.unusedVariables false
namespace Go
open Go.RowKit Go.ChangeShapes Go.ChangeAt
variable {H : Type} {enc : TypeId × Value → H} {P : Program}
theorem post_of_below {f : Func} {s : ChangeSpec} {apart fresh handsOn again : Bool} {W W' : World} {args : Array Value} {v : Value} {ds gs : List (DataW H)} {before pa pv : List MemPlace}
    (hW : DataW.Whole enc P f.params.toList s.vars apart W args.toList ds gs before)
    (hres : ∀ (b : Nat) (sp : Nat → Bool) (hd : Bool), DataW.TrodAll enc P W' b sp hd f.resultTypes.toList (v.resultList f.resultTypes.size) (s.fn H (ds ++ gs)).results [])
    (hargs : ∀ sp : Nat → Bool, (∀ p ∈ before, sp p.block = true) → DataW.TrodAll enc P W' 0 sp true f.params.toList args.toList (s.fn H (ds ++ gs)).args pa)
    (hvars : ∀ sp : Nat → Bool, (∀ p ∈ before, sp p.block = true) → DataW.TrodVars enc P W' sp s.vars (s.fn H (ds ++ gs)).vars pv)
    (hps : before = pa ++ pv) (hb : Below W.heap.size W W')
    (hok : ∀ (j : Nat) (t : TypeId) (r : Value), f.resultTypes[j]? = some t → (v.resultList f.resultTypes.size)[j]? = some r → Value.okWide P W' .any 0 t r) :
    s.post enc P f apart fresh handsOn again W args v W' := by
  have hold : ∀ p ∈ before, (fun b => decide (b < W.heap.size)) p.block = true := fun p hp => by simpa using hW.lt p hp
  have hlt : ∀ p ∈ before, p.block < W.heap.size := fun p hp => hW.lt p hp
  refine ⟨ds, gs, before, [], pa, pv, hW, hres _ _ _, hargs _ hold, hvars _ hold, World.keptBut_mono (fun p hp => ⟨hp, ?_⟩) (hb.frame (· ∈ before)), fun _ => ?_⟩
  · rw [hps, List.mem_append] at hp
    exact Or.inr hp
  · obtain ⟨_, _, _, _, _, hz, hn⟩ := hW
    refine ⟨hok, _, _, ([] ++ pa) ++ pv, ⟨[] ++ pa, pv, trodAll_append (hargs _ (fun _ _ => rfl)) (hres _ _ _), hvars _ (fun _ _ => rfl), rfl, ?_, ?_⟩, ?_⟩
    · intro b off hp
      have hp' : MemPlace.cell b off ∈ before := by rw [hps]; simpa using hp
      rw [hb.frozen (p := ⟨b, off, none⟩) (hlt _ hp')]
      exact hz b off hp'
    · intro ha
      have := hn ha
      rw [hps] at this
      simpa using this
    · intro p hp _
      rw [hps]
      simpa using hp
end Go

set_option linter.unusedVariables false
set_option linter.unusedSimpArgs false
set_option maxRecDepth 4000
namespace Go.AE
open Go.Proofs

/-! ### lines stay small -/
theorem skipS_line (n : Nat) (r : Rd) : r.line ≤ (skipS n r).line ∧ (skipS n r).line + (skipS n r).rest.length ≤ r.line + r.rest.length := by
  have := advL_le r.line (r.rest.take n)
  simp only [skipS, List.length_drop, List.length_take] at this ⊢
  omega
theorem blankS_line (n : Nat) : ∀ r : Rd, r.rest.length ≤ n → r.line ≤ (blankS r).line ∧ (blankS r).line + (blankS r).rest.length ≤ r.line + r.rest.length := by
  induction n with
  | zero =>
    intro r h
    have : r.rest = [] := List.length_eq_zero_iff.1 (by omega)
    rw [blankS_step, if_pos this]; exact ⟨Int.le_refl _, Int.le_refl _⟩
  | succ n ih =>
    intro r h
    rw [blankS_step]
    split
    · exact ⟨Int.le_refl _, Int.le_refl _⟩
    · rename_i hne
      have hp : 1 ≤ r.rest.length := by cases hr : r.rest with | nil => exact absurd hr hne | cons _ _ => simp
      split
      · rename_i hl
        have h1 := lineN_pos hl
        have h2 := skipS_line (lineN r.rest) r
        have h3 := ih (skipS (lineN r.rest) r) (by simp only [skipS, List.length_drop]; omega)
        omega
      · split
        · have h2 := skipS_line 1 r
          have h3 := ih (skipS 1 r) (by simp only [skipS, List.length_drop]; omega)
          omega
        · exact ⟨Int.le_refl _, Int.le_refl _⟩
theorem lexR_lines (r : Rd) : ∀ x ∈ (lexR r).1, r.line ≤ x.line ∧ x.line ≤ r.line + r.rest.length := by
  refine lexR_ind (P := fun r y => ∀ x ∈ y.1, r.line ≤ x.line ∧ x.line ≤ r.line + r.rest.length) ?_ ?_ ?_ r
  · intro r _ x hx
    have := blankS_line _ r (Nat.le_refl _)
    simp only [List.mem_cons, List.not_mem_nil, or_false] at hx
    subst hx
    simp only; omega
  · intro r hne hok ih x hx
    have h1 := blankS_line _ r (Nat.le_refl _)
    obtain ⟨t1, _, _, _, t5⟩ := nextT_at _ hne hok
    have h2 := skipS_line (nextT (blankS r)).1.text.length (blankS r)
    rw [← t5] at h2
    unfold glue at hx
    split at hx
    · rcases List.mem_append.1 hx with hx | hx
      · simp only [List.mem_cons, List.not_mem_nil, or_false] at hx
        subst hx
        rw [t1]; omega
      · have := ih x hx; omega
    · have := ih x hx; omega
  · intro r _ _ x hx; cases hx
theorem getD_line (t : List UInt8) (h : t.length ≤ 8192) (i : Nat) : 0 ≤ ((lexS t).1.getD i default).line ∧ ((lexS t).1.getD i default).line ≤ 8193 := by
  rw [lexS_eq t h]
  by_cases hi : i < (lexR ⟨t, 1, 1⟩).1.length
  · have hm : (lexR ⟨t, 1, 1⟩).1.getD i default ∈ (lexR ⟨t, 1, 1⟩).1 := by rw [List.getD_eq_getElem?_getD, List.getElem?_eq_getElem hi]; exact List.getElem_mem _
    have := lexR_lines _ _ hm
    simp only at this
    omega
  · rw [List.getD_eq_getElem?_getD, List.getElem?_eq_none (by omega)]
    exact ⟨Int.le_refl _, by decide⟩

theorem lexJoins_early (a b : List UInt8) (σ : St) (hbig : 4096 < a.length ∨ 4096 ≤ b.length) : ACalls Tryd.prog 6 [.str a, .str b] σ (fun e s => σ = s ∧ e = .ret (.bool true)) := by
  refine ACalls.enter hT Tryd.func6 rfl (by kernel_rfl) ?_
  refine ACode.seq ?_
  refine ACode.run hT (fun _ => false) [0, 1] (fr' := ⟨[(0, .str a), (1, .str b)], [], [], [], 0⟩) (σ' := σ) (ob := True ∧ True) (by kernel_rfl) ⟨trivial, trivial⟩ ?_
  refine ACode.seq ?_
  refine ACode.seq ?_
  refine ACode.region ?_
  refine AOps.call (fid := 10) (cap := []) (avs := []) (by kernel_rfl) rfl (by kernel_rfl) (by kernel_rfl) en_10 (by kernel_rfl) (ACalls.mono (alive_walk _) ?_)
  rintro _ _ ⟨rfl, rfl⟩
  refine AOps.runN hT (fun _ => false) 1 [0, 1, 16] (fr' := ⟨[(0, .str a), (1, .str b), (16, .bool false)], [], [], [], 0⟩) (σ' := σ) (ob := True ∧ True) (by kernel_rfl) ⟨trivial, trivial⟩ ?_
  refine AOps.nil ?_
  refine ACode.cond (t := false) (by kernel_rfl) (fun h => Bool.noConfusion h) (fun _ => ?_)
  refine ACode.skip ?_
  refine ACode.seq ?_
  refine ACode.seq ?_
  refine ACode.meet ⟨[(0, .str a), (1, .str b), (24, .bool ((decide ((((a) : List UInt8).length : Int) > 4096)) || (decide ((((b) : List UInt8).length : Int) ≥ 4096))))], [], [], [], 0⟩ σ (ACode.region ?_) ?_
  ·
    refine AOps.runN hT (fun _ => false) 4 [0, 1, 20] (fr' := ⟨[(0, .str a), (1, .str b), (20, .bool (decide ((((a) : List UInt8).length : Int) > 4096)))], [], [], [], 0⟩) (σ' := σ) (ob := True ∧ True ∧ True ∧ True ∧ True) (by kernel_rfl) ⟨trivial, trivial, trivial, trivial, trivial⟩ ?_
    cases h1 : (decide ((((a) : List UInt8).length : Int) > 4096))
    · -- decide ((((a) : List UInt8).length : Int) > 4096) is false
      have h1k := of_decide_eq_false h1
      refine AOps.runN hT (fun _ => false) 4 [0, 1, 24] (fr' := ⟨[(0, .str a), (1, .str b), (24, .bool (decide ((((b) : List UInt8).length : Int) ≥ 4096)))], [], [], [], 0⟩) (σ' := σ) (ob := True ∧ True ∧ True ∧ True ∧ True) (by kernel_rfl) ⟨trivial, trivial, trivial, trivial, trivial⟩ ?_
      refine AOps.weak [0, 1, 24] (AOps.nil ⟨rfl, rfl⟩)
    · -- decide ((((a) : List UInt8).length : Int) > 4096) is true
      have h1k := of_decide_eq_true h1
      refine AOps.runN hT (fun _ => false) 4 [0, 1, 24] (fr' := ⟨[(0, .str a), (1, .str b), (24, .bool true)], [], [], [], 0⟩) (σ' := σ) (ob := True ∧ True) (by kernel_rfl) ⟨trivial, trivial⟩ ?_
      refine AOps.weak [0, 1, 24] (AOps.nil ⟨rfl, rfl⟩)
  -- on
  refine ACode.cond (t := (decide ((((a) : List UInt8).length : Int) > 4096)) || (decide ((((b) : List UInt8).length : Int) ≥ 4096))) (by kernel_rfl) (fun h2 => ?_) (fun h2 => ?_)
  · -- true
    have h2k := h2; simp only [Bool.and_eq_true, Bool.or_eq_true, Bool.and_eq_false_iff, Bool.or_eq_false_iff, decide_eq_true_eq, decide_eq_false_iff_not, beq_iff_eq, bne_iff_ne, ne_eq, Bool.not_eq_true', Bool.not_eq_false', beq_eq_false_iff_ne, bne_eq_false_iff_eq] at h2k
    refine ACode.seq ?_
    refine ACode.run hT (fun _ => false) [4] (fr' := ⟨[(4, .bool true)], [], [], [], 0⟩) (σ' := σ) (ob := True ∧ True) (by kernel_rfl) ⟨trivial, trivial⟩ ?_
    refine ACode.ret ?_
    refine retQ.ret (.bool true) (by kernel_rfl) ?_
    exact ⟨rfl, rfl⟩
  · -- false
    have h2k := h2; simp only [Bool.and_eq_true, Bool.or_eq_true, Bool.and_eq_false_iff, Bool.or_eq_false_iff, decide_eq_true_eq, decide_eq_false_iff_not, beq_iff_eq, bne_iff_ne, ne_eq, Bool.not_eq_true', Bool.not_eq_false', beq_eq_false_iff_ne, bne_eq_false_iff_eq] at h2k
    have h2q := h2k.1
    have h2r := h2k.2
    omega
theorem lexJoins_e1 (a b : List UInt8) (y : List Tok) (k ln cl : Int) (σ : St) (hk : k ≠ 0) (hx : lexS a = ([], k, ln, cl)) (hy : lexS b = (y, 0, 0, 0)) (hz : lexS ((a ++ [10]) ++ b) = ([], k, ln, cl)) : ACalls Tryd.prog 6 [.str a, .str b] σ (fun e s => σ = s ∧ e = .ret (.bool true)) := by
  refine ACalls.enter hT Tryd.func6 rfl (by kernel_rfl) ?_
  refine ACode.seq ?_
  refine ACode.run hT (fun _ => false) [0, 1] (fr' := ⟨[(0, .str a), (1, .str b)], [], [], [], 0⟩) (σ' := σ) (ob := True ∧ True) (by kernel_rfl) ⟨trivial, trivial⟩ ?_
  refine ACode.seq ?_
  refine ACode.seq ?_
  refine ACode.region ?_
  refine AOps.call (fid := 10) (cap := []) (avs := []) (by kernel_rfl) rfl (by kernel_rfl) (by kernel_rfl) en_10 (by kernel_rfl) (ACalls.mono (alive_walk _) ?_)
  rintro _ _ ⟨rfl, rfl⟩
  refine AOps.runN hT (fun _ => false) 1 [0, 1, 16] (fr' := ⟨[(0, .str a), (1, .str b), (16, .bool false)], [], [], [], 0⟩) (σ' := σ) (ob := True ∧ True) (by kernel_rfl) ⟨trivial, trivial⟩ ?_
  refine AOps.nil ?_
  refine ACode.cond (t := false) (by kernel_rfl) (fun h => Bool.noConfusion h) (fun _ => ?_)
  refine ACode.skip ?_
  refine ACode.seq ?_
  refine ACode.seq ?_
  refine ACode.meet ⟨[(0, .str a), (1, .str b), (24, .bool ((decide ((((a) : List UInt8).length : Int) > 4096)) || (decide ((((b) : List UInt8).length : Int) ≥ 4096))))], [], [], [], 0⟩ σ (ACode.region ?_) ?_
  ·
    refine AOps.runN hT (fun _ => false) 4 [0, 1, 20] (fr' := ⟨[(0, .str a), (1, .str b), (20, .bool (decide ((((a) : List UInt8).length : Int) > 4096)))], [], [], [], 0⟩) (σ' := σ) (ob := True ∧ True ∧ True ∧ True ∧ True) (by kernel_rfl) ⟨trivial, trivial, trivial, trivial, trivial⟩ ?_
    cases h1 : (decide ((((a) : List UInt8).length : Int) > 4096))
    · -- decide ((((a) : List UInt8).length : Int) > 4096) is false
      have h1k := of_decide_eq_false h1
      refine AOps.runN hT (fun _ => false) 4 [0, 1, 24] (fr' := ⟨[(0, .str a), (1, .str b), (24, .bool (decide ((((b) : List UInt8).length : Int) ≥ 4096)))], [], [], [], 0⟩) (σ' := σ) (ob := True ∧ True ∧ True ∧ True ∧ True) (by kernel_rfl) ⟨trivial, trivial, trivial, trivial, trivial⟩ ?_
      refine AOps.weak [0, 1, 24] (AOps.nil ⟨rfl, rfl⟩)
    · -- decide ((((a) : List UInt8).length : Int) > 4096) is true
      have h1k := of_decide_eq_true h1
      refine AOps.runN hT (fun _ => false) 4 [0, 1, 24] (fr' := ⟨[(0, .str a), (1, .str b), (24, .bool true)], [], [], [], 0⟩) (σ' := σ) (ob := True ∧ True) (by kernel_rfl) ⟨trivial, trivial⟩ ?_
      refine AOps.weak [0, 1, 24] (AOps.nil ⟨rfl, rfl⟩)
  -- on
  refine ACode.cond (t := (decide ((((a) : List UInt8).length : Int) > 4096)) || (decide ((((b) : List UInt8).length : Int) ≥ 4096))) (by kernel_rfl) (fun h2 => ?_) (fun h2 => ?_)
  · -- true
    have h2k := h2; simp only [Bool.and_eq_true, Bool.or_eq_true, Bool.and_eq_false_iff, Bool.or_eq_false_iff, decide_eq_true_eq, decide_eq_false_iff_not, beq_iff_eq, bne_iff_ne, ne_eq, Bool.not_eq_true', Bool.not_eq_false', beq_eq_false_iff_ne, bne_eq_false_iff_eq] at h2k
    refine ACode.seq ?_
    refine ACode.run hT (fun _ => false) [4] (fr' := ⟨[(4, .bool true)], [], [], [], 0⟩) (σ' := σ) (ob := True ∧ True) (by kernel_rfl) ⟨trivial, trivial⟩ ?_
    refine ACode.ret ?_
    refine retQ.ret (.bool true) (by kernel_rfl) ?_
    exact ⟨rfl, rfl⟩
  · -- false
    have h2k := h2; simp only [Bool.and_eq_true, Bool.or_eq_true, Bool.and_eq_false_iff, Bool.or_eq_false_iff, decide_eq_true_eq, decide_eq_false_iff_not, beq_iff_eq, bne_iff_ne, ne_eq, Bool.not_eq_true', Bool.not_eq_false', beq_eq_false_iff_ne, bne_eq_false_iff_eq] at h2k
    refine ACode.skip ?_
    refine ACode.seq ?_
    refine ACode.region ?_
    refine AOps.runN hT (fun _ => false) 1 [0, 1, 26] (fr' := ⟨[(0, .str a), (1, .str b), (26, .str a)], [], [], [], 0⟩) (σ' := σ) (ob := True ∧ True) (by kernel_rfl) ⟨trivial, trivial⟩ ?_
    refine AOps.call (fid := 15) (cap := []) (avs := [.str a]) (by kernel_rfl) rfl (by kernel_rfl) (by kernel_rfl) en_15 (by kernel_rfl) (ACalls.mono (lex_err a k ln cl hx _) ?_)
    rintro _ _ ⟨rfl, own2, hown2, rfl⟩
    refine AOps.runN hT (fun _ => false) 6 [0, 1, 5, 6] (fr' := ⟨[(0, .str a), (1, .str b), (5, .slice [] 0 own2), (6, .loc 0 0)], [[.int .i64 k, .int .i64 ln, .int .i64 cl]], [], [], 0⟩) (σ' := σ) (ob := True ∧ True ∧ True ∧ True ∧ True ∧ True ∧ True) (by kernel_rfl) ⟨trivial, trivial, trivial, trivial, trivial, trivial, trivial⟩ ?_
    refine AOps.nil ?_
    refine ACode.seq ?_
    refine ACode.region ?_
    refine AOps.runN hT (fun _ => false) 1 [0, 1, 5, 6, 31] (fr' := ⟨[(0, .str a), (1, .str b), (5, .slice [] 0 own2), (6, .loc 0 0), (31, .str b)], [[.int .i64 k, .int .i64 ln, .int .i64 cl]], [], [], 0⟩) (σ' := σ) (ob := True ∧ True) (by kernel_rfl) ⟨trivial, trivial⟩ ?_
    refine AOps.call (fid := 15) (cap := []) (avs := [.str b]) (by kernel_rfl) rfl (by kernel_rfl) (by kernel_rfl) en_15 (by kernel_rfl) (ACalls.mono (lex_ok b y hy _) ?_)
    rintro _ _ ⟨rfl, own4, hown4, rfl⟩
    refine AOps.runN hT (fun _ => false) 6 [0, 1, 5, 6, 7, 8] (fr' := ⟨[(0, .str a), (1, .str b), (5, .slice [] 0 own2), (6, .loc 0 0), (7, .slice (toksAV y) y.length own4), (8, .loc 1 0)], [[.int .i64 k, .int .i64 ln, .int .i64 cl], [.int .i64 0, .int .i64 0, .int .i64 0]], [], [], 0⟩) (σ' := σ) (ob := True ∧ True ∧ True ∧ True ∧ True ∧ True ∧ True) (by kernel_rfl) ⟨trivial, trivial, trivial, trivial, trivial, trivial, trivial⟩ ?_
    refine AOps.nil ?_
    refine ACode.seq ?_
    refine ACode.region ?_
    refine AOps.runN hT (fun _ => false) 4 [5, 6, 7, 8, 39] (fr' := ⟨[(5, .slice [] 0 own2), (6, .loc 0 0), (7, .slice (toksAV y) y.length own4), (8, .loc 1 0), (39, .str ((a ++ [10]) ++ b))], [[.int .i64 k, .int .i64 ln, .int .i64 cl], [.int .i64 0, .int .i64 0, .int .i64 0]], [], [], 0⟩) (σ' := σ) (ob := True ∧ ((((a : List UInt8).length + ([10] : List UInt8).length : Nat) : Int) ≤ 9223372036854775807) ∧ True ∧ (((((a ++ [10]) : List UInt8).length + (b : List UInt8).length : Nat) : Int) ≤ 9223372036854775807) ∧ True) (by kernel_rfl) ⟨trivial, (by first | omega | (simp only [List.length_append, List.length_cons, List.length_nil]; omega)), trivial, (by first | omega | (simp only [List.length_append, List.length_cons, List.length_nil]; omega)), trivial⟩ ?_
    refine AOps.call (fid := 15) (cap := []) (avs := [.str ((a ++ [10]) ++ b)]) (by kernel_rfl) rfl (by kernel_rfl) (by kernel_rfl) en_15 (by kernel_rfl) (ACalls.mono (lex_err ((a ++ [10]) ++ b) k ln cl hz _) ?_)
    rintro _ _ ⟨rfl, own6, hown6, rfl⟩
    refine AOps.runN hT (fun _ => false) 6 [5, 6, 7, 8, 9, 10] (fr' := ⟨[(5, .slice [] 0 own2), (6, .loc 0 0), (7, .slice (toksAV y) y.length own4), (8, .loc 1 0), (9, .slice [] 0 own6), (10, .loc 2 0)], [[.int .i64 k, .int .i64 ln, .int .i64 cl], [.int .i64 0, .int .i64 0, .int .i64 0], [.int .i64 k, .int .i64 ln, .int .i64 cl]], [], [], 0⟩) (σ' := σ) (ob := True ∧ True ∧ True ∧ True ∧ True ∧ True ∧ True) (by kernel_rfl) ⟨trivial, trivial, trivial, trivial, trivial, trivial, trivial⟩ ?_
    refine AOps.nil ?_
    refine ACode.seq ?_
    refine ACode.seq ?_
    refine ACode.region ?_
    refine AOps.runN hT (fun _ => false) 4 [5, 6, 7, 8, 9, 10, 46] (fr' := ⟨[(5, .slice [] 0 own2), (6, .loc 0 0), (7, .slice (toksAV y) y.length own4), (8, .loc 1 0), (9, .slice [] 0 own6), (10, .loc 2 0), (46, .bool (!((k == 0) && ((ln == 0) && (cl == 0)))))], [[.int .i64 k, .int .i64 ln, .int .i64 cl], [.int .i64 0, .int .i64 0, .int .i64 0], [.int .i64 k, .int .i64 ln, .int .i64 cl]], [], [], 0⟩) (σ' := σ) (ob := True ∧ True ∧ True ∧ True ∧ True) (by kernel_rfl) ⟨trivial, trivial, trivial, trivial, trivial⟩ ?_
    cases h3 : (!((k == 0) && ((ln == 0) && (cl == 0))))
    · -- !((k == 0) && ((ln == 0) && (cl == 0))) is false
      have h3k := h3; simp only [Bool.and_eq_true, Bool.or_eq_true, Bool.and_eq_false_iff, Bool.or_eq_false_iff, decide_eq_true_eq, decide_eq_false_iff_not, beq_iff_eq, bne_iff_ne, ne_eq, Bool.not_eq_true', Bool.not_eq_false', beq_eq_false_iff_ne, bne_eq_false_iff_eq] at h3k
      exfalso
      simp_all
    · -- !((k == 0) && ((ln == 0) && (cl == 0))) is true
      have h3k := h3; simp only [Bool.and_eq_true, Bool.or_eq_true, Bool.and_eq_false_iff, Bool.or_eq_false_iff, decide_eq_true_eq, decide_eq_false_iff_not, beq_iff_eq, bne_iff_ne, ne_eq, Bool.not_eq_true', Bool.not_eq_false', beq_eq_false_iff_ne, bne_eq_false_iff_eq] at h3k
      refine AOps.runN hT (fun _ => false) 4 [5, 6, 7, 9, 10, 50] (fr' := ⟨[(5, .slice [] 0 own2), (6, .loc 0 0), (7, .slice (toksAV y) y.length own4), (9, .slice [] 0 own6), (10, .loc 2 0), (50, .bool true)], [[.int .i64 k, .int .i64 ln, .int .i64 cl], [.int .i64 0, .int .i64 0, .int .i64 0], [.int .i64 k, .int .i64 ln, .int .i64 cl]], [], [], 0⟩) (σ' := σ) (ob := True ∧ True) (by kernel_rfl) ⟨trivial, trivial⟩ ?_
      refine AOps.nil ?_
      refine ACode.cond (t := true) (by kernel_rfl) (fun _ => ?_) (fun h => Bool.noConfusion h)
      refine ACode.seq ?_
      refine ACode.meet ⟨[(4, .bool (((k == 0) && ((ln == 0) && (cl == 0))) || ((k == k) && ((ln == ln) && (cl == cl)))))], [[.int .i64 k, .int .i64 ln, .int .i64 cl], [.int .i64 0, .int .i64 0, .int .i64 0], [.int .i64 k, .int .i64 ln, .int .i64 cl]], [], [], 0⟩ σ (ACode.region ?_) ?_
      ·
        refine AOps.runN hT (fun _ => false) 4 [6, 9, 10, 54] (fr' := ⟨[(6, .loc 0 0), (9, .slice [] 0 own6), (10, .loc 2 0), (54, .bool (!((k == 0) && ((ln == 0) && (cl == 0)))))], [[.int .i64 k, .int .i64 ln, .int .i64 cl], [.int .i64 0, .int .i64 0, .int .i64 0], [.int .i64 k, .int .i64 ln, .int .i64 cl]], [], [], 0⟩) (σ' := σ) (ob := True ∧ True ∧ True ∧ True ∧ True) (by kernel_rfl) ⟨trivial, trivial, trivial, trivial, trivial⟩ ?_
        cases h4 : (!((k == 0) && ((ln == 0) && (cl == 0))))
        · -- !((k == 0) && ((ln == 0) && (cl == 0))) is false
          have h4k := h4; simp only [Bool.and_eq_true, Bool.or_eq_true, Bool.and_eq_false_iff, Bool.or_eq_false_iff, decide_eq_true_eq, decide_eq_false_iff_not, beq_iff_eq, bne_iff_ne, ne_eq, Bool.not_eq_true', Bool.not_eq_false', beq_eq_false_iff_ne, bne_eq_false_iff_eq] at h4k
          exfalso
          simp_all
        · -- !((k == 0) && ((ln == 0) && (cl == 0))) is true
          have h4k := h4; simp only [Bool.and_eq_true, Bool.or_eq_true, Bool.and_eq_false_iff, Bool.or_eq_false_iff, decide_eq_true_eq, decide_eq_false_iff_not, beq_iff_eq, bne_iff_ne, ne_eq, Bool.not_eq_true', Bool.not_eq_false', beq_eq_false_iff_ne, bne_eq_false_iff_eq] at h4k
          refine AOps.runN hT (fun _ => false) 9 [6, 10, 59, 63] (fr' := ⟨[(6, .loc 0 0), (10, .loc 2 0), (59, .bool true), (63, .bool ((k == 0) && ((ln == 0) && (cl == 0))))], [[.int .i64 k, .int .i64 ln, .int .i64 cl], [.int .i64 0, .int .i64 0, .int .i64 0], [.int .i64 k, .int .i64 ln, .int .i64 cl]], [], [], 0⟩) (σ' := σ) (ob := True ∧ True ∧ True ∧ True ∧ True ∧ True ∧ True ∧ True ∧ True ∧ True) (by kernel_rfl) ⟨trivial, trivial, trivial, trivial, trivial, trivial, trivial, trivial, trivial, trivial⟩ ?_
          cases h5 : ((k == 0) && ((ln == 0) && (cl == 0)))
          · -- (k == 0) && ((ln == 0) && (cl == 0)) is false
            have h5k := h5; simp only [Bool.and_eq_true, Bool.or_eq_true, Bool.and_eq_false_iff, Bool.or_eq_false_iff, decide_eq_true_eq, decide_eq_false_iff_not, beq_iff_eq, bne_iff_ne, ne_eq, Bool.not_eq_true', Bool.not_eq_false', beq_eq_false_iff_ne, bne_eq_false_iff_eq] at h5k
            refine AOps.runN hT (fun _ => false) 6 [4] (fr' := ⟨[(4, .bool ((k == k) && ((ln == ln) && (cl == cl))))], [[.int .i64 k, .int .i64 ln, .int .i64 cl], [.int .i64 0, .int .i64 0, .int .i64 0], [.int .i64 k, .int .i64 ln, .int .i64 cl]], [], [], 0⟩) (σ' := σ) (ob := True ∧ True ∧ True ∧ True ∧ True ∧ True ∧ True) (by kernel_rfl) ⟨trivial, trivial, trivial, trivial, trivial, trivial, trivial⟩ ?_
            refine AOps.weak [4] (AOps.nil ⟨rfl, rfl⟩)
          · -- (k == 0) && ((ln == 0) && (cl == 0)) is true
            have h5k := h5; simp only [Bool.and_eq_true, Bool.or_eq_true, Bool.and_eq_false_iff, Bool.or_eq_false_iff, decide_eq_true_eq, decide_eq_false_iff_not, beq_iff_eq, bne_iff_ne, ne_eq, Bool.not_eq_true', Bool.not_eq_false', beq_eq_false_iff_ne, bne_eq_false_iff_eq] at h5k
            refine AOps.runN hT (fun _ => false) 6 [4] (fr' := ⟨[(4, .bool true)], [[.int .i64 k, .int .i64 ln, .int .i64 cl], [.int .i64 0, .int .i64 0, .int .i64 0], [.int .i64 k, .int .i64 ln, .int .i64 cl]], [], [], 0⟩) (σ' := σ) (ob := True ∧ True ∧ True ∧ True) (by kernel_rfl) ⟨trivial, trivial, trivial, trivial⟩ ?_
            refine AOps.weak [4] (AOps.nil ⟨rfl, rfl⟩)
      -- on
      refine ACode.ret ?_
      refine retQ.ret (.bool (((k == 0) && ((ln == 0) && (cl == 0))) || ((k == k) && ((ln == ln) && (cl == cl))))) (by kernel_rfl) ?_
      refine ⟨rfl, ?_⟩
      simp_all
theorem lexJoins_e2 (a b : List UInt8) (k ln cl k2 ln2 cl2 : Int) (σ : St) (hk : k ≠ 0) (hx : lexS a = ([], k, ln, cl)) (hy : lexS b = ([], k2, ln2, cl2)) (hz : lexS ((a ++ [10]) ++ b) = ([], k, ln, cl)) : ACalls Tryd.prog 6 [.str a, .str b] σ (fun e s => σ = s ∧ e = .ret (.bool true)) := by
  refine ACalls.enter hT Tryd.func6 rfl (by kernel_rfl) ?_
  refine ACode.seq ?_
  refine ACode.run hT (fun _ => false) [0, 1] (fr' := ⟨[(0, .str a), (1, .str b)], [], [], [], 0⟩) (σ' := σ) (ob := True ∧ True) (by kernel_rfl) ⟨trivial, trivial⟩ ?_
  refine ACode.seq ?_
  refine ACode.seq ?_
  refine ACode.region ?_
  refine AOps.call (fid := 10) (cap := []) (avs := []) (by kernel_rfl) rfl (by kernel_rfl) (by kernel_rfl) en_10 (by kernel_rfl) (ACalls.mono (alive_walk _) ?_)
  rintro _ _ ⟨rfl, rfl⟩
  refine AOps.runN hT (fun _ => false) 1 [0, 1, 16] (fr' := ⟨[(0, .str a), (1, .str b), (16, .bool false)], [], [], [], 0⟩) (σ' := σ) (ob := True ∧ True) (by kernel_rfl) ⟨trivial, trivial⟩ ?_
  refine AOps.nil ?_
  refine ACode.cond (t := false) (by kernel_rfl) (fun h => Bool.noConfusion h) (fun _ => ?_)
  refine ACode.skip ?_
  refine ACode.seq ?_
  refine ACode.seq ?_
  refine ACode.meet ⟨[(0, .str a), (1, .str b), (24, .bool ((decide ((((a) : List UInt8).length : Int) > 4096)) || (decide ((((b) : List UInt8).length : Int) ≥ 4096))))], [], [], [], 0⟩ σ (ACode.region ?_) ?_
  ·
    refine AOps.runN hT (fun _ => false) 4 [0, 1, 20] (fr' := ⟨[(0, .str a), (1, .str b), (20, .bool (decide ((((a) : List UInt8).length : Int) > 4096)))], [], [], [], 0⟩) (σ' := σ) (ob := True ∧ True ∧ True ∧ True ∧ True) (by kernel_rfl) ⟨trivial, trivial, trivial, trivial, trivial⟩ ?_
    cases h1 : (decide ((((a) : List UInt8).length : Int) > 4096))
    · -- decide ((((a) : List UInt8).length : Int) > 4096) is false
      have h1k := of_decide_eq_false h1
      refine AOps.runN hT (fun _ => false) 4 [0, 1, 24] (fr' := ⟨[(0, .str a), (1, .str b), (24, .bool (decide ((((b) : List UInt8).length : Int) ≥ 4096)))], [], [], [], 0⟩) (σ' := σ) (ob := True ∧ True ∧ True ∧ True ∧ True) (by kernel_rfl) ⟨trivial, trivial, trivial, trivial, trivial⟩ ?_
      refine AOps.weak [0, 1, 24] (AOps.nil ⟨rfl, rfl⟩)
    · -- decide ((((a) : List UInt8).length : Int) > 4096) is true
      have h1k := of_decide_eq_true h1
      refine AOps.runN hT (fun _ => false) 4 [0, 1, 24] (fr' := ⟨[(0, .str a), (1, .str b), (24, .bool true)], [], [], [], 0⟩) (σ' := σ) (ob := True ∧ True) (by kernel_rfl) ⟨trivial, trivial⟩ ?_
      refine AOps.weak [0, 1, 24] (AOps.nil ⟨rfl, rfl⟩)
  -- on
  refine ACode.cond (t := (decide ((((a) : List UInt8).length : Int) > 4096)) || (decide ((((b) : List UInt8).length : Int) ≥ 4096))) (by kernel_rfl) (fun h2 => ?_) (fun h2 => ?_)
  · -- true
    have h2k := h2; simp only [Bool.and_eq_true, Bool.or_eq_true, Bool.and_eq_false_iff, Bool.or_eq_false_iff, decide_eq_true_eq, decide_eq_false_iff_not, beq_iff_eq, bne_iff_ne, ne_eq, Bool.not_eq_true', Bool.not_eq_false', beq_eq_false_iff_ne, bne_eq_false_iff_eq] at h2k
    refine ACode.seq ?_
    refine ACode.run hT (fun _ => false) [4] (fr' := ⟨[(4, .bool true)], [], [], [], 0⟩) (σ' := σ) (ob := True ∧ True) (by kernel_rfl) ⟨trivial, trivial⟩ ?_
    refine ACode.ret ?_
    refine retQ.ret (.bool true) (by kernel_rfl) ?_
    exact ⟨rfl, rfl⟩
  · -- false
    have h2k := h2; simp only [Bool.and_eq_true, Bool.or_eq_true, Bool.and_eq_false_iff, Bool.or_eq_false_iff, decide_eq_true_eq, decide_eq_false_iff_not, beq_iff_eq, bne_iff_ne, ne_eq, Bool.not_eq_true', Bool.not_eq_false', beq_eq_false_iff_ne, bne_eq_false_iff_eq] at h2k
    refine ACode.skip ?_
    refine ACode.seq ?_
    refine ACode.region ?_
    refine AOps.runN hT (fun _ => false) 1 [0, 1, 26] (fr' := ⟨[(0, .str a), (1, .str b), (26, .str a)], [], [], [], 0⟩) (σ' := σ) (ob := True ∧ True) (by kernel_rfl) ⟨trivial, trivial⟩ ?_
    refine AOps.call (fid := 15) (cap := []) (avs := [.str a]) (by kernel_rfl) rfl (by kernel_rfl) (by kernel_rfl) en_15 (by kernel_rfl) (ACalls.mono (lex_err a k ln cl hx _) ?_)
    rintro _ _ ⟨rfl, own8, hown8, rfl⟩
    refine AOps.runN hT (fun _ => false) 6 [0, 1, 5, 6] (fr' := ⟨[(0, .str a), (1, .str b), (5, .slice [] 0 own8), (6, .loc 0 0)], [[.int .i64 k, .int .i64 ln, .int .i64 cl]], [], [], 0⟩) (σ' := σ) (ob := True ∧ True ∧ True ∧ True ∧ True ∧ True ∧ True) (by kernel_rfl) ⟨trivial, trivial, trivial, trivial, trivial, trivial, trivial⟩ ?_
    refine AOps.nil ?_
    refine ACode.seq ?_
    refine ACode.region ?_
    refine AOps.runN hT (fun _ => false) 1 [0, 1, 5, 6, 31] (fr' := ⟨[(0, .str a), (1, .str b), (5, .slice [] 0 own8), (6, .loc 0 0), (31, .str b)], [[.int .i64 k, .int .i64 ln, .int .i64 cl]], [], [], 0⟩) (σ' := σ) (ob := True ∧ True) (by kernel_rfl) ⟨trivial, trivial⟩ ?_
    refine AOps.call (fid := 15) (cap := []) (avs := [.str b]) (by kernel_rfl) rfl (by kernel_rfl) (by kernel_rfl) en_15 (by kernel_rfl) (ACalls.mono (lex_err b k2 ln2 cl2 hy _) ?_)
    rintro _ _ ⟨rfl, own10, hown10, rfl⟩
    refine AOps.runN hT (fun _ => false) 6 [0, 1, 5, 6, 7, 8] (fr' := ⟨[(0, .str a), (1, .str b), (5, .slice [] 0 own8), (6, .loc 0 0), (7, .slice [] 0 own10), (8, .loc 1 0)], [[.int .i64 k, .int .i64 ln, .int .i64 cl], [.int .i64 k2, .int .i64 ln2, .int .i64 cl2]], [], [], 0⟩) (σ' := σ) (ob := True ∧ True ∧ True ∧ True ∧ True ∧ True ∧ True) (by kernel_rfl) ⟨trivial, trivial, trivial, trivial, trivial, trivial, trivial⟩ ?_
    refine AOps.nil ?_
    refine ACode.seq ?_
    refine ACode.region ?_
    refine AOps.runN hT (fun _ => false) 4 [5, 6, 7, 8, 39] (fr' := ⟨[(5, .slice [] 0 own8), (6, .loc 0 0), (7, .slice [] 0 own10), (8, .loc 1 0), (39, .str ((a ++ [10]) ++ b))], [[.int .i64 k, .int .i64 ln, .int .i64 cl], [.int .i64 k2, .int .i64 ln2, .int .i64 cl2]], [], [], 0⟩) (σ' := σ) (ob := True ∧ ((((a : List UInt8).length + ([10] : List UInt8).length : Nat) : Int) ≤ 9223372036854775807) ∧ True ∧ (((((a ++ [10]) : List UInt8).length + (b : List UInt8).length : Nat) : Int) ≤ 9223372036854775807) ∧ True) (by kernel_rfl) ⟨trivial, (by first | omega | (simp only [List.length_append, List.length_cons, List.length_nil]; omega)), trivial, (by first | omega | (simp only [List.length_append, List.length_cons, List.length_nil]; omega)), trivial⟩ ?_
    refine AOps.call (fid := 15) (cap := []) (avs := [.str ((a ++ [10]) ++ b)]) (by kernel_rfl) rfl (by kernel_rfl) (by kernel_rfl) en_15 (by kernel_rfl) (ACalls.mono (lex_err ((a ++ [10]) ++ b) k ln cl hz _) ?_)
    rintro _ _ ⟨rfl, own12, hown12, rfl⟩
    refine AOps.runN hT (fun _ => false) 6 [5, 6, 7, 8, 9, 10] (fr' := ⟨[(5, .slice [] 0 own8), (6, .loc 0 0), (7, .slice [] 0 own10), (8, .loc 1 0), (9, .slice [] 0 own12), (10, .loc 2 0)], [[.int .i64 k, .int .i64 ln, .int .i64 cl], [.int .i64 k2, .int .i64 ln2, .int .i64 cl2], [.int .i64 k, .int .i64 ln, .int .i64 cl]], [], [], 0⟩) (σ' := σ) (ob := True ∧ True ∧ True ∧ True ∧ True ∧ True ∧ True) (by kernel_rfl) ⟨trivial, trivial, trivial, trivial, trivial, trivial, trivial⟩ ?_
    refine AOps.nil ?_
    refine ACode.seq ?_
    refine ACode.seq ?_
    refine ACode.region ?_
    refine AOps.runN hT (fun _ => false) 4 [5, 6, 7, 8, 9, 10, 46] (fr' := ⟨[(5, .slice [] 0 own8), (6, .loc 0 0), (7, .slice [] 0 own10), (8, .loc 1 0), (9, .slice [] 0 own12), (10, .loc 2 0), (46, .bool (!((k == 0) && ((ln == 0) && (cl == 0)))))], [[.int .i64 k, .int .i64 ln, .int .i64 cl], [.int .i64 k2, .int .i64 ln2, .int .i64 cl2], [.int .i64 k, .int .i64 ln, .int .i64 cl]], [], [], 0⟩) (σ' := σ) (ob := True ∧ True ∧ True ∧ True ∧ True) (by kernel_rfl) ⟨trivial, trivial, trivial, trivial, trivial⟩ ?_
    cases h3 : (!((k == 0) && ((ln == 0) && (cl == 0))))
    · -- !((k == 0) && ((ln == 0) && (cl == 0))) is false
      have h3k := h3; simp only [Bool.and_eq_true, Bool.or_eq_true, Bool.and_eq_false_iff, Bool.or_eq_false_iff, decide_eq_true_eq, decide_eq_false_iff_not, beq_iff_eq, bne_iff_ne, ne_eq, Bool.not_eq_true', Bool.not_eq_false', beq_eq_false_iff_ne, bne_eq_false_iff_eq] at h3k
      exfalso
      simp_all
    · -- !((k == 0) && ((ln == 0) && (cl == 0))) is true
      have h3k := h3; simp only [Bool.and_eq_true, Bool.or_eq_true, Bool.and_eq_false_iff, Bool.or_eq_false_iff, decide_eq_true_eq, decide_eq_false_iff_not, beq_iff_eq, bne_iff_ne, ne_eq, Bool.not_eq_true', Bool.not_eq_false', beq_eq_false_iff_ne, bne_eq_false_iff_eq] at h3k
      refine AOps.runN hT (fun _ => false) 4 [5, 6, 7, 9, 10, 50] (fr' := ⟨[(5, .slice [] 0 own8), (6, .loc 0 0), (7, .slice [] 0 own10), (9, .slice [] 0 own12), (10, .loc 2 0), (50, .bool true)], [[.int .i64 k, .int .i64 ln, .int .i64 cl], [.int .i64 k2, .int .i64 ln2, .int .i64 cl2], [.int .i64 k, .int .i64 ln, .int .i64 cl]], [], [], 0⟩) (σ' := σ) (ob := True ∧ True) (by kernel_rfl) ⟨trivial, trivial⟩ ?_
      refine AOps.nil ?_
      refine ACode.cond (t := true) (by kernel_rfl) (fun _ => ?_) (fun h => Bool.noConfusion h)
      refine ACode.seq ?_
      refine ACode.meet ⟨[(4, .bool (((k == 0) && ((ln == 0) && (cl == 0))) || ((k == k) && ((ln == ln) && (cl == cl)))))], [[.int .i64 k, .int .i64 ln, .int .i64 cl], [.int .i64 k2, .int .i64 ln2, .int .i64 cl2], [.int .i64 k, .int .i64 ln, .int .i64 cl]], [], [], 0⟩ σ (ACode.region ?_) ?_
      ·
        refine AOps.runN hT (fun _ => false) 4 [6, 9, 10, 54] (fr' := ⟨[(6, .loc 0 0), (9, .slice [] 0 own12), (10, .loc 2 0), (54, .bool (!((k == 0) && ((ln == 0) && (cl == 0)))))], [[.int .i64 k, .int .i64 ln, .int .i64 cl], [.int .i64 k2, .int .i64 ln2, .int .i64 cl2], [.int .i64 k, .int .i64 ln, .int .i64 cl]], [], [], 0⟩) (σ' := σ) (ob := True ∧ True ∧ True ∧ True ∧ True) (by kernel_rfl) ⟨trivial, trivial, trivial, trivial, trivial⟩ ?_
        cases h4 : (!((k == 0) && ((ln == 0) && (cl == 0))))
        · -- !((k == 0) && ((ln == 0) && (cl == 0))) is false
          have h4k := h4; simp only [Bool.and_eq_true, Bool.or_eq_true, Bool.and_eq_false_iff, Bool.or_eq_false_iff, decide_eq_true_eq, decide_eq_false_iff_not, beq_iff_eq, bne_iff_ne, ne_eq, Bool.not_eq_true', Bool.not_eq_false', beq_eq_false_iff_ne, bne_eq_false_iff_eq] at h4k
          exfalso
          simp_all
        · -- !((k == 0) && ((ln == 0) && (cl == 0))) is true
          have h4k := h4; simp only [Bool.and_eq_true, Bool.or_eq_true, Bool.and_eq_false_iff, Bool.or_eq_false_iff, decide_eq_true_eq, decide_eq_false_iff_not, beq_iff_eq, bne_iff_ne, ne_eq, Bool.not_eq_true', Bool.not_eq_false', beq_eq_false_iff_ne, bne_eq_false_iff_eq] at h4k
          refine AOps.runN hT (fun _ => false) 9 [6, 10, 59, 63] (fr' := ⟨[(6, .loc 0 0), (10, .loc 2 0), (59, .bool true), (63, .bool ((k == 0) && ((ln == 0) && (cl == 0))))], [[.int .i64 k, .int .i64 ln, .int .i64 cl], [.int .i64 k2, .int .i64 ln2, .int .i64 cl2], [.int .i64 k, .int .i64 ln, .int .i64 cl]], [], [], 0⟩) (σ' := σ) (ob := True ∧ True ∧ True ∧ True ∧ True ∧ True ∧ True ∧ True ∧ True ∧ True) (by kernel_rfl) ⟨trivial, trivial, trivial, trivial, trivial, trivial, trivial, trivial, trivial, trivial⟩ ?_
          cases h5 : ((k == 0) && ((ln == 0) && (cl == 0)))
          · -- (k == 0) && ((ln == 0) && (cl == 0)) is false
            have h5k := h5; simp only [Bool.and_eq_true, Bool.or_eq_true, Bool.and_eq_false_iff, Bool.or_eq_false_iff, decide_eq_true_eq, decide_eq_false_iff_not, beq_iff_eq, bne_iff_ne, ne_eq, Bool.not_eq_true', Bool.not_eq_false', beq_eq_false_iff_ne, bne_eq_false_iff_eq] at h5k
            refine AOps.runN hT (fun _ => false) 6 [4] (fr' := ⟨[(4, .bool ((k == k) && ((ln == ln) && (cl == cl))))], [[.int .i64 k, .int .i64 ln, .int .i64 cl], [.int .i64 k2, .int .i64 ln2, .int .i64 cl2], [.int .i64 k, .int .i64 ln, .int .i64 cl]], [], [], 0⟩) (σ' := σ) (ob := True ∧ True ∧ True ∧ True ∧ True ∧ True ∧ True) (by kernel_rfl) ⟨trivial, trivial, trivial, trivial, trivial, trivial, trivial⟩ ?_
            refine AOps.weak [4] (AOps.nil ⟨rfl, rfl⟩)
          · -- (k == 0) && ((ln == 0) && (cl == 0)) is true
            have h5k := h5; simp only [Bool.and_eq_true, Bool.or_eq_true, Bool.and_eq_false_iff, Bool.or_eq_false_iff, decide_eq_true_eq, decide_eq_false_iff_not, beq_iff_eq, bne_iff_ne, ne_eq, Bool.not_eq_true', Bool.not_eq_false', beq_eq_false_iff_ne, bne_eq_false_iff_eq] at h5k
            refine AOps.runN hT (fun _ => false) 6 [4] (fr' := ⟨[(4, .bool true)], [[.int .i64 k, .int .i64 ln, .int .i64 cl], [.int .i64 k2, .int .i64 ln2, .int .i64 cl2], [.int .i64 k, .int .i64 ln, .int .i64 cl]], [], [], 0⟩) (σ' := σ) (ob := True ∧ True ∧ True ∧ True) (by kernel_rfl) ⟨trivial, trivial, trivial, trivial⟩ ?_
            refine AOps.weak [4] (AOps.nil ⟨rfl, rfl⟩)
      -- on
      refine ACode.ret ?_
      refine retQ.ret (.bool (((k == 0) && ((ln == 0) && (cl == 0))) || ((k == k) && ((ln == ln) && (cl == cl))))) (by kernel_rfl) ?_
      refine ⟨rfl, ?_⟩
      simp_all
theorem lexJoins_e3 (a b : List UInt8) (x : List Tok) (k ln cl k2 ln2 cl2 : Int) (σ : St) (hk : k ≠ 0) (hk2 : k2 ≠ 0) (hx : lexS a = (x, 0, 0, 0)) (hy : lexS b = ([], k2, ln2, cl2)) (hz : lexS ((a ++ [10]) ++ b) = ([], k, ln, cl)) : ACalls Tryd.prog 6 [.str a, .str b] σ (fun e s => σ = s ∧ e = .ret (.bool true)) := by
  refine ACalls.enter hT Tryd.func6 rfl (by kernel_rfl) ?_
  refine ACode.seq ?_
  refine ACode.run hT (fun _ => false) [0, 1] (fr' := ⟨[(0, .str a), (1, .str b)], [], [], [], 0⟩) (σ' := σ) (ob := True ∧ True) (by kernel_rfl) ⟨trivial, trivial⟩ ?_
  refine ACode.seq ?_
  refine ACode.seq ?_
  refine ACode.region ?_
  refine AOps.call (fid := 10) (cap := []) (avs := []) (by kernel_rfl) rfl (by kernel_rfl) (by kernel_rfl) en_10 (by kernel_rfl) (ACalls.mono (alive_walk _) ?_)
  rintro _ _ ⟨rfl, rfl⟩
  refine AOps.runN hT (fun _ => false) 1 [0, 1, 16] (fr' := ⟨[(0, .str a), (1, .str b), (16, .bool false)], [], [], [], 0⟩) (σ' := σ) (ob := True ∧ True) (by kernel_rfl) ⟨trivial, trivial⟩ ?_
  refine AOps.nil ?_
  refine ACode.cond (t := false) (by kernel_rfl) (fun h => Bool.noConfusion h) (fun _ => ?_)
  refine ACode.skip ?_
  refine ACode.seq ?_
  refine ACode.seq ?_
  refine ACode.meet ⟨[(0, .str a), (1, .str b), (24, .bool ((decide ((((a) : List UInt8).length : Int) > 4096)) || (decide ((((b) : List UInt8).length : Int) ≥ 4096))))], [], [], [], 0⟩ σ (ACode.region ?_) ?_
  ·
    refine AOps.runN hT (fun _ => false) 4 [0, 1, 20] (fr' := ⟨[(0, .str a), (1, .str b), (20, .bool (decide ((((a) : List UInt8).length : Int) > 4096)))], [], [], [], 0⟩) (σ' := σ) (ob := True ∧ True ∧ True ∧ True ∧ True) (by kernel_rfl) ⟨trivial, trivial, trivial, trivial, trivial⟩ ?_
    cases h1 : (decide ((((a) : List UInt8).length : Int) > 4096))
    · -- decide ((((a) : List UInt8).length : Int) > 4096) is false
      have h1k := of_decide_eq_false h1
      refine AOps.runN hT (fun _ => false) 4 [0, 1, 24] (fr' := ⟨[(0, .str a), (1, .str b), (24, .bool (decide ((((b) : List UInt8).length : Int) ≥ 4096)))], [], [], [], 0⟩) (σ' := σ) (ob := True ∧ True ∧ True ∧ True ∧ True) (by kernel_rfl) ⟨trivial, trivial, trivial, trivial, trivial⟩ ?_
      refine AOps.weak [0, 1, 24] (AOps.nil ⟨rfl, rfl⟩)
    · -- decide ((((a) : List UInt8).length : Int) > 4096) is true
      have h1k := of_decide_eq_true h1
      refine AOps.runN hT (fun _ => false) 4 [0, 1, 24] (fr' := ⟨[(0, .str a), (1, .str b), (24, .bool true)], [], [], [], 0⟩) (σ' := σ) (ob := True ∧ True) (by kernel_rfl) ⟨trivial, trivial⟩ ?_
      refine AOps.weak [0, 1, 24] (AOps.nil ⟨rfl, rfl⟩)
  -- on
  refine ACode.cond (t := (decide ((((a) : List UInt8).length : Int) > 4096)) || (decide ((((b) : List UInt8).length : Int) ≥ 4096))) (by kernel_rfl) (fun h2 => ?_) (fun h2 => ?_)
  · -- true
    have h2k := h2; simp only [Bool.and_eq_true, Bool.or_eq_true, Bool.and_eq_false_iff, Bool.or_eq_false_iff, decide_eq_true_eq, decide_eq_false_iff_not, beq_iff_eq, bne_iff_ne, ne_eq, Bool.not_eq_true', Bool.not_eq_false', beq_eq_false_iff_ne, bne_eq_false_iff_eq] at h2k
    refine ACode.seq ?_
    refine ACode.run hT (fun _ => false) [4] (fr' := ⟨[(4, .bool true)], [], [], [], 0⟩) (σ' := σ) (ob := True ∧ True) (by kernel_rfl) ⟨trivial, trivial⟩ ?_
    refine ACode.ret ?_
    refine retQ.ret (.bool true) (by kernel_rfl) ?_
    exact ⟨rfl, rfl⟩
  · -- false
    have h2k := h2; simp only [Bool.and_eq_true, Bool.or_eq_true, Bool.and_eq_false_iff, Bool.or_eq_false_iff, decide_eq_true_eq, decide_eq_false_iff_not, beq_iff_eq, bne_iff_ne, ne_eq, Bool.not_eq_true', Bool.not_eq_false', beq_eq_false_iff_ne, bne_eq_false_iff_eq] at h2k
    refine ACode.skip ?_
    refine ACode.seq ?_
    refine ACode.region ?_
    refine AOps.runN hT (fun _ => false) 1 [0, 1, 26] (fr' := ⟨[(0, .str a), (1, .str b), (26, .str a)], [], [], [], 0⟩) (σ' := σ) (ob := True ∧ True) (by kernel_rfl) ⟨trivial, trivial⟩ ?_
    refine AOps.call (fid := 15) (cap := []) (avs := [.str a]) (by kernel_rfl) rfl (by kernel_rfl) (by kernel_rfl) en_15 (by kernel_rfl) (ACalls.mono (lex_ok a x hx _) ?_)
    rintro _ _ ⟨rfl, own14, hown14, rfl⟩
    refine AOps.runN hT (fun _ => false) 6 [0, 1, 5, 6] (fr' := ⟨[(0, .str a), (1, .str b), (5, .slice (toksAV x) x.length own14), (6, .loc 0 0)], [[.int .i64 0, .int .i64 0, .int .i64 0]], [], [], 0⟩) (σ' := σ) (ob := True ∧ True ∧ True ∧ True ∧ True ∧ True ∧ True) (by kernel_rfl) ⟨trivial, trivial, trivial, trivial, trivial, trivial, trivial⟩ ?_
    refine AOps.nil ?_
    refine ACode.seq ?_
    refine ACode.region ?_
    refine AOps.runN hT (fun _ => false) 1 [0, 1, 5, 6, 31] (fr' := ⟨[(0, .str a), (1, .str b), (5, .slice (toksAV x) x.length own14), (6, .loc 0 0), (31, .str b)], [[.int .i64 0, .int .i64 0, .int .i64 0]], [], [], 0⟩) (σ' := σ) (ob := True ∧ True) (by kernel_rfl) ⟨trivial, trivial⟩ ?_
    refine AOps.call (fid := 15) (cap := []) (avs := [.str b]) (by kernel_rfl) rfl (by kernel_rfl) (by kernel_rfl) en_15 (by kernel_rfl) (ACalls.mono (lex_err b k2 ln2 cl2 hy _) ?_)
    rintro _ _ ⟨rfl, own16, hown16, rfl⟩
    refine AOps.runN hT (fun _ => false) 6 [0, 1, 5, 6, 7, 8] (fr' := ⟨[(0, .str a), (1, .str b), (5, .slice (toksAV x) x.length own14), (6, .loc 0 0), (7, .slice [] 0 own16), (8, .loc 1 0)], [[.int .i64 0, .int .i64 0, .int .i64 0], [.int .i64 k2, .int .i64 ln2, .int .i64 cl2]], [], [], 0⟩) (σ' := σ) (ob := True ∧ True ∧ True ∧ True ∧ True ∧ True ∧ True) (by kernel_rfl) ⟨trivial, trivial, trivial, trivial, trivial, trivial, trivial⟩ ?_
    refine AOps.nil ?_
    refine ACode.seq ?_
    refine ACode.region ?_
    refine AOps.runN hT (fun _ => false) 4 [5, 6, 7, 8, 39] (fr' := ⟨[(5, .slice (toksAV x) x.length own14), (6, .loc 0 0), (7, .slice [] 0 own16), (8, .loc 1 0), (39, .str ((a ++ [10]) ++ b))], [[.int .i64 0, .int .i64 0, .int .i64 0], [.int .i64 k2, .int .i64 ln2, .int .i64 cl2]], [], [], 0⟩) (σ' := σ) (ob := True ∧ ((((a : List UInt8).length + ([10] : List UInt8).length : Nat) : Int) ≤ 9223372036854775807) ∧ True ∧ (((((a ++ [10]) : List UInt8).length + (b : List UInt8).length : Nat) : Int) ≤ 9223372036854775807) ∧ True) (by kernel_rfl) ⟨trivial, (by first | omega | (simp only [List.length_append, List.length_cons, List.length_nil]; omega)), trivial, (by first | omega | (simp only [List.length_append, List.length_cons, List.length_nil]; omega)), trivial⟩ ?_
    refine AOps.call (fid := 15) (cap := []) (avs := [.str ((a ++ [10]) ++ b)]) (by kernel_rfl) rfl (by kernel_rfl) (by kernel_rfl) en_15 (by kernel_rfl) (ACalls.mono (lex_err ((a ++ [10]) ++ b) k ln cl hz _) ?_)
    rintro _ _ ⟨rfl, own18, hown18, rfl⟩
    refine AOps.runN hT (fun _ => false) 6 [5, 6, 7, 8, 9, 10] (fr' := ⟨[(5, .slice (toksAV x) x.length own14), (6, .loc 0 0), (7, .slice [] 0 own16), (8, .loc 1 0), (9, .slice [] 0 own18), (10, .loc 2 0)], [[.int .i64 0, .int .i64 0, .int .i64 0], [.int .i64 k2, .int .i64 ln2, .int .i64 cl2], [.int .i64 k, .int .i64 ln, .int .i64 cl]], [], [], 0⟩) (σ' := σ) (ob := True ∧ True ∧ True ∧ True ∧ True ∧ True ∧ True) (by kernel_rfl) ⟨trivial, trivial, trivial, trivial, trivial, trivial, trivial⟩ ?_
    refine AOps.nil ?_
    refine ACode.seq ?_
    refine ACode.seq ?_
    refine ACode.region ?_
    refine AOps.runN hT (fun _ => false) 8 [5, 6, 7, 9, 10, 50] (fr' := ⟨[(5, .slice (toksAV x) x.length own14), (6, .loc 0 0), (7, .slice [] 0 own16), (9, .slice [] 0 own18), (10, .loc 2 0), (50, .bool (!((k2 == 0) && ((ln2 == 0) && (cl2 == 0)))))], [[.int .i64 0, .int .i64 0, .int .i64 0], [.int .i64 k2, .int .i64 ln2, .int .i64 cl2], [.int .i64 k, .int .i64 ln, .int .i64 cl]], [], [], 0⟩) (σ' := σ) (ob := True ∧ True ∧ True ∧ True ∧ True ∧ True ∧ True ∧ True ∧ True) (by kernel_rfl) ⟨trivial, trivial, trivial, trivial, trivial, trivial, trivial, trivial, trivial⟩ ?_
    refine AOps.nil ?_
    refine ACode.cond (t := !((k2 == 0) && ((ln2 == 0) && (cl2 == 0)))) (by kernel_rfl) (fun h3 => ?_) (fun h3 => ?_)
    · -- true
      have h3k := h3; simp only [Bool.and_eq_true, Bool.or_eq_true, Bool.and_eq_false_iff, Bool.or_eq_false_iff, decide_eq_true_eq, decide_eq_false_iff_not, beq_iff_eq, bne_iff_ne, ne_eq, Bool.not_eq_true', Bool.not_eq_false', beq_eq_false_iff_ne, bne_eq_false_iff_eq] at h3k
      refine ACode.seq ?_
      refine ACode.region ?_
      refine AOps.runN hT (fun _ => false) 4 [6, 9, 10, 54] (fr' := ⟨[(6, .loc 0 0), (9, .slice [] 0 own18), (10, .loc 2 0), (54, .bool (!((k == 0) && ((ln == 0) && (cl == 0)))))], [[.int .i64 0, .int .i64 0, .int .i64 0], [.int .i64 k2, .int .i64 ln2, .int .i64 cl2], [.int .i64 k, .int .i64 ln, .int .i64 cl]], [], [], 0⟩) (σ' := σ) (ob := True ∧ True ∧ True ∧ True ∧ True) (by kernel_rfl) ⟨trivial, trivial, trivial, trivial, trivial⟩ ?_
      cases h4 : (!((k == 0) && ((ln == 0) && (cl == 0))))
      · -- !((k == 0) && ((ln == 0) && (cl == 0))) is false
        have h4k := h4; simp only [Bool.and_eq_true, Bool.or_eq_true, Bool.and_eq_false_iff, Bool.or_eq_false_iff, decide_eq_true_eq, decide_eq_false_iff_not, beq_iff_eq, bne_iff_ne, ne_eq, Bool.not_eq_true', Bool.not_eq_false', beq_eq_false_iff_ne, bne_eq_false_iff_eq] at h4k
        exfalso
        simp_all
      · -- !((k == 0) && ((ln == 0) && (cl == 0))) is true
        have h4k := h4; simp only [Bool.and_eq_true, Bool.or_eq_true, Bool.and_eq_false_iff, Bool.or_eq_false_iff, decide_eq_true_eq, decide_eq_false_iff_not, beq_iff_eq, bne_iff_ne, ne_eq, Bool.not_eq_true', Bool.not_eq_false', beq_eq_false_iff_ne, bne_eq_false_iff_eq] at h4k
        refine AOps.runN hT (fun _ => false) 15 [4] (fr' := ⟨[(4, .bool true)], [[.int .i64 0, .int .i64 0, .int .i64 0], [.int .i64 k2, .int .i64 ln2, .int .i64 cl2], [.int .i64 k, .int .i64 ln, .int .i64 cl]], [], [], 0⟩) (σ' := σ) (ob := True ∧ True ∧ True ∧ True ∧ True ∧ True ∧ True ∧ True ∧ True ∧ True ∧ True ∧ True ∧ True) (by kernel_rfl) ⟨trivial, trivial, trivial, trivial, trivial, trivial, trivial, trivial, trivial, trivial, trivial, trivial, trivial⟩ ?_
        refine AOps.nil ?_
        refine ACode.ret ?_
        refine retQ.ret (.bool true) (by kernel_rfl) ?_
        exact ⟨rfl, rfl⟩
    · -- false
      have h3k := h3; simp only [Bool.and_eq_true, Bool.or_eq_true, Bool.and_eq_false_iff, Bool.or_eq_false_iff, decide_eq_true_eq, decide_eq_false_iff_not, beq_iff_eq, bne_iff_ne, ne_eq, Bool.not_eq_true', Bool.not_eq_false', beq_eq_false_iff_ne, bne_eq_false_iff_eq] at h3k
      exfalso
      simp_all
theorem zrow (z : List Tok) (w : Tok) (i : Nat) (h : i < z.length) (e : z.getD i default = w) : ((toksAV z).drop (i * 5)).take 5 = tokAV w := by rw [toksAV_at z i h, e]

theorem lexJoins_ok (a b : List UInt8) (x y z : List Tok) (σ : St) (ha : a.length ≤ 4096) (hb : b.length < 4096) (hx : lexS a = (x, 0, 0, 0)) (hy : lexS b = (y, 0, 0, 0)) (hz : lexS ((a ++ [10]) ++ b) = (z, 0, 0, 0)) (hx0 : 0 < x.length) (hxn : x.length ≤ 4097) (hyn : y.length ≤ 4097) (hzn : z.length = x.length - 1 + y.length) (hj : ∀ i, i < z.length → z.getD i default = joinT x y i) (hxl : ∀ i, 0 ≤ (x.getD i default).line ∧ (x.getD i default).line ≤ 8193) (hyl : ∀ i, 0 ≤ (y.getD i default).line ∧ (y.getD i default).line ≤ 8193) : ACalls Tryd.prog 6 [.str a, .str b] σ (fun e s => σ = s ∧ e = .ret (.bool true)) := by
  refine ACalls.enter hT Tryd.func6 rfl (by kernel_rfl) ?_
  refine ACode.seq ?_
  refine ACode.run hT (fun _ => false) [0, 1] (fr' := ⟨[(0, .str a), (1, .str b)], [], [], [], 0⟩) (σ' := σ) (ob := True ∧ True) (by kernel_rfl) ⟨trivial, trivial⟩ ?_
  refine ACode.seq ?_
  refine ACode.seq ?_
  refine ACode.region ?_
  refine AOps.call (fid := 10) (cap := []) (avs := []) (by kernel_rfl) rfl (by kernel_rfl) (by kernel_rfl) en_10 (by kernel_rfl) (ACalls.mono (alive_walk _) ?_)
  rintro _ _ ⟨rfl, rfl⟩
  refine AOps.runN hT (fun _ => false) 1 [0, 1, 16] (fr' := ⟨[(0, .str a), (1, .str b), (16, .bool false)], [], [], [], 0⟩) (σ' := σ) (ob := True ∧ True) (by kernel_rfl) ⟨trivial, trivial⟩ ?_
  refine AOps.nil ?_
  refine ACode.cond (t := false) (by kernel_rfl) (fun h => Bool.noConfusion h) (fun _ => ?_)
  refine ACode.skip ?_
  refine ACode.seq ?_
  refine ACode.seq ?_
  refine ACode.meet ⟨[(0, .str a), (1, .str b), (24, .bool ((decide ((((a) : List UInt8).length : Int) > 4096)) || (decide ((((b) : List UInt8).length : Int) ≥ 4096))))], [], [], [], 0⟩ σ (ACode.region ?_) ?_
  ·
    refine AOps.runN hT (fun _ => false) 4 [0, 1, 20] (fr' := ⟨[(0, .str a), (1, .str b), (20, .bool (decide ((((a) : List UInt8).length : Int) > 4096)))], [], [], [], 0⟩) (σ' := σ) (ob := True ∧ True ∧ True ∧ True ∧ True) (by kernel_rfl) ⟨trivial, trivial, trivial, trivial, trivial⟩ ?_
    cases h1 : (decide ((((a) : List UInt8).length : Int) > 4096))
    · -- decide ((((a) : List UInt8).length : Int) > 4096) is false
      have h1k := of_decide_eq_false h1
      refine AOps.runN hT (fun _ => false) 4 [0, 1, 24] (fr' := ⟨[(0, .str a), (1, .str b), (24, .bool (decide ((((b) : List UInt8).length : Int) ≥ 4096)))], [], [], [], 0⟩) (σ' := σ) (ob := True ∧ True ∧ True ∧ True ∧ True) (by kernel_rfl) ⟨trivial, trivial, trivial, trivial, trivial⟩ ?_
      refine AOps.weak [0, 1, 24] (AOps.nil ⟨rfl, rfl⟩)
    · -- decide ((((a) : List UInt8).length : Int) > 4096) is true
      have h1k := of_decide_eq_true h1
      refine AOps.runN hT (fun _ => false) 4 [0, 1, 24] (fr' := ⟨[(0, .str a), (1, .str b), (24, .bool true)], [], [], [], 0⟩) (σ' := σ) (ob := True ∧ True) (by kernel_rfl) ⟨trivial, trivial⟩ ?_
      refine AOps.weak [0, 1, 24] (AOps.nil ⟨rfl, rfl⟩)
  -- on
  refine ACode.cond (t := (decide ((((a) : List UInt8).length : Int) > 4096)) || (decide ((((b) : List UInt8).length : Int) ≥ 4096))) (by kernel_rfl) (fun h2 => ?_) (fun h2 => ?_)
  · -- true
    have h2k := h2; simp only [Bool.and_eq_true, Bool.or_eq_true, Bool.and_eq_false_iff, Bool.or_eq_false_iff, decide_eq_true_eq, decide_eq_false_iff_not, beq_iff_eq, bne_iff_ne, ne_eq, Bool.not_eq_true', Bool.not_eq_false', beq_eq_false_iff_ne, bne_eq_false_iff_eq] at h2k
    refine ACode.seq ?_
    refine ACode.run hT (fun _ => false) [4] (fr' := ⟨[(4, .bool true)], [], [], [], 0⟩) (σ' := σ) (ob := True ∧ True) (by kernel_rfl) ⟨trivial, trivial⟩ ?_
    refine ACode.ret ?_
    refine retQ.ret (.bool true) (by kernel_rfl) ?_
    exact ⟨rfl, rfl⟩
  · -- false
    have h2k := h2; simp only [Bool.and_eq_true, Bool.or_eq_true, Bool.and_eq_false_iff, Bool.or_eq_false_iff, decide_eq_true_eq, decide_eq_false_iff_not, beq_iff_eq, bne_iff_ne, ne_eq, Bool.not_eq_true', Bool.not_eq_false', beq_eq_false_iff_ne, bne_eq_false_iff_eq] at h2k
    refine ACode.skip ?_
    refine ACode.seq ?_
    refine ACode.region ?_
    refine AOps.runN hT (fun _ => false) 1 [0, 1, 26] (fr' := ⟨[(0, .str a), (1, .str b), (26, .str a)], [], [], [], 0⟩) (σ' := σ) (ob := True ∧ True) (by kernel_rfl) ⟨trivial, trivial⟩ ?_
    refine AOps.call (fid := 15) (cap := []) (avs := [.str a]) (by kernel_rfl) rfl (by kernel_rfl) (by kernel_rfl) en_15 (by kernel_rfl) (ACalls.mono (lex_ok a x hx _) ?_)
    rintro _ _ ⟨rfl, own20, hown20, rfl⟩
    refine AOps.runN hT (fun _ => false) 6 [0, 1, 5, 6] (fr' := ⟨[(0, .str a), (1, .str b), (5, .slice (toksAV x) x.length own20), (6, .loc 0 0)], [[.int .i64 0, .int .i64 0, .int .i64 0]], [], [], 0⟩) (σ' := σ) (ob := True ∧ True ∧ True ∧ True ∧ True ∧ True ∧ True) (by kernel_rfl) ⟨trivial, trivial, trivial, trivial, trivial, trivial, trivial⟩ ?_
    refine AOps.nil ?_
    refine ACode.seq ?_
    refine ACode.region ?_
    refine AOps.runN hT (fun _ => false) 1 [0, 1, 5, 6, 31] (fr' := ⟨[(0, .str a), (1, .str b), (5, .slice (toksAV x) x.length own20), (6, .loc 0 0), (31, .str b)], [[.int .i64 0, .int .i64 0, .int .i64 0]], [], [], 0⟩) (σ' := σ) (ob := True ∧ True) (by kernel_rfl) ⟨trivial, trivial⟩ ?_
    refine AOps.call (fid := 15) (cap := []) (avs := [.str b]) (by kernel_rfl) rfl (by kernel_rfl) (by kernel_rfl) en_15 (by kernel_rfl) (ACalls.mono (lex_ok b y hy _) ?_)
    rintro _ _ ⟨rfl, own22, hown22, rfl⟩
    refine AOps.runN hT (fun _ => false) 6 [0, 1, 5, 6, 7, 8] (fr' := ⟨[(0, .str a), (1, .str b), (5, .slice (toksAV x) x.length own20), (6, .loc 0 0), (7, .slice (toksAV y) y.length own22), (8, .loc 1 0)], [[.int .i64 0, .int .i64 0, .int .i64 0], [.int .i64 0, .int .i64 0, .int .i64 0]], [], [], 0⟩) (σ' := σ) (ob := True ∧ True ∧ True ∧ True ∧ True ∧ True ∧ True) (by kernel_rfl) ⟨trivial, trivial, trivial, trivial, trivial, trivial, trivial⟩ ?_
    refine AOps.nil ?_
    refine ACode.seq ?_
    refine ACode.region ?_
    refine AOps.runN hT (fun _ => false) 4 [5, 6, 7, 8, 39] (fr' := ⟨[(5, .slice (toksAV x) x.length own20), (6, .loc 0 0), (7, .slice (toksAV y) y.length own22), (8, .loc 1 0), (39, .str ((a ++ [10]) ++ b))], [[.int .i64 0, .int .i64 0, .int .i64 0], [.int .i64 0, .int .i64 0, .int .i64 0]], [], [], 0⟩) (σ' := σ) (ob := True ∧ ((((a : List UInt8).length + ([10] : List UInt8).length : Nat) : Int) ≤ 9223372036854775807) ∧ True ∧ (((((a ++ [10]) : List UInt8).length + (b : List UInt8).length : Nat) : Int) ≤ 9223372036854775807) ∧ True) (by kernel_rfl) ⟨trivial, (by first | omega | (simp only [List.length_append, List.length_cons, List.length_nil]; omega)), trivial, (by first | omega | (simp only [List.length_append, List.length_cons, List.length_nil]; omega)), trivial⟩ ?_
    refine AOps.call (fid := 15) (cap := []) (avs := [.str ((a ++ [10]) ++ b)]) (by kernel_rfl) rfl (by kernel_rfl) (by kernel_rfl) en_15 (by kernel_rfl) (ACalls.mono (lex_ok ((a ++ [10]) ++ b) z hz _) ?_)
    rintro _ _ ⟨rfl, own24, hown24, rfl⟩
    refine AOps.runN hT (fun _ => false) 6 [5, 6, 7, 8, 9, 10] (fr' := ⟨[(5, .slice (toksAV x) x.length own20), (6, .loc 0 0), (7, .slice (toksAV y) y.length own22), (8, .loc 1 0), (9, .slice (toksAV z) z.length own24), (10, .loc 2 0)], [[.int .i64 0, .int .i64 0, .int .i64 0], [.int .i64 0, .int .i64 0, .int .i64 0], [.int .i64 0, .int .i64 0, .int .i64 0]], [], [], 0⟩) (σ' := σ) (ob := True ∧ True ∧ True ∧ True ∧ True ∧ True ∧ True) (by kernel_rfl) ⟨trivial, trivial, trivial, trivial, trivial, trivial, trivial⟩ ?_
    refine AOps.nil ?_
    refine ACode.seq ?_
    refine ACode.seq ?_
    refine ACode.region ?_
    refine AOps.runN hT (fun _ => false) 8 [5, 6, 7, 9, 10, 50] (fr' := ⟨[(5, .slice (toksAV x) x.length own20), (6, .loc 0 0), (7, .slice (toksAV y) y.length own22), (9, .slice (toksAV z) z.length own24), (10, .loc 2 0), (50, .bool false)], [[.int .i64 0, .int .i64 0, .int .i64 0], [.int .i64 0, .int .i64 0, .int .i64 0], [.int .i64 0, .int .i64 0, .int .i64 0]], [], [], 0⟩) (σ' := σ) (ob := True ∧ True ∧ True ∧ True ∧ True ∧ True ∧ True ∧ True ∧ True) (by kernel_rfl) ⟨trivial, trivial, trivial, trivial, trivial, trivial, trivial, trivial, trivial⟩ ?_
    refine AOps.nil ?_
    refine ACode.cond (t := false) (by kernel_rfl) (fun h => Bool.noConfusion h) (fun _ => ?_)
    refine ACode.skip ?_
    refine ACode.seq ?_
    refine ACode.seq ?_
    refine ACode.region ?_
    refine AOps.runN hT (fun _ => false) 9 [5, 7, 9, 77] (fr' := ⟨[(5, .slice (toksAV x) x.length own20), (7, .slice (toksAV y) y.length own22), (9, .slice (toksAV z) z.length own24), (77, .bool (((x.length : Nat) : Int) == 0))], [[.int .i64 0, .int .i64 0, .int .i64 0], [.int .i64 0, .int .i64 0, .int .i64 0], [.int .i64 0, .int .i64 0, .int .i64 0]], [], [], 0⟩) (σ' := σ) (ob := True ∧ True ∧ True ∧ True ∧ True ∧ True ∧ True ∧ True ∧ True ∧ True) (by kernel_rfl) ⟨trivial, trivial, trivial, trivial, trivial, trivial, trivial, trivial, trivial, trivial⟩ ?_
    cases h3 : (((x.length : Nat) : Int) == 0)
    · -- ((x.length : Nat) : Int) == 0 is false
      have h3k := ne_of_beq_false h3
      refine AOps.runN hT (fun _ => false) 10 [5, 7, 9, 87] (fr' := ⟨[(5, .slice (toksAV x) x.length own20), (7, .slice (toksAV y) y.length own22), (9, .slice (toksAV z) z.length own24), (87, .bool (((z.length : Nat) : Int) != (IntKind.i64.wrap ((IntKind.i64.wrap (((x.length : Nat) : Int) - 1)) + ((y.length : Nat) : Int)))))], [[.int .i64 0, .int .i64 0, .int .i64 0], [.int .i64 0, .int .i64 0, .int .i64 0], [.int .i64 0, .int .i64 0, .int .i64 0]], [], [], 0⟩) (σ' := σ) (ob := True ∧ True ∧ True ∧ True ∧ True ∧ True ∧ True ∧ True ∧ True ∧ True ∧ True) (by kernel_rfl) ⟨trivial, trivial, trivial, trivial, trivial, trivial, trivial, trivial, trivial, trivial, trivial⟩ ?_
      rw [IntWalk.i64_in (((x.length : Nat) : Int) - 1) (by omega)]
      rw [IntWalk.i64_in ((((x.length : Nat) : Int) - 1) + ((y.length : Nat) : Int)) (by omega)]
      refine AOps.nil ?_
      refine ACode.cond (t := ((z.length : Nat) : Int) != ((((x.length : Nat) : Int) - 1) + ((y.length : Nat) : Int))) (by kernel_rfl) (fun h4 => ?_) (fun h4 => ?_)
      · -- true
        have h4k := h4; simp only [Bool.and_eq_true, Bool.or_eq_true, Bool.and_eq_false_iff, Bool.or_eq_false_iff, decide_eq_true_eq, decide_eq_false_iff_not, beq_iff_eq, bne_iff_ne, ne_eq, Bool.not_eq_true', Bool.not_eq_false', beq_eq_false_iff_ne, bne_eq_false_iff_eq] at h4k
        exfalso
        simp_all; try omega
      · -- false
        have h4k := h4; simp only [Bool.and_eq_true, Bool.or_eq_true, Bool.and_eq_false_iff, Bool.or_eq_false_iff, decide_eq_true_eq, decide_eq_false_iff_not, beq_iff_eq, bne_iff_ne, ne_eq, Bool.not_eq_true', Bool.not_eq_false', beq_eq_false_iff_ne, bne_eq_false_iff_eq] at h4k
        refine ACode.skip ?_
        refine ACode.seq ?_
        refine ACode.region ?_
        refine AOps.runN hT (fun _ => false) 5 [5, 7, 9, 92] (fr' := ⟨[(5, .slice (toksAV x) x.length own20), (7, .slice (toksAV y) y.length own22), (9, .slice (toksAV z) z.length own24), (92, .dat (((toksAV x : List AV).drop (((IntKind.i64.wrap (((x.length : Nat) : Int) - 1))).toNat * 5)).take 5))], [[.int .i64 0, .int .i64 0, .int .i64 0], [.int .i64 0, .int .i64 0, .int .i64 0], [.int .i64 0, .int .i64 0, .int .i64 0]], [], [], 0⟩) (σ' := σ) (ob := True ∧ True ∧ True ∧ True ∧ (0 ≤ ((IntKind.i64.wrap (((x.length : Nat) : Int) - 1)) : Int) ∧ ((IntKind.i64.wrap (((x.length : Nat) : Int) - 1)) : Int) < (x.length : Nat) ∧ ((IntKind.i64.wrap (((x.length : Nat) : Int) - 1))).toNat * 5 ≤ (toksAV x : List AV).length) ∧ True) (by kernel_rfl) ⟨trivial, trivial, trivial, trivial, (by rw [toksAV_length]; first | (rw [IntWalk.i64_in ((i : Int) - ((x.length : Nat) : Int)) (by omega), IntWalk.i64_in _ (by omega)]; omega) | (rw [IntWalk.i64_in _ (by omega)]; omega)), trivial⟩ ?_
        rw [IntWalk.i64_in (((x.length : Nat) : Int) - 1) (by omega)]
        rw [zrow x (x.getD (x.length - 1) default) (((((x.length : Nat) : Int) - 1)).toNat) (by omega) (by rw [show ((((x.length : Nat) : Int) - 1)).toNat = x.length - 1 by omega])]
        refine AOps.runN hT (fun _ => false) 3 [5, 7, 9, 11] (fr' := ⟨[(5, .slice (toksAV x) x.length own20), (7, .slice (toksAV y) y.length own22), (9, .slice (toksAV z) z.length own24), (11, .int .i64 ((x.getD (x.length - 1) default).line))], [[.int .i64 0, .int .i64 0, .int .i64 0], [.int .i64 0, .int .i64 0, .int .i64 0], [.int .i64 0, .int .i64 0, .int .i64 0]], [], [], 0⟩) (σ' := σ) (ob := (3 ≤ ([.int .i64 ((x.getD (x.length - 1) default).kind), .str ((x.getD (x.length - 1) default).text), .int .u64 ((x.getD (x.length - 1) default).n), .int .i64 ((x.getD (x.length - 1) default).line), .int .i64 ((x.getD (x.length - 1) default).col)] : List AV).length) ∧ True ∧ True ∧ True) (by kernel_rfl) ⟨(by first | omega | (simp; done) | (simp; omega)), trivial, trivial, trivial⟩ ?_
        refine AOps.nil ?_
        refine ACode.seq ?_
        refine ACode.seq ?_
        refine ACode.run hT (fun _ => false) [5, 7, 11, 95, 96, 97] (fr' := ⟨[(5, .slice (toksAV x) x.length own20), (7, .slice (toksAV y) y.length own22), (11, .int .i64 ((x.getD (x.length - 1) default).line)), (95, .slice (toksAV z) z.length own24), (96, .int .i64 ((z.length : Nat) : Int)), (97, .int .i64 0)], [[.int .i64 0, .int .i64 0, .int .i64 0], [.int .i64 0, .int .i64 0, .int .i64 0], [.int .i64 0, .int .i64 0, .int .i64 0]], [], [], 0⟩) (σ' := σ) (ob := True ∧ True ∧ True ∧ True) (by kernel_rfl) ⟨trivial, trivial, trivial, trivial⟩ ?_
        refine ACode.block ?_
        refine ACode.loop [5, 7, 11, 95, 96, 97] 3 0 (fun n0 fr σ' => ∃ (i : Nat), fr = ⟨[(5, .slice (toksAV x) x.length own20), (7, .slice (toksAV y) y.length own22), (11, .int .i64 ((x.getD (x.length - 1) default).line)), (95, .slice (toksAV z) z.length own24), (96, .int .i64 ((z.length : Nat) : Int)), (97, .int .i64 (i : Int))], [[.int .i64 0, .int .i64 0, .int .i64 0], [.int .i64 0, .int .i64 0, .int .i64 0], [.int .i64 0, .int .i64 0, .int .i64 0]], [], [], 0⟩ ∧ σ = σ' ∧ (i ≤ z.length) ∧ n0 = z.length - i) _ (by kernel_rfl) ⟨0, rfl, rfl, Nat.zero_le _, rfl⟩ ?_
        rintro n0 fr σ' ⟨i, rfl, rfl, hP, rfl⟩
        have hbx := hxl (x.length - 1)
        have hby := hyl (i + 1 - x.length)
        refine ACode.seq ?_
        refine ACode.run hT (fun _ => false) [5, 7, 11, 95, 96, 97, 98] (fr' := ⟨[(5, .slice (toksAV x) x.length own20), (7, .slice (toksAV y) y.length own22), (11, .int .i64 ((x.getD (x.length - 1) default).line)), (95, .slice (toksAV z) z.length own24), (96, .int .i64 ((z.length : Nat) : Int)), (97, .int .i64 (i : Int)), (98, .bool (decide ((i : Int) < ((z.length : Nat) : Int))))], [[.int .i64 0, .int .i64 0, .int .i64 0], [.int .i64 0, .int .i64 0, .int .i64 0], [.int .i64 0, .int .i64 0, .int .i64 0]], [], [], 0⟩) (σ' := σ) (ob := True ∧ True) (by kernel_rfl) ⟨trivial, trivial⟩ ?_
        refine ACode.seq ?_
        refine ACode.cond (t := decide ((i : Int) < ((z.length : Nat) : Int))) (by kernel_rfl) (fun h5 => ?_) (fun h5 => ?_)
        · -- true
          have h5k := of_decide_eq_true h5
          refine ACode.skip ?_
          refine ACode.seq ?_
          refine ACode.block ?_
          refine ACode.seq ?_
          refine ACode.region ?_
          refine AOps.runN hT (fun _ => false) 2 [5, 7, 11, 95, 96, 97, 99, 100] (fr' := ⟨[(5, .slice (toksAV x) x.length own20), (7, .slice (toksAV y) y.length own22), (11, .int .i64 ((x.getD (x.length - 1) default).line)), (95, .slice (toksAV z) z.length own24), (96, .int .i64 ((z.length : Nat) : Int)), (97, .int .i64 (i : Int)), (99, .int .i64 (i : Int)), (100, .dat (((toksAV z : List AV).drop (i * 5)).take 5))], [[.int .i64 0, .int .i64 0, .int .i64 0], [.int .i64 0, .int .i64 0, .int .i64 0], [.int .i64 0, .int .i64 0, .int .i64 0]], [], [], 0⟩) (σ' := σ) (ob := True ∧ (0 ≤ ((i : Int) : Int) ∧ ((i : Int) : Int) < (z.length : Nat) ∧ i * 5 ≤ (toksAV z : List AV).length) ∧ True) (by kernel_rfl) ⟨trivial, (by rw [toksAV_length]; omega), trivial⟩ ?_
          rw [zrow z (joinT x y i) i (by omega) (hj i (by omega))]
          refine AOps.runN hT (fun _ => false) 4 [5, 7, 11, 12, 13, 95, 96, 97] (fr' := ⟨[(5, .slice (toksAV x) x.length own20), (7, .slice (toksAV y) y.length own22), (11, .int .i64 ((x.getD (x.length - 1) default).line)), (12, .int .i64 (i : Int)), (13, .loc 3 0), (95, .slice (toksAV z) z.length own24), (96, .int .i64 ((z.length : Nat) : Int)), (97, .int .i64 (i : Int))], [[.int .i64 0, .int .i64 0, .int .i64 0], [.int .i64 0, .int .i64 0, .int .i64 0], [.int .i64 0, .int .i64 0, .int .i64 0], [.int .i64 ((joinT x y i).kind), .str ((joinT x y i).text), .int .u64 ((joinT x y i).n), .int .i64 ((joinT x y i).line), .int .i64 ((joinT x y i).col)]], [], [], 0⟩) (σ' := σ) (ob := (5 ≤ ([.int .i64 ((joinT x y i).kind), .str ((joinT x y i).text), .int .u64 ((joinT x y i).n), .int .i64 ((joinT x y i).line), .int .i64 ((joinT x y i).col)] : List AV).length) ∧ True ∧ True ∧ True ∧ True) (by kernel_rfl) ⟨(by first | omega | (simp; done) | (simp; omega)), trivial, trivial, trivial, trivial⟩ ?_
          refine AOps.nil ?_
          refine ACode.seq ?_
          refine ACode.run hT (fun _ => false) [5, 7, 11, 12, 13, 14, 95, 96, 97] (fr' := ⟨[(5, .slice (toksAV x) x.length own20), (7, .slice (toksAV y) y.length own22), (11, .int .i64 ((x.getD (x.length - 1) default).line)), (12, .int .i64 (i : Int)), (13, .loc 3 0), (14, .loc 4 0), (95, .slice (toksAV z) z.length own24), (96, .int .i64 ((z.length : Nat) : Int)), (97, .int .i64 (i : Int))], [[.int .i64 0, .int .i64 0, .int .i64 0], [.int .i64 0, .int .i64 0, .int .i64 0], [.int .i64 0, .int .i64 0, .int .i64 0], [.int .i64 ((joinT x y i).kind), .str ((joinT x y i).text), .int .u64 ((joinT x y i).n), .int .i64 ((joinT x y i).line), .int .i64 ((joinT x y i).col)], [.int .i64 0, .str [], .int .u64 0, .int .i64 0, .int .i64 0]], [], [], 0⟩) (σ' := σ) (ob := True ∧ True ∧ True ∧ True) (by kernel_rfl) ⟨trivial, trivial, trivial, trivial⟩ ?_
          refine ACode.seq ?_
          refine ACode.seq ?_
          refine ACode.run hT (fun _ => false) [5, 7, 11, 12, 13, 14, 95, 96, 97, 107] (fr' := ⟨[(5, .slice (toksAV x) x.length own20), (7, .slice (toksAV y) y.length own22), (11, .int .i64 ((x.getD (x.length - 1) default).line)), (12, .int .i64 (i : Int)), (13, .loc 3 0), (14, .loc 4 0), (95, .slice (toksAV z) z.length own24), (96, .int .i64 ((z.length : Nat) : Int)), (97, .int .i64 (i : Int)), (107, .bool (decide ((i : Int) < (IntKind.i64.wrap (((x.length : Nat) : Int) - 1)))))], [[.int .i64 0, .int .i64 0, .int .i64 0], [.int .i64 0, .int .i64 0, .int .i64 0], [.int .i64 0, .int .i64 0, .int .i64 0], [.int .i64 ((joinT x y i).kind), .str ((joinT x y i).text), .int .u64 ((joinT x y i).n), .int .i64 ((joinT x y i).line), .int .i64 ((joinT x y i).col)], [.int .i64 0, .str [], .int .u64 0, .int .i64 0, .int .i64 0]], [], [], 0⟩) (σ' := σ) (ob := True ∧ True ∧ True ∧ True ∧ True ∧ True) (by kernel_rfl) ⟨trivial, trivial, trivial, trivial, trivial, trivial⟩ ?_
          rw [IntWalk.i64_in (((x.length : Nat) : Int) - 1) (by omega)]
          refine ACode.cond (t := decide ((i : Int) < (((x.length : Nat) : Int) - 1))) (by kernel_rfl) (fun h6 => ?_) (fun h6 => ?_)
          · -- true
            have h6k := of_decide_eq_true h6
            refine ACode.region ?_
            refine AOps.runN hT (fun _ => false) 3 [5, 7, 11, 13, 14, 95, 96, 97, 110] (fr' := ⟨[(5, .slice (toksAV x) x.length own20), (7, .slice (toksAV y) y.length own22), (11, .int .i64 ((x.getD (x.length - 1) default).line)), (13, .loc 3 0), (14, .loc 4 0), (95, .slice (toksAV z) z.length own24), (96, .int .i64 ((z.length : Nat) : Int)), (97, .int .i64 (i : Int)), (110, .dat (((toksAV x : List AV).drop (i * 5)).take 5))], [[.int .i64 0, .int .i64 0, .int .i64 0], [.int .i64 0, .int .i64 0, .int .i64 0], [.int .i64 0, .int .i64 0, .int .i64 0], [.int .i64 ((joinT x y i).kind), .str ((joinT x y i).text), .int .u64 ((joinT x y i).n), .int .i64 ((joinT x y i).line), .int .i64 ((joinT x y i).col)], [.int .i64 0, .str [], .int .u64 0, .int .i64 0, .int .i64 0]], [], [], 0⟩) (σ' := σ) (ob := True ∧ True ∧ (0 ≤ ((i : Int) : Int) ∧ ((i : Int) : Int) < (x.length : Nat) ∧ i * 5 ≤ (toksAV x : List AV).length) ∧ True) (by kernel_rfl) ⟨trivial, trivial, (by rw [toksAV_length]; omega), trivial⟩ ?_
            rw [toksAV_at x i (by omega)]
            refine AOps.runN hT (fun _ => false) 2 [5, 7, 11, 13, 14, 95, 96, 97] (fr' := ⟨[(5, .slice (toksAV x) x.length own20), (7, .slice (toksAV y) y.length own22), (11, .int .i64 ((x.getD (x.length - 1) default).line)), (13, .loc 3 0), (14, .loc 4 0), (95, .slice (toksAV z) z.length own24), (96, .int .i64 ((z.length : Nat) : Int)), (97, .int .i64 (i : Int))], [[.int .i64 0, .int .i64 0, .int .i64 0], [.int .i64 0, .int .i64 0, .int .i64 0], [.int .i64 0, .int .i64 0, .int .i64 0], [.int .i64 ((joinT x y i).kind), .str ((joinT x y i).text), .int .u64 ((joinT x y i).n), .int .i64 ((joinT x y i).line), .int .i64 ((joinT x y i).col)], [.int .i64 ((x.getD i default).kind), .str ((x.getD i default).text), .int .u64 ((x.getD i default).n), .int .i64 ((x.getD i default).line), .int .i64 ((x.getD i default).col)]], [], [], 0⟩) (σ' := σ) (ob := (5 ≤ ([.int .i64 ((x.getD i default).kind), .str ((x.getD i default).text), .int .u64 ((x.getD i default).n), .int .i64 ((x.getD i default).line), .int .i64 ((x.getD i default).col)] : List AV).length) ∧ True ∧ True) (by kernel_rfl) ⟨(by first | omega | (simp; done) | (simp; omega)), trivial, trivial⟩ ?_
            refine AOps.nil ?_
            refine ACode.seq ?_
            refine ACode.run hT (fun _ => false) [5, 7, 11, 95, 96, 97, 127] (fr' := ⟨[(5, .slice (toksAV x) x.length own20), (7, .slice (toksAV y) y.length own22), (11, .int .i64 ((x.getD (x.length - 1) default).line)), (95, .slice (toksAV z) z.length own24), (96, .int .i64 ((z.length : Nat) : Int)), (97, .int .i64 (i : Int)), (127, .bool (!((((joinT x y i).kind) == ((x.getD i default).kind)) && ((((joinT x y i).text) == ((x.getD i default).text)) && ((((joinT x y i).n) == ((x.getD i default).n)) && ((((joinT x y i).line) == ((x.getD i default).line)) && (((joinT x y i).col) == ((x.getD i default).col))))))))], [[.int .i64 0, .int .i64 0, .int .i64 0], [.int .i64 0, .int .i64 0, .int .i64 0], [.int .i64 0, .int .i64 0, .int .i64 0], [.int .i64 ((joinT x y i).kind), .str ((joinT x y i).text), .int .u64 ((joinT x y i).n), .int .i64 ((joinT x y i).line), .int .i64 ((joinT x y i).col)], [.int .i64 ((x.getD i default).kind), .str ((x.getD i default).text), .int .u64 ((x.getD i default).n), .int .i64 ((x.getD i default).line), .int .i64 ((x.getD i default).col)]], [], [], 0⟩) (σ' := σ) (ob := True ∧ True ∧ True ∧ True) (by kernel_rfl) ⟨trivial, trivial, trivial, trivial⟩ ?_
            refine ACode.cond (t := !((((joinT x y i).kind) == ((x.getD i default).kind)) && ((((joinT x y i).text) == ((x.getD i default).text)) && ((((joinT x y i).n) == ((x.getD i default).n)) && ((((joinT x y i).line) == ((x.getD i default).line)) && (((joinT x y i).col) == ((x.getD i default).col))))))) (by kernel_rfl) (fun h7 => ?_) (fun h7 => ?_)
            · -- true
              have h7k := h7; simp only [Bool.and_eq_true, Bool.or_eq_true, Bool.and_eq_false_iff, Bool.or_eq_false_iff, decide_eq_true_eq, decide_eq_false_iff_not, beq_iff_eq, bne_iff_ne, ne_eq, Bool.not_eq_true', Bool.not_eq_false', beq_eq_false_iff_ne, bne_eq_false_iff_eq] at h7k
              exfalso
              rw [joinT, if_pos (by omega)] at h7
              simp at h7
            · -- false
              have h7k := h7; simp only [Bool.and_eq_true, Bool.or_eq_true, Bool.and_eq_false_iff, Bool.or_eq_false_iff, decide_eq_true_eq, decide_eq_false_iff_not, beq_iff_eq, bne_iff_ne, ne_eq, Bool.not_eq_true', Bool.not_eq_false', beq_eq_false_iff_ne, bne_eq_false_iff_eq] at h7k
              refine ACode.skip ?_
              refine ACode.run hT (fun _ => false) [5, 7, 11, 95, 96, 97] (fr' := ⟨[(5, .slice (toksAV x) x.length own20), (7, .slice (toksAV y) y.length own22), (11, .int .i64 ((x.getD (x.length - 1) default).line)), (95, .slice (toksAV z) z.length own24), (96, .int .i64 ((z.length : Nat) : Int)), (97, .int .i64 (IntKind.i64.wrap ((i : Int) + 1)))], [[.int .i64 0, .int .i64 0, .int .i64 0], [.int .i64 0, .int .i64 0, .int .i64 0], [.int .i64 0, .int .i64 0, .int .i64 0], [.int .i64 ((joinT x y i).kind), .str ((joinT x y i).text), .int .u64 ((joinT x y i).n), .int .i64 ((joinT x y i).line), .int .i64 ((joinT x y i).col)], [.int .i64 ((x.getD i default).kind), .str ((x.getD i default).text), .int .u64 ((x.getD i default).n), .int .i64 ((x.getD i default).line), .int .i64 ((x.getD i default).col)]], [], [], 0⟩) (σ' := σ) (ob := True ∧ True ∧ True) (by kernel_rfl) ⟨trivial, trivial, trivial⟩ ?_
              rw [IntWalk.i64_in ((i : Int) + 1) (by omega)]
              refine ⟨by kernel_rfl, _, ?_, i + 1, rfl, rfl, ?_, rfl⟩
              · omega
              · exact (by omega)
          · -- false
            have h6k := of_decide_eq_false h6
            refine ACode.seq ?_
            refine ACode.region ?_
            refine AOps.runN hT (fun _ => false) 7 [5, 7, 11, 13, 14, 95, 96, 97, 118] (fr' := ⟨[(5, .slice (toksAV x) x.length own20), (7, .slice (toksAV y) y.length own22), (11, .int .i64 ((x.getD (x.length - 1) default).line)), (13, .loc 3 0), (14, .loc 4 0), (95, .slice (toksAV z) z.length own24), (96, .int .i64 ((z.length : Nat) : Int)), (97, .int .i64 (i : Int)), (118, .dat (((toksAV y : List AV).drop (((IntKind.i64.wrap ((IntKind.i64.wrap ((i : Int) - ((x.length : Nat) : Int))) + 1))).toNat * 5)).take 5))], [[.int .i64 0, .int .i64 0, .int .i64 0], [.int .i64 0, .int .i64 0, .int .i64 0], [.int .i64 0, .int .i64 0, .int .i64 0], [.int .i64 ((joinT x y i).kind), .str ((joinT x y i).text), .int .u64 ((joinT x y i).n), .int .i64 ((joinT x y i).line), .int .i64 ((joinT x y i).col)], [.int .i64 0, .str [], .int .u64 0, .int .i64 0, .int .i64 0]], [], [], 0⟩) (σ' := σ) (ob := True ∧ True ∧ True ∧ True ∧ True ∧ True ∧ (0 ≤ ((IntKind.i64.wrap ((IntKind.i64.wrap ((i : Int) - ((x.length : Nat) : Int))) + 1)) : Int) ∧ ((IntKind.i64.wrap ((IntKind.i64.wrap ((i : Int) - ((x.length : Nat) : Int))) + 1)) : Int) < (y.length : Nat) ∧ ((IntKind.i64.wrap ((IntKind.i64.wrap ((i : Int) - ((x.length : Nat) : Int))) + 1))).toNat * 5 ≤ (toksAV y : List AV).length) ∧ True) (by kernel_rfl) ⟨trivial, trivial, trivial, trivial, trivial, trivial, (by rw [toksAV_length]; first | (rw [IntWalk.i64_in ((i : Int) - ((x.length : Nat) : Int)) (by omega), IntWalk.i64_in _ (by omega)]; omega) | (rw [IntWalk.i64_in _ (by omega)]; omega)), trivial⟩ ?_
            rw [IntWalk.i64_in ((i : Int) - ((x.length : Nat) : Int)) (by omega)]
            rw [IntWalk.i64_in (((i : Int) - ((x.length : Nat) : Int)) + 1) (by omega)]
            rw [zrow y (y.getD (i + 1 - x.length) default) (((((i : Int) - ((x.length : Nat) : Int)) + 1)).toNat) (by omega) (by rw [show ((((i : Int) - ((x.length : Nat) : Int)) + 1)).toNat = i + 1 - x.length by omega])]
            refine AOps.runN hT (fun _ => false) 2 [5, 7, 11, 13, 14, 95, 96, 97] (fr' := ⟨[(5, .slice (toksAV x) x.length own20), (7, .slice (toksAV y) y.length own22), (11, .int .i64 ((x.getD (x.length - 1) default).line)), (13, .loc 3 0), (14, .loc 4 0), (95, .slice (toksAV z) z.length own24), (96, .int .i64 ((z.length : Nat) : Int)), (97, .int .i64 (i : Int))], [[.int .i64 0, .int .i64 0, .int .i64 0], [.int .i64 0, .int .i64 0, .int .i64 0], [.int .i64 0, .int .i64 0, .int .i64 0], [.int .i64 ((joinT x y i).kind), .str ((joinT x y i).text), .int .u64 ((joinT x y i).n), .int .i64 ((joinT x y i).line), .int .i64 ((joinT x y i).col)], [.int .i64 ((y.getD (i + 1 - x.length) default).kind), .str ((y.getD (i + 1 - x.length) default).text), .int .u64 ((y.getD (i + 1 - x.length) default).n), .int .i64 ((y.getD (i + 1 - x.length) default).line), .int .i64 ((y.getD (i + 1 - x.length) default).col)]], [], [], 0⟩) (σ' := σ) (ob := (5 ≤ ([.int .i64 ((y.getD (i + 1 - x.length) default).kind), .str ((y.getD (i + 1 - x.length) default).text), .int .u64 ((y.getD (i + 1 - x.length) default).n), .int .i64 ((y.getD (i + 1 - x.length) default).line), .int .i64 ((y.getD (i + 1 - x.length) default).col)] : List AV).length) ∧ True ∧ True) (by kernel_rfl) ⟨(by first | omega | (simp; done) | (simp; omega)), trivial, trivial⟩ ?_
            refine AOps.nil ?_
            refine ACode.run hT (fun _ => false) [5, 7, 11, 13, 14, 95, 96, 97] (fr' := ⟨[(5, .slice (toksAV x) x.length own20), (7, .slice (toksAV y) y.length own22), (11, .int .i64 ((x.getD (x.length - 1) default).line)), (13, .loc 3 0), (14, .loc 4 0), (95, .slice (toksAV z) z.length own24), (96, .int .i64 ((z.length : Nat) : Int)), (97, .int .i64 (i : Int))], [[.int .i64 0, .int .i64 0, .int .i64 0], [.int .i64 0, .int .i64 0, .int .i64 0], [.int .i64 0, .int .i64 0, .int .i64 0], [.int .i64 ((joinT x y i).kind), .str ((joinT x y i).text), .int .u64 ((joinT x y i).n), .int .i64 ((joinT x y i).line), .int .i64 ((joinT x y i).col)], [.int .i64 ((y.getD (i + 1 - x.length) default).kind), .str ((y.getD (i + 1 - x.length) default).text), .int .u64 ((y.getD (i + 1 - x.length) default).n), .int .i64 (IntKind.i64.wrap (((y.getD (i + 1 - x.length) default).line) + ((x.getD (x.length - 1) default).line))), .int .i64 ((y.getD (i + 1 - x.length) default).col)]], [], [], 0⟩) (σ' := σ) (ob := True ∧ True ∧ True ∧ True ∧ True ∧ True ∧ True) (by kernel_rfl) ⟨trivial, trivial, trivial, trivial, trivial, trivial, trivial⟩ ?_
            rw [IntWalk.i64_in (((y.getD (i + 1 - x.length) default).line) + ((x.getD (x.length - 1) default).line)) (by omega)]
            refine ACode.seq ?_
            refine ACode.run hT (fun _ => false) [5, 7, 11, 95, 96, 97, 127] (fr' := ⟨[(5, .slice (toksAV x) x.length own20), (7, .slice (toksAV y) y.length own22), (11, .int .i64 ((x.getD (x.length - 1) default).line)), (95, .slice (toksAV z) z.length own24), (96, .int .i64 ((z.length : Nat) : Int)), (97, .int .i64 (i : Int)), (127, .bool (!((((joinT x y i).kind) == ((y.getD (i + 1 - x.length) default).kind)) && ((((joinT x y i).text) == ((y.getD (i + 1 - x.length) default).text)) && ((((joinT x y i).n) == ((y.getD (i + 1 - x.length) default).n)) && ((((joinT x y i).line) == (((y.getD (i + 1 - x.length) default).line) + ((x.getD (x.length - 1) default).line))) && (((joinT x y i).col) == ((y.getD (i + 1 - x.length) default).col))))))))], [[.int .i64 0, .int .i64 0, .int .i64 0], [.int .i64 0, .int .i64 0, .int .i64 0], [.int .i64 0, .int .i64 0, .int .i64 0], [.int .i64 ((joinT x y i).kind), .str ((joinT x y i).text), .int .u64 ((joinT x y i).n), .int .i64 ((joinT x y i).line), .int .i64 ((joinT x y i).col)], [.int .i64 ((y.getD (i + 1 - x.length) default).kind), .str ((y.getD (i + 1 - x.length) default).text), .int .u64 ((y.getD (i + 1 - x.length) default).n), .int .i64 (((y.getD (i + 1 - x.length) default).line) + ((x.getD (x.length - 1) default).line)), .int .i64 ((y.getD (i + 1 - x.length) default).col)]], [], [], 0⟩) (σ' := σ) (ob := True ∧ True ∧ True ∧ True) (by kernel_rfl) ⟨trivial, trivial, trivial, trivial⟩ ?_
            refine ACode.cond (t := !((((joinT x y i).kind) == ((y.getD (i + 1 - x.length) default).kind)) && ((((joinT x y i).text) == ((y.getD (i + 1 - x.length) default).text)) && ((((joinT x y i).n) == ((y.getD (i + 1 - x.length) default).n)) && ((((joinT x y i).line) == (((y.getD (i + 1 - x.length) default).line) + ((x.getD (x.length - 1) default).line))) && (((joinT x y i).col) == ((y.getD (i + 1 - x.length) default).col))))))) (by kernel_rfl) (fun h8 => ?_) (fun h8 => ?_)
            · -- true
              have h8k := h8; simp only [Bool.and_eq_true, Bool.or_eq_true, Bool.and_eq_false_iff, Bool.or_eq_false_iff, decide_eq_true_eq, decide_eq_false_iff_not, beq_iff_eq, bne_iff_ne, ne_eq, Bool.not_eq_true', Bool.not_eq_false', beq_eq_false_iff_ne, bne_eq_false_iff_eq] at h8k
              exfalso
              rw [joinT, if_neg (by omega)] at h8
              simp [shT] at h8
            · -- false
              have h8k := h8; simp only [Bool.and_eq_true, Bool.or_eq_true, Bool.and_eq_false_iff, Bool.or_eq_false_iff, decide_eq_true_eq, decide_eq_false_iff_not, beq_iff_eq, bne_iff_ne, ne_eq, Bool.not_eq_true', Bool.not_eq_false', beq_eq_false_iff_ne, bne_eq_false_iff_eq] at h8k
              refine ACode.skip ?_
              refine ACode.run hT (fun _ => false) [5, 7, 11, 95, 96, 97] (fr' := ⟨[(5, .slice (toksAV x) x.length own20), (7, .slice (toksAV y) y.length own22), (11, .int .i64 ((x.getD (x.length - 1) default).line)), (95, .slice (toksAV z) z.length own24), (96, .int .i64 ((z.length : Nat) : Int)), (97, .int .i64 (IntKind.i64.wrap ((i : Int) + 1)))], [[.int .i64 0, .int .i64 0, .int .i64 0], [.int .i64 0, .int .i64 0, .int .i64 0], [.int .i64 0, .int .i64 0, .int .i64 0], [.int .i64 ((joinT x y i).kind), .str ((joinT x y i).text), .int .u64 ((joinT x y i).n), .int .i64 ((joinT x y i).line), .int .i64 ((joinT x y i).col)], [.int .i64 ((y.getD (i + 1 - x.length) default).kind), .str ((y.getD (i + 1 - x.length) default).text), .int .u64 ((y.getD (i + 1 - x.length) default).n), .int .i64 (((y.getD (i + 1 - x.length) default).line) + ((x.getD (x.length - 1) default).line)), .int .i64 ((y.getD (i + 1 - x.length) default).col)]], [], [], 0⟩) (σ' := σ) (ob := True ∧ True ∧ True) (by kernel_rfl) ⟨trivial, trivial, trivial⟩ ?_
              rw [IntWalk.i64_in ((i : Int) + 1) (by omega)]
              refine ⟨by kernel_rfl, _, ?_, i + 1, rfl, rfl, ?_, rfl⟩
              · omega
              · exact (by omega)
        · -- false
          have h5k := of_decide_eq_false h5
          refine ACode.exit ?_
          refine ACode.seq ?_
          refine ACode.run hT (fun _ => false) [4] (fr' := ⟨[(4, .bool true)], [[.int .i64 0, .int .i64 0, .int .i64 0], [.int .i64 0, .int .i64 0, .int .i64 0], [.int .i64 0, .int .i64 0, .int .i64 0]], [], [], 0⟩) (σ' := σ) (ob := True ∧ True) (by kernel_rfl) ⟨trivial, trivial⟩ ?_
          refine ACode.ret ?_
          refine retQ.ret (.bool true) (by kernel_rfl) ?_
          exact ⟨rfl, rfl⟩
    · -- ((x.length : Nat) : Int) == 0 is true
      have h3k := eq_of_beq h3
      exfalso
      omega

theorem lexJoins_walk (a b : List UInt8) (σ : St) : ACalls Tryd.prog 6 [.str a, .str b] σ (fun e s => σ = s ∧ e = .ret (.bool true)) := by
  by_cases h : 4096 < a.length ∨ 4096 ≤ b.length
  · exact lexJoins_early a b σ h
  · have ha : a.length ≤ 4096 := by omega
    have hb : b.length < 4096 := by omega
    obtain ⟨j1, j2⟩ := joins_plain a b ha hb
    have hj8 : (a ++ [10] ++ b).length ≤ 8192 := by simp only [List.length_append, List.length_cons, List.length_nil]; omega
    rcases lexS_cases a (by omega) with ⟨x, hx, x1, x2, x3⟩ | ⟨ln, cl, hx⟩
    · rcases lexS_cases b (by omega) with ⟨y, hy, y1, y2, y3⟩ | ⟨ln2, cl2, hy⟩
      · obtain ⟨q1, q2, q3, q4⟩ := j2 (by rw [hx]) (by rw [hy])
        rw [hx, hy] at q3 q4
        have hxl := getD_line a (by omega)
        have hyl := getD_line b (by omega)
        rw [hx] at hxl
        rw [hy] at hyl
        exact lexJoins_ok a b x y (lexS (a ++ [10] ++ b)).1 σ ha hb hx hy (by rw [← q1]) x2 (by omega) (by omega) q3 q4 hxl hyl
      · obtain ⟨q1, q2, _⟩ := j1 (.inr (by rw [hy]; simp))
        exact lexJoins_e3 a b x (lexS (a ++ [10] ++ b)).2.1 (lexS (a ++ [10] ++ b)).2.2.1 (lexS (a ++ [10] ++ b)).2.2.2 3 ln2 cl2 σ q1 (by decide) hx hy (by rw [← q2])
    · obtain ⟨q1, q2, q3⟩ := j1 (.inl (by rw [hx]; simp))
      have q4 := q3 (by rw [hx]; simp)
      rw [hx] at q4
      have hz : lexS (a ++ [10] ++ b) = ([], 3, ln, cl) := by rw [← q2]; exact Prod.ext rfl q4
      rcases lexS_cases b (by omega) with ⟨y, hy, _⟩ | ⟨ln2, cl2, hy⟩
      · exact lexJoins_e1 a b y 3 ln cl σ (by decide) hx hy hz
      · exact lexJoins_e2 a b 3 ln cl 3 ln2 cl2 σ (by decide) hx hy hz

end Go.AE

