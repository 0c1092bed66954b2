/- Parts of the proof of a law, in build order: RowL, RowM, W15. -/
import Derived.Test.YtjdbmjllhmmddaaDoorW12Q7
import Derived.Test.YtjdbmjllhmmddaaDoorCards
import Derived.Test.YtjdbmjllhmmddaaDoorTie
import Derived.WalkKit
import Derived.ProofKit
import Derived.OpenShut
import Derived.Deep.DeepHandedRow
import Derived.Deep.DeepWitnessRowRef
import Derived.Lib.LaidTab
import Derived.LaidMore
import Derived.LaidLaws
import Derived.Shelf.Vars
import Derived.IntWalk
set_option maxRecDepth 2000
set_option linter.unusedVariables false
set_option linter.unusedSimpArgs false
/- The rows of the lexer's laws: what the listed variables give, one start that fits, from a call that answers true to the row. -/
set_option linter.unusedVariables false
set_option linter.unusedSimpArgs false
namespace Go.Proofs.YtjdbmjllhmmddaaDoor
open Go.AE Go.ChangeShapes Go.WideShapes Go.ChangeAt Go.RowKit

theorem own : ownKnob Tryd.prog.godebug = none := by kernel_rfl
theorem gA : Tryd.prog.globalNamed "math/bits.deBruijn32tab" = some 4 := by kernel_rfl
theorem gB : Tryd.prog.globalNamed "math/bits.deBruijn64tab" = some 5 := by kernel_rfl
theorem gC : Tryd.prog.globalNamed "internal/strconv.uint64pow10" = some 3 := by kernel_rfl
theorem gD : Tryd.prog.globalNamed "strconv.ErrRange" = some 2 := by kernel_rfl
theorem gE : Tryd.prog.globalNamed "strconv.ErrSyntax" = some 1 := by kernel_rfl
theorem tyC : (Tryd.prog.globals[3]?).map (·.type) = some 138 := by kernel_rfl
theorem tyD : (Tryd.prog.globals[2]?).map (·.type) = some 95 := by kernel_rfl
theorem tyE : (Tryd.prog.globals[1]?).map (·.type) = some 95 := by kernel_rfl
theorem c138 : Tryd.prog.cellsOf 138 = 20 := by kernel_rfl
theorem c31 : Tryd.prog.cellsOf 31 = 1 := by kernel_rfl
theorem c95 : Tryd.prog.cellsOf 95 = 1 := by kernel_rfl
theorem star : "*" ++ "errors.errorString" = "*errors.errorString" := by decide
theorem row145 (u : TypeId) (h : Tryd.prog.typeName? 3 u = some "*errors.errorString") : u = 145 :=
  typeName_ptr_named (nm := "errors.errorString") (by rw [star]; kernel_rfl) (by kernel_rfl) (by decide) u (by rw [star]; exact h)

theorem gat_of_cells {W : World} {g : Nat} {cs : List AV} {vs : Array Value} (hv : ∃ e f, W.heap[g]? = some (.cells vs e f)) (hl : cs.length = vs.size) (h1 : ∀ x ∈ vs.toList, x.oneCell' = true) (hc : CRs (viewOf W) cs vs.toList) : GAt (viewOf W) g cs := by
  obtain ⟨e, f, hh⟩ := hv
  refine (show CR (viewOf W) (.dat cs) _ from ?_)
  simp only [CR]
  refine ⟨g, 0, rfl, lt_of_heap hh, ?_, ?_⟩
  · simp [viewOf, hh, hl]
  · refine CRat_of_list hc h1 fun j v hj => ?_
    show W.cell? _ = _
    rw [Nat.zero_add]
    simpa [World.cell?, hh] using hj

/-- A listed error. -/
theorem sentinel_cell {W : World} {g fuel : Nat} {cs : Array Value} {y : DataW Unit} {p : List MemPlace} {name : String} (hg : Tryd.prog.globalNamed name = some g) (hv : W.var? Tryd.prog name = some cs)
    (hd : DataW.trod (fun _ => ()) Tryd.prog W 0 (fun _ => true) false fuel 95 cs.toList = some (.iface "*errors.errorString" y, p)) : GAt (viewOf W) g [.iface 145 .any] := by
  have hu : Tryd.prog.underlying 95 = some (.interface _) := Tryd.underlying95
  have hcell : ∃ e f, W.heap[g]? = some (.cells cs e f) := by
    unfold World.var? at hv
    rw [hg] at hv
    simp only [Option.bind_some] at hv
    split at hv
    · rename_i c e f hh; injection hv with hv; subst hv; exact ⟨e, f, hh⟩
    · cases hv
  have hcs : ∃ x, cs.toList = [.iface 145 x] := by
    cases fuel with
    | zero => simp [DataW.trod] at hd
    | succ fuel =>
      generalize cs.toList = l at hd
      rcases l with _ | ⟨v, _ | ⟨v2, l⟩⟩
      · simp [DataW.trod, hu] at hd
      · cases v with
        | iface u v =>
          simp only [DataW.trod, hu] at hd
          cases hn : Tryd.prog.typeName? 3 u with
          | none => simp [hn] at hd
          | some nm =>
            simp only [hn, Option.map_eq_some_iff, Prod.mk.injEq, DataW.iface.injEq] at hd
            obtain ⟨a, _, ⟨rfl, _⟩, _⟩ := hd
            obtain rfl := row145 u hn
            exact ⟨v, rfl⟩
        | _ => simp [DataW.trod, hu] at hd
      · simp [DataW.trod, hu] at hd
  obtain ⟨x, hx⟩ := hcs
  have hsz : cs.size = 1 := by rw [← Array.length_toList, hx]; rfl
  exact gat_of_cells hcell (by rw [hsz]; rfl) (by rw [hx]; simp [Value.oneCell']) (by rw [hx]; simp [CRs, CR])

theorem gok {W : World} (hL : laidMetH Tryd.prog Rows.lexNamesRow.laid W) (hsh : W.ShapedOpen Tryd.prog) : GOK (viewOf W) := by
  rw [MakeChecks.laidMetH_plain _ _ _ (by kernel_rfl)] at hL
  obtain ⟨ps, ⟨g0, t0, cs0, f0, p0, q0, hg0, ht0, hv0, hd0, ⟨g1, t1, cs1, f1, p1, q1, hg1, ht1, hv1, hd1, ⟨g2, t2, cs2, f2, p2, q2, hg2, ht2, hv2, hd2, ⟨g3, t3, cs3, f3, p3, q3, hg3, ht3, hv3, hd3, ⟨g4, t4, cs4, f4, p4, q4, hg4, ht4, hv4, hd4, _, _⟩, _⟩, _⟩, _⟩, _⟩, _, _⟩ := hL
  obtain rfl := Option.some.inj (gC.symm.trans hg2)
  obtain rfl := Option.some.inj (gD.symm.trans hg3)
  obtain rfl := Option.some.inj (gE.symm.trans hg4)
  obtain rfl := Option.some.inj (tyC.symm.trans ht2)
  obtain rfl := Option.some.inj (tyD.symm.trans ht3)
  obtain rfl := Option.some.inj (tyE.symm.trans ht4)
  refine ⟨⟨sentinel_cell gE hv4 hd4, sentinel_cell gD hv3 hd3, ?_, trivial⟩, ?_⟩
  · have hc := Lib.cells_of_tab (zs := Lib.pow10Tab) Tryd.underlying138 Tryd.underlying31 c31 c138 hd2
    have hcell : ∃ e f, W.heap[3]? = some (.cells cs2 e f) := by
      unfold World.var? at hv2
      rw [gC] at hv2
      simp only [Option.bind_some] at hv2
      split at hv2
      · rename_i c e f hh; injection hv2 with hv2; subst hv2; exact ⟨e, f, hh⟩
      · cases hv2
    have e20 : Lib.pow10Tab = [1, 10, 100, 1000, 10000, 100000, 1000000, 10000000, 100000000, 1000000000, 10000000000, 100000000000, 1000000000000, 10000000000000, 100000000000000, 1000000000000000, 10000000000000000, 100000000000000000, 1000000000000000000, 10000000000000000000] := by decide
    have hsz : cs2.size = 20 := by rw [← Array.length_toList, hc]; rfl
    refine gat_of_cells hcell (by rw [hsz]; rfl) (by rw [hc, e20]; simp [Value.oneCell']) (by rw [hc, e20]; simp [CRs, CR])
  · intro x hx
    have : x = 0 := by simpa [theInt] using hx
    subst this
    have hg6 : 0 < Tryd.prog.globals.size := by rw [show Tryd.prog.globals.size = 6 by kernel_rfl]; decide
    obtain ⟨m, hm⟩ := cell_of_shapedOpen_int (g := 0) (t := 3) (zero := #[.int .i64 0]) (k := .i64) hsh hg6 (by kernel_rfl) rfl (by kernel_rfl) (by kernel_rfl) Tryd.underlying3
    refine ⟨m, ?_⟩
    have hm2 : ∃ c e f, W.heap[0]? = some (.cells c e f) ∧ c[0]? = some (.int .i64 m) := by
      unfold World.cell? at hm
      simp only at hm
      split at hm
      · rename_i c e f hh; exact ⟨c, e, f, hh, by simpa using hm⟩
      · cases hm
    obtain ⟨c, e, f, hh, hc⟩ := hm2
    refine (show CR (viewOf W) (.dat _) _ from ?_)
    simp only [CR]
    refine ⟨0, 0, rfl, lt_of_heap hh, ?_, ?_⟩
    · have := (Array.getElem?_eq_some_iff.1 hc).1
      simp [viewOf, hh]; omega
    · simp only [CRat, CR, and_true]
      exact ⟨_, hm, rfl, rfl⟩
end Go.Proofs.YtjdbmjllhmmddaaDoor

/- From a call that answers true, and turns nothing of what was there, to the row's condition behind the call. -/
set_option linter.unusedVariables false
namespace Go
open Go.RowKit Go.ChangeShapes Go.ChangeAt
variable {H : Type} {enc : TypeId × Value → H} {P : Program}
theorem post_of_below {f : Func} {s : ChangeSpec} {apart fresh handsOn again : Bool} {W W' : World} {args : Array Value} {v : Value} {ds gs : List (DataW H)} {before pa pv : List MemPlace}
    (hW : DataW.Whole enc P f.params.toList s.vars apart W args.toList ds gs before)
    (hres : ∀ (b : Nat) (sp : Nat → Bool) (hd : Bool), DataW.TrodAll enc P W' b sp hd f.resultTypes.toList (v.resultList f.resultTypes.size) (s.fn H (ds ++ gs)).results [])
    (hargs : ∀ sp : Nat → Bool, (∀ p ∈ before, sp p.block = true) → DataW.TrodAll enc P W' 0 sp true f.params.toList args.toList (s.fn H (ds ++ gs)).args pa)
    (hvars : ∀ sp : Nat → Bool, (∀ p ∈ before, sp p.block = true) → DataW.TrodVars enc P W' sp s.vars (s.fn H (ds ++ gs)).vars pv)
    (hps : before = pa ++ pv) (hb : Below W.heap.size W W')
    (hok : ∀ (j : Nat) (t : TypeId) (r : Value), f.resultTypes[j]? = some t → (v.resultList f.resultTypes.size)[j]? = some r → Value.okWide P W' .any 0 t r) :
    s.post enc P f apart fresh handsOn again W args v W' := by
  have hold : ∀ p ∈ before, (fun b => decide (b < W.heap.size)) p.block = true := fun p hp => by simpa using hW.lt p hp
  have hlt : ∀ p ∈ before, p.block < W.heap.size := fun p hp => hW.lt p hp
  refine ⟨ds, gs, before, [], pa, pv, hW, hres _ _ _, hargs _ hold, hvars _ hold, World.keptBut_mono (fun p hp => ⟨hp, ?_⟩) (hb.frame (· ∈ before)), fun _ => ?_⟩
  · rw [hps, List.mem_append] at hp
    exact Or.inr hp
  · obtain ⟨_, _, _, _, _, hz, hn⟩ := hW
    refine ⟨hok, _, _, ([] ++ pa) ++ pv, ⟨[] ++ pa, pv, trodAll_append (hargs _ (fun _ _ => rfl)) (hres _ _ _), hvars _ (fun _ _ => rfl), rfl, ?_, ?_⟩, ?_⟩
    · intro b off hp
      have hp' : MemPlace.cell b off ∈ before := by rw [hps]; simpa using hp
      rw [hb.frozen (p := ⟨b, off, none⟩) (hlt _ hp')]
      exact hz b off hp'
    · intro ha
      have := hn ha
      rw [hps] at this
      simpa using this
    · intro p hp _
      rw [hps]
      simpa using hp
end Go

set_option linter.unusedVariables false
set_option linter.unusedSimpArgs false
set_option maxRecDepth 4000
namespace Go.AE
open Go.Proofs

theorem tmod3 (i : Nat) : ((i : Int).tmod 3) = ((i % 3 : Nat) : Int) := rfl
theorem noteT_len (note : List UInt8) (n : Nat) : ∀ (l : List Tok) (j : Nat), (∀ x ∈ l, x.text.length ≤ n) → (noteT note j l).length ≤ (n + (note.length + 5)) * l.length
  | [], j, _ => by simp [noteT]
  | x :: l, j, h => by
    have ih := noteT_len note n l (j + 1) fun y hy => h y (by simp [hy])
    have hx := h x (by simp)
    have hs : (spN note j).length ≤ note.length + 5 := by
      unfold spN
      split <;> simp
    simp only [noteT, List.length_append, List.length_cons, Nat.mul_add, Nat.mul_one] at ih ⊢
    omega
theorem noteT_succ (note : List UInt8) (l : List Tok) (i : Nat) (hi : i < l.length) : noteT note 0 (l.take (i + 1)) = noteT note 0 (l.take i) ++ ((l.getD i default).text ++ spN note i) := by
  have e : l.take (i + 1) = l.take i ++ [l.getD i default] := by
    rw [List.take_add_one, List.getElem?_eq_getElem hi]; simp [List.getD, hi]
  rw [e, noteT_append]
  simp only [noteT, List.append_nil, Nat.zero_add, List.length_take, Nat.min_eq_left (Nat.le_of_lt hi)]
theorem noteT_yes (note : List UInt8) (l : List Tok) (i : Nat) (hi : i < l.length) (h : ((i : Int).tmod 3) = 0) : noteT note 0 (l.take (i + 1)) = ((((noteT note 0 (l.take i) ++ (l.getD i default).text) ++ [32]) ++ [9, 47, 47]) ++ note) ++ [10] := by
  have h3 : i % 3 = 0 := by rw [tmod3] at h; omega
  rw [noteT_succ note l i hi, spN, if_pos h3]
  simp
theorem noteT_no (note : List UInt8) (l : List Tok) (i : Nat) (hi : i < l.length) (h : ((i : Int).tmod 3) ≠ 0) : noteT note 0 (l.take (i + 1)) = (noteT note 0 (l.take i) ++ (l.getD i default).text) ++ [32] := by
  have h3 : ¬ i % 3 = 0 := by rw [tmod3] at h; omega
  rw [noteT_succ note l i hi, spN, if_neg h3]
  simp
theorem no10 {note : List UInt8} {i : Nat} (hi : note.length ≤ i) (h : ∀ j, j < i → note.getD j 0 ≠ 10) : ∀ x ∈ note, x ≠ 10 := by
  intro x hx
  obtain ⟨j, hj, rfl⟩ := List.mem_iff_getElem.1 hx
  have := h j (by omega)
  simpa [List.getD, hj] using this

theorem lexNotes_err (t u : List UInt8) (k ln cl : Int) (σ : St) (hl : lexS t = ([], k, ln, cl)) (hk : k ≠ 0) : ACalls Tryd.prog 7 [.str t, .str u] σ (fun e s => σ = s ∧ e = .ret (.bool true)) := by
  refine ACalls.enter hT Tryd.func7 rfl (by kernel_rfl) ?_
  refine ACode.seq ?_
  refine ACode.run hT (fun _ => false) [0, 1] (fr' := ⟨[(0, .str t), (1, .str u)], [], [], [], 0⟩) (σ' := σ) (ob := True ∧ True) (by kernel_rfl) ⟨trivial, trivial⟩ ?_
  refine ACode.seq ?_
  refine ACode.seq ?_
  refine ACode.region ?_
  refine AOps.call (fid := 10) (cap := []) (avs := []) (by kernel_rfl) rfl (by kernel_rfl) (by kernel_rfl) en_10 (by kernel_rfl) (ACalls.mono (alive_walk _) ?_)
  rintro _ _ ⟨rfl, rfl⟩
  refine AOps.runN hT (fun _ => false) 1 [0, 1, 15] (fr' := ⟨[(0, .str t), (1, .str u), (15, .bool false)], [], [], [], 0⟩) (σ' := σ) (ob := True ∧ True) (by kernel_rfl) ⟨trivial, trivial⟩ ?_
  refine AOps.nil ?_
  refine ACode.cond (t := false) (by kernel_rfl) (fun h => Bool.noConfusion h) (fun _ => ?_)
  refine ACode.skip ?_
  refine ACode.seq ?_
  refine ACode.seq ?_
  refine ACode.meet ⟨[(0, .str t), (1, .str u), (23, .bool ((decide ((((t) : List UInt8).length : Int) > 4096)) || (decide ((((u) : List UInt8).length : Int) > 20))))], [], [], [], 0⟩ σ (ACode.region ?_) ?_
  ·
    refine AOps.runN hT (fun _ => false) 4 [0, 1, 19] (fr' := ⟨[(0, .str t), (1, .str u), (19, .bool (decide ((((t) : List UInt8).length : Int) > 4096)))], [], [], [], 0⟩) (σ' := σ) (ob := True ∧ True ∧ True ∧ True ∧ True) (by kernel_rfl) ⟨trivial, trivial, trivial, trivial, trivial⟩ ?_
    cases h1 : (decide ((((t) : List UInt8).length : Int) > 4096))
    · -- decide ((((t) : List UInt8).length : Int) > 4096) is false
      have h1k := of_decide_eq_false h1
      refine AOps.runN hT (fun _ => false) 4 [0, 1, 23] (fr' := ⟨[(0, .str t), (1, .str u), (23, .bool (decide ((((u) : List UInt8).length : Int) > 20)))], [], [], [], 0⟩) (σ' := σ) (ob := True ∧ True ∧ True ∧ True ∧ True) (by kernel_rfl) ⟨trivial, trivial, trivial, trivial, trivial⟩ ?_
      refine AOps.weak [0, 1, 23] (AOps.nil ⟨rfl, rfl⟩)
    · -- decide ((((t) : List UInt8).length : Int) > 4096) is true
      have h1k := of_decide_eq_true h1
      refine AOps.runN hT (fun _ => false) 4 [0, 1, 23] (fr' := ⟨[(0, .str t), (1, .str u), (23, .bool true)], [], [], [], 0⟩) (σ' := σ) (ob := True ∧ True) (by kernel_rfl) ⟨trivial, trivial⟩ ?_
      refine AOps.weak [0, 1, 23] (AOps.nil ⟨rfl, rfl⟩)
  -- on
  refine ACode.cond (t := (decide ((((t) : List UInt8).length : Int) > 4096)) || (decide ((((u) : List UInt8).length : Int) > 20))) (by kernel_rfl) (fun h2 => ?_) (fun h2 => ?_)
  · -- true
    have h2k := h2; simp only [Bool.and_eq_true, Bool.or_eq_true, Bool.and_eq_false_iff, Bool.or_eq_false_iff, decide_eq_true_eq, decide_eq_false_iff_not, beq_iff_eq, bne_iff_ne, ne_eq, Bool.not_eq_true', Bool.not_eq_false', beq_eq_false_iff_ne, bne_eq_false_iff_eq] at h2k
    refine ACode.seq ?_
    refine ACode.run hT (fun _ => false) [4] (fr' := ⟨[(4, .bool true)], [], [], [], 0⟩) (σ' := σ) (ob := True ∧ True) (by kernel_rfl) ⟨trivial, trivial⟩ ?_
    refine ACode.ret ?_
    refine retQ.ret (.bool true) (by kernel_rfl) ?_
    exact ⟨rfl, rfl⟩
  · -- false
    have h2k := h2; simp only [Bool.and_eq_true, Bool.or_eq_true, Bool.and_eq_false_iff, Bool.or_eq_false_iff, decide_eq_true_eq, decide_eq_false_iff_not, beq_iff_eq, bne_iff_ne, ne_eq, Bool.not_eq_true', Bool.not_eq_false', beq_eq_false_iff_ne, bne_eq_false_iff_eq] at h2k
    refine ACode.skip ?_
    refine ACode.seq ?_
    refine ACode.seq ?_
    refine ACode.run hT (fun _ => false) [0, 1, 5] (fr' := ⟨[(0, .str t), (1, .str u), (5, .int .i64 0)], [], [], [], 0⟩) (σ' := σ) (ob := True ∧ True) (by kernel_rfl) ⟨trivial, trivial⟩ ?_
    refine ACode.block ?_
    refine ACode.loop [0, 1, 5] 0 0 (fun n0 fr σ' => ∃ (i : Nat), fr = ⟨[(0, .str t), (1, .str u), (5, .int .i64 (i : Int))], [], [], [], 0⟩ ∧ σ = σ' ∧ (i ≤ u.length ∧ ∀ j, j < i → u.getD j 0 ≠ 10) ∧ n0 = u.length - i) _ (by kernel_rfl) ⟨0, rfl, rfl, ⟨Nat.zero_le _, fun j hj => absurd hj (Nat.not_lt_zero _)⟩, rfl⟩ ?_
    rintro n0 fr σ' ⟨i, rfl, rfl, ⟨hi, hP⟩, rfl⟩
    have hbb := byte_bd (u.getD i 0)
    refine ACode.seq ?_
    refine ACode.seq ?_
    refine ACode.run hT (fun _ => false) [0, 1, 5, 27] (fr' := ⟨[(0, .str t), (1, .str u), (5, .int .i64 (i : Int)), (27, .bool (decide ((i : Int) < (((u) : List UInt8).length : Int))))], [], [], [], 0⟩) (σ' := σ) (ob := True ∧ True ∧ True ∧ True ∧ True) (by kernel_rfl) ⟨trivial, trivial, trivial, trivial, trivial⟩ ?_
    refine ACode.cond (t := decide ((i : Int) < (((u) : List UInt8).length : Int))) (by kernel_rfl) (fun h3 => ?_) (fun h3 => ?_)
    · -- true
      have h3k := of_decide_eq_true h3
      refine ACode.skip ?_
      refine ACode.seq ?_
      refine ACode.block ?_
      refine ACode.seq ?_
      refine ACode.run hT (fun _ => false) [0, 1, 5, 33] (fr' := ⟨[(0, .str t), (1, .str u), (5, .int .i64 (i : Int)), (33, .bool (((u.getD i 0).toNat : Int) == 10))], [], [], [], 0⟩) (σ' := σ) (ob := True ∧ True ∧ (0 ≤ ((i : Int) : Int) ∧ ((i : Int) : Int) < ((u) : List UInt8).length) ∧ True ∧ True) (by kernel_rfl) ⟨trivial, trivial, (by first | omega | (simp; done) | (simp; omega)), trivial, trivial⟩ ?_
      refine ACode.cond (t := ((u.getD i 0).toNat : Int) == 10) (by kernel_rfl) (fun h4 => ?_) (fun h4 => ?_)
      · -- true
        have h4k := eq_of_beq h4
        refine ACode.seq ?_
        refine ACode.run hT (fun _ => false) [4] (fr' := ⟨[(4, .bool true)], [], [], [], 0⟩) (σ' := σ) (ob := True ∧ True) (by kernel_rfl) ⟨trivial, trivial⟩ ?_
        refine ACode.ret ?_
        refine retQ.ret (.bool true) (by kernel_rfl) ?_
        exact ⟨rfl, rfl⟩
      · -- false
        have h4k := ne_of_beq_false h4
        refine ACode.skip ?_
        refine ACode.run hT (fun _ => false) [0, 1, 5] (fr' := ⟨[(0, .str t), (1, .str u), (5, .int .i64 (IntKind.i64.wrap ((i : Int) + 1)))], [], [], [], 0⟩) (σ' := σ) (ob := True ∧ True ∧ True ∧ True) (by kernel_rfl) ⟨trivial, trivial, trivial, trivial⟩ ?_
        rw [IntWalk.i64_in ((i : Int) + 1) (by omega)]
        refine ⟨by kernel_rfl, _, ?_, i + 1, rfl, rfl, ?_, rfl⟩
        · omega
        · exact ⟨by omega, fun j hj => (Nat.lt_or_ge j i).elim (fun h9 => hP j h9) (fun h9 => by rw [show j = i by omega]; intro h8; rw [h8] at h4; revert h4; decide)⟩
    · -- false
      have h3k := of_decide_eq_false h3
      refine ACode.exit ?_
      refine ACode.seq ?_
      refine ACode.region ?_
      refine AOps.runN hT (fun _ => false) 1 [1, 35] (fr' := ⟨[(1, .str u), (35, .str t)], [], [], [], 0⟩) (σ' := σ) (ob := True ∧ True) (by kernel_rfl) ⟨trivial, trivial⟩ ?_
      refine AOps.call (fid := 15) (cap := []) (avs := [.str t]) (by kernel_rfl) rfl (by kernel_rfl) (by kernel_rfl) en_15 (by kernel_rfl) (ACalls.mono (lex_err t k ln cl hl _) ?_)
      rintro _ _ ⟨rfl, own2, hown2, rfl⟩
      refine AOps.runN hT (fun _ => false) 6 [1, 6, 7] (fr' := ⟨[(1, .str u), (6, .slice [] 0 own2), (7, .loc 0 0)], [[.int .i64 k, .int .i64 ln, .int .i64 cl]], [], [], 0⟩) (σ' := σ) (ob := True ∧ True ∧ True ∧ True ∧ True ∧ True ∧ True) (by kernel_rfl) ⟨trivial, trivial, trivial, trivial, trivial, trivial, trivial⟩ ?_
      refine AOps.nil ?_
      refine ACode.seq ?_
      refine ACode.seq ?_
      refine ACode.run hT (fun _ => false) [1, 6, 41] (fr' := ⟨[(1, .str u), (6, .slice [] 0 own2), (41, .bool (!((k == 0) && ((ln == 0) && (cl == 0)))))], [[.int .i64 k, .int .i64 ln, .int .i64 cl]], [], [], 0⟩) (σ' := σ) (ob := True ∧ True ∧ True ∧ True) (by kernel_rfl) ⟨trivial, trivial, trivial, trivial⟩ ?_
      refine ACode.cond (t := !((k == 0) && ((ln == 0) && (cl == 0)))) (by kernel_rfl) (fun h5 => ?_) (fun h5 => ?_)
      · -- true
        have h5k := h5; simp only [Bool.and_eq_true, Bool.or_eq_true, Bool.and_eq_false_iff, Bool.or_eq_false_iff, decide_eq_true_eq, decide_eq_false_iff_not, beq_iff_eq, bne_iff_ne, ne_eq, Bool.not_eq_true', Bool.not_eq_false', beq_eq_false_iff_ne, bne_eq_false_iff_eq] at h5k
        refine ACode.seq ?_
        refine ACode.run hT (fun _ => false) [4] (fr' := ⟨[(4, .bool true)], [[.int .i64 k, .int .i64 ln, .int .i64 cl]], [], [], 0⟩) (σ' := σ) (ob := True ∧ True) (by kernel_rfl) ⟨trivial, trivial⟩ ?_
        refine ACode.ret ?_
        refine retQ.ret (.bool true) (by kernel_rfl) ?_
        exact ⟨rfl, rfl⟩
      · -- false
        have h5k := h5; simp only [Bool.and_eq_true, Bool.or_eq_true, Bool.and_eq_false_iff, Bool.or_eq_false_iff, decide_eq_true_eq, decide_eq_false_iff_not, beq_iff_eq, bne_iff_ne, ne_eq, Bool.not_eq_true', Bool.not_eq_false', beq_eq_false_iff_ne, bne_eq_false_iff_eq] at h5k
        exfalso
        simp_all
theorem lexNotes_ok (t u : List UInt8) (l m : List Tok) (σ : St) (hu : u.length ≤ 20) (hl : lexS t = (l, 0, 0, 0)) (hln : l.length ≤ 4097) (htx : ∀ i, (l.getD i default).text.length ≤ 4096) (hlenN : ∀ i, i ≤ l.length → (noteT u 0 (l.take i)).length ≤ 100000000) (hm : ∀ i, l.length ≤ i → (∀ x ∈ u, x ≠ 10) → (noteT u 0 (l.take i)).length ≤ 8192 → lexS (noteT u 0 (l.take i)) = (m, 0, 0, 0)) (hml : m.length = l.length) (hk : ∀ i, i < l.length → (m.getD i default).kind = (l.getD i default).kind ∧ (m.getD i default).text = (l.getD i default).text ∧ (m.getD i default).n = (l.getD i default).n) : ACalls Tryd.prog 7 [.str t, .str u] σ (fun e s => σ = s ∧ e = .ret (.bool true)) := by
  refine ACalls.enter hT Tryd.func7 rfl (by kernel_rfl) ?_
  refine ACode.seq ?_
  refine ACode.run hT (fun _ => false) [0, 1] (fr' := ⟨[(0, .str t), (1, .str u)], [], [], [], 0⟩) (σ' := σ) (ob := True ∧ True) (by kernel_rfl) ⟨trivial, trivial⟩ ?_
  refine ACode.seq ?_
  refine ACode.seq ?_
  refine ACode.region ?_
  refine AOps.call (fid := 10) (cap := []) (avs := []) (by kernel_rfl) rfl (by kernel_rfl) (by kernel_rfl) en_10 (by kernel_rfl) (ACalls.mono (alive_walk _) ?_)
  rintro _ _ ⟨rfl, rfl⟩
  refine AOps.runN hT (fun _ => false) 1 [0, 1, 15] (fr' := ⟨[(0, .str t), (1, .str u), (15, .bool false)], [], [], [], 0⟩) (σ' := σ) (ob := True ∧ True) (by kernel_rfl) ⟨trivial, trivial⟩ ?_
  refine AOps.nil ?_
  refine ACode.cond (t := false) (by kernel_rfl) (fun h => Bool.noConfusion h) (fun _ => ?_)
  refine ACode.skip ?_
  refine ACode.seq ?_
  refine ACode.seq ?_
  refine ACode.meet ⟨[(0, .str t), (1, .str u), (23, .bool ((decide ((((t) : List UInt8).length : Int) > 4096)) || (decide ((((u) : List UInt8).length : Int) > 20))))], [], [], [], 0⟩ σ (ACode.region ?_) ?_
  ·
    refine AOps.runN hT (fun _ => false) 4 [0, 1, 19] (fr' := ⟨[(0, .str t), (1, .str u), (19, .bool (decide ((((t) : List UInt8).length : Int) > 4096)))], [], [], [], 0⟩) (σ' := σ) (ob := True ∧ True ∧ True ∧ True ∧ True) (by kernel_rfl) ⟨trivial, trivial, trivial, trivial, trivial⟩ ?_
    cases h1 : (decide ((((t) : List UInt8).length : Int) > 4096))
    · -- decide ((((t) : List UInt8).length : Int) > 4096) is false
      have h1k := of_decide_eq_false h1
      refine AOps.runN hT (fun _ => false) 4 [0, 1, 23] (fr' := ⟨[(0, .str t), (1, .str u), (23, .bool (decide ((((u) : List UInt8).length : Int) > 20)))], [], [], [], 0⟩) (σ' := σ) (ob := True ∧ True ∧ True ∧ True ∧ True) (by kernel_rfl) ⟨trivial, trivial, trivial, trivial, trivial⟩ ?_
      refine AOps.weak [0, 1, 23] (AOps.nil ⟨rfl, rfl⟩)
    · -- decide ((((t) : List UInt8).length : Int) > 4096) is true
      have h1k := of_decide_eq_true h1
      refine AOps.runN hT (fun _ => false) 4 [0, 1, 23] (fr' := ⟨[(0, .str t), (1, .str u), (23, .bool true)], [], [], [], 0⟩) (σ' := σ) (ob := True ∧ True) (by kernel_rfl) ⟨trivial, trivial⟩ ?_
      refine AOps.weak [0, 1, 23] (AOps.nil ⟨rfl, rfl⟩)
  -- on
  refine ACode.cond (t := (decide ((((t) : List UInt8).length : Int) > 4096)) || (decide ((((u) : List UInt8).length : Int) > 20))) (by kernel_rfl) (fun h2 => ?_) (fun h2 => ?_)
  · -- true
    have h2k := h2; simp only [Bool.and_eq_true, Bool.or_eq_true, Bool.and_eq_false_iff, Bool.or_eq_false_iff, decide_eq_true_eq, decide_eq_false_iff_not, beq_iff_eq, bne_iff_ne, ne_eq, Bool.not_eq_true', Bool.not_eq_false', beq_eq_false_iff_ne, bne_eq_false_iff_eq] at h2k
    refine ACode.seq ?_
    refine ACode.run hT (fun _ => false) [4] (fr' := ⟨[(4, .bool true)], [], [], [], 0⟩) (σ' := σ) (ob := True ∧ True) (by kernel_rfl) ⟨trivial, trivial⟩ ?_
    refine ACode.ret ?_
    refine retQ.ret (.bool true) (by kernel_rfl) ?_
    exact ⟨rfl, rfl⟩
  · -- false
    have h2k := h2; simp only [Bool.and_eq_true, Bool.or_eq_true, Bool.and_eq_false_iff, Bool.or_eq_false_iff, decide_eq_true_eq, decide_eq_false_iff_not, beq_iff_eq, bne_iff_ne, ne_eq, Bool.not_eq_true', Bool.not_eq_false', beq_eq_false_iff_ne, bne_eq_false_iff_eq] at h2k
    refine ACode.skip ?_
    refine ACode.seq ?_
    refine ACode.seq ?_
    refine ACode.run hT (fun _ => false) [0, 1, 5] (fr' := ⟨[(0, .str t), (1, .str u), (5, .int .i64 0)], [], [], [], 0⟩) (σ' := σ) (ob := True ∧ True) (by kernel_rfl) ⟨trivial, trivial⟩ ?_
    refine ACode.block ?_
    refine ACode.loop [0, 1, 5] 0 0 (fun n0 fr σ' => ∃ (i : Nat), fr = ⟨[(0, .str t), (1, .str u), (5, .int .i64 (i : Int))], [], [], [], 0⟩ ∧ σ = σ' ∧ (i ≤ u.length ∧ ∀ j, j < i → u.getD j 0 ≠ 10) ∧ n0 = u.length - i) _ (by kernel_rfl) ⟨0, rfl, rfl, ⟨Nat.zero_le _, fun j hj => absurd hj (Nat.not_lt_zero _)⟩, rfl⟩ ?_
    rintro n0 fr σ' ⟨i, rfl, rfl, ⟨hi, hP⟩, rfl⟩
    have hbb := byte_bd (u.getD i 0)
    refine ACode.seq ?_
    refine ACode.seq ?_
    refine ACode.run hT (fun _ => false) [0, 1, 5, 27] (fr' := ⟨[(0, .str t), (1, .str u), (5, .int .i64 (i : Int)), (27, .bool (decide ((i : Int) < (((u) : List UInt8).length : Int))))], [], [], [], 0⟩) (σ' := σ) (ob := True ∧ True ∧ True ∧ True ∧ True) (by kernel_rfl) ⟨trivial, trivial, trivial, trivial, trivial⟩ ?_
    refine ACode.cond (t := decide ((i : Int) < (((u) : List UInt8).length : Int))) (by kernel_rfl) (fun h3 => ?_) (fun h3 => ?_)
    · -- true
      have h3k := of_decide_eq_true h3
      refine ACode.skip ?_
      refine ACode.seq ?_
      refine ACode.block ?_
      refine ACode.seq ?_
      refine ACode.run hT (fun _ => false) [0, 1, 5, 33] (fr' := ⟨[(0, .str t), (1, .str u), (5, .int .i64 (i : Int)), (33, .bool (((u.getD i 0).toNat : Int) == 10))], [], [], [], 0⟩) (σ' := σ) (ob := True ∧ True ∧ (0 ≤ ((i : Int) : Int) ∧ ((i : Int) : Int) < ((u) : List UInt8).length) ∧ True ∧ True) (by kernel_rfl) ⟨trivial, trivial, (by first | omega | (simp; done) | (simp; omega)), trivial, trivial⟩ ?_
      refine ACode.cond (t := ((u.getD i 0).toNat : Int) == 10) (by kernel_rfl) (fun h4 => ?_) (fun h4 => ?_)
      · -- true
        have h4k := eq_of_beq h4
        refine ACode.seq ?_
        refine ACode.run hT (fun _ => false) [4] (fr' := ⟨[(4, .bool true)], [], [], [], 0⟩) (σ' := σ) (ob := True ∧ True) (by kernel_rfl) ⟨trivial, trivial⟩ ?_
        refine ACode.ret ?_
        refine retQ.ret (.bool true) (by kernel_rfl) ?_
        exact ⟨rfl, rfl⟩
      · -- false
        have h4k := ne_of_beq_false h4
        refine ACode.skip ?_
        refine ACode.run hT (fun _ => false) [0, 1, 5] (fr' := ⟨[(0, .str t), (1, .str u), (5, .int .i64 (IntKind.i64.wrap ((i : Int) + 1)))], [], [], [], 0⟩) (σ' := σ) (ob := True ∧ True ∧ True ∧ True) (by kernel_rfl) ⟨trivial, trivial, trivial, trivial⟩ ?_
        rw [IntWalk.i64_in ((i : Int) + 1) (by omega)]
        refine ⟨by kernel_rfl, _, ?_, i + 1, rfl, rfl, ?_, rfl⟩
        · omega
        · exact ⟨by omega, fun j hj => (Nat.lt_or_ge j i).elim (fun h9 => hP j h9) (fun h9 => by rw [show j = i by omega]; intro h8; rw [h8] at h4; revert h4; decide)⟩
    · -- false
      have h3k := of_decide_eq_false h3
      have hn0 := hP
      refine ACode.exit ?_
      refine ACode.seq ?_
      refine ACode.region ?_
      refine AOps.runN hT (fun _ => false) 1 [1, 35] (fr' := ⟨[(1, .str u), (35, .str t)], [], [], [], 0⟩) (σ' := σ) (ob := True ∧ True) (by kernel_rfl) ⟨trivial, trivial⟩ ?_
      refine AOps.call (fid := 15) (cap := []) (avs := [.str t]) (by kernel_rfl) rfl (by kernel_rfl) (by kernel_rfl) en_15 (by kernel_rfl) (ACalls.mono (lex_ok t l hl _) ?_)
      rintro _ _ ⟨rfl, own4, hown4, rfl⟩
      refine AOps.runN hT (fun _ => false) 6 [1, 6, 7] (fr' := ⟨[(1, .str u), (6, .slice (toksAV l) l.length own4), (7, .loc 0 0)], [[.int .i64 0, .int .i64 0, .int .i64 0]], [], [], 0⟩) (σ' := σ) (ob := True ∧ True ∧ True ∧ True ∧ True ∧ True ∧ True) (by kernel_rfl) ⟨trivial, trivial, trivial, trivial, trivial, trivial, trivial⟩ ?_
      refine AOps.nil ?_
      refine ACode.seq ?_
      refine ACode.seq ?_
      refine ACode.run hT (fun _ => false) [1, 6, 41] (fr' := ⟨[(1, .str u), (6, .slice (toksAV l) l.length own4), (41, .bool false)], [[.int .i64 0, .int .i64 0, .int .i64 0]], [], [], 0⟩) (σ' := σ) (ob := True ∧ True ∧ True ∧ True) (by kernel_rfl) ⟨trivial, trivial, trivial, trivial⟩ ?_
      refine ACode.cond (t := false) (by kernel_rfl) (fun h => Bool.noConfusion h) (fun _ => ?_)
      refine ACode.skip ?_
      refine ACode.seq ?_
      refine ACode.run hT (fun _ => false) [1, 6, 8] (fr' := ⟨[(1, .str u), (6, .slice (toksAV l) l.length own4), (8, .str [])], [[.int .i64 0, .int .i64 0, .int .i64 0]], [], [], 0⟩) (σ' := σ) (ob := True ∧ True) (by kernel_rfl) ⟨trivial, trivial⟩ ?_
      refine ACode.seq ?_
      refine ACode.seq ?_
      refine ACode.run hT (fun _ => false) [1, 6, 8, 42, 43, 44] (fr' := ⟨[(1, .str u), (6, .slice (toksAV l) l.length own4), (8, .str []), (42, .slice (toksAV l) l.length own4), (43, .int .i64 ((l.length : Nat) : Int)), (44, .int .i64 0)], [[.int .i64 0, .int .i64 0, .int .i64 0]], [], [], 0⟩) (σ' := σ) (ob := True ∧ True ∧ True ∧ True) (by kernel_rfl) ⟨trivial, trivial, trivial, trivial⟩ ?_
      refine ACode.block ?_
      refine ACode.loop [1, 6, 8, 42, 43, 44] 1 0 (fun n0 fr σ' => ∃ (i : Nat), fr = ⟨[(1, .str u), (6, .slice (toksAV l) l.length own4), (8, .str (noteT u 0 (l.take i))), (42, .slice (toksAV l) l.length own4), (43, .int .i64 ((l.length : Nat) : Int)), (44, .int .i64 (i : Int))], [[.int .i64 0, .int .i64 0, .int .i64 0]], [], [], 0⟩ ∧ σ = σ' ∧ (i ≤ l.length) ∧ n0 = l.length - i) _ (by kernel_rfl) ⟨0, rfl, rfl, Nat.zero_le _, rfl⟩ ?_
      rintro n0 fr σ' ⟨i, rfl, rfl, hP, rfl⟩
      have hB := hlenN i hP
      have hTx := htx i
      refine ACode.seq ?_
      refine ACode.run hT (fun _ => false) [1, 6, 8, 42, 43, 44, 45] (fr' := ⟨[(1, .str u), (6, .slice (toksAV l) l.length own4), (8, .str (noteT u 0 (l.take i))), (42, .slice (toksAV l) l.length own4), (43, .int .i64 ((l.length : Nat) : Int)), (44, .int .i64 (i : Int)), (45, .bool (decide ((i : Int) < ((l.length : Nat) : Int))))], [[.int .i64 0, .int .i64 0, .int .i64 0]], [], [], 0⟩) (σ' := σ) (ob := True ∧ True) (by kernel_rfl) ⟨trivial, trivial⟩ ?_
      refine ACode.seq ?_
      refine ACode.cond (t := decide ((i : Int) < ((l.length : Nat) : Int))) (by kernel_rfl) (fun h5 => ?_) (fun h5 => ?_)
      · -- true
        have h5k := of_decide_eq_true h5
        refine ACode.skip ?_
        refine ACode.seq ?_
        refine ACode.block ?_
        refine ACode.seq ?_
        refine ACode.region ?_
        refine AOps.runN hT (fun _ => false) 2 [1, 6, 8, 42, 43, 44, 46, 47] (fr' := ⟨[(1, .str u), (6, .slice (toksAV l) l.length own4), (8, .str (noteT u 0 (l.take i))), (42, .slice (toksAV l) l.length own4), (43, .int .i64 ((l.length : Nat) : Int)), (44, .int .i64 (i : Int)), (46, .int .i64 (i : Int)), (47, .dat (((toksAV l : List AV).drop (i * 5)).take 5))], [[.int .i64 0, .int .i64 0, .int .i64 0]], [], [], 0⟩) (σ' := σ) (ob := True ∧ (0 ≤ ((i : Int) : Int) ∧ ((i : Int) : Int) < (l.length : Nat) ∧ i * 5 ≤ (toksAV l : List AV).length) ∧ True) (by kernel_rfl) ⟨trivial, (by rw [toksAV_length]; omega), trivial⟩ ?_
        rw [toksAV_at l i (by omega)]
        refine AOps.runN hT (fun _ => false) 4 [1, 6, 8, 9, 10, 42, 43, 44] (fr' := ⟨[(1, .str u), (6, .slice (toksAV l) l.length own4), (8, .str (noteT u 0 (l.take i))), (9, .int .i64 (i : Int)), (10, .loc 1 0), (42, .slice (toksAV l) l.length own4), (43, .int .i64 ((l.length : Nat) : Int)), (44, .int .i64 (i : Int))], [[.int .i64 0, .int .i64 0, .int .i64 0], [.int .i64 ((l.getD i default).kind), .str ((l.getD i default).text), .int .u64 ((l.getD i default).n), .int .i64 ((l.getD i default).line), .int .i64 ((l.getD i default).col)]], [], [], 0⟩) (σ' := σ) (ob := (5 ≤ ([.int .i64 ((l.getD i default).kind), .str ((l.getD i default).text), .int .u64 ((l.getD i default).n), .int .i64 ((l.getD i default).line), .int .i64 ((l.getD i default).col)] : List AV).length) ∧ True ∧ True ∧ True ∧ True) (by kernel_rfl) ⟨(by first | omega | (simp; done) | (simp; omega)), trivial, trivial, trivial, trivial⟩ ?_
        refine AOps.nil ?_
        refine ACode.seq ?_
        refine ACode.run hT (fun _ => false) [1, 6, 8, 9, 42, 43, 44] (fr' := ⟨[(1, .str u), (6, .slice (toksAV l) l.length own4), (8, .str (((noteT u 0 (l.take i)) ++ ((l.getD i default).text)) ++ [32])), (9, .int .i64 (i : Int)), (42, .slice (toksAV l) l.length own4), (43, .int .i64 ((l.length : Nat) : Int)), (44, .int .i64 (i : Int))], [[.int .i64 0, .int .i64 0, .int .i64 0], [.int .i64 ((l.getD i default).kind), .str ((l.getD i default).text), .int .u64 ((l.getD i default).n), .int .i64 ((l.getD i default).line), .int .i64 ((l.getD i default).col)]], [], [], 0⟩) (σ' := σ) (ob := True ∧ True ∧ True ∧ (((((noteT u 0 (l.take i)) : List UInt8).length + (((l.getD i default).text) : List UInt8).length : Nat) : Int) ≤ 9223372036854775807) ∧ ((((((noteT u 0 (l.take i)) ++ ((l.getD i default).text)) : List UInt8).length + ([32] : List UInt8).length : Nat) : Int) ≤ 9223372036854775807) ∧ True ∧ True) (by kernel_rfl) ⟨trivial, trivial, trivial, (by first | omega | (simp only [List.length_append, List.length_cons, List.length_nil]; omega)), (by first | omega | (simp only [List.length_append, List.length_cons, List.length_nil]; omega)), trivial, trivial⟩ ?_
        refine ACode.seq ?_
        refine ACode.run hT (fun _ => false) [1, 6, 8, 42, 43, 44, 56] (fr' := ⟨[(1, .str u), (6, .slice (toksAV l) l.length own4), (8, .str (((noteT u 0 (l.take i)) ++ ((l.getD i default).text)) ++ [32])), (42, .slice (toksAV l) l.length own4), (43, .int .i64 ((l.length : Nat) : Int)), (44, .int .i64 (i : Int)), (56, .bool ((((i : Int) : Int).tmod 3) == 0))], [[.int .i64 0, .int .i64 0, .int .i64 0], [.int .i64 ((l.getD i default).kind), .str ((l.getD i default).text), .int .u64 ((l.getD i default).n), .int .i64 ((l.getD i default).line), .int .i64 ((l.getD i default).col)]], [], [], 0⟩) (σ' := σ) (ob := True ∧ ((3 : Int) ≠ 0) ∧ True ∧ True) (by kernel_rfl) ⟨trivial, (by first | omega | (simp; done) | (simp; omega)), trivial, trivial⟩ ?_
        refine ACode.cond (t := (((i : Int) : Int).tmod 3) == 0) (by kernel_rfl) (fun h6 => ?_) (fun h6 => ?_)
        · -- true
          have h6k := eq_of_beq h6
          refine ACode.run hT (fun _ => false) [1, 6, 8, 42, 43, 44] (fr' := ⟨[(1, .str u), (6, .slice (toksAV l) l.length own4), (8, .str ((((((noteT u 0 (l.take i)) ++ ((l.getD i default).text)) ++ [32]) ++ [9, 47, 47]) ++ u) ++ [10])), (42, .slice (toksAV l) l.length own4), (43, .int .i64 ((l.length : Nat) : Int)), (44, .int .i64 (i : Int))], [[.int .i64 0, .int .i64 0, .int .i64 0], [.int .i64 ((l.getD i default).kind), .str ((l.getD i default).text), .int .u64 ((l.getD i default).n), .int .i64 ((l.getD i default).line), .int .i64 ((l.getD i default).col)]], [], [], 0⟩) (σ' := σ) (ob := True ∧ (((((((noteT u 0 (l.take i)) ++ ((l.getD i default).text)) ++ [32]) : List UInt8).length + ([9, 47, 47] : List UInt8).length : Nat) : Int) ≤ 9223372036854775807) ∧ True ∧ ((((((((noteT u 0 (l.take i)) ++ ((l.getD i default).text)) ++ [32]) ++ [9, 47, 47]) : List UInt8).length + (u : List UInt8).length : Nat) : Int) ≤ 9223372036854775807) ∧ (((((((((noteT u 0 (l.take i)) ++ ((l.getD i default).text)) ++ [32]) ++ [9, 47, 47]) ++ u) : List UInt8).length + ([10] : List UInt8).length : Nat) : Int) ≤ 9223372036854775807) ∧ True ∧ True) (by kernel_rfl) ⟨trivial, (by first | omega | (simp only [List.length_append, List.length_cons, List.length_nil]; omega)), trivial, (by first | omega | (simp only [List.length_append, List.length_cons, List.length_nil]; omega)), (by first | omega | (simp only [List.length_append, List.length_cons, List.length_nil]; omega)), trivial, trivial⟩ ?_
          refine ACode.run hT (fun _ => false) [1, 6, 8, 42, 43, 44] (fr' := ⟨[(1, .str u), (6, .slice (toksAV l) l.length own4), (8, .str ((((((noteT u 0 (l.take i)) ++ ((l.getD i default).text)) ++ [32]) ++ [9, 47, 47]) ++ u) ++ [10])), (42, .slice (toksAV l) l.length own4), (43, .int .i64 ((l.length : Nat) : Int)), (44, .int .i64 (IntKind.i64.wrap ((i : Int) + 1)))], [[.int .i64 0, .int .i64 0, .int .i64 0], [.int .i64 ((l.getD i default).kind), .str ((l.getD i default).text), .int .u64 ((l.getD i default).n), .int .i64 ((l.getD i default).line), .int .i64 ((l.getD i default).col)]], [], [], 0⟩) (σ' := σ) (ob := True ∧ True ∧ True) (by kernel_rfl) ⟨trivial, trivial, trivial⟩ ?_
          rw [IntWalk.i64_in ((i : Int) + 1) (by omega)]
          refine ⟨by kernel_rfl, _, ?_, i + 1, (by rw [noteT_yes u l i (by omega) h6k]; rfl), rfl, ?_, rfl⟩
          · omega
          · exact (by omega)
        · -- false
          have h6k := ne_of_beq_false h6
          refine ACode.skip ?_
          refine ACode.run hT (fun _ => false) [1, 6, 8, 42, 43, 44] (fr' := ⟨[(1, .str u), (6, .slice (toksAV l) l.length own4), (8, .str (((noteT u 0 (l.take i)) ++ ((l.getD i default).text)) ++ [32])), (42, .slice (toksAV l) l.length own4), (43, .int .i64 ((l.length : Nat) : Int)), (44, .int .i64 (IntKind.i64.wrap ((i : Int) + 1)))], [[.int .i64 0, .int .i64 0, .int .i64 0], [.int .i64 ((l.getD i default).kind), .str ((l.getD i default).text), .int .u64 ((l.getD i default).n), .int .i64 ((l.getD i default).line), .int .i64 ((l.getD i default).col)]], [], [], 0⟩) (σ' := σ) (ob := True ∧ True ∧ True) (by kernel_rfl) ⟨trivial, trivial, trivial⟩ ?_
          rw [IntWalk.i64_in ((i : Int) + 1) (by omega)]
          refine ⟨by kernel_rfl, _, ?_, i + 1, (by rw [noteT_no u l i (by omega) h6k]; rfl), rfl, ?_, rfl⟩
          · omega
          · exact (by omega)
      · -- false
        have h5k := of_decide_eq_false h5
        refine ACode.exit ?_
        refine ACode.seq ?_
        refine ACode.seq ?_
        refine ACode.run hT (fun _ => false) [6, 8, 65] (fr' := ⟨[(6, .slice (toksAV l) l.length own4), (8, .str (noteT u 0 (l.take i))), (65, .bool (decide ((((noteT u 0 (l.take i)) : List UInt8).length : Int) > 8192)))], [[.int .i64 0, .int .i64 0, .int .i64 0]], [], [], 0⟩) (σ' := σ) (ob := True ∧ True ∧ True ∧ True) (by kernel_rfl) ⟨trivial, trivial, trivial, trivial⟩ ?_
        refine ACode.cond (t := decide ((((noteT u 0 (l.take i)) : List UInt8).length : Int) > 8192)) (by kernel_rfl) (fun h7 => ?_) (fun h7 => ?_)
        · -- true
          have h7k := of_decide_eq_true h7
          refine ACode.seq ?_
          refine ACode.run hT (fun _ => false) [4] (fr' := ⟨[(4, .bool true)], [[.int .i64 0, .int .i64 0, .int .i64 0]], [], [], 0⟩) (σ' := σ) (ob := True ∧ True) (by kernel_rfl) ⟨trivial, trivial⟩ ?_
          refine ACode.ret ?_
          refine retQ.ret (.bool true) (by kernel_rfl) ?_
          exact ⟨rfl, rfl⟩
        · -- false
          have h7k := of_decide_eq_false h7
          refine ACode.skip ?_
          refine ACode.seq ?_
          refine ACode.region ?_
          refine AOps.runN hT (fun _ => false) 1 [6, 67] (fr' := ⟨[(6, .slice (toksAV l) l.length own4), (67, .str (noteT u 0 (l.take i)))], [[.int .i64 0, .int .i64 0, .int .i64 0]], [], [], 0⟩) (σ' := σ) (ob := True ∧ True) (by kernel_rfl) ⟨trivial, trivial⟩ ?_
          refine AOps.call (fid := 15) (cap := []) (avs := [.str (noteT u 0 (l.take i))]) (by kernel_rfl) rfl (by kernel_rfl) (by kernel_rfl) en_15 (by kernel_rfl) (ACalls.mono (lex_ok (noteT u 0 (l.take i)) m (hm i (by omega) (no10 (by omega) hn0) (by omega)) _) ?_)
          rintro _ _ ⟨rfl, own6, hown6, rfl⟩
          refine AOps.runN hT (fun _ => false) 6 [6, 11, 12] (fr' := ⟨[(6, .slice (toksAV l) l.length own4), (11, .slice (toksAV m) m.length own6), (12, .loc 1 0)], [[.int .i64 0, .int .i64 0, .int .i64 0], [.int .i64 0, .int .i64 0, .int .i64 0]], [], [], 0⟩) (σ' := σ) (ob := True ∧ True ∧ True ∧ True ∧ True ∧ True ∧ True) (by kernel_rfl) ⟨trivial, trivial, trivial, trivial, trivial, trivial, trivial⟩ ?_
          refine AOps.nil ?_
          refine ACode.seq ?_
          refine ACode.seq ?_
          refine ACode.region ?_
          refine AOps.runN hT (fun _ => false) 10 [6, 11, 80] (fr' := ⟨[(6, .slice (toksAV l) l.length own4), (11, .slice (toksAV m) m.length own6), (80, .bool (((m.length : Nat) : Int) != ((l.length : Nat) : Int)))], [[.int .i64 0, .int .i64 0, .int .i64 0], [.int .i64 0, .int .i64 0, .int .i64 0]], [], [], 0⟩) (σ' := σ) (ob := True ∧ True ∧ True ∧ True ∧ True ∧ True ∧ True ∧ True ∧ True ∧ True ∧ True) (by kernel_rfl) ⟨trivial, trivial, trivial, trivial, trivial, trivial, trivial, trivial, trivial, trivial, trivial⟩ ?_
          refine AOps.nil ?_
          refine ACode.cond (t := ((m.length : Nat) : Int) != ((l.length : Nat) : Int)) (by kernel_rfl) (fun h8 => ?_) (fun h8 => ?_)
          · -- true
            have h8k := h8; simp only [Bool.and_eq_true, Bool.or_eq_true, Bool.and_eq_false_iff, Bool.or_eq_false_iff, decide_eq_true_eq, decide_eq_false_iff_not, beq_iff_eq, bne_iff_ne, ne_eq, Bool.not_eq_true', Bool.not_eq_false', beq_eq_false_iff_ne, bne_eq_false_iff_eq] at h8k
            refine ACode.seq ?_
            refine ACode.run hT (fun _ => false) [4] (fr' := ⟨[(4, .bool false)], [[.int .i64 0, .int .i64 0, .int .i64 0], [.int .i64 0, .int .i64 0, .int .i64 0]], [], [], 0⟩) (σ' := σ) (ob := True ∧ True) (by kernel_rfl) ⟨trivial, trivial⟩ ?_
            refine ACode.ret ?_
            refine retQ.ret (.bool false) (by kernel_rfl) ?_
            exfalso
            rw [hml] at h8
            simp at h8
          · -- false
            have h8k := h8; simp only [Bool.and_eq_true, Bool.or_eq_true, Bool.and_eq_false_iff, Bool.or_eq_false_iff, decide_eq_true_eq, decide_eq_false_iff_not, beq_iff_eq, bne_iff_ne, ne_eq, Bool.not_eq_true', Bool.not_eq_false', beq_eq_false_iff_ne, bne_eq_false_iff_eq] at h8k
            refine ACode.skip ?_
            refine ACode.seq ?_
            refine ACode.seq ?_
            refine ACode.run hT (fun _ => false) [6, 11, 82, 83] (fr' := ⟨[(6, .slice (toksAV l) l.length own4), (11, .slice (toksAV m) m.length own6), (82, .int .i64 ((l.length : Nat) : Int)), (83, .int .i64 0)], [[.int .i64 0, .int .i64 0, .int .i64 0], [.int .i64 0, .int .i64 0, .int .i64 0]], [], [], 0⟩) (σ' := σ) (ob := True ∧ True ∧ True ∧ True) (by kernel_rfl) ⟨trivial, trivial, trivial, trivial⟩ ?_
            refine ACode.block ?_
            refine ACode.loop [6, 11, 82, 83] 2 0 (fun n0 fr σ' => ∃ (i : Nat), fr = ⟨[(6, .slice (toksAV l) l.length own4), (11, .slice (toksAV m) m.length own6), (82, .int .i64 ((l.length : Nat) : Int)), (83, .int .i64 (i : Int))], [[.int .i64 0, .int .i64 0, .int .i64 0], [.int .i64 0, .int .i64 0, .int .i64 0]], [], [], 0⟩ ∧ σ = σ' ∧ (i ≤ l.length) ∧ n0 = l.length - i) _ (by kernel_rfl) ⟨0, rfl, rfl, Nat.zero_le _, rfl⟩ ?_
            rintro n0 fr σ' ⟨i, rfl, rfl, hP, rfl⟩
            refine ACode.seq ?_
            refine ACode.run hT (fun _ => false) [6, 11, 82, 83, 84] (fr' := ⟨[(6, .slice (toksAV l) l.length own4), (11, .slice (toksAV m) m.length own6), (82, .int .i64 ((l.length : Nat) : Int)), (83, .int .i64 (i : Int)), (84, .bool (decide ((i : Int) < ((l.length : Nat) : Int))))], [[.int .i64 0, .int .i64 0, .int .i64 0], [.int .i64 0, .int .i64 0, .int .i64 0]], [], [], 0⟩) (σ' := σ) (ob := True ∧ True) (by kernel_rfl) ⟨trivial, trivial⟩ ?_
            refine ACode.seq ?_
            refine ACode.cond (t := decide ((i : Int) < ((l.length : Nat) : Int))) (by kernel_rfl) (fun h9 => ?_) (fun h9 => ?_)
            · -- true
              have h9k := of_decide_eq_true h9
              refine ACode.skip ?_
              refine ACode.seq ?_
              refine ACode.block ?_
              refine ACode.seq ?_
              refine ACode.run hT (fun _ => false) [6, 11, 13, 82, 83] (fr' := ⟨[(6, .slice (toksAV l) l.length own4), (11, .slice (toksAV m) m.length own6), (13, .int .i64 (i : Int)), (82, .int .i64 ((l.length : Nat) : Int)), (83, .int .i64 (i : Int))], [[.int .i64 0, .int .i64 0, .int .i64 0], [.int .i64 0, .int .i64 0, .int .i64 0]], [], [], 0⟩) (σ' := σ) (ob := True ∧ True ∧ True) (by kernel_rfl) ⟨trivial, trivial, trivial⟩ ?_
              refine ACode.seq ?_
              refine ACode.meet ⟨[(6, .slice (toksAV l) l.length own4), (11, .slice (toksAV m) m.length own6), (82, .int .i64 ((l.length : Nat) : Int)), (83, .int .i64 (i : Int)), (122, .bool ((((l.getD i default).kind) != ((m.getD i default).kind)) || ((!(((l.getD i default).text) == ((m.getD i default).text))) || (((l.getD i default).n) != ((m.getD i default).n)))))], [[.int .i64 0, .int .i64 0, .int .i64 0], [.int .i64 0, .int .i64 0, .int .i64 0]], [], [], 0⟩ σ ?_ ?_
              ·
                refine ACode.draw [] 2 [] 0 (by kernel_rfl) (by kernel_rfl) ?_
                refine AAny.run hT (fun _ => false) (fuel := 34) [0, 1, 2] [6, 11, 13, 82, 83, 88] (fz' := true) (l' := #[true, true, true, false, false, false, false, false, false, false, false, false, false, false, false, false, false, false, false, false, false, false, false, false, false, false, false, false, false, false, false, false, false, false, false, false, false]) (fr' := ⟨[(6, .slice (toksAV l) l.length own4), (11, .slice (toksAV m) m.length own6), (13, .int .i64 (i : Int)), (82, .int .i64 ((l.length : Nat) : Int)), (83, .int .i64 (i : Int)), (88, .dat (((toksAV l : List AV).drop (i * 5)).take 5))], [[.int .i64 0, .int .i64 0, .int .i64 0], [.int .i64 0, .int .i64 0, .int .i64 0]], [], [], 0⟩) (σ' := σ) (ob := True ∧ True ∧ (0 ≤ ((i : Int) : Int) ∧ ((i : Int) : Int) < (l.length : Nat) ∧ i * 5 ≤ (toksAV l : List AV).length) ∧ True) (by kernel_rfl) (by kernel_rfl) ⟨trivial, trivial, (by rw [toksAV_length]; omega), trivial⟩ ?_
                rw [toksAV_at l i (by omega)]
                refine AAny.run hT (fun _ => false) (fuel := 29) [3, 4, 5, 6, 7] [6, 11, 13, 82, 83, 90, 93] (fz' := true) (l' := #[true, true, true, true, true, true, true, true, false, false, false, false, false, false, false, false, false, false, false, false, false, false, false, false, false, false, false, false, false, false, false, false, false, false, false, false, false]) (fr' := ⟨[(6, .slice (toksAV l) l.length own4), (11, .slice (toksAV m) m.length own6), (13, .int .i64 (i : Int)), (82, .int .i64 ((l.length : Nat) : Int)), (83, .int .i64 (i : Int)), (90, .int .i64 ((l.getD i default).kind)), (93, .dat (((toksAV m : List AV).drop (i * 5)).take 5))], [[.int .i64 0, .int .i64 0, .int .i64 0], [.int .i64 0, .int .i64 0, .int .i64 0]], [], [], 0⟩) (σ' := σ) (ob := (0 ≤ ([.int .i64 ((l.getD i default).kind), .str ((l.getD i default).text), .int .u64 ((l.getD i default).n), .int .i64 ((l.getD i default).line), .int .i64 ((l.getD i default).col)] : List AV).length) ∧ True ∧ True ∧ True ∧ (0 ≤ ((i : Int) : Int) ∧ ((i : Int) : Int) < (m.length : Nat) ∧ i * 5 ≤ (toksAV m : List AV).length) ∧ True) (by kernel_rfl) (by kernel_rfl) ⟨(by first | omega | (simp; done) | (simp; omega)), trivial, trivial, trivial, (by rw [toksAV_length]; omega), trivial⟩ ?_
                rw [toksAV_at m i (by omega)]
                refine AAny.run hT (fun _ => false) (fuel := 25) [8, 9, 10, 11] [6, 11, 13, 82, 83, 97] (fz' := true) (l' := #[true, true, true, true, true, true, true, true, true, true, true, true, false, false, false, false, false, false, false, false, false, false, false, false, false, false, false, false, false, false, false, false, false, false, false, false, false]) (fr' := ⟨[(6, .slice (toksAV l) l.length own4), (11, .slice (toksAV m) m.length own6), (13, .int .i64 (i : Int)), (82, .int .i64 ((l.length : Nat) : Int)), (83, .int .i64 (i : Int)), (97, .bool (((l.getD i default).kind) != ((m.getD i default).kind)))], [[.int .i64 0, .int .i64 0, .int .i64 0], [.int .i64 0, .int .i64 0, .int .i64 0]], [], [], 0⟩) (σ' := σ) (ob := (0 ≤ ([.int .i64 ((m.getD i default).kind), .str ((m.getD i default).text), .int .u64 ((m.getD i default).n), .int .i64 ((m.getD i default).line), .int .i64 ((m.getD i default).col)] : List AV).length) ∧ True ∧ True ∧ True ∧ True) (by kernel_rfl) (by kernel_rfl) ⟨(by first | omega | (simp; done) | (simp; omega)), trivial, trivial, trivial, trivial⟩ ?_
                cases h10 : (((l.getD i default).kind) != ((m.getD i default).kind))
                · -- ((l.getD i default).kind) != ((m.getD i default).kind) is false
                  have h10k := h10; simp only [Bool.and_eq_true, Bool.or_eq_true, Bool.and_eq_false_iff, Bool.or_eq_false_iff, decide_eq_true_eq, decide_eq_false_iff_not, beq_iff_eq, bne_iff_ne, ne_eq, Bool.not_eq_true', Bool.not_eq_false', beq_eq_false_iff_ne, bne_eq_false_iff_eq] at h10k
                  refine AAny.run hT (fun _ => false) (fuel := 22) [12, 13, 14] [6, 11, 13, 82, 83, 97, 100] (fz' := true) (l' := #[true, true, true, true, true, true, true, true, true, true, true, true, true, true, true, false, false, false, false, false, false, false, false, false, false, false, false, false, false, false, false, false, false, false, false, false, false]) (fr' := ⟨[(6, .slice (toksAV l) l.length own4), (11, .slice (toksAV m) m.length own6), (13, .int .i64 (i : Int)), (82, .int .i64 ((l.length : Nat) : Int)), (83, .int .i64 (i : Int)), (97, .bool false), (100, .dat (((toksAV l : List AV).drop (i * 5)).take 5))], [[.int .i64 0, .int .i64 0, .int .i64 0], [.int .i64 0, .int .i64 0, .int .i64 0]], [], [], 0⟩) (σ' := σ) (ob := True ∧ True ∧ (0 ≤ ((i : Int) : Int) ∧ ((i : Int) : Int) < (l.length : Nat) ∧ i * 5 ≤ (toksAV l : List AV).length) ∧ True) (by kernel_rfl) (by kernel_rfl) ⟨trivial, trivial, (by rw [toksAV_length]; omega), trivial⟩ ?_
                  rw [toksAV_at l i (by omega)]
                  refine AAny.run hT (fun _ => false) (fuel := 17) [15, 16, 17, 18, 19] [6, 11, 13, 82, 83, 97, 102, 105] (fz' := true) (l' := #[true, true, true, true, true, true, true, true, true, true, true, true, true, true, true, true, true, true, true, true, false, false, false, false, false, false, false, false, false, false, false, false, false, false, false, false, false]) (fr' := ⟨[(6, .slice (toksAV l) l.length own4), (11, .slice (toksAV m) m.length own6), (13, .int .i64 (i : Int)), (82, .int .i64 ((l.length : Nat) : Int)), (83, .int .i64 (i : Int)), (97, .bool false), (102, .str ((l.getD i default).text)), (105, .dat (((toksAV m : List AV).drop (i * 5)).take 5))], [[.int .i64 0, .int .i64 0, .int .i64 0], [.int .i64 0, .int .i64 0, .int .i64 0]], [], [], 0⟩) (σ' := σ) (ob := (1 ≤ ([.int .i64 ((l.getD i default).kind), .str ((l.getD i default).text), .int .u64 ((l.getD i default).n), .int .i64 ((l.getD i default).line), .int .i64 ((l.getD i default).col)] : List AV).length) ∧ True ∧ True ∧ True ∧ (0 ≤ ((i : Int) : Int) ∧ ((i : Int) : Int) < (m.length : Nat) ∧ i * 5 ≤ (toksAV m : List AV).length) ∧ True) (by kernel_rfl) (by kernel_rfl) ⟨(by first | omega | (simp; done) | (simp; omega)), trivial, trivial, trivial, (by rw [toksAV_length]; omega), trivial⟩ ?_
                  rw [toksAV_at m i (by omega)]
                  refine AAny.run hT (fun _ => false) (fuel := 12) [20, 21, 22, 23, 24] [6, 11, 13, 82, 83, 110] (fz' := true) (l' := #[true, true, true, true, true, true, true, true, true, true, true, true, true, true, true, true, true, true, true, true, true, true, true, true, true, false, false, false, false, false, false, false, false, false, false, false, false]) (fr' := ⟨[(6, .slice (toksAV l) l.length own4), (11, .slice (toksAV m) m.length own6), (13, .int .i64 (i : Int)), (82, .int .i64 ((l.length : Nat) : Int)), (83, .int .i64 (i : Int)), (110, .bool (!(((l.getD i default).text) == ((m.getD i default).text))))], [[.int .i64 0, .int .i64 0, .int .i64 0], [.int .i64 0, .int .i64 0, .int .i64 0]], [], [], 0⟩) (σ' := σ) (ob := (1 ≤ ([.int .i64 ((m.getD i default).kind), .str ((m.getD i default).text), .int .u64 ((m.getD i default).n), .int .i64 ((m.getD i default).line), .int .i64 ((m.getD i default).col)] : List AV).length) ∧ True ∧ True ∧ True ∧ True ∧ True) (by kernel_rfl) (by kernel_rfl) ⟨(by first | omega | (simp; done) | (simp; omega)), trivial, trivial, trivial, trivial, trivial⟩ ?_
                  cases h11 : (!(((l.getD i default).text) == ((m.getD i default).text)))
                  · -- !(((l.getD i default).text) == ((m.getD i default).text)) is false
                    have h11k := h11; simp only [Bool.and_eq_true, Bool.or_eq_true, Bool.and_eq_false_iff, Bool.or_eq_false_iff, decide_eq_true_eq, decide_eq_false_iff_not, beq_iff_eq, bne_iff_ne, ne_eq, Bool.not_eq_true', Bool.not_eq_false', beq_eq_false_iff_ne, bne_eq_false_iff_eq] at h11k
                    refine AAny.run hT (fun _ => false) (fuel := 9) [25, 26, 27] [6, 11, 13, 82, 83, 110, 113] (fz' := true) (l' := #[true, true, true, true, true, true, true, true, true, true, true, true, true, true, true, true, true, true, true, true, true, true, true, true, true, true, true, true, false, false, false, false, false, false, false, false, false]) (fr' := ⟨[(6, .slice (toksAV l) l.length own4), (11, .slice (toksAV m) m.length own6), (13, .int .i64 (i : Int)), (82, .int .i64 ((l.length : Nat) : Int)), (83, .int .i64 (i : Int)), (110, .bool false), (113, .dat (((toksAV l : List AV).drop (i * 5)).take 5))], [[.int .i64 0, .int .i64 0, .int .i64 0], [.int .i64 0, .int .i64 0, .int .i64 0]], [], [], 0⟩) (σ' := σ) (ob := True ∧ True ∧ (0 ≤ ((i : Int) : Int) ∧ ((i : Int) : Int) < (l.length : Nat) ∧ i * 5 ≤ (toksAV l : List AV).length) ∧ True) (by kernel_rfl) (by kernel_rfl) ⟨trivial, trivial, (by rw [toksAV_length]; omega), trivial⟩ ?_
                    rw [toksAV_at l i (by omega)]
                    refine AAny.run hT (fun _ => false) (fuel := 4) [28, 29, 30, 31, 32] [6, 11, 82, 83, 110, 115, 118] (fz' := true) (l' := #[true, true, true, true, true, true, true, true, true, true, true, true, true, true, true, true, true, true, true, true, true, true, true, true, true, true, true, true, true, true, true, true, true, false, false, false, false]) (fr' := ⟨[(6, .slice (toksAV l) l.length own4), (11, .slice (toksAV m) m.length own6), (82, .int .i64 ((l.length : Nat) : Int)), (83, .int .i64 (i : Int)), (110, .bool false), (115, .int .u64 ((l.getD i default).n)), (118, .dat (((toksAV m : List AV).drop (i * 5)).take 5))], [[.int .i64 0, .int .i64 0, .int .i64 0], [.int .i64 0, .int .i64 0, .int .i64 0]], [], [], 0⟩) (σ' := σ) (ob := (2 ≤ ([.int .i64 ((l.getD i default).kind), .str ((l.getD i default).text), .int .u64 ((l.getD i default).n), .int .i64 ((l.getD i default).line), .int .i64 ((l.getD i default).col)] : List AV).length) ∧ True ∧ True ∧ True ∧ (0 ≤ ((i : Int) : Int) ∧ ((i : Int) : Int) < (m.length : Nat) ∧ i * 5 ≤ (toksAV m : List AV).length) ∧ True) (by kernel_rfl) (by kernel_rfl) ⟨(by first | omega | (simp; done) | (simp; omega)), trivial, trivial, trivial, (by rw [toksAV_length]; omega), trivial⟩ ?_
                    rw [toksAV_at m i (by omega)]
                    refine AAny.run hT (fun _ => false) (fuel := 0) [33, 34, 35, 36] [6, 11, 82, 83, 122] (fz' := true) (l' := #[true, true, true, true, true, true, true, true, true, true, true, true, true, true, true, true, true, true, true, true, true, true, true, true, true, true, true, true, true, true, true, true, true, true, true, true, true]) (fr' := ⟨[(6, .slice (toksAV l) l.length own4), (11, .slice (toksAV m) m.length own6), (82, .int .i64 ((l.length : Nat) : Int)), (83, .int .i64 (i : Int)), (122, .bool (((l.getD i default).n) != ((m.getD i default).n)))], [[.int .i64 0, .int .i64 0, .int .i64 0], [.int .i64 0, .int .i64 0, .int .i64 0]], [], [], 0⟩) (σ' := σ) (ob := (2 ≤ ([.int .i64 ((m.getD i default).kind), .str ((m.getD i default).text), .int .u64 ((m.getD i default).n), .int .i64 ((m.getD i default).line), .int .i64 ((m.getD i default).col)] : List AV).length) ∧ True ∧ True ∧ True ∧ True) (by kernel_rfl) (by kernel_rfl) ⟨(by first | omega | (simp; done) | (simp; omega)), trivial, trivial, trivial, trivial⟩ ?_
                    refine AAny.done (by kernel_rfl) ?_
                    exact ⟨rfl, rfl⟩
                  · -- !(((l.getD i default).text) == ((m.getD i default).text)) is true
                    have h11k := h11; simp only [Bool.and_eq_true, Bool.or_eq_true, Bool.and_eq_false_iff, Bool.or_eq_false_iff, decide_eq_true_eq, decide_eq_false_iff_not, beq_iff_eq, bne_iff_ne, ne_eq, Bool.not_eq_true', Bool.not_eq_false', beq_eq_false_iff_ne, bne_eq_false_iff_eq] at h11k
                    refine AAny.run hT (fun _ => false) (fuel := 0) [25, 26, 27, 28, 29, 30, 31, 32, 33, 34, 35, 36] [6, 11, 82, 83, 122] (fz' := true) (l' := #[true, true, true, true, true, true, true, true, true, true, true, true, true, true, true, true, true, true, true, true, true, true, true, true, true, true, true, true, true, true, true, true, true, true, true, true, true]) (fr' := ⟨[(6, .slice (toksAV l) l.length own4), (11, .slice (toksAV m) m.length own6), (82, .int .i64 ((l.length : Nat) : Int)), (83, .int .i64 (i : Int)), (122, .bool true)], [[.int .i64 0, .int .i64 0, .int .i64 0], [.int .i64 0, .int .i64 0, .int .i64 0]], [], [], 0⟩) (σ' := σ) (ob := True ∧ True ∧ True ∧ True ∧ True ∧ True ∧ True ∧ True ∧ True ∧ True ∧ True ∧ True ∧ True) (by kernel_rfl) (by kernel_rfl) ⟨trivial, trivial, trivial, trivial, trivial, trivial, trivial, trivial, trivial, trivial, trivial, trivial, trivial⟩ ?_
                    refine AAny.done (by kernel_rfl) ?_
                    exact ⟨rfl, rfl⟩
                · -- ((l.getD i default).kind) != ((m.getD i default).kind) is true
                  have h10k := h10; simp only [Bool.and_eq_true, Bool.or_eq_true, Bool.and_eq_false_iff, Bool.or_eq_false_iff, decide_eq_true_eq, decide_eq_false_iff_not, beq_iff_eq, bne_iff_ne, ne_eq, Bool.not_eq_true', Bool.not_eq_false', beq_eq_false_iff_ne, bne_eq_false_iff_eq] at h10k
                  refine AAny.run hT (fun _ => false) (fuel := 0) [12, 13, 14, 15, 16, 17, 18, 19, 20, 21, 22, 23, 24, 25, 26, 27, 28, 29, 30, 31, 32, 33, 34, 35, 36] [6, 11, 82, 83, 122] (fz' := true) (l' := #[true, true, true, true, true, true, true, true, true, true, true, true, true, true, true, true, true, true, true, true, true, true, true, true, true, true, true, true, true, true, true, true, true, true, true, true, true]) (fr' := ⟨[(6, .slice (toksAV l) l.length own4), (11, .slice (toksAV m) m.length own6), (82, .int .i64 ((l.length : Nat) : Int)), (83, .int .i64 (i : Int)), (122, .bool true)], [[.int .i64 0, .int .i64 0, .int .i64 0], [.int .i64 0, .int .i64 0, .int .i64 0]], [], [], 0⟩) (σ' := σ) (ob := True ∧ True ∧ True ∧ True ∧ True ∧ True ∧ True ∧ True ∧ True ∧ True ∧ True ∧ True ∧ True ∧ True ∧ True ∧ True ∧ True ∧ True ∧ True ∧ True ∧ True ∧ True ∧ True ∧ True ∧ True ∧ True) (by kernel_rfl) (by kernel_rfl) ⟨trivial, trivial, trivial, trivial, trivial, trivial, trivial, trivial, trivial, trivial, trivial, trivial, trivial, trivial, trivial, trivial, trivial, trivial, trivial, trivial, trivial, trivial, trivial, trivial, trivial, trivial⟩ ?_
                  refine AAny.done (by kernel_rfl) ?_
                  exact ⟨rfl, rfl⟩
              -- on
              refine ACode.cond (t := (((l.getD i default).kind) != ((m.getD i default).kind)) || ((!(((l.getD i default).text) == ((m.getD i default).text))) || (((l.getD i default).n) != ((m.getD i default).n)))) (by kernel_rfl) (fun h12 => ?_) (fun h12 => ?_)
              · -- true
                have h12k := h12; simp only [Bool.and_eq_true, Bool.or_eq_true, Bool.and_eq_false_iff, Bool.or_eq_false_iff, decide_eq_true_eq, decide_eq_false_iff_not, beq_iff_eq, bne_iff_ne, ne_eq, Bool.not_eq_true', Bool.not_eq_false', beq_eq_false_iff_ne, bne_eq_false_iff_eq] at h12k
                refine ACode.seq ?_
                refine ACode.run hT (fun _ => false) [4] (fr' := ⟨[(4, .bool false)], [[.int .i64 0, .int .i64 0, .int .i64 0], [.int .i64 0, .int .i64 0, .int .i64 0]], [], [], 0⟩) (σ' := σ) (ob := True ∧ True) (by kernel_rfl) ⟨trivial, trivial⟩ ?_
                refine ACode.ret ?_
                refine retQ.ret (.bool false) (by kernel_rfl) ?_
                exfalso
                obtain ⟨q1, q2, q3⟩ := hk i (by omega)
                rw [q1, q2, q3] at h12
                simp at h12
              · -- false
                have h12k := h12; simp only [Bool.and_eq_true, Bool.or_eq_true, Bool.and_eq_false_iff, Bool.or_eq_false_iff, decide_eq_true_eq, decide_eq_false_iff_not, beq_iff_eq, bne_iff_ne, ne_eq, Bool.not_eq_true', Bool.not_eq_false', beq_eq_false_iff_ne, bne_eq_false_iff_eq] at h12k
                refine ACode.skip ?_
                refine ACode.run hT (fun _ => false) [6, 11, 82, 83] (fr' := ⟨[(6, .slice (toksAV l) l.length own4), (11, .slice (toksAV m) m.length own6), (82, .int .i64 ((l.length : Nat) : Int)), (83, .int .i64 (IntKind.i64.wrap ((i : Int) + 1)))], [[.int .i64 0, .int .i64 0, .int .i64 0], [.int .i64 0, .int .i64 0, .int .i64 0]], [], [], 0⟩) (σ' := σ) (ob := True ∧ True ∧ True) (by kernel_rfl) ⟨trivial, trivial, trivial⟩ ?_
                rw [IntWalk.i64_in ((i : Int) + 1) (by omega)]
                refine ⟨by kernel_rfl, _, ?_, i + 1, rfl, rfl, ?_, rfl⟩
                · omega
                · exact (by omega)
            · -- false
              have h9k := of_decide_eq_false h9
              refine ACode.exit ?_
              refine ACode.seq ?_
              refine ACode.run hT (fun _ => false) [4] (fr' := ⟨[(4, .bool true)], [[.int .i64 0, .int .i64 0, .int .i64 0], [.int .i64 0, .int .i64 0, .int .i64 0]], [], [], 0⟩) (σ' := σ) (ob := True ∧ True) (by kernel_rfl) ⟨trivial, trivial⟩ ?_
              refine ACode.ret ?_
              refine retQ.ret (.bool true) (by kernel_rfl) ?_
              exact ⟨rfl, rfl⟩
theorem lexNotes_early (t u : List UInt8) (σ : St) (hbig : 4096 < t.length ∨ 20 < u.length) : ACalls Tryd.prog 7 [.str t, .str u] σ (fun e s => σ = s ∧ e = .ret (.bool true)) := by
  refine ACalls.enter hT Tryd.func7 rfl (by kernel_rfl) ?_
  refine ACode.seq ?_
  refine ACode.run hT (fun _ => false) [0, 1] (fr' := ⟨[(0, .str t), (1, .str u)], [], [], [], 0⟩) (σ' := σ) (ob := True ∧ True) (by kernel_rfl) ⟨trivial, trivial⟩ ?_
  refine ACode.seq ?_
  refine ACode.seq ?_
  refine ACode.region ?_
  refine AOps.call (fid := 10) (cap := []) (avs := []) (by kernel_rfl) rfl (by kernel_rfl) (by kernel_rfl) en_10 (by kernel_rfl) (ACalls.mono (alive_walk _) ?_)
  rintro _ _ ⟨rfl, rfl⟩
  refine AOps.runN hT (fun _ => false) 1 [0, 1, 15] (fr' := ⟨[(0, .str t), (1, .str u), (15, .bool false)], [], [], [], 0⟩) (σ' := σ) (ob := True ∧ True) (by kernel_rfl) ⟨trivial, trivial⟩ ?_
  refine AOps.nil ?_
  refine ACode.cond (t := false) (by kernel_rfl) (fun h => Bool.noConfusion h) (fun _ => ?_)
  refine ACode.skip ?_
  refine ACode.seq ?_
  refine ACode.seq ?_
  refine ACode.meet ⟨[(0, .str t), (1, .str u), (23, .bool ((decide ((((t) : List UInt8).length : Int) > 4096)) || (decide ((((u) : List UInt8).length : Int) > 20))))], [], [], [], 0⟩ σ (ACode.region ?_) ?_
  ·
    refine AOps.runN hT (fun _ => false) 4 [0, 1, 19] (fr' := ⟨[(0, .str t), (1, .str u), (19, .bool (decide ((((t) : List UInt8).length : Int) > 4096)))], [], [], [], 0⟩) (σ' := σ) (ob := True ∧ True ∧ True ∧ True ∧ True) (by kernel_rfl) ⟨trivial, trivial, trivial, trivial, trivial⟩ ?_
    cases h1 : (decide ((((t) : List UInt8).length : Int) > 4096))
    · -- decide ((((t) : List UInt8).length : Int) > 4096) is false
      have h1k := of_decide_eq_false h1
      refine AOps.runN hT (fun _ => false) 4 [0, 1, 23] (fr' := ⟨[(0, .str t), (1, .str u), (23, .bool (decide ((((u) : List UInt8).length : Int) > 20)))], [], [], [], 0⟩) (σ' := σ) (ob := True ∧ True ∧ True ∧ True ∧ True) (by kernel_rfl) ⟨trivial, trivial, trivial, trivial, trivial⟩ ?_
      refine AOps.weak [0, 1, 23] (AOps.nil ⟨rfl, rfl⟩)
    · -- decide ((((t) : List UInt8).length : Int) > 4096) is true
      have h1k := of_decide_eq_true h1
      refine AOps.runN hT (fun _ => false) 4 [0, 1, 23] (fr' := ⟨[(0, .str t), (1, .str u), (23, .bool true)], [], [], [], 0⟩) (σ' := σ) (ob := True ∧ True) (by kernel_rfl) ⟨trivial, trivial⟩ ?_
      refine AOps.weak [0, 1, 23] (AOps.nil ⟨rfl, rfl⟩)
  -- on
  refine ACode.cond (t := (decide ((((t) : List UInt8).length : Int) > 4096)) || (decide ((((u) : List UInt8).length : Int) > 20))) (by kernel_rfl) (fun h2 => ?_) (fun h2 => ?_)
  · -- true
    have h2k := h2; simp only [Bool.and_eq_true, Bool.or_eq_true, Bool.and_eq_false_iff, Bool.or_eq_false_iff, decide_eq_true_eq, decide_eq_false_iff_not, beq_iff_eq, bne_iff_ne, ne_eq, Bool.not_eq_true', Bool.not_eq_false', beq_eq_false_iff_ne, bne_eq_false_iff_eq] at h2k
    refine ACode.seq ?_
    refine ACode.run hT (fun _ => false) [4] (fr' := ⟨[(4, .bool true)], [], [], [], 0⟩) (σ' := σ) (ob := True ∧ True) (by kernel_rfl) ⟨trivial, trivial⟩ ?_
    refine ACode.ret ?_
    refine retQ.ret (.bool true) (by kernel_rfl) ?_
    exact ⟨rfl, rfl⟩
  · -- false
    have h2k := h2; simp only [Bool.and_eq_true, Bool.or_eq_true, Bool.and_eq_false_iff, Bool.or_eq_false_iff, decide_eq_true_eq, decide_eq_false_iff_not, beq_iff_eq, bne_iff_ne, ne_eq, Bool.not_eq_true', Bool.not_eq_false', beq_eq_false_iff_ne, bne_eq_false_iff_eq] at h2k
    have h2q := h2k.1
    have h2r := h2k.2
    omega

theorem lexNotes_walk (t u : List UInt8) (σ : St) : ACalls Tryd.prog 7 [.str t, .str u] σ (fun e s => σ = s ∧ e = .ret (.bool true)) := by
  by_cases h : t.length ≤ 4096
  · rcases lexS_cases t (by omega) with ⟨l, hl, h1, h2, h3⟩ | ⟨ln, cl, hl⟩
    · by_cases hu : u.length ≤ 20
      · obtain ⟨m, hm, hml, hk⟩ : ∃ m : List Tok, ((∀ x ∈ u, x ≠ 10) → (noteT u 0 l).length ≤ 8192 → lexS (noteT u 0 l) = (m, 0, 0, 0)) ∧ m.length = l.length ∧ ∀ i, i < l.length → (m.getD i default).kind = (l.getD i default).kind ∧ (m.getD i default).text = (l.getD i default).text ∧ (m.getD i default).n = (l.getD i default).n := by
          by_cases hb : (∀ x ∈ u, x ≠ 10) ∧ (noteT u 0 l).length ≤ 8192
          · have hz : (lexS t).2.1 = 0 := by rw [hl]
            have hb' : (noteT u 0 (lexS t).1).length ≤ 8192 := by rw [hl]; exact hb.2
            have := notes_plain t u hb.1 (by omega) hz hb'
            rw [hl] at this
            obtain ⟨q1, q2, q3⟩ := this
            exact ⟨(lexS (noteT u 0 l)).1, fun _ _ => by rw [← q1], q2, q3⟩
          · exact ⟨l, fun h8 h9 => absurd ⟨h8, h9⟩ hb, rfl, fun i _ => ⟨rfl, rfl, rfl⟩⟩
        refine lexNotes_ok t u l m σ hu hl (by omega) (fun i => Nat.le_trans (h3 i) h) ?_ (fun i hi hs => by rw [List.take_of_length_le hi]; exact hm hs) hml hk
        intro i hi
        have hl9 := noteT_len u 4096 (l.take i) 0 (by
          intro x hx
          obtain ⟨j, hj, rfl⟩ := List.mem_iff_getElem.1 (List.mem_of_mem_take hx)
          have := h3 j
          rw [List.getD_eq_getElem?_getD, List.getElem?_eq_getElem hj] at this
          exact Nat.le_trans this h)
        refine Nat.le_trans hl9 ?_
        have h8 : (l.take i).length ≤ 4097 := by rw [List.length_take]; omega
        exact Nat.le_trans (Nat.mul_le_mul (show 4096 + (u.length + 5) ≤ 4121 by omega) h8) (by decide)
      · exact lexNotes_early t u σ (by omega)
    · exact lexNotes_err t u 3 ln cl σ hl (by decide)
  · exact lexNotes_early t u σ (by omega)

end Go.AE

