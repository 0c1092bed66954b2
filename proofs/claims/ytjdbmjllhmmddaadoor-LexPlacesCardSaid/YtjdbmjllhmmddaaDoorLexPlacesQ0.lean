/- Parts of the proof of a law, in build order: RowL, RowM, W13. -/
import Derived.Test.YtjdbmjllhmmddaaDoorW12Q7
import Derived.Test.YtjdbmjllhmmddaaDoorCards
import Derived.Test.YtjdbmjllhmmddaaDoorTie
import Derived.WalkKit
import Derived.ProofKit
import Derived.OpenShut
import Derived.Deep.DeepHandedRow
import Derived.Deep.DeepWitnessRowRef
import Derived.Lib.LaidTab
import Derived.LaidMore
import Derived.LaidLaws
import Derived.Shelf.Vars
import Derived.IntWalk
set_option maxRecDepth 2000
set_option linter.unusedVariables false
set_option linter.unusedSimpArgs false
/- The rows of the lexer's laws: what the listed variables give, one start that fits, from a call that answers true to the row. -/
set_option linter.unusedVariables false
set_option linter.unusedSimpArgs false
namespace Go.Proofs.YtjdbmjllhmmddaaDoor
open Go.AE Go.ChangeShapes Go.WideShapes Go.ChangeAt Go.RowKit

theorem own : ownKnob Tryd.prog.godebug = none := by kernel_rfl
theorem gA : Tryd.prog.globalNamed "math/bits.deBruijn32tab" = some 4 := by kernel_rfl
theorem gB : Tryd.prog.globalNamed "math/bits.deBruijn64tab" = some 5 := by kernel_rfl
theorem gC : Tryd.prog.globalNamed "internal/strconv.uint64pow10" = some 3 := by kernel_rfl
theorem gD : Tryd.prog.globalNamed "strconv.ErrRange" = some 2 := by kernel_rfl
theorem gE : Tryd.prog.globalNamed "strconv.ErrSyntax" = some 1 := by kernel_rfl
theorem tyC : (Tryd.prog.globals[3]?).map (·.type) = some 138 := by kernel_rfl
theorem tyD : (Tryd.prog.globals[2]?).map (·.type) = some 95 := by kernel_rfl
theorem tyE : (Tryd.prog.globals[1]?).map (·.type) = some 95 := by kernel_rfl
theorem c138 : Tryd.prog.cellsOf 138 = 20 := by kernel_rfl
theorem c31 : Tryd.prog.cellsOf 31 = 1 := by kernel_rfl
theorem c95 : Tryd.prog.cellsOf 95 = 1 := by kernel_rfl
theorem star : "*" ++ "errors.errorString" = "*errors.errorString" := by decide
theorem row145 (u : TypeId) (h : Tryd.prog.typeName? 3 u = some "*errors.errorString") : u = 145 :=
  typeName_ptr_named (nm := "errors.errorString") (by rw [star]; kernel_rfl) (by kernel_rfl) (by decide) u (by rw [star]; exact h)

theorem gat_of_cells {W : World} {g : Nat} {cs : List AV} {vs : Array Value} (hv : ∃ e f, W.heap[g]? = some (.cells vs e f)) (hl : cs.length = vs.size) (h1 : ∀ x ∈ vs.toList, x.oneCell' = true) (hc : CRs (viewOf W) cs vs.toList) : GAt (viewOf W) g cs := by
  obtain ⟨e, f, hh⟩ := hv
  refine (show CR (viewOf W) (.dat cs) _ from ?_)
  simp only [CR]
  refine ⟨g, 0, rfl, lt_of_heap hh, ?_, ?_⟩
  · simp [viewOf, hh, hl]
  · refine CRat_of_list hc h1 fun j v hj => ?_
    show W.cell? _ = _
    rw [Nat.zero_add]
    simpa [World.cell?, hh] using hj

/-- A listed error. -/
theorem sentinel_cell {W : World} {g fuel : Nat} {cs : Array Value} {y : DataW Unit} {p : List MemPlace} {name : String} (hg : Tryd.prog.globalNamed name = some g) (hv : W.var? Tryd.prog name = some cs)
    (hd : DataW.trod (fun _ => ()) Tryd.prog W 0 (fun _ => true) false fuel 95 cs.toList = some (.iface "*errors.errorString" y, p)) : GAt (viewOf W) g [.iface 145 .any] := by
  have hu : Tryd.prog.underlying 95 = some (.interface _) := Tryd.underlying95
  have hcell : ∃ e f, W.heap[g]? = some (.cells cs e f) := by
    unfold World.var? at hv
    rw [hg] at hv
    simp only [Option.bind_some] at hv
    split at hv
    · rename_i c e f hh; injection hv with hv; subst hv; exact ⟨e, f, hh⟩
    · cases hv
  have hcs : ∃ x, cs.toList = [.iface 145 x] := by
    cases fuel with
    | zero => simp [DataW.trod] at hd
    | succ fuel =>
      generalize cs.toList = l at hd
      rcases l with _ | ⟨v, _ | ⟨v2, l⟩⟩
      · simp [DataW.trod, hu] at hd
      · cases v with
        | iface u v =>
          simp only [DataW.trod, hu] at hd
          cases hn : Tryd.prog.typeName? 3 u with
          | none => simp [hn] at hd
          | some nm =>
            simp only [hn, Option.map_eq_some_iff, Prod.mk.injEq, DataW.iface.injEq] at hd
            obtain ⟨a, _, ⟨rfl, _⟩, _⟩ := hd
            obtain rfl := row145 u hn
            exact ⟨v, rfl⟩
        | _ => simp [DataW.trod, hu] at hd
      · simp [DataW.trod, hu] at hd
  obtain ⟨x, hx⟩ := hcs
  have hsz : cs.size = 1 := by rw [← Array.length_toList, hx]; rfl
  exact gat_of_cells hcell (by rw [hsz]; rfl) (by rw [hx]; simp [Value.oneCell']) (by rw [hx]; simp [CRs, CR])

theorem gok {W : World} (hL : laidMetH Tryd.prog Rows.lexNamesRow.laid W) (hsh : W.ShapedOpen Tryd.prog) : GOK (viewOf W) := by
  rw [MakeChecks.laidMetH_plain _ _ _ (by kernel_rfl)] at hL
  obtain ⟨ps, ⟨g0, t0, cs0, f0, p0, q0, hg0, ht0, hv0, hd0, ⟨g1, t1, cs1, f1, p1, q1, hg1, ht1, hv1, hd1, ⟨g2, t2, cs2, f2, p2, q2, hg2, ht2, hv2, hd2, ⟨g3, t3, cs3, f3, p3, q3, hg3, ht3, hv3, hd3, ⟨g4, t4, cs4, f4, p4, q4, hg4, ht4, hv4, hd4, _, _⟩, _⟩, _⟩, _⟩, _⟩, _, _⟩ := hL
  obtain rfl := Option.some.inj (gC.symm.trans hg2)
  obtain rfl := Option.some.inj (gD.symm.trans hg3)
  obtain rfl := Option.some.inj (gE.symm.trans hg4)
  obtain rfl := Option.some.inj (tyC.symm.trans ht2)
  obtain rfl := Option.some.inj (tyD.symm.trans ht3)
  obtain rfl := Option.some.inj (tyE.symm.trans ht4)
  refine ⟨⟨sentinel_cell gE hv4 hd4, sentinel_cell gD hv3 hd3, ?_, trivial⟩, ?_⟩
  · have hc := Lib.cells_of_tab (zs := Lib.pow10Tab) Tryd.underlying138 Tryd.underlying31 c31 c138 hd2
    have hcell : ∃ e f, W.heap[3]? = some (.cells cs2 e f) := by
      unfold World.var? at hv2
      rw [gC] at hv2
      simp only [Option.bind_some] at hv2
      split at hv2
      · rename_i c e f hh; injection hv2 with hv2; subst hv2; exact ⟨e, f, hh⟩
      · cases hv2
    have e20 : Lib.pow10Tab = [1, 10, 100, 1000, 10000, 100000, 1000000, 10000000, 100000000, 1000000000, 10000000000, 100000000000, 1000000000000, 10000000000000, 100000000000000, 1000000000000000, 10000000000000000, 100000000000000000, 1000000000000000000, 10000000000000000000] := by decide
    have hsz : cs2.size = 20 := by rw [← Array.length_toList, hc]; rfl
    refine gat_of_cells hcell (by rw [hsz]; rfl) (by rw [hc, e20]; simp [Value.oneCell']) (by rw [hc, e20]; simp [CRs, CR])
  · intro x hx
    have : x = 0 := by simpa [theInt] using hx
    subst this
    have hg6 : 0 < Tryd.prog.globals.size := by rw [show Tryd.prog.globals.size = 6 by kernel_rfl]; decide
    obtain ⟨m, hm⟩ := cell_of_shapedOpen_int (g := 0) (t := 3) (zero := #[.int .i64 0]) (k := .i64) hsh hg6 (by kernel_rfl) rfl (by kernel_rfl) (by kernel_rfl) Tryd.underlying3
    refine ⟨m, ?_⟩
    have hm2 : ∃ c e f, W.heap[0]? = some (.cells c e f) ∧ c[0]? = some (.int .i64 m) := by
      unfold World.cell? at hm
      simp only at hm
      split at hm
      · rename_i c e f hh; exact ⟨c, e, f, hh, by simpa using hm⟩
      · cases hm
    obtain ⟨c, e, f, hh, hc⟩ := hm2
    refine (show CR (viewOf W) (.dat _) _ from ?_)
    simp only [CR]
    refine ⟨0, 0, rfl, lt_of_heap hh, ?_, ?_⟩
    · have := (Array.getElem?_eq_some_iff.1 hc).1
      simp [viewOf, hh]; omega
    · simp only [CRat, CR, and_true]
      exact ⟨_, hm, rfl, rfl⟩
end Go.Proofs.YtjdbmjllhmmddaaDoor

/- From a call that answers true, and turns nothing of what was there, to the row's condition behind the call. -/
set_option linter.unusedVariables false
namespace Go
open Go.RowKit Go.ChangeShapes Go.ChangeAt
variable {H : Type} {enc : TypeId × Value → H} {P : Program}
theorem post_of_below {f : Func} {s : ChangeSpec} {apart fresh handsOn again : Bool} {W W' : World} {args : Array Value} {v : Value} {ds gs : List (DataW H)} {before pa pv : List MemPlace}
    (hW : DataW.Whole enc P f.params.toList s.vars apart W args.toList ds gs before)
    (hres : ∀ (b : Nat) (sp : Nat → Bool) (hd : Bool), DataW.TrodAll enc P W' b sp hd f.resultTypes.toList (v.resultList f.resultTypes.size) (s.fn H (ds ++ gs)).results [])
    (hargs : ∀ sp : Nat → Bool, (∀ p ∈ before, sp p.block = true) → DataW.TrodAll enc P W' 0 sp true f.params.toList args.toList (s.fn H (ds ++ gs)).args pa)
    (hvars : ∀ sp : Nat → Bool, (∀ p ∈ before, sp p.block = true) → DataW.TrodVars enc P W' sp s.vars (s.fn H (ds ++ gs)).vars pv)
    (hps : before = pa ++ pv) (hb : Below W.heap.size W W')
    (hok : ∀ (j : Nat) (t : TypeId) (r : Value), f.resultTypes[j]? = some t → (v.resultList f.resultTypes.size)[j]? = some r → Value.okWide P W' .any 0 t r) :
    s.post enc P f apart fresh handsOn again W args v W' := by
  have hold : ∀ p ∈ before, (fun b => decide (b < W.heap.size)) p.block = true := fun p hp => by simpa using hW.lt p hp
  have hlt : ∀ p ∈ before, p.block < W.heap.size := fun p hp => hW.lt p hp
  refine ⟨ds, gs, before, [], pa, pv, hW, hres _ _ _, hargs _ hold, hvars _ hold, World.keptBut_mono (fun p hp => ⟨hp, ?_⟩) (hb.frame (· ∈ before)), fun _ => ?_⟩
  · rw [hps, List.mem_append] at hp
    exact Or.inr hp
  · obtain ⟨_, _, _, _, _, hz, hn⟩ := hW
    refine ⟨hok, _, _, ([] ++ pa) ++ pv, ⟨[] ++ pa, pv, trodAll_append (hargs _ (fun _ _ => rfl)) (hres _ _ _), hvars _ (fun _ _ => rfl), rfl, ?_, ?_⟩, ?_⟩
    · intro b off hp
      have hp' : MemPlace.cell b off ∈ before := by rw [hps]; simpa using hp
      rw [hb.frozen (p := ⟨b, off, none⟩) (hlt _ hp')]
      exact hz b off hp'
    · intro ha
      have := hn ha
      rw [hps] at this
      simpa using this
    · intro p hp _
      rw [hps]
      simpa using hp
end Go

set_option linter.unusedVariables false
set_option linter.unusedSimpArgs false
set_option maxRecDepth 4000
namespace Go.AE
open Go.Proofs

theorem lineAt_bd (t : List UInt8) (i : Nat) : 1 ≤ lineAt t i ∧ lineAt t i ≤ 1 + i := by
  have := advL_le 1 (t.take i)
  have h : (t.take i).length ≤ i := by rw [List.length_take]; omega
  unfold lineAt; omega
theorem colAt_bd (t : List UInt8) (i : Nat) : 1 ≤ colAt t i ∧ colAt t i ≤ 1 + i := by
  have := advC_le 1 (by decide) (t.take i)
  have h : (t.take i).length ≤ i := by rw [List.length_take]; omega
  unfold colAt; omega

structure PlH (t : List UInt8) (l xs : List Tok) (os : List Nat) : Prop where
  e : l = xs ++ [⟨0, [], 0, lineAt t t.length, colAt t t.length⟩]
  o : Offs t 0 xs os
theorem PlH.len {t : List UInt8} {l xs : List Tok} {os : List Nat} (h : PlH t l xs os) : l.length = xs.length + 1 := by rw [h.e]; simp
theorem PlH.last {t : List UInt8} {l xs : List Tok} {os : List Nat} (h : PlH t l xs os) : l.getD xs.length default = ⟨0, [], 0, lineAt t t.length, colAt t t.length⟩ := by rw [h.e]; simp [List.getD]
theorem PlH.left {t : List UInt8} {l xs : List Tok} {os : List Nat} (h : PlH t l xs os) {k : Nat} (hk : k < xs.length) : l.getD k default = xs.getD k default := by rw [h.e, getD_left hk]
theorem PlH.hit {t : List UInt8} {l xs : List Tok} {os : List Nat} (h : PlH t l xs os) {i k : Nat} (a : AtOK t xs os i k) (hi : i < t.length) (hh : ((l.getD k default).line = lineAt t i ∧ (l.getD k default).col = colAt t i) ∧ (l.getD k default).kind ≠ 0) :
    AtOK t xs os (i + 1) (k + 1) ∧ i + (l.getD k default).text.length ≤ t.length ∧ ((t.take (((i : Int) + ((l.getD k default).text.length : Int))).toNat).drop i = (l.getD k default).text) ∧ (l.getD k default).text ≠ [] := by
  have hk : k < xs.length := by
    rcases Nat.lt_or_ge k xs.length with h9 | h9
    · exact h9
    · have : k = xs.length := by have := a.1; omega
      subst this
      rw [h.last] at hh
      exact absurd rfl hh.2
  rw [h.left hk] at hh ⊢
  obtain ⟨_, h2, h3, h4, h5⟩ := a.hit h.o hi hk hh.1.1 hh.1.2
  refine ⟨h2, h3, ?_, h5⟩
  rw [show ((i : Int) + (((xs.getD k default).text.length : Nat) : Int)).toNat = i + (xs.getD k default).text.length by omega, List.drop_take, show i + (xs.getD k default).text.length - i = (xs.getD k default).text.length by omega]
  exact h4
theorem PlH.miss {t : List UInt8} {l xs : List Tok} {os : List Nat} (h : PlH t l xs os) {i k : Nat} (a : AtOK t xs os i k) (hh : ¬ (((l.getD k default).line = lineAt t i ∧ (l.getD k default).col = colAt t i) ∧ (l.getD k default).kind ≠ 0)) : AtOK t xs os (i + 1) k := by
  refine a.miss h.o fun hk h9 => hh ?_
  rw [h.left hk]
  exact ⟨h9, (h.o.at k hk).2.2.2.2.2.2.1⟩
theorem byte10 {b : UInt8} (h : (b.toNat : Int) = 10) : b = 10 := by
  apply UInt8.toNat_inj.1
  have : (10 : UInt8).toNat = 10 := rfl
  omega
theorem byte_n10 {b : UInt8} (h : (b.toNat : Int) ≠ 10) : ¬ b = 10 := by
  intro h9; rw [h9] at h; exact h rfl
theorem at_nl {t : List UInt8} {i : Nat} (hi : i < t.length) (h : ((t.getD i 0).toNat : Int) = 10) : lineAt t (i + 1) = lineAt t i + 1 ∧ colAt t (i + 1) = 1 := by
  rw [lineAt_succ t i hi, colAt_succ t i hi, if_pos (byte10 h), if_pos (byte10 h)]; exact ⟨rfl, rfl⟩
theorem at_n {t : List UInt8} {i : Nat} (hi : i < t.length) (h : ((t.getD i 0).toNat : Int) ≠ 10) : lineAt t (i + 1) = lineAt t i ∧ colAt t (i + 1) = colAt t i + 1 := by
  rw [lineAt_succ t i hi, colAt_succ t i hi, if_neg (byte_n10 h), if_neg (byte_n10 h)]; exact ⟨rfl, rfl⟩

theorem lexPlaces_err (t : List UInt8) (k ln cl : Int) (σ : St) (hl : lexS t = ([], k, ln, cl)) (hk : k ≠ 0) : ACalls Tryd.prog 5 [.str t] σ (fun e s => σ = s ∧ e = .ret (.bool true)) := by
  refine ACalls.enter hT Tryd.func5 rfl (by kernel_rfl) ?_
  refine ACode.seq ?_
  refine ACode.run hT (fun _ => false) [0] (fr' := ⟨[(0, .str t)], [], [], [], 0⟩) (σ' := σ) (ob := True ∧ True) (by kernel_rfl) ⟨trivial, trivial⟩ ?_
  refine ACode.seq ?_
  refine ACode.seq ?_
  refine ACode.region ?_
  refine AOps.call (fid := 10) (cap := []) (avs := []) (by kernel_rfl) rfl (by kernel_rfl) (by kernel_rfl) en_10 (by kernel_rfl) (ACalls.mono (alive_walk _) ?_)
  rintro _ _ ⟨rfl, rfl⟩
  refine AOps.runN hT (fun _ => false) 1 [0, 11] (fr' := ⟨[(0, .str t), (11, .bool false)], [], [], [], 0⟩) (σ' := σ) (ob := True ∧ True) (by kernel_rfl) ⟨trivial, trivial⟩ ?_
  refine AOps.nil ?_
  refine ACode.cond (t := false) (by kernel_rfl) (fun h => Bool.noConfusion h) (fun _ => ?_)
  refine ACode.skip ?_
  refine ACode.seq ?_
  refine ACode.seq ?_
  refine ACode.run hT (fun _ => false) [0, 14] (fr' := ⟨[(0, .str t), (14, .bool (decide ((((t) : List UInt8).length : Int) > 8192)))], [], [], [], 0⟩) (σ' := σ) (ob := True ∧ True ∧ True ∧ True) (by kernel_rfl) ⟨trivial, trivial, trivial, trivial⟩ ?_
  refine ACode.cond (t := decide ((((t) : List UInt8).length : Int) > 8192)) (by kernel_rfl) (fun h1 => ?_) (fun h1 => ?_)
  · -- true
    have h1k := of_decide_eq_true h1
    refine ACode.seq ?_
    refine ACode.run hT (fun _ => false) [2] (fr' := ⟨[(2, .bool true)], [], [], [], 0⟩) (σ' := σ) (ob := True ∧ True) (by kernel_rfl) ⟨trivial, trivial⟩ ?_
    refine ACode.ret ?_
    refine retQ.ret (.bool true) (by kernel_rfl) ?_
    exact ⟨rfl, rfl⟩
  · -- false
    have h1k := of_decide_eq_false h1
    refine ACode.skip ?_
    refine ACode.seq ?_
    refine ACode.region ?_
    refine AOps.runN hT (fun _ => false) 1 [0, 16] (fr' := ⟨[(0, .str t), (16, .str t)], [], [], [], 0⟩) (σ' := σ) (ob := True ∧ True) (by kernel_rfl) ⟨trivial, trivial⟩ ?_
    refine AOps.call (fid := 15) (cap := []) (avs := [.str t]) (by kernel_rfl) rfl (by kernel_rfl) (by kernel_rfl) en_15 (by kernel_rfl) (ACalls.mono (lex_err t k ln cl hl _) ?_)
    rintro _ _ ⟨rfl, own2, hown2, rfl⟩
    refine AOps.runN hT (fun _ => false) 6 [0, 3] (fr' := ⟨[(0, .str t), (3, .slice [] 0 own2)], [[.int .i64 k, .int .i64 ln, .int .i64 cl]], [], [], 0⟩) (σ' := σ) (ob := True ∧ True ∧ True ∧ True ∧ True ∧ True ∧ True) (by kernel_rfl) ⟨trivial, trivial, trivial, trivial, trivial, trivial, trivial⟩ ?_
    refine AOps.nil ?_
    refine ACode.seq ?_
    refine ACode.run hT (fun _ => false) [0, 3, 5, 6, 7] (fr' := ⟨[(0, .str t), (3, .slice [] 0 own2), (5, .int .i64 1), (6, .int .i64 1), (7, .int .i64 0)], [[.int .i64 k, .int .i64 ln, .int .i64 cl]], [], [], 0⟩) (σ' := σ) (ob := True ∧ True ∧ True ∧ True) (by kernel_rfl) ⟨trivial, trivial, trivial, trivial⟩ ?_
    refine ACode.seq ?_
    refine ACode.seq ?_
    refine ACode.run hT (fun _ => false) [0, 3, 5, 6, 7, 8] (fr' := ⟨[(0, .str t), (3, .slice [] 0 own2), (5, .int .i64 1), (6, .int .i64 1), (7, .int .i64 0), (8, .int .i64 0)], [[.int .i64 k, .int .i64 ln, .int .i64 cl]], [], [], 0⟩) (σ' := σ) (ob := True ∧ True) (by kernel_rfl) ⟨trivial, trivial⟩ ?_
    refine ACode.block ?_
    refine ACode.loop [0, 3, 7, 8] 1 0 (fun n0 fr σ' => ∃ (i : Nat), fr = ⟨[(0, .str t), (3, .slice [] 0 own2), (7, .int .i64 0), (8, .int .i64 (i : Int))], [[.int .i64 k, .int .i64 ln, .int .i64 cl]], [], [], 0⟩ ∧ σ = σ' ∧ (i = 0) ∧ n0 = 0) _ (by kernel_rfl) ⟨0, rfl, rfl, rfl, rfl⟩ ?_
    rintro n0 fr σ' ⟨i, rfl, rfl, hP, rfl⟩
    refine ACode.seq ?_
    refine ACode.seq ?_
    refine ACode.meet ⟨[(0, .str t), (3, .slice [] 0 own2), (7, .int .i64 0), (8, .int .i64 (i : Int)), (29, .bool false)], [[.int .i64 k, .int .i64 ln, .int .i64 cl]], [], [], 0⟩ σ (ACode.region ?_) ?_
    ·
      refine AOps.runN hT (fun _ => false) 5 [0, 3, 7, 8, 24] (fr' := ⟨[(0, .str t), (3, .slice [] 0 own2), (7, .int .i64 0), (8, .int .i64 (i : Int)), (24, .bool (decide ((i : Int) < (((t) : List UInt8).length : Int))))], [[.int .i64 k, .int .i64 ln, .int .i64 cl]], [], [], 0⟩) (σ' := σ) (ob := True ∧ True ∧ True ∧ True ∧ True ∧ True) (by kernel_rfl) ⟨trivial, trivial, trivial, trivial, trivial, trivial⟩ ?_
      cases h2 : (decide ((i : Int) < (((t) : List UInt8).length : Int)))
      · -- decide ((i : Int) < (((t) : List UInt8).length : Int)) is false
        have h2k := of_decide_eq_false h2
        refine AOps.runN hT (fun _ => false) 5 [0, 3, 7, 8, 29] (fr' := ⟨[(0, .str t), (3, .slice [] 0 own2), (7, .int .i64 0), (8, .int .i64 (i : Int)), (29, .bool false)], [[.int .i64 k, .int .i64 ln, .int .i64 cl]], [], [], 0⟩) (σ' := σ) (ob := True ∧ True) (by kernel_rfl) ⟨trivial, trivial⟩ ?_
        refine AOps.weak [0, 3, 7, 8, 29] (AOps.nil ⟨rfl, rfl⟩)
      · -- decide ((i : Int) < (((t) : List UInt8).length : Int)) is true
        have h2k := of_decide_eq_true h2
        refine AOps.runN hT (fun _ => false) 5 [0, 3, 7, 8, 29] (fr' := ⟨[(0, .str t), (3, .slice [] 0 own2), (7, .int .i64 0), (8, .int .i64 (i : Int)), (29, .bool false)], [[.int .i64 k, .int .i64 ln, .int .i64 cl]], [], [], 0⟩) (σ' := σ) (ob := True ∧ True ∧ True ∧ True ∧ True ∧ True) (by kernel_rfl) ⟨trivial, trivial, trivial, trivial, trivial, trivial⟩ ?_
        refine AOps.weak [0, 3, 7, 8, 29] (AOps.nil ⟨rfl, rfl⟩)
    -- on
    refine ACode.cond (t := false) (by kernel_rfl) (fun h => Bool.noConfusion h) (fun _ => ?_)
    refine ACode.exit ?_
    refine ACode.seq ?_
    refine ACode.region ?_
    refine AOps.runN hT (fun _ => false) 37 [2] (fr' := ⟨[(2, .bool true)], [[.int .i64 k, .int .i64 ln, .int .i64 cl]], [], [], 0⟩) (σ' := σ) (ob := True ∧ True ∧ True ∧ True ∧ True ∧ True ∧ True) (by kernel_rfl) ⟨trivial, trivial, trivial, trivial, trivial, trivial, trivial⟩ ?_
    refine AOps.nil ?_
    refine ACode.ret ?_
    refine retQ.ret (.bool true) (by kernel_rfl) ?_
    exact ⟨rfl, rfl⟩
theorem lexPlaces_ok (t : List UInt8) (l xs : List Tok) (os : List Nat) (σ : St) (ht : t.length ≤ 8192) (hln : l.length ≤ 8193) (hl : lexS t = (l, 0, 0, 0)) (htx : ∀ i, (l.getD i default).text.length ≤ 8192) (hp : PlH t l xs os) : ACalls Tryd.prog 5 [.str t] σ (fun e s => σ = s ∧ e = .ret (.bool true)) := by
  refine ACalls.enter hT Tryd.func5 rfl (by kernel_rfl) ?_
  refine ACode.seq ?_
  refine ACode.run hT (fun _ => false) [0] (fr' := ⟨[(0, .str t)], [], [], [], 0⟩) (σ' := σ) (ob := True ∧ True) (by kernel_rfl) ⟨trivial, trivial⟩ ?_
  refine ACode.seq ?_
  refine ACode.seq ?_
  refine ACode.region ?_
  refine AOps.call (fid := 10) (cap := []) (avs := []) (by kernel_rfl) rfl (by kernel_rfl) (by kernel_rfl) en_10 (by kernel_rfl) (ACalls.mono (alive_walk _) ?_)
  rintro _ _ ⟨rfl, rfl⟩
  refine AOps.runN hT (fun _ => false) 1 [0, 11] (fr' := ⟨[(0, .str t), (11, .bool false)], [], [], [], 0⟩) (σ' := σ) (ob := True ∧ True) (by kernel_rfl) ⟨trivial, trivial⟩ ?_
  refine AOps.nil ?_
  refine ACode.cond (t := false) (by kernel_rfl) (fun h => Bool.noConfusion h) (fun _ => ?_)
  refine ACode.skip ?_
  refine ACode.seq ?_
  refine ACode.seq ?_
  refine ACode.run hT (fun _ => false) [0, 14] (fr' := ⟨[(0, .str t), (14, .bool (decide ((((t) : List UInt8).length : Int) > 8192)))], [], [], [], 0⟩) (σ' := σ) (ob := True ∧ True ∧ True ∧ True) (by kernel_rfl) ⟨trivial, trivial, trivial, trivial⟩ ?_
  refine ACode.cond (t := decide ((((t) : List UInt8).length : Int) > 8192)) (by kernel_rfl) (fun h1 => ?_) (fun h1 => ?_)
  · -- true
    have h1k := of_decide_eq_true h1
    refine ACode.seq ?_
    refine ACode.run hT (fun _ => false) [2] (fr' := ⟨[(2, .bool true)], [], [], [], 0⟩) (σ' := σ) (ob := True ∧ True) (by kernel_rfl) ⟨trivial, trivial⟩ ?_
    refine ACode.ret ?_
    refine retQ.ret (.bool true) (by kernel_rfl) ?_
    exact ⟨rfl, rfl⟩
  · -- false
    have h1k := of_decide_eq_false h1
    refine ACode.skip ?_
    refine ACode.seq ?_
    refine ACode.region ?_
    refine AOps.runN hT (fun _ => false) 1 [0, 16] (fr' := ⟨[(0, .str t), (16, .str t)], [], [], [], 0⟩) (σ' := σ) (ob := True ∧ True) (by kernel_rfl) ⟨trivial, trivial⟩ ?_
    refine AOps.call (fid := 15) (cap := []) (avs := [.str t]) (by kernel_rfl) rfl (by kernel_rfl) (by kernel_rfl) en_15 (by kernel_rfl) (ACalls.mono (lex_ok t l hl _) ?_)
    rintro _ _ ⟨rfl, own4, hown4, rfl⟩
    refine AOps.runN hT (fun _ => false) 6 [0, 3] (fr' := ⟨[(0, .str t), (3, .slice (toksAV l) l.length own4)], [[.int .i64 0, .int .i64 0, .int .i64 0]], [], [], 0⟩) (σ' := σ) (ob := True ∧ True ∧ True ∧ True ∧ True ∧ True ∧ True) (by kernel_rfl) ⟨trivial, trivial, trivial, trivial, trivial, trivial, trivial⟩ ?_
    refine AOps.nil ?_
    refine ACode.seq ?_
    refine ACode.run hT (fun _ => false) [0, 3, 5, 6, 7] (fr' := ⟨[(0, .str t), (3, .slice (toksAV l) l.length own4), (5, .int .i64 1), (6, .int .i64 1), (7, .int .i64 0)], [[.int .i64 0, .int .i64 0, .int .i64 0]], [], [], 0⟩) (σ' := σ) (ob := True ∧ True ∧ True ∧ True) (by kernel_rfl) ⟨trivial, trivial, trivial, trivial⟩ ?_
    refine ACode.seq ?_
    refine ACode.seq ?_
    refine ACode.run hT (fun _ => false) [0, 3, 5, 6, 7, 8] (fr' := ⟨[(0, .str t), (3, .slice (toksAV l) l.length own4), (5, .int .i64 1), (6, .int .i64 1), (7, .int .i64 0), (8, .int .i64 0)], [[.int .i64 0, .int .i64 0, .int .i64 0]], [], [], 0⟩) (σ' := σ) (ob := True ∧ True) (by kernel_rfl) ⟨trivial, trivial⟩ ?_
    refine ACode.block ?_
    refine ACode.loop [0, 3, 5, 6, 7, 8] 1 0 (fun n0 fr σ' => ∃ (i : Nat), ∃ (k : Nat), fr = ⟨[(0, .str t), (3, .slice (toksAV l) l.length own4), (5, .int .i64 (lineAt t i)), (6, .int .i64 (colAt t i)), (7, .int .i64 (k : Int)), (8, .int .i64 (i : Int))], [[.int .i64 0, .int .i64 0, .int .i64 0]], [], [], 0⟩ ∧ σ = σ' ∧ (i ≤ t.length ∧ AtOK t xs os i k) ∧ n0 = t.length - i) _ (by kernel_rfl) ⟨0, 0, rfl, rfl, ⟨Nat.zero_le _, AtOK.start hp.o⟩, rfl⟩ ?_
    rintro n0 fr σ' ⟨i, k, rfl, rfl, ⟨hi, hA⟩, rfl⟩
    have hkx := hA.1
    have hlen := hp.len
    have hbl := lineAt_bd t i
    have hbc := colAt_bd t i
    have hbb := byte_bd (t.getD i 0)
    have htx9 := htx k
    refine ACode.seq ?_
    refine ACode.seq ?_
    refine ACode.meet ⟨[(0, .str t), (3, .slice (toksAV l) l.length own4), (5, .int .i64 (lineAt t i)), (6, .int .i64 (colAt t i)), (7, .int .i64 (k : Int)), (8, .int .i64 (i : Int)), (29, .bool ((decide ((i : Int) < (((t) : List UInt8).length : Int))) && (decide ((k : Int) < ((l.length : Nat) : Int)))))], [[.int .i64 0, .int .i64 0, .int .i64 0]], [], [], 0⟩ σ (ACode.region ?_) ?_
    ·
      refine AOps.runN hT (fun _ => false) 5 [0, 3, 5, 6, 7, 8, 24] (fr' := ⟨[(0, .str t), (3, .slice (toksAV l) l.length own4), (5, .int .i64 (lineAt t i)), (6, .int .i64 (colAt t i)), (7, .int .i64 (k : Int)), (8, .int .i64 (i : Int)), (24, .bool (decide ((i : Int) < (((t) : List UInt8).length : Int))))], [[.int .i64 0, .int .i64 0, .int .i64 0]], [], [], 0⟩) (σ' := σ) (ob := True ∧ True ∧ True ∧ True ∧ True ∧ True) (by kernel_rfl) ⟨trivial, trivial, trivial, trivial, trivial, trivial⟩ ?_
      cases h2 : (decide ((i : Int) < (((t) : List UInt8).length : Int)))
      · -- decide ((i : Int) < (((t) : List UInt8).length : Int)) is false
        have h2k := of_decide_eq_false h2
        refine AOps.runN hT (fun _ => false) 5 [0, 3, 5, 6, 7, 8, 29] (fr' := ⟨[(0, .str t), (3, .slice (toksAV l) l.length own4), (5, .int .i64 (lineAt t i)), (6, .int .i64 (colAt t i)), (7, .int .i64 (k : Int)), (8, .int .i64 (i : Int)), (29, .bool false)], [[.int .i64 0, .int .i64 0, .int .i64 0]], [], [], 0⟩) (σ' := σ) (ob := True ∧ True) (by kernel_rfl) ⟨trivial, trivial⟩ ?_
        refine AOps.weak [0, 3, 5, 6, 7, 8, 29] (AOps.nil ⟨rfl, rfl⟩)
      · -- decide ((i : Int) < (((t) : List UInt8).length : Int)) is true
        have h2k := of_decide_eq_true h2
        refine AOps.runN hT (fun _ => false) 5 [0, 3, 5, 6, 7, 8, 29] (fr' := ⟨[(0, .str t), (3, .slice (toksAV l) l.length own4), (5, .int .i64 (lineAt t i)), (6, .int .i64 (colAt t i)), (7, .int .i64 (k : Int)), (8, .int .i64 (i : Int)), (29, .bool (decide ((k : Int) < ((l.length : Nat) : Int))))], [[.int .i64 0, .int .i64 0, .int .i64 0]], [], [], 0⟩) (σ' := σ) (ob := True ∧ True ∧ True ∧ True ∧ True ∧ True) (by kernel_rfl) ⟨trivial, trivial, trivial, trivial, trivial, trivial⟩ ?_
        refine AOps.weak [0, 3, 5, 6, 7, 8, 29] (AOps.nil ⟨rfl, rfl⟩)
    -- on
    refine ACode.cond (t := (decide ((i : Int) < (((t) : List UInt8).length : Int))) && (decide ((k : Int) < ((l.length : Nat) : Int)))) (by kernel_rfl) (fun h3 => ?_) (fun h3 => ?_)
    · -- true
      have h3k := h3; simp only [Bool.and_eq_true, Bool.or_eq_true, Bool.and_eq_false_iff, Bool.or_eq_false_iff, decide_eq_true_eq, decide_eq_false_iff_not, beq_iff_eq, bne_iff_ne, ne_eq, Bool.not_eq_true', Bool.not_eq_false', beq_eq_false_iff_ne, bne_eq_false_iff_eq] at h3k
      refine ACode.skip ?_
      refine ACode.seq ?_
      refine ACode.block ?_
      refine ACode.seq ?_
      refine ACode.seq ?_
      refine ACode.meet ⟨[(0, .str t), (3, .slice (toksAV l) l.length own4), (5, .int .i64 (lineAt t i)), (6, .int .i64 (colAt t i)), (7, .int .i64 (k : Int)), (8, .int .i64 (i : Int)), (55, .bool ((((l.getD k default).line) == (lineAt t i)) && ((((l.getD k default).col) == (colAt t i)) && (((l.getD k default).kind) != 0))))], [[.int .i64 0, .int .i64 0, .int .i64 0]], [], [], 0⟩ σ (ACode.region ?_) ?_
      ·
        refine AOps.runN hT (fun _ => false) 3 [0, 3, 5, 6, 7, 8, 34] (fr' := ⟨[(0, .str t), (3, .slice (toksAV l) l.length own4), (5, .int .i64 (lineAt t i)), (6, .int .i64 (colAt t i)), (7, .int .i64 (k : Int)), (8, .int .i64 (i : Int)), (34, .dat (((toksAV l : List AV).drop (k * 5)).take 5))], [[.int .i64 0, .int .i64 0, .int .i64 0]], [], [], 0⟩) (σ' := σ) (ob := True ∧ True ∧ (0 ≤ ((k : Int) : Int) ∧ ((k : Int) : Int) < (l.length : Nat) ∧ k * 5 ≤ (toksAV l : List AV).length) ∧ True) (by kernel_rfl) ⟨trivial, trivial, (by rw [toksAV_length]; omega), trivial⟩ ?_
        rw [toksAV_at l k (by omega)]
        refine AOps.runN hT (fun _ => false) 5 [0, 3, 5, 6, 7, 8, 39] (fr' := ⟨[(0, .str t), (3, .slice (toksAV l) l.length own4), (5, .int .i64 (lineAt t i)), (6, .int .i64 (colAt t i)), (7, .int .i64 (k : Int)), (8, .int .i64 (i : Int)), (39, .bool (((l.getD k default).line) == (lineAt t i)))], [[.int .i64 0, .int .i64 0, .int .i64 0]], [], [], 0⟩) (σ' := σ) (ob := (3 ≤ ([.int .i64 ((l.getD k default).kind), .str ((l.getD k default).text), .int .u64 ((l.getD k default).n), .int .i64 ((l.getD k default).line), .int .i64 ((l.getD k default).col)] : List AV).length) ∧ True ∧ True ∧ True ∧ True ∧ True) (by kernel_rfl) ⟨(by first | omega | (simp; done) | (simp; omega)), trivial, trivial, trivial, trivial, trivial⟩ ?_
        cases h4 : (((l.getD k default).line) == (lineAt t i))
        · -- ((l.getD k default).line) == (lineAt t i) is false
          have h4k := ne_of_beq_false h4
          refine AOps.runN hT (fun _ => false) 16 [0, 3, 5, 6, 7, 8, 55] (fr' := ⟨[(0, .str t), (3, .slice (toksAV l) l.length own4), (5, .int .i64 (lineAt t i)), (6, .int .i64 (colAt t i)), (7, .int .i64 (k : Int)), (8, .int .i64 (i : Int)), (55, .bool false)], [[.int .i64 0, .int .i64 0, .int .i64 0]], [], [], 0⟩) (σ' := σ) (ob := True ∧ True ∧ True ∧ True) (by kernel_rfl) ⟨trivial, trivial, trivial, trivial⟩ ?_
          refine AOps.weak [0, 3, 5, 6, 7, 8, 55] (AOps.nil ⟨rfl, rfl⟩)
        · -- ((l.getD k default).line) == (lineAt t i) is true
          have h4k := eq_of_beq h4
          refine AOps.runN hT (fun _ => false) 3 [0, 3, 5, 6, 7, 8, 39, 42] (fr' := ⟨[(0, .str t), (3, .slice (toksAV l) l.length own4), (5, .int .i64 (lineAt t i)), (6, .int .i64 (colAt t i)), (7, .int .i64 (k : Int)), (8, .int .i64 (i : Int)), (39, .bool true), (42, .dat (((toksAV l : List AV).drop (k * 5)).take 5))], [[.int .i64 0, .int .i64 0, .int .i64 0]], [], [], 0⟩) (σ' := σ) (ob := True ∧ True ∧ (0 ≤ ((k : Int) : Int) ∧ ((k : Int) : Int) < (l.length : Nat) ∧ k * 5 ≤ (toksAV l : List AV).length) ∧ True) (by kernel_rfl) ⟨trivial, trivial, (by rw [toksAV_length]; omega), trivial⟩ ?_
          rw [toksAV_at l k (by omega)]
          refine AOps.runN hT (fun _ => false) 6 [0, 3, 5, 6, 7, 8, 48] (fr' := ⟨[(0, .str t), (3, .slice (toksAV l) l.length own4), (5, .int .i64 (lineAt t i)), (6, .int .i64 (colAt t i)), (7, .int .i64 (k : Int)), (8, .int .i64 (i : Int)), (48, .bool (((l.getD k default).col) == (colAt t i)))], [[.int .i64 0, .int .i64 0, .int .i64 0]], [], [], 0⟩) (σ' := σ) (ob := (4 ≤ ([.int .i64 ((l.getD k default).kind), .str ((l.getD k default).text), .int .u64 ((l.getD k default).n), .int .i64 ((l.getD k default).line), .int .i64 ((l.getD k default).col)] : List AV).length) ∧ True ∧ True ∧ True ∧ True ∧ True ∧ True) (by kernel_rfl) ⟨(by first | omega | (simp; done) | (simp; omega)), trivial, trivial, trivial, trivial, trivial, trivial⟩ ?_
          cases h5 : (((l.getD k default).col) == (colAt t i))
          · -- ((l.getD k default).col) == (colAt t i) is false
            have h5k := ne_of_beq_false h5
            refine AOps.runN hT (fun _ => false) 7 [0, 3, 5, 6, 7, 8, 55] (fr' := ⟨[(0, .str t), (3, .slice (toksAV l) l.length own4), (5, .int .i64 (lineAt t i)), (6, .int .i64 (colAt t i)), (7, .int .i64 (k : Int)), (8, .int .i64 (i : Int)), (55, .bool false)], [[.int .i64 0, .int .i64 0, .int .i64 0]], [], [], 0⟩) (σ' := σ) (ob := True ∧ True) (by kernel_rfl) ⟨trivial, trivial⟩ ?_
            refine AOps.weak [0, 3, 5, 6, 7, 8, 55] (AOps.nil ⟨rfl, rfl⟩)
          · -- ((l.getD k default).col) == (colAt t i) is true
            have h5k := eq_of_beq h5
            refine AOps.runN hT (fun _ => false) 3 [0, 3, 5, 6, 7, 8, 48, 51] (fr' := ⟨[(0, .str t), (3, .slice (toksAV l) l.length own4), (5, .int .i64 (lineAt t i)), (6, .int .i64 (colAt t i)), (7, .int .i64 (k : Int)), (8, .int .i64 (i : Int)), (48, .bool true), (51, .dat (((toksAV l : List AV).drop (k * 5)).take 5))], [[.int .i64 0, .int .i64 0, .int .i64 0]], [], [], 0⟩) (σ' := σ) (ob := True ∧ True ∧ (0 ≤ ((k : Int) : Int) ∧ ((k : Int) : Int) < (l.length : Nat) ∧ k * 5 ≤ (toksAV l : List AV).length) ∧ True) (by kernel_rfl) ⟨trivial, trivial, (by rw [toksAV_length]; omega), trivial⟩ ?_
            rw [toksAV_at l k (by omega)]
            refine AOps.runN hT (fun _ => false) 4 [0, 3, 5, 6, 7, 8, 55] (fr' := ⟨[(0, .str t), (3, .slice (toksAV l) l.length own4), (5, .int .i64 (lineAt t i)), (6, .int .i64 (colAt t i)), (7, .int .i64 (k : Int)), (8, .int .i64 (i : Int)), (55, .bool (((l.getD k default).kind) != 0))], [[.int .i64 0, .int .i64 0, .int .i64 0]], [], [], 0⟩) (σ' := σ) (ob := (0 ≤ ([.int .i64 ((l.getD k default).kind), .str ((l.getD k default).text), .int .u64 ((l.getD k default).n), .int .i64 ((l.getD k default).line), .int .i64 ((l.getD k default).col)] : List AV).length) ∧ True ∧ True ∧ True ∧ True) (by kernel_rfl) ⟨(by first | omega | (simp; done) | (simp; omega)), trivial, trivial, trivial, trivial⟩ ?_
            refine AOps.weak [0, 3, 5, 6, 7, 8, 55] (AOps.nil ⟨rfl, rfl⟩)
      -- on
      refine ACode.cond (t := (((l.getD k default).line) == (lineAt t i)) && ((((l.getD k default).col) == (colAt t i)) && (((l.getD k default).kind) != 0))) (by kernel_rfl) (fun h6 => ?_) (fun h6 => ?_)
      · -- true
        have h6k := h6; simp only [Bool.and_eq_true, Bool.or_eq_true, Bool.and_eq_false_iff, Bool.or_eq_false_iff, decide_eq_true_eq, decide_eq_false_iff_not, beq_iff_eq, bne_iff_ne, ne_eq, Bool.not_eq_true', Bool.not_eq_false', beq_eq_false_iff_ne, bne_eq_false_iff_eq] at h6k
        obtain ⟨hA1, hT1, hT2, hT3⟩ := hp.hit hA (by omega) ⟨⟨h6k.1, h6k.2.1⟩, h6k.2.2⟩
        refine ACode.seq ?_
        refine ACode.region ?_
        refine AOps.runN hT (fun _ => false) 3 [0, 3, 5, 6, 7, 8, 58] (fr' := ⟨[(0, .str t), (3, .slice (toksAV l) l.length own4), (5, .int .i64 (lineAt t i)), (6, .int .i64 (colAt t i)), (7, .int .i64 (k : Int)), (8, .int .i64 (i : Int)), (58, .dat (((toksAV l : List AV).drop (k * 5)).take 5))], [[.int .i64 0, .int .i64 0, .int .i64 0]], [], [], 0⟩) (σ' := σ) (ob := True ∧ True ∧ (0 ≤ ((k : Int) : Int) ∧ ((k : Int) : Int) < (l.length : Nat) ∧ k * 5 ≤ (toksAV l : List AV).length) ∧ True) (by kernel_rfl) ⟨trivial, trivial, (by rw [toksAV_length]; omega), trivial⟩ ?_
        rw [toksAV_at l k (by omega)]
        refine AOps.runN hT (fun _ => false) 3 [0, 3, 5, 6, 7, 8, 9] (fr' := ⟨[(0, .str t), (3, .slice (toksAV l) l.length own4), (5, .int .i64 (lineAt t i)), (6, .int .i64 (colAt t i)), (7, .int .i64 (k : Int)), (8, .int .i64 (i : Int)), (9, .str ((l.getD k default).text))], [[.int .i64 0, .int .i64 0, .int .i64 0]], [], [], 0⟩) (σ' := σ) (ob := (1 ≤ ([.int .i64 ((l.getD k default).kind), .str ((l.getD k default).text), .int .u64 ((l.getD k default).n), .int .i64 ((l.getD k default).line), .int .i64 ((l.getD k default).col)] : List AV).length) ∧ True ∧ True ∧ True) (by kernel_rfl) ⟨(by first | omega | (simp; done) | (simp; omega)), trivial, trivial, trivial⟩ ?_
        refine AOps.nil ?_
        refine ACode.seq ?_
        refine ACode.seq ?_
        refine ACode.meet ⟨[(0, .str t), (3, .slice (toksAV l) l.length own4), (5, .int .i64 (lineAt t i)), (6, .int .i64 (colAt t i)), (7, .int .i64 (k : Int)), (8, .int .i64 (i : Int)), (82, .bool ((decide (((i : Int) + ((((l.getD k default).text) : List UInt8).length : Int)) > (((t) : List UInt8).length : Int))) || ((!(((t.take ((((i : Int) + ((((l.getD k default).text) : List UInt8).length : Int))).toNat)).drop i) == ((l.getD k default).text))) || (((l.getD k default).text) == []))))], [[.int .i64 0, .int .i64 0, .int .i64 0]], [], [], 0⟩ σ (ACode.region ?_) ?_
        ·
          refine AOps.runN hT (fun _ => false) 8 [0, 3, 5, 6, 7, 8, 9, 68] (fr' := ⟨[(0, .str t), (3, .slice (toksAV l) l.length own4), (5, .int .i64 (lineAt t i)), (6, .int .i64 (colAt t i)), (7, .int .i64 (k : Int)), (8, .int .i64 (i : Int)), (9, .str ((l.getD k default).text)), (68, .bool (decide ((IntKind.i64.wrap ((i : Int) + ((((l.getD k default).text) : List UInt8).length : Int))) > (((t) : List UInt8).length : Int))))], [[.int .i64 0, .int .i64 0, .int .i64 0]], [], [], 0⟩) (σ' := σ) (ob := True ∧ True ∧ True ∧ True ∧ True ∧ True ∧ True ∧ True ∧ True) (by kernel_rfl) ⟨trivial, trivial, trivial, trivial, trivial, trivial, trivial, trivial, trivial⟩ ?_
          rw [IntWalk.i64_in ((i : Int) + ((((l.getD k default).text) : List UInt8).length : Int)) (by omega)]
          cases h7 : (decide (((i : Int) + ((((l.getD k default).text) : List UInt8).length : Int)) > (((t) : List UInt8).length : Int)))
          · -- decide (((i : Int) + ((((l.getD k default).text) : List UInt8).length : Int)) > (((t) : List UInt8).length : Int)) is false
            have h7k := of_decide_eq_false h7
            refine AOps.runN hT (fun _ => false) 11 [0, 3, 5, 6, 7, 8, 9, 79] (fr' := ⟨[(0, .str t), (3, .slice (toksAV l) l.length own4), (5, .int .i64 (lineAt t i)), (6, .int .i64 (colAt t i)), (7, .int .i64 (k : Int)), (8, .int .i64 (i : Int)), (9, .str ((l.getD k default).text)), (79, .bool (!(((t.take (((IntKind.i64.wrap ((i : Int) + ((((l.getD k default).text) : List UInt8).length : Int)))).toNat)).drop i) == ((l.getD k default).text))))], [[.int .i64 0, .int .i64 0, .int .i64 0]], [], [], 0⟩) (σ' := σ) (ob := True ∧ True ∧ True ∧ True ∧ True ∧ True ∧ ((0 : Int) ≤ (i : Int) ∧ (i : Int) ≤ (IntKind.i64.wrap ((i : Int) + ((((l.getD k default).text) : List UInt8).length : Int))) ∧ (IntKind.i64.wrap ((i : Int) + ((((l.getD k default).text) : List UInt8).length : Int))) ≤ (((t) : List UInt8).length : Int)) ∧ True ∧ True ∧ True ∧ True ∧ True) (by kernel_rfl) ⟨trivial, trivial, trivial, trivial, trivial, trivial, (by rw [IntWalk.i64_in _ (by omega)]; omega), trivial, trivial, trivial, trivial, trivial⟩ ?_
            rw [IntWalk.i64_in ((i : Int) + ((((l.getD k default).text) : List UInt8).length : Int)) (by omega)]
            cases h8 : (!(((t.take ((((i : Int) + ((((l.getD k default).text) : List UInt8).length : Int))).toNat)).drop i) == ((l.getD k default).text)))
            · -- !(((t.take ((((i : Int) + ((((l.getD k default).text) : List UInt8).length : Int))).toNat)).drop i) == ((l.getD k default).text)) is false
              have h8k := h8; simp only [Bool.and_eq_true, Bool.or_eq_true, Bool.and_eq_false_iff, Bool.or_eq_false_iff, decide_eq_true_eq, decide_eq_false_iff_not, beq_iff_eq, bne_iff_ne, ne_eq, Bool.not_eq_true', Bool.not_eq_false', beq_eq_false_iff_ne, bne_eq_false_iff_eq] at h8k
              refine AOps.runN hT (fun _ => false) 3 [0, 3, 5, 6, 7, 8, 82] (fr' := ⟨[(0, .str t), (3, .slice (toksAV l) l.length own4), (5, .int .i64 (lineAt t i)), (6, .int .i64 (colAt t i)), (7, .int .i64 (k : Int)), (8, .int .i64 (i : Int)), (82, .bool (((l.getD k default).text) == []))], [[.int .i64 0, .int .i64 0, .int .i64 0]], [], [], 0⟩) (σ' := σ) (ob := True ∧ True ∧ True ∧ True) (by kernel_rfl) ⟨trivial, trivial, trivial, trivial⟩ ?_
              refine AOps.weak [0, 3, 5, 6, 7, 8, 82] (AOps.nil ⟨rfl, rfl⟩)
            · -- !(((t.take ((((i : Int) + ((((l.getD k default).text) : List UInt8).length : Int))).toNat)).drop i) == ((l.getD k default).text)) is true
              have h8k := h8; simp only [Bool.and_eq_true, Bool.or_eq_true, Bool.and_eq_false_iff, Bool.or_eq_false_iff, decide_eq_true_eq, decide_eq_false_iff_not, beq_iff_eq, bne_iff_ne, ne_eq, Bool.not_eq_true', Bool.not_eq_false', beq_eq_false_iff_ne, bne_eq_false_iff_eq] at h8k
              refine AOps.runN hT (fun _ => false) 3 [0, 3, 5, 6, 7, 8, 82] (fr' := ⟨[(0, .str t), (3, .slice (toksAV l) l.length own4), (5, .int .i64 (lineAt t i)), (6, .int .i64 (colAt t i)), (7, .int .i64 (k : Int)), (8, .int .i64 (i : Int)), (82, .bool true)], [[.int .i64 0, .int .i64 0, .int .i64 0]], [], [], 0⟩) (σ' := σ) (ob := True ∧ True) (by kernel_rfl) ⟨trivial, trivial⟩ ?_
              refine AOps.weak [0, 3, 5, 6, 7, 8, 82] (AOps.nil ⟨rfl, rfl⟩)
          · -- decide (((i : Int) + ((((l.getD k default).text) : List UInt8).length : Int)) > (((t) : List UInt8).length : Int)) is true
            have h7k := of_decide_eq_true h7
            refine AOps.runN hT (fun _ => false) 14 [0, 3, 5, 6, 7, 8, 82] (fr' := ⟨[(0, .str t), (3, .slice (toksAV l) l.length own4), (5, .int .i64 (lineAt t i)), (6, .int .i64 (colAt t i)), (7, .int .i64 (k : Int)), (8, .int .i64 (i : Int)), (82, .bool true)], [[.int .i64 0, .int .i64 0, .int .i64 0]], [], [], 0⟩) (σ' := σ) (ob := True ∧ True ∧ True ∧ True) (by kernel_rfl) ⟨trivial, trivial, trivial, trivial⟩ ?_
            refine AOps.weak [0, 3, 5, 6, 7, 8, 82] (AOps.nil ⟨rfl, rfl⟩)
        -- on
        refine ACode.cond (t := (decide (((i : Int) + ((((l.getD k default).text) : List UInt8).length : Int)) > (((t) : List UInt8).length : Int))) || ((!(((t.take ((((i : Int) + ((((l.getD k default).text) : List UInt8).length : Int))).toNat)).drop i) == ((l.getD k default).text))) || (((l.getD k default).text) == []))) (by kernel_rfl) (fun h9 => ?_) (fun h9 => ?_)
        · -- true
          have h9k := h9; simp only [Bool.and_eq_true, Bool.or_eq_true, Bool.and_eq_false_iff, Bool.or_eq_false_iff, decide_eq_true_eq, decide_eq_false_iff_not, beq_iff_eq, bne_iff_ne, ne_eq, Bool.not_eq_true', Bool.not_eq_false', beq_eq_false_iff_ne, bne_eq_false_iff_eq] at h9k
          exfalso
          rcases h9k with h9 | h9 | h9
          · omega
          · exact h9 hT2
          · exact hT3 h9
        · -- false
          have h9k := h9; simp only [Bool.and_eq_true, Bool.or_eq_true, Bool.and_eq_false_iff, Bool.or_eq_false_iff, decide_eq_true_eq, decide_eq_false_iff_not, beq_iff_eq, bne_iff_ne, ne_eq, Bool.not_eq_true', Bool.not_eq_false', beq_eq_false_iff_ne, bne_eq_false_iff_eq] at h9k
          refine ACode.skip ?_
          refine ACode.run hT (fun _ => false) [0, 3, 5, 6, 7, 8] (fr' := ⟨[(0, .str t), (3, .slice (toksAV l) l.length own4), (5, .int .i64 (lineAt t i)), (6, .int .i64 (colAt t i)), (7, .int .i64 (IntKind.i64.wrap ((k : Int) + 1))), (8, .int .i64 (i : Int))], [[.int .i64 0, .int .i64 0, .int .i64 0]], [], [], 0⟩) (σ' := σ) (ob := True ∧ True ∧ True ∧ True) (by kernel_rfl) ⟨trivial, trivial, trivial, trivial⟩ ?_
          rw [IntWalk.i64_in ((k : Int) + 1) (by omega)]
          refine ACode.seq ?_
          refine ACode.run hT (fun _ => false) [0, 3, 5, 6, 7, 8] (fr' := ⟨[(0, .str t), (3, .slice (toksAV l) l.length own4), (5, .int .i64 (lineAt t i)), (6, .int .i64 (IntKind.i64.wrap ((colAt t i) + 1))), (7, .int .i64 ((k : Int) + 1)), (8, .int .i64 (i : Int))], [[.int .i64 0, .int .i64 0, .int .i64 0]], [], [], 0⟩) (σ' := σ) (ob := True ∧ True ∧ True ∧ True) (by kernel_rfl) ⟨trivial, trivial, trivial, trivial⟩ ?_
          rw [IntWalk.i64_in ((colAt t i) + 1) (by omega)]
          refine ACode.seq ?_
          refine ACode.run hT (fun _ => false) [0, 3, 5, 6, 7, 8, 90] (fr' := ⟨[(0, .str t), (3, .slice (toksAV l) l.length own4), (5, .int .i64 (lineAt t i)), (6, .int .i64 ((colAt t i) + 1)), (7, .int .i64 ((k : Int) + 1)), (8, .int .i64 (i : Int)), (90, .bool (((t.getD i 0).toNat : Int) == 10))], [[.int .i64 0, .int .i64 0, .int .i64 0]], [], [], 0⟩) (σ' := σ) (ob := True ∧ True ∧ (0 ≤ ((i : Int) : Int) ∧ ((i : Int) : Int) < ((t) : List UInt8).length) ∧ True ∧ True) (by kernel_rfl) ⟨trivial, trivial, (by first | omega | (simp; done) | (simp; omega)), trivial, trivial⟩ ?_
          refine ACode.cond (t := ((t.getD i 0).toNat : Int) == 10) (by kernel_rfl) (fun h10 => ?_) (fun h10 => ?_)
          · -- true
            have h10k := eq_of_beq h10
            refine ACode.seq ?_
            refine ACode.run hT (fun _ => false) [0, 3, 5, 7, 8] (fr' := ⟨[(0, .str t), (3, .slice (toksAV l) l.length own4), (5, .int .i64 (IntKind.i64.wrap ((lineAt t i) + 1))), (7, .int .i64 ((k : Int) + 1)), (8, .int .i64 (i : Int))], [[.int .i64 0, .int .i64 0, .int .i64 0]], [], [], 0⟩) (σ' := σ) (ob := True ∧ True ∧ True ∧ True) (by kernel_rfl) ⟨trivial, trivial, trivial, trivial⟩ ?_
            rw [IntWalk.i64_in ((lineAt t i) + 1) (by omega)]
            refine ACode.run hT (fun _ => false) [0, 3, 5, 6, 7, 8] (fr' := ⟨[(0, .str t), (3, .slice (toksAV l) l.length own4), (5, .int .i64 ((lineAt t i) + 1)), (6, .int .i64 1), (7, .int .i64 ((k : Int) + 1)), (8, .int .i64 (i : Int))], [[.int .i64 0, .int .i64 0, .int .i64 0]], [], [], 0⟩) (σ' := σ) (ob := True ∧ True) (by kernel_rfl) ⟨trivial, trivial⟩ ?_
            refine ACode.run hT (fun _ => false) [0, 3, 5, 6, 7, 8] (fr' := ⟨[(0, .str t), (3, .slice (toksAV l) l.length own4), (5, .int .i64 ((lineAt t i) + 1)), (6, .int .i64 1), (7, .int .i64 ((k : Int) + 1)), (8, .int .i64 (IntKind.i64.wrap ((i : Int) + 1)))], [[.int .i64 0, .int .i64 0, .int .i64 0]], [], [], 0⟩) (σ' := σ) (ob := True ∧ True ∧ True ∧ True) (by kernel_rfl) ⟨trivial, trivial, trivial, trivial⟩ ?_
            rw [IntWalk.i64_in ((i : Int) + 1) (by omega)]
            refine ⟨by kernel_rfl, _, ?_, i + 1, k + 1, (by obtain ⟨q1, q2⟩ := at_nl (t := t) (i := i) (by omega) h10k; rw [q1, q2]; rfl), rfl, ?_, rfl⟩
            · omega
            · exact ⟨by omega, hA1⟩
          · -- false
            have h10k := ne_of_beq_false h10
            refine ACode.skip ?_
            refine ACode.run hT (fun _ => false) [0, 3, 5, 6, 7, 8] (fr' := ⟨[(0, .str t), (3, .slice (toksAV l) l.length own4), (5, .int .i64 (lineAt t i)), (6, .int .i64 ((colAt t i) + 1)), (7, .int .i64 ((k : Int) + 1)), (8, .int .i64 (IntKind.i64.wrap ((i : Int) + 1)))], [[.int .i64 0, .int .i64 0, .int .i64 0]], [], [], 0⟩) (σ' := σ) (ob := True ∧ True ∧ True ∧ True) (by kernel_rfl) ⟨trivial, trivial, trivial, trivial⟩ ?_
            rw [IntWalk.i64_in ((i : Int) + 1) (by omega)]
            refine ⟨by kernel_rfl, _, ?_, i + 1, k + 1, (by obtain ⟨q1, q2⟩ := at_n (t := t) (i := i) (by omega) h10k; rw [q1, q2]; rfl), rfl, ?_, rfl⟩
            · omega
            · exact ⟨by omega, hA1⟩
      · -- false
        have h6k := h6; simp only [Bool.and_eq_true, Bool.or_eq_true, Bool.and_eq_false_iff, Bool.or_eq_false_iff, decide_eq_true_eq, decide_eq_false_iff_not, beq_iff_eq, bne_iff_ne, ne_eq, Bool.not_eq_true', Bool.not_eq_false', beq_eq_false_iff_ne, bne_eq_false_iff_eq] at h6k
        have hA1 := hp.miss hA (fun h9 => h6k.elim (fun q => q h9.1.1) (fun q => q.elim (fun q => q h9.1.2) (fun q => h9.2 q)))
        refine ACode.skip ?_
        refine ACode.seq ?_
        refine ACode.run hT (fun _ => false) [0, 3, 5, 6, 7, 8] (fr' := ⟨[(0, .str t), (3, .slice (toksAV l) l.length own4), (5, .int .i64 (lineAt t i)), (6, .int .i64 (IntKind.i64.wrap ((colAt t i) + 1))), (7, .int .i64 (k : Int)), (8, .int .i64 (i : Int))], [[.int .i64 0, .int .i64 0, .int .i64 0]], [], [], 0⟩) (σ' := σ) (ob := True ∧ True ∧ True ∧ True) (by kernel_rfl) ⟨trivial, trivial, trivial, trivial⟩ ?_
        rw [IntWalk.i64_in ((colAt t i) + 1) (by omega)]
        refine ACode.seq ?_
        refine ACode.run hT (fun _ => false) [0, 3, 5, 6, 7, 8, 90] (fr' := ⟨[(0, .str t), (3, .slice (toksAV l) l.length own4), (5, .int .i64 (lineAt t i)), (6, .int .i64 ((colAt t i) + 1)), (7, .int .i64 (k : Int)), (8, .int .i64 (i : Int)), (90, .bool (((t.getD i 0).toNat : Int) == 10))], [[.int .i64 0, .int .i64 0, .int .i64 0]], [], [], 0⟩) (σ' := σ) (ob := True ∧ True ∧ (0 ≤ ((i : Int) : Int) ∧ ((i : Int) : Int) < ((t) : List UInt8).length) ∧ True ∧ True) (by kernel_rfl) ⟨trivial, trivial, (by first | omega | (simp; done) | (simp; omega)), trivial, trivial⟩ ?_
        refine ACode.cond (t := ((t.getD i 0).toNat : Int) == 10) (by kernel_rfl) (fun h11 => ?_) (fun h11 => ?_)
        · -- true
          have h11k := eq_of_beq h11
          refine ACode.seq ?_
          refine ACode.run hT (fun _ => false) [0, 3, 5, 7, 8] (fr' := ⟨[(0, .str t), (3, .slice (toksAV l) l.length own4), (5, .int .i64 (IntKind.i64.wrap ((lineAt t i) + 1))), (7, .int .i64 (k : Int)), (8, .int .i64 (i : Int))], [[.int .i64 0, .int .i64 0, .int .i64 0]], [], [], 0⟩) (σ' := σ) (ob := True ∧ True ∧ True ∧ True) (by kernel_rfl) ⟨trivial, trivial, trivial, trivial⟩ ?_
          rw [IntWalk.i64_in ((lineAt t i) + 1) (by omega)]
          refine ACode.run hT (fun _ => false) [0, 3, 5, 6, 7, 8] (fr' := ⟨[(0, .str t), (3, .slice (toksAV l) l.length own4), (5, .int .i64 ((lineAt t i) + 1)), (6, .int .i64 1), (7, .int .i64 (k : Int)), (8, .int .i64 (i : Int))], [[.int .i64 0, .int .i64 0, .int .i64 0]], [], [], 0⟩) (σ' := σ) (ob := True ∧ True) (by kernel_rfl) ⟨trivial, trivial⟩ ?_
          refine ACode.run hT (fun _ => false) [0, 3, 5, 6, 7, 8] (fr' := ⟨[(0, .str t), (3, .slice (toksAV l) l.length own4), (5, .int .i64 ((lineAt t i) + 1)), (6, .int .i64 1), (7, .int .i64 (k : Int)), (8, .int .i64 (IntKind.i64.wrap ((i : Int) + 1)))], [[.int .i64 0, .int .i64 0, .int .i64 0]], [], [], 0⟩) (σ' := σ) (ob := True ∧ True ∧ True ∧ True) (by kernel_rfl) ⟨trivial, trivial, trivial, trivial⟩ ?_
          rw [IntWalk.i64_in ((i : Int) + 1) (by omega)]
          refine ⟨by kernel_rfl, _, ?_, i + 1, k, (by obtain ⟨q1, q2⟩ := at_nl (t := t) (i := i) (by omega) h11k; rw [q1, q2]; rfl), rfl, ?_, rfl⟩
          · omega
          · exact ⟨by omega, hA1⟩
        · -- false
          have h11k := ne_of_beq_false h11
          refine ACode.skip ?_
          refine ACode.run hT (fun _ => false) [0, 3, 5, 6, 7, 8] (fr' := ⟨[(0, .str t), (3, .slice (toksAV l) l.length own4), (5, .int .i64 (lineAt t i)), (6, .int .i64 ((colAt t i) + 1)), (7, .int .i64 (k : Int)), (8, .int .i64 (IntKind.i64.wrap ((i : Int) + 1)))], [[.int .i64 0, .int .i64 0, .int .i64 0]], [], [], 0⟩) (σ' := σ) (ob := True ∧ True ∧ True ∧ True) (by kernel_rfl) ⟨trivial, trivial, trivial, trivial⟩ ?_
          rw [IntWalk.i64_in ((i : Int) + 1) (by omega)]
          refine ⟨by kernel_rfl, _, ?_, i + 1, k, (by obtain ⟨q1, q2⟩ := at_n (t := t) (i := i) (by omega) h11k; rw [q1, q2]; rfl), rfl, ?_, rfl⟩
          · omega
          · exact ⟨by omega, hA1⟩
    · -- false
      have h3k := h3; simp only [Bool.and_eq_true, Bool.or_eq_true, Bool.and_eq_false_iff, Bool.or_eq_false_iff, decide_eq_true_eq, decide_eq_false_iff_not, beq_iff_eq, bne_iff_ne, ne_eq, Bool.not_eq_true', Bool.not_eq_false', beq_eq_false_iff_ne, bne_eq_false_iff_eq] at h3k
      refine ACode.exit ?_
      refine ACode.seq ?_
      refine ACode.meet ⟨[(2, .bool ((((l.length : Nat) : Int) == 0) || (((k : Int) == (((l.length : Nat) : Int) - 1)) && ((((l.getD k default).kind) == 0) && ((((l.getD k default).line) == (lineAt t i)) && (((l.getD k default).col) == (colAt t i)))))))], [[.int .i64 0, .int .i64 0, .int .i64 0]], [], [], 0⟩ σ (ACode.region ?_) ?_
      ·
        refine AOps.runN hT (fun _ => false) 4 [3, 5, 6, 7, 96] (fr' := ⟨[(3, .slice (toksAV l) l.length own4), (5, .int .i64 (lineAt t i)), (6, .int .i64 (colAt t i)), (7, .int .i64 (k : Int)), (96, .bool (((l.length : Nat) : Int) == 0))], [[.int .i64 0, .int .i64 0, .int .i64 0]], [], [], 0⟩) (σ' := σ) (ob := True ∧ True ∧ True ∧ True ∧ True) (by kernel_rfl) ⟨trivial, trivial, trivial, trivial, trivial⟩ ?_
        cases h12 : (((l.length : Nat) : Int) == 0)
        · -- ((l.length : Nat) : Int) == 0 is false
          have h12k := ne_of_beq_false h12
          refine AOps.runN hT (fun _ => false) 6 [3, 5, 6, 7, 96, 102] (fr' := ⟨[(3, .slice (toksAV l) l.length own4), (5, .int .i64 (lineAt t i)), (6, .int .i64 (colAt t i)), (7, .int .i64 (k : Int)), (96, .bool false), (102, .bool ((k : Int) == (IntKind.i64.wrap (((l.length : Nat) : Int) - 1))))], [[.int .i64 0, .int .i64 0, .int .i64 0]], [], [], 0⟩) (σ' := σ) (ob := True ∧ True ∧ True ∧ True ∧ True ∧ True ∧ True) (by kernel_rfl) ⟨trivial, trivial, trivial, trivial, trivial, trivial, trivial⟩ ?_
          rw [IntWalk.i64_in (((l.length : Nat) : Int) - 1) (by omega)]
          cases h13 : ((k : Int) == (((l.length : Nat) : Int) - 1))
          · -- (k : Int) == (((l.length : Nat) : Int) - 1) is false
            have h13k := ne_of_beq_false h13
            refine AOps.runN hT (fun _ => false) 27 [2] (fr' := ⟨[(2, .bool false)], [[.int .i64 0, .int .i64 0, .int .i64 0]], [], [], 0⟩) (σ' := σ) (ob := True ∧ True ∧ True ∧ True ∧ True ∧ True ∧ True ∧ True) (by kernel_rfl) ⟨trivial, trivial, trivial, trivial, trivial, trivial, trivial, trivial⟩ ?_
            refine AOps.weak [2] (AOps.nil ⟨rfl, rfl⟩)
          · -- (k : Int) == (((l.length : Nat) : Int) - 1) is true
            have h13k := eq_of_beq h13
            refine AOps.runN hT (fun _ => false) 3 [3, 5, 6, 7, 96, 102, 105] (fr' := ⟨[(3, .slice (toksAV l) l.length own4), (5, .int .i64 (lineAt t i)), (6, .int .i64 (colAt t i)), (7, .int .i64 (k : Int)), (96, .bool false), (102, .bool true), (105, .dat (((toksAV l : List AV).drop (k * 5)).take 5))], [[.int .i64 0, .int .i64 0, .int .i64 0]], [], [], 0⟩) (σ' := σ) (ob := True ∧ True ∧ (0 ≤ ((k : Int) : Int) ∧ ((k : Int) : Int) < (l.length : Nat) ∧ k * 5 ≤ (toksAV l : List AV).length) ∧ True) (by kernel_rfl) ⟨trivial, trivial, (by rw [toksAV_length]; omega), trivial⟩ ?_
            rw [toksAV_at l k (by omega)]
            refine AOps.runN hT (fun _ => false) 5 [3, 5, 6, 7, 96, 110] (fr' := ⟨[(3, .slice (toksAV l) l.length own4), (5, .int .i64 (lineAt t i)), (6, .int .i64 (colAt t i)), (7, .int .i64 (k : Int)), (96, .bool false), (110, .bool (((l.getD k default).kind) == 0))], [[.int .i64 0, .int .i64 0, .int .i64 0]], [], [], 0⟩) (σ' := σ) (ob := (0 ≤ ([.int .i64 ((l.getD k default).kind), .str ((l.getD k default).text), .int .u64 ((l.getD k default).n), .int .i64 ((l.getD k default).line), .int .i64 ((l.getD k default).col)] : List AV).length) ∧ True ∧ True ∧ True ∧ True ∧ True) (by kernel_rfl) ⟨(by first | omega | (simp; done) | (simp; omega)), trivial, trivial, trivial, trivial, trivial⟩ ?_
            cases h14 : (((l.getD k default).kind) == 0)
            · -- ((l.getD k default).kind) == 0 is false
              have h14k := ne_of_beq_false h14
              refine AOps.runN hT (fun _ => false) 19 [2] (fr' := ⟨[(2, .bool false)], [[.int .i64 0, .int .i64 0, .int .i64 0]], [], [], 0⟩) (σ' := σ) (ob := True ∧ True ∧ True ∧ True ∧ True ∧ True) (by kernel_rfl) ⟨trivial, trivial, trivial, trivial, trivial, trivial⟩ ?_
              refine AOps.weak [2] (AOps.nil ⟨rfl, rfl⟩)
            · -- ((l.getD k default).kind) == 0 is true
              have h14k := eq_of_beq h14
              refine AOps.runN hT (fun _ => false) 3 [3, 5, 6, 7, 96, 110, 113] (fr' := ⟨[(3, .slice (toksAV l) l.length own4), (5, .int .i64 (lineAt t i)), (6, .int .i64 (colAt t i)), (7, .int .i64 (k : Int)), (96, .bool false), (110, .bool true), (113, .dat (((toksAV l : List AV).drop (k * 5)).take 5))], [[.int .i64 0, .int .i64 0, .int .i64 0]], [], [], 0⟩) (σ' := σ) (ob := True ∧ True ∧ (0 ≤ ((k : Int) : Int) ∧ ((k : Int) : Int) < (l.length : Nat) ∧ k * 5 ≤ (toksAV l : List AV).length) ∧ True) (by kernel_rfl) ⟨trivial, trivial, (by rw [toksAV_length]; omega), trivial⟩ ?_
              rw [toksAV_at l k (by omega)]
              refine AOps.runN hT (fun _ => false) 6 [3, 6, 7, 96, 119] (fr' := ⟨[(3, .slice (toksAV l) l.length own4), (6, .int .i64 (colAt t i)), (7, .int .i64 (k : Int)), (96, .bool false), (119, .bool (((l.getD k default).line) == (lineAt t i)))], [[.int .i64 0, .int .i64 0, .int .i64 0]], [], [], 0⟩) (σ' := σ) (ob := (3 ≤ ([.int .i64 ((l.getD k default).kind), .str ((l.getD k default).text), .int .u64 ((l.getD k default).n), .int .i64 ((l.getD k default).line), .int .i64 ((l.getD k default).col)] : List AV).length) ∧ True ∧ True ∧ True ∧ True ∧ True ∧ True) (by kernel_rfl) ⟨(by first | omega | (simp; done) | (simp; omega)), trivial, trivial, trivial, trivial, trivial, trivial⟩ ?_
              cases h15 : (((l.getD k default).line) == (lineAt t i))
              · -- ((l.getD k default).line) == (lineAt t i) is false
                have h15k := ne_of_beq_false h15
                refine AOps.runN hT (fun _ => false) 10 [2] (fr' := ⟨[(2, .bool false)], [[.int .i64 0, .int .i64 0, .int .i64 0]], [], [], 0⟩) (σ' := σ) (ob := True ∧ True ∧ True ∧ True) (by kernel_rfl) ⟨trivial, trivial, trivial, trivial⟩ ?_
                refine AOps.weak [2] (AOps.nil ⟨rfl, rfl⟩)
              · -- ((l.getD k default).line) == (lineAt t i) is true
                have h15k := eq_of_beq h15
                refine AOps.runN hT (fun _ => false) 3 [6, 96, 119, 122] (fr' := ⟨[(6, .int .i64 (colAt t i)), (96, .bool false), (119, .bool true), (122, .dat (((toksAV l : List AV).drop (k * 5)).take 5))], [[.int .i64 0, .int .i64 0, .int .i64 0]], [], [], 0⟩) (σ' := σ) (ob := True ∧ True ∧ (0 ≤ ((k : Int) : Int) ∧ ((k : Int) : Int) < (l.length : Nat) ∧ k * 5 ≤ (toksAV l : List AV).length) ∧ True) (by kernel_rfl) ⟨trivial, trivial, (by rw [toksAV_length]; omega), trivial⟩ ?_
                rw [toksAV_at l k (by omega)]
                refine AOps.runN hT (fun _ => false) 7 [2] (fr' := ⟨[(2, .bool (((l.getD k default).col) == (colAt t i)))], [[.int .i64 0, .int .i64 0, .int .i64 0]], [], [], 0⟩) (σ' := σ) (ob := (4 ≤ ([.int .i64 ((l.getD k default).kind), .str ((l.getD k default).text), .int .u64 ((l.getD k default).n), .int .i64 ((l.getD k default).line), .int .i64 ((l.getD k default).col)] : List AV).length) ∧ True ∧ True ∧ True ∧ True ∧ True ∧ True ∧ True) (by kernel_rfl) ⟨(by first | omega | (simp; done) | (simp; omega)), trivial, trivial, trivial, trivial, trivial, trivial, trivial⟩ ?_
                refine AOps.weak [2] (AOps.nil ⟨rfl, rfl⟩)
        · -- ((l.length : Nat) : Int) == 0 is true
          have h12k := eq_of_beq h12
          refine AOps.runN hT (fun _ => false) 33 [2] (fr' := ⟨[(2, .bool true)], [[.int .i64 0, .int .i64 0, .int .i64 0]], [], [], 0⟩) (σ' := σ) (ob := True ∧ True ∧ True) (by kernel_rfl) ⟨trivial, trivial, trivial⟩ ?_
          refine AOps.weak [2] (AOps.nil ⟨rfl, rfl⟩)
      -- on
      refine ACode.ret ?_
      refine retQ.ret (.bool ((((l.length : Nat) : Int) == 0) || (((k : Int) == (((l.length : Nat) : Int) - 1)) && ((((l.getD k default).kind) == 0) && ((((l.getD k default).line) == (lineAt t i)) && (((l.getD k default).col) == (colAt t i))))))) (by kernel_rfl) ?_
      have hke := hA.end hp.o (by omega)
      have hke2 : i = t.length := by omega
      subst hke2
      subst hke
      rw [hp.last, hlen]
      simp

theorem lexPlaces_walk (t : List UInt8) (σ : St) : ACalls Tryd.prog 5 [.str t] σ (fun e s => σ = s ∧ e = .ret (.bool true)) := by
  by_cases h : t.length ≤ 8192
  · rcases lexS_cases t h with ⟨l, hl, h1, h2, h3⟩ | ⟨ln, cl, hl⟩
    · obtain ⟨xs, os, e, ho⟩ := places_plain t h (by rw [hl])
      rw [hl] at e
      exact lexPlaces_ok t l xs os σ h (by omega) hl (fun i => Nat.le_trans (h3 i) h) ⟨e, ho⟩
    · exact lexPlaces_err t 3 ln cl σ hl (by decide)
  · exact lexPlaces_err t 10 1 1 σ (lexS_big t h) (by decide)

end Go.AE

