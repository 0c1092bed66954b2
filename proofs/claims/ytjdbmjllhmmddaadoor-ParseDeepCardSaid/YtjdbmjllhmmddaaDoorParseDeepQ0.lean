/- Parts of the proof of a law, in build order: RowL, RowM, RowN, LexT, LexU, P9, P10, P11. -/
import Derived.Test.YtjdbmjllhmmddaaDoorP8Q9
import Derived.Test.YtjdbmjllhmmddaaDoorCards
import Derived.Test.YtjdbmjllhmmddaaDoorTie
import Derived.WalkKit
import Derived.ProofKit
import Derived.OpenShut
import Derived.Deep.DeepHandedRow
import Derived.Deep.DeepWitnessRowRef
import Derived.Lib.LaidTab
import Derived.LaidMore
import Derived.LaidLaws
import Derived.Shelf.Vars
import Derived.IntWalk
set_option maxRecDepth 2000
set_option linter.unusedVariables false
set_option linter.unusedSimpArgs false
/- The rows of the lexer's laws: what the listed variables give, one start that fits, from a call that answers true to the row. -/
set_option linter.unusedVariables false
set_option linter.unusedSimpArgs false
namespace Go.Proofs.YtjdbmjllhmmddaaDoor
open Go.AE Go.ChangeShapes Go.WideShapes Go.ChangeAt Go.RowKit

theorem own : ownKnob Tryd.prog.godebug = none := by kernel_rfl
theorem gA : Tryd.prog.globalNamed "math/bits.deBruijn32tab" = some 4 := by kernel_rfl
theorem gB : Tryd.prog.globalNamed "math/bits.deBruijn64tab" = some 5 := by kernel_rfl
theorem gC : Tryd.prog.globalNamed "internal/strconv.uint64pow10" = some 3 := by kernel_rfl
theorem gD : Tryd.prog.globalNamed "strconv.ErrRange" = some 2 := by kernel_rfl
theorem gE : Tryd.prog.globalNamed "strconv.ErrSyntax" = some 1 := by kernel_rfl
theorem tyC : (Tryd.prog.globals[3]?).map (·.type) = some 138 := by kernel_rfl
theorem tyD : (Tryd.prog.globals[2]?).map (·.type) = some 95 := by kernel_rfl
theorem tyE : (Tryd.prog.globals[1]?).map (·.type) = some 95 := by kernel_rfl
theorem c138 : Tryd.prog.cellsOf 138 = 20 := by kernel_rfl
theorem c31 : Tryd.prog.cellsOf 31 = 1 := by kernel_rfl
theorem c95 : Tryd.prog.cellsOf 95 = 1 := by kernel_rfl
theorem star : "*" ++ "errors.errorString" = "*errors.errorString" := by decide
theorem row145 (u : TypeId) (h : Tryd.prog.typeName? 3 u = some "*errors.errorString") : u = 145 :=
  typeName_ptr_named (nm := "errors.errorString") (by rw [star]; kernel_rfl) (by kernel_rfl) (by decide) u (by rw [star]; exact h)

theorem gat_of_cells {W : World} {g : Nat} {cs : List AV} {vs : Array Value} (hv : ∃ e f, W.heap[g]? = some (.cells vs e f)) (hl : cs.length = vs.size) (h1 : ∀ x ∈ vs.toList, x.oneCell' = true) (hc : CRs (viewOf W) cs vs.toList) : GAt (viewOf W) g cs := by
  obtain ⟨e, f, hh⟩ := hv
  refine (show CR (viewOf W) (.dat cs) _ from ?_)
  simp only [CR]
  refine ⟨g, 0, rfl, lt_of_heap hh, ?_, ?_⟩
  · simp [viewOf, hh, hl]
  · refine CRat_of_list hc h1 fun j v hj => ?_
    show W.cell? _ = _
    rw [Nat.zero_add]
    simpa [World.cell?, hh] using hj

/-- A listed error. -/
theorem sentinel_cell {W : World} {g fuel : Nat} {cs : Array Value} {y : DataW Unit} {p : List MemPlace} {name : String} (hg : Tryd.prog.globalNamed name = some g) (hv : W.var? Tryd.prog name = some cs)
    (hd : DataW.trod (fun _ => ()) Tryd.prog W 0 (fun _ => true) false fuel 95 cs.toList = some (.iface "*errors.errorString" y, p)) : GAt (viewOf W) g [.iface 145 .any] := by
  have hu : Tryd.prog.underlying 95 = some (.interface _) := Tryd.underlying95
  have hcell : ∃ e f, W.heap[g]? = some (.cells cs e f) := by
    unfold World.var? at hv
    rw [hg] at hv
    simp only [Option.bind_some] at hv
    split at hv
    · rename_i c e f hh; injection hv with hv; subst hv; exact ⟨e, f, hh⟩
    · cases hv
  have hcs : ∃ x, cs.toList = [.iface 145 x] := by
    cases fuel with
    | zero => simp [DataW.trod] at hd
    | succ fuel =>
      generalize cs.toList = l at hd
      rcases l with _ | ⟨v, _ | ⟨v2, l⟩⟩
      · simp [DataW.trod, hu] at hd
      · cases v with
        | iface u v =>
          simp only [DataW.trod, hu] at hd
          cases hn : Tryd.prog.typeName? 3 u with
          | none => simp [hn] at hd
          | some nm =>
            simp only [hn, Option.map_eq_some_iff, Prod.mk.injEq, DataW.iface.injEq] at hd
            obtain ⟨a, _, ⟨rfl, _⟩, _⟩ := hd
            obtain rfl := row145 u hn
            exact ⟨v, rfl⟩
        | _ => simp [DataW.trod, hu] at hd
      · simp [DataW.trod, hu] at hd
  obtain ⟨x, hx⟩ := hcs
  have hsz : cs.size = 1 := by rw [← Array.length_toList, hx]; rfl
  exact gat_of_cells hcell (by rw [hsz]; rfl) (by rw [hx]; simp [Value.oneCell']) (by rw [hx]; simp [CRs, CR])

theorem gok {W : World} (hL : laidMetH Tryd.prog Rows.lexNamesRow.laid W) (hsh : W.ShapedOpen Tryd.prog) : GOK (viewOf W) := by
  rw [MakeChecks.laidMetH_plain _ _ _ (by kernel_rfl)] at hL
  obtain ⟨ps, ⟨g0, t0, cs0, f0, p0, q0, hg0, ht0, hv0, hd0, ⟨g1, t1, cs1, f1, p1, q1, hg1, ht1, hv1, hd1, ⟨g2, t2, cs2, f2, p2, q2, hg2, ht2, hv2, hd2, ⟨g3, t3, cs3, f3, p3, q3, hg3, ht3, hv3, hd3, ⟨g4, t4, cs4, f4, p4, q4, hg4, ht4, hv4, hd4, _, _⟩, _⟩, _⟩, _⟩, _⟩, _, _⟩ := hL
  obtain rfl := Option.some.inj (gC.symm.trans hg2)
  obtain rfl := Option.some.inj (gD.symm.trans hg3)
  obtain rfl := Option.some.inj (gE.symm.trans hg4)
  obtain rfl := Option.some.inj (tyC.symm.trans ht2)
  obtain rfl := Option.some.inj (tyD.symm.trans ht3)
  obtain rfl := Option.some.inj (tyE.symm.trans ht4)
  refine ⟨⟨sentinel_cell gE hv4 hd4, sentinel_cell gD hv3 hd3, ?_, trivial⟩, ?_⟩
  · have hc := Lib.cells_of_tab (zs := Lib.pow10Tab) Tryd.underlying138 Tryd.underlying31 c31 c138 hd2
    have hcell : ∃ e f, W.heap[3]? = some (.cells cs2 e f) := by
      unfold World.var? at hv2
      rw [gC] at hv2
      simp only [Option.bind_some] at hv2
      split at hv2
      · rename_i c e f hh; injection hv2 with hv2; subst hv2; exact ⟨e, f, hh⟩
      · cases hv2
    have e20 : Lib.pow10Tab = [1, 10, 100, 1000, 10000, 100000, 1000000, 10000000, 100000000, 1000000000, 10000000000, 100000000000, 1000000000000, 10000000000000, 100000000000000, 1000000000000000, 10000000000000000, 100000000000000000, 1000000000000000000, 10000000000000000000] := by decide
    have hsz : cs2.size = 20 := by rw [← Array.length_toList, hc]; rfl
    refine gat_of_cells hcell (by rw [hsz]; rfl) (by rw [hc, e20]; simp [Value.oneCell']) (by rw [hc, e20]; simp [CRs, CR])
  · intro x hx
    have : x = 0 := by simpa [theInt] using hx
    subst this
    have hg6 : 0 < Tryd.prog.globals.size := by rw [show Tryd.prog.globals.size = 6 by kernel_rfl]; decide
    obtain ⟨m, hm⟩ := cell_of_shapedOpen_int (g := 0) (t := 3) (zero := #[.int .i64 0]) (k := .i64) hsh hg6 (by kernel_rfl) rfl (by kernel_rfl) (by kernel_rfl) Tryd.underlying3
    refine ⟨m, ?_⟩
    have hm2 : ∃ c e f, W.heap[0]? = some (.cells c e f) ∧ c[0]? = some (.int .i64 m) := by
      unfold World.cell? at hm
      simp only at hm
      split at hm
      · rename_i c e f hh; exact ⟨c, e, f, hh, by simpa using hm⟩
      · cases hm
    obtain ⟨c, e, f, hh, hc⟩ := hm2
    refine (show CR (viewOf W) (.dat _) _ from ?_)
    simp only [CR]
    refine ⟨0, 0, rfl, lt_of_heap hh, ?_, ?_⟩
    · have := (Array.getElem?_eq_some_iff.1 hc).1
      simp [viewOf, hh]; omega
    · simp only [CRat, CR, and_true]
      exact ⟨_, hm, rfl, rfl⟩
end Go.Proofs.YtjdbmjllhmmddaaDoor

/- From a call that answers true, and turns nothing of what was there, to the row's condition behind the call. -/
set_option linter.unusedVariables false
namespace Go
open Go.RowKit Go.ChangeShapes Go.ChangeAt
variable {H : Type} {enc : TypeId × Value → H} {P : Program}
theorem post_of_below {f : Func} {s : ChangeSpec} {apart fresh handsOn again : Bool} {W W' : World} {args : Array Value} {v : Value} {ds gs : List (DataW H)} {before pa pv : List MemPlace}
    (hW : DataW.Whole enc P f.params.toList s.vars apart W args.toList ds gs before)
    (hres : ∀ (b : Nat) (sp : Nat → Bool) (hd : Bool), DataW.TrodAll enc P W' b sp hd f.resultTypes.toList (v.resultList f.resultTypes.size) (s.fn H (ds ++ gs)).results [])
    (hargs : ∀ sp : Nat → Bool, (∀ p ∈ before, sp p.block = true) → DataW.TrodAll enc P W' 0 sp true f.params.toList args.toList (s.fn H (ds ++ gs)).args pa)
    (hvars : ∀ sp : Nat → Bool, (∀ p ∈ before, sp p.block = true) → DataW.TrodVars enc P W' sp s.vars (s.fn H (ds ++ gs)).vars pv)
    (hps : before = pa ++ pv) (hb : Below W.heap.size W W')
    (hok : ∀ (j : Nat) (t : TypeId) (r : Value), f.resultTypes[j]? = some t → (v.resultList f.resultTypes.size)[j]? = some r → Value.okWide P W' .any 0 t r) :
    s.post enc P f apart fresh handsOn again W args v W' := by
  have hold : ∀ p ∈ before, (fun b => decide (b < W.heap.size)) p.block = true := fun p hp => by simpa using hW.lt p hp
  have hlt : ∀ p ∈ before, p.block < W.heap.size := fun p hp => hW.lt p hp
  refine ⟨ds, gs, before, [], pa, pv, hW, hres _ _ _, hargs _ hold, hvars _ hold, World.keptBut_mono (fun p hp => ⟨hp, ?_⟩) (hb.frame (· ∈ before)), fun _ => ?_⟩
  · rw [hps, List.mem_append] at hp
    exact Or.inr hp
  · obtain ⟨_, _, _, _, _, hz, hn⟩ := hW
    refine ⟨hok, _, _, ([] ++ pa) ++ pv, ⟨[] ++ pa, pv, trodAll_append (hargs _ (fun _ _ => rfl)) (hres _ _ _), hvars _ (fun _ _ => rfl), rfl, ?_, ?_⟩, ?_⟩
    · intro b off hp
      have hp' : MemPlace.cell b off ∈ before := by rw [hps]; simpa using hp
      rw [hb.frozen (p := ⟨b, off, none⟩) (hlt _ hp')]
      exact hz b off hp'
    · intro ha
      have := hn ha
      rw [hps] at this
      simpa using this
    · intro p hp _
      rw [hps]
      simpa using hp
end Go

/- An int of 64 bits lies within its bounds. -/
namespace Go
theorem int_lo {n : Int} (h : (Lit.int .i64 n).wf = true) : -9223372036854775808 ≤ n := by
  simp only [Lit.wf, Bool.and_eq_true, decide_eq_true_eq] at h
  have : IntKind.i64.min = -9223372036854775808 := by decide
  omega
theorem int_hi {n : Int} (h : (Lit.int .i64 n).wf = true) : n ≤ 9223372036854775807 := by
  simp only [Lit.wf, Bool.and_eq_true, decide_eq_true_eq] at h
  have : IntKind.i64.max = 9223372036854775807 := by decide
  omega
end Go

/- LexNames, in plain Lean. -/
set_option linter.unusedVariables false
set_option linter.unusedSimpArgs false
namespace Go.AE

theorem nextT_kind (r : Rd) (h : (nextT r).1.kind = 1 ∨ (nextT r).1.kind = 2) : (isNameS (nextT r).1.text || isWordS (nextT r).1.text) = true ∧ ((nextT r).1.kind = 1 → isNameS (nextT r).1.text = true) ∧ ((nextT r).1.kind = 2 → isWordS (nextT r).1.text = true) := by
  unfold nextT at *
  split at h
  · rename_i hw
    simp only [hw, if_true]
    unfold wordT at *
    dsimp only at *
    split at h
    · rename_i h1; simp [h1]
    · rename_i h1
      split at h
      · rename_i h2; simp [h1, h2]
      · simp at h
  · rename_i hw
    split at h
    · simp [realT] at h
    · unfold signT at h
      split at h
      · simp at h
      · split at h <;> simp at h

/-- What has been read stays in front. -/
theorem lexF_front : ∀ (k : Nat) (r : Rd) (acc : List Tok), (lexF k r acc).2.1 = 0 → ∃ l, (lexF k r acc).1 = acc ++ l
  | 0, r, acc, _ => ⟨[], by simp [lexF]⟩
  | k + 1, r, acc, h => by
    rw [lexF] at h ⊢
    split
    · exact ⟨_, rfl⟩
    · rename_i h1
      rw [if_neg h1] at h
      split
      · rename_i h2
        rw [if_pos h2] at h
        obtain ⟨l, hl⟩ := lexF_front k _ _ h
        exact ⟨(nextT (blankS r)).1 :: l, by rw [hl]; simp⟩
      · rename_i h2
        rw [if_neg h2] at h
        simp at h

theorem u8_all {p : UInt8 → Bool} (h : ∀ n : Fin 256, p (UInt8.ofNat n.val) = true) (b : UInt8) : p b = true := by
  have := h ⟨b.toNat, b.toNat_lt⟩
  simpa using this

theorem wordB_not (b : UInt8) (h : wordB b = true) : blankB b = false ∧ b ≠ 47 ∧ b ≠ 35 := by
  have := u8_all (p := fun b => !(wordB b) || (!(blankB b) && (b != 47) && (b != 35))) (by decide +kernel) b
  rw [h] at this
  simp only [Bool.not_true, Bool.false_or, Bool.and_eq_true, Bool.not_eq_true', bne_iff_ne, ne_eq] at this
  exact ⟨this.1.1, this.1.2, this.2⟩

theorem blankS_word {r : Rd} (hne : r.rest ≠ []) (h : wordB (r.rest.getD 0 0) = true) : blankS r = r := by
  obtain ⟨h1, h2, _⟩ := wordB_not _ h
  unfold blankS
  cases hr : r.rest with
  | nil => exact absurd hr hne
  | cons b l =>
    rw [hr] at h1 h2
    rw [List.getD_cons_zero] at h1 h2
    simp only [List.length_cons]
    rw [blankF, if_neg (by rw [hr]; simp), if_neg, if_neg]
    · rw [hr, List.getD_cons_zero, h1]; simp
    · rw [hr]
      simp [List.isPrefixOf]
      intro h3; exact absurd h3.symm h2

theorem lexS_word (t : List UInt8) (hlen : t.length ≤ 8192) (hne : t ≠ []) (hall : t.all wordB = true) (k : Int) (hk : wordT ⟨t, 1, 1⟩ = (⟨k, t, 0, 1, 1⟩, true)) : ∃ l c, lexS t = ([⟨k, t, 0, 1, 1⟩, ⟨0, [], 0, l, c⟩], 0, 0, 0) := by
  have hw : wordB (t.getD 0 0) = true := by
    cases t with
    | nil => exact absurd rfl hne
    | cons b r => simp only [List.all_cons, Bool.and_eq_true] at hall; simpa using hall.1
  have hn : wordN t = t.length := by
    unfold wordN
    congr 1
    clear hk hlen hne hw
    induction t with
    | nil => rfl
    | cons b r ih =>
      simp only [List.all_cons, Bool.and_eq_true] at hall
      rw [List.takeWhile_cons, if_pos hall.1, ih hall.2]
  have hlt : t.length = (t.length - 1) + 1 := by
    cases t with
    | nil => exact absurd rfl hne
    | cons b r => simp
  have hnx : nextT ⟨t, 1, 1⟩ = (⟨k, t, 0, 1, 1⟩, true) := by unfold nextT; rw [if_pos hw]; exact hk
  have hnr : (nextR ⟨t, 1, 1⟩).rest = [] := by unfold nextR; rw [if_pos hw]; simp [skipS, hn]
  have hb2 : blankS (nextR ⟨t, 1, 1⟩) = nextR ⟨t, 1, 1⟩ := by unfold blankS; rw [hnr]; rfl
  refine ⟨(nextR ⟨t, 1, 1⟩).line, (nextR ⟨t, 1, 1⟩).col, ?_⟩
  unfold lexS
  rw [if_neg (by omega), lexF, blankS_word (r := ⟨t, 1, 1⟩) hne hw, if_neg hne, hnx, if_pos rfl, hlt, lexF, hb2, if_pos hnr]
  rfl

end Go.AE

/- Plain laws of the lexer: blanks; a token read again; what follows a token does not change it; places. -/
set_option linter.unusedVariables false
set_option linter.unusedSimpArgs false
namespace Go.AE

/-! ### skipping -/
theorem skipS_add (r : Rd) (m n : Nat) (h : m ≤ r.rest.length) : skipS n (skipS m r) = skipS (m + n) r := by
  have e : r.rest.take (m + n) = r.rest.take m ++ (r.rest.drop m).take n := by rw [List.take_add]
  simp only [skipS, List.drop_drop, e, advL_append, advC_append]

def app (r : Rd) (t : List UInt8) : Rd := ⟨r.rest ++ t, r.line, r.col⟩

theorem skipS_app (r : Rd) (n : Nat) (t : List UInt8) (h : n ≤ r.rest.length) : skipS n (app r t) = app (skipS n r) t := by
  simp only [skipS, app, List.take_append_of_le_length h, List.drop_append_of_le_length h]

/-! ### blanks -/
theorem blankF_len : ∀ (k : Nat) (r : Rd), (blankF k r).rest.length ≤ r.rest.length
  | 0, r => Nat.le_refl _
  | k + 1, r => by
    rw [blankF]
    split
    · exact Nat.le_refl _
    · split
      · refine Nat.le_trans (blankF_len k _) ?_
        simp only [skipS, List.length_drop]; omega
      · split
        · refine Nat.le_trans (blankF_len k _) ?_
          simp only [skipS, List.length_drop]; omega
        · exact Nat.le_refl _
theorem blankS_len (r : Rd) : (blankS r).rest.length ≤ r.rest.length := blankF_len _ r

theorem blankF_fuel : ∀ (k j : Nat) (r : Rd), r.rest.length ≤ k → r.rest.length ≤ j → blankF k r = blankF j r
  | 0, 0, r, _, _ => rfl
  | 0, j + 1, r, h, _ => by
    have : r.rest = [] := List.length_eq_zero_iff.1 (by omega)
    rw [blankF, blankF, if_pos this]
  | k + 1, 0, r, _, h => by
    have : r.rest = [] := List.length_eq_zero_iff.1 (by omega)
    rw [blankF, blankF, if_pos this]
  | k + 1, j + 1, r, h1, h2 => by
    rw [blankF, blankF]
    split
    · rfl
    · rename_i hne
      have hp : 1 ≤ r.rest.length := by cases hr : r.rest with | nil => exact absurd hr hne | cons _ _ => simp
      split
      · rename_i hl
        have := lineN_pos hl
        exact blankF_fuel k j _ (by simp only [skipS, List.length_drop]; omega) (by simp only [skipS, List.length_drop]; omega)
      · split
        · exact blankF_fuel k j _ (by simp only [skipS, List.length_drop]; omega) (by simp only [skipS, List.length_drop]; omega)
        · rfl

theorem blankS_step (r : Rd) : blankS r = if r.rest = [] then r else if [47, 47].isPrefixOf r.rest then blankS (skipS (lineN r.rest) r) else if blankB (r.rest.getD 0 0) then blankS (skipS 1 r) else r := by
  unfold blankS
  by_cases hne : r.rest = []
  · rw [if_pos hne, hne]; rfl
  · rw [if_neg hne]
    have hp : 1 ≤ r.rest.length := by cases hr : r.rest with | nil => exact absurd hr hne | cons _ _ => simp
    rw [show r.rest.length = (r.rest.length - 1) + 1 by omega, blankF, if_neg hne]
    split
    · rename_i hl
      have := lineN_pos hl
      exact blankF_fuel _ _ _ (by simp only [skipS, List.length_drop]; omega) (Nat.le_refl _)
    · split
      · exact blankF_fuel _ _ _ (by simp only [skipS, List.length_drop]; omega) (Nat.le_refl _)
      · rfl

theorem blankS_fix {r : Rd} (h1 : [47, 47].isPrefixOf r.rest = false) (h2 : blankB (r.rest.getD 0 0) = false) : blankS r = r := by
  rw [blankS_step]
  by_cases hne : r.rest = []
  · rw [if_pos hne]
  · rw [if_neg hne, if_neg (by rw [h1]; simp), if_neg (by rw [h2]; simp)]

theorem blankS_done (n : Nat) : ∀ (r : Rd), r.rest.length ≤ n → (blankS r).rest = [] ∨ ([47, 47].isPrefixOf (blankS r).rest = false ∧ blankB ((blankS r).rest.getD 0 0) = false) := by
  induction n with
  | zero =>
    intro r h
    have : r.rest = [] := List.length_eq_zero_iff.1 (by omega)
    rw [blankS_step, if_pos this]; exact .inl this
  | succ n ih =>
    intro r h
    rw [blankS_step]
    by_cases hne : r.rest = []
    · rw [if_pos hne]; exact .inl hne
    · rw [if_neg hne]
      have hp : 1 ≤ r.rest.length := by cases hr : r.rest with | nil => exact absurd hr hne | cons _ _ => simp
      split
      · rename_i hl
        have := lineN_pos hl
        exact ih _ (by simp only [skipS, List.length_drop]; omega)
      · rename_i hl
        split
        · exact ih _ (by simp only [skipS, List.length_drop]; omega)
        · rename_i hb
          exact .inr ⟨Bool.eq_false_iff.2 hl, Bool.eq_false_iff.2 hb⟩

theorem blankS_idem (r : Rd) : blankS (blankS r) = blankS r := by
  rcases blankS_done _ r (Nat.le_refl _) with h | ⟨h1, h2⟩
  · rw [blankS_step (blankS r), if_pos h]
  · exact blankS_fix h1 h2

theorem blankS_nl (rest : List UInt8) (L C : Int) : blankS ⟨10 :: rest, L, C⟩ = blankS ⟨rest, L + 1, 1⟩ := by
  rw [blankS_step, if_neg (by simp), if_neg (by simp [List.isPrefixOf]), if_pos (by simp only [List.getD_cons_zero]; decide)]
  simp [skipS, advL, advC]
theorem blankS_sp (rest : List UInt8) (L C : Int) : blankS ⟨32 :: rest, L, C⟩ = blankS ⟨rest, L, C + 1⟩ := by
  rw [blankS_step, if_neg (by simp), if_neg (by simp [List.isPrefixOf]), if_pos (by simp only [List.getD_cons_zero]; decide)]
  simp [skipS, advL, advC]
theorem blankS_tab (rest : List UInt8) (L C : Int) : blankS ⟨9 :: rest, L, C⟩ = blankS ⟨rest, L, C + 1⟩ := by
  rw [blankS_step, if_neg (by simp), if_neg (by simp [List.isPrefixOf]), if_pos (by simp only [List.getD_cons_zero]; decide)]
  simp [skipS, advL, advC]

theorem adv_plain : ∀ (s : List UInt8) (L C : Int), (∀ x ∈ s, x ≠ 10) → advL L s = L ∧ advC C s = C + s.length
  | [], L, C, _ => by simp [advL, advC]
  | b :: s, L, C, h => by
    have hb := h b (by simp)
    obtain ⟨h1, h2⟩ := adv_plain s L (C + 1) fun x hx => h x (by simp [hx])
    simp only [advL, advC, if_neg hb, h1, h2, List.length_cons]
    exact ⟨trivial, by omega⟩

theorem takeWhile_stop (p : UInt8 → Bool) (s rest : List UInt8) (b : UInt8) (h : p b = false) : (s ++ b :: rest).takeWhile p = s.takeWhile p := by
  induction s with
  | nil => rw [List.nil_append, List.takeWhile_cons, if_neg (by rw [h]; simp)]; rfl
  | cons x s ih => rw [List.cons_append, List.takeWhile_cons, List.takeWhile_cons, ih]

theorem takeWhile_all (p : UInt8 → Bool) (s : List UInt8) (h : ∀ x ∈ s, p x = true) : s.takeWhile p = s := by
  induction s with
  | nil => rfl
  | cons x s ih => rw [List.takeWhile_cons, if_pos (h x (by simp)), ih fun y hy => h y (by simp [hy])]

theorem takeWhile_mem (p : UInt8 → Bool) (s : List UInt8) : ∀ x ∈ s.takeWhile p, p x = true := by
  induction s with
  | nil => simp
  | cons y s ih =>
    intro x hx
    rw [List.takeWhile_cons] at hx
    split at hx
    · rename_i hy
      rcases List.mem_cons.1 hx with rfl | hx
      · exact hy
      · exact ih x hx
    · cases hx

theorem blankS_note (note rest : List UInt8) (L C : Int) (h : ∀ x ∈ note, x ≠ 10) : blankS ⟨47 :: 47 :: (note ++ 10 :: rest), L, C⟩ = blankS ⟨rest, L + 1, 1⟩ := by
  have hs : ∀ x ∈ 47 :: 47 :: note, x ≠ 10 := by
    intro x hx
    rcases List.mem_cons.1 hx with rfl | hx
    · decide
    · rcases List.mem_cons.1 hx with rfl | hx
      · decide
      · exact h x hx
  have hl : lineN (47 :: 47 :: (note ++ 10 :: rest)) = (47 :: 47 :: note).length := by
    show ((47 :: 47 :: note ++ 10 :: rest).takeWhile _).length = _
    rw [takeWhile_stop _ _ _ _ (by decide), takeWhile_all _ _ fun x hx => by simpa using hs x hx]
  rw [blankS_step, if_neg (by simp), if_pos (by simp [List.isPrefixOf])]
  simp only [hl]
  have e : skipS (47 :: 47 :: note).length ⟨47 :: 47 :: (note ++ 10 :: rest), L, C⟩ = ⟨10 :: rest, L, C + (47 :: 47 :: note).length⟩ := by
    have e1 : (47 :: 47 :: (note ++ 10 :: rest)).take (47 :: 47 :: note).length = 47 :: 47 :: note := by
      show ((47 :: 47 :: note) ++ 10 :: rest).take _ = _
      rw [List.take_append_of_le_length (Nat.le_refl _), List.take_length]
    have e2 : (47 :: 47 :: (note ++ 10 :: rest)).drop (47 :: 47 :: note).length = 10 :: rest := by
      show ((47 :: 47 :: note) ++ 10 :: rest).drop _ = _
      rw [List.drop_append_of_le_length (Nat.le_refl _), List.drop_length, List.nil_append]
    obtain ⟨h1, h2⟩ := adv_plain (47 :: 47 :: note) L C hs
    simp only [skipS, e1, e2, h1, h2]
  rw [e, blankS_nl]

/-! ### what ends a token -/
def SepB (b : UInt8) : Prop := b = 10 ∨ b = 32
theorem SepB.word {b : UInt8} (h : SepB b) : wordB b = false := by rcases h with rfl | rfl <;> decide

theorem wordN_stop {b : UInt8} (h : SepB b) (v rest : List UInt8) : wordN (v ++ b :: rest) = wordN v := by
  rw [wordN_eq, wordN_eq, takeWhile_stop _ _ _ _ h.word]

theorem twoB_stop {b : UInt8} (h : SepB b) (v rest : List UInt8) (hv : v ≠ []) : twoB (v ++ b :: rest) = twoB v := by
  match v, hv with
  | [x], _ =>
    have hb : ((61 : UInt8) == b) = false := by rcases h with rfl | rfl <;> decide
    simp [twoB, List.isPrefixOf, hb]
  | x :: y :: v, _ => simp [twoB, List.isPrefixOf]

theorem getD_app (v t : List UInt8) (hv : v ≠ []) : (v ++ t).getD 0 0 = v.getD 0 0 := by
  cases v with
  | nil => exact absurd rfl hv
  | cons x v => rfl

theorem realText_app {b : UInt8} (h : SepB b) (r : Rd) (rest : List UInt8) (hv : r.rest ≠ []) : realText (app r (b :: rest)) = realText r := by
  have e : (r.rest ++ b :: rest).drop 1 = r.rest.drop 1 ++ b :: rest := List.drop_append_of_le_length (by cases hr : r.rest with | nil => exact absurd hr hv | cons _ _ => simp)
  simp only [realText, app, e, wordN_stop h]
  rw [List.take_append_of_le_length (wordN_le' _)]

theorem nextT_app {b : UInt8} (h : SepB b) (r : Rd) (rest : List UInt8) (hv : r.rest ≠ []) : nextT (app r (b :: rest)) = nextT r := by
  unfold nextT
  have e0 : (app r (b :: rest)).rest.getD 0 0 = r.rest.getD 0 0 := getD_app _ _ hv
  have hp : 1 ≤ r.rest.length := by cases hr : r.rest with | nil => exact absurd hr hv | cons _ _ => simp
  rw [e0]
  split
  · unfold wordT
    have e1 : (app r (b :: rest)).rest.take (wordN (app r (b :: rest)).rest) = r.rest.take (wordN r.rest) := by
      simp only [app, wordN_stop h]
      rw [List.take_append_of_le_length (wordN_le' _)]
    dsimp only
    rw [e1]
    rfl
  · split
    · unfold realT
      rw [realText_app h r rest hv]
      rfl
    · unfold signT
      have e2 : twoB (app r (b :: rest)).rest = twoB r.rest := twoB_stop h _ _ hv
      rw [e2, e0]
      split
      · rename_i ht
        have := twoB_len ht
        simp only [app]
        rw [List.take_append_of_le_length this]
      · split
        · simp only [app]
          rw [List.take_append_of_le_length hp]
        · rfl

theorem nextR_app {b : UInt8} (h : SepB b) (r : Rd) (rest : List UInt8) (hv : r.rest ≠ []) : nextR (app r (b :: rest)) = app (nextR r) (b :: rest) := by
  unfold nextR
  have e0 : (app r (b :: rest)).rest.getD 0 0 = r.rest.getD 0 0 := getD_app _ _ hv
  have hp : 1 ≤ r.rest.length := by cases hr : r.rest with | nil => exact absurd hr hv | cons _ _ => simp
  rw [e0]
  split
  · have e1 : wordN (app r (b :: rest)).rest = wordN r.rest := wordN_stop h _ _
    rw [e1, skipS_app _ _ _ (wordN_le' _)]
  · split
    · unfold realR
      rw [skipS_app _ _ _ hp]
      have e : (app r (b :: rest)).rest.drop 1 = r.rest.drop 1 ++ b :: rest := List.drop_append_of_le_length hp
      rw [e, wordN_stop h, skipS_app]
      simp only [skipS]
      exact wordN_le' _
    · unfold signR
      have e2 : twoB (app r (b :: rest)).rest = twoB r.rest := twoB_stop h _ _ hv
      rw [e2, e0]
      split
      · rename_i ht
        rw [skipS_app _ _ _ (twoB_len ht)]
      · split
        · rw [skipS_app _ _ _ hp]
        · rfl

/-! ### a token's text alone -/
theorem twoB_take (l : List UInt8) : twoB (l.take 2) = twoB l := by
  match l with
  | [] => rfl
  | [x] => rfl
  | x :: y :: l => simp [twoB, List.isPrefixOf]

theorem wordN_all (w : List UInt8) (h : ∀ x ∈ w, wordB x = true) : wordN w = w.length := by rw [wordN_eq, takeWhile_all _ _ h]

/-- What a token's text begins with. -/
def startB (b : UInt8) : Bool := wordB b || (b == 35 || (b == 61 || (b == 33 || (b == 60 || signB b))))
theorem startB_blank (b : UInt8) (h : startB b = true) : blankB b = false ∧ b ≠ 10 := by
  have := u8_all (p := fun b => !(startB b) || (!(blankB b) && (b != 10))) (by decide +kernel) b
  rw [h] at this
  simp only [Bool.not_true, Bool.false_or, Bool.and_eq_true, Bool.not_eq_true', bne_iff_ne, ne_eq] at this
  exact this
theorem wordB_nl (b : UInt8) (h : wordB b = true) : b ≠ 10 := by
  intro h9; rw [h9] at h; revert h; decide

structure TokOK (x : Tok) : Prop where
  ne : x.text ≠ []
  nl : ∀ b ∈ x.text, b ≠ 10
  st : startB (x.text.getD 0 0) = true
  sl : x.text.getD 0 0 = 47 → x.text = [47]
  nt : ∀ L C, nextT ⟨x.text, L, C⟩ = (⟨x.kind, x.text, x.n, L, C⟩, true)
  nr : ∀ L C, nextR ⟨x.text, L, C⟩ = skipS x.text.length ⟨x.text, L, C⟩
  kd : x.kind ≠ 0

theorem word_head {l : List UInt8} (hne : l ≠ []) (h : wordB (l.getD 0 0) = true) : (l.takeWhile wordB).getD 0 0 = l.getD 0 0 ∧ l.takeWhile wordB ≠ [] := by
  cases l with
  | nil => exact absurd rfl hne
  | cons b l =>
    rw [List.getD_cons_zero] at h
    rw [List.takeWhile_cons, if_pos h]
    simp

theorem wordT_alone (r : Rd) (L C : Int) : wordT ⟨r.rest.takeWhile wordB, L, C⟩ = (⟨(wordT r).1.kind, r.rest.takeWhile wordB, (wordT r).1.n, L, C⟩, (wordT r).2) := by
  have e : (r.rest.takeWhile wordB).take (wordN (r.rest.takeWhile wordB)) = r.rest.takeWhile wordB := by
    rw [wordN_all _ (takeWhile_mem _ _), List.take_length]
  unfold wordT
  simp only [e, take_wordN]
  split
  · rfl
  · split <;> rfl

theorem wordT_text (r : Rd) : (wordT r).1.text = r.rest.takeWhile wordB ∧ (wordT r).1.kind ≠ 0 := by
  unfold wordT
  simp only [take_wordN]
  split
  · exact ⟨rfl, by simp⟩
  · split
    · exact ⟨rfl, by simp⟩
    · exact ⟨rfl, by simp⟩

theorem realText_eq (r : Rd) : realText r = 35 :: (r.rest.drop 1).takeWhile wordB := by simp [realText, take_wordN]

theorem one_take (l : List UInt8) (hne : l ≠ []) : l.take 1 = [l.getD 0 0] := by
  cases l with
  | nil => exact absurd rfl hne
  | cons b l => simp

theorem two_take {l : List UInt8} (h : twoB l = true) : l.take 2 = [61, 61] ∨ l.take 2 = [33, 61] ∨ l.take 2 = [60, 61] := by
  match l with
  | [] => simp [twoB, List.isPrefixOf] at h
  | [x] => simp [twoB, List.isPrefixOf] at h
  | x :: y :: l =>
    simp only [twoB, List.isPrefixOf, Bool.or_eq_true, Bool.and_eq_true, beq_iff_eq, and_true] at h
    rcases h with ⟨rfl, rfl⟩ | ⟨rfl, rfl⟩ | ⟨rfl, rfl⟩ <;> simp

theorem tokOK_sign (w : List UInt8) (l c : Int) (h1 : w ≠ []) (h2 : ∀ b ∈ w, b ≠ 10) (h3 : startB (w.getD 0 0) = true) (h4 : w.getD 0 0 = 47 → w = [47]) (h5 : wordB (w.getD 0 0) = false) (h6 : w.getD 0 0 ≠ 35)
    (h7 : ∀ L C, signT ⟨w, L, C⟩ = (⟨5, w, 0, L, C⟩, true)) (h8 : ∀ L C, signR ⟨w, L, C⟩ = skipS w.length ⟨w, L, C⟩) : TokOK ⟨5, w, 0, l, c⟩ where
  ne := h1
  nl := h2
  st := h3
  sl := h4
  nt L C := by unfold nextT; rw [if_neg (by simp only [h5]; simp), if_neg h6]; exact h7 L C
  nr L C := by unfold nextR; rw [if_neg (by simp only [h5]; simp), if_neg h6]; exact h8 L C
  kd := by simp

theorem nextT_ok (r : Rd) (hne : r.rest ≠ []) (h : (nextT r).2 = true) : TokOK (nextT r).1 := by
  unfold nextT at h ⊢
  split at h
  · rename_i hw
    rw [if_pos hw]
    obtain ⟨hh, hn⟩ := word_head hne hw
    obtain ⟨ht, hk⟩ := wordT_text r
    refine ⟨by rw [ht]; exact hn, fun b hb => wordB_nl b (takeWhile_mem _ _ b (by rw [← ht]; exact hb)), by rw [ht, hh]; unfold startB; rw [hw]; rfl, ?_, ?_, ?_, hk⟩
    · rw [ht, hh]
      intro h47; rw [h47] at hw; exact absurd hw (by decide)
    · intro L C
      rw [ht]
      unfold nextT
      rw [if_pos (by simp only [hh]; exact hw), wordT_alone, h]
    · intro L C
      rw [ht]
      unfold nextR
      rw [if_pos (by simp only [hh]; exact hw), wordN_all _ (takeWhile_mem _ _)]
  · rename_i hw
    rw [if_neg hw]
    split at h
    · rename_i h35
      rw [if_pos h35]
      have ht : (realT r).1.text = 35 :: (r.rest.drop 1).takeWhile wordB := realText_eq r
      have hd : ∀ L C, realText ⟨(realT r).1.text, L, C⟩ = (realT r).1.text := by
        intro L C
        rw [realText_eq, ht]
        simp only [List.drop_succ_cons, List.drop_zero]
        rw [takeWhile_all _ _ (takeWhile_mem _ _)]
      refine ⟨by rw [ht]; simp, ?_, by rw [ht]; rfl, by rw [ht]; intro h9; revert h9; simp, ?_, ?_, by simp [realT]⟩
      · intro b hb
        rw [ht] at hb
        rcases List.mem_cons.1 hb with rfl | hb
        · decide
        · exact wordB_nl b (takeWhile_mem _ _ b hb)
      · intro L C
        unfold nextT
        have e0 : (realT r).1.text.getD 0 0 = 35 := by rw [ht]; rfl
        rw [if_neg (by simp only [e0]; decide), if_pos e0]
        unfold realT
        rw [show realText ⟨realText r, L, C⟩ = realText r from hd L C]
        unfold realT at h
        simp only at h
        simp only [h]
      · intro L C
        unfold nextR
        have e0 : (realT r).1.text.getD 0 0 = 35 := by rw [ht]; rfl
        rw [if_neg (by simp only [e0]; decide), if_pos e0]
        unfold realR
        have e1 : (realT r).1.text.drop 1 = (r.rest.drop 1).takeWhile wordB := by rw [ht]; rfl
        simp only [e1]
        rw [wordN_all _ (takeWhile_mem _ _), skipS_add _ _ _ (by rw [ht]; simp), ht]
        simp only [List.length_cons]
        rw [Nat.add_comm]
    · rename_i h35
      rw [if_neg h35]
      unfold signT at h ⊢
      split at h
      · rename_i h2
        rw [if_pos h2]
        have key : ∀ w : List UInt8, (w = [61, 61] ∨ w = [33, 61] ∨ w = [60, 61]) → TokOK ⟨5, w, 0, r.line, r.col⟩ := by
          intro w hw
          rcases hw with rfl | rfl | rfl <;>
            exact tokOK_sign _ _ _ (by simp) (by simp) (by decide) (by decide) (by decide) (by decide) (fun L C => rfl) (fun L C => rfl)
        exact key _ (two_take h2)
      · rename_i h2
        rw [if_neg h2]
        split at h
        · rename_i h3
          rw [if_pos h3, one_take _ hne]
          have hnl := startB_blank (r.rest.getD 0 0) (by simp only [startB, h3, Bool.or_true])
          refine tokOK_sign _ _ _ (by simp) (by simpa using hnl.2) (by simp only [List.getD_cons_zero, startB, h3, Bool.or_true]) (by simp) ?_ (by simpa using h35) ?_ ?_
          · simpa using hw
          · intro L C
            unfold signT
            rw [if_neg (by simp [twoB, List.isPrefixOf]), if_pos (by simpa using h3)]
            simp
          · intro L C
            unfold signR
            rw [if_neg (by simp [twoB, List.isPrefixOf]), if_pos (by simpa using h3)]
            simp
        · cases h

/-- A token's text in front of what parts tokens. -/
theorem TokOK.front {x : Tok} (h : TokOK x) {b : UInt8} (hb : SepB b) (rest : List UInt8) (L C : Int) :
    blankS ⟨x.text ++ b :: rest, L, C⟩ = ⟨x.text ++ b :: rest, L, C⟩ ∧ nextT ⟨x.text ++ b :: rest, L, C⟩ = (⟨x.kind, x.text, x.n, L, C⟩, true) ∧
      nextR ⟨x.text ++ b :: rest, L, C⟩ = ⟨b :: rest, advL L x.text, advC C x.text⟩ := by
  have e0 : (x.text ++ b :: rest).getD 0 0 = x.text.getD 0 0 := getD_app _ _ h.ne
  refine ⟨blankS_fix ?_ ?_, ?_, ?_⟩
  · have hne := h.ne
    cases ht : x.text with
    | nil => exact absurd ht hne
    | cons y w =>
      by_cases h47 : y = 47
      · have := h.sl (by rw [ht]; exact h47)
        rw [ht] at this
        injection this with h1 h2
        subst h1; subst h2
        rcases hb with rfl | rfl <;> rfl
      · simp only [List.cons_append, List.isPrefixOf]
        have : ((47 : UInt8) == y) = false := by simpa using fun h9 => h47 h9.symm
        rw [this]; rfl
  · show blankB ((x.text ++ b :: rest).getD 0 0) = false
    rw [e0]
    exact (startB_blank _ h.st).1
  · have := nextT_app hb ⟨x.text, L, C⟩ rest h.ne
    rw [h.nt] at this
    exact this
  · have := nextR_app hb ⟨x.text, L, C⟩ rest h.ne
    rw [h.nr] at this
    refine this.trans ?_
    simp [app, skipS]

/-! ### the lexer from a place on -/
def glue (acc : List Tok) (x : List Tok × Int × Int × Int) : List Tok × Int × Int × Int := if x.2.1 = 0 then (acc ++ x.1, x.2) else x
theorem glue_glue (a b : List Tok) (x : List Tok × Int × Int × Int) : glue a (glue b x) = glue (a ++ b) x := by
  unfold glue
  by_cases h : x.2.1 = 0
  · simp only [h, if_true, List.append_assoc]
  · simp only [h, if_false]

theorem lexF_acc : ∀ (k : Nat) (r : Rd) (acc : List Tok), lexF k r acc = glue acc (lexF k r [])
  | 0, r, acc => by simp [lexF, glue]
  | k + 1, r, acc => by
    rw [lexF, lexF]
    split
    · simp [glue]
    · split
      · rw [lexF_acc k _ (acc ++ _), lexF_acc k _ ([] ++ _), glue_glue, List.nil_append]
      · simp [glue]

theorem lexF_fuel : ∀ (k j : Nat) (r : Rd), r.rest.length < k → r.rest.length < j → lexF k r [] = lexF j r []
  | 0, _, r, h, _ => absurd h (Nat.not_lt_zero _)
  | _, 0, r, _, h => absurd h (Nat.not_lt_zero _)
  | k + 1, j + 1, r, h1, h2 => by
    rw [lexF, lexF]
    split
    · rfl
    · rename_i hne
      split
      · rename_i hok
        have hl := nextR_lt hne hok
        have hb := blankS_len r
        rw [lexF_acc k, lexF_acc j, lexF_fuel k j _ (by omega) (by omega)]
      · rfl

def lexR (r : Rd) : List Tok × Int × Int × Int := lexF (r.rest.length + 1) r []

theorem lexR_step (r : Rd) : lexR r = if (blankS r).rest = [] then ([⟨0, [], 0, (blankS r).line, (blankS r).col⟩], 0, 0, 0)
    else if (nextT (blankS r)).2 then glue [(nextT (blankS r)).1] (lexR (nextR (blankS r))) else ([], 3, (nextT (blankS r)).1.line, (nextT (blankS r)).1.col) := by
  unfold lexR
  rw [lexF]
  split
  · rfl
  · rename_i hne
    split
    · rename_i hok
      have hl := nextR_lt hne hok
      have hb := blankS_len r
      rw [lexF_acc, List.nil_append, lexF_fuel _ _ _ (show (nextR (blankS r)).rest.length < r.rest.length by omega) (Nat.lt_succ_self _)]
    · rfl

theorem lexR_blank {r r' : Rd} (h : blankS r = blankS r') : lexR r = lexR r' := by rw [lexR_step, lexR_step r', h]

theorem lexS_eq (t : List UInt8) (h : t.length ≤ 8192) : lexS t = lexR ⟨t, 1, 1⟩ := by
  unfold lexS lexR
  rw [if_neg (by omega)]

theorem glue_err {a : List Tok} {x : List Tok × Int × Int × Int} : (glue a x).2 = x.2 := by unfold glue; split <;> rfl

/-- It comes out right, or there are no tokens. -/
theorem lexR_ind {P : Rd → List Tok × Int × Int × Int → Prop}
    (h1 : ∀ r, (blankS r).rest = [] → P r ([⟨0, [], 0, (blankS r).line, (blankS r).col⟩], 0, 0, 0))
    (h2 : ∀ r, (blankS r).rest ≠ [] → (nextT (blankS r)).2 = true → P (nextR (blankS r)) (lexR (nextR (blankS r))) → P r (glue [(nextT (blankS r)).1] (lexR (nextR (blankS r)))))
    (h3 : ∀ r, (blankS r).rest ≠ [] → (nextT (blankS r)).2 = false → P r ([], 3, (nextT (blankS r)).1.line, (nextT (blankS r)).1.col)) : ∀ r, P r (lexR r) := by
  have key : ∀ (n : Nat) (r : Rd), r.rest.length < n → P r (lexR r) := by
    intro n
    induction n with
    | zero => intro r h; exact absurd h (Nat.not_lt_zero _)
    | succ n ih =>
      intro r h
      rw [lexR_step]
      split
      · rename_i he; exact h1 r he
      · rename_i hne
        split
        · rename_i hok
          have hl := nextR_lt hne hok
          have hb := blankS_len r
          exact h2 r hne hok (ih _ (by omega))
        · rename_i hok; exact h3 r hne (Bool.eq_false_iff.2 hok)
  exact fun r => key _ r (Nat.lt_succ_self _)

theorem lexR_none (r : Rd) : (lexR r).2.1 ≠ 0 → (lexR r).1 = [] ∧ (lexR r).2.1 = 3 := by
  refine lexR_ind (P := fun r x => x.2.1 ≠ 0 → x.1 = [] ∧ x.2.1 = 3) ?_ ?_ ?_ r
  · intro r _ h; exact absurd rfl h
  · intro r _ _ ih h
    rw [glue_err] at h
    unfold glue
    rw [if_neg h]
    exact ih h
  · intro r _ _ _; exact ⟨rfl, rfl⟩

/-- The tokens: all right ones, and the end. -/
theorem lexR_toks (r : Rd) : (lexR r).2.1 = 0 → (lexR r).2 = (0, 0, 0) ∧ ∃ xs l c, (lexR r).1 = xs ++ [⟨0, [], 0, l, c⟩] ∧ (∀ x ∈ xs, TokOK x) ∧ xs.length ≤ r.rest.length ∧ ∀ x ∈ xs, x.text.length ≤ r.rest.length := by
  refine lexR_ind (P := fun r x => x.2.1 = 0 → x.2 = (0, 0, 0) ∧ ∃ xs l c, x.1 = xs ++ [⟨0, [], 0, l, c⟩] ∧ (∀ x ∈ xs, TokOK x) ∧ xs.length ≤ r.rest.length ∧ ∀ x ∈ xs, x.text.length ≤ r.rest.length) ?_ ?_ ?_ r
  · intro r _ _
    exact ⟨rfl, [], _, _, rfl, by simp, by simp, by simp⟩
  · intro r hne hok ih h
    rw [glue_err] at h
    obtain ⟨h0, xs, l, c, e, h1, h2, h3⟩ := ih h
    have hl := nextR_lt hne hok
    have hb := blankS_len r
    refine ⟨by rw [glue_err]; exact h0, (nextT (blankS r)).1 :: xs, l, c, by unfold glue; rw [if_pos h, e]; rfl, ?_, by simp only [List.length_cons]; omega, ?_⟩
    · intro x hx
      rcases List.mem_cons.1 hx with rfl | hx
      · exact nextT_ok _ hne hok
      · exact h1 x hx
    · intro x hx
      rcases List.mem_cons.1 hx with rfl | hx
      · refine Nat.le_trans ?_ hb
        have hp : 1 ≤ (blankS r).rest.length := by cases hr : (blankS r).rest with | nil => exact absurd hr hne | cons _ _ => simp
        unfold nextT
        split
        · rw [(wordT_text _).1]; exact takeWhile_le _ _
        · split
          · show (realText _).length ≤ _
            rw [realText_eq]
            have := takeWhile_le wordB ((blankS r).rest.drop 1)
            simp only [List.length_drop] at this
            simp only [List.length_cons]; omega
          · unfold signT
            split
            · simp only [List.length_take]; omega
            · split
              · simp only [List.length_take]; omega
              · simp
      · have := h3 x hx; omega
  · intro r _ _ h
    cases h

end Go.AE

set_option linter.unusedVariables false
set_option linter.unusedSimpArgs false
set_option maxRecDepth 4000
namespace Go.AE
open Go.Proofs

def aT1 : List UInt8 := [116, 104, 114, 101, 97, 100, 32, 123, 32, 112, 114, 105, 110, 116, 32, 49, 32, 43, 32, 50, 32, 42, 32, 51, 59, 32, 125]
def aT2 : List UInt8 := [116, 104, 114, 101, 97, 100, 32, 123, 32, 112, 114, 105, 110, 116, 32, 59, 32, 125]
def aL1 : List Tok := (lexS aT1).1
def aL2 : List Tok := (lexS aT2).1
theorem aLex1 : lexS aT1 = (aL1, 0, 0, 0) := by decide +kernel
theorem aLex2 : lexS aT2 = (aL2, 0, 0, 0) := by decide +kernel
theorem aPar1 : parseAV (programF 200 aL1 pgZ ⟨0, 0⟩) = .tuple [.agg [.slice [] 0 .no, .slice [] 0 .no, .slice [] 0 .no, .slice [.slice [.i 5, .str [], .i 0, .i 0, .i 0, .int .u64 0, .i 0, .str [], .str [], .slice [] 0 .no, .i 0, .i 0, .i 0, .str [], .str [], .i 0, .i 0, .int .u64 0, .i 0, .str [], .str [], .slice [] 0 .no, .i 0, .i 0, .i 0, .i 0, .str [], .i 0, .i 0, .i 0, .str [], .str [], .i 0, .i 0, .int .u64 0, .i 0, .str [], .str [], .slice [] 0 .no, .i 0, .i 0, .i 0, .i 0, .i 9, .i 0, .int .u64 0, .i 0, .str [], .str [], .slice [.i 1, .i 0, .int .u64 1, .i 0, .str [], .str [], .slice [] 0 .no, .i 1, .i 16, .i 9, .i 2, .int .u64 0, .i 0, .str [], .str [], .slice [.i 1, .i 0, .int .u64 2, .i 0, .str [], .str [], .slice [] 0 .no, .i 1, .i 20, .i 1, .i 0, .int .u64 3, .i 0, .str [], .str [], .slice [] 0 .no, .i 1, .i 24] 2 .no, .i 1, .i 22] 2 .no, .i 1, .i 18, .i 0, .slice [] 0 .no, .slice [] 0 .no, .slice [] 0 .no, .i 1, .i 10] 1 .no, .i 1, .i 1] 1 .no], .agg [.i 0, .i 0, .i 0]] := by kernel_rfl
theorem aPar2 : parseAV (programF 200 aL2 pgZ ⟨0, 0⟩) = .tuple [.agg [.slice [] 0 .exact, .slice [] 0 .exact, .slice [] 0 .exact, .slice [] 0 .exact], .agg [.i 4, .i 1, .i 16]] := by kernel_rfl
def R.isOut {α : Type} : R α → Bool
  | .out => true
  | _ => false
theorem R.not_out {α : Type} {x : R α} (h : x.isOut = false) : x ≠ .out := by rintro rfl; cases h
theorem aNe1 : programF 200 aL1 pgZ ⟨0, 0⟩ ≠ .out := R.not_out (by decide +kernel)
theorem aNe2 : programF 200 aL2 pgZ ⟨0, 0⟩ ≠ .out := R.not_out (by decide +kernel)

theorem alive5_walk  (σ : St)  : ACalls Tryd.prog 16 [] σ (fun e s => σ = s ∧ e = .ret (.bool true)) := by
  refine ACalls.enter hT Tryd.func16 rfl (by kernel_rfl) ?_
  refine ACode.seq ?_
  refine ACode.run hT nh [] (fr' := ⟨[], [], [], [], 0⟩) (σ' := σ) (ob := Tt 2) (by kernel_rfl) (tt 2) ?_
  refine ACode.seq ?_
  refine ACode.region ?_
  refine AOps.call (fid := 17) (cap := []) (avs := [.str [116, 104, 114, 101, 97, 100, 32, 123, 32, 112, 114, 105, 110, 116, 32, 49, 32, 43, 32, 50, 32, 42, 32, 51, 59, 32, 125]]) (by kernel_rfl) rfl (by kernel_rfl) (by kernel_rfl) en_17 (by kernel_rfl) (ACalls.mono (parse_ok aT1 aL1 aLex1 (by decide +kernel) 200 aNe1 _) ?_)
  rintro _ _ ⟨rfl, rfl⟩
  rw [aPar1]
  refine AOps.runN hT nh 7 [1, 2] (fr' := ⟨[(1, .loc 0 0), (2, .loc 1 0)], [[.slice [] 0 .no, .slice [] 0 .no, .slice [] 0 .no, .slice [.slice [.i 5, .str [], .i 0, .i 0, .i 0, .int .u64 0, .i 0, .str [], .str [], .slice [] 0 .no, .i 0, .i 0, .i 0, .str [], .str [], .i 0, .i 0, .int .u64 0, .i 0, .str [], .str [], .slice [] 0 .no, .i 0, .i 0, .i 0, .i 0, .str [], .i 0, .i 0, .i 0, .str [], .str [], .i 0, .i 0, .int .u64 0, .i 0, .str [], .str [], .slice [] 0 .no, .i 0, .i 0, .i 0, .i 0, .i 9, .i 0, .int .u64 0, .i 0, .str [], .str [], .slice [.i 1, .i 0, .int .u64 1, .i 0, .str [], .str [], .slice [] 0 .no, .i 1, .i 16, .i 9, .i 2, .int .u64 0, .i 0, .str [], .str [], .slice [.i 1, .i 0, .int .u64 2, .i 0, .str [], .str [], .slice [] 0 .no, .i 1, .i 20, .i 1, .i 0, .int .u64 3, .i 0, .str [], .str [], .slice [] 0 .no, .i 1, .i 24] 2 .no, .i 1, .i 22] 2 .no, .i 1, .i 18, .i 0, .slice [] 0 .no, .slice [] 0 .no, .slice [] 0 .no, .i 1, .i 10] 1 .no, .i 1, .i 1] 1 .no], [.i 0, .i 0, .i 0]], [], [], 0⟩) (σ' := σ) (ob := Tt 8) (by kernel_rfl) (tt 8) ?_
  refine AOps.nil ?_
  refine ACode.seq ?_
  refine ACode.region ?_
  refine AOps.call (fid := 17) (cap := []) (avs := [.str [116, 104, 114, 101, 97, 100, 32, 123, 32, 112, 114, 105, 110, 116, 32, 59, 32, 125]]) (by kernel_rfl) rfl (by kernel_rfl) (by kernel_rfl) en_17 (by kernel_rfl) (ACalls.mono (parse_ok aT2 aL2 aLex2 (by decide +kernel) 200 aNe2 _) ?_)
  rintro _ _ ⟨rfl, rfl⟩
  rw [aPar2]
  refine AOps.runN hT nh 7 [1, 2, 4] (fr' := ⟨[(1, .loc 0 0), (2, .loc 1 0), (4, .loc 3 0)], [[.slice [] 0 .no, .slice [] 0 .no, .slice [] 0 .no, .slice [.slice [.i 5, .str [], .i 0, .i 0, .i 0, .int .u64 0, .i 0, .str [], .str [], .slice [] 0 .no, .i 0, .i 0, .i 0, .str [], .str [], .i 0, .i 0, .int .u64 0, .i 0, .str [], .str [], .slice [] 0 .no, .i 0, .i 0, .i 0, .i 0, .str [], .i 0, .i 0, .i 0, .str [], .str [], .i 0, .i 0, .int .u64 0, .i 0, .str [], .str [], .slice [] 0 .no, .i 0, .i 0, .i 0, .i 0, .i 9, .i 0, .int .u64 0, .i 0, .str [], .str [], .slice [.i 1, .i 0, .int .u64 1, .i 0, .str [], .str [], .slice [] 0 .no, .i 1, .i 16, .i 9, .i 2, .int .u64 0, .i 0, .str [], .str [], .slice [.i 1, .i 0, .int .u64 2, .i 0, .str [], .str [], .slice [] 0 .no, .i 1, .i 20, .i 1, .i 0, .int .u64 3, .i 0, .str [], .str [], .slice [] 0 .no, .i 1, .i 24] 2 .no, .i 1, .i 22] 2 .no, .i 1, .i 18, .i 0, .slice [] 0 .no, .slice [] 0 .no, .slice [] 0 .no, .i 1, .i 10] 1 .no, .i 1, .i 1] 1 .no], [.i 0, .i 0, .i 0], [.slice [] 0 .exact, .slice [] 0 .exact, .slice [] 0 .exact, .slice [] 0 .exact], [.i 4, .i 1, .i 16]], [], [], 0⟩) (σ' := σ) (ob := Tt 8) (by kernel_rfl) (tt 8) ?_
  refine AOps.nil ?_
  refine ACode.seq ?_
  refine ACode.region ?_
  refine AOps.runN hT nh 63 [0] (fr' := ⟨[(0, .bool true)], [[.slice [] 0 .no, .slice [] 0 .no, .slice [] 0 .no, .slice [.slice [.i 5, .str [], .i 0, .i 0, .i 0, .int .u64 0, .i 0, .str [], .str [], .slice [] 0 .no, .i 0, .i 0, .i 0, .str [], .str [], .i 0, .i 0, .int .u64 0, .i 0, .str [], .str [], .slice [] 0 .no, .i 0, .i 0, .i 0, .i 0, .str [], .i 0, .i 0, .i 0, .str [], .str [], .i 0, .i 0, .int .u64 0, .i 0, .str [], .str [], .slice [] 0 .no, .i 0, .i 0, .i 0, .i 0, .i 9, .i 0, .int .u64 0, .i 0, .str [], .str [], .slice [.i 1, .i 0, .int .u64 1, .i 0, .str [], .str [], .slice [] 0 .no, .i 1, .i 16, .i 9, .i 2, .int .u64 0, .i 0, .str [], .str [], .slice [.i 1, .i 0, .int .u64 2, .i 0, .str [], .str [], .slice [] 0 .no, .i 1, .i 20, .i 1, .i 0, .int .u64 3, .i 0, .str [], .str [], .slice [] 0 .no, .i 1, .i 24] 2 .no, .i 1, .i 22] 2 .no, .i 1, .i 18, .i 0, .slice [] 0 .no, .slice [] 0 .no, .slice [] 0 .no, .i 1, .i 10] 1 .no, .i 1, .i 1] 1 .no], [.i 0, .i 0, .i 0], [.slice [] 0 .exact, .slice [] 0 .exact, .slice [] 0 .exact, .slice [] 0 .exact], [.i 4, .i 1, .i 16]], [], [], 0⟩) (σ' := σ) (ob := True ∧ True ∧ True ∧ True ∧ True ∧ True ∧ True ∧ True ∧ True ∧ True ∧ True ∧ True ∧ (0 ≤ (0 : Int) ∧ (0 : Int) < (1 : Nat) ∧ 0 * 3 ≤ ([.slice [.i 5, .str [], .i 0, .i 0, .i 0, .int .u64 0, .i 0, .str [], .str [], .slice [] 0 .no, .i 0, .i 0, .i 0, .str [], .str [], .i 0, .i 0, .int .u64 0, .i 0, .str [], .str [], .slice [] 0 .no, .i 0, .i 0, .i 0, .i 0, .str [], .i 0, .i 0, .i 0, .str [], .str [], .i 0, .i 0, .int .u64 0, .i 0, .str [], .str [], .slice [] 0 .no, .i 0, .i 0, .i 0, .i 0, .i 9, .i 0, .int .u64 0, .i 0, .str [], .str [], .slice [.i 1, .i 0, .int .u64 1, .i 0, .str [], .str [], .slice [] 0 .no, .i 1, .i 16, .i 9, .i 2, .int .u64 0, .i 0, .str [], .str [], .slice [.i 1, .i 0, .int .u64 2, .i 0, .str [], .str [], .slice [] 0 .no, .i 1, .i 20, .i 1, .i 0, .int .u64 3, .i 0, .str [], .str [], .slice [] 0 .no, .i 1, .i 24] 2 .no, .i 1, .i 22] 2 .no, .i 1, .i 18, .i 0, .slice [] 0 .no, .slice [] 0 .no, .slice [] 0 .no, .i 1, .i 10] 1 .no, .i 1, .i 1] : List AV).length) ∧ (0 ≤ ([.slice [.i 5, .str [], .i 0, .i 0, .i 0, .int .u64 0, .i 0, .str [], .str [], .slice [] 0 .no, .i 0, .i 0, .i 0, .str [], .str [], .i 0, .i 0, .int .u64 0, .i 0, .str [], .str [], .slice [] 0 .no, .i 0, .i 0, .i 0, .i 0, .str [], .i 0, .i 0, .i 0, .str [], .str [], .i 0, .i 0, .int .u64 0, .i 0, .str [], .str [], .slice [] 0 .no, .i 0, .i 0, .i 0, .i 0, .i 9, .i 0, .int .u64 0, .i 0, .str [], .str [], .slice [.i 1, .i 0, .int .u64 1, .i 0, .str [], .str [], .slice [] 0 .no, .i 1, .i 16, .i 9, .i 2, .int .u64 0, .i 0, .str [], .str [], .slice [.i 1, .i 0, .int .u64 2, .i 0, .str [], .str [], .slice [] 0 .no, .i 1, .i 20, .i 1, .i 0, .int .u64 3, .i 0, .str [], .str [], .slice [] 0 .no, .i 1, .i 24] 2 .no, .i 1, .i 22] 2 .no, .i 1, .i 18, .i 0, .slice [] 0 .no, .slice [] 0 .no, .slice [] 0 .no, .i 1, .i 10] 1 .no, .i 1, .i 1] : List AV).length) ∧ True ∧ True ∧ True ∧ True ∧ True ∧ True ∧ True ∧ (0 ≤ (0 : Int) ∧ (0 : Int) < (1 : Nat) ∧ 0 * 3 ≤ ([.slice [.i 5, .str [], .i 0, .i 0, .i 0, .int .u64 0, .i 0, .str [], .str [], .slice [] 0 .no, .i 0, .i 0, .i 0, .str [], .str [], .i 0, .i 0, .int .u64 0, .i 0, .str [], .str [], .slice [] 0 .no, .i 0, .i 0, .i 0, .i 0, .str [], .i 0, .i 0, .i 0, .str [], .str [], .i 0, .i 0, .int .u64 0, .i 0, .str [], .str [], .slice [] 0 .no, .i 0, .i 0, .i 0, .i 0, .i 9, .i 0, .int .u64 0, .i 0, .str [], .str [], .slice [.i 1, .i 0, .int .u64 1, .i 0, .str [], .str [], .slice [] 0 .no, .i 1, .i 16, .i 9, .i 2, .int .u64 0, .i 0, .str [], .str [], .slice [.i 1, .i 0, .int .u64 2, .i 0, .str [], .str [], .slice [] 0 .no, .i 1, .i 20, .i 1, .i 0, .int .u64 3, .i 0, .str [], .str [], .slice [] 0 .no, .i 1, .i 24] 2 .no, .i 1, .i 22] 2 .no, .i 1, .i 18, .i 0, .slice [] 0 .no, .slice [] 0 .no, .slice [] 0 .no, .i 1, .i 10] 1 .no, .i 1, .i 1] : List AV).length) ∧ (0 ≤ ([.slice [.i 5, .str [], .i 0, .i 0, .i 0, .int .u64 0, .i 0, .str [], .str [], .slice [] 0 .no, .i 0, .i 0, .i 0, .str [], .str [], .i 0, .i 0, .int .u64 0, .i 0, .str [], .str [], .slice [] 0 .no, .i 0, .i 0, .i 0, .i 0, .str [], .i 0, .i 0, .i 0, .str [], .str [], .i 0, .i 0, .int .u64 0, .i 0, .str [], .str [], .slice [] 0 .no, .i 0, .i 0, .i 0, .i 0, .i 9, .i 0, .int .u64 0, .i 0, .str [], .str [], .slice [.i 1, .i 0, .int .u64 1, .i 0, .str [], .str [], .slice [] 0 .no, .i 1, .i 16, .i 9, .i 2, .int .u64 0, .i 0, .str [], .str [], .slice [.i 1, .i 0, .int .u64 2, .i 0, .str [], .str [], .slice [] 0 .no, .i 1, .i 20, .i 1, .i 0, .int .u64 3, .i 0, .str [], .str [], .slice [] 0 .no, .i 1, .i 24] 2 .no, .i 1, .i 22] 2 .no, .i 1, .i 18, .i 0, .slice [] 0 .no, .slice [] 0 .no, .slice [] 0 .no, .i 1, .i 10] 1 .no, .i 1, .i 1] : List AV).length) ∧ True ∧ (0 ≤ (0 : Int) ∧ (0 : Int) < (1 : Nat) ∧ 0 * 58 ≤ ([.i 5, .str [], .i 0, .i 0, .i 0, .int .u64 0, .i 0, .str [], .str [], .slice [] 0 .no, .i 0, .i 0, .i 0, .str [], .str [], .i 0, .i 0, .int .u64 0, .i 0, .str [], .str [], .slice [] 0 .no, .i 0, .i 0, .i 0, .i 0, .str [], .i 0, .i 0, .i 0, .str [], .str [], .i 0, .i 0, .int .u64 0, .i 0, .str [], .str [], .slice [] 0 .no, .i 0, .i 0, .i 0, .i 0, .i 9, .i 0, .int .u64 0, .i 0, .str [], .str [], .slice [.i 1, .i 0, .int .u64 1, .i 0, .str [], .str [], .slice [] 0 .no, .i 1, .i 16, .i 9, .i 2, .int .u64 0, .i 0, .str [], .str [], .slice [.i 1, .i 0, .int .u64 2, .i 0, .str [], .str [], .slice [] 0 .no, .i 1, .i 20, .i 1, .i 0, .int .u64 3, .i 0, .str [], .str [], .slice [] 0 .no, .i 1, .i 24] 2 .no, .i 1, .i 22] 2 .no, .i 1, .i 18, .i 0, .slice [] 0 .no, .slice [] 0 .no, .slice [] 0 .no, .i 1, .i 10] : List AV).length) ∧ (0 ≤ ([.i 5, .str [], .i 0, .i 0, .i 0, .int .u64 0, .i 0, .str [], .str [], .slice [] 0 .no, .i 0, .i 0, .i 0, .str [], .str [], .i 0, .i 0, .int .u64 0, .i 0, .str [], .str [], .slice [] 0 .no, .i 0, .i 0, .i 0, .i 0, .str [], .i 0, .i 0, .i 0, .str [], .str [], .i 0, .i 0, .int .u64 0, .i 0, .str [], .str [], .slice [] 0 .no, .i 0, .i 0, .i 0, .i 0, .i 9, .i 0, .int .u64 0, .i 0, .str [], .str [], .slice [.i 1, .i 0, .int .u64 1, .i 0, .str [], .str [], .slice [] 0 .no, .i 1, .i 16, .i 9, .i 2, .int .u64 0, .i 0, .str [], .str [], .slice [.i 1, .i 0, .int .u64 2, .i 0, .str [], .str [], .slice [] 0 .no, .i 1, .i 20, .i 1, .i 0, .int .u64 3, .i 0, .str [], .str [], .slice [] 0 .no, .i 1, .i 24] 2 .no, .i 1, .i 22] 2 .no, .i 1, .i 18, .i 0, .slice [] 0 .no, .slice [] 0 .no, .slice [] 0 .no, .i 1, .i 10] : List AV).length) ∧ True ∧ True ∧ True ∧ True ∧ True ∧ True ∧ (0 ≤ (0 : Int) ∧ (0 : Int) < (1 : Nat) ∧ 0 * 3 ≤ ([.slice [.i 5, .str [], .i 0, .i 0, .i 0, .int .u64 0, .i 0, .str [], .str [], .slice [] 0 .no, .i 0, .i 0, .i 0, .str [], .str [], .i 0, .i 0, .int .u64 0, .i 0, .str [], .str [], .slice [] 0 .no, .i 0, .i 0, .i 0, .i 0, .str [], .i 0, .i 0, .i 0, .str [], .str [], .i 0, .i 0, .int .u64 0, .i 0, .str [], .str [], .slice [] 0 .no, .i 0, .i 0, .i 0, .i 0, .i 9, .i 0, .int .u64 0, .i 0, .str [], .str [], .slice [.i 1, .i 0, .int .u64 1, .i 0, .str [], .str [], .slice [] 0 .no, .i 1, .i 16, .i 9, .i 2, .int .u64 0, .i 0, .str [], .str [], .slice [.i 1, .i 0, .int .u64 2, .i 0, .str [], .str [], .slice [] 0 .no, .i 1, .i 20, .i 1, .i 0, .int .u64 3, .i 0, .str [], .str [], .slice [] 0 .no, .i 1, .i 24] 2 .no, .i 1, .i 22] 2 .no, .i 1, .i 18, .i 0, .slice [] 0 .no, .slice [] 0 .no, .slice [] 0 .no, .i 1, .i 10] 1 .no, .i 1, .i 1] : List AV).length) ∧ (0 ≤ ([.slice [.i 5, .str [], .i 0, .i 0, .i 0, .int .u64 0, .i 0, .str [], .str [], .slice [] 0 .no, .i 0, .i 0, .i 0, .str [], .str [], .i 0, .i 0, .int .u64 0, .i 0, .str [], .str [], .slice [] 0 .no, .i 0, .i 0, .i 0, .i 0, .str [], .i 0, .i 0, .i 0, .str [], .str [], .i 0, .i 0, .int .u64 0, .i 0, .str [], .str [], .slice [] 0 .no, .i 0, .i 0, .i 0, .i 0, .i 9, .i 0, .int .u64 0, .i 0, .str [], .str [], .slice [.i 1, .i 0, .int .u64 1, .i 0, .str [], .str [], .slice [] 0 .no, .i 1, .i 16, .i 9, .i 2, .int .u64 0, .i 0, .str [], .str [], .slice [.i 1, .i 0, .int .u64 2, .i 0, .str [], .str [], .slice [] 0 .no, .i 1, .i 20, .i 1, .i 0, .int .u64 3, .i 0, .str [], .str [], .slice [] 0 .no, .i 1, .i 24] 2 .no, .i 1, .i 22] 2 .no, .i 1, .i 18, .i 0, .slice [] 0 .no, .slice [] 0 .no, .slice [] 0 .no, .i 1, .i 10] 1 .no, .i 1, .i 1] : List AV).length) ∧ True ∧ (0 ≤ (0 : Int) ∧ (0 : Int) < (1 : Nat) ∧ 0 * 58 ≤ ([.i 5, .str [], .i 0, .i 0, .i 0, .int .u64 0, .i 0, .str [], .str [], .slice [] 0 .no, .i 0, .i 0, .i 0, .str [], .str [], .i 0, .i 0, .int .u64 0, .i 0, .str [], .str [], .slice [] 0 .no, .i 0, .i 0, .i 0, .i 0, .str [], .i 0, .i 0, .i 0, .str [], .str [], .i 0, .i 0, .int .u64 0, .i 0, .str [], .str [], .slice [] 0 .no, .i 0, .i 0, .i 0, .i 0, .i 9, .i 0, .int .u64 0, .i 0, .str [], .str [], .slice [.i 1, .i 0, .int .u64 1, .i 0, .str [], .str [], .slice [] 0 .no, .i 1, .i 16, .i 9, .i 2, .int .u64 0, .i 0, .str [], .str [], .slice [.i 1, .i 0, .int .u64 2, .i 0, .str [], .str [], .slice [] 0 .no, .i 1, .i 20, .i 1, .i 0, .int .u64 3, .i 0, .str [], .str [], .slice [] 0 .no, .i 1, .i 24] 2 .no, .i 1, .i 22] 2 .no, .i 1, .i 18, .i 0, .slice [] 0 .no, .slice [] 0 .no, .slice [] 0 .no, .i 1, .i 10] : List AV).length) ∧ (43 ≤ ([.i 5, .str [], .i 0, .i 0, .i 0, .int .u64 0, .i 0, .str [], .str [], .slice [] 0 .no, .i 0, .i 0, .i 0, .str [], .str [], .i 0, .i 0, .int .u64 0, .i 0, .str [], .str [], .slice [] 0 .no, .i 0, .i 0, .i 0, .i 0, .str [], .i 0, .i 0, .i 0, .str [], .str [], .i 0, .i 0, .int .u64 0, .i 0, .str [], .str [], .slice [] 0 .no, .i 0, .i 0, .i 0, .i 0, .i 9, .i 0, .int .u64 0, .i 0, .str [], .str [], .slice [.i 1, .i 0, .int .u64 1, .i 0, .str [], .str [], .slice [] 0 .no, .i 1, .i 16, .i 9, .i 2, .int .u64 0, .i 0, .str [], .str [], .slice [.i 1, .i 0, .int .u64 2, .i 0, .str [], .str [], .slice [] 0 .no, .i 1, .i 20, .i 1, .i 0, .int .u64 3, .i 0, .str [], .str [], .slice [] 0 .no, .i 1, .i 24] 2 .no, .i 1, .i 22] 2 .no, .i 1, .i 18, .i 0, .slice [] 0 .no, .slice [] 0 .no, .slice [] 0 .no, .i 1, .i 10] : List AV).length) ∧ (6 ≤ ([.i 9, .i 0, .int .u64 0, .i 0, .str [], .str [], .slice [.i 1, .i 0, .int .u64 1, .i 0, .str [], .str [], .slice [] 0 .no, .i 1, .i 16, .i 9, .i 2, .int .u64 0, .i 0, .str [], .str [], .slice [.i 1, .i 0, .int .u64 2, .i 0, .str [], .str [], .slice [] 0 .no, .i 1, .i 20, .i 1, .i 0, .int .u64 3, .i 0, .str [], .str [], .slice [] 0 .no, .i 1, .i 24] 2 .no, .i 1, .i 22] 2 .no, .i 1, .i 18, .i 0, .slice [] 0 .no, .slice [] 0 .no, .slice [] 0 .no, .i 1, .i 10] : List AV).length) ∧ True ∧ True ∧ True ∧ True ∧ True ∧ True ∧ True ∧ (0 ≤ (0 : Int) ∧ (0 : Int) < (1 : Nat) ∧ 0 * 3 ≤ ([.slice [.i 5, .str [], .i 0, .i 0, .i 0, .int .u64 0, .i 0, .str [], .str [], .slice [] 0 .no, .i 0, .i 0, .i 0, .str [], .str [], .i 0, .i 0, .int .u64 0, .i 0, .str [], .str [], .slice [] 0 .no, .i 0, .i 0, .i 0, .i 0, .str [], .i 0, .i 0, .i 0, .str [], .str [], .i 0, .i 0, .int .u64 0, .i 0, .str [], .str [], .slice [] 0 .no, .i 0, .i 0, .i 0, .i 0, .i 9, .i 0, .int .u64 0, .i 0, .str [], .str [], .slice [.i 1, .i 0, .int .u64 1, .i 0, .str [], .str [], .slice [] 0 .no, .i 1, .i 16, .i 9, .i 2, .int .u64 0, .i 0, .str [], .str [], .slice [.i 1, .i 0, .int .u64 2, .i 0, .str [], .str [], .slice [] 0 .no, .i 1, .i 20, .i 1, .i 0, .int .u64 3, .i 0, .str [], .str [], .slice [] 0 .no, .i 1, .i 24] 2 .no, .i 1, .i 22] 2 .no, .i 1, .i 18, .i 0, .slice [] 0 .no, .slice [] 0 .no, .slice [] 0 .no, .i 1, .i 10] 1 .no, .i 1, .i 1] : List AV).length) ∧ (0 ≤ ([.slice [.i 5, .str [], .i 0, .i 0, .i 0, .int .u64 0, .i 0, .str [], .str [], .slice [] 0 .no, .i 0, .i 0, .i 0, .str [], .str [], .i 0, .i 0, .int .u64 0, .i 0, .str [], .str [], .slice [] 0 .no, .i 0, .i 0, .i 0, .i 0, .str [], .i 0, .i 0, .i 0, .str [], .str [], .i 0, .i 0, .int .u64 0, .i 0, .str [], .str [], .slice [] 0 .no, .i 0, .i 0, .i 0, .i 0, .i 9, .i 0, .int .u64 0, .i 0, .str [], .str [], .slice [.i 1, .i 0, .int .u64 1, .i 0, .str [], .str [], .slice [] 0 .no, .i 1, .i 16, .i 9, .i 2, .int .u64 0, .i 0, .str [], .str [], .slice [.i 1, .i 0, .int .u64 2, .i 0, .str [], .str [], .slice [] 0 .no, .i 1, .i 20, .i 1, .i 0, .int .u64 3, .i 0, .str [], .str [], .slice [] 0 .no, .i 1, .i 24] 2 .no, .i 1, .i 22] 2 .no, .i 1, .i 18, .i 0, .slice [] 0 .no, .slice [] 0 .no, .slice [] 0 .no, .i 1, .i 10] 1 .no, .i 1, .i 1] : List AV).length) ∧ True ∧ (0 ≤ (0 : Int) ∧ (0 : Int) < (1 : Nat) ∧ 0 * 58 ≤ ([.i 5, .str [], .i 0, .i 0, .i 0, .int .u64 0, .i 0, .str [], .str [], .slice [] 0 .no, .i 0, .i 0, .i 0, .str [], .str [], .i 0, .i 0, .int .u64 0, .i 0, .str [], .str [], .slice [] 0 .no, .i 0, .i 0, .i 0, .i 0, .str [], .i 0, .i 0, .i 0, .str [], .str [], .i 0, .i 0, .int .u64 0, .i 0, .str [], .str [], .slice [] 0 .no, .i 0, .i 0, .i 0, .i 0, .i 9, .i 0, .int .u64 0, .i 0, .str [], .str [], .slice [.i 1, .i 0, .int .u64 1, .i 0, .str [], .str [], .slice [] 0 .no, .i 1, .i 16, .i 9, .i 2, .int .u64 0, .i 0, .str [], .str [], .slice [.i 1, .i 0, .int .u64 2, .i 0, .str [], .str [], .slice [] 0 .no, .i 1, .i 20, .i 1, .i 0, .int .u64 3, .i 0, .str [], .str [], .slice [] 0 .no, .i 1, .i 24] 2 .no, .i 1, .i 22] 2 .no, .i 1, .i 18, .i 0, .slice [] 0 .no, .slice [] 0 .no, .slice [] 0 .no, .i 1, .i 10] : List AV).length) ∧ (43 ≤ ([.i 5, .str [], .i 0, .i 0, .i 0, .int .u64 0, .i 0, .str [], .str [], .slice [] 0 .no, .i 0, .i 0, .i 0, .str [], .str [], .i 0, .i 0, .int .u64 0, .i 0, .str [], .str [], .slice [] 0 .no, .i 0, .i 0, .i 0, .i 0, .str [], .i 0, .i 0, .i 0, .str [], .str [], .i 0, .i 0, .int .u64 0, .i 0, .str [], .str [], .slice [] 0 .no, .i 0, .i 0, .i 0, .i 0, .i 9, .i 0, .int .u64 0, .i 0, .str [], .str [], .slice [.i 1, .i 0, .int .u64 1, .i 0, .str [], .str [], .slice [] 0 .no, .i 1, .i 16, .i 9, .i 2, .int .u64 0, .i 0, .str [], .str [], .slice [.i 1, .i 0, .int .u64 2, .i 0, .str [], .str [], .slice [] 0 .no, .i 1, .i 20, .i 1, .i 0, .int .u64 3, .i 0, .str [], .str [], .slice [] 0 .no, .i 1, .i 24] 2 .no, .i 1, .i 22] 2 .no, .i 1, .i 18, .i 0, .slice [] 0 .no, .slice [] 0 .no, .slice [] 0 .no, .i 1, .i 10] : List AV).length) ∧ (6 ≤ ([.i 9, .i 0, .int .u64 0, .i 0, .str [], .str [], .slice [.i 1, .i 0, .int .u64 1, .i 0, .str [], .str [], .slice [] 0 .no, .i 1, .i 16, .i 9, .i 2, .int .u64 0, .i 0, .str [], .str [], .slice [.i 1, .i 0, .int .u64 2, .i 0, .str [], .str [], .slice [] 0 .no, .i 1, .i 20, .i 1, .i 0, .int .u64 3, .i 0, .str [], .str [], .slice [] 0 .no, .i 1, .i 24] 2 .no, .i 1, .i 22] 2 .no, .i 1, .i 18, .i 0, .slice [] 0 .no, .slice [] 0 .no, .slice [] 0 .no, .i 1, .i 10] : List AV).length) ∧ True ∧ (0 ≤ (1 : Int) ∧ (1 : Int) < (2 : Nat) ∧ 1 * 9 ≤ ([.i 1, .i 0, .int .u64 1, .i 0, .str [], .str [], .slice [] 0 .no, .i 1, .i 16, .i 9, .i 2, .int .u64 0, .i 0, .str [], .str [], .slice [.i 1, .i 0, .int .u64 2, .i 0, .str [], .str [], .slice [] 0 .no, .i 1, .i 20, .i 1, .i 0, .int .u64 3, .i 0, .str [], .str [], .slice [] 0 .no, .i 1, .i 24] 2 .no, .i 1, .i 22] : List AV).length) ∧ (1 ≤ ([.i 9, .i 2, .int .u64 0, .i 0, .str [], .str [], .slice [.i 1, .i 0, .int .u64 2, .i 0, .str [], .str [], .slice [] 0 .no, .i 1, .i 20, .i 1, .i 0, .int .u64 3, .i 0, .str [], .str [], .slice [] 0 .no, .i 1, .i 24] 2 .no, .i 1, .i 22] : List AV).length) ∧ True ∧ True ∧ True ∧ True ∧ True ∧ True ∧ True ∧ True ∧ True ∧ True) (by kernel_rfl) ⟨trivial, trivial, trivial, trivial, trivial, trivial, trivial, trivial, trivial, trivial, trivial, trivial, (by decide), (by decide), trivial, trivial, trivial, trivial, trivial, trivial, trivial, (by decide), (by decide), trivial, (by decide), (by decide), trivial, trivial, trivial, trivial, trivial, trivial, (by decide), (by decide), trivial, (by decide), (by decide), (by decide), trivial, trivial, trivial, trivial, trivial, trivial, trivial, (by decide), (by decide), trivial, (by decide), (by decide), (by decide), trivial, (by decide), (by decide), trivial, trivial, trivial, trivial, trivial, trivial, trivial, trivial, trivial, trivial⟩ ?_
  refine AOps.nil ?_
  refine ACode.ret ?_
  exact retQ.ret (.bool true) (by kernel_rfl) ⟨rfl, rfl⟩

/-- The same some times over. -/
def rep (o : List UInt8) : Nat → List UInt8
  | 0 => []
  | n + 1 => rep o n ++ o
def deepT0 (n : Nat) : List UInt8 := ((([116, 104, 114, 101, 97, 100, 32, 123, 32, 112, 114, 105, 110, 116, 32] ++ rep [40] n) ++ [49]) ++ rep [41] n) ++ [59, 32, 125]
def deepOK0 (n : Nat) : Bool :=
  let x := lexS (deepT0 n)
  (x.2.1 == 0 && x.2.2.1 == 0 && x.2.2.2 == 0 && decide (x.1.length ≤ 100000)) && (match programF 400 x.1 pgZ ⟨0, 0⟩ with
    | .ok _ _ => decide (n ≤ 11)
    | .bad a b c => decide (11 < n) && a == 10 && b == 1 && c == 27
    | .out => false)
def deepT1 (n : Nat) : List UInt8 := ((([116, 104, 114, 101, 97, 100, 32, 123, 32, 112, 114, 105, 110, 116, 32] ++ rep [45] n) ++ [49]) ++ rep [] n) ++ [59, 32, 125]
def deepOK1 (n : Nat) : Bool :=
  let x := lexS (deepT1 n)
  (x.2.1 == 0 && x.2.2.1 == 0 && x.2.2.2 == 0 && decide (x.1.length ≤ 100000)) && (match programF 400 x.1 pgZ ⟨0, 0⟩ with
    | .ok _ _ => decide (n ≤ 11)
    | .bad a b c => decide (11 < n) && a == 10 && b == 1 && c == 27
    | .out => false)
def deepT2 (n : Nat) : List UInt8 := (([116, 104, 114, 101, 97, 100, 32, 123] ++ rep [97, 116, 111, 109, 105, 99, 32, 123] n) ++ rep [125] n) ++ [125]
def deepOK2 (n : Nat) : Bool :=
  let x := lexS (deepT2 n)
  (x.2.1 == 0 && x.2.2.1 == 0 && x.2.2.2 == 0 && decide (x.1.length ≤ 100000)) && (match programF 400 x.1 pgZ ⟨0, 0⟩ with
    | .ok _ _ => decide (n ≤ 11)
    | .bad a b c => decide (11 < n) && a == 10 && b == 1 && c == 104
    | .out => false)

end Go.AE

set_option linter.unusedVariables false
set_option linter.unusedSimpArgs false
set_option maxRecDepth 4000
namespace Go.AE
open Go.Proofs

theorem lexTok {r r1 r2 : Rd} {x : Tok} (hb : blankS r = r1) (hne : (match r1.rest with | [] => false | _ => true) = true) (h1 : nextT r1 = (x, true)) (h2 : nextR r1 = r2) : lexR r = glue [x] (lexR r2) := by
  rw [lexR_step, hb, h1, h2, if_neg (by intro h; rw [h] at hne; cases hne)]
  simp
theorem rep_front (o : List UInt8) : ∀ n, rep o (n + 1) = o ++ rep o n
  | 0 => by simp [rep]
  | n + 1 => by
    have := rep_front o n
    show rep o (n + 1) ++ o = o ++ (rep o n ++ o)
    rw [this, List.append_assoc]
theorem rep_nil : ∀ n, rep [] n = []
  | 0 => rfl
  | n + 1 => by rw [rep, rep_nil n]; rfl
theorem rep_length (o : List UInt8) : ∀ n, (rep o n).length = n * o.length
  | 0 => by simp [rep]
  | n + 1 => by rw [rep, List.length_append, rep_length o n, Nat.succ_mul]

/-! ### what one more of them reads as -/
theorem lex_lp (X : List UInt8) (C : Int) : lexR ⟨40 :: X, 1, C⟩ = glue [⟨5, [40], 0, 1, C⟩] (lexR ⟨X, 1, C + 1⟩) := lexTok (r1 := ⟨40 :: X, 1, C⟩) (by kernel_rfl) (by kernel_rfl) (by kernel_rfl) (by kernel_rfl)
theorem lex_rp (X : List UInt8) (C : Int) : lexR ⟨41 :: X, 1, C⟩ = glue [⟨5, [41], 0, 1, C⟩] (lexR ⟨X, 1, C + 1⟩) := lexTok (r1 := ⟨41 :: X, 1, C⟩) (by kernel_rfl) (by kernel_rfl) (by kernel_rfl) (by kernel_rfl)
theorem lex_mi (X : List UInt8) (C : Int) : lexR ⟨45 :: X, 1, C⟩ = glue [⟨5, [45], 0, 1, C⟩] (lexR ⟨X, 1, C + 1⟩) := lexTok (r1 := ⟨45 :: X, 1, C⟩) (by kernel_rfl) (by kernel_rfl) (by kernel_rfl) (by kernel_rfl)
theorem lex_rb (X : List UInt8) (C : Int) : lexR ⟨125 :: X, 1, C⟩ = glue [⟨5, [125], 0, 1, C⟩] (lexR ⟨X, 1, C + 1⟩) := lexTok (r1 := ⟨125 :: X, 1, C⟩) (by kernel_rfl) (by kernel_rfl) (by kernel_rfl) (by kernel_rfl)
theorem lex_lb (X : List UInt8) (C : Int) : lexR ⟨123 :: X, 1, C⟩ = glue [⟨5, [123], 0, 1, C⟩] (lexR ⟨X, 1, C + 1⟩) := lexTok (r1 := ⟨123 :: X, 1, C⟩) (by kernel_rfl) (by kernel_rfl) (by kernel_rfl) (by kernel_rfl)
theorem lex_slb (X : List UInt8) (C : Int) : lexR ⟨32 :: 123 :: X, 1, C⟩ = glue [⟨5, [123], 0, 1, C + 1⟩] (lexR ⟨X, 1, C + 1 + 1⟩) := lexTok (r1 := ⟨123 :: X, 1, C + 1⟩) (by kernel_rfl) (by kernel_rfl) (by kernel_rfl) (by kernel_rfl)
theorem lex_at (X : List UInt8) (C : Int) : lexR ⟨97 :: 116 :: 111 :: 109 :: 105 :: 99 :: 32 :: X, 1, C⟩ = glue [⟨2, [97, 116, 111, 109, 105, 99], 0, 1, C⟩] (lexR ⟨32 :: X, 1, C + 1 + 1 + 1 + 1 + 1 + 1⟩) := lexTok (r1 := ⟨97 :: 116 :: 111 :: 109 :: 105 :: 99 :: 32 :: X, 1, C⟩) (by kernel_rfl) (by kernel_rfl) (by kernel_rfl) (by kernel_rfl)
theorem lex_th (X : List UInt8) : lexR ⟨116 :: 104 :: 114 :: 101 :: 97 :: 100 :: 32 :: X, 1, 1⟩ = glue [⟨2, [116, 104, 114, 101, 97, 100], 0, 1, 1⟩] (lexR ⟨32 :: X, 1, 7⟩) := lexTok (r1 := ⟨116 :: 104 :: 114 :: 101 :: 97 :: 100 :: 32 :: X, 1, 1⟩) (by kernel_rfl) (by kernel_rfl) (by kernel_rfl) (by kernel_rfl)
theorem lex_pr (X : List UInt8) : lexR ⟨32 :: 112 :: 114 :: 105 :: 110 :: 116 :: 32 :: X, 1, 9⟩ = glue [⟨2, [112, 114, 105, 110, 116], 0, 1, 10⟩] (lexR ⟨32 :: X, 1, 15⟩) := lexTok (r1 := ⟨112 :: 114 :: 105 :: 110 :: 116 :: 32 :: X, 1, 10⟩) (by kernel_rfl) (by kernel_rfl) (by kernel_rfl) (by kernel_rfl)
theorem lex_onep (X : List UInt8) (C : Int) : lexR ⟨49 :: 41 :: X, 1, C⟩ = glue [⟨3, [49], 1, 1, C⟩] (lexR ⟨41 :: X, 1, C + 1⟩) := lexTok (r1 := ⟨49 :: 41 :: X, 1, C⟩) (by kernel_rfl) (by kernel_rfl) (by kernel_rfl) (by kernel_rfl)
theorem lex_sp (b : UInt8) (X : List UInt8) (hb : (b == 47) = false) (C : Int) : lexR ⟨32 :: b :: X, 1, C⟩ = lexR ⟨b :: X, 1, C + 1⟩ := lexR_blank (blankS_sp _ _ _)

def opT0 (b : UInt8) (C : Int) : Nat → List Tok
  | 0 => []
  | n + 1 => ⟨5, [b], 0, 1, C⟩ :: opT0 b (C + 1) n
def opT2 (C : Int) : Nat → List Tok
  | 0 => []
  | n + 1 => ⟨2, [97, 116, 111, 109, 105, 99], 0, 1, C⟩ :: ⟨5, [123], 0, 1, C + 1 + 1 + 1 + 1 + 1 + 1 + 1⟩ :: opT2 (C + 1 + 1 + 1 + 1 + 1 + 1 + 1 + 1) n

theorem lex_open0 (b : UInt8) (hb : ∀ X C, lexR ⟨b :: X, 1, C⟩ = glue [⟨5, [b], 0, 1, C⟩] (lexR ⟨X, 1, C + 1⟩)) (Y : List UInt8) : ∀ n C, ∃ C', lexR ⟨rep [b] n ++ Y, 1, C⟩ = glue (opT0 b C n) (lexR ⟨Y, 1, C'⟩)
  | 0, C => ⟨C, by show lexR ⟨Y, 1, C⟩ = _; unfold glue; split <;> simp [opT0]⟩
  | n + 1, C => by
    obtain ⟨C', h⟩ := lex_open0 b hb Y n (C + 1)
    refine ⟨C', ?_⟩
    rw [rep_front]
    show lexR ⟨b :: (rep [b] n ++ Y), 1, C⟩ = _
    rw [hb, h, glue_glue]; rfl
theorem lex_open2 (Y : List UInt8) : ∀ n C, ∃ C', lexR ⟨rep [97, 116, 111, 109, 105, 99, 32, 123] n ++ Y, 1, C⟩ = glue (opT2 C n) (lexR ⟨Y, 1, C'⟩)
  | 0, C => ⟨C, by show lexR ⟨Y, 1, C⟩ = _; unfold glue; split <;> simp [opT2]⟩
  | n + 1, C => by
    obtain ⟨C', h⟩ := lex_open2 Y n (C + 1 + 1 + 1 + 1 + 1 + 1 + 1 + 1)
    refine ⟨C', ?_⟩
    rw [rep_front]
    show lexR ⟨97 :: 116 :: 111 :: 109 :: 105 :: 99 :: 32 :: 123 :: (rep [97, 116, 111, 109, 105, 99, 32, 123] n ++ Y), 1, C⟩ = _
    rw [lex_at, lex_slb, h, glue_glue, glue_glue]; rfl
theorem lex_close (b : UInt8) (hb : ∀ X C, lexR ⟨b :: X, 1, C⟩ = glue [⟨5, [b], 0, 1, C⟩] (lexR ⟨X, 1, C + 1⟩)) (Y : List UInt8) (hY : ∀ C, (lexR ⟨Y, 1, C⟩).2 = (0, 0, 0)) (n : Nat) (C : Int) : (lexR ⟨rep [b] n ++ Y, 1, C⟩).2 = (0, 0, 0) := by
  obtain ⟨C', h⟩ := lex_open0 b hb Y n C
  rw [h, glue_err, hY]

theorem glue_ok {a : List Tok} {x : List Tok × Int × Int × Int} (h : x.2 = (0, 0, 0)) : glue a x = (a ++ x.1, 0, 0, 0) := by
  unfold glue; rw [h]; simp

theorem end1 (C : Int) : (lexR ⟨[59, 32, 125], 1, C⟩).2 = (0, 0, 0) := by kernel_rfl
theorem end2 (C : Int) : (lexR ⟨[125], 1, C⟩).2 = (0, 0, 0) := by kernel_rfl
theorem end3 (C : Int) : (lexR ⟨[49, 59, 32, 125], 1, C⟩).2 = (0, 0, 0) := by kernel_rfl

def deepP : List Tok := [⟨2, [116, 104, 114, 101, 97, 100], 0, 1, 1⟩, ⟨5, [123], 0, 1, 8⟩, ⟨2, [112, 114, 105, 110, 116], 0, 1, 10⟩]
theorem deep_lex0 (m : Nat) (hm : m ≤ 88) : ∃ X, lexS (deepT0 (m + 12)) = (deepP ++ (opT0 40 16 (m + 12) ++ X), 0, 0, 0) := by
  rw [lexS_eq _ (by simp only [deepT0, List.length_append, rep_length, List.length_cons, List.length_nil]; omega)]
  have e : deepT0 (m + 12) = 116 :: 104 :: 114 :: 101 :: 97 :: 100 :: 32 :: 123 :: 32 :: 112 :: 114 :: 105 :: 110 :: 116 :: 32 :: (rep [40] (m + 12) ++ (49 :: (rep [41] (m + 12) ++ [59, 32, 125]))) := by
    simp only [deepT0, List.append_assoc, List.cons_append, List.nil_append]
  rw [e, lex_th, lex_slb]
  show ∃ X, glue _ (glue _ (lexR ⟨_, 1, 9⟩)) = _
  rw [lex_pr, show rep [40] (m + 12) = 40 :: rep [40] (m + 11) from rep_front _ _, List.cons_append, lex_sp _ _ rfl, ← List.cons_append, show 40 :: rep [40] (m + 11) = rep [40] (m + 12) from (rep_front [40] (m + 11)).symm]
  obtain ⟨C', h⟩ := lex_open0 40 lex_lp (49 :: (rep [41] (m + 12) ++ [59, 32, 125])) (m + 12) (15 + 1)
  rw [h, glue_glue, glue_glue, glue_glue]
  have h2 : (lexR ⟨49 :: (rep [41] (m + 12) ++ [59, 32, 125]), 1, C'⟩).2 = (0, 0, 0) := by
    rw [show rep [41] (m + 12) = 41 :: rep [41] (m + 11) from rep_front _ _, List.cons_append, lex_onep, glue_err, ← List.cons_append, show 41 :: rep [41] (m + 11) = rep [41] (m + 12) from (rep_front [41] (m + 11)).symm]
    exact lex_close 41 lex_rp _ end1 _ _
  refine ⟨(lexR ⟨49 :: (rep [41] (m + 12) ++ [59, 32, 125]), 1, C'⟩).1, ?_⟩
  rw [glue_ok h2, List.append_assoc, List.append_assoc, List.append_assoc]
  rfl
theorem deep_lex1 (m : Nat) (hm : m ≤ 88) : ∃ X, lexS (deepT1 (m + 12)) = (deepP ++ (opT0 45 16 (m + 12) ++ X), 0, 0, 0) := by
  rw [lexS_eq _ (by simp only [deepT1, List.length_append, rep_length, List.length_cons, List.length_nil]; omega)]
  have e : deepT1 (m + 12) = 116 :: 104 :: 114 :: 101 :: 97 :: 100 :: 32 :: 123 :: 32 :: 112 :: 114 :: 105 :: 110 :: 116 :: 32 :: (rep [45] (m + 12) ++ [49, 59, 32, 125]) := by
    simp only [deepT1, List.append_assoc, List.cons_append, List.nil_append, rep_nil]
  rw [e, lex_th, lex_slb]
  show ∃ X, glue _ (glue _ (lexR ⟨_, 1, 9⟩)) = _
  rw [lex_pr, show rep [45] (m + 12) = 45 :: rep [45] (m + 11) from rep_front _ _, List.cons_append, lex_sp _ _ rfl, ← List.cons_append, show 45 :: rep [45] (m + 11) = rep [45] (m + 12) from (rep_front [45] (m + 11)).symm]
  obtain ⟨C', h⟩ := lex_open0 45 lex_mi [49, 59, 32, 125] (m + 12) (15 + 1)
  rw [h, glue_glue, glue_glue, glue_glue]
  refine ⟨(lexR ⟨[49, 59, 32, 125], 1, C'⟩).1, ?_⟩
  rw [glue_ok (end3 _), List.append_assoc, List.append_assoc, List.append_assoc]
  rfl
theorem deep_lex2 (m : Nat) (hm : m ≤ 88) : ∃ X, lexS (deepT2 (m + 12)) = (deepP.take 2 ++ (opT2 9 (m + 12) ++ X), 0, 0, 0) := by
  rw [lexS_eq _ (by simp only [deepT2, List.length_append, rep_length, List.length_cons, List.length_nil]; omega)]
  have e : deepT2 (m + 12) = 116 :: 104 :: 114 :: 101 :: 97 :: 100 :: 32 :: 123 :: (rep [97, 116, 111, 109, 105, 99, 32, 123] (m + 12) ++ (rep [125] (m + 12) ++ [125])) := by
    simp only [deepT2, List.append_assoc, List.cons_append, List.nil_append]
  rw [e, lex_th, lex_slb]
  show ∃ X, glue _ (glue _ (lexR ⟨_, 1, 9⟩)) = _
  obtain ⟨C', h⟩ := lex_open2 (rep [125] (m + 12) ++ [125]) (m + 12) 9
  rw [h, glue_glue, glue_glue]
  have h2 := lex_close 125 lex_rb [125] end2 (m + 12) C'
  refine ⟨(lexR ⟨rep [125] (m + 12) ++ [125], 1, C'⟩).1, ?_⟩
  rw [glue_ok h2, List.append_assoc, List.append_assoc]
  rfl

/-- Up to eleven are read. -/
theorem deep_few0 : (List.range 12).all deepOK0 = true := by kernel_rfl
theorem deep_few1 : (List.range 12).all deepOK1 = true := by kernel_rfl
theorem deep_few2 : (List.range 12).all deepOK2 = true := by kernel_rfl
theorem deep_par0 (m : Nat) (X : List Tok) : programF 400 (deepP ++ (opT0 40 16 (m + 12) ++ X)) pgZ ⟨0, 0⟩ = .bad 10 1 27 := by kernel_rfl
theorem deep_par1 (m : Nat) (X : List Tok) : programF 400 (deepP ++ (opT0 45 16 (m + 12) ++ X)) pgZ ⟨0, 0⟩ = .bad 10 1 27 := by kernel_rfl
theorem deep_par2 (m : Nat) (X : List Tok) : programF 400 (deepP.take 2 ++ (opT2 9 (m + 12) ++ X)) pgZ ⟨0, 0⟩ = .bad 10 1 104 := by kernel_rfl

end Go.AE

set_option linter.unusedVariables false
set_option linter.unusedSimpArgs false
set_option maxRecDepth 4000
namespace Go.AE
open Go.Proofs

theorem deep_call0 (n : Nat) (hn : n ≤ 100) (σ : St) : ACalls Tryd.prog 17 [.str (deepT0 n)] σ (fun e s => σ = s ∧ ∃ (x0 x1 x2 x3 : AV) (fa fb fc : Int), ((n ≤ 11 ∧ fa = 0 ∧ fb = 0 ∧ fc = 0) ∨ (11 < n ∧ fa = 10 ∧ fb = 1 ∧ fc = 27)) ∧ e = .ret (.tuple [.agg [x0, x1, x2, x3], .agg [.i fa, .i fb, .i fc]])) := by
  by_cases h : n ≤ 11
  · have hk := List.all_eq_true.1 deep_few0 n (List.mem_range.2 (by omega))
    simp only [deepOK0, Bool.and_eq_true, beq_iff_eq, decide_eq_true_eq] at hk
    obtain ⟨⟨⟨⟨h1, h2⟩, h3⟩, h4⟩, h5⟩ := hk
    have hl : lexS (deepT0 n) = ((lexS (deepT0 n)).1, 0, 0, 0) := Prod.ext rfl (Prod.ext h1 (Prod.ext h2 h3))
    generalize (lexS (deepT0 n)).1 = l at hl h4 h5
    have hne : programF 400 l pgZ ⟨0, 0⟩ ≠ .out := by intro e; rw [e] at h5; cases h5
    refine (parse_ok _ l hl h4 400 hne σ).mono ?_
    rintro e s ⟨h6, rfl⟩
    refine ⟨h6, ?_⟩
    cases hx : programF 400 l pgZ ⟨0, 0⟩ with
    | out => exact absurd hx hne
    | ok p s1 => exact ⟨_, _, _, _, 0, 0, 0, .inl ⟨h, rfl, rfl, rfl⟩, rfl⟩
    | bad a b c => rw [hx] at h5; simp only [Bool.and_eq_true, decide_eq_true_eq] at h5; omega
  · obtain ⟨m, rfl⟩ : ∃ m, n = m + 12 := ⟨n - 12, by omega⟩
    obtain ⟨X, hl⟩ := deep_lex0 m (by omega)
    have hx := deep_par0 m X
    have hlen : (deepP ++ (opT0 40 16 (m + 12) ++ X)).length ≤ 100000 := by
      have e := lexS_eq (deepT0 (m + 12)) (by simp only [deepT0, List.length_append, rep_length, List.length_cons, List.length_nil]; omega)
      have h0 : (lexR ⟨deepT0 (m + 12), 1, 1⟩).2.1 = 0 := by rw [← e, hl]
      obtain ⟨_, xs, ll, cc, h1, _, h2, _⟩ := lexR_toks _ h0
      rw [← e, hl] at h1
      simp only at h1
      rw [h1]
      have h3 : (deepT0 (m + 12)).length ≤ 8192 := by simp only [deepT0, List.length_append, rep_length, List.length_cons, List.length_nil]; omega
      have : xs.length ≤ (deepT0 (m + 12)).length := h2
      simp only [List.length_append, List.length_cons, List.length_nil]
      omega
    refine (parse_ok _ _ hl hlen 400 (by rw [hx]; exact fun h => by cases h) σ).mono ?_
    rintro e s ⟨h6, rfl⟩
    rw [hx]
    exact ⟨h6, _, _, _, _, 10, 1, 27, .inr ⟨by omega, rfl, rfl, rfl⟩, rfl⟩

theorem deep_call1 (n : Nat) (hn : n ≤ 100) (σ : St) : ACalls Tryd.prog 17 [.str (deepT1 n)] σ (fun e s => σ = s ∧ ∃ (x0 x1 x2 x3 : AV) (fa fb fc : Int), ((n ≤ 11 ∧ fa = 0 ∧ fb = 0 ∧ fc = 0) ∨ (11 < n ∧ fa = 10 ∧ fb = 1 ∧ fc = 27)) ∧ e = .ret (.tuple [.agg [x0, x1, x2, x3], .agg [.i fa, .i fb, .i fc]])) := by
  by_cases h : n ≤ 11
  · have hk := List.all_eq_true.1 deep_few1 n (List.mem_range.2 (by omega))
    simp only [deepOK1, Bool.and_eq_true, beq_iff_eq, decide_eq_true_eq] at hk
    obtain ⟨⟨⟨⟨h1, h2⟩, h3⟩, h4⟩, h5⟩ := hk
    have hl : lexS (deepT1 n) = ((lexS (deepT1 n)).1, 0, 0, 0) := Prod.ext rfl (Prod.ext h1 (Prod.ext h2 h3))
    generalize (lexS (deepT1 n)).1 = l at hl h4 h5
    have hne : programF 400 l pgZ ⟨0, 0⟩ ≠ .out := by intro e; rw [e] at h5; cases h5
    refine (parse_ok _ l hl h4 400 hne σ).mono ?_
    rintro e s ⟨h6, rfl⟩
    refine ⟨h6, ?_⟩
    cases hx : programF 400 l pgZ ⟨0, 0⟩ with
    | out => exact absurd hx hne
    | ok p s1 => exact ⟨_, _, _, _, 0, 0, 0, .inl ⟨h, rfl, rfl, rfl⟩, rfl⟩
    | bad a b c => rw [hx] at h5; simp only [Bool.and_eq_true, decide_eq_true_eq] at h5; omega
  · obtain ⟨m, rfl⟩ : ∃ m, n = m + 12 := ⟨n - 12, by omega⟩
    obtain ⟨X, hl⟩ := deep_lex1 m (by omega)
    have hx := deep_par1 m X
    have hlen : (deepP ++ (opT0 45 16 (m + 12) ++ X)).length ≤ 100000 := by
      have e := lexS_eq (deepT1 (m + 12)) (by simp only [deepT1, List.length_append, rep_length, List.length_cons, List.length_nil]; omega)
      have h0 : (lexR ⟨deepT1 (m + 12), 1, 1⟩).2.1 = 0 := by rw [← e, hl]
      obtain ⟨_, xs, ll, cc, h1, _, h2, _⟩ := lexR_toks _ h0
      rw [← e, hl] at h1
      simp only at h1
      rw [h1]
      have h3 : (deepT1 (m + 12)).length ≤ 8192 := by simp only [deepT1, List.length_append, rep_length, List.length_cons, List.length_nil]; omega
      have : xs.length ≤ (deepT1 (m + 12)).length := h2
      simp only [List.length_append, List.length_cons, List.length_nil]
      omega
    refine (parse_ok _ _ hl hlen 400 (by rw [hx]; exact fun h => by cases h) σ).mono ?_
    rintro e s ⟨h6, rfl⟩
    rw [hx]
    exact ⟨h6, _, _, _, _, 10, 1, 27, .inr ⟨by omega, rfl, rfl, rfl⟩, rfl⟩

theorem deep_call2 (n : Nat) (hn : n ≤ 100) (σ : St) : ACalls Tryd.prog 17 [.str (deepT2 n)] σ (fun e s => σ = s ∧ ∃ (x0 x1 x2 x3 : AV) (fa fb fc : Int), ((n ≤ 11 ∧ fa = 0 ∧ fb = 0 ∧ fc = 0) ∨ (11 < n ∧ fa = 10 ∧ fb = 1 ∧ fc = 104)) ∧ e = .ret (.tuple [.agg [x0, x1, x2, x3], .agg [.i fa, .i fb, .i fc]])) := by
  by_cases h : n ≤ 11
  · have hk := List.all_eq_true.1 deep_few2 n (List.mem_range.2 (by omega))
    simp only [deepOK2, Bool.and_eq_true, beq_iff_eq, decide_eq_true_eq] at hk
    obtain ⟨⟨⟨⟨h1, h2⟩, h3⟩, h4⟩, h5⟩ := hk
    have hl : lexS (deepT2 n) = ((lexS (deepT2 n)).1, 0, 0, 0) := Prod.ext rfl (Prod.ext h1 (Prod.ext h2 h3))
    generalize (lexS (deepT2 n)).1 = l at hl h4 h5
    have hne : programF 400 l pgZ ⟨0, 0⟩ ≠ .out := by intro e; rw [e] at h5; cases h5
    refine (parse_ok _ l hl h4 400 hne σ).mono ?_
    rintro e s ⟨h6, rfl⟩
    refine ⟨h6, ?_⟩
    cases hx : programF 400 l pgZ ⟨0, 0⟩ with
    | out => exact absurd hx hne
    | ok p s1 => exact ⟨_, _, _, _, 0, 0, 0, .inl ⟨h, rfl, rfl, rfl⟩, rfl⟩
    | bad a b c => rw [hx] at h5; simp only [Bool.and_eq_true, decide_eq_true_eq] at h5; omega
  · obtain ⟨m, rfl⟩ : ∃ m, n = m + 12 := ⟨n - 12, by omega⟩
    obtain ⟨X, hl⟩ := deep_lex2 m (by omega)
    have hx := deep_par2 m X
    have hlen : (deepP.take 2 ++ (opT2 9 (m + 12) ++ X)).length ≤ 100000 := by
      have e := lexS_eq (deepT2 (m + 12)) (by simp only [deepT2, List.length_append, rep_length, List.length_cons, List.length_nil]; omega)
      have h0 : (lexR ⟨deepT2 (m + 12), 1, 1⟩).2.1 = 0 := by rw [← e, hl]
      obtain ⟨_, xs, ll, cc, h1, _, h2, _⟩ := lexR_toks _ h0
      rw [← e, hl] at h1
      simp only at h1
      rw [h1]
      have h3 : (deepT2 (m + 12)).length ≤ 8192 := by simp only [deepT2, List.length_append, rep_length, List.length_cons, List.length_nil]; omega
      have : xs.length ≤ (deepT2 (m + 12)).length := h2
      simp only [List.length_append, List.length_cons, List.length_nil]
      omega
    refine (parse_ok _ _ hl hlen 400 (by rw [hx]; exact fun h => by cases h) σ).mono ?_
    rintro e s ⟨h6, rfl⟩
    rw [hx]
    exact ⟨h6, _, _, _, _, 10, 1, 104, .inr ⟨by omega, rfl, rfl, rfl⟩, rfl⟩

theorem parseDeep_walk (n k : Int) (σ : St) (hn0 : -9223372036854775808 ≤ n) (hn1 : n ≤ 9223372036854775807) : ACalls Tryd.prog 8 [.i n, .i k] σ (fun e s => σ = s ∧ e = .ret (.bool true)) := by
  refine ACalls.enter hT Tryd.func8 rfl (by kernel_rfl) ?_
  refine ACode.seq ?_
  refine ACode.run hT nh [0, 1] (fr' := ⟨[(0, .i n), (1, .i k)], [], [], [], 0⟩) (σ' := σ) (ob := Tt 2) (by kernel_rfl) (tt 2) ?_
  refine ACode.seq ?_
  refine ACode.seq ?_
  refine ACode.region ?_
  refine AOps.call (fid := 16) (cap := []) (avs := []) (by kernel_rfl) rfl (by kernel_rfl) (by kernel_rfl) en_16 (by kernel_rfl) (ACalls.mono (alive5_walk _) ?_)
  rintro _ _ ⟨rfl, rfl⟩
  refine AOps.runN hT nh 1 [0, 1, 15] (fr' := ⟨[(0, .i n), (1, .i k), (15, .bool false)], [], [], [], 0⟩) (σ' := σ) (ob := Tt 2) (by kernel_rfl) (tt 2) ?_
  refine AOps.nil ?_
  refine ACode.cond (t := false) (by kernel_rfl) (fun h => Bool.noConfusion h) (fun _ => ?_)
  refine ACode.skip ?_
  refine ACode.seq ?_
  refine ACode.seq ?_
  refine ACode.meet ⟨[(0, .i n), (1, .i k), (21, .bool ((decide (n < 0)) || (decide (n > 100))))], [], [], [], 0⟩ σ (ACode.region ?_) ?_
  ·
    refine AOps.runN hT nh 3 [0, 1, 18] (fr' := ⟨[(0, .i n), (1, .i k), (18, .bool (decide (n < 0)))], [], [], [], 0⟩) (σ' := σ) (ob := Tt 4) (by kernel_rfl) (tt 4) ?_
    cases h1 : (decide (n < 0))
    · -- decide (n < 0) is false
      have h1k := of_decide_eq_false h1
      refine AOps.runN hT nh 3 [0, 1, 21] (fr' := ⟨[(0, .i n), (1, .i k), (21, .bool (decide (n > 100)))], [], [], [], 0⟩) (σ' := σ) (ob := Tt 4) (by kernel_rfl) (tt 4) ?_
      refine AOps.weak [0, 1, 21] (AOps.nil ⟨rfl, rfl⟩)
    · -- decide (n < 0) is true
      have h1k := of_decide_eq_true h1
      refine AOps.runN hT nh 3 [0, 1, 21] (fr' := ⟨[(0, .i n), (1, .i k), (21, .bool true)], [], [], [], 0⟩) (σ' := σ) (ob := Tt 2) (by kernel_rfl) (tt 2) ?_
      refine AOps.weak [0, 1, 21] (AOps.nil ⟨rfl, rfl⟩)
  -- on
  refine ACode.cond (t := (decide (n < 0)) || (decide (n > 100))) (by kernel_rfl) (fun h2 => ?_) (fun h2 => ?_)
  · -- true
    have h2k := h2; simp only [Bool.and_eq_true, Bool.or_eq_true, Bool.and_eq_false_iff, Bool.or_eq_false_iff, decide_eq_true_eq, decide_eq_false_iff_not, beq_iff_eq, bne_iff_ne, ne_eq, Bool.not_eq_true', Bool.not_eq_false', beq_eq_false_iff_ne, bne_eq_false_iff_eq] at h2k
    refine ACode.seq ?_
    refine ACode.run hT nh [4] (fr' := ⟨[(4, .bool true)], [], [], [], 0⟩) (σ' := σ) (ob := Tt 2) (by kernel_rfl) (tt 2) ?_
    refine ACode.ret ?_
    refine retQ.ret (.bool true) (by kernel_rfl) ?_
    exact ⟨rfl, rfl⟩
  · -- false
    have h2k := h2; simp only [Bool.and_eq_true, Bool.or_eq_true, Bool.and_eq_false_iff, Bool.or_eq_false_iff, decide_eq_true_eq, decide_eq_false_iff_not, beq_iff_eq, bne_iff_ne, ne_eq, Bool.not_eq_true', Bool.not_eq_false', beq_eq_false_iff_ne, bne_eq_false_iff_eq] at h2k
    refine ACode.skip ?_
    refine ACode.seq ?_
    refine ACode.run hT nh [0, 1, 5, 6] (fr' := ⟨[(0, .i n), (1, .i k), (5, .str [40]), (6, .str [41])], [], [], [], 0⟩) (σ' := σ) (ob := Tt 3) (by kernel_rfl) (tt 3) ?_
    refine ACode.seq ?_
    refine ACode.seq ?_
    refine ACode.run hT nh [0, 1, 5, 6, 23] (fr' := ⟨[(0, .i n), (1, .i k), (5, .str [40]), (6, .str [41]), (23, .bool (k == 1))], [], [], [], 0⟩) (σ' := σ) (ob := Tt 3) (by kernel_rfl) (tt 3) ?_
    refine ACode.cond (t := k == 1) (by kernel_rfl) (fun h3 => ?_) (fun h3 => ?_)
    · -- true
      have h3k := eq_of_beq h3
      refine ACode.run hT nh [0, 1, 5, 6] (fr' := ⟨[(0, .i n), (1, .i k), (5, .str [45]), (6, .str [])], [], [], [], 0⟩) (σ' := σ) (ob := Tt 3) (by kernel_rfl) (tt 3) ?_
      refine ACode.seq ?_
      refine ACode.seq ?_
      refine ACode.run hT nh [0, 1, 5, 6, 25] (fr' := ⟨[(0, .i n), (1, .i k), (5, .str [45]), (6, .str []), (25, .bool (k == 2))], [], [], [], 0⟩) (σ' := σ) (ob := Tt 3) (by kernel_rfl) (tt 3) ?_
      refine ACode.cond (t := k == 2) (by kernel_rfl) (fun h4 => ?_) (fun h4 => ?_)
      · -- true
        have h4k := eq_of_beq h4
        exact absurd (eq_of_beq h4) (by have := eq_of_beq h3; omega)
      · -- false
        have h4k := ne_of_beq_false h4
        refine ACode.skip ?_
        refine ACode.seq ?_
        refine ACode.run hT nh [0, 1, 5, 6, 7, 8] (fr' := ⟨[(0, .i n), (1, .i k), (5, .str [45]), (6, .str []), (7, .str []), (8, .str [])], [], [], [], 0⟩) (σ' := σ) (ob := Tt 3) (by kernel_rfl) (tt 3) ?_
        refine ACode.seq ?_
        refine ACode.seq ?_
        refine ACode.run hT nh [0, 1, 5, 6, 7, 8, 9] (fr' := ⟨[(0, .i n), (1, .i k), (5, .str [45]), (6, .str []), (7, .str []), (8, .str []), (9, .i 0)], [], [], [], 0⟩) (σ' := σ) (ob := Tt 2) (by kernel_rfl) (tt 2) ?_
        refine ACode.block ?_
        refine ACode.loop [0, 1, 5, 6, 7, 8, 9] 0 0 (fun n0 fr σ' => ∃ (i : Nat), fr = ⟨[(0, .i n), (1, .i k), (5, .str [45]), (6, .str []), (7, .str (rep [45] i)), (8, .str (rep [] i)), (9, .i (i : Int))], [], [], [], 0⟩ ∧ σ = σ' ∧ ((i : Int) ≤ n) ∧ n0 = n.toNat - i) _ (by kernel_rfl) ⟨0, rfl, rfl, (by omega), rfl⟩ ?_
        rintro n0 fr σ' ⟨i, rfl, rfl, hi, rfl⟩
        refine ACode.seq ?_
        refine ACode.seq ?_
        refine ACode.run hT nh [0, 1, 5, 6, 7, 8, 9, 28] (fr' := ⟨[(0, .i n), (1, .i k), (5, .str [45]), (6, .str []), (7, .str (rep [45] i)), (8, .str (rep [] i)), (9, .i (i : Int)), (28, .bool (decide ((i : Int) < n)))], [], [], [], 0⟩) (σ' := σ) (ob := Tt 4) (by kernel_rfl) (tt 4) ?_
        refine ACode.cond (t := decide ((i : Int) < n)) (by kernel_rfl) (fun h5 => ?_) (fun h5 => ?_)
        · -- true
          have h5k := of_decide_eq_true h5
          refine ACode.skip ?_
          refine ACode.seq ?_
          refine ACode.block ?_
          refine ACode.seq ?_
          refine ACode.run hT nh [0, 1, 5, 6, 7, 8, 9] (fr' := ⟨[(0, .i n), (1, .i k), (5, .str [45]), (6, .str []), (7, .str ((rep [45] i) ++ [45])), (8, .str (rep [] i)), (9, .i (i : Int))], [], [], [], 0⟩) (σ' := σ) (ob := True ∧ True ∧ (((((rep [45] i) : List UInt8).length + ([45] : List UInt8).length : Nat) : Int) ≤ 9223372036854775807) ∧ True ∧ True) (by kernel_rfl) ⟨trivial, trivial, (by simp only [List.length_append, rep_length, List.length_cons, List.length_nil]; omega), trivial, trivial⟩ ?_
          refine ACode.run hT nh [0, 1, 5, 6, 7, 8, 9] (fr' := ⟨[(0, .i n), (1, .i k), (5, .str [45]), (6, .str []), (7, .str ((rep [45] i) ++ [45])), (8, .str ((rep [] i) ++ [])), (9, .i (i : Int))], [], [], [], 0⟩) (σ' := σ) (ob := True ∧ True ∧ (((((rep [] i) : List UInt8).length + ([] : List UInt8).length : Nat) : Int) ≤ 9223372036854775807) ∧ True ∧ True) (by kernel_rfl) ⟨trivial, trivial, (by simp only [List.length_append, rep_length, List.length_cons, List.length_nil]; omega), trivial, trivial⟩ ?_
          refine ACode.run hT nh [0, 1, 5, 6, 7, 8, 9] (fr' := ⟨[(0, .i n), (1, .i k), (5, .str [45]), (6, .str []), (7, .str ((rep [45] i) ++ [45])), (8, .str ((rep [] i) ++ [])), (9, .i (IntKind.i64.wrap ((i : Int) + 1)))], [], [], [], 0⟩) (σ' := σ) (ob := Tt 4) (by kernel_rfl) (tt 4) ?_
          rw [IntWalk.i64_in ((i : Int) + 1) (by omega)]
          refine ⟨by kernel_rfl, _, ?_, i + 1, rfl, rfl, ?_, rfl⟩
          · omega
          · omega
        · -- false
          have h5k := of_decide_eq_false h5
          refine ACode.exit ?_
          refine ACode.seq ?_
          refine ACode.run hT nh [0, 1, 7, 8, 10] (fr' := ⟨[(0, .i n), (1, .i k), (7, .str (rep [45] i)), (8, .str (rep [] i)), (10, .str ((([116, 104, 114, 101, 97, 100, 32, 123] ++ (rep [45] i)) ++ (rep [] i)) ++ [125]))], [], [], [], 0⟩) (σ' := σ) (ob := True ∧ (((([116, 104, 114, 101, 97, 100, 32, 123] : List UInt8).length + ((rep [45] i) : List UInt8).length : Nat) : Int) ≤ 9223372036854775807) ∧ True ∧ ((((([116, 104, 114, 101, 97, 100, 32, 123] ++ (rep [45] i)) : List UInt8).length + ((rep [] i) : List UInt8).length : Nat) : Int) ≤ 9223372036854775807) ∧ (((((([116, 104, 114, 101, 97, 100, 32, 123] ++ (rep [45] i)) ++ (rep [] i)) : List UInt8).length + ([125] : List UInt8).length : Nat) : Int) ≤ 9223372036854775807) ∧ True ∧ True) (by kernel_rfl) ⟨trivial, (by simp only [List.length_append, rep_length, List.length_cons, List.length_nil]; omega), trivial, (by simp only [List.length_append, rep_length, List.length_cons, List.length_nil]; omega), (by simp only [List.length_append, rep_length, List.length_cons, List.length_nil]; omega), trivial, trivial⟩ ?_
          refine ACode.seq ?_
          refine ACode.run hT nh [0, 1, 7, 8, 10, 11] (fr' := ⟨[(0, .i n), (1, .i k), (7, .str (rep [45] i)), (8, .str (rep [] i)), (10, .str ((([116, 104, 114, 101, 97, 100, 32, 123] ++ (rep [45] i)) ++ (rep [] i)) ++ [125])), (11, .i 104)], [], [], [], 0⟩) (σ' := σ) (ob := Tt 2) (by kernel_rfl) (tt 2) ?_
          refine ACode.seq ?_
          refine ACode.seq ?_
          refine ACode.run hT nh [0, 7, 8, 10, 11, 43] (fr' := ⟨[(0, .i n), (7, .str (rep [45] i)), (8, .str (rep [] i)), (10, .str ((([116, 104, 114, 101, 97, 100, 32, 123] ++ (rep [45] i)) ++ (rep [] i)) ++ [125])), (11, .i 104), (43, .bool (k != 2))], [], [], [], 0⟩) (σ' := σ) (ob := Tt 3) (by kernel_rfl) (tt 3) ?_
          refine ACode.cond (t := k != 2) (by kernel_rfl) (fun h6 => ?_) (fun h6 => ?_)
          · -- true
            have h6k := h6; simp only [Bool.and_eq_true, Bool.or_eq_true, Bool.and_eq_false_iff, Bool.or_eq_false_iff, decide_eq_true_eq, decide_eq_false_iff_not, beq_iff_eq, bne_iff_ne, ne_eq, Bool.not_eq_true', Bool.not_eq_false', beq_eq_false_iff_ne, bne_eq_false_iff_eq] at h6k
            refine ACode.seq ?_
            refine ACode.run hT nh [0, 10] (fr' := ⟨[(0, .i n), (10, .str (((([116, 104, 114, 101, 97, 100, 32, 123, 32, 112, 114, 105, 110, 116, 32] ++ (rep [45] i)) ++ [49]) ++ (rep [] i)) ++ [59, 32, 125]))], [], [], [], 0⟩) (σ' := σ) (ob := True ∧ (((([116, 104, 114, 101, 97, 100, 32, 123, 32, 112, 114, 105, 110, 116, 32] : List UInt8).length + ((rep [45] i) : List UInt8).length : Nat) : Int) ≤ 9223372036854775807) ∧ ((((([116, 104, 114, 101, 97, 100, 32, 123, 32, 112, 114, 105, 110, 116, 32] ++ (rep [45] i)) : List UInt8).length + ([49] : List UInt8).length : Nat) : Int) ≤ 9223372036854775807) ∧ True ∧ (((((([116, 104, 114, 101, 97, 100, 32, 123, 32, 112, 114, 105, 110, 116, 32] ++ (rep [45] i)) ++ [49]) : List UInt8).length + ((rep [] i) : List UInt8).length : Nat) : Int) ≤ 9223372036854775807) ∧ ((((((([116, 104, 114, 101, 97, 100, 32, 123, 32, 112, 114, 105, 110, 116, 32] ++ (rep [45] i)) ++ [49]) ++ (rep [] i)) : List UInt8).length + ([59, 32, 125] : List UInt8).length : Nat) : Int) ≤ 9223372036854775807) ∧ True ∧ True) (by kernel_rfl) ⟨trivial, (by simp only [List.length_append, rep_length, List.length_cons, List.length_nil]; omega), (by simp only [List.length_append, rep_length, List.length_cons, List.length_nil]; omega), trivial, (by simp only [List.length_append, rep_length, List.length_cons, List.length_nil]; omega), (by simp only [List.length_append, rep_length, List.length_cons, List.length_nil]; omega), trivial, trivial⟩ ?_
            refine ACode.run hT nh [0, 10, 11] (fr' := ⟨[(0, .i n), (10, .str (((([116, 104, 114, 101, 97, 100, 32, 123, 32, 112, 114, 105, 110, 116, 32] ++ (rep [45] i)) ++ [49]) ++ (rep [] i)) ++ [59, 32, 125])), (11, .i 27)], [], [], [], 0⟩) (σ' := σ) (ob := Tt 2) (by kernel_rfl) (tt 2) ?_
            refine ACode.seq ?_
            refine ACode.region ?_
            refine AOps.runN hT nh 1 [0, 11, 51] (fr' := ⟨[(0, .i n), (11, .i 27), (51, .str (((([116, 104, 114, 101, 97, 100, 32, 123, 32, 112, 114, 105, 110, 116, 32] ++ (rep [45] i)) ++ [49]) ++ (rep [] i)) ++ [59, 32, 125]))], [], [], [], 0⟩) (σ' := σ) (ob := Tt 2) (by kernel_rfl) (tt 2) ?_
            refine AOps.call (fid := 17) (cap := []) (avs := [.str (((([116, 104, 114, 101, 97, 100, 32, 123, 32, 112, 114, 105, 110, 116, 32] ++ (rep [45] i)) ++ [49]) ++ (rep [] i)) ++ [59, 32, 125])]) (by kernel_rfl) rfl (by kernel_rfl) (by kernel_rfl) en_17 (by kernel_rfl) (ACalls.mono (deep_call1 i (by omega) _) ?_)
            rintro _ _ ⟨rfl, x0, x1, x2, x3, fa, fb, fc, hf, rfl⟩
            refine AOps.runN hT nh 7 [0, 11, 13] (fr' := ⟨[(0, .i n), (11, .i 27), (13, .loc 1 0)], [[x0, x1, x2, x3], [.i fa, .i fb, .i fc]], [], [], 0⟩) (σ' := σ) (ob := Tt 8) (by kernel_rfl) (tt 8) ?_
            refine AOps.nil ?_
            refine ACode.seq ?_
            refine ACode.seq ?_
            refine ACode.run hT nh [11, 13, 56] (fr' := ⟨[(11, .i 27), (13, .loc 1 0), (56, .bool (decide (n ≤ 11)))], [[x0, x1, x2, x3], [.i fa, .i fb, .i fc]], [], [], 0⟩) (σ' := σ) (ob := Tt 3) (by kernel_rfl) (tt 3) ?_
            refine ACode.cond (t := decide (n ≤ 11)) (by kernel_rfl) (fun h7 => ?_) (fun h7 => ?_)
            · -- true
              have h7k := of_decide_eq_true h7
              refine ACode.seq ?_
              refine ACode.run hT nh [4] (fr' := ⟨[(4, .bool ((fa == 0) && ((fb == 0) && (fc == 0))))], [[x0, x1, x2, x3], [.i fa, .i fb, .i fc]], [], [], 0⟩) (σ' := σ) (ob := Tt 5) (by kernel_rfl) (tt 5) ?_
              refine ACode.ret ?_
              refine retQ.ret (.bool ((fa == 0) && ((fb == 0) && (fc == 0)))) (by kernel_rfl) ?_
              have hv : ((fa == 0) && ((fb == 0) && (fc == 0))) = true := by
                rcases hf with ⟨h9, rfl, rfl, rfl⟩ | ⟨h9, rfl, rfl, rfl⟩
                · first | rfl | (exfalso; omega)
                · first | rfl | (exfalso; omega)
              rw [hv]
              exact ⟨rfl, rfl⟩
            · -- false
              have h7k := of_decide_eq_false h7
              refine ACode.skip ?_
              refine ACode.seq ?_
              refine ACode.run hT nh [4] (fr' := ⟨[(4, .bool ((fa == 10) && ((fb == 1) && (fc == 27))))], [[x0, x1, x2, x3], [.i fa, .i fb, .i fc]], [], [], 0⟩) (σ' := σ) (ob := Tt 6) (by kernel_rfl) (tt 6) ?_
              refine ACode.ret ?_
              refine retQ.ret (.bool ((fa == 10) && ((fb == 1) && (fc == 27)))) (by kernel_rfl) ?_
              have hv : ((fa == 10) && ((fb == 1) && (fc == 27))) = true := by
                rcases hf with ⟨h9, rfl, rfl, rfl⟩ | ⟨h9, rfl, rfl, rfl⟩
                · first | rfl | (exfalso; omega)
                · first | rfl | (exfalso; omega)
              rw [hv]
              exact ⟨rfl, rfl⟩
          · -- false
            have h6k := h6; simp only [Bool.and_eq_true, Bool.or_eq_true, Bool.and_eq_false_iff, Bool.or_eq_false_iff, decide_eq_true_eq, decide_eq_false_iff_not, beq_iff_eq, bne_iff_ne, ne_eq, Bool.not_eq_true', Bool.not_eq_false', beq_eq_false_iff_ne, bne_eq_false_iff_eq] at h6k
            exfalso; simp only [bne, h4, Bool.not_true, Bool.not_false] at h6; cases h6
    · -- false
      have h3k := ne_of_beq_false h3
      refine ACode.skip ?_
      refine ACode.seq ?_
      refine ACode.seq ?_
      refine ACode.run hT nh [0, 1, 5, 6, 25] (fr' := ⟨[(0, .i n), (1, .i k), (5, .str [40]), (6, .str [41]), (25, .bool (k == 2))], [], [], [], 0⟩) (σ' := σ) (ob := Tt 3) (by kernel_rfl) (tt 3) ?_
      refine ACode.cond (t := k == 2) (by kernel_rfl) (fun h8 => ?_) (fun h8 => ?_)
      · -- true
        have h8k := eq_of_beq h8
        refine ACode.run hT nh [0, 1, 5, 6] (fr' := ⟨[(0, .i n), (1, .i k), (5, .str [97, 116, 111, 109, 105, 99, 32, 123]), (6, .str [125])], [], [], [], 0⟩) (σ' := σ) (ob := Tt 3) (by kernel_rfl) (tt 3) ?_
        refine ACode.seq ?_
        refine ACode.run hT nh [0, 1, 5, 6, 7, 8] (fr' := ⟨[(0, .i n), (1, .i k), (5, .str [97, 116, 111, 109, 105, 99, 32, 123]), (6, .str [125]), (7, .str []), (8, .str [])], [], [], [], 0⟩) (σ' := σ) (ob := Tt 3) (by kernel_rfl) (tt 3) ?_
        refine ACode.seq ?_
        refine ACode.seq ?_
        refine ACode.run hT nh [0, 1, 5, 6, 7, 8, 9] (fr' := ⟨[(0, .i n), (1, .i k), (5, .str [97, 116, 111, 109, 105, 99, 32, 123]), (6, .str [125]), (7, .str []), (8, .str []), (9, .i 0)], [], [], [], 0⟩) (σ' := σ) (ob := Tt 2) (by kernel_rfl) (tt 2) ?_
        refine ACode.block ?_
        refine ACode.loop [0, 1, 5, 6, 7, 8, 9] 0 0 (fun n0 fr σ' => ∃ (i : Nat), fr = ⟨[(0, .i n), (1, .i k), (5, .str [97, 116, 111, 109, 105, 99, 32, 123]), (6, .str [125]), (7, .str (rep [97, 116, 111, 109, 105, 99, 32, 123] i)), (8, .str (rep [125] i)), (9, .i (i : Int))], [], [], [], 0⟩ ∧ σ = σ' ∧ ((i : Int) ≤ n) ∧ n0 = n.toNat - i) _ (by kernel_rfl) ⟨0, rfl, rfl, (by omega), rfl⟩ ?_
        rintro n0 fr σ' ⟨i, rfl, rfl, hi, rfl⟩
        refine ACode.seq ?_
        refine ACode.seq ?_
        refine ACode.run hT nh [0, 1, 5, 6, 7, 8, 9, 28] (fr' := ⟨[(0, .i n), (1, .i k), (5, .str [97, 116, 111, 109, 105, 99, 32, 123]), (6, .str [125]), (7, .str (rep [97, 116, 111, 109, 105, 99, 32, 123] i)), (8, .str (rep [125] i)), (9, .i (i : Int)), (28, .bool (decide ((i : Int) < n)))], [], [], [], 0⟩) (σ' := σ) (ob := Tt 4) (by kernel_rfl) (tt 4) ?_
        refine ACode.cond (t := decide ((i : Int) < n)) (by kernel_rfl) (fun h9 => ?_) (fun h9 => ?_)
        · -- true
          have h9k := of_decide_eq_true h9
          refine ACode.skip ?_
          refine ACode.seq ?_
          refine ACode.block ?_
          refine ACode.seq ?_
          refine ACode.run hT nh [0, 1, 5, 6, 7, 8, 9] (fr' := ⟨[(0, .i n), (1, .i k), (5, .str [97, 116, 111, 109, 105, 99, 32, 123]), (6, .str [125]), (7, .str ((rep [97, 116, 111, 109, 105, 99, 32, 123] i) ++ [97, 116, 111, 109, 105, 99, 32, 123])), (8, .str (rep [125] i)), (9, .i (i : Int))], [], [], [], 0⟩) (σ' := σ) (ob := True ∧ True ∧ (((((rep [97, 116, 111, 109, 105, 99, 32, 123] i) : List UInt8).length + ([97, 116, 111, 109, 105, 99, 32, 123] : List UInt8).length : Nat) : Int) ≤ 9223372036854775807) ∧ True ∧ True) (by kernel_rfl) ⟨trivial, trivial, (by simp only [List.length_append, rep_length, List.length_cons, List.length_nil]; omega), trivial, trivial⟩ ?_
          refine ACode.run hT nh [0, 1, 5, 6, 7, 8, 9] (fr' := ⟨[(0, .i n), (1, .i k), (5, .str [97, 116, 111, 109, 105, 99, 32, 123]), (6, .str [125]), (7, .str ((rep [97, 116, 111, 109, 105, 99, 32, 123] i) ++ [97, 116, 111, 109, 105, 99, 32, 123])), (8, .str ((rep [125] i) ++ [125])), (9, .i (i : Int))], [], [], [], 0⟩) (σ' := σ) (ob := True ∧ True ∧ (((((rep [125] i) : List UInt8).length + ([125] : List UInt8).length : Nat) : Int) ≤ 9223372036854775807) ∧ True ∧ True) (by kernel_rfl) ⟨trivial, trivial, (by simp only [List.length_append, rep_length, List.length_cons, List.length_nil]; omega), trivial, trivial⟩ ?_
          refine ACode.run hT nh [0, 1, 5, 6, 7, 8, 9] (fr' := ⟨[(0, .i n), (1, .i k), (5, .str [97, 116, 111, 109, 105, 99, 32, 123]), (6, .str [125]), (7, .str ((rep [97, 116, 111, 109, 105, 99, 32, 123] i) ++ [97, 116, 111, 109, 105, 99, 32, 123])), (8, .str ((rep [125] i) ++ [125])), (9, .i (IntKind.i64.wrap ((i : Int) + 1)))], [], [], [], 0⟩) (σ' := σ) (ob := Tt 4) (by kernel_rfl) (tt 4) ?_
          rw [IntWalk.i64_in ((i : Int) + 1) (by omega)]
          refine ⟨by kernel_rfl, _, ?_, i + 1, rfl, rfl, ?_, rfl⟩
          · omega
          · omega
        · -- false
          have h9k := of_decide_eq_false h9
          refine ACode.exit ?_
          refine ACode.seq ?_
          refine ACode.run hT nh [0, 1, 7, 8, 10] (fr' := ⟨[(0, .i n), (1, .i k), (7, .str (rep [97, 116, 111, 109, 105, 99, 32, 123] i)), (8, .str (rep [125] i)), (10, .str ((([116, 104, 114, 101, 97, 100, 32, 123] ++ (rep [97, 116, 111, 109, 105, 99, 32, 123] i)) ++ (rep [125] i)) ++ [125]))], [], [], [], 0⟩) (σ' := σ) (ob := True ∧ (((([116, 104, 114, 101, 97, 100, 32, 123] : List UInt8).length + ((rep [97, 116, 111, 109, 105, 99, 32, 123] i) : List UInt8).length : Nat) : Int) ≤ 9223372036854775807) ∧ True ∧ ((((([116, 104, 114, 101, 97, 100, 32, 123] ++ (rep [97, 116, 111, 109, 105, 99, 32, 123] i)) : List UInt8).length + ((rep [125] i) : List UInt8).length : Nat) : Int) ≤ 9223372036854775807) ∧ (((((([116, 104, 114, 101, 97, 100, 32, 123] ++ (rep [97, 116, 111, 109, 105, 99, 32, 123] i)) ++ (rep [125] i)) : List UInt8).length + ([125] : List UInt8).length : Nat) : Int) ≤ 9223372036854775807) ∧ True ∧ True) (by kernel_rfl) ⟨trivial, (by simp only [List.length_append, rep_length, List.length_cons, List.length_nil]; omega), trivial, (by simp only [List.length_append, rep_length, List.length_cons, List.length_nil]; omega), (by simp only [List.length_append, rep_length, List.length_cons, List.length_nil]; omega), trivial, trivial⟩ ?_
          refine ACode.seq ?_
          refine ACode.run hT nh [0, 1, 7, 8, 10, 11] (fr' := ⟨[(0, .i n), (1, .i k), (7, .str (rep [97, 116, 111, 109, 105, 99, 32, 123] i)), (8, .str (rep [125] i)), (10, .str ((([116, 104, 114, 101, 97, 100, 32, 123] ++ (rep [97, 116, 111, 109, 105, 99, 32, 123] i)) ++ (rep [125] i)) ++ [125])), (11, .i 104)], [], [], [], 0⟩) (σ' := σ) (ob := Tt 2) (by kernel_rfl) (tt 2) ?_
          refine ACode.seq ?_
          refine ACode.seq ?_
          refine ACode.run hT nh [0, 7, 8, 10, 11, 43] (fr' := ⟨[(0, .i n), (7, .str (rep [97, 116, 111, 109, 105, 99, 32, 123] i)), (8, .str (rep [125] i)), (10, .str ((([116, 104, 114, 101, 97, 100, 32, 123] ++ (rep [97, 116, 111, 109, 105, 99, 32, 123] i)) ++ (rep [125] i)) ++ [125])), (11, .i 104), (43, .bool (k != 2))], [], [], [], 0⟩) (σ' := σ) (ob := Tt 3) (by kernel_rfl) (tt 3) ?_
          refine ACode.cond (t := k != 2) (by kernel_rfl) (fun h10 => ?_) (fun h10 => ?_)
          · -- true
            have h10k := h10; simp only [Bool.and_eq_true, Bool.or_eq_true, Bool.and_eq_false_iff, Bool.or_eq_false_iff, decide_eq_true_eq, decide_eq_false_iff_not, beq_iff_eq, bne_iff_ne, ne_eq, Bool.not_eq_true', Bool.not_eq_false', beq_eq_false_iff_ne, bne_eq_false_iff_eq] at h10k
            exfalso; simp only [bne, h8, Bool.not_true, Bool.not_false] at h10; cases h10
          · -- false
            have h10k := h10; simp only [Bool.and_eq_true, Bool.or_eq_true, Bool.and_eq_false_iff, Bool.or_eq_false_iff, decide_eq_true_eq, decide_eq_false_iff_not, beq_iff_eq, bne_iff_ne, ne_eq, Bool.not_eq_true', Bool.not_eq_false', beq_eq_false_iff_ne, bne_eq_false_iff_eq] at h10k
            refine ACode.skip ?_
            refine ACode.seq ?_
            refine ACode.region ?_
            refine AOps.runN hT nh 1 [0, 11, 51] (fr' := ⟨[(0, .i n), (11, .i 104), (51, .str ((([116, 104, 114, 101, 97, 100, 32, 123] ++ (rep [97, 116, 111, 109, 105, 99, 32, 123] i)) ++ (rep [125] i)) ++ [125]))], [], [], [], 0⟩) (σ' := σ) (ob := Tt 2) (by kernel_rfl) (tt 2) ?_
            refine AOps.call (fid := 17) (cap := []) (avs := [.str ((([116, 104, 114, 101, 97, 100, 32, 123] ++ (rep [97, 116, 111, 109, 105, 99, 32, 123] i)) ++ (rep [125] i)) ++ [125])]) (by kernel_rfl) rfl (by kernel_rfl) (by kernel_rfl) en_17 (by kernel_rfl) (ACalls.mono (deep_call2 i (by omega) _) ?_)
            rintro _ _ ⟨rfl, x0, x1, x2, x3, fa, fb, fc, hf, rfl⟩
            refine AOps.runN hT nh 7 [0, 11, 13] (fr' := ⟨[(0, .i n), (11, .i 104), (13, .loc 1 0)], [[x0, x1, x2, x3], [.i fa, .i fb, .i fc]], [], [], 0⟩) (σ' := σ) (ob := Tt 8) (by kernel_rfl) (tt 8) ?_
            refine AOps.nil ?_
            refine ACode.seq ?_
            refine ACode.seq ?_
            refine ACode.run hT nh [11, 13, 56] (fr' := ⟨[(11, .i 104), (13, .loc 1 0), (56, .bool (decide (n ≤ 11)))], [[x0, x1, x2, x3], [.i fa, .i fb, .i fc]], [], [], 0⟩) (σ' := σ) (ob := Tt 3) (by kernel_rfl) (tt 3) ?_
            refine ACode.cond (t := decide (n ≤ 11)) (by kernel_rfl) (fun h11 => ?_) (fun h11 => ?_)
            · -- true
              have h11k := of_decide_eq_true h11
              refine ACode.seq ?_
              refine ACode.run hT nh [4] (fr' := ⟨[(4, .bool ((fa == 0) && ((fb == 0) && (fc == 0))))], [[x0, x1, x2, x3], [.i fa, .i fb, .i fc]], [], [], 0⟩) (σ' := σ) (ob := Tt 5) (by kernel_rfl) (tt 5) ?_
              refine ACode.ret ?_
              refine retQ.ret (.bool ((fa == 0) && ((fb == 0) && (fc == 0)))) (by kernel_rfl) ?_
              have hv : ((fa == 0) && ((fb == 0) && (fc == 0))) = true := by
                rcases hf with ⟨h9, rfl, rfl, rfl⟩ | ⟨h9, rfl, rfl, rfl⟩
                · first | rfl | (exfalso; omega)
                · first | rfl | (exfalso; omega)
              rw [hv]
              exact ⟨rfl, rfl⟩
            · -- false
              have h11k := of_decide_eq_false h11
              refine ACode.skip ?_
              refine ACode.seq ?_
              refine ACode.run hT nh [4] (fr' := ⟨[(4, .bool ((fa == 10) && ((fb == 1) && (fc == 104))))], [[x0, x1, x2, x3], [.i fa, .i fb, .i fc]], [], [], 0⟩) (σ' := σ) (ob := Tt 6) (by kernel_rfl) (tt 6) ?_
              refine ACode.ret ?_
              refine retQ.ret (.bool ((fa == 10) && ((fb == 1) && (fc == 104)))) (by kernel_rfl) ?_
              have hv : ((fa == 10) && ((fb == 1) && (fc == 104))) = true := by
                rcases hf with ⟨h9, rfl, rfl, rfl⟩ | ⟨h9, rfl, rfl, rfl⟩
                · first | rfl | (exfalso; omega)
                · first | rfl | (exfalso; omega)
              rw [hv]
              exact ⟨rfl, rfl⟩
      · -- false
        have h8k := ne_of_beq_false h8
        refine ACode.skip ?_
        refine ACode.seq ?_
        refine ACode.run hT nh [0, 1, 5, 6, 7, 8] (fr' := ⟨[(0, .i n), (1, .i k), (5, .str [40]), (6, .str [41]), (7, .str []), (8, .str [])], [], [], [], 0⟩) (σ' := σ) (ob := Tt 3) (by kernel_rfl) (tt 3) ?_
        refine ACode.seq ?_
        refine ACode.seq ?_
        refine ACode.run hT nh [0, 1, 5, 6, 7, 8, 9] (fr' := ⟨[(0, .i n), (1, .i k), (5, .str [40]), (6, .str [41]), (7, .str []), (8, .str []), (9, .i 0)], [], [], [], 0⟩) (σ' := σ) (ob := Tt 2) (by kernel_rfl) (tt 2) ?_
        refine ACode.block ?_
        refine ACode.loop [0, 1, 5, 6, 7, 8, 9] 0 0 (fun n0 fr σ' => ∃ (i : Nat), fr = ⟨[(0, .i n), (1, .i k), (5, .str [40]), (6, .str [41]), (7, .str (rep [40] i)), (8, .str (rep [41] i)), (9, .i (i : Int))], [], [], [], 0⟩ ∧ σ = σ' ∧ ((i : Int) ≤ n) ∧ n0 = n.toNat - i) _ (by kernel_rfl) ⟨0, rfl, rfl, (by omega), rfl⟩ ?_
        rintro n0 fr σ' ⟨i, rfl, rfl, hi, rfl⟩
        refine ACode.seq ?_
        refine ACode.seq ?_
        refine ACode.run hT nh [0, 1, 5, 6, 7, 8, 9, 28] (fr' := ⟨[(0, .i n), (1, .i k), (5, .str [40]), (6, .str [41]), (7, .str (rep [40] i)), (8, .str (rep [41] i)), (9, .i (i : Int)), (28, .bool (decide ((i : Int) < n)))], [], [], [], 0⟩) (σ' := σ) (ob := Tt 4) (by kernel_rfl) (tt 4) ?_
        refine ACode.cond (t := decide ((i : Int) < n)) (by kernel_rfl) (fun h12 => ?_) (fun h12 => ?_)
        · -- true
          have h12k := of_decide_eq_true h12
          refine ACode.skip ?_
          refine ACode.seq ?_
          refine ACode.block ?_
          refine ACode.seq ?_
          refine ACode.run hT nh [0, 1, 5, 6, 7, 8, 9] (fr' := ⟨[(0, .i n), (1, .i k), (5, .str [40]), (6, .str [41]), (7, .str ((rep [40] i) ++ [40])), (8, .str (rep [41] i)), (9, .i (i : Int))], [], [], [], 0⟩) (σ' := σ) (ob := True ∧ True ∧ (((((rep [40] i) : List UInt8).length + ([40] : List UInt8).length : Nat) : Int) ≤ 9223372036854775807) ∧ True ∧ True) (by kernel_rfl) ⟨trivial, trivial, (by simp only [List.length_append, rep_length, List.length_cons, List.length_nil]; omega), trivial, trivial⟩ ?_
          refine ACode.run hT nh [0, 1, 5, 6, 7, 8, 9] (fr' := ⟨[(0, .i n), (1, .i k), (5, .str [40]), (6, .str [41]), (7, .str ((rep [40] i) ++ [40])), (8, .str ((rep [41] i) ++ [41])), (9, .i (i : Int))], [], [], [], 0⟩) (σ' := σ) (ob := True ∧ True ∧ (((((rep [41] i) : List UInt8).length + ([41] : List UInt8).length : Nat) : Int) ≤ 9223372036854775807) ∧ True ∧ True) (by kernel_rfl) ⟨trivial, trivial, (by simp only [List.length_append, rep_length, List.length_cons, List.length_nil]; omega), trivial, trivial⟩ ?_
          refine ACode.run hT nh [0, 1, 5, 6, 7, 8, 9] (fr' := ⟨[(0, .i n), (1, .i k), (5, .str [40]), (6, .str [41]), (7, .str ((rep [40] i) ++ [40])), (8, .str ((rep [41] i) ++ [41])), (9, .i (IntKind.i64.wrap ((i : Int) + 1)))], [], [], [], 0⟩) (σ' := σ) (ob := Tt 4) (by kernel_rfl) (tt 4) ?_
          rw [IntWalk.i64_in ((i : Int) + 1) (by omega)]
          refine ⟨by kernel_rfl, _, ?_, i + 1, rfl, rfl, ?_, rfl⟩
          · omega
          · omega
        · -- false
          have h12k := of_decide_eq_false h12
          refine ACode.exit ?_
          refine ACode.seq ?_
          refine ACode.run hT nh [0, 1, 7, 8, 10] (fr' := ⟨[(0, .i n), (1, .i k), (7, .str (rep [40] i)), (8, .str (rep [41] i)), (10, .str ((([116, 104, 114, 101, 97, 100, 32, 123] ++ (rep [40] i)) ++ (rep [41] i)) ++ [125]))], [], [], [], 0⟩) (σ' := σ) (ob := True ∧ (((([116, 104, 114, 101, 97, 100, 32, 123] : List UInt8).length + ((rep [40] i) : List UInt8).length : Nat) : Int) ≤ 9223372036854775807) ∧ True ∧ ((((([116, 104, 114, 101, 97, 100, 32, 123] ++ (rep [40] i)) : List UInt8).length + ((rep [41] i) : List UInt8).length : Nat) : Int) ≤ 9223372036854775807) ∧ (((((([116, 104, 114, 101, 97, 100, 32, 123] ++ (rep [40] i)) ++ (rep [41] i)) : List UInt8).length + ([125] : List UInt8).length : Nat) : Int) ≤ 9223372036854775807) ∧ True ∧ True) (by kernel_rfl) ⟨trivial, (by simp only [List.length_append, rep_length, List.length_cons, List.length_nil]; omega), trivial, (by simp only [List.length_append, rep_length, List.length_cons, List.length_nil]; omega), (by simp only [List.length_append, rep_length, List.length_cons, List.length_nil]; omega), trivial, trivial⟩ ?_
          refine ACode.seq ?_
          refine ACode.run hT nh [0, 1, 7, 8, 10, 11] (fr' := ⟨[(0, .i n), (1, .i k), (7, .str (rep [40] i)), (8, .str (rep [41] i)), (10, .str ((([116, 104, 114, 101, 97, 100, 32, 123] ++ (rep [40] i)) ++ (rep [41] i)) ++ [125])), (11, .i 104)], [], [], [], 0⟩) (σ' := σ) (ob := Tt 2) (by kernel_rfl) (tt 2) ?_
          refine ACode.seq ?_
          refine ACode.seq ?_
          refine ACode.run hT nh [0, 7, 8, 10, 11, 43] (fr' := ⟨[(0, .i n), (7, .str (rep [40] i)), (8, .str (rep [41] i)), (10, .str ((([116, 104, 114, 101, 97, 100, 32, 123] ++ (rep [40] i)) ++ (rep [41] i)) ++ [125])), (11, .i 104), (43, .bool (k != 2))], [], [], [], 0⟩) (σ' := σ) (ob := Tt 3) (by kernel_rfl) (tt 3) ?_
          refine ACode.cond (t := k != 2) (by kernel_rfl) (fun h13 => ?_) (fun h13 => ?_)
          · -- true
            have h13k := h13; simp only [Bool.and_eq_true, Bool.or_eq_true, Bool.and_eq_false_iff, Bool.or_eq_false_iff, decide_eq_true_eq, decide_eq_false_iff_not, beq_iff_eq, bne_iff_ne, ne_eq, Bool.not_eq_true', Bool.not_eq_false', beq_eq_false_iff_ne, bne_eq_false_iff_eq] at h13k
            refine ACode.seq ?_
            refine ACode.run hT nh [0, 10] (fr' := ⟨[(0, .i n), (10, .str (((([116, 104, 114, 101, 97, 100, 32, 123, 32, 112, 114, 105, 110, 116, 32] ++ (rep [40] i)) ++ [49]) ++ (rep [41] i)) ++ [59, 32, 125]))], [], [], [], 0⟩) (σ' := σ) (ob := True ∧ (((([116, 104, 114, 101, 97, 100, 32, 123, 32, 112, 114, 105, 110, 116, 32] : List UInt8).length + ((rep [40] i) : List UInt8).length : Nat) : Int) ≤ 9223372036854775807) ∧ ((((([116, 104, 114, 101, 97, 100, 32, 123, 32, 112, 114, 105, 110, 116, 32] ++ (rep [40] i)) : List UInt8).length + ([49] : List UInt8).length : Nat) : Int) ≤ 9223372036854775807) ∧ True ∧ (((((([116, 104, 114, 101, 97, 100, 32, 123, 32, 112, 114, 105, 110, 116, 32] ++ (rep [40] i)) ++ [49]) : List UInt8).length + ((rep [41] i) : List UInt8).length : Nat) : Int) ≤ 9223372036854775807) ∧ ((((((([116, 104, 114, 101, 97, 100, 32, 123, 32, 112, 114, 105, 110, 116, 32] ++ (rep [40] i)) ++ [49]) ++ (rep [41] i)) : List UInt8).length + ([59, 32, 125] : List UInt8).length : Nat) : Int) ≤ 9223372036854775807) ∧ True ∧ True) (by kernel_rfl) ⟨trivial, (by simp only [List.length_append, rep_length, List.length_cons, List.length_nil]; omega), (by simp only [List.length_append, rep_length, List.length_cons, List.length_nil]; omega), trivial, (by simp only [List.length_append, rep_length, List.length_cons, List.length_nil]; omega), (by simp only [List.length_append, rep_length, List.length_cons, List.length_nil]; omega), trivial, trivial⟩ ?_
            refine ACode.run hT nh [0, 10, 11] (fr' := ⟨[(0, .i n), (10, .str (((([116, 104, 114, 101, 97, 100, 32, 123, 32, 112, 114, 105, 110, 116, 32] ++ (rep [40] i)) ++ [49]) ++ (rep [41] i)) ++ [59, 32, 125])), (11, .i 27)], [], [], [], 0⟩) (σ' := σ) (ob := Tt 2) (by kernel_rfl) (tt 2) ?_
            refine ACode.seq ?_
            refine ACode.region ?_
            refine AOps.runN hT nh 1 [0, 11, 51] (fr' := ⟨[(0, .i n), (11, .i 27), (51, .str (((([116, 104, 114, 101, 97, 100, 32, 123, 32, 112, 114, 105, 110, 116, 32] ++ (rep [40] i)) ++ [49]) ++ (rep [41] i)) ++ [59, 32, 125]))], [], [], [], 0⟩) (σ' := σ) (ob := Tt 2) (by kernel_rfl) (tt 2) ?_
            refine AOps.call (fid := 17) (cap := []) (avs := [.str (((([116, 104, 114, 101, 97, 100, 32, 123, 32, 112, 114, 105, 110, 116, 32] ++ (rep [40] i)) ++ [49]) ++ (rep [41] i)) ++ [59, 32, 125])]) (by kernel_rfl) rfl (by kernel_rfl) (by kernel_rfl) en_17 (by kernel_rfl) (ACalls.mono (deep_call0 i (by omega) _) ?_)
            rintro _ _ ⟨rfl, x0, x1, x2, x3, fa, fb, fc, hf, rfl⟩
            refine AOps.runN hT nh 7 [0, 11, 13] (fr' := ⟨[(0, .i n), (11, .i 27), (13, .loc 1 0)], [[x0, x1, x2, x3], [.i fa, .i fb, .i fc]], [], [], 0⟩) (σ' := σ) (ob := Tt 8) (by kernel_rfl) (tt 8) ?_
            refine AOps.nil ?_
            refine ACode.seq ?_
            refine ACode.seq ?_
            refine ACode.run hT nh [11, 13, 56] (fr' := ⟨[(11, .i 27), (13, .loc 1 0), (56, .bool (decide (n ≤ 11)))], [[x0, x1, x2, x3], [.i fa, .i fb, .i fc]], [], [], 0⟩) (σ' := σ) (ob := Tt 3) (by kernel_rfl) (tt 3) ?_
            refine ACode.cond (t := decide (n ≤ 11)) (by kernel_rfl) (fun h14 => ?_) (fun h14 => ?_)
            · -- true
              have h14k := of_decide_eq_true h14
              refine ACode.seq ?_
              refine ACode.run hT nh [4] (fr' := ⟨[(4, .bool ((fa == 0) && ((fb == 0) && (fc == 0))))], [[x0, x1, x2, x3], [.i fa, .i fb, .i fc]], [], [], 0⟩) (σ' := σ) (ob := Tt 5) (by kernel_rfl) (tt 5) ?_
              refine ACode.ret ?_
              refine retQ.ret (.bool ((fa == 0) && ((fb == 0) && (fc == 0)))) (by kernel_rfl) ?_
              have hv : ((fa == 0) && ((fb == 0) && (fc == 0))) = true := by
                rcases hf with ⟨h9, rfl, rfl, rfl⟩ | ⟨h9, rfl, rfl, rfl⟩
                · first | rfl | (exfalso; omega)
                · first | rfl | (exfalso; omega)
              rw [hv]
              exact ⟨rfl, rfl⟩
            · -- false
              have h14k := of_decide_eq_false h14
              refine ACode.skip ?_
              refine ACode.seq ?_
              refine ACode.run hT nh [4] (fr' := ⟨[(4, .bool ((fa == 10) && ((fb == 1) && (fc == 27))))], [[x0, x1, x2, x3], [.i fa, .i fb, .i fc]], [], [], 0⟩) (σ' := σ) (ob := Tt 6) (by kernel_rfl) (tt 6) ?_
              refine ACode.ret ?_
              refine retQ.ret (.bool ((fa == 10) && ((fb == 1) && (fc == 27)))) (by kernel_rfl) ?_
              have hv : ((fa == 10) && ((fb == 1) && (fc == 27))) = true := by
                rcases hf with ⟨h9, rfl, rfl, rfl⟩ | ⟨h9, rfl, rfl, rfl⟩
                · first | rfl | (exfalso; omega)
                · first | rfl | (exfalso; omega)
              rw [hv]
              exact ⟨rfl, rfl⟩
          · -- false
            have h13k := h13; simp only [Bool.and_eq_true, Bool.or_eq_true, Bool.and_eq_false_iff, Bool.or_eq_false_iff, decide_eq_true_eq, decide_eq_false_iff_not, beq_iff_eq, bne_iff_ne, ne_eq, Bool.not_eq_true', Bool.not_eq_false', beq_eq_false_iff_ne, bne_eq_false_iff_eq] at h13k
            exfalso; simp only [bne, h8, Bool.not_true, Bool.not_false] at h13; cases h13

end Go.AE

