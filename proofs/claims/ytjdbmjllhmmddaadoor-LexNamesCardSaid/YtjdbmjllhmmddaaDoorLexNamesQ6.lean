/- Parts of the proof of a law, in build order: LexR, LexT, W11, RowL, RowM. -/
import Derived.Test.YtjdbmjllhmmddaaDoorLexNamesQ5
import Derived.IntWalk
import Derived.Test.YtjdbmjllhmmddaaDoorCards
import Derived.Test.YtjdbmjllhmmddaaDoorTie
import Derived.WalkKit
import Derived.ProofKit
import Derived.OpenShut
import Derived.Deep.DeepHandedRow
import Derived.Deep.DeepWitnessRowRef
import Derived.Lib.LaidTab
import Derived.LaidMore
import Derived.LaidLaws
import Derived.Shelf.Vars
set_option maxRecDepth 2000
set_option linter.unusedVariables false
set_option linter.unusedSimpArgs false
/- Words: what the code looks up in one long text is what the list holds. -/
set_option linter.unusedVariables false
set_option linter.unusedSimpArgs false
namespace Go.AE

/-- Between blanks: what may stand at a place of a text. -/
def between (l : List UInt8) : Option (List UInt8) :=
  match l with
  | [] => none
  | b :: r => if b = 32 then (if (r.takeWhile (fun x => x != 32)).length < r.length then some (r.takeWhile (fun x => x != 32)) else none) else none

theorem takeWhile_app (t l : List UInt8) (h : ∀ x ∈ t, x ≠ 32) : (t ++ 32 :: l).takeWhile (fun x => x != 32) = t := by
  induction t with
  | nil => simp
  | cons x t ih =>
    rw [List.cons_append, List.takeWhile_cons, if_pos (by simpa using h x (by simp)), ih fun y hy => h y (by simp [hy])]

theorem split_at (r : List UInt8) (h : (r.takeWhile (fun x => x != 32)).length < r.length) : ∃ l, r = r.takeWhile (fun x => x != 32) ++ 32 :: l := by
  induction r with
  | nil => simp at h
  | cons x r ih =>
    rw [List.takeWhile_cons] at h ⊢
    by_cases hx : x = 32
    · subst hx; exact ⟨r, by simp⟩
    · rw [if_pos (by simpa using hx)] at h ⊢
      obtain ⟨l, hl⟩ := ih (by simpa using h)
      exact ⟨l, by rw [List.cons_append, ← hl]⟩

theorem between_iff (t l : List UInt8) (h : ∀ x ∈ t, x ≠ 32) : (([32] ++ t) ++ [32]).isPrefixOf l = decide (between l = some t) := by
  rw [Bool.eq_iff_iff, List.isPrefixOf_iff_prefix, decide_eq_true_eq]
  constructor
  · rintro ⟨r, rfl⟩
    simp only [List.append_assoc, List.cons_append, List.nil_append, between, if_true]
    rw [takeWhile_app t r h, if_pos (by simp)]
  · intro hb
    unfold between at hb
    split at hb
    · cases hb
    · rename_i b r
      split at hb
      · rename_i h32
        split at hb
        · rename_i hl
          injection hb with hb
          obtain ⟨l2, hl2⟩ := split_at r hl
          rw [hb] at hl2
          exact ⟨l2, by rw [h32, hl2]; simp⟩
        · cases hb
      · cases hb

theorem contains_iff (s sub : List UInt8) : Lib.contains s sub = true ↔ ∃ i, i ≤ s.length ∧ sub.isPrefixOf (s.drop i) = true := by
  unfold Lib.contains
  rw [decide_eq_true_eq]
  rcases Lib.index_spec s sub with ⟨h1, h2⟩ | ⟨i, h1, h2, h3, _⟩
  · constructor
    · intro h; omega
    · rintro ⟨i, hi, hp⟩
      have := h2 i hi
      rw [Lib.occAt, hp] at this
      cases this
  · exact ⟨fun _ => ⟨i, h2, h3⟩, fun _ => by omega⟩

theorem allBetween : (List.range (wordsB.length + 1)).filterMap (fun i => between (wordsB.drop i)) = wordsL := by decide +kernel
theorem wordsL_ok : wordsL.all (fun w => (!(w == [])) && w.all (fun x => x != 32)) = true := by decide +kernel

theorem no32 (t : List UInt8) : decide (0 ≤ Lib.indexByte t 32) = !(t.all (fun x => x != 32)) := by
  rw [← Lib.contains_iff_indexByte]
  induction t with
  | nil => rfl
  | cons x t ih =>
    rw [List.contains_cons, List.all_cons, ih]
    by_cases hx : x = 32
    · subst hx; simp
    · have : ((32 : UInt8) == x) = false := by simpa using fun h => hx h.symm
      simp [this, hx]

theorem isWordS_eq (t : List UInt8) : isWordS t = refWord t := by
  rw [Bool.eq_iff_iff]
  unfold isWordS refWord
  rw [no32]
  simp only [Bool.and_eq_true, Bool.not_not]
  constructor
  · rintro ⟨⟨_, h2⟩, h3⟩
    have hn : ∀ x ∈ t, x ≠ 32 := fun x hx => by have := List.all_eq_true.1 h2 x hx; simpa using this
    obtain ⟨i, hi, hp⟩ := (contains_iff _ _).1 h3
    rw [between_iff t _ hn, decide_eq_true_eq] at hp
    have hm : t ∈ wordsL := by
      rw [← allBetween]
      exact List.mem_filterMap.2 ⟨i, List.mem_range.2 (by omega), hp⟩
    exact List.any_eq_true.2 ⟨t, hm, by simp⟩
  · intro h
    obtain ⟨w, hw, he⟩ := List.any_eq_true.1 h
    have he := eq_of_beq he
    subst he
    have hok := List.all_eq_true.1 wordsL_ok w hw
    simp only [Bool.and_eq_true] at hok
    have hn : ∀ x ∈ w, x ≠ 32 := fun x hx => by have := List.all_eq_true.1 hok.2 x hx; simpa using this
    refine ⟨hok, (contains_iff _ _).2 ?_⟩
    rw [← allBetween] at hw
    obtain ⟨i, hi, hb⟩ := List.mem_filterMap.1 hw
    exact ⟨i, by have := List.mem_range.1 hi; omega, by rw [between_iff w _ hn, decide_eq_true_eq]; exact hb⟩

theorem isNameS_eq (t : List UInt8) : isNameS t = refName t := by
  unfold isNameS refName
  rw [isWordS_eq]
  cases t with
  | nil => rfl
  | cons b r =>
    simp only [nameC, List.getD_cons_zero, List.all_cons]
    have hb : letterB b = true → wordB b = true := fun h => by simp [wordB, h]
    cases h1 : letterB b <;> cases h2 : wordB b <;> cases h3 : refWord (b :: r) <;> cases h4 : r.all wordB <;> simp_all

end Go.AE

/- LexNames, in plain Lean. -/
set_option linter.unusedVariables false
set_option linter.unusedSimpArgs false
namespace Go.AE

theorem nextT_kind (r : Rd) (h : (nextT r).1.kind = 1 ∨ (nextT r).1.kind = 2) : (isNameS (nextT r).1.text || isWordS (nextT r).1.text) = true ∧ ((nextT r).1.kind = 1 → isNameS (nextT r).1.text = true) ∧ ((nextT r).1.kind = 2 → isWordS (nextT r).1.text = true) := by
  unfold nextT at *
  split at h
  · rename_i hw
    simp only [hw, if_true]
    unfold wordT at *
    dsimp only at *
    split at h
    · rename_i h1; simp [h1]
    · rename_i h1
      split at h
      · rename_i h2; simp [h1, h2]
      · simp at h
  · rename_i hw
    split at h
    · simp [realT] at h
    · unfold signT at h
      split at h
      · simp at h
      · split at h <;> simp at h

/-- What has been read stays in front. -/
theorem lexF_front : ∀ (k : Nat) (r : Rd) (acc : List Tok), (lexF k r acc).2.1 = 0 → ∃ l, (lexF k r acc).1 = acc ++ l
  | 0, r, acc, _ => ⟨[], by simp [lexF]⟩
  | k + 1, r, acc, h => by
    rw [lexF] at h ⊢
    split
    · exact ⟨_, rfl⟩
    · rename_i h1
      rw [if_neg h1] at h
      split
      · rename_i h2
        rw [if_pos h2] at h
        obtain ⟨l, hl⟩ := lexF_front k _ _ h
        exact ⟨(nextT (blankS r)).1 :: l, by rw [hl]; simp⟩
      · rename_i h2
        rw [if_neg h2] at h
        simp at h

theorem u8_all {p : UInt8 → Bool} (h : ∀ n : Fin 256, p (UInt8.ofNat n.val) = true) (b : UInt8) : p b = true := by
  have := h ⟨b.toNat, b.toNat_lt⟩
  simpa using this

theorem wordB_not (b : UInt8) (h : wordB b = true) : blankB b = false ∧ b ≠ 47 ∧ b ≠ 35 := by
  have := u8_all (p := fun b => !(wordB b) || (!(blankB b) && (b != 47) && (b != 35))) (by decide +kernel) b
  rw [h] at this
  simp only [Bool.not_true, Bool.false_or, Bool.and_eq_true, Bool.not_eq_true', bne_iff_ne, ne_eq] at this
  exact ⟨this.1.1, this.1.2, this.2⟩

theorem blankS_word {r : Rd} (hne : r.rest ≠ []) (h : wordB (r.rest.getD 0 0) = true) : blankS r = r := by
  obtain ⟨h1, h2, _⟩ := wordB_not _ h
  unfold blankS
  cases hr : r.rest with
  | nil => exact absurd hr hne
  | cons b l =>
    rw [hr] at h1 h2
    rw [List.getD_cons_zero] at h1 h2
    simp only [List.length_cons]
    rw [blankF, if_neg (by rw [hr]; simp), if_neg, if_neg]
    · rw [hr, List.getD_cons_zero, h1]; simp
    · rw [hr]
      simp [List.isPrefixOf]
      intro h3; exact absurd h3.symm h2

theorem lexS_word (t : List UInt8) (hlen : t.length ≤ 8192) (hne : t ≠ []) (hall : t.all wordB = true) (k : Int) (hk : wordT ⟨t, 1, 1⟩ = (⟨k, t, 0, 1, 1⟩, true)) : ∃ l c, lexS t = ([⟨k, t, 0, 1, 1⟩, ⟨0, [], 0, l, c⟩], 0, 0, 0) := by
  have hw : wordB (t.getD 0 0) = true := by
    cases t with
    | nil => exact absurd rfl hne
    | cons b r => simp only [List.all_cons, Bool.and_eq_true] at hall; simpa using hall.1
  have hn : wordN t = t.length := by
    unfold wordN
    congr 1
    clear hk hlen hne hw
    induction t with
    | nil => rfl
    | cons b r ih =>
      simp only [List.all_cons, Bool.and_eq_true] at hall
      rw [List.takeWhile_cons, if_pos hall.1, ih hall.2]
  have hlt : t.length = (t.length - 1) + 1 := by
    cases t with
    | nil => exact absurd rfl hne
    | cons b r => simp
  have hnx : nextT ⟨t, 1, 1⟩ = (⟨k, t, 0, 1, 1⟩, true) := by unfold nextT; rw [if_pos hw]; exact hk
  have hnr : (nextR ⟨t, 1, 1⟩).rest = [] := by unfold nextR; rw [if_pos hw]; simp [skipS, hn]
  have hb2 : blankS (nextR ⟨t, 1, 1⟩) = nextR ⟨t, 1, 1⟩ := by unfold blankS; rw [hnr]; rfl
  refine ⟨(nextR ⟨t, 1, 1⟩).line, (nextR ⟨t, 1, 1⟩).col, ?_⟩
  unfold lexS
  rw [if_neg (by omega), lexF, blankS_word (r := ⟨t, 1, 1⟩) hne hw, if_neg hne, hnx, if_pos rfl, hlt, lexF, hb2, if_pos hnr]
  rfl

theorem wordsL_word : wordsL.all (fun w => (!(w == [])) && w.all wordB) = true := by decide +kernel

def oneTok (t : List UInt8) : Bool := (((lexS t).2.1 == 0) && (((lexS t).2.2.1 == 0) && ((lexS t).2.2.2 == 0))) && (((((lexS t).1.length : Nat) : Int) == 2) && (((lexS t).1.getD 0 default).text == t))

theorem names_plain (t : List UInt8) (hlen : t.length ≤ 1000) : (isNameS t || isWordS t) = (oneTok t && ((((lexS t).1.getD 0 default).kind == 1) || (((lexS t).1.getD 0 default).kind == 2))) := by
  rw [Bool.eq_iff_iff]
  constructor
  · intro h
    have hall : t ≠ [] ∧ t.all wordB = true := by
      simp only [Bool.or_eq_true] at h
      rcases h with h | h
      · unfold isNameS at h
        simp only [Bool.and_eq_true] at h
        obtain ⟨h1, h2, _⟩ := h
        cases t with
        | nil => simp at h2
        | cons b r =>
          simp only [nameC, Bool.and_eq_true] at h1
          exact ⟨by simp, by simp only [List.all_cons, Bool.and_eq_true]; exact ⟨by simp [wordB, h1.1], h1.2⟩⟩
      · rw [isWordS_eq] at h
        obtain ⟨w, hw, he⟩ := List.any_eq_true.1 h
        have he := eq_of_beq he
        subst he
        have := List.all_eq_true.1 wordsL_word w hw
        simp only [Bool.and_eq_true] at this
        exact ⟨by simpa using this.1, this.2⟩
    have hn : t.take (wordN t) = t := by
      have : ∀ l : List UInt8, l.all wordB = true → l.takeWhile wordB = l := fun l => by
        induction l with
        | nil => intro _; rfl
        | cons b r ih =>
          intro hl
          simp only [List.all_cons, Bool.and_eq_true] at hl
          rw [List.takeWhile_cons, if_pos hl.1, ih hl.2]
      rw [take_wordN, this t hall.2]
    have hk : ∃ k : Int, (k = 1 ∨ k = 2) ∧ wordT ⟨t, 1, 1⟩ = (⟨k, t, 0, 1, 1⟩, true) := by
      unfold wordT
      dsimp only
      rw [hn]
      cases hw : isWordS t with
      | true => exact ⟨2, .inr rfl, rfl⟩
      | false =>
        rw [hw, Bool.or_false] at h
        rw [h]
        exact ⟨1, .inl rfl, rfl⟩
    obtain ⟨k, hk12, hk⟩ := hk
    obtain ⟨l, c, e⟩ := lexS_word t (by omega) hall.1 hall.2 k hk
    unfold oneTok
    rw [e]
    rcases hk12 with rfl | rfl <;> simp
  · intro h
    simp only [oneTok, Bool.and_eq_true, Bool.or_eq_true, beq_iff_eq] at h
    obtain ⟨⟨⟨h0, _, _⟩, h2, ht⟩, hk⟩ := h
    have hs : lexS t = lexF (t.length + 1) ⟨t, 1, 1⟩ [] := by unfold lexS; rw [if_neg (by omega)]
    rw [hs, lexF] at h0 h2 ht hk
    split at h0
    · rename_i h1
      rw [if_pos h1] at h2
      simp at h2
    · rename_i h1
      rw [if_neg h1] at h2 ht hk
      split at h0
      · rename_i h3
        rw [if_pos h3] at h2 ht hk
        obtain ⟨l, hl⟩ := lexF_front _ _ _ h0
        rw [hl] at ht hk
        simp only [List.nil_append, List.cons_append, List.getD_cons_zero] at ht hk
        have := (nextT_kind _ hk).1
        rwa [ht] at this
      · rename_i h3
        rw [if_neg h3] at h2
        simp at h2

end Go.AE

set_option linter.unusedVariables false
set_option linter.unusedSimpArgs false
set_option maxRecDepth 4000
namespace Go.AE
open Go.Proofs

theorem name_not_word (t : List UInt8) : (isNameS t && isWordS t) = false := by
  unfold isNameS
  cases isWordS t <;> simp

theorem lexNames_walk (t : List UInt8) (σ : St)  : ACalls Tryd.prog 3 [.str t] σ (fun e s => σ = s ∧ e = .ret (.bool true)) := by
  refine ACalls.enter hT Tryd.func3 rfl (by kernel_rfl) ?_
  refine ACode.seq ?_
  refine ACode.run hT (fun _ => false) [0] (fr' := ⟨[(0, .str t)], [], [], [], 0⟩) (σ' := σ) (ob := True ∧ True) (by kernel_rfl) ⟨trivial, trivial⟩ ?_
  refine ACode.seq ?_
  refine ACode.seq ?_
  refine ACode.region ?_
  refine AOps.call (fid := 10) (cap := []) (avs := []) (by kernel_rfl) rfl (by kernel_rfl) (by kernel_rfl) en_10 (by kernel_rfl) (ACalls.mono (alive_walk _) ?_)
  rintro _ _ ⟨rfl, rfl⟩
  refine AOps.runN hT (fun _ => false) 1 [0, 9] (fr' := ⟨[(0, .str t), (9, .bool false)], [], [], [], 0⟩) (σ' := σ) (ob := True ∧ True) (by kernel_rfl) ⟨trivial, trivial⟩ ?_
  refine AOps.nil ?_
  refine ACode.cond (t := false) (by kernel_rfl) (fun h => Bool.noConfusion h) (fun _ => ?_)
  refine ACode.skip ?_
  refine ACode.seq ?_
  refine ACode.seq ?_
  refine ACode.run hT (fun _ => false) [0, 12] (fr' := ⟨[(0, .str t), (12, .bool (decide ((((t) : List UInt8).length : Int) > 1000)))], [], [], [], 0⟩) (σ' := σ) (ob := True ∧ True ∧ True ∧ True) (by kernel_rfl) ⟨trivial, trivial, trivial, trivial⟩ ?_
  refine ACode.cond (t := decide ((((t) : List UInt8).length : Int) > 1000)) (by kernel_rfl) (fun h1 => ?_) (fun h1 => ?_)
  · -- true
    have h1k := of_decide_eq_true h1
    refine ACode.seq ?_
    refine ACode.run hT (fun _ => false) [2] (fr' := ⟨[(2, .bool true)], [], [], [], 0⟩) (σ' := σ) (ob := True ∧ True) (by kernel_rfl) ⟨trivial, trivial⟩ ?_
    refine ACode.ret ?_
    refine retQ.ret (.bool true) (by kernel_rfl) ?_
    exact ⟨rfl, rfl⟩
  · -- false
    have h1k := of_decide_eq_false h1
    refine ACode.skip ?_
    refine ACode.seq ?_
    refine ACode.region ?_
    refine AOps.runN hT (fun _ => false) 1 [0, 13] (fr' := ⟨[(0, .str t), (13, .str t)], [], [], [], 0⟩) (σ' := σ) (ob := True ∧ True) (by kernel_rfl) ⟨trivial, trivial⟩ ?_
    refine AOps.call (fid := 11) (cap := []) (avs := [.str t]) (by kernel_rfl) rfl (by kernel_rfl) (by kernel_rfl) en_11 (by kernel_rfl) (ACalls.mono (isName_walk0 t _ (by omega)) ?_)
    rintro _ _ ⟨rfl, rfl⟩
    refine AOps.runN hT (fun _ => false) 1 [0, 14, 15] (fr' := ⟨[(0, .str t), (14, .bool (isNameS t)), (15, .str t)], [], [], [], 0⟩) (σ' := σ) (ob := True ∧ True) (by kernel_rfl) ⟨trivial, trivial⟩ ?_
    refine AOps.call (fid := 12) (cap := []) (avs := [.str t]) (by kernel_rfl) rfl (by kernel_rfl) (by kernel_rfl) en_12 (by kernel_rfl) (ACalls.mono (isWord_walk0 t _ (by omega)) ?_)
    rintro _ _ ⟨rfl, rfl⟩
    refine AOps.runN hT (fun _ => false) 2 [0, 3, 4] (fr' := ⟨[(0, .str t), (3, .bool (isNameS t)), (4, .bool (isWordS t))], [], [], [], 0⟩) (σ' := σ) (ob := True ∧ True ∧ True) (by kernel_rfl) ⟨trivial, trivial, trivial⟩ ?_
    refine AOps.nil ?_
    refine ACode.seq ?_
    refine ACode.seq ?_
    refine ACode.meet ⟨[(0, .str t), (3, .bool (isNameS t)), (4, .bool (isWordS t)), (32, .bool ((!((isNameS t) == (refName t))) || ((!((isWordS t) == (refWord t))) || ((isNameS t) && (isWordS t)))))], [], [], [], 0⟩ σ (ACode.region ?_) ?_
    ·
      refine AOps.runN hT (fun _ => false) 2 [0, 3, 4, 17, 18] (fr' := ⟨[(0, .str t), (3, .bool (isNameS t)), (4, .bool (isWordS t)), (17, .bool (isNameS t)), (18, .str t)], [], [], [], 0⟩) (σ' := σ) (ob := True ∧ True ∧ True) (by kernel_rfl) ⟨trivial, trivial, trivial⟩ ?_
      refine AOps.call (fid := 13) (cap := []) (avs := [.str t]) (by kernel_rfl) rfl (by kernel_rfl) (by kernel_rfl) en_13 (by kernel_rfl) (ACalls.mono (refName_walk t _ (by omega)) ?_)
      rintro _ _ ⟨rfl, rfl⟩
      refine AOps.runN hT (fun _ => false) 2 [0, 3, 4, 21] (fr' := ⟨[(0, .str t), (3, .bool (isNameS t)), (4, .bool (isWordS t)), (21, .bool (!((isNameS t) == (refName t))))], [], [], [], 0⟩) (σ' := σ) (ob := True ∧ True ∧ True) (by kernel_rfl) ⟨trivial, trivial, trivial⟩ ?_
      cases h2 : (!((isNameS t) == (refName t)))
      · -- !((isNameS t) == (refName t)) is false
        have h2k := h2; simp only [Bool.and_eq_true, Bool.or_eq_true, Bool.and_eq_false_iff, Bool.or_eq_false_iff, decide_eq_true_eq, decide_eq_false_iff_not, beq_iff_eq, bne_iff_ne, ne_eq, Bool.not_eq_true', Bool.not_eq_false', beq_eq_false_iff_ne, bne_eq_false_iff_eq] at h2k
        refine AOps.runN hT (fun _ => false) 2 [0, 3, 4, 21, 22, 23] (fr' := ⟨[(0, .str t), (3, .bool (isNameS t)), (4, .bool (isWordS t)), (21, .bool false), (22, .bool (isWordS t)), (23, .str t)], [], [], [], 0⟩) (σ' := σ) (ob := True ∧ True ∧ True) (by kernel_rfl) ⟨trivial, trivial, trivial⟩ ?_
        refine AOps.call (fid := 14) (cap := []) (avs := [.str t]) (by kernel_rfl) rfl (by kernel_rfl) (by kernel_rfl) en_14 (by kernel_rfl) (ACalls.mono (refWord_walk t _) ?_)
        rintro _ _ ⟨rfl, rfl⟩
        refine AOps.runN hT (fun _ => false) 3 [0, 3, 4, 27] (fr' := ⟨[(0, .str t), (3, .bool (isNameS t)), (4, .bool (isWordS t)), (27, .bool (!((isWordS t) == (refWord t))))], [], [], [], 0⟩) (σ' := σ) (ob := True ∧ True ∧ True ∧ True) (by kernel_rfl) ⟨trivial, trivial, trivial, trivial⟩ ?_
        cases h3 : (!((isWordS t) == (refWord t)))
        · -- !((isWordS t) == (refWord t)) is false
          have h3k := h3; simp only [Bool.and_eq_true, Bool.or_eq_true, Bool.and_eq_false_iff, Bool.or_eq_false_iff, decide_eq_true_eq, decide_eq_false_iff_not, beq_iff_eq, bne_iff_ne, ne_eq, Bool.not_eq_true', Bool.not_eq_false', beq_eq_false_iff_ne, bne_eq_false_iff_eq] at h3k
          refine AOps.runN hT (fun _ => false) 2 [0, 3, 4, 27, 29] (fr' := ⟨[(0, .str t), (3, .bool (isNameS t)), (4, .bool (isWordS t)), (27, .bool false), (29, .bool (isNameS t))], [], [], [], 0⟩) (σ' := σ) (ob := True ∧ True ∧ True) (by kernel_rfl) ⟨trivial, trivial, trivial⟩ ?_
          cases h4 : (isNameS t)
          · -- isNameS t is false
            skip
            refine AOps.runN hT (fun _ => false) 3 [0, 3, 4, 32] (fr' := ⟨[(0, .str t), (3, .bool false), (4, .bool (isWordS t)), (32, .bool false)], [], [], [], 0⟩) (σ' := σ) (ob := True ∧ True ∧ True) (by kernel_rfl) ⟨trivial, trivial, trivial⟩ ?_
            refine AOps.weak [0, 3, 4, 32] (AOps.nil ⟨rfl, rfl⟩)
          · -- isNameS t is true
            skip
            refine AOps.runN hT (fun _ => false) 3 [0, 3, 4, 32] (fr' := ⟨[(0, .str t), (3, .bool true), (4, .bool (isWordS t)), (32, .bool (isWordS t))], [], [], [], 0⟩) (σ' := σ) (ob := True ∧ True ∧ True ∧ True) (by kernel_rfl) ⟨trivial, trivial, trivial, trivial⟩ ?_
            refine AOps.weak [0, 3, 4, 32] (AOps.nil ⟨rfl, rfl⟩)
        · -- !((isWordS t) == (refWord t)) is true
          have h3k := h3; simp only [Bool.and_eq_true, Bool.or_eq_true, Bool.and_eq_false_iff, Bool.or_eq_false_iff, decide_eq_true_eq, decide_eq_false_iff_not, beq_iff_eq, bne_iff_ne, ne_eq, Bool.not_eq_true', Bool.not_eq_false', beq_eq_false_iff_ne, bne_eq_false_iff_eq] at h3k
          refine AOps.runN hT (fun _ => false) 5 [0, 3, 4, 32] (fr' := ⟨[(0, .str t), (3, .bool (isNameS t)), (4, .bool (isWordS t)), (32, .bool true)], [], [], [], 0⟩) (σ' := σ) (ob := True ∧ True) (by kernel_rfl) ⟨trivial, trivial⟩ ?_
          refine AOps.weak [0, 3, 4, 32] (AOps.nil ⟨rfl, rfl⟩)
      · -- !((isNameS t) == (refName t)) is true
        have h2k := h2; simp only [Bool.and_eq_true, Bool.or_eq_true, Bool.and_eq_false_iff, Bool.or_eq_false_iff, decide_eq_true_eq, decide_eq_false_iff_not, beq_iff_eq, bne_iff_ne, ne_eq, Bool.not_eq_true', Bool.not_eq_false', beq_eq_false_iff_ne, bne_eq_false_iff_eq] at h2k
        refine AOps.runN hT (fun _ => false) 11 [0, 3, 4, 32] (fr' := ⟨[(0, .str t), (3, .bool (isNameS t)), (4, .bool (isWordS t)), (32, .bool true)], [], [], [], 0⟩) (σ' := σ) (ob := True ∧ True ∧ True ∧ True) (by kernel_rfl) ⟨trivial, trivial, trivial, trivial⟩ ?_
        refine AOps.weak [0, 3, 4, 32] (AOps.nil ⟨rfl, rfl⟩)
    -- on
    refine ACode.cond (t := (!((isNameS t) == (refName t))) || ((!((isWordS t) == (refWord t))) || ((isNameS t) && (isWordS t)))) (by kernel_rfl) (fun h5 => ?_) (fun h5 => ?_)
    · -- true
      have h5k := h5; simp only [Bool.and_eq_true, Bool.or_eq_true, Bool.and_eq_false_iff, Bool.or_eq_false_iff, decide_eq_true_eq, decide_eq_false_iff_not, beq_iff_eq, bne_iff_ne, ne_eq, Bool.not_eq_true', Bool.not_eq_false', beq_eq_false_iff_ne, bne_eq_false_iff_eq] at h5k
      refine ACode.seq ?_
      refine ACode.run hT (fun _ => false) [2] (fr' := ⟨[(2, .bool false)], [], [], [], 0⟩) (σ' := σ) (ob := True ∧ True) (by kernel_rfl) ⟨trivial, trivial⟩ ?_
      refine ACode.ret ?_
      refine retQ.ret (.bool false) (by kernel_rfl) ?_
      exfalso
      rw [← isNameS_eq, ← isWordS_eq, name_not_word] at h5
      simp at h5
    · -- false
      have h5k := h5; simp only [Bool.and_eq_true, Bool.or_eq_true, Bool.and_eq_false_iff, Bool.or_eq_false_iff, decide_eq_true_eq, decide_eq_false_iff_not, beq_iff_eq, bne_iff_ne, ne_eq, Bool.not_eq_true', Bool.not_eq_false', beq_eq_false_iff_ne, bne_eq_false_iff_eq] at h5k
      refine ACode.skip ?_
      refine ACode.seq ?_
      refine ACode.region ?_
      refine AOps.runN hT (fun _ => false) 1 [0, 3, 4, 34] (fr' := ⟨[(0, .str t), (3, .bool (isNameS t)), (4, .bool (isWordS t)), (34, .str t)], [], [], [], 0⟩) (σ' := σ) (ob := True ∧ True) (by kernel_rfl) ⟨trivial, trivial⟩ ?_
      refine AOps.call (fid := 15) (cap := []) (avs := [.str t]) (by kernel_rfl) rfl (by kernel_rfl) (by kernel_rfl) en_15 (by kernel_rfl) (ACalls.mono (lex_walk t _) ?_)
      rintro _ _ ⟨rfl, own, hown, rfl⟩
      refine AOps.runN hT (fun _ => false) 6 [0, 3, 4, 5, 6] (fr' := ⟨[(0, .str t), (3, .bool (isNameS t)), (4, .bool (isWordS t)), (5, .slice (toksAV (lexS t).1) ((lexS t).1.length) own), (6, .loc 0 0)], [[.int .i64 ((lexS t).2.1), .int .i64 ((lexS t).2.2.1), .int .i64 ((lexS t).2.2.2)]], [], [], 0⟩) (σ' := σ) (ob := True ∧ True ∧ True ∧ True ∧ True ∧ True ∧ True) (by kernel_rfl) ⟨trivial, trivial, trivial, trivial, trivial, trivial, trivial⟩ ?_
      refine AOps.nil ?_
      refine ACode.seq ?_
      refine ACode.meet ⟨[(3, .bool (isNameS t)), (4, .bool (isWordS t)), (5, .slice (toksAV (lexS t).1) ((lexS t).1.length) own), (7, .bool (((((lexS t).2.1) == 0) && ((((lexS t).2.2.1) == 0) && (((lexS t).2.2.2) == 0))) && (((((lexS t).1.length : Nat) : Int) == 2) && (((((lexS t).1).getD 0 default).text) == t))))], [[.int .i64 ((lexS t).2.1), .int .i64 ((lexS t).2.2.1), .int .i64 ((lexS t).2.2.2)]], [], [], 0⟩ σ (ACode.region ?_) ?_
      ·
        refine AOps.runN hT (fun _ => false) 4 [0, 3, 4, 5, 41] (fr' := ⟨[(0, .str t), (3, .bool (isNameS t)), (4, .bool (isWordS t)), (5, .slice (toksAV (lexS t).1) ((lexS t).1.length) own), (41, .bool ((((lexS t).2.1) == 0) && ((((lexS t).2.2.1) == 0) && (((lexS t).2.2.2) == 0))))], [[.int .i64 ((lexS t).2.1), .int .i64 ((lexS t).2.2.1), .int .i64 ((lexS t).2.2.2)]], [], [], 0⟩) (σ' := σ) (ob := True ∧ True ∧ True ∧ True ∧ True) (by kernel_rfl) ⟨trivial, trivial, trivial, trivial, trivial⟩ ?_
        cases h6 : ((((lexS t).2.1) == 0) && ((((lexS t).2.2.1) == 0) && (((lexS t).2.2.2) == 0)))
        · -- (((lexS t).2.1) == 0) && ((((lexS t).2.2.1) == 0) && (((lexS t).2.2.2) == 0)) is false
          have h6k := h6; simp only [Bool.and_eq_true, Bool.or_eq_true, Bool.and_eq_false_iff, Bool.or_eq_false_iff, decide_eq_true_eq, decide_eq_false_iff_not, beq_iff_eq, bne_iff_ne, ne_eq, Bool.not_eq_true', Bool.not_eq_false', beq_eq_false_iff_ne, bne_eq_false_iff_eq] at h6k
          refine AOps.runN hT (fun _ => false) 13 [3, 4, 5, 7] (fr' := ⟨[(3, .bool (isNameS t)), (4, .bool (isWordS t)), (5, .slice (toksAV (lexS t).1) ((lexS t).1.length) own), (7, .bool false)], [[.int .i64 ((lexS t).2.1), .int .i64 ((lexS t).2.2.1), .int .i64 ((lexS t).2.2.2)]], [], [], 0⟩) (σ' := σ) (ob := True ∧ True ∧ True ∧ True ∧ True) (by kernel_rfl) ⟨trivial, trivial, trivial, trivial, trivial⟩ ?_
          refine AOps.weak [3, 4, 5, 7] (AOps.nil ⟨rfl, rfl⟩)
        · -- (((lexS t).2.1) == 0) && ((((lexS t).2.2.1) == 0) && (((lexS t).2.2.2) == 0)) is true
          have h6k := h6; simp only [Bool.and_eq_true, Bool.or_eq_true, Bool.and_eq_false_iff, Bool.or_eq_false_iff, decide_eq_true_eq, decide_eq_false_iff_not, beq_iff_eq, bne_iff_ne, ne_eq, Bool.not_eq_true', Bool.not_eq_false', beq_eq_false_iff_ne, bne_eq_false_iff_eq] at h6k
          refine AOps.runN hT (fun _ => false) 5 [0, 3, 4, 5, 46] (fr' := ⟨[(0, .str t), (3, .bool (isNameS t)), (4, .bool (isWordS t)), (5, .slice (toksAV (lexS t).1) ((lexS t).1.length) own), (46, .bool ((((lexS t).1.length : Nat) : Int) == 2))], [[.int .i64 ((lexS t).2.1), .int .i64 ((lexS t).2.2.1), .int .i64 ((lexS t).2.2.2)]], [], [], 0⟩) (σ' := σ) (ob := True ∧ True ∧ True ∧ True ∧ True ∧ True) (by kernel_rfl) ⟨trivial, trivial, trivial, trivial, trivial, trivial⟩ ?_
          cases h7 : ((((lexS t).1.length : Nat) : Int) == 2)
          · -- (((lexS t).1.length : Nat) : Int) == 2 is false
            have h7k := ne_of_beq_false h7
            refine AOps.runN hT (fun _ => false) 8 [3, 4, 5, 7] (fr' := ⟨[(3, .bool (isNameS t)), (4, .bool (isWordS t)), (5, .slice (toksAV (lexS t).1) ((lexS t).1.length) own), (7, .bool false)], [[.int .i64 ((lexS t).2.1), .int .i64 ((lexS t).2.2.1), .int .i64 ((lexS t).2.2.2)]], [], [], 0⟩) (σ' := σ) (ob := True ∧ True ∧ True) (by kernel_rfl) ⟨trivial, trivial, trivial⟩ ?_
            refine AOps.weak [3, 4, 5, 7] (AOps.nil ⟨rfl, rfl⟩)
          · -- (((lexS t).1.length : Nat) : Int) == 2 is true
            have h7k := eq_of_beq h7
            refine AOps.runN hT (fun _ => false) 2 [0, 3, 4, 5, 46, 48] (fr' := ⟨[(0, .str t), (3, .bool (isNameS t)), (4, .bool (isWordS t)), (5, .slice (toksAV (lexS t).1) ((lexS t).1.length) own), (46, .bool true), (48, .dat (((toksAV (lexS t).1 : List AV).drop (0 * 5)).take 5))], [[.int .i64 ((lexS t).2.1), .int .i64 ((lexS t).2.2.1), .int .i64 ((lexS t).2.2.2)]], [], [], 0⟩) (σ' := σ) (ob := True ∧ (0 ≤ (0 : Int) ∧ (0 : Int) < ((lexS t).1.length : Nat) ∧ 0 * 5 ≤ (toksAV (lexS t).1 : List AV).length) ∧ True) (by kernel_rfl) ⟨trivial, (by rw [toksAV_length]; omega), trivial⟩ ?_
            rw [toksAV_at ((lexS t).1) 0 (by omega)]
            refine AOps.runN hT (fun _ => false) 6 [3, 4, 5, 7] (fr' := ⟨[(3, .bool (isNameS t)), (4, .bool (isWordS t)), (5, .slice (toksAV (lexS t).1) ((lexS t).1.length) own), (7, .bool (((((lexS t).1).getD 0 default).text) == t))], [[.int .i64 ((lexS t).2.1), .int .i64 ((lexS t).2.2.1), .int .i64 ((lexS t).2.2.2)]], [], [], 0⟩) (σ' := σ) (ob := (1 ≤ ([.int .i64 ((((lexS t).1).getD 0 default).kind), .str ((((lexS t).1).getD 0 default).text), .int .u64 ((((lexS t).1).getD 0 default).n), .int .i64 ((((lexS t).1).getD 0 default).line), .int .i64 ((((lexS t).1).getD 0 default).col)] : List AV).length) ∧ True ∧ True ∧ True ∧ True ∧ True ∧ True) (by kernel_rfl) ⟨(by simp), trivial, trivial, trivial, trivial, trivial, trivial⟩ ?_
            refine AOps.weak [3, 4, 5, 7] (AOps.nil ⟨rfl, rfl⟩)
      -- on
      refine ACode.seq ?_
      refine ACode.meet ⟨[(2, .bool (bif isNameS t then (((((lexS t).2.1) == 0) && ((((lexS t).2.2.1) == 0) && (((lexS t).2.2.2) == 0))) && (((((lexS t).1.length : Nat) : Int) == 2) && (((((lexS t).1).getD 0 default).text) == t))) && ((((((lexS t).1).getD 0 default).kind) == 1) || (true == (((((lexS t).1).getD 0 default).kind) == 2))) else bif ((((lexS t).2.1) == 0) && ((((lexS t).2.2.1) == 0) && (((lexS t).2.2.2) == 0))) && (((((lexS t).1.length : Nat) : Int) == 2) && (((((lexS t).1).getD 0 default).text) == t)) then bif ((((lexS t).1).getD 0 default).kind) == 1 then (isWordS t) == true else (isWordS t) == (((((lexS t).1).getD 0 default).kind) == 2) else (isWordS t) == false))], [[.int .i64 ((lexS t).2.1), .int .i64 ((lexS t).2.2.1), .int .i64 ((lexS t).2.2.2)]], [], [], 0⟩ σ (ACode.region ?_) ?_
      ·
        refine AOps.runN hT (fun _ => false) 2 [4, 5, 7, 55] (fr' := ⟨[(4, .bool (isWordS t)), (5, .slice (toksAV (lexS t).1) ((lexS t).1.length) own), (7, .bool (((((lexS t).2.1) == 0) && ((((lexS t).2.2.1) == 0) && (((lexS t).2.2.2) == 0))) && (((((lexS t).1.length : Nat) : Int) == 2) && (((((lexS t).1).getD 0 default).text) == t)))), (55, .bool (isNameS t))], [[.int .i64 ((lexS t).2.1), .int .i64 ((lexS t).2.2.1), .int .i64 ((lexS t).2.2.2)]], [], [], 0⟩) (σ' := σ) (ob := True ∧ True ∧ True) (by kernel_rfl) ⟨trivial, trivial, trivial⟩ ?_
        cases h8 : (isNameS t)
        · -- isNameS t is false
          skip
          refine AOps.runN hT (fun _ => false) 4 [5, 57, 59] (fr' := ⟨[(5, .slice (toksAV (lexS t).1) ((lexS t).1.length) own), (57, .bool (isWordS t)), (59, .bool (((((lexS t).2.1) == 0) && ((((lexS t).2.2.1) == 0) && (((lexS t).2.2.2) == 0))) && (((((lexS t).1.length : Nat) : Int) == 2) && (((((lexS t).1).getD 0 default).text) == t))))], [[.int .i64 ((lexS t).2.1), .int .i64 ((lexS t).2.2.1), .int .i64 ((lexS t).2.2.2)]], [], [], 0⟩) (σ' := σ) (ob := True ∧ True ∧ True ∧ True ∧ True) (by kernel_rfl) ⟨trivial, trivial, trivial, trivial, trivial⟩ ?_
          cases h9 : (((((lexS t).2.1) == 0) && ((((lexS t).2.2.1) == 0) && (((lexS t).2.2.2) == 0))) && (((((lexS t).1.length : Nat) : Int) == 2) && (((((lexS t).1).getD 0 default).text) == t)))
          · -- ((((lexS t).2.1) == 0) && ((((lexS t).2.2.1) == 0) && (((lexS t).2.2.2) == 0))) && (((((lexS t).1.length : Nat) : Int) == 2) && (((((lexS t).1).getD 0 default).text) == t)) is false
            have h9k := h9; simp only [Bool.and_eq_true, Bool.or_eq_true, Bool.and_eq_false_iff, Bool.or_eq_false_iff, decide_eq_true_eq, decide_eq_false_iff_not, beq_iff_eq, bne_iff_ne, ne_eq, Bool.not_eq_true', Bool.not_eq_false', beq_eq_false_iff_ne, bne_eq_false_iff_eq] at h9k
            refine AOps.runN hT (fun _ => false) 15 [2] (fr' := ⟨[(2, .bool ((isWordS t) == false))], [[.int .i64 ((lexS t).2.1), .int .i64 ((lexS t).2.2.1), .int .i64 ((lexS t).2.2.2)]], [], [], 0⟩) (σ' := σ) (ob := True ∧ True ∧ True ∧ True) (by kernel_rfl) ⟨trivial, trivial, trivial, trivial⟩ ?_
            refine AOps.weak [2] (AOps.nil ⟨rfl, rfl⟩)
          · -- ((((lexS t).2.1) == 0) && ((((lexS t).2.2.1) == 0) && (((lexS t).2.2.2) == 0))) && (((((lexS t).1.length : Nat) : Int) == 2) && (((((lexS t).1).getD 0 default).text) == t)) is true
            have h9k := h9; simp only [Bool.and_eq_true, Bool.or_eq_true, Bool.and_eq_false_iff, Bool.or_eq_false_iff, decide_eq_true_eq, decide_eq_false_iff_not, beq_iff_eq, bne_iff_ne, ne_eq, Bool.not_eq_true', Bool.not_eq_false', beq_eq_false_iff_ne, bne_eq_false_iff_eq] at h9k
            refine AOps.runN hT (fun _ => false) 2 [5, 57, 59, 61] (fr' := ⟨[(5, .slice (toksAV (lexS t).1) ((lexS t).1.length) own), (57, .bool (isWordS t)), (59, .bool true), (61, .dat (((toksAV (lexS t).1 : List AV).drop (0 * 5)).take 5))], [[.int .i64 ((lexS t).2.1), .int .i64 ((lexS t).2.2.1), .int .i64 ((lexS t).2.2.2)]], [], [], 0⟩) (σ' := σ) (ob := True ∧ (0 ≤ (0 : Int) ∧ (0 : Int) < ((lexS t).1.length : Nat) ∧ 0 * 5 ≤ (toksAV (lexS t).1 : List AV).length) ∧ True) (by kernel_rfl) ⟨trivial, (by rw [toksAV_length]; omega), trivial⟩ ?_
            rw [toksAV_at ((lexS t).1) 0 (by omega)]
            refine AOps.runN hT (fun _ => false) 4 [5, 57, 59, 65] (fr' := ⟨[(5, .slice (toksAV (lexS t).1) ((lexS t).1.length) own), (57, .bool (isWordS t)), (59, .bool true), (65, .bool (((((lexS t).1).getD 0 default).kind) == 1))], [[.int .i64 ((lexS t).2.1), .int .i64 ((lexS t).2.2.1), .int .i64 ((lexS t).2.2.2)]], [], [], 0⟩) (σ' := σ) (ob := (0 ≤ ([.int .i64 ((((lexS t).1).getD 0 default).kind), .str ((((lexS t).1).getD 0 default).text), .int .u64 ((((lexS t).1).getD 0 default).n), .int .i64 ((((lexS t).1).getD 0 default).line), .int .i64 ((((lexS t).1).getD 0 default).col)] : List AV).length) ∧ True ∧ True ∧ True ∧ True) (by kernel_rfl) ⟨(by simp), trivial, trivial, trivial, trivial⟩ ?_
            cases h10 : (((((lexS t).1).getD 0 default).kind) == 1)
            · -- ((((lexS t).1).getD 0 default).kind) == 1 is false
              have h10k := ne_of_beq_false h10
              refine AOps.runN hT (fun _ => false) 2 [57, 59, 65, 67] (fr' := ⟨[(57, .bool (isWordS t)), (59, .bool true), (65, .bool false), (67, .dat (((toksAV (lexS t).1 : List AV).drop (0 * 5)).take 5))], [[.int .i64 ((lexS t).2.1), .int .i64 ((lexS t).2.2.1), .int .i64 ((lexS t).2.2.2)]], [], [], 0⟩) (σ' := σ) (ob := True ∧ (0 ≤ (0 : Int) ∧ (0 : Int) < ((lexS t).1.length : Nat) ∧ 0 * 5 ≤ (toksAV (lexS t).1 : List AV).length) ∧ True) (by kernel_rfl) ⟨trivial, (by rw [toksAV_length]; omega), trivial⟩ ?_
              rw [toksAV_at ((lexS t).1) 0 (by omega)]
              refine AOps.runN hT (fun _ => false) 7 [2] (fr' := ⟨[(2, .bool ((isWordS t) == (((((lexS t).1).getD 0 default).kind) == 2)))], [[.int .i64 ((lexS t).2.1), .int .i64 ((lexS t).2.2.1), .int .i64 ((lexS t).2.2.2)]], [], [], 0⟩) (σ' := σ) (ob := (0 ≤ ([.int .i64 ((((lexS t).1).getD 0 default).kind), .str ((((lexS t).1).getD 0 default).text), .int .u64 ((((lexS t).1).getD 0 default).n), .int .i64 ((((lexS t).1).getD 0 default).line), .int .i64 ((((lexS t).1).getD 0 default).col)] : List AV).length) ∧ True ∧ True ∧ True ∧ True ∧ True ∧ True ∧ True) (by kernel_rfl) ⟨(by simp), trivial, trivial, trivial, trivial, trivial, trivial, trivial⟩ ?_
              refine AOps.weak [2] (AOps.nil ⟨rfl, rfl⟩)
            · -- ((((lexS t).1).getD 0 default).kind) == 1 is true
              have h10k := eq_of_beq h10
              refine AOps.runN hT (fun _ => false) 9 [2] (fr' := ⟨[(2, .bool ((isWordS t) == true))], [[.int .i64 ((lexS t).2.1), .int .i64 ((lexS t).2.2.1), .int .i64 ((lexS t).2.2.2)]], [], [], 0⟩) (σ' := σ) (ob := True ∧ True ∧ True ∧ True ∧ True) (by kernel_rfl) ⟨trivial, trivial, trivial, trivial, trivial⟩ ?_
              refine AOps.weak [2] (AOps.nil ⟨rfl, rfl⟩)
        · -- isNameS t is true
          skip
          refine AOps.runN hT (fun _ => false) 4 [5, 57, 59] (fr' := ⟨[(5, .slice (toksAV (lexS t).1) ((lexS t).1.length) own), (57, .bool true), (59, .bool (((((lexS t).2.1) == 0) && ((((lexS t).2.2.1) == 0) && (((lexS t).2.2.2) == 0))) && (((((lexS t).1.length : Nat) : Int) == 2) && (((((lexS t).1).getD 0 default).text) == t))))], [[.int .i64 ((lexS t).2.1), .int .i64 ((lexS t).2.2.1), .int .i64 ((lexS t).2.2.2)]], [], [], 0⟩) (σ' := σ) (ob := True ∧ True ∧ True ∧ True) (by kernel_rfl) ⟨trivial, trivial, trivial, trivial⟩ ?_
          cases h11 : (((((lexS t).2.1) == 0) && ((((lexS t).2.2.1) == 0) && (((lexS t).2.2.2) == 0))) && (((((lexS t).1.length : Nat) : Int) == 2) && (((((lexS t).1).getD 0 default).text) == t)))
          · -- ((((lexS t).2.1) == 0) && ((((lexS t).2.2.1) == 0) && (((lexS t).2.2.2) == 0))) && (((((lexS t).1.length : Nat) : Int) == 2) && (((((lexS t).1).getD 0 default).text) == t)) is false
            have h11k := h11; simp only [Bool.and_eq_true, Bool.or_eq_true, Bool.and_eq_false_iff, Bool.or_eq_false_iff, decide_eq_true_eq, decide_eq_false_iff_not, beq_iff_eq, bne_iff_ne, ne_eq, Bool.not_eq_true', Bool.not_eq_false', beq_eq_false_iff_ne, bne_eq_false_iff_eq] at h11k
            refine AOps.runN hT (fun _ => false) 15 [2] (fr' := ⟨[(2, .bool false)], [[.int .i64 ((lexS t).2.1), .int .i64 ((lexS t).2.2.1), .int .i64 ((lexS t).2.2.2)]], [], [], 0⟩) (σ' := σ) (ob := True ∧ True ∧ True ∧ True) (by kernel_rfl) ⟨trivial, trivial, trivial, trivial⟩ ?_
            refine AOps.weak [2] (AOps.nil ⟨rfl, rfl⟩)
          · -- ((((lexS t).2.1) == 0) && ((((lexS t).2.2.1) == 0) && (((lexS t).2.2.2) == 0))) && (((((lexS t).1.length : Nat) : Int) == 2) && (((((lexS t).1).getD 0 default).text) == t)) is true
            have h11k := h11; simp only [Bool.and_eq_true, Bool.or_eq_true, Bool.and_eq_false_iff, Bool.or_eq_false_iff, decide_eq_true_eq, decide_eq_false_iff_not, beq_iff_eq, bne_iff_ne, ne_eq, Bool.not_eq_true', Bool.not_eq_false', beq_eq_false_iff_ne, bne_eq_false_iff_eq] at h11k
            refine AOps.runN hT (fun _ => false) 2 [5, 57, 59, 61] (fr' := ⟨[(5, .slice (toksAV (lexS t).1) ((lexS t).1.length) own), (57, .bool true), (59, .bool true), (61, .dat (((toksAV (lexS t).1 : List AV).drop (0 * 5)).take 5))], [[.int .i64 ((lexS t).2.1), .int .i64 ((lexS t).2.2.1), .int .i64 ((lexS t).2.2.2)]], [], [], 0⟩) (σ' := σ) (ob := True ∧ (0 ≤ (0 : Int) ∧ (0 : Int) < ((lexS t).1.length : Nat) ∧ 0 * 5 ≤ (toksAV (lexS t).1 : List AV).length) ∧ True) (by kernel_rfl) ⟨trivial, (by rw [toksAV_length]; omega), trivial⟩ ?_
            rw [toksAV_at ((lexS t).1) 0 (by omega)]
            refine AOps.runN hT (fun _ => false) 4 [5, 57, 59, 65] (fr' := ⟨[(5, .slice (toksAV (lexS t).1) ((lexS t).1.length) own), (57, .bool true), (59, .bool true), (65, .bool (((((lexS t).1).getD 0 default).kind) == 1))], [[.int .i64 ((lexS t).2.1), .int .i64 ((lexS t).2.2.1), .int .i64 ((lexS t).2.2.2)]], [], [], 0⟩) (σ' := σ) (ob := (0 ≤ ([.int .i64 ((((lexS t).1).getD 0 default).kind), .str ((((lexS t).1).getD 0 default).text), .int .u64 ((((lexS t).1).getD 0 default).n), .int .i64 ((((lexS t).1).getD 0 default).line), .int .i64 ((((lexS t).1).getD 0 default).col)] : List AV).length) ∧ True ∧ True ∧ True ∧ True) (by kernel_rfl) ⟨(by simp), trivial, trivial, trivial, trivial⟩ ?_
            cases h12 : (((((lexS t).1).getD 0 default).kind) == 1)
            · -- ((((lexS t).1).getD 0 default).kind) == 1 is false
              have h12k := ne_of_beq_false h12
              refine AOps.runN hT (fun _ => false) 2 [57, 59, 65, 67] (fr' := ⟨[(57, .bool true), (59, .bool true), (65, .bool false), (67, .dat (((toksAV (lexS t).1 : List AV).drop (0 * 5)).take 5))], [[.int .i64 ((lexS t).2.1), .int .i64 ((lexS t).2.2.1), .int .i64 ((lexS t).2.2.2)]], [], [], 0⟩) (σ' := σ) (ob := True ∧ (0 ≤ (0 : Int) ∧ (0 : Int) < ((lexS t).1.length : Nat) ∧ 0 * 5 ≤ (toksAV (lexS t).1 : List AV).length) ∧ True) (by kernel_rfl) ⟨trivial, (by rw [toksAV_length]; omega), trivial⟩ ?_
              rw [toksAV_at ((lexS t).1) 0 (by omega)]
              refine AOps.runN hT (fun _ => false) 7 [2] (fr' := ⟨[(2, .bool (true == (((((lexS t).1).getD 0 default).kind) == 2)))], [[.int .i64 ((lexS t).2.1), .int .i64 ((lexS t).2.2.1), .int .i64 ((lexS t).2.2.2)]], [], [], 0⟩) (σ' := σ) (ob := (0 ≤ ([.int .i64 ((((lexS t).1).getD 0 default).kind), .str ((((lexS t).1).getD 0 default).text), .int .u64 ((((lexS t).1).getD 0 default).n), .int .i64 ((((lexS t).1).getD 0 default).line), .int .i64 ((((lexS t).1).getD 0 default).col)] : List AV).length) ∧ True ∧ True ∧ True ∧ True ∧ True ∧ True ∧ True) (by kernel_rfl) ⟨(by simp), trivial, trivial, trivial, trivial, trivial, trivial, trivial⟩ ?_
              refine AOps.weak [2] (AOps.nil ⟨rfl, rfl⟩)
            · -- ((((lexS t).1).getD 0 default).kind) == 1 is true
              have h12k := eq_of_beq h12
              refine AOps.runN hT (fun _ => false) 9 [2] (fr' := ⟨[(2, .bool true)], [[.int .i64 ((lexS t).2.1), .int .i64 ((lexS t).2.2.1), .int .i64 ((lexS t).2.2.2)]], [], [], 0⟩) (σ' := σ) (ob := True ∧ True ∧ True ∧ True ∧ True) (by kernel_rfl) ⟨trivial, trivial, trivial, trivial, trivial⟩ ?_
              refine AOps.weak [2] (AOps.nil ⟨rfl, rfl⟩)
      -- on
      refine ACode.ret ?_
      refine retQ.ret (.bool (bif isNameS t then (((((lexS t).2.1) == 0) && ((((lexS t).2.2.1) == 0) && (((lexS t).2.2.2) == 0))) && (((((lexS t).1.length : Nat) : Int) == 2) && (((((lexS t).1).getD 0 default).text) == t))) && ((((((lexS t).1).getD 0 default).kind) == 1) || (true == (((((lexS t).1).getD 0 default).kind) == 2))) else bif ((((lexS t).2.1) == 0) && ((((lexS t).2.2.1) == 0) && (((lexS t).2.2.2) == 0))) && (((((lexS t).1.length : Nat) : Int) == 2) && (((((lexS t).1).getD 0 default).text) == t)) then bif ((((lexS t).1).getD 0 default).kind) == 1 then (isWordS t) == true else (isWordS t) == (((((lexS t).1).getD 0 default).kind) == 2) else (isWordS t) == false)) (by kernel_rfl) ?_
      refine ⟨rfl, ?_⟩
      have e := names_plain t (by omega)
      unfold oneTok at e
      congr 2
      revert e
      generalize isNameS t = x1
      generalize isWordS t = x2
      generalize ((lexS t).2.1 == 0) = x3
      generalize ((lexS t).2.2.1 == 0) = x4
      generalize ((lexS t).2.2.2 == 0) = x5
      generalize ((((lexS t).1.length : Nat) : Int) == 2) = x6
      generalize (((lexS t).1.getD 0 default).text == t) = x7
      generalize (((lexS t).1.getD 0 default).kind == 1) = x8
      generalize (((lexS t).1.getD 0 default).kind == 2) = x9
      revert x1 x2 x3 x4 x5 x6 x7 x8 x9
      decide

end Go.AE

/- The rows of the lexer's laws: what the listed variables give, one start that fits, from a call that answers true to the row. -/
set_option linter.unusedVariables false
set_option linter.unusedSimpArgs false
namespace Go.Proofs.YtjdbmjllhmmddaaDoor
open Go.AE Go.ChangeShapes Go.WideShapes Go.ChangeAt Go.RowKit

theorem own : ownKnob Tryd.prog.godebug = none := by kernel_rfl
theorem gA : Tryd.prog.globalNamed "math/bits.deBruijn32tab" = some 4 := by kernel_rfl
theorem gB : Tryd.prog.globalNamed "math/bits.deBruijn64tab" = some 5 := by kernel_rfl
theorem gC : Tryd.prog.globalNamed "internal/strconv.uint64pow10" = some 3 := by kernel_rfl
theorem gD : Tryd.prog.globalNamed "strconv.ErrRange" = some 2 := by kernel_rfl
theorem gE : Tryd.prog.globalNamed "strconv.ErrSyntax" = some 1 := by kernel_rfl
theorem tyC : (Tryd.prog.globals[3]?).map (·.type) = some 138 := by kernel_rfl
theorem tyD : (Tryd.prog.globals[2]?).map (·.type) = some 95 := by kernel_rfl
theorem tyE : (Tryd.prog.globals[1]?).map (·.type) = some 95 := by kernel_rfl
theorem c138 : Tryd.prog.cellsOf 138 = 20 := by kernel_rfl
theorem c31 : Tryd.prog.cellsOf 31 = 1 := by kernel_rfl
theorem c95 : Tryd.prog.cellsOf 95 = 1 := by kernel_rfl
theorem star : "*" ++ "errors.errorString" = "*errors.errorString" := by decide
theorem row145 (u : TypeId) (h : Tryd.prog.typeName? 3 u = some "*errors.errorString") : u = 145 :=
  typeName_ptr_named (nm := "errors.errorString") (by rw [star]; kernel_rfl) (by kernel_rfl) (by decide) u (by rw [star]; exact h)

theorem gat_of_cells {W : World} {g : Nat} {cs : List AV} {vs : Array Value} (hv : ∃ e f, W.heap[g]? = some (.cells vs e f)) (hl : cs.length = vs.size) (h1 : ∀ x ∈ vs.toList, x.oneCell' = true) (hc : CRs (viewOf W) cs vs.toList) : GAt (viewOf W) g cs := by
  obtain ⟨e, f, hh⟩ := hv
  refine (show CR (viewOf W) (.dat cs) _ from ?_)
  simp only [CR]
  refine ⟨g, 0, rfl, lt_of_heap hh, ?_, ?_⟩
  · simp [viewOf, hh, hl]
  · refine CRat_of_list hc h1 fun j v hj => ?_
    show W.cell? _ = _
    rw [Nat.zero_add]
    simpa [World.cell?, hh] using hj

/-- A listed error. -/
theorem sentinel_cell {W : World} {g fuel : Nat} {cs : Array Value} {y : DataW Unit} {p : List MemPlace} {name : String} (hg : Tryd.prog.globalNamed name = some g) (hv : W.var? Tryd.prog name = some cs)
    (hd : DataW.trod (fun _ => ()) Tryd.prog W 0 (fun _ => true) false fuel 95 cs.toList = some (.iface "*errors.errorString" y, p)) : GAt (viewOf W) g [.iface 145 .any] := by
  have hu : Tryd.prog.underlying 95 = some (.interface _) := Tryd.underlying95
  have hcell : ∃ e f, W.heap[g]? = some (.cells cs e f) := by
    unfold World.var? at hv
    rw [hg] at hv
    simp only [Option.bind_some] at hv
    split at hv
    · rename_i c e f hh; injection hv with hv; subst hv; exact ⟨e, f, hh⟩
    · cases hv
  have hcs : ∃ x, cs.toList = [.iface 145 x] := by
    cases fuel with
    | zero => simp [DataW.trod] at hd
    | succ fuel =>
      generalize cs.toList = l at hd
      rcases l with _ | ⟨v, _ | ⟨v2, l⟩⟩
      · simp [DataW.trod, hu] at hd
      · cases v with
        | iface u v =>
          simp only [DataW.trod, hu] at hd
          cases hn : Tryd.prog.typeName? 3 u with
          | none => simp [hn] at hd
          | some nm =>
            simp only [hn, Option.map_eq_some_iff, Prod.mk.injEq, DataW.iface.injEq] at hd
            obtain ⟨a, _, ⟨rfl, _⟩, _⟩ := hd
            obtain rfl := row145 u hn
            exact ⟨v, rfl⟩
        | _ => simp [DataW.trod, hu] at hd
      · simp [DataW.trod, hu] at hd
  obtain ⟨x, hx⟩ := hcs
  have hsz : cs.size = 1 := by rw [← Array.length_toList, hx]; rfl
  exact gat_of_cells hcell (by rw [hsz]; rfl) (by rw [hx]; simp [Value.oneCell']) (by rw [hx]; simp [CRs, CR])

theorem gok {W : World} (hL : laidMetH Tryd.prog Rows.lexNamesRow.laid W) (hsh : W.ShapedOpen Tryd.prog) : GOK (viewOf W) := by
  rw [MakeChecks.laidMetH_plain _ _ _ (by kernel_rfl)] at hL
  obtain ⟨ps, ⟨g0, t0, cs0, f0, p0, q0, hg0, ht0, hv0, hd0, ⟨g1, t1, cs1, f1, p1, q1, hg1, ht1, hv1, hd1, ⟨g2, t2, cs2, f2, p2, q2, hg2, ht2, hv2, hd2, ⟨g3, t3, cs3, f3, p3, q3, hg3, ht3, hv3, hd3, ⟨g4, t4, cs4, f4, p4, q4, hg4, ht4, hv4, hd4, _, _⟩, _⟩, _⟩, _⟩, _⟩, _, _⟩ := hL
  obtain rfl := Option.some.inj (gC.symm.trans hg2)
  obtain rfl := Option.some.inj (gD.symm.trans hg3)
  obtain rfl := Option.some.inj (gE.symm.trans hg4)
  obtain rfl := Option.some.inj (tyC.symm.trans ht2)
  obtain rfl := Option.some.inj (tyD.symm.trans ht3)
  obtain rfl := Option.some.inj (tyE.symm.trans ht4)
  refine ⟨⟨sentinel_cell gE hv4 hd4, sentinel_cell gD hv3 hd3, ?_, trivial⟩, ?_⟩
  · have hc := Lib.cells_of_tab (zs := Lib.pow10Tab) Tryd.underlying138 Tryd.underlying31 c31 c138 hd2
    have hcell : ∃ e f, W.heap[3]? = some (.cells cs2 e f) := by
      unfold World.var? at hv2
      rw [gC] at hv2
      simp only [Option.bind_some] at hv2
      split at hv2
      · rename_i c e f hh; injection hv2 with hv2; subst hv2; exact ⟨e, f, hh⟩
      · cases hv2
    have e20 : Lib.pow10Tab = [1, 10, 100, 1000, 10000, 100000, 1000000, 10000000, 100000000, 1000000000, 10000000000, 100000000000, 1000000000000, 10000000000000, 100000000000000, 1000000000000000, 10000000000000000, 100000000000000000, 1000000000000000000, 10000000000000000000] := by decide
    have hsz : cs2.size = 20 := by rw [← Array.length_toList, hc]; rfl
    refine gat_of_cells hcell (by rw [hsz]; rfl) (by rw [hc, e20]; simp [Value.oneCell']) (by rw [hc, e20]; simp [CRs, CR])
  · intro x hx
    have : x = 0 := by simpa [theInt] using hx
    subst this
    have hg6 : 0 < Tryd.prog.globals.size := by rw [show Tryd.prog.globals.size = 6 by kernel_rfl]; decide
    obtain ⟨m, hm⟩ := cell_of_shapedOpen_int (g := 0) (t := 3) (zero := #[.int .i64 0]) (k := .i64) hsh hg6 (by kernel_rfl) rfl (by kernel_rfl) (by kernel_rfl) Tryd.underlying3
    refine ⟨m, ?_⟩
    have hm2 : ∃ c e f, W.heap[0]? = some (.cells c e f) ∧ c[0]? = some (.int .i64 m) := by
      unfold World.cell? at hm
      simp only at hm
      split at hm
      · rename_i c e f hh; exact ⟨c, e, f, hh, by simpa using hm⟩
      · cases hm
    obtain ⟨c, e, f, hh, hc⟩ := hm2
    refine (show CR (viewOf W) (.dat _) _ from ?_)
    simp only [CR]
    refine ⟨0, 0, rfl, lt_of_heap hh, ?_, ?_⟩
    · have := (Array.getElem?_eq_some_iff.1 hc).1
      simp [viewOf, hh]; omega
    · simp only [CRat, CR, and_true]
      exact ⟨_, hm, rfl, rfl⟩
end Go.Proofs.YtjdbmjllhmmddaaDoor

/- From a call that answers true, and turns nothing of what was there, to the row's condition behind the call. -/
set_option linter.unusedVariables false
namespace Go
open Go.RowKit Go.ChangeShapes Go.ChangeAt
variable {H : Type} {enc : TypeId × Value → H} {P : Program}
theorem post_of_below {f : Func} {s : ChangeSpec} {apart fresh handsOn again : Bool} {W W' : World} {args : Array Value} {v : Value} {ds gs : List (DataW H)} {before pa pv : List MemPlace}
    (hW : DataW.Whole enc P f.params.toList s.vars apart W args.toList ds gs before)
    (hres : ∀ (b : Nat) (sp : Nat → Bool) (hd : Bool), DataW.TrodAll enc P W' b sp hd f.resultTypes.toList (v.resultList f.resultTypes.size) (s.fn H (ds ++ gs)).results [])
    (hargs : ∀ sp : Nat → Bool, (∀ p ∈ before, sp p.block = true) → DataW.TrodAll enc P W' 0 sp true f.params.toList args.toList (s.fn H (ds ++ gs)).args pa)
    (hvars : ∀ sp : Nat → Bool, (∀ p ∈ before, sp p.block = true) → DataW.TrodVars enc P W' sp s.vars (s.fn H (ds ++ gs)).vars pv)
    (hps : before = pa ++ pv) (hb : Below W.heap.size W W')
    (hok : ∀ (j : Nat) (t : TypeId) (r : Value), f.resultTypes[j]? = some t → (v.resultList f.resultTypes.size)[j]? = some r → Value.okWide P W' .any 0 t r) :
    s.post enc P f apart fresh handsOn again W args v W' := by
  have hold : ∀ p ∈ before, (fun b => decide (b < W.heap.size)) p.block = true := fun p hp => by simpa using hW.lt p hp
  have hlt : ∀ p ∈ before, p.block < W.heap.size := fun p hp => hW.lt p hp
  refine ⟨ds, gs, before, [], pa, pv, hW, hres _ _ _, hargs _ hold, hvars _ hold, World.keptBut_mono (fun p hp => ⟨hp, ?_⟩) (hb.frame (· ∈ before)), fun _ => ?_⟩
  · rw [hps, List.mem_append] at hp
    exact Or.inr hp
  · obtain ⟨_, _, _, _, _, hz, hn⟩ := hW
    refine ⟨hok, _, _, ([] ++ pa) ++ pv, ⟨[] ++ pa, pv, trodAll_append (hargs _ (fun _ _ => rfl)) (hres _ _ _), hvars _ (fun _ _ => rfl), rfl, ?_, ?_⟩, ?_⟩
    · intro b off hp
      have hp' : MemPlace.cell b off ∈ before := by rw [hps]; simpa using hp
      rw [hb.frozen (p := ⟨b, off, none⟩) (hlt _ hp')]
      exact hz b off hp'
    · intro ha
      have := hn ha
      rw [hps] at this
      simpa using this
    · intro p hp _
      rw [hps]
      simpa using hp
end Go

