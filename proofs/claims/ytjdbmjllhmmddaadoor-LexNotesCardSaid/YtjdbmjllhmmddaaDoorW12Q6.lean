/- Parts of the proof of a law, in build order: W10, LexR, LexT, W11, LexU, LexV. -/
import Derived.Test.YtjdbmjllhmmddaaDoorW12Q5
import Derived.IntWalk
set_option maxRecDepth 2000
set_option linter.unusedVariables false
set_option linter.unusedSimpArgs false
set_option linter.unusedVariables false
set_option linter.unusedSimpArgs false
set_option maxRecDepth 4000
namespace Go.AE
open Go.Proofs

def wordsL : List (List UInt8) := [[114, 101, 99, 111, 114, 100], [103, 108, 111, 98, 97, 108], [102, 117, 110], [116, 104, 114, 101, 97, 100], [108, 101, 116], [118, 97, 114], [115, 101, 116], [112, 114, 105, 110, 116], [105, 102], [101, 108, 115, 101], [108, 111, 111, 112], [98, 114, 101, 97, 107], [99, 111, 110, 116, 105, 110, 117, 101], [97, 116, 111, 109, 105, 99], [99, 97, 108, 108], [108, 111, 97, 100], [110, 101, 119], [115, 105, 122, 101], [105, 110, 116], [114, 101, 97, 108], [105, 110, 116, 115], [110, 105, 108], [105, 110, 112, 117, 116], [116, 114, 117, 110, 99]]
def strsAV (l : List (List UInt8)) : List AV := l.map .str
theorem strsAV_at (l : List (List UInt8)) (j : Nat) (h : j < l.length) : ((strsAV l).drop (j * 1)).take 1 = [.str (l.getD j [])] := by
  rw [Nat.mul_one, List.take_one, List.head?_drop, strsAV, List.getElem?_map, List.getElem?_eq_getElem h]
  simp [List.getD, h]
theorem strsAV_length (l : List (List UInt8)) : (strsAV l).length = l.length := by simp [strsAV]
theorem wordsL_length : wordsL.length = 24 := rfl
theorem any_succ (l : List (List UInt8)) (p : List UInt8 → Bool) (i : Nat) (h : i < l.length) : (l.take (i + 1)).any p = ((l.take i).any p || p (l.getD i [])) := by
  rw [List.take_add_one, List.getElem?_eq_getElem h, List.any_append]; simp [List.getD, h]
def refWord (t : List UInt8) : Bool := wordsL.any (fun w => w == t)
def refName (t : List UInt8) : Bool := (!(t == [])) && (!refWord t) && letterB (t.getD 0 0) && t.all wordB

theorem words_walk  (σ : St)  : ACalls Tryd.prog 25 [] σ (fun e s => σ = s ∧ e = .ret (.slice (strsAV wordsL) 24 .exact)) := by
  refine ACalls.enter hT Tryd.func25 rfl (by kernel_rfl) ?_
  refine ACode.seq ?_
  refine ACode.run hT (fun _ => false) [] (fr' := ⟨[], [], [], [], 0⟩) (σ' := σ) (ob := True ∧ True) (by kernel_rfl) ⟨trivial, trivial⟩ ?_
  refine ACode.seq ?_
  refine ACode.run hT (fun _ => false) [0] (fr' := ⟨[(0, .slice [.str [114, 101, 99, 111, 114, 100], .str [103, 108, 111, 98, 97, 108], .str [102, 117, 110], .str [116, 104, 114, 101, 97, 100], .str [108, 101, 116], .str [118, 97, 114], .str [115, 101, 116], .str [112, 114, 105, 110, 116], .str [105, 102], .str [101, 108, 115, 101], .str [108, 111, 111, 112], .str [98, 114, 101, 97, 107], .str [99, 111, 110, 116, 105, 110, 117, 101], .str [97, 116, 111, 109, 105, 99], .str [99, 97, 108, 108], .str [108, 111, 97, 100], .str [110, 101, 119], .str [115, 105, 122, 101], .str [105, 110, 116], .str [114, 101, 97, 108], .str [105, 110, 116, 115], .str [110, 105, 108], .str [105, 110, 112, 117, 116], .str [116, 114, 117, 110, 99]] 24 .exact)], [], [], [], 0⟩) (σ' := σ) (ob := True ∧ True ∧ True) (by kernel_rfl) ⟨trivial, trivial, trivial⟩ ?_
  refine ACode.ret ?_
  exact retQ.ret (.slice [.str [114, 101, 99, 111, 114, 100], .str [103, 108, 111, 98, 97, 108], .str [102, 117, 110], .str [116, 104, 114, 101, 97, 100], .str [108, 101, 116], .str [118, 97, 114], .str [115, 101, 116], .str [112, 114, 105, 110, 116], .str [105, 102], .str [101, 108, 115, 101], .str [108, 111, 111, 112], .str [98, 114, 101, 97, 107], .str [99, 111, 110, 116, 105, 110, 117, 101], .str [97, 116, 111, 109, 105, 99], .str [99, 97, 108, 108], .str [108, 111, 97, 100], .str [110, 101, 119], .str [115, 105, 122, 101], .str [105, 110, 116], .str [114, 101, 97, 108], .str [105, 110, 116, 115], .str [110, 105, 108], .str [105, 110, 112, 117, 116], .str [116, 114, 117, 110, 99]] 24 .exact) (by kernel_rfl) ⟨rfl, rfl⟩
theorem refWord_walk (t : List UInt8) (σ : St)  : ACalls Tryd.prog 14 [.str t] σ (fun e s => σ = s ∧ e = .ret (.bool (refWord t))) := by
  refine ACalls.enter hT Tryd.func14 rfl (by kernel_rfl) ?_
  refine ACode.seq ?_
  refine ACode.run hT (fun _ => false) [0] (fr' := ⟨[(0, .str t)], [], [], [], 0⟩) (σ' := σ) (ob := True ∧ True) (by kernel_rfl) ⟨trivial, trivial⟩ ?_
  refine ACode.seq ?_
  refine ACode.seq ?_
  refine ACode.region ?_
  refine AOps.call (fid := 25) (cap := []) (avs := []) (by kernel_rfl) rfl (by kernel_rfl) (by kernel_rfl) en_25 (by kernel_rfl) (ACalls.mono (words_walk _) ?_)
  rintro _ _ ⟨rfl, rfl⟩
  refine AOps.runN hT (fun _ => false) 2 [0, 5, 6, 7] (fr' := ⟨[(0, .str t), (5, .slice (strsAV wordsL) 24 .exact), (6, .int .i64 24), (7, .int .i64 0)], [], [], [], 0⟩) (σ' := σ) (ob := True ∧ True ∧ True) (by kernel_rfl) ⟨trivial, trivial, trivial⟩ ?_
  refine AOps.nil ?_
  refine ACode.block ?_
  refine ACode.loop [0, 5, 6, 7] 0 0 (fun n0 fr σ' => ∃ (i : Nat), fr = ⟨[(0, .str t), (5, .slice (strsAV wordsL) 24 .exact), (6, .int .i64 24), (7, .int .i64 (i : Int))], [], [], [], 0⟩ ∧ σ = σ' ∧ (i ≤ 24 ∧ (wordsL.take i).any (fun w => w == t) = false) ∧ n0 = 24 - i) _ (by kernel_rfl) ⟨0, rfl, rfl, ⟨Nat.zero_le _, rfl⟩, rfl⟩ ?_
  rintro n0 fr σ' ⟨i, rfl, rfl, ⟨hi, hP⟩, rfl⟩
  refine ACode.seq ?_
  refine ACode.run hT (fun _ => false) [0, 5, 6, 7, 8] (fr' := ⟨[(0, .str t), (5, .slice (strsAV wordsL) 24 .exact), (6, .int .i64 24), (7, .int .i64 (i : Int)), (8, .bool (decide ((i : Int) < 24)))], [], [], [], 0⟩) (σ' := σ) (ob := True ∧ True) (by kernel_rfl) ⟨trivial, trivial⟩ ?_
  refine ACode.seq ?_
  refine ACode.cond (t := decide ((i : Int) < 24)) (by kernel_rfl) (fun h1 => ?_) (fun h1 => ?_)
  · -- true
    have h1k := of_decide_eq_true h1
    refine ACode.skip ?_
    refine ACode.seq ?_
    refine ACode.block ?_
    refine ACode.seq ?_
    refine ACode.region ?_
    refine AOps.runN hT (fun _ => false) 1 [0, 5, 6, 7, 9] (fr' := ⟨[(0, .str t), (5, .slice (strsAV wordsL) 24 .exact), (6, .int .i64 24), (7, .int .i64 (i : Int)), (9, .dat (((strsAV wordsL : List AV).drop (i * 1)).take 1))], [], [], [], 0⟩) (σ' := σ) (ob := (0 ≤ ((i : Int) : Int) ∧ ((i : Int) : Int) < (24 : Nat) ∧ i * 1 ≤ (strsAV wordsL : List AV).length) ∧ True) (by kernel_rfl) ⟨(by rw [strsAV_length, wordsL_length]; omega), trivial⟩ ?_
    rw [strsAV_at wordsL i (by rw [wordsL_length]; omega)]
    refine AOps.runN hT (fun _ => false) 2 [0, 4, 5, 6, 7] (fr' := ⟨[(0, .str t), (4, .str (wordsL.getD i [])), (5, .slice (strsAV wordsL) 24 .exact), (6, .int .i64 24), (7, .int .i64 (i : Int))], [], [], [], 0⟩) (σ' := σ) (ob := True ∧ True ∧ True) (by kernel_rfl) ⟨trivial, trivial, trivial⟩ ?_
    refine AOps.nil ?_
    refine ACode.seq ?_
    refine ACode.run hT (fun _ => false) [0, 5, 6, 7, 13] (fr' := ⟨[(0, .str t), (5, .slice (strsAV wordsL) 24 .exact), (6, .int .i64 24), (7, .int .i64 (i : Int)), (13, .bool ((wordsL.getD i []) == t))], [], [], [], 0⟩) (σ' := σ) (ob := True ∧ True ∧ True ∧ True) (by kernel_rfl) ⟨trivial, trivial, trivial, trivial⟩ ?_
    refine ACode.cond (t := (wordsL.getD i []) == t) (by kernel_rfl) (fun h2 => ?_) (fun h2 => ?_)
    · -- true
      have h2k := eq_of_beq h2
      refine ACode.seq ?_
      refine ACode.run hT (fun _ => false) [2] (fr' := ⟨[(2, .bool true)], [], [], [], 0⟩) (σ' := σ) (ob := True ∧ True) (by kernel_rfl) ⟨trivial, trivial⟩ ?_
      refine ACode.ret ?_
      refine retQ.ret (.bool true) (by kernel_rfl) ?_
      refine ⟨rfl, ?_⟩
      have e9 : refWord t = true := by rw [refWord, List.any_eq_true]; exact ⟨wordsL.getD i [], by rw [List.getD_eq_getElem?_getD, List.getElem?_eq_getElem (by rw [wordsL_length]; omega)]; exact List.getElem_mem _, h2⟩
      rw [e9]
    · -- false
      have h2k := ne_of_beq_false h2
      refine ACode.skip ?_
      refine ACode.run hT (fun _ => false) [0, 5, 6, 7] (fr' := ⟨[(0, .str t), (5, .slice (strsAV wordsL) 24 .exact), (6, .int .i64 24), (7, .int .i64 (IntKind.i64.wrap ((i : Int) + 1)))], [], [], [], 0⟩) (σ' := σ) (ob := True ∧ True ∧ True) (by kernel_rfl) ⟨trivial, trivial, trivial⟩ ?_
      rw [IntWalk.i64_in ((i : Int) + 1) (by omega)]
      refine ⟨by kernel_rfl, _, ?_, i + 1, rfl, rfl, ?_, rfl⟩
      · omega
      · exact ⟨by omega, by rw [any_succ _ _ _ (by rw [wordsL_length]; omega), hP, Bool.false_or]; exact h2⟩
  · -- false
    have h1k := of_decide_eq_false h1
    refine ACode.exit ?_
    refine ACode.seq ?_
    refine ACode.run hT (fun _ => false) [2] (fr' := ⟨[(2, .bool false)], [], [], [], 0⟩) (σ' := σ) (ob := True ∧ True) (by kernel_rfl) ⟨trivial, trivial⟩ ?_
    refine ACode.ret ?_
    refine retQ.ret (.bool false) (by kernel_rfl) ?_
    refine ⟨rfl, ?_⟩
    have e9 : refWord t = false := by rw [refWord, ← hP, List.take_of_length_le (by rw [wordsL_length]; omega)]
    rw [e9]
theorem all_succ (t : List UInt8) (i : Nat) (h : i < t.length) : (t.take (i + 1)).all wordB = ((t.take i).all wordB && wordB (t.getD i 0)) := by
  rw [take_succ_getD t i h, List.all_append]; simp
theorem wordB_of {b : UInt8} (h : ((!letterS (b.toNat : Int)) && (!digitS (b.toNat : Int))) = false) : wordB b = true := by
  unfold wordB letterB digitB
  cases h1 : letterS (b.toNat : Int) <;> cases h2 : digitS (b.toNat : Int) <;> simp_all
theorem not_wordB_of {b : UInt8} (h : ((!letterS (b.toNat : Int)) && (!digitS (b.toNat : Int))) = true) : wordB b = false := by
  unfold wordB letterB digitB
  cases h1 : letterS (b.toNat : Int) <;> cases h2 : digitS (b.toNat : Int) <;> simp_all
theorem refName_of {t : List UInt8} (h : ((t == []) || ((refWord t) || (!(letterS ((t.getD 0 0).toNat : Int))))) = true) : refName t = false := by
  unfold refName letterB
  generalize (t == []) = a at *
  generalize refWord t = b at *
  generalize letterS ((t.getD 0 0).toNat : Int) = c at *
  cases a <;> cases b <;> cases c <;> simp_all
theorem pre_of {t : List UInt8} (h : ((t == []) || ((refWord t) || (!(letterS ((t.getD 0 0).toNat : Int))))) = false) : ((!(t == [])) && (!refWord t) && letterB (t.getD 0 0)) = true := by
  unfold letterB
  generalize (t == []) = a at *
  generalize refWord t = b at *
  generalize letterS ((t.getD 0 0).toNat : Int) = c at *
  cases a <;> cases b <;> cases c <;> simp_all
theorem refName_no (t : List UInt8) (i : Nat) (hi : i < t.length) (h : wordB (t.getD i 0) = false) : refName t = false := by
  have : t.all wordB = false := by
    rw [List.all_eq_false]
    exact ⟨t[i], List.getElem_mem _, by simp [List.getD, hi] at h; simp [h]⟩
  unfold refName
  rw [this, Bool.and_false]
theorem refName_yes (t : List UInt8) (h : ((!(t == [])) && (!refWord t) && letterB (t.getD 0 0)) = true) (h2 : t.all wordB = true) : refName t = true := by
  unfold refName
  rw [h, h2]; rfl

theorem refName_walk (t : List UInt8) (σ : St) (ht : t.length ≤ 9000) : ACalls Tryd.prog 13 [.str t] σ (fun e s => σ = s ∧ e = .ret (.bool (refName t))) := by
  refine ACalls.enter hT Tryd.func13 rfl (by kernel_rfl) ?_
  refine ACode.seq ?_
  refine ACode.run hT (fun _ => false) [0] (fr' := ⟨[(0, .str t)], [], [], [], 0⟩) (σ' := σ) (ob := True ∧ True) (by kernel_rfl) ⟨trivial, trivial⟩ ?_
  refine ACode.seq ?_
  refine ACode.seq ?_
  refine ACode.meet ⟨[(0, .str t), (15, .bool ((t == []) || ((refWord t) || (!(letterS ((t.getD 0 0).toNat : Int))))))], [], [], [], 0⟩ σ (ACode.region ?_) ?_
  ·
    refine AOps.runN hT (fun _ => false) 3 [0, 6] (fr' := ⟨[(0, .str t), (6, .bool (t == []))], [], [], [], 0⟩) (σ' := σ) (ob := True ∧ True ∧ True ∧ True) (by kernel_rfl) ⟨trivial, trivial, trivial, trivial⟩ ?_
    cases h1 : (t == [])
    · -- t == [] is false
      have h1k := ne_of_beq_false h1
      refine AOps.runN hT (fun _ => false) 1 [0, 6, 7] (fr' := ⟨[(0, .str t), (6, .bool false), (7, .str t)], [], [], [], 0⟩) (σ' := σ) (ob := True ∧ True) (by kernel_rfl) ⟨trivial, trivial⟩ ?_
      refine AOps.call (fid := 14) (cap := []) (avs := [.str t]) (by kernel_rfl) rfl (by kernel_rfl) (by kernel_rfl) en_14 (by kernel_rfl) (ACalls.mono (refWord_walk t _) ?_)
      rintro _ _ ⟨rfl, rfl⟩
      refine AOps.runN hT (fun _ => false) 2 [0, 10] (fr' := ⟨[(0, .str t), (10, .bool (refWord t))], [], [], [], 0⟩) (σ' := σ) (ob := True ∧ True ∧ True) (by kernel_rfl) ⟨trivial, trivial, trivial⟩ ?_
      cases h2 : (refWord t)
      · -- refWord t is false
        skip
        refine AOps.runN hT (fun _ => false) 2 [0, 10, 12] (fr' := ⟨[(0, .str t), (10, .bool false), (12, .int .u8 ((t.getD 0 0).toNat : Int))], [], [], [], 0⟩) (σ' := σ) (ob := True ∧ (0 ≤ (0 : Int) ∧ (0 : Int) < ((t) : List UInt8).length) ∧ True) (by kernel_rfl) ⟨trivial, (by first | omega | (have := len1 (l := t) (by assumption); omega)), trivial⟩ ?_
        refine AOps.call (fid := 23) (cap := []) (avs := [.int .u8 ((t.getD 0 0).toNat : Int)]) (by kernel_rfl) rfl (by kernel_rfl) (by kernel_rfl) en_23 (by kernel_rfl) (ACalls.mono (Letter_walk ((t.getD 0 0).toNat : Int) _) ?_)
        rintro _ _ ⟨rfl, rfl⟩
        refine AOps.runN hT (fun _ => false) 2 [0, 15] (fr' := ⟨[(0, .str t), (15, .bool (!(letterS ((t.getD 0 0).toNat : Int))))], [], [], [], 0⟩) (σ' := σ) (ob := True ∧ True ∧ True) (by kernel_rfl) ⟨trivial, trivial, trivial⟩ ?_
        refine AOps.weak [0, 15] (AOps.nil ⟨rfl, rfl⟩)
      · -- refWord t is true
        skip
        refine AOps.runN hT (fun _ => false) 5 [0, 15] (fr' := ⟨[(0, .str t), (15, .bool true)], [], [], [], 0⟩) (σ' := σ) (ob := True ∧ True) (by kernel_rfl) ⟨trivial, trivial⟩ ?_
        refine AOps.weak [0, 15] (AOps.nil ⟨rfl, rfl⟩)
    · -- t == [] is true
      have h1k := eq_of_beq h1
      refine AOps.runN hT (fun _ => false) 9 [0, 15] (fr' := ⟨[(0, .str t), (15, .bool true)], [], [], [], 0⟩) (σ' := σ) (ob := True ∧ True ∧ True ∧ True) (by kernel_rfl) ⟨trivial, trivial, trivial, trivial⟩ ?_
      refine AOps.weak [0, 15] (AOps.nil ⟨rfl, rfl⟩)
  -- on
  refine ACode.cond (t := (t == []) || ((refWord t) || (!(letterS ((t.getD 0 0).toNat : Int))))) (by kernel_rfl) (fun h3 => ?_) (fun h3 => ?_)
  · -- true
    have h3k := h3; simp only [Bool.and_eq_true, Bool.or_eq_true, Bool.and_eq_false_iff, Bool.or_eq_false_iff, decide_eq_true_eq, decide_eq_false_iff_not, beq_iff_eq, bne_iff_ne, ne_eq, Bool.not_eq_true', Bool.not_eq_false', beq_eq_false_iff_ne, bne_eq_false_iff_eq] at h3k
    refine ACode.seq ?_
    refine ACode.run hT (fun _ => false) [2] (fr' := ⟨[(2, .bool false)], [], [], [], 0⟩) (σ' := σ) (ob := True ∧ True) (by kernel_rfl) ⟨trivial, trivial⟩ ?_
    refine ACode.ret ?_
    refine retQ.ret (.bool false) (by kernel_rfl) ?_
    refine ⟨rfl, ?_⟩
    rw [refName_of h3]
  · -- false
    have h3k := h3; simp only [Bool.and_eq_true, Bool.or_eq_true, Bool.and_eq_false_iff, Bool.or_eq_false_iff, decide_eq_true_eq, decide_eq_false_iff_not, beq_iff_eq, bne_iff_ne, ne_eq, Bool.not_eq_true', Bool.not_eq_false', beq_eq_false_iff_ne, bne_eq_false_iff_eq] at h3k
    refine ACode.skip ?_
    refine ACode.seq ?_
    refine ACode.seq ?_
    refine ACode.run hT (fun _ => false) [0, 3] (fr' := ⟨[(0, .str t), (3, .int .i64 0)], [], [], [], 0⟩) (σ' := σ) (ob := True ∧ True) (by kernel_rfl) ⟨trivial, trivial⟩ ?_
    refine ACode.block ?_
    refine ACode.loop [0, 3] 0 0 (fun n0 fr σ' => ∃ (i : Nat), fr = ⟨[(0, .str t), (3, .int .i64 (i : Int))], [], [], [], 0⟩ ∧ σ = σ' ∧ (i ≤ t.length ∧ (t.take i).all wordB = true) ∧ n0 = t.length - i) _ (by kernel_rfl) ⟨0, rfl, rfl, ⟨Nat.zero_le _, rfl⟩, rfl⟩ ?_
    rintro n0 fr σ' ⟨i, rfl, rfl, ⟨hi, hP⟩, rfl⟩
    have hpre := pre_of h3
    refine ACode.seq ?_
    refine ACode.seq ?_
    refine ACode.run hT (fun _ => false) [0, 3, 19] (fr' := ⟨[(0, .str t), (3, .int .i64 (i : Int)), (19, .bool (decide ((i : Int) < (((t) : List UInt8).length : Int))))], [], [], [], 0⟩) (σ' := σ) (ob := True ∧ True ∧ True ∧ True ∧ True) (by kernel_rfl) ⟨trivial, trivial, trivial, trivial, trivial⟩ ?_
    refine ACode.cond (t := decide ((i : Int) < (((t) : List UInt8).length : Int))) (by kernel_rfl) (fun h4 => ?_) (fun h4 => ?_)
    · -- true
      have h4k := of_decide_eq_true h4
      refine ACode.skip ?_
      refine ACode.seq ?_
      refine ACode.block ?_
      refine ACode.seq ?_
      refine ACode.meet ⟨[(0, .str t), (3, .int .i64 (i : Int)), (33, .bool ((!(letterS ((t.getD i 0).toNat : Int))) && (!(digitS ((t.getD i 0).toNat : Int)))))], [], [], [], 0⟩ σ (ACode.region ?_) ?_
      ·
        refine AOps.runN hT (fun _ => false) 3 [0, 3, 24] (fr' := ⟨[(0, .str t), (3, .int .i64 (i : Int)), (24, .int .u8 ((t.getD i 0).toNat : Int))], [], [], [], 0⟩) (σ' := σ) (ob := True ∧ True ∧ (0 ≤ ((i : Int) : Int) ∧ ((i : Int) : Int) < ((t) : List UInt8).length) ∧ True) (by kernel_rfl) ⟨trivial, trivial, (by first | omega | (have := len1 (l := t) (by assumption); omega)), trivial⟩ ?_
        refine AOps.call (fid := 23) (cap := []) (avs := [.int .u8 ((t.getD i 0).toNat : Int)]) (by kernel_rfl) rfl (by kernel_rfl) (by kernel_rfl) en_23 (by kernel_rfl) (ACalls.mono (Letter_walk ((t.getD i 0).toNat : Int) _) ?_)
        rintro _ _ ⟨rfl, rfl⟩
        refine AOps.runN hT (fun _ => false) 2 [0, 3, 27] (fr' := ⟨[(0, .str t), (3, .int .i64 (i : Int)), (27, .bool (!(letterS ((t.getD i 0).toNat : Int))))], [], [], [], 0⟩) (σ' := σ) (ob := True ∧ True ∧ True) (by kernel_rfl) ⟨trivial, trivial, trivial⟩ ?_
        cases h5 : (!(letterS ((t.getD i 0).toNat : Int)))
        · -- !(letterS ((t.getD i 0).toNat : Int)) is false
          have h5k := h5; simp only [Bool.and_eq_true, Bool.or_eq_true, Bool.and_eq_false_iff, Bool.or_eq_false_iff, decide_eq_true_eq, decide_eq_false_iff_not, beq_iff_eq, bne_iff_ne, ne_eq, Bool.not_eq_true', Bool.not_eq_false', beq_eq_false_iff_ne, bne_eq_false_iff_eq] at h5k
          refine AOps.runN hT (fun _ => false) 6 [0, 3, 28, 29, 30, 31, 32, 33] (fr' := ⟨[(0, .str t), (3, .int .i64 (i : Int)), (28, .tuple []), (29, .tuple []), (30, .tuple []), (31, .tuple []), (32, .tuple []), (33, .bool false)], [], [], [], 0⟩) (σ' := σ) (ob := True ∧ True) (by kernel_rfl) ⟨trivial, trivial⟩ ?_
          refine AOps.weak [0, 3, 33] (AOps.nil ⟨rfl, rfl⟩)
        · -- !(letterS ((t.getD i 0).toNat : Int)) is true
          have h5k := h5; simp only [Bool.and_eq_true, Bool.or_eq_true, Bool.and_eq_false_iff, Bool.or_eq_false_iff, decide_eq_true_eq, decide_eq_false_iff_not, beq_iff_eq, bne_iff_ne, ne_eq, Bool.not_eq_true', Bool.not_eq_false', beq_eq_false_iff_ne, bne_eq_false_iff_eq] at h5k
          refine AOps.runN hT (fun _ => false) 3 [0, 3, 27, 28, 29, 30] (fr' := ⟨[(0, .str t), (3, .int .i64 (i : Int)), (27, .bool true), (28, .str t), (29, .int .i64 (i : Int)), (30, .int .u8 ((t.getD i 0).toNat : Int))], [], [], [], 0⟩) (σ' := σ) (ob := True ∧ True ∧ (0 ≤ ((i : Int) : Int) ∧ ((i : Int) : Int) < ((t) : List UInt8).length) ∧ True) (by kernel_rfl) ⟨trivial, trivial, (by first | omega | (have := len1 (l := t) (by assumption); omega)), trivial⟩ ?_
          refine AOps.call (fid := 24) (cap := []) (avs := [.int .u8 ((t.getD i 0).toNat : Int)]) (by kernel_rfl) rfl (by kernel_rfl) (by kernel_rfl) en_24 (by kernel_rfl) (ACalls.mono (Digit_walk ((t.getD i 0).toNat : Int) _) ?_)
          rintro _ _ ⟨rfl, rfl⟩
          refine AOps.runN hT (fun _ => false) 2 [0, 3, 28, 29, 30, 31, 32, 33] (fr' := ⟨[(0, .str t), (3, .int .i64 (i : Int)), (28, .str t), (29, .int .i64 (i : Int)), (30, .int .u8 ((t.getD i 0).toNat : Int)), (31, .bool (digitS ((t.getD i 0).toNat : Int))), (32, .bool (!(digitS ((t.getD i 0).toNat : Int)))), (33, .bool (!(digitS ((t.getD i 0).toNat : Int))))], [], [], [], 0⟩) (σ' := σ) (ob := True ∧ True ∧ True) (by kernel_rfl) ⟨trivial, trivial, trivial⟩ ?_
          refine AOps.weak [0, 3, 33] (AOps.nil ⟨rfl, rfl⟩)
      -- on
      refine ACode.cond (t := (!(letterS ((t.getD i 0).toNat : Int))) && (!(digitS ((t.getD i 0).toNat : Int)))) (by kernel_rfl) (fun h6 => ?_) (fun h6 => ?_)
      · -- true
        have h6k := h6; simp only [Bool.and_eq_true, Bool.or_eq_true, Bool.and_eq_false_iff, Bool.or_eq_false_iff, decide_eq_true_eq, decide_eq_false_iff_not, beq_iff_eq, bne_iff_ne, ne_eq, Bool.not_eq_true', Bool.not_eq_false', beq_eq_false_iff_ne, bne_eq_false_iff_eq] at h6k
        refine ACode.seq ?_
        refine ACode.run hT (fun _ => false) [2] (fr' := ⟨[(2, .bool false)], [], [], [], 0⟩) (σ' := σ) (ob := True ∧ True) (by kernel_rfl) ⟨trivial, trivial⟩ ?_
        refine ACode.ret ?_
        refine retQ.ret (.bool false) (by kernel_rfl) ?_
        refine ⟨rfl, ?_⟩
        rw [refName_no t i (by omega) (not_wordB_of h6)]
      · -- false
        have h6k := h6; simp only [Bool.and_eq_true, Bool.or_eq_true, Bool.and_eq_false_iff, Bool.or_eq_false_iff, decide_eq_true_eq, decide_eq_false_iff_not, beq_iff_eq, bne_iff_ne, ne_eq, Bool.not_eq_true', Bool.not_eq_false', beq_eq_false_iff_ne, bne_eq_false_iff_eq] at h6k
        refine ACode.skip ?_
        refine ACode.run hT (fun _ => false) [0, 3] (fr' := ⟨[(0, .str t), (3, .int .i64 (IntKind.i64.wrap ((i : Int) + 1)))], [], [], [], 0⟩) (σ' := σ) (ob := True ∧ True ∧ True ∧ True) (by kernel_rfl) ⟨trivial, trivial, trivial, trivial⟩ ?_
        rw [IntWalk.i64_in ((i : Int) + 1) (by omega)]
        refine ⟨by kernel_rfl, _, ?_, i + 1, rfl, rfl, ?_, rfl⟩
        · omega
        · exact ⟨by omega, by rw [all_succ _ _ (by omega), hP, Bool.true_and]; exact wordB_of h6⟩
    · -- false
      have h4k := of_decide_eq_false h4
      refine ACode.exit ?_
      refine ACode.seq ?_
      refine ACode.run hT (fun _ => false) [2] (fr' := ⟨[(2, .bool true)], [], [], [], 0⟩) (σ' := σ) (ob := True ∧ True) (by kernel_rfl) ⟨trivial, trivial⟩ ?_
      refine ACode.ret ?_
      refine retQ.ret (.bool true) (by kernel_rfl) ?_
      refine ⟨rfl, ?_⟩
      rw [refName_yes t hpre (by rw [List.take_of_length_le (by omega)] at hP; exact hP)]

end Go.AE

/- Words: what the code looks up in one long text is what the list holds. -/
set_option linter.unusedVariables false
set_option linter.unusedSimpArgs false
namespace Go.AE

/-- Between blanks: what may stand at a place of a text. -/
def between (l : List UInt8) : Option (List UInt8) :=
  match l with
  | [] => none
  | b :: r => if b = 32 then (if (r.takeWhile (fun x => x != 32)).length < r.length then some (r.takeWhile (fun x => x != 32)) else none) else none

theorem takeWhile_app (t l : List UInt8) (h : ∀ x ∈ t, x ≠ 32) : (t ++ 32 :: l).takeWhile (fun x => x != 32) = t := by
  induction t with
  | nil => simp
  | cons x t ih =>
    rw [List.cons_append, List.takeWhile_cons, if_pos (by simpa using h x (by simp)), ih fun y hy => h y (by simp [hy])]

theorem split_at (r : List UInt8) (h : (r.takeWhile (fun x => x != 32)).length < r.length) : ∃ l, r = r.takeWhile (fun x => x != 32) ++ 32 :: l := by
  induction r with
  | nil => simp at h
  | cons x r ih =>
    rw [List.takeWhile_cons] at h ⊢
    by_cases hx : x = 32
    · subst hx; exact ⟨r, by simp⟩
    · rw [if_pos (by simpa using hx)] at h ⊢
      obtain ⟨l, hl⟩ := ih (by simpa using h)
      exact ⟨l, by rw [List.cons_append, ← hl]⟩

theorem between_iff (t l : List UInt8) (h : ∀ x ∈ t, x ≠ 32) : (([32] ++ t) ++ [32]).isPrefixOf l = decide (between l = some t) := by
  rw [Bool.eq_iff_iff, List.isPrefixOf_iff_prefix, decide_eq_true_eq]
  constructor
  · rintro ⟨r, rfl⟩
    simp only [List.append_assoc, List.cons_append, List.nil_append, between, if_true]
    rw [takeWhile_app t r h, if_pos (by simp)]
  · intro hb
    unfold between at hb
    split at hb
    · cases hb
    · rename_i b r
      split at hb
      · rename_i h32
        split at hb
        · rename_i hl
          injection hb with hb
          obtain ⟨l2, hl2⟩ := split_at r hl
          rw [hb] at hl2
          exact ⟨l2, by rw [h32, hl2]; simp⟩
        · cases hb
      · cases hb

theorem contains_iff (s sub : List UInt8) : Lib.contains s sub = true ↔ ∃ i, i ≤ s.length ∧ sub.isPrefixOf (s.drop i) = true := by
  unfold Lib.contains
  rw [decide_eq_true_eq]
  rcases Lib.index_spec s sub with ⟨h1, h2⟩ | ⟨i, h1, h2, h3, _⟩
  · constructor
    · intro h; omega
    · rintro ⟨i, hi, hp⟩
      have := h2 i hi
      rw [Lib.occAt, hp] at this
      cases this
  · exact ⟨fun _ => ⟨i, h2, h3⟩, fun _ => by omega⟩

theorem allBetween : (List.range (wordsB.length + 1)).filterMap (fun i => between (wordsB.drop i)) = wordsL := by decide +kernel
theorem wordsL_ok : wordsL.all (fun w => (!(w == [])) && w.all (fun x => x != 32)) = true := by decide +kernel

theorem no32 (t : List UInt8) : decide (0 ≤ Lib.indexByte t 32) = !(t.all (fun x => x != 32)) := by
  rw [← Lib.contains_iff_indexByte]
  induction t with
  | nil => rfl
  | cons x t ih =>
    rw [List.contains_cons, List.all_cons, ih]
    by_cases hx : x = 32
    · subst hx; simp
    · have : ((32 : UInt8) == x) = false := by simpa using fun h => hx h.symm
      simp [this, hx]

theorem isWordS_eq (t : List UInt8) : isWordS t = refWord t := by
  rw [Bool.eq_iff_iff]
  unfold isWordS refWord
  rw [no32]
  simp only [Bool.and_eq_true, Bool.not_not]
  constructor
  · rintro ⟨⟨_, h2⟩, h3⟩
    have hn : ∀ x ∈ t, x ≠ 32 := fun x hx => by have := List.all_eq_true.1 h2 x hx; simpa using this
    obtain ⟨i, hi, hp⟩ := (contains_iff _ _).1 h3
    rw [between_iff t _ hn, decide_eq_true_eq] at hp
    have hm : t ∈ wordsL := by
      rw [← allBetween]
      exact List.mem_filterMap.2 ⟨i, List.mem_range.2 (by omega), hp⟩
    exact List.any_eq_true.2 ⟨t, hm, by simp⟩
  · intro h
    obtain ⟨w, hw, he⟩ := List.any_eq_true.1 h
    have he := eq_of_beq he
    subst he
    have hok := List.all_eq_true.1 wordsL_ok w hw
    simp only [Bool.and_eq_true] at hok
    have hn : ∀ x ∈ w, x ≠ 32 := fun x hx => by have := List.all_eq_true.1 hok.2 x hx; simpa using this
    refine ⟨hok, (contains_iff _ _).2 ?_⟩
    rw [← allBetween] at hw
    obtain ⟨i, hi, hb⟩ := List.mem_filterMap.1 hw
    exact ⟨i, by have := List.mem_range.1 hi; omega, by rw [between_iff w _ hn, decide_eq_true_eq]; exact hb⟩

theorem isNameS_eq (t : List UInt8) : isNameS t = refName t := by
  unfold isNameS refName
  rw [isWordS_eq]
  cases t with
  | nil => rfl
  | cons b r =>
    simp only [nameC, List.getD_cons_zero, List.all_cons]
    have hb : letterB b = true → wordB b = true := fun h => by simp [wordB, h]
    cases h1 : letterB b <;> cases h2 : wordB b <;> cases h3 : refWord (b :: r) <;> cases h4 : r.all wordB <;> simp_all

end Go.AE

/- LexNames, in plain Lean. -/
set_option linter.unusedVariables false
set_option linter.unusedSimpArgs false
namespace Go.AE

theorem nextT_kind (r : Rd) (h : (nextT r).1.kind = 1 ∨ (nextT r).1.kind = 2) : (isNameS (nextT r).1.text || isWordS (nextT r).1.text) = true ∧ ((nextT r).1.kind = 1 → isNameS (nextT r).1.text = true) ∧ ((nextT r).1.kind = 2 → isWordS (nextT r).1.text = true) := by
  unfold nextT at *
  split at h
  · rename_i hw
    simp only [hw, if_true]
    unfold wordT at *
    dsimp only at *
    split at h
    · rename_i h1; simp [h1]
    · rename_i h1
      split at h
      · rename_i h2; simp [h1, h2]
      · simp at h
  · rename_i hw
    split at h
    · simp [realT] at h
    · unfold signT at h
      split at h
      · simp at h
      · split at h <;> simp at h

/-- What has been read stays in front. -/
theorem lexF_front : ∀ (k : Nat) (r : Rd) (acc : List Tok), (lexF k r acc).2.1 = 0 → ∃ l, (lexF k r acc).1 = acc ++ l
  | 0, r, acc, _ => ⟨[], by simp [lexF]⟩
  | k + 1, r, acc, h => by
    rw [lexF] at h ⊢
    split
    · exact ⟨_, rfl⟩
    · rename_i h1
      rw [if_neg h1] at h
      split
      · rename_i h2
        rw [if_pos h2] at h
        obtain ⟨l, hl⟩ := lexF_front k _ _ h
        exact ⟨(nextT (blankS r)).1 :: l, by rw [hl]; simp⟩
      · rename_i h2
        rw [if_neg h2] at h
        simp at h

theorem u8_all {p : UInt8 → Bool} (h : ∀ n : Fin 256, p (UInt8.ofNat n.val) = true) (b : UInt8) : p b = true := by
  have := h ⟨b.toNat, b.toNat_lt⟩
  simpa using this

theorem wordB_not (b : UInt8) (h : wordB b = true) : blankB b = false ∧ b ≠ 47 ∧ b ≠ 35 := by
  have := u8_all (p := fun b => !(wordB b) || (!(blankB b) && (b != 47) && (b != 35))) (by decide +kernel) b
  rw [h] at this
  simp only [Bool.not_true, Bool.false_or, Bool.and_eq_true, Bool.not_eq_true', bne_iff_ne, ne_eq] at this
  exact ⟨this.1.1, this.1.2, this.2⟩

theorem blankS_word {r : Rd} (hne : r.rest ≠ []) (h : wordB (r.rest.getD 0 0) = true) : blankS r = r := by
  obtain ⟨h1, h2, _⟩ := wordB_not _ h
  unfold blankS
  cases hr : r.rest with
  | nil => exact absurd hr hne
  | cons b l =>
    rw [hr] at h1 h2
    rw [List.getD_cons_zero] at h1 h2
    simp only [List.length_cons]
    rw [blankF, if_neg (by rw [hr]; simp), if_neg, if_neg]
    · rw [hr, List.getD_cons_zero, h1]; simp
    · rw [hr]
      simp [List.isPrefixOf]
      intro h3; exact absurd h3.symm h2

theorem lexS_word (t : List UInt8) (hlen : t.length ≤ 8192) (hne : t ≠ []) (hall : t.all wordB = true) (k : Int) (hk : wordT ⟨t, 1, 1⟩ = (⟨k, t, 0, 1, 1⟩, true)) : ∃ l c, lexS t = ([⟨k, t, 0, 1, 1⟩, ⟨0, [], 0, l, c⟩], 0, 0, 0) := by
  have hw : wordB (t.getD 0 0) = true := by
    cases t with
    | nil => exact absurd rfl hne
    | cons b r => simp only [List.all_cons, Bool.and_eq_true] at hall; simpa using hall.1
  have hn : wordN t = t.length := by
    unfold wordN
    congr 1
    clear hk hlen hne hw
    induction t with
    | nil => rfl
    | cons b r ih =>
      simp only [List.all_cons, Bool.and_eq_true] at hall
      rw [List.takeWhile_cons, if_pos hall.1, ih hall.2]
  have hlt : t.length = (t.length - 1) + 1 := by
    cases t with
    | nil => exact absurd rfl hne
    | cons b r => simp
  have hnx : nextT ⟨t, 1, 1⟩ = (⟨k, t, 0, 1, 1⟩, true) := by unfold nextT; rw [if_pos hw]; exact hk
  have hnr : (nextR ⟨t, 1, 1⟩).rest = [] := by unfold nextR; rw [if_pos hw]; simp [skipS, hn]
  have hb2 : blankS (nextR ⟨t, 1, 1⟩) = nextR ⟨t, 1, 1⟩ := by unfold blankS; rw [hnr]; rfl
  refine ⟨(nextR ⟨t, 1, 1⟩).line, (nextR ⟨t, 1, 1⟩).col, ?_⟩
  unfold lexS
  rw [if_neg (by omega), lexF, blankS_word (r := ⟨t, 1, 1⟩) hne hw, if_neg hne, hnx, if_pos rfl, hlt, lexF, hb2, if_pos hnr]
  rfl

theorem wordsL_word : wordsL.all (fun w => (!(w == [])) && w.all wordB) = true := by decide +kernel

def oneTok (t : List UInt8) : Bool := (((lexS t).2.1 == 0) && (((lexS t).2.2.1 == 0) && ((lexS t).2.2.2 == 0))) && (((((lexS t).1.length : Nat) : Int) == 2) && (((lexS t).1.getD 0 default).text == t))

theorem names_plain (t : List UInt8) (hlen : t.length ≤ 1000) : (isNameS t || isWordS t) = (oneTok t && ((((lexS t).1.getD 0 default).kind == 1) || (((lexS t).1.getD 0 default).kind == 2))) := by
  rw [Bool.eq_iff_iff]
  constructor
  · intro h
    have hall : t ≠ [] ∧ t.all wordB = true := by
      simp only [Bool.or_eq_true] at h
      rcases h with h | h
      · unfold isNameS at h
        simp only [Bool.and_eq_true] at h
        obtain ⟨h1, h2, _⟩ := h
        cases t with
        | nil => simp at h2
        | cons b r =>
          simp only [nameC, Bool.and_eq_true] at h1
          exact ⟨by simp, by simp only [List.all_cons, Bool.and_eq_true]; exact ⟨by simp [wordB, h1.1], h1.2⟩⟩
      · rw [isWordS_eq] at h
        obtain ⟨w, hw, he⟩ := List.any_eq_true.1 h
        have he := eq_of_beq he
        subst he
        have := List.all_eq_true.1 wordsL_word w hw
        simp only [Bool.and_eq_true] at this
        exact ⟨by simpa using this.1, this.2⟩
    have hn : t.take (wordN t) = t := by
      have : ∀ l : List UInt8, l.all wordB = true → l.takeWhile wordB = l := fun l => by
        induction l with
        | nil => intro _; rfl
        | cons b r ih =>
          intro hl
          simp only [List.all_cons, Bool.and_eq_true] at hl
          rw [List.takeWhile_cons, if_pos hl.1, ih hl.2]
      rw [take_wordN, this t hall.2]
    have hk : ∃ k : Int, (k = 1 ∨ k = 2) ∧ wordT ⟨t, 1, 1⟩ = (⟨k, t, 0, 1, 1⟩, true) := by
      unfold wordT
      dsimp only
      rw [hn]
      cases hw : isWordS t with
      | true => exact ⟨2, .inr rfl, rfl⟩
      | false =>
        rw [hw, Bool.or_false] at h
        rw [h]
        exact ⟨1, .inl rfl, rfl⟩
    obtain ⟨k, hk12, hk⟩ := hk
    obtain ⟨l, c, e⟩ := lexS_word t (by omega) hall.1 hall.2 k hk
    unfold oneTok
    rw [e]
    rcases hk12 with rfl | rfl <;> simp
  · intro h
    simp only [oneTok, Bool.and_eq_true, Bool.or_eq_true, beq_iff_eq] at h
    obtain ⟨⟨⟨h0, _, _⟩, h2, ht⟩, hk⟩ := h
    have hs : lexS t = lexF (t.length + 1) ⟨t, 1, 1⟩ [] := by unfold lexS; rw [if_neg (by omega)]
    rw [hs, lexF] at h0 h2 ht hk
    split at h0
    · rename_i h1
      rw [if_pos h1] at h2
      simp at h2
    · rename_i h1
      rw [if_neg h1] at h2 ht hk
      split at h0
      · rename_i h3
        rw [if_pos h3] at h2 ht hk
        obtain ⟨l, hl⟩ := lexF_front _ _ _ h0
        rw [hl] at ht hk
        simp only [List.nil_append, List.cons_append, List.getD_cons_zero] at ht hk
        have := (nextT_kind _ hk).1
        rwa [ht] at this
      · rename_i h3
        rw [if_neg h3] at h2
        simp at h2

end Go.AE

set_option linter.unusedVariables false
set_option linter.unusedSimpArgs false
set_option maxRecDepth 4000
namespace Go.AE
open Go.Proofs

theorem name_not_word (t : List UInt8) : (isNameS t && isWordS t) = false := by
  unfold isNameS
  cases isWordS t <;> simp

theorem lexNames_walk (t : List UInt8) (σ : St)  : ACalls Tryd.prog 3 [.str t] σ (fun e s => σ = s ∧ e = .ret (.bool true)) := by
  refine ACalls.enter hT Tryd.func3 rfl (by kernel_rfl) ?_
  refine ACode.seq ?_
  refine ACode.run hT (fun _ => false) [0] (fr' := ⟨[(0, .str t)], [], [], [], 0⟩) (σ' := σ) (ob := True ∧ True) (by kernel_rfl) ⟨trivial, trivial⟩ ?_
  refine ACode.seq ?_
  refine ACode.seq ?_
  refine ACode.region ?_
  refine AOps.call (fid := 10) (cap := []) (avs := []) (by kernel_rfl) rfl (by kernel_rfl) (by kernel_rfl) en_10 (by kernel_rfl) (ACalls.mono (alive_walk _) ?_)
  rintro _ _ ⟨rfl, rfl⟩
  refine AOps.runN hT (fun _ => false) 1 [0, 9] (fr' := ⟨[(0, .str t), (9, .bool false)], [], [], [], 0⟩) (σ' := σ) (ob := True ∧ True) (by kernel_rfl) ⟨trivial, trivial⟩ ?_
  refine AOps.nil ?_
  refine ACode.cond (t := false) (by kernel_rfl) (fun h => Bool.noConfusion h) (fun _ => ?_)
  refine ACode.skip ?_
  refine ACode.seq ?_
  refine ACode.seq ?_
  refine ACode.run hT (fun _ => false) [0, 12] (fr' := ⟨[(0, .str t), (12, .bool (decide ((((t) : List UInt8).length : Int) > 1000)))], [], [], [], 0⟩) (σ' := σ) (ob := True ∧ True ∧ True ∧ True) (by kernel_rfl) ⟨trivial, trivial, trivial, trivial⟩ ?_
  refine ACode.cond (t := decide ((((t) : List UInt8).length : Int) > 1000)) (by kernel_rfl) (fun h1 => ?_) (fun h1 => ?_)
  · -- true
    have h1k := of_decide_eq_true h1
    refine ACode.seq ?_
    refine ACode.run hT (fun _ => false) [2] (fr' := ⟨[(2, .bool true)], [], [], [], 0⟩) (σ' := σ) (ob := True ∧ True) (by kernel_rfl) ⟨trivial, trivial⟩ ?_
    refine ACode.ret ?_
    refine retQ.ret (.bool true) (by kernel_rfl) ?_
    exact ⟨rfl, rfl⟩
  · -- false
    have h1k := of_decide_eq_false h1
    refine ACode.skip ?_
    refine ACode.seq ?_
    refine ACode.region ?_
    refine AOps.runN hT (fun _ => false) 1 [0, 13] (fr' := ⟨[(0, .str t), (13, .str t)], [], [], [], 0⟩) (σ' := σ) (ob := True ∧ True) (by kernel_rfl) ⟨trivial, trivial⟩ ?_
    refine AOps.call (fid := 11) (cap := []) (avs := [.str t]) (by kernel_rfl) rfl (by kernel_rfl) (by kernel_rfl) en_11 (by kernel_rfl) (ACalls.mono (isName_walk0 t _ (by omega)) ?_)
    rintro _ _ ⟨rfl, rfl⟩
    refine AOps.runN hT (fun _ => false) 1 [0, 14, 15] (fr' := ⟨[(0, .str t), (14, .bool (isNameS t)), (15, .str t)], [], [], [], 0⟩) (σ' := σ) (ob := True ∧ True) (by kernel_rfl) ⟨trivial, trivial⟩ ?_
    refine AOps.call (fid := 12) (cap := []) (avs := [.str t]) (by kernel_rfl) rfl (by kernel_rfl) (by kernel_rfl) en_12 (by kernel_rfl) (ACalls.mono (isWord_walk0 t _ (by omega)) ?_)
    rintro _ _ ⟨rfl, rfl⟩
    refine AOps.runN hT (fun _ => false) 2 [0, 3, 4] (fr' := ⟨[(0, .str t), (3, .bool (isNameS t)), (4, .bool (isWordS t))], [], [], [], 0⟩) (σ' := σ) (ob := True ∧ True ∧ True) (by kernel_rfl) ⟨trivial, trivial, trivial⟩ ?_
    refine AOps.nil ?_
    refine ACode.seq ?_
    refine ACode.seq ?_
    refine ACode.meet ⟨[(0, .str t), (3, .bool (isNameS t)), (4, .bool (isWordS t)), (32, .bool ((!((isNameS t) == (refName t))) || ((!((isWordS t) == (refWord t))) || ((isNameS t) && (isWordS t)))))], [], [], [], 0⟩ σ (ACode.region ?_) ?_
    ·
      refine AOps.runN hT (fun _ => false) 2 [0, 3, 4, 17, 18] (fr' := ⟨[(0, .str t), (3, .bool (isNameS t)), (4, .bool (isWordS t)), (17, .bool (isNameS t)), (18, .str t)], [], [], [], 0⟩) (σ' := σ) (ob := True ∧ True ∧ True) (by kernel_rfl) ⟨trivial, trivial, trivial⟩ ?_
      refine AOps.call (fid := 13) (cap := []) (avs := [.str t]) (by kernel_rfl) rfl (by kernel_rfl) (by kernel_rfl) en_13 (by kernel_rfl) (ACalls.mono (refName_walk t _ (by omega)) ?_)
      rintro _ _ ⟨rfl, rfl⟩
      refine AOps.runN hT (fun _ => false) 2 [0, 3, 4, 21] (fr' := ⟨[(0, .str t), (3, .bool (isNameS t)), (4, .bool (isWordS t)), (21, .bool (!((isNameS t) == (refName t))))], [], [], [], 0⟩) (σ' := σ) (ob := True ∧ True ∧ True) (by kernel_rfl) ⟨trivial, trivial, trivial⟩ ?_
      cases h2 : (!((isNameS t) == (refName t)))
      · -- !((isNameS t) == (refName t)) is false
        have h2k := h2; simp only [Bool.and_eq_true, Bool.or_eq_true, Bool.and_eq_false_iff, Bool.or_eq_false_iff, decide_eq_true_eq, decide_eq_false_iff_not, beq_iff_eq, bne_iff_ne, ne_eq, Bool.not_eq_true', Bool.not_eq_false', beq_eq_false_iff_ne, bne_eq_false_iff_eq] at h2k
        refine AOps.runN hT (fun _ => false) 2 [0, 3, 4, 21, 22, 23] (fr' := ⟨[(0, .str t), (3, .bool (isNameS t)), (4, .bool (isWordS t)), (21, .bool false), (22, .bool (isWordS t)), (23, .str t)], [], [], [], 0⟩) (σ' := σ) (ob := True ∧ True ∧ True) (by kernel_rfl) ⟨trivial, trivial, trivial⟩ ?_
        refine AOps.call (fid := 14) (cap := []) (avs := [.str t]) (by kernel_rfl) rfl (by kernel_rfl) (by kernel_rfl) en_14 (by kernel_rfl) (ACalls.mono (refWord_walk t _) ?_)
        rintro _ _ ⟨rfl, rfl⟩
        refine AOps.runN hT (fun _ => false) 3 [0, 3, 4, 27] (fr' := ⟨[(0, .str t), (3, .bool (isNameS t)), (4, .bool (isWordS t)), (27, .bool (!((isWordS t) == (refWord t))))], [], [], [], 0⟩) (σ' := σ) (ob := True ∧ True ∧ True ∧ True) (by kernel_rfl) ⟨trivial, trivial, trivial, trivial⟩ ?_
        cases h3 : (!((isWordS t) == (refWord t)))
        · -- !((isWordS t) == (refWord t)) is false
          have h3k := h3; simp only [Bool.and_eq_true, Bool.or_eq_true, Bool.and_eq_false_iff, Bool.or_eq_false_iff, decide_eq_true_eq, decide_eq_false_iff_not, beq_iff_eq, bne_iff_ne, ne_eq, Bool.not_eq_true', Bool.not_eq_false', beq_eq_false_iff_ne, bne_eq_false_iff_eq] at h3k
          refine AOps.runN hT (fun _ => false) 2 [0, 3, 4, 27, 29] (fr' := ⟨[(0, .str t), (3, .bool (isNameS t)), (4, .bool (isWordS t)), (27, .bool false), (29, .bool (isNameS t))], [], [], [], 0⟩) (σ' := σ) (ob := True ∧ True ∧ True) (by kernel_rfl) ⟨trivial, trivial, trivial⟩ ?_
          cases h4 : (isNameS t)
          · -- isNameS t is false
            skip
            refine AOps.runN hT (fun _ => false) 3 [0, 3, 4, 32] (fr' := ⟨[(0, .str t), (3, .bool false), (4, .bool (isWordS t)), (32, .bool false)], [], [], [], 0⟩) (σ' := σ) (ob := True ∧ True ∧ True) (by kernel_rfl) ⟨trivial, trivial, trivial⟩ ?_
            refine AOps.weak [0, 3, 4, 32] (AOps.nil ⟨rfl, rfl⟩)
          · -- isNameS t is true
            skip
            refine AOps.runN hT (fun _ => false) 3 [0, 3, 4, 32] (fr' := ⟨[(0, .str t), (3, .bool true), (4, .bool (isWordS t)), (32, .bool (isWordS t))], [], [], [], 0⟩) (σ' := σ) (ob := True ∧ True ∧ True ∧ True) (by kernel_rfl) ⟨trivial, trivial, trivial, trivial⟩ ?_
            refine AOps.weak [0, 3, 4, 32] (AOps.nil ⟨rfl, rfl⟩)
        · -- !((isWordS t) == (refWord t)) is true
          have h3k := h3; simp only [Bool.and_eq_true, Bool.or_eq_true, Bool.and_eq_false_iff, Bool.or_eq_false_iff, decide_eq_true_eq, decide_eq_false_iff_not, beq_iff_eq, bne_iff_ne, ne_eq, Bool.not_eq_true', Bool.not_eq_false', beq_eq_false_iff_ne, bne_eq_false_iff_eq] at h3k
          refine AOps.runN hT (fun _ => false) 5 [0, 3, 4, 32] (fr' := ⟨[(0, .str t), (3, .bool (isNameS t)), (4, .bool (isWordS t)), (32, .bool true)], [], [], [], 0⟩) (σ' := σ) (ob := True ∧ True) (by kernel_rfl) ⟨trivial, trivial⟩ ?_
          refine AOps.weak [0, 3, 4, 32] (AOps.nil ⟨rfl, rfl⟩)
      · -- !((isNameS t) == (refName t)) is true
        have h2k := h2; simp only [Bool.and_eq_true, Bool.or_eq_true, Bool.and_eq_false_iff, Bool.or_eq_false_iff, decide_eq_true_eq, decide_eq_false_iff_not, beq_iff_eq, bne_iff_ne, ne_eq, Bool.not_eq_true', Bool.not_eq_false', beq_eq_false_iff_ne, bne_eq_false_iff_eq] at h2k
        refine AOps.runN hT (fun _ => false) 11 [0, 3, 4, 32] (fr' := ⟨[(0, .str t), (3, .bool (isNameS t)), (4, .bool (isWordS t)), (32, .bool true)], [], [], [], 0⟩) (σ' := σ) (ob := True ∧ True ∧ True ∧ True) (by kernel_rfl) ⟨trivial, trivial, trivial, trivial⟩ ?_
        refine AOps.weak [0, 3, 4, 32] (AOps.nil ⟨rfl, rfl⟩)
    -- on
    refine ACode.cond (t := (!((isNameS t) == (refName t))) || ((!((isWordS t) == (refWord t))) || ((isNameS t) && (isWordS t)))) (by kernel_rfl) (fun h5 => ?_) (fun h5 => ?_)
    · -- true
      have h5k := h5; simp only [Bool.and_eq_true, Bool.or_eq_true, Bool.and_eq_false_iff, Bool.or_eq_false_iff, decide_eq_true_eq, decide_eq_false_iff_not, beq_iff_eq, bne_iff_ne, ne_eq, Bool.not_eq_true', Bool.not_eq_false', beq_eq_false_iff_ne, bne_eq_false_iff_eq] at h5k
      refine ACode.seq ?_
      refine ACode.run hT (fun _ => false) [2] (fr' := ⟨[(2, .bool false)], [], [], [], 0⟩) (σ' := σ) (ob := True ∧ True) (by kernel_rfl) ⟨trivial, trivial⟩ ?_
      refine ACode.ret ?_
      refine retQ.ret (.bool false) (by kernel_rfl) ?_
      exfalso
      rw [← isNameS_eq, ← isWordS_eq, name_not_word] at h5
      simp at h5
    · -- false
      have h5k := h5; simp only [Bool.and_eq_true, Bool.or_eq_true, Bool.and_eq_false_iff, Bool.or_eq_false_iff, decide_eq_true_eq, decide_eq_false_iff_not, beq_iff_eq, bne_iff_ne, ne_eq, Bool.not_eq_true', Bool.not_eq_false', beq_eq_false_iff_ne, bne_eq_false_iff_eq] at h5k
      refine ACode.skip ?_
      refine ACode.seq ?_
      refine ACode.region ?_
      refine AOps.runN hT (fun _ => false) 1 [0, 3, 4, 34] (fr' := ⟨[(0, .str t), (3, .bool (isNameS t)), (4, .bool (isWordS t)), (34, .str t)], [], [], [], 0⟩) (σ' := σ) (ob := True ∧ True) (by kernel_rfl) ⟨trivial, trivial⟩ ?_
      refine AOps.call (fid := 15) (cap := []) (avs := [.str t]) (by kernel_rfl) rfl (by kernel_rfl) (by kernel_rfl) en_15 (by kernel_rfl) (ACalls.mono (lex_walk t _) ?_)
      rintro _ _ ⟨rfl, own, hown, rfl⟩
      refine AOps.runN hT (fun _ => false) 6 [0, 3, 4, 5, 6] (fr' := ⟨[(0, .str t), (3, .bool (isNameS t)), (4, .bool (isWordS t)), (5, .slice (toksAV (lexS t).1) ((lexS t).1.length) own), (6, .loc 0 0)], [[.int .i64 ((lexS t).2.1), .int .i64 ((lexS t).2.2.1), .int .i64 ((lexS t).2.2.2)]], [], [], 0⟩) (σ' := σ) (ob := True ∧ True ∧ True ∧ True ∧ True ∧ True ∧ True) (by kernel_rfl) ⟨trivial, trivial, trivial, trivial, trivial, trivial, trivial⟩ ?_
      refine AOps.nil ?_
      refine ACode.seq ?_
      refine ACode.meet ⟨[(3, .bool (isNameS t)), (4, .bool (isWordS t)), (5, .slice (toksAV (lexS t).1) ((lexS t).1.length) own), (7, .bool (((((lexS t).2.1) == 0) && ((((lexS t).2.2.1) == 0) && (((lexS t).2.2.2) == 0))) && (((((lexS t).1.length : Nat) : Int) == 2) && (((((lexS t).1).getD 0 default).text) == t))))], [[.int .i64 ((lexS t).2.1), .int .i64 ((lexS t).2.2.1), .int .i64 ((lexS t).2.2.2)]], [], [], 0⟩ σ (ACode.region ?_) ?_
      ·
        refine AOps.runN hT (fun _ => false) 4 [0, 3, 4, 5, 41] (fr' := ⟨[(0, .str t), (3, .bool (isNameS t)), (4, .bool (isWordS t)), (5, .slice (toksAV (lexS t).1) ((lexS t).1.length) own), (41, .bool ((((lexS t).2.1) == 0) && ((((lexS t).2.2.1) == 0) && (((lexS t).2.2.2) == 0))))], [[.int .i64 ((lexS t).2.1), .int .i64 ((lexS t).2.2.1), .int .i64 ((lexS t).2.2.2)]], [], [], 0⟩) (σ' := σ) (ob := True ∧ True ∧ True ∧ True ∧ True) (by kernel_rfl) ⟨trivial, trivial, trivial, trivial, trivial⟩ ?_
        cases h6 : ((((lexS t).2.1) == 0) && ((((lexS t).2.2.1) == 0) && (((lexS t).2.2.2) == 0)))
        · -- (((lexS t).2.1) == 0) && ((((lexS t).2.2.1) == 0) && (((lexS t).2.2.2) == 0)) is false
          have h6k := h6; simp only [Bool.and_eq_true, Bool.or_eq_true, Bool.and_eq_false_iff, Bool.or_eq_false_iff, decide_eq_true_eq, decide_eq_false_iff_not, beq_iff_eq, bne_iff_ne, ne_eq, Bool.not_eq_true', Bool.not_eq_false', beq_eq_false_iff_ne, bne_eq_false_iff_eq] at h6k
          refine AOps.runN hT (fun _ => false) 13 [3, 4, 5, 7] (fr' := ⟨[(3, .bool (isNameS t)), (4, .bool (isWordS t)), (5, .slice (toksAV (lexS t).1) ((lexS t).1.length) own), (7, .bool false)], [[.int .i64 ((lexS t).2.1), .int .i64 ((lexS t).2.2.1), .int .i64 ((lexS t).2.2.2)]], [], [], 0⟩) (σ' := σ) (ob := True ∧ True ∧ True ∧ True ∧ True) (by kernel_rfl) ⟨trivial, trivial, trivial, trivial, trivial⟩ ?_
          refine AOps.weak [3, 4, 5, 7] (AOps.nil ⟨rfl, rfl⟩)
        · -- (((lexS t).2.1) == 0) && ((((lexS t).2.2.1) == 0) && (((lexS t).2.2.2) == 0)) is true
          have h6k := h6; simp only [Bool.and_eq_true, Bool.or_eq_true, Bool.and_eq_false_iff, Bool.or_eq_false_iff, decide_eq_true_eq, decide_eq_false_iff_not, beq_iff_eq, bne_iff_ne, ne_eq, Bool.not_eq_true', Bool.not_eq_false', beq_eq_false_iff_ne, bne_eq_false_iff_eq] at h6k
          refine AOps.runN hT (fun _ => false) 5 [0, 3, 4, 5, 46] (fr' := ⟨[(0, .str t), (3, .bool (isNameS t)), (4, .bool (isWordS t)), (5, .slice (toksAV (lexS t).1) ((lexS t).1.length) own), (46, .bool ((((lexS t).1.length : Nat) : Int) == 2))], [[.int .i64 ((lexS t).2.1), .int .i64 ((lexS t).2.2.1), .int .i64 ((lexS t).2.2.2)]], [], [], 0⟩) (σ' := σ) (ob := True ∧ True ∧ True ∧ True ∧ True ∧ True) (by kernel_rfl) ⟨trivial, trivial, trivial, trivial, trivial, trivial⟩ ?_
          cases h7 : ((((lexS t).1.length : Nat) : Int) == 2)
          · -- (((lexS t).1.length : Nat) : Int) == 2 is false
            have h7k := ne_of_beq_false h7
            refine AOps.runN hT (fun _ => false) 8 [3, 4, 5, 7] (fr' := ⟨[(3, .bool (isNameS t)), (4, .bool (isWordS t)), (5, .slice (toksAV (lexS t).1) ((lexS t).1.length) own), (7, .bool false)], [[.int .i64 ((lexS t).2.1), .int .i64 ((lexS t).2.2.1), .int .i64 ((lexS t).2.2.2)]], [], [], 0⟩) (σ' := σ) (ob := True ∧ True ∧ True) (by kernel_rfl) ⟨trivial, trivial, trivial⟩ ?_
            refine AOps.weak [3, 4, 5, 7] (AOps.nil ⟨rfl, rfl⟩)
          · -- (((lexS t).1.length : Nat) : Int) == 2 is true
            have h7k := eq_of_beq h7
            refine AOps.runN hT (fun _ => false) 2 [0, 3, 4, 5, 46, 48] (fr' := ⟨[(0, .str t), (3, .bool (isNameS t)), (4, .bool (isWordS t)), (5, .slice (toksAV (lexS t).1) ((lexS t).1.length) own), (46, .bool true), (48, .dat (((toksAV (lexS t).1 : List AV).drop (0 * 5)).take 5))], [[.int .i64 ((lexS t).2.1), .int .i64 ((lexS t).2.2.1), .int .i64 ((lexS t).2.2.2)]], [], [], 0⟩) (σ' := σ) (ob := True ∧ (0 ≤ (0 : Int) ∧ (0 : Int) < ((lexS t).1.length : Nat) ∧ 0 * 5 ≤ (toksAV (lexS t).1 : List AV).length) ∧ True) (by kernel_rfl) ⟨trivial, (by rw [toksAV_length]; omega), trivial⟩ ?_
            rw [toksAV_at ((lexS t).1) 0 (by omega)]
            refine AOps.runN hT (fun _ => false) 6 [3, 4, 5, 7] (fr' := ⟨[(3, .bool (isNameS t)), (4, .bool (isWordS t)), (5, .slice (toksAV (lexS t).1) ((lexS t).1.length) own), (7, .bool (((((lexS t).1).getD 0 default).text) == t))], [[.int .i64 ((lexS t).2.1), .int .i64 ((lexS t).2.2.1), .int .i64 ((lexS t).2.2.2)]], [], [], 0⟩) (σ' := σ) (ob := (1 ≤ ([.int .i64 ((((lexS t).1).getD 0 default).kind), .str ((((lexS t).1).getD 0 default).text), .int .u64 ((((lexS t).1).getD 0 default).n), .int .i64 ((((lexS t).1).getD 0 default).line), .int .i64 ((((lexS t).1).getD 0 default).col)] : List AV).length) ∧ True ∧ True ∧ True ∧ True ∧ True ∧ True) (by kernel_rfl) ⟨(by simp), trivial, trivial, trivial, trivial, trivial, trivial⟩ ?_
            refine AOps.weak [3, 4, 5, 7] (AOps.nil ⟨rfl, rfl⟩)
      -- on
      refine ACode.seq ?_
      refine ACode.meet ⟨[(2, .bool (bif isNameS t then (((((lexS t).2.1) == 0) && ((((lexS t).2.2.1) == 0) && (((lexS t).2.2.2) == 0))) && (((((lexS t).1.length : Nat) : Int) == 2) && (((((lexS t).1).getD 0 default).text) == t))) && ((((((lexS t).1).getD 0 default).kind) == 1) || (true == (((((lexS t).1).getD 0 default).kind) == 2))) else bif ((((lexS t).2.1) == 0) && ((((lexS t).2.2.1) == 0) && (((lexS t).2.2.2) == 0))) && (((((lexS t).1.length : Nat) : Int) == 2) && (((((lexS t).1).getD 0 default).text) == t)) then bif ((((lexS t).1).getD 0 default).kind) == 1 then (isWordS t) == true else (isWordS t) == (((((lexS t).1).getD 0 default).kind) == 2) else (isWordS t) == false))], [[.int .i64 ((lexS t).2.1), .int .i64 ((lexS t).2.2.1), .int .i64 ((lexS t).2.2.2)]], [], [], 0⟩ σ (ACode.region ?_) ?_
      ·
        refine AOps.runN hT (fun _ => false) 2 [4, 5, 7, 55] (fr' := ⟨[(4, .bool (isWordS t)), (5, .slice (toksAV (lexS t).1) ((lexS t).1.length) own), (7, .bool (((((lexS t).2.1) == 0) && ((((lexS t).2.2.1) == 0) && (((lexS t).2.2.2) == 0))) && (((((lexS t).1.length : Nat) : Int) == 2) && (((((lexS t).1).getD 0 default).text) == t)))), (55, .bool (isNameS t))], [[.int .i64 ((lexS t).2.1), .int .i64 ((lexS t).2.2.1), .int .i64 ((lexS t).2.2.2)]], [], [], 0⟩) (σ' := σ) (ob := True ∧ True ∧ True) (by kernel_rfl) ⟨trivial, trivial, trivial⟩ ?_
        cases h8 : (isNameS t)
        · -- isNameS t is false
          skip
          refine AOps.runN hT (fun _ => false) 4 [5, 57, 59] (fr' := ⟨[(5, .slice (toksAV (lexS t).1) ((lexS t).1.length) own), (57, .bool (isWordS t)), (59, .bool (((((lexS t).2.1) == 0) && ((((lexS t).2.2.1) == 0) && (((lexS t).2.2.2) == 0))) && (((((lexS t).1.length : Nat) : Int) == 2) && (((((lexS t).1).getD 0 default).text) == t))))], [[.int .i64 ((lexS t).2.1), .int .i64 ((lexS t).2.2.1), .int .i64 ((lexS t).2.2.2)]], [], [], 0⟩) (σ' := σ) (ob := True ∧ True ∧ True ∧ True ∧ True) (by kernel_rfl) ⟨trivial, trivial, trivial, trivial, trivial⟩ ?_
          cases h9 : (((((lexS t).2.1) == 0) && ((((lexS t).2.2.1) == 0) && (((lexS t).2.2.2) == 0))) && (((((lexS t).1.length : Nat) : Int) == 2) && (((((lexS t).1).getD 0 default).text) == t)))
          · -- ((((lexS t).2.1) == 0) && ((((lexS t).2.2.1) == 0) && (((lexS t).2.2.2) == 0))) && (((((lexS t).1.length : Nat) : Int) == 2) && (((((lexS t).1).getD 0 default).text) == t)) is false
            have h9k := h9; simp only [Bool.and_eq_true, Bool.or_eq_true, Bool.and_eq_false_iff, Bool.or_eq_false_iff, decide_eq_true_eq, decide_eq_false_iff_not, beq_iff_eq, bne_iff_ne, ne_eq, Bool.not_eq_true', Bool.not_eq_false', beq_eq_false_iff_ne, bne_eq_false_iff_eq] at h9k
            refine AOps.runN hT (fun _ => false) 15 [2] (fr' := ⟨[(2, .bool ((isWordS t) == false))], [[.int .i64 ((lexS t).2.1), .int .i64 ((lexS t).2.2.1), .int .i64 ((lexS t).2.2.2)]], [], [], 0⟩) (σ' := σ) (ob := True ∧ True ∧ True ∧ True) (by kernel_rfl) ⟨trivial, trivial, trivial, trivial⟩ ?_
            refine AOps.weak [2] (AOps.nil ⟨rfl, rfl⟩)
          · -- ((((lexS t).2.1) == 0) && ((((lexS t).2.2.1) == 0) && (((lexS t).2.2.2) == 0))) && (((((lexS t).1.length : Nat) : Int) == 2) && (((((lexS t).1).getD 0 default).text) == t)) is true
            have h9k := h9; simp only [Bool.and_eq_true, Bool.or_eq_true, Bool.and_eq_false_iff, Bool.or_eq_false_iff, decide_eq_true_eq, decide_eq_false_iff_not, beq_iff_eq, bne_iff_ne, ne_eq, Bool.not_eq_true', Bool.not_eq_false', beq_eq_false_iff_ne, bne_eq_false_iff_eq] at h9k
            refine AOps.runN hT (fun _ => false) 2 [5, 57, 59, 61] (fr' := ⟨[(5, .slice (toksAV (lexS t).1) ((lexS t).1.length) own), (57, .bool (isWordS t)), (59, .bool true), (61, .dat (((toksAV (lexS t).1 : List AV).drop (0 * 5)).take 5))], [[.int .i64 ((lexS t).2.1), .int .i64 ((lexS t).2.2.1), .int .i64 ((lexS t).2.2.2)]], [], [], 0⟩) (σ' := σ) (ob := True ∧ (0 ≤ (0 : Int) ∧ (0 : Int) < ((lexS t).1.length : Nat) ∧ 0 * 5 ≤ (toksAV (lexS t).1 : List AV).length) ∧ True) (by kernel_rfl) ⟨trivial, (by rw [toksAV_length]; omega), trivial⟩ ?_
            rw [toksAV_at ((lexS t).1) 0 (by omega)]
            refine AOps.runN hT (fun _ => false) 4 [5, 57, 59, 65] (fr' := ⟨[(5, .slice (toksAV (lexS t).1) ((lexS t).1.length) own), (57, .bool (isWordS t)), (59, .bool true), (65, .bool (((((lexS t).1).getD 0 default).kind) == 1))], [[.int .i64 ((lexS t).2.1), .int .i64 ((lexS t).2.2.1), .int .i64 ((lexS t).2.2.2)]], [], [], 0⟩) (σ' := σ) (ob := (0 ≤ ([.int .i64 ((((lexS t).1).getD 0 default).kind), .str ((((lexS t).1).getD 0 default).text), .int .u64 ((((lexS t).1).getD 0 default).n), .int .i64 ((((lexS t).1).getD 0 default).line), .int .i64 ((((lexS t).1).getD 0 default).col)] : List AV).length) ∧ True ∧ True ∧ True ∧ True) (by kernel_rfl) ⟨(by simp), trivial, trivial, trivial, trivial⟩ ?_
            cases h10 : (((((lexS t).1).getD 0 default).kind) == 1)
            · -- ((((lexS t).1).getD 0 default).kind) == 1 is false
              have h10k := ne_of_beq_false h10
              refine AOps.runN hT (fun _ => false) 2 [57, 59, 65, 67] (fr' := ⟨[(57, .bool (isWordS t)), (59, .bool true), (65, .bool false), (67, .dat (((toksAV (lexS t).1 : List AV).drop (0 * 5)).take 5))], [[.int .i64 ((lexS t).2.1), .int .i64 ((lexS t).2.2.1), .int .i64 ((lexS t).2.2.2)]], [], [], 0⟩) (σ' := σ) (ob := True ∧ (0 ≤ (0 : Int) ∧ (0 : Int) < ((lexS t).1.length : Nat) ∧ 0 * 5 ≤ (toksAV (lexS t).1 : List AV).length) ∧ True) (by kernel_rfl) ⟨trivial, (by rw [toksAV_length]; omega), trivial⟩ ?_
              rw [toksAV_at ((lexS t).1) 0 (by omega)]
              refine AOps.runN hT (fun _ => false) 7 [2] (fr' := ⟨[(2, .bool ((isWordS t) == (((((lexS t).1).getD 0 default).kind) == 2)))], [[.int .i64 ((lexS t).2.1), .int .i64 ((lexS t).2.2.1), .int .i64 ((lexS t).2.2.2)]], [], [], 0⟩) (σ' := σ) (ob := (0 ≤ ([.int .i64 ((((lexS t).1).getD 0 default).kind), .str ((((lexS t).1).getD 0 default).text), .int .u64 ((((lexS t).1).getD 0 default).n), .int .i64 ((((lexS t).1).getD 0 default).line), .int .i64 ((((lexS t).1).getD 0 default).col)] : List AV).length) ∧ True ∧ True ∧ True ∧ True ∧ True ∧ True ∧ True) (by kernel_rfl) ⟨(by simp), trivial, trivial, trivial, trivial, trivial, trivial, trivial⟩ ?_
              refine AOps.weak [2] (AOps.nil ⟨rfl, rfl⟩)
            · -- ((((lexS t).1).getD 0 default).kind) == 1 is true
              have h10k := eq_of_beq h10
              refine AOps.runN hT (fun _ => false) 9 [2] (fr' := ⟨[(2, .bool ((isWordS t) == true))], [[.int .i64 ((lexS t).2.1), .int .i64 ((lexS t).2.2.1), .int .i64 ((lexS t).2.2.2)]], [], [], 0⟩) (σ' := σ) (ob := True ∧ True ∧ True ∧ True ∧ True) (by kernel_rfl) ⟨trivial, trivial, trivial, trivial, trivial⟩ ?_
              refine AOps.weak [2] (AOps.nil ⟨rfl, rfl⟩)
        · -- isNameS t is true
          skip
          refine AOps.runN hT (fun _ => false) 4 [5, 57, 59] (fr' := ⟨[(5, .slice (toksAV (lexS t).1) ((lexS t).1.length) own), (57, .bool true), (59, .bool (((((lexS t).2.1) == 0) && ((((lexS t).2.2.1) == 0) && (((lexS t).2.2.2) == 0))) && (((((lexS t).1.length : Nat) : Int) == 2) && (((((lexS t).1).getD 0 default).text) == t))))], [[.int .i64 ((lexS t).2.1), .int .i64 ((lexS t).2.2.1), .int .i64 ((lexS t).2.2.2)]], [], [], 0⟩) (σ' := σ) (ob := True ∧ True ∧ True ∧ True) (by kernel_rfl) ⟨trivial, trivial, trivial, trivial⟩ ?_
          cases h11 : (((((lexS t).2.1) == 0) && ((((lexS t).2.2.1) == 0) && (((lexS t).2.2.2) == 0))) && (((((lexS t).1.length : Nat) : Int) == 2) && (((((lexS t).1).getD 0 default).text) == t)))
          · -- ((((lexS t).2.1) == 0) && ((((lexS t).2.2.1) == 0) && (((lexS t).2.2.2) == 0))) && (((((lexS t).1.length : Nat) : Int) == 2) && (((((lexS t).1).getD 0 default).text) == t)) is false
            have h11k := h11; simp only [Bool.and_eq_true, Bool.or_eq_true, Bool.and_eq_false_iff, Bool.or_eq_false_iff, decide_eq_true_eq, decide_eq_false_iff_not, beq_iff_eq, bne_iff_ne, ne_eq, Bool.not_eq_true', Bool.not_eq_false', beq_eq_false_iff_ne, bne_eq_false_iff_eq] at h11k
            refine AOps.runN hT (fun _ => false) 15 [2] (fr' := ⟨[(2, .bool false)], [[.int .i64 ((lexS t).2.1), .int .i64 ((lexS t).2.2.1), .int .i64 ((lexS t).2.2.2)]], [], [], 0⟩) (σ' := σ) (ob := True ∧ True ∧ True ∧ True) (by kernel_rfl) ⟨trivial, trivial, trivial, trivial⟩ ?_
            refine AOps.weak [2] (AOps.nil ⟨rfl, rfl⟩)
          · -- ((((lexS t).2.1) == 0) && ((((lexS t).2.2.1) == 0) && (((lexS t).2.2.2) == 0))) && (((((lexS t).1.length : Nat) : Int) == 2) && (((((lexS t).1).getD 0 default).text) == t)) is true
            have h11k := h11; simp only [Bool.and_eq_true, Bool.or_eq_true, Bool.and_eq_false_iff, Bool.or_eq_false_iff, decide_eq_true_eq, decide_eq_false_iff_not, beq_iff_eq, bne_iff_ne, ne_eq, Bool.not_eq_true', Bool.not_eq_false', beq_eq_false_iff_ne, bne_eq_false_iff_eq] at h11k
            refine AOps.runN hT (fun _ => false) 2 [5, 57, 59, 61] (fr' := ⟨[(5, .slice (toksAV (lexS t).1) ((lexS t).1.length) own), (57, .bool true), (59, .bool true), (61, .dat (((toksAV (lexS t).1 : List AV).drop (0 * 5)).take 5))], [[.int .i64 ((lexS t).2.1), .int .i64 ((lexS t).2.2.1), .int .i64 ((lexS t).2.2.2)]], [], [], 0⟩) (σ' := σ) (ob := True ∧ (0 ≤ (0 : Int) ∧ (0 : Int) < ((lexS t).1.length : Nat) ∧ 0 * 5 ≤ (toksAV (lexS t).1 : List AV).length) ∧ True) (by kernel_rfl) ⟨trivial, (by rw [toksAV_length]; omega), trivial⟩ ?_
            rw [toksAV_at ((lexS t).1) 0 (by omega)]
            refine AOps.runN hT (fun _ => false) 4 [5, 57, 59, 65] (fr' := ⟨[(5, .slice (toksAV (lexS t).1) ((lexS t).1.length) own), (57, .bool true), (59, .bool true), (65, .bool (((((lexS t).1).getD 0 default).kind) == 1))], [[.int .i64 ((lexS t).2.1), .int .i64 ((lexS t).2.2.1), .int .i64 ((lexS t).2.2.2)]], [], [], 0⟩) (σ' := σ) (ob := (0 ≤ ([.int .i64 ((((lexS t).1).getD 0 default).kind), .str ((((lexS t).1).getD 0 default).text), .int .u64 ((((lexS t).1).getD 0 default).n), .int .i64 ((((lexS t).1).getD 0 default).line), .int .i64 ((((lexS t).1).getD 0 default).col)] : List AV).length) ∧ True ∧ True ∧ True ∧ True) (by kernel_rfl) ⟨(by simp), trivial, trivial, trivial, trivial⟩ ?_
            cases h12 : (((((lexS t).1).getD 0 default).kind) == 1)
            · -- ((((lexS t).1).getD 0 default).kind) == 1 is false
              have h12k := ne_of_beq_false h12
              refine AOps.runN hT (fun _ => false) 2 [57, 59, 65, 67] (fr' := ⟨[(57, .bool true), (59, .bool true), (65, .bool false), (67, .dat (((toksAV (lexS t).1 : List AV).drop (0 * 5)).take 5))], [[.int .i64 ((lexS t).2.1), .int .i64 ((lexS t).2.2.1), .int .i64 ((lexS t).2.2.2)]], [], [], 0⟩) (σ' := σ) (ob := True ∧ (0 ≤ (0 : Int) ∧ (0 : Int) < ((lexS t).1.length : Nat) ∧ 0 * 5 ≤ (toksAV (lexS t).1 : List AV).length) ∧ True) (by kernel_rfl) ⟨trivial, (by rw [toksAV_length]; omega), trivial⟩ ?_
              rw [toksAV_at ((lexS t).1) 0 (by omega)]
              refine AOps.runN hT (fun _ => false) 7 [2] (fr' := ⟨[(2, .bool (true == (((((lexS t).1).getD 0 default).kind) == 2)))], [[.int .i64 ((lexS t).2.1), .int .i64 ((lexS t).2.2.1), .int .i64 ((lexS t).2.2.2)]], [], [], 0⟩) (σ' := σ) (ob := (0 ≤ ([.int .i64 ((((lexS t).1).getD 0 default).kind), .str ((((lexS t).1).getD 0 default).text), .int .u64 ((((lexS t).1).getD 0 default).n), .int .i64 ((((lexS t).1).getD 0 default).line), .int .i64 ((((lexS t).1).getD 0 default).col)] : List AV).length) ∧ True ∧ True ∧ True ∧ True ∧ True ∧ True ∧ True) (by kernel_rfl) ⟨(by simp), trivial, trivial, trivial, trivial, trivial, trivial, trivial⟩ ?_
              refine AOps.weak [2] (AOps.nil ⟨rfl, rfl⟩)
            · -- ((((lexS t).1).getD 0 default).kind) == 1 is true
              have h12k := eq_of_beq h12
              refine AOps.runN hT (fun _ => false) 9 [2] (fr' := ⟨[(2, .bool true)], [[.int .i64 ((lexS t).2.1), .int .i64 ((lexS t).2.2.1), .int .i64 ((lexS t).2.2.2)]], [], [], 0⟩) (σ' := σ) (ob := True ∧ True ∧ True ∧ True ∧ True) (by kernel_rfl) ⟨trivial, trivial, trivial, trivial, trivial⟩ ?_
              refine AOps.weak [2] (AOps.nil ⟨rfl, rfl⟩)
      -- on
      refine ACode.ret ?_
      refine retQ.ret (.bool (bif isNameS t then (((((lexS t).2.1) == 0) && ((((lexS t).2.2.1) == 0) && (((lexS t).2.2.2) == 0))) && (((((lexS t).1.length : Nat) : Int) == 2) && (((((lexS t).1).getD 0 default).text) == t))) && ((((((lexS t).1).getD 0 default).kind) == 1) || (true == (((((lexS t).1).getD 0 default).kind) == 2))) else bif ((((lexS t).2.1) == 0) && ((((lexS t).2.2.1) == 0) && (((lexS t).2.2.2) == 0))) && (((((lexS t).1.length : Nat) : Int) == 2) && (((((lexS t).1).getD 0 default).text) == t)) then bif ((((lexS t).1).getD 0 default).kind) == 1 then (isWordS t) == true else (isWordS t) == (((((lexS t).1).getD 0 default).kind) == 2) else (isWordS t) == false)) (by kernel_rfl) ?_
      refine ⟨rfl, ?_⟩
      have e := names_plain t (by omega)
      unfold oneTok at e
      congr 2
      revert e
      generalize isNameS t = x1
      generalize isWordS t = x2
      generalize ((lexS t).2.1 == 0) = x3
      generalize ((lexS t).2.2.1 == 0) = x4
      generalize ((lexS t).2.2.2 == 0) = x5
      generalize ((((lexS t).1.length : Nat) : Int) == 2) = x6
      generalize (((lexS t).1.getD 0 default).text == t) = x7
      generalize (((lexS t).1.getD 0 default).kind == 1) = x8
      generalize (((lexS t).1.getD 0 default).kind == 2) = x9
      revert x1 x2 x3 x4 x5 x6 x7 x8 x9
      decide

end Go.AE

/- Plain laws of the lexer: blanks; a token read again; what follows a token does not change it; places. -/
set_option linter.unusedVariables false
set_option linter.unusedSimpArgs false
namespace Go.AE

/-! ### skipping -/
theorem skipS_add (r : Rd) (m n : Nat) (h : m ≤ r.rest.length) : skipS n (skipS m r) = skipS (m + n) r := by
  have e : r.rest.take (m + n) = r.rest.take m ++ (r.rest.drop m).take n := by rw [List.take_add]
  simp only [skipS, List.drop_drop, e, advL_append, advC_append]

def app (r : Rd) (t : List UInt8) : Rd := ⟨r.rest ++ t, r.line, r.col⟩

theorem skipS_app (r : Rd) (n : Nat) (t : List UInt8) (h : n ≤ r.rest.length) : skipS n (app r t) = app (skipS n r) t := by
  simp only [skipS, app, List.take_append_of_le_length h, List.drop_append_of_le_length h]

/-! ### blanks -/
theorem blankF_len : ∀ (k : Nat) (r : Rd), (blankF k r).rest.length ≤ r.rest.length
  | 0, r => Nat.le_refl _
  | k + 1, r => by
    rw [blankF]
    split
    · exact Nat.le_refl _
    · split
      · refine Nat.le_trans (blankF_len k _) ?_
        simp only [skipS, List.length_drop]; omega
      · split
        · refine Nat.le_trans (blankF_len k _) ?_
          simp only [skipS, List.length_drop]; omega
        · exact Nat.le_refl _
theorem blankS_len (r : Rd) : (blankS r).rest.length ≤ r.rest.length := blankF_len _ r

theorem blankF_fuel : ∀ (k j : Nat) (r : Rd), r.rest.length ≤ k → r.rest.length ≤ j → blankF k r = blankF j r
  | 0, 0, r, _, _ => rfl
  | 0, j + 1, r, h, _ => by
    have : r.rest = [] := List.length_eq_zero_iff.1 (by omega)
    rw [blankF, blankF, if_pos this]
  | k + 1, 0, r, _, h => by
    have : r.rest = [] := List.length_eq_zero_iff.1 (by omega)
    rw [blankF, blankF, if_pos this]
  | k + 1, j + 1, r, h1, h2 => by
    rw [blankF, blankF]
    split
    · rfl
    · rename_i hne
      have hp : 1 ≤ r.rest.length := by cases hr : r.rest with | nil => exact absurd hr hne | cons _ _ => simp
      split
      · rename_i hl
        have := lineN_pos hl
        exact blankF_fuel k j _ (by simp only [skipS, List.length_drop]; omega) (by simp only [skipS, List.length_drop]; omega)
      · split
        · exact blankF_fuel k j _ (by simp only [skipS, List.length_drop]; omega) (by simp only [skipS, List.length_drop]; omega)
        · rfl

theorem blankS_step (r : Rd) : blankS r = if r.rest = [] then r else if [47, 47].isPrefixOf r.rest then blankS (skipS (lineN r.rest) r) else if blankB (r.rest.getD 0 0) then blankS (skipS 1 r) else r := by
  unfold blankS
  by_cases hne : r.rest = []
  · rw [if_pos hne, hne]; rfl
  · rw [if_neg hne]
    have hp : 1 ≤ r.rest.length := by cases hr : r.rest with | nil => exact absurd hr hne | cons _ _ => simp
    rw [show r.rest.length = (r.rest.length - 1) + 1 by omega, blankF, if_neg hne]
    split
    · rename_i hl
      have := lineN_pos hl
      exact blankF_fuel _ _ _ (by simp only [skipS, List.length_drop]; omega) (Nat.le_refl _)
    · split
      · exact blankF_fuel _ _ _ (by simp only [skipS, List.length_drop]; omega) (Nat.le_refl _)
      · rfl

theorem blankS_fix {r : Rd} (h1 : [47, 47].isPrefixOf r.rest = false) (h2 : blankB (r.rest.getD 0 0) = false) : blankS r = r := by
  rw [blankS_step]
  by_cases hne : r.rest = []
  · rw [if_pos hne]
  · rw [if_neg hne, if_neg (by rw [h1]; simp), if_neg (by rw [h2]; simp)]

theorem blankS_done (n : Nat) : ∀ (r : Rd), r.rest.length ≤ n → (blankS r).rest = [] ∨ ([47, 47].isPrefixOf (blankS r).rest = false ∧ blankB ((blankS r).rest.getD 0 0) = false) := by
  induction n with
  | zero =>
    intro r h
    have : r.rest = [] := List.length_eq_zero_iff.1 (by omega)
    rw [blankS_step, if_pos this]; exact .inl this
  | succ n ih =>
    intro r h
    rw [blankS_step]
    by_cases hne : r.rest = []
    · rw [if_pos hne]; exact .inl hne
    · rw [if_neg hne]
      have hp : 1 ≤ r.rest.length := by cases hr : r.rest with | nil => exact absurd hr hne | cons _ _ => simp
      split
      · rename_i hl
        have := lineN_pos hl
        exact ih _ (by simp only [skipS, List.length_drop]; omega)
      · rename_i hl
        split
        · exact ih _ (by simp only [skipS, List.length_drop]; omega)
        · rename_i hb
          exact .inr ⟨Bool.eq_false_iff.2 hl, Bool.eq_false_iff.2 hb⟩

theorem blankS_idem (r : Rd) : blankS (blankS r) = blankS r := by
  rcases blankS_done _ r (Nat.le_refl _) with h | ⟨h1, h2⟩
  · rw [blankS_step (blankS r), if_pos h]
  · exact blankS_fix h1 h2

theorem blankS_nl (rest : List UInt8) (L C : Int) : blankS ⟨10 :: rest, L, C⟩ = blankS ⟨rest, L + 1, 1⟩ := by
  rw [blankS_step, if_neg (by simp), if_neg (by simp [List.isPrefixOf]), if_pos (by simp only [List.getD_cons_zero]; decide)]
  simp [skipS, advL, advC]
theorem blankS_sp (rest : List UInt8) (L C : Int) : blankS ⟨32 :: rest, L, C⟩ = blankS ⟨rest, L, C + 1⟩ := by
  rw [blankS_step, if_neg (by simp), if_neg (by simp [List.isPrefixOf]), if_pos (by simp only [List.getD_cons_zero]; decide)]
  simp [skipS, advL, advC]
theorem blankS_tab (rest : List UInt8) (L C : Int) : blankS ⟨9 :: rest, L, C⟩ = blankS ⟨rest, L, C + 1⟩ := by
  rw [blankS_step, if_neg (by simp), if_neg (by simp [List.isPrefixOf]), if_pos (by simp only [List.getD_cons_zero]; decide)]
  simp [skipS, advL, advC]

theorem adv_plain : ∀ (s : List UInt8) (L C : Int), (∀ x ∈ s, x ≠ 10) → advL L s = L ∧ advC C s = C + s.length
  | [], L, C, _ => by simp [advL, advC]
  | b :: s, L, C, h => by
    have hb := h b (by simp)
    obtain ⟨h1, h2⟩ := adv_plain s L (C + 1) fun x hx => h x (by simp [hx])
    simp only [advL, advC, if_neg hb, h1, h2, List.length_cons]
    exact ⟨trivial, by omega⟩

theorem takeWhile_stop (p : UInt8 → Bool) (s rest : List UInt8) (b : UInt8) (h : p b = false) : (s ++ b :: rest).takeWhile p = s.takeWhile p := by
  induction s with
  | nil => rw [List.nil_append, List.takeWhile_cons, if_neg (by rw [h]; simp)]; rfl
  | cons x s ih => rw [List.cons_append, List.takeWhile_cons, List.takeWhile_cons, ih]

theorem takeWhile_all (p : UInt8 → Bool) (s : List UInt8) (h : ∀ x ∈ s, p x = true) : s.takeWhile p = s := by
  induction s with
  | nil => rfl
  | cons x s ih => rw [List.takeWhile_cons, if_pos (h x (by simp)), ih fun y hy => h y (by simp [hy])]

theorem takeWhile_mem (p : UInt8 → Bool) (s : List UInt8) : ∀ x ∈ s.takeWhile p, p x = true := by
  induction s with
  | nil => simp
  | cons y s ih =>
    intro x hx
    rw [List.takeWhile_cons] at hx
    split at hx
    · rename_i hy
      rcases List.mem_cons.1 hx with rfl | hx
      · exact hy
      · exact ih x hx
    · cases hx

theorem blankS_note (note rest : List UInt8) (L C : Int) (h : ∀ x ∈ note, x ≠ 10) : blankS ⟨47 :: 47 :: (note ++ 10 :: rest), L, C⟩ = blankS ⟨rest, L + 1, 1⟩ := by
  have hs : ∀ x ∈ 47 :: 47 :: note, x ≠ 10 := by
    intro x hx
    rcases List.mem_cons.1 hx with rfl | hx
    · decide
    · rcases List.mem_cons.1 hx with rfl | hx
      · decide
      · exact h x hx
  have hl : lineN (47 :: 47 :: (note ++ 10 :: rest)) = (47 :: 47 :: note).length := by
    show ((47 :: 47 :: note ++ 10 :: rest).takeWhile _).length = _
    rw [takeWhile_stop _ _ _ _ (by decide), takeWhile_all _ _ fun x hx => by simpa using hs x hx]
  rw [blankS_step, if_neg (by simp), if_pos (by simp [List.isPrefixOf])]
  simp only [hl]
  have e : skipS (47 :: 47 :: note).length ⟨47 :: 47 :: (note ++ 10 :: rest), L, C⟩ = ⟨10 :: rest, L, C + (47 :: 47 :: note).length⟩ := by
    have e1 : (47 :: 47 :: (note ++ 10 :: rest)).take (47 :: 47 :: note).length = 47 :: 47 :: note := by
      show ((47 :: 47 :: note) ++ 10 :: rest).take _ = _
      rw [List.take_append_of_le_length (Nat.le_refl _), List.take_length]
    have e2 : (47 :: 47 :: (note ++ 10 :: rest)).drop (47 :: 47 :: note).length = 10 :: rest := by
      show ((47 :: 47 :: note) ++ 10 :: rest).drop _ = _
      rw [List.drop_append_of_le_length (Nat.le_refl _), List.drop_length, List.nil_append]
    obtain ⟨h1, h2⟩ := adv_plain (47 :: 47 :: note) L C hs
    simp only [skipS, e1, e2, h1, h2]
  rw [e, blankS_nl]

/-! ### what ends a token -/
def SepB (b : UInt8) : Prop := b = 10 ∨ b = 32
theorem SepB.word {b : UInt8} (h : SepB b) : wordB b = false := by rcases h with rfl | rfl <;> decide

theorem wordN_stop {b : UInt8} (h : SepB b) (v rest : List UInt8) : wordN (v ++ b :: rest) = wordN v := by
  rw [wordN_eq, wordN_eq, takeWhile_stop _ _ _ _ h.word]

theorem twoB_stop {b : UInt8} (h : SepB b) (v rest : List UInt8) (hv : v ≠ []) : twoB (v ++ b :: rest) = twoB v := by
  match v, hv with
  | [x], _ =>
    have hb : ((61 : UInt8) == b) = false := by rcases h with rfl | rfl <;> decide
    simp [twoB, List.isPrefixOf, hb]
  | x :: y :: v, _ => simp [twoB, List.isPrefixOf]

theorem getD_app (v t : List UInt8) (hv : v ≠ []) : (v ++ t).getD 0 0 = v.getD 0 0 := by
  cases v with
  | nil => exact absurd rfl hv
  | cons x v => rfl

theorem realText_app {b : UInt8} (h : SepB b) (r : Rd) (rest : List UInt8) (hv : r.rest ≠ []) : realText (app r (b :: rest)) = realText r := by
  have e : (r.rest ++ b :: rest).drop 1 = r.rest.drop 1 ++ b :: rest := List.drop_append_of_le_length (by cases hr : r.rest with | nil => exact absurd hr hv | cons _ _ => simp)
  simp only [realText, app, e, wordN_stop h]
  rw [List.take_append_of_le_length (wordN_le' _)]

theorem nextT_app {b : UInt8} (h : SepB b) (r : Rd) (rest : List UInt8) (hv : r.rest ≠ []) : nextT (app r (b :: rest)) = nextT r := by
  unfold nextT
  have e0 : (app r (b :: rest)).rest.getD 0 0 = r.rest.getD 0 0 := getD_app _ _ hv
  have hp : 1 ≤ r.rest.length := by cases hr : r.rest with | nil => exact absurd hr hv | cons _ _ => simp
  rw [e0]
  split
  · unfold wordT
    have e1 : (app r (b :: rest)).rest.take (wordN (app r (b :: rest)).rest) = r.rest.take (wordN r.rest) := by
      simp only [app, wordN_stop h]
      rw [List.take_append_of_le_length (wordN_le' _)]
    dsimp only
    rw [e1]
    rfl
  · split
    · unfold realT
      rw [realText_app h r rest hv]
      rfl
    · unfold signT
      have e2 : twoB (app r (b :: rest)).rest = twoB r.rest := twoB_stop h _ _ hv
      rw [e2, e0]
      split
      · rename_i ht
        have := twoB_len ht
        simp only [app]
        rw [List.take_append_of_le_length this]
      · split
        · simp only [app]
          rw [List.take_append_of_le_length hp]
        · rfl

theorem nextR_app {b : UInt8} (h : SepB b) (r : Rd) (rest : List UInt8) (hv : r.rest ≠ []) : nextR (app r (b :: rest)) = app (nextR r) (b :: rest) := by
  unfold nextR
  have e0 : (app r (b :: rest)).rest.getD 0 0 = r.rest.getD 0 0 := getD_app _ _ hv
  have hp : 1 ≤ r.rest.length := by cases hr : r.rest with | nil => exact absurd hr hv | cons _ _ => simp
  rw [e0]
  split
  · have e1 : wordN (app r (b :: rest)).rest = wordN r.rest := wordN_stop h _ _
    rw [e1, skipS_app _ _ _ (wordN_le' _)]
  · split
    · unfold realR
      rw [skipS_app _ _ _ hp]
      have e : (app r (b :: rest)).rest.drop 1 = r.rest.drop 1 ++ b :: rest := List.drop_append_of_le_length hp
      rw [e, wordN_stop h, skipS_app]
      simp only [skipS]
      exact wordN_le' _
    · unfold signR
      have e2 : twoB (app r (b :: rest)).rest = twoB r.rest := twoB_stop h _ _ hv
      rw [e2, e0]
      split
      · rename_i ht
        rw [skipS_app _ _ _ (twoB_len ht)]
      · split
        · rw [skipS_app _ _ _ hp]
        · rfl

/-! ### a token's text alone -/
theorem twoB_take (l : List UInt8) : twoB (l.take 2) = twoB l := by
  match l with
  | [] => rfl
  | [x] => rfl
  | x :: y :: l => simp [twoB, List.isPrefixOf]

theorem wordN_all (w : List UInt8) (h : ∀ x ∈ w, wordB x = true) : wordN w = w.length := by rw [wordN_eq, takeWhile_all _ _ h]

/-- What a token's text begins with. -/
def startB (b : UInt8) : Bool := wordB b || (b == 35 || (b == 61 || (b == 33 || (b == 60 || signB b))))
theorem startB_blank (b : UInt8) (h : startB b = true) : blankB b = false ∧ b ≠ 10 := by
  have := u8_all (p := fun b => !(startB b) || (!(blankB b) && (b != 10))) (by decide +kernel) b
  rw [h] at this
  simp only [Bool.not_true, Bool.false_or, Bool.and_eq_true, Bool.not_eq_true', bne_iff_ne, ne_eq] at this
  exact this
theorem wordB_nl (b : UInt8) (h : wordB b = true) : b ≠ 10 := by
  intro h9; rw [h9] at h; revert h; decide

structure TokOK (x : Tok) : Prop where
  ne : x.text ≠ []
  nl : ∀ b ∈ x.text, b ≠ 10
  st : startB (x.text.getD 0 0) = true
  sl : x.text.getD 0 0 = 47 → x.text = [47]
  nt : ∀ L C, nextT ⟨x.text, L, C⟩ = (⟨x.kind, x.text, x.n, L, C⟩, true)
  nr : ∀ L C, nextR ⟨x.text, L, C⟩ = skipS x.text.length ⟨x.text, L, C⟩
  kd : x.kind ≠ 0

theorem word_head {l : List UInt8} (hne : l ≠ []) (h : wordB (l.getD 0 0) = true) : (l.takeWhile wordB).getD 0 0 = l.getD 0 0 ∧ l.takeWhile wordB ≠ [] := by
  cases l with
  | nil => exact absurd rfl hne
  | cons b l =>
    rw [List.getD_cons_zero] at h
    rw [List.takeWhile_cons, if_pos h]
    simp

theorem wordT_alone (r : Rd) (L C : Int) : wordT ⟨r.rest.takeWhile wordB, L, C⟩ = (⟨(wordT r).1.kind, r.rest.takeWhile wordB, (wordT r).1.n, L, C⟩, (wordT r).2) := by
  have e : (r.rest.takeWhile wordB).take (wordN (r.rest.takeWhile wordB)) = r.rest.takeWhile wordB := by
    rw [wordN_all _ (takeWhile_mem _ _), List.take_length]
  unfold wordT
  simp only [e, take_wordN]
  split
  · rfl
  · split <;> rfl

theorem wordT_text (r : Rd) : (wordT r).1.text = r.rest.takeWhile wordB ∧ (wordT r).1.kind ≠ 0 := by
  unfold wordT
  simp only [take_wordN]
  split
  · exact ⟨rfl, by simp⟩
  · split
    · exact ⟨rfl, by simp⟩
    · exact ⟨rfl, by simp⟩

theorem realText_eq (r : Rd) : realText r = 35 :: (r.rest.drop 1).takeWhile wordB := by simp [realText, take_wordN]

theorem one_take (l : List UInt8) (hne : l ≠ []) : l.take 1 = [l.getD 0 0] := by
  cases l with
  | nil => exact absurd rfl hne
  | cons b l => simp

theorem two_take {l : List UInt8} (h : twoB l = true) : l.take 2 = [61, 61] ∨ l.take 2 = [33, 61] ∨ l.take 2 = [60, 61] := by
  match l with
  | [] => simp [twoB, List.isPrefixOf] at h
  | [x] => simp [twoB, List.isPrefixOf] at h
  | x :: y :: l =>
    simp only [twoB, List.isPrefixOf, Bool.or_eq_true, Bool.and_eq_true, beq_iff_eq, and_true] at h
    rcases h with ⟨rfl, rfl⟩ | ⟨rfl, rfl⟩ | ⟨rfl, rfl⟩ <;> simp

theorem tokOK_sign (w : List UInt8) (l c : Int) (h1 : w ≠ []) (h2 : ∀ b ∈ w, b ≠ 10) (h3 : startB (w.getD 0 0) = true) (h4 : w.getD 0 0 = 47 → w = [47]) (h5 : wordB (w.getD 0 0) = false) (h6 : w.getD 0 0 ≠ 35)
    (h7 : ∀ L C, signT ⟨w, L, C⟩ = (⟨5, w, 0, L, C⟩, true)) (h8 : ∀ L C, signR ⟨w, L, C⟩ = skipS w.length ⟨w, L, C⟩) : TokOK ⟨5, w, 0, l, c⟩ where
  ne := h1
  nl := h2
  st := h3
  sl := h4
  nt L C := by unfold nextT; rw [if_neg (by simp only [h5]; simp), if_neg h6]; exact h7 L C
  nr L C := by unfold nextR; rw [if_neg (by simp only [h5]; simp), if_neg h6]; exact h8 L C
  kd := by simp

theorem nextT_ok (r : Rd) (hne : r.rest ≠ []) (h : (nextT r).2 = true) : TokOK (nextT r).1 := by
  unfold nextT at h ⊢
  split at h
  · rename_i hw
    rw [if_pos hw]
    obtain ⟨hh, hn⟩ := word_head hne hw
    obtain ⟨ht, hk⟩ := wordT_text r
    refine ⟨by rw [ht]; exact hn, fun b hb => wordB_nl b (takeWhile_mem _ _ b (by rw [← ht]; exact hb)), by rw [ht, hh]; unfold startB; rw [hw]; rfl, ?_, ?_, ?_, hk⟩
    · rw [ht, hh]
      intro h47; rw [h47] at hw; exact absurd hw (by decide)
    · intro L C
      rw [ht]
      unfold nextT
      rw [if_pos (by simp only [hh]; exact hw), wordT_alone, h]
    · intro L C
      rw [ht]
      unfold nextR
      rw [if_pos (by simp only [hh]; exact hw), wordN_all _ (takeWhile_mem _ _)]
  · rename_i hw
    rw [if_neg hw]
    split at h
    · rename_i h35
      rw [if_pos h35]
      have ht : (realT r).1.text = 35 :: (r.rest.drop 1).takeWhile wordB := realText_eq r
      have hd : ∀ L C, realText ⟨(realT r).1.text, L, C⟩ = (realT r).1.text := by
        intro L C
        rw [realText_eq, ht]
        simp only [List.drop_succ_cons, List.drop_zero]
        rw [takeWhile_all _ _ (takeWhile_mem _ _)]
      refine ⟨by rw [ht]; simp, ?_, by rw [ht]; rfl, by rw [ht]; intro h9; revert h9; simp, ?_, ?_, by simp [realT]⟩
      · intro b hb
        rw [ht] at hb
        rcases List.mem_cons.1 hb with rfl | hb
        · decide
        · exact wordB_nl b (takeWhile_mem _ _ b hb)
      · intro L C
        unfold nextT
        have e0 : (realT r).1.text.getD 0 0 = 35 := by rw [ht]; rfl
        rw [if_neg (by simp only [e0]; decide), if_pos e0]
        unfold realT
        rw [show realText ⟨realText r, L, C⟩ = realText r from hd L C]
        unfold realT at h
        simp only at h
        simp only [h]
      · intro L C
        unfold nextR
        have e0 : (realT r).1.text.getD 0 0 = 35 := by rw [ht]; rfl
        rw [if_neg (by simp only [e0]; decide), if_pos e0]
        unfold realR
        have e1 : (realT r).1.text.drop 1 = (r.rest.drop 1).takeWhile wordB := by rw [ht]; rfl
        simp only [e1]
        rw [wordN_all _ (takeWhile_mem _ _), skipS_add _ _ _ (by rw [ht]; simp), ht]
        simp only [List.length_cons]
        rw [Nat.add_comm]
    · rename_i h35
      rw [if_neg h35]
      unfold signT at h ⊢
      split at h
      · rename_i h2
        rw [if_pos h2]
        have key : ∀ w : List UInt8, (w = [61, 61] ∨ w = [33, 61] ∨ w = [60, 61]) → TokOK ⟨5, w, 0, r.line, r.col⟩ := by
          intro w hw
          rcases hw with rfl | rfl | rfl <;>
            exact tokOK_sign _ _ _ (by simp) (by simp) (by decide) (by decide) (by decide) (by decide) (fun L C => rfl) (fun L C => rfl)
        exact key _ (two_take h2)
      · rename_i h2
        rw [if_neg h2]
        split at h
        · rename_i h3
          rw [if_pos h3, one_take _ hne]
          have hnl := startB_blank (r.rest.getD 0 0) (by simp only [startB, h3, Bool.or_true])
          refine tokOK_sign _ _ _ (by simp) (by simpa using hnl.2) (by simp only [List.getD_cons_zero, startB, h3, Bool.or_true]) (by simp) ?_ (by simpa using h35) ?_ ?_
          · simpa using hw
          · intro L C
            unfold signT
            rw [if_neg (by simp [twoB, List.isPrefixOf]), if_pos (by simpa using h3)]
            simp
          · intro L C
            unfold signR
            rw [if_neg (by simp [twoB, List.isPrefixOf]), if_pos (by simpa using h3)]
            simp
        · cases h

/-- A token's text in front of what parts tokens. -/
theorem TokOK.front {x : Tok} (h : TokOK x) {b : UInt8} (hb : SepB b) (rest : List UInt8) (L C : Int) :
    blankS ⟨x.text ++ b :: rest, L, C⟩ = ⟨x.text ++ b :: rest, L, C⟩ ∧ nextT ⟨x.text ++ b :: rest, L, C⟩ = (⟨x.kind, x.text, x.n, L, C⟩, true) ∧
      nextR ⟨x.text ++ b :: rest, L, C⟩ = ⟨b :: rest, advL L x.text, advC C x.text⟩ := by
  have e0 : (x.text ++ b :: rest).getD 0 0 = x.text.getD 0 0 := getD_app _ _ h.ne
  refine ⟨blankS_fix ?_ ?_, ?_, ?_⟩
  · have hne := h.ne
    cases ht : x.text with
    | nil => exact absurd ht hne
    | cons y w =>
      by_cases h47 : y = 47
      · have := h.sl (by rw [ht]; exact h47)
        rw [ht] at this
        injection this with h1 h2
        subst h1; subst h2
        rcases hb with rfl | rfl <;> rfl
      · simp only [List.cons_append, List.isPrefixOf]
        have : ((47 : UInt8) == y) = false := by simpa using fun h9 => h47 h9.symm
        rw [this]; rfl
  · show blankB ((x.text ++ b :: rest).getD 0 0) = false
    rw [e0]
    exact (startB_blank _ h.st).1
  · have := nextT_app hb ⟨x.text, L, C⟩ rest h.ne
    rw [h.nt] at this
    exact this
  · have := nextR_app hb ⟨x.text, L, C⟩ rest h.ne
    rw [h.nr] at this
    refine this.trans ?_
    simp [app, skipS]

/-! ### the lexer from a place on -/
def glue (acc : List Tok) (x : List Tok × Int × Int × Int) : List Tok × Int × Int × Int := if x.2.1 = 0 then (acc ++ x.1, x.2) else x
theorem glue_glue (a b : List Tok) (x : List Tok × Int × Int × Int) : glue a (glue b x) = glue (a ++ b) x := by
  unfold glue
  by_cases h : x.2.1 = 0
  · simp only [h, if_true, List.append_assoc]
  · simp only [h, if_false]

theorem lexF_acc : ∀ (k : Nat) (r : Rd) (acc : List Tok), lexF k r acc = glue acc (lexF k r [])
  | 0, r, acc => by simp [lexF, glue]
  | k + 1, r, acc => by
    rw [lexF, lexF]
    split
    · simp [glue]
    · split
      · rw [lexF_acc k _ (acc ++ _), lexF_acc k _ ([] ++ _), glue_glue, List.nil_append]
      · simp [glue]

theorem lexF_fuel : ∀ (k j : Nat) (r : Rd), r.rest.length < k → r.rest.length < j → lexF k r [] = lexF j r []
  | 0, _, r, h, _ => absurd h (Nat.not_lt_zero _)
  | _, 0, r, _, h => absurd h (Nat.not_lt_zero _)
  | k + 1, j + 1, r, h1, h2 => by
    rw [lexF, lexF]
    split
    · rfl
    · rename_i hne
      split
      · rename_i hok
        have hl := nextR_lt hne hok
        have hb := blankS_len r
        rw [lexF_acc k, lexF_acc j, lexF_fuel k j _ (by omega) (by omega)]
      · rfl

def lexR (r : Rd) : List Tok × Int × Int × Int := lexF (r.rest.length + 1) r []

theorem lexR_step (r : Rd) : lexR r = if (blankS r).rest = [] then ([⟨0, [], 0, (blankS r).line, (blankS r).col⟩], 0, 0, 0)
    else if (nextT (blankS r)).2 then glue [(nextT (blankS r)).1] (lexR (nextR (blankS r))) else ([], 3, (nextT (blankS r)).1.line, (nextT (blankS r)).1.col) := by
  unfold lexR
  rw [lexF]
  split
  · rfl
  · rename_i hne
    split
    · rename_i hok
      have hl := nextR_lt hne hok
      have hb := blankS_len r
      rw [lexF_acc, List.nil_append, lexF_fuel _ _ _ (show (nextR (blankS r)).rest.length < r.rest.length by omega) (Nat.lt_succ_self _)]
    · rfl

theorem lexR_blank {r r' : Rd} (h : blankS r = blankS r') : lexR r = lexR r' := by rw [lexR_step, lexR_step r', h]

theorem lexS_eq (t : List UInt8) (h : t.length ≤ 8192) : lexS t = lexR ⟨t, 1, 1⟩ := by
  unfold lexS lexR
  rw [if_neg (by omega)]

theorem glue_err {a : List Tok} {x : List Tok × Int × Int × Int} : (glue a x).2 = x.2 := by unfold glue; split <;> rfl

/-- It comes out right, or there are no tokens. -/
theorem lexR_ind {P : Rd → List Tok × Int × Int × Int → Prop}
    (h1 : ∀ r, (blankS r).rest = [] → P r ([⟨0, [], 0, (blankS r).line, (blankS r).col⟩], 0, 0, 0))
    (h2 : ∀ r, (blankS r).rest ≠ [] → (nextT (blankS r)).2 = true → P (nextR (blankS r)) (lexR (nextR (blankS r))) → P r (glue [(nextT (blankS r)).1] (lexR (nextR (blankS r)))))
    (h3 : ∀ r, (blankS r).rest ≠ [] → (nextT (blankS r)).2 = false → P r ([], 3, (nextT (blankS r)).1.line, (nextT (blankS r)).1.col)) : ∀ r, P r (lexR r) := by
  have key : ∀ (n : Nat) (r : Rd), r.rest.length < n → P r (lexR r) := by
    intro n
    induction n with
    | zero => intro r h; exact absurd h (Nat.not_lt_zero _)
    | succ n ih =>
      intro r h
      rw [lexR_step]
      split
      · rename_i he; exact h1 r he
      · rename_i hne
        split
        · rename_i hok
          have hl := nextR_lt hne hok
          have hb := blankS_len r
          exact h2 r hne hok (ih _ (by omega))
        · rename_i hok; exact h3 r hne (Bool.eq_false_iff.2 hok)
  exact fun r => key _ r (Nat.lt_succ_self _)

theorem lexR_none (r : Rd) : (lexR r).2.1 ≠ 0 → (lexR r).1 = [] ∧ (lexR r).2.1 = 3 := by
  refine lexR_ind (P := fun r x => x.2.1 ≠ 0 → x.1 = [] ∧ x.2.1 = 3) ?_ ?_ ?_ r
  · intro r _ h; exact absurd rfl h
  · intro r _ _ ih h
    rw [glue_err] at h
    unfold glue
    rw [if_neg h]
    exact ih h
  · intro r _ _ _; exact ⟨rfl, rfl⟩

/-- The tokens: all right ones, and the end. -/
theorem lexR_toks (r : Rd) : (lexR r).2.1 = 0 → (lexR r).2 = (0, 0, 0) ∧ ∃ xs l c, (lexR r).1 = xs ++ [⟨0, [], 0, l, c⟩] ∧ (∀ x ∈ xs, TokOK x) ∧ xs.length ≤ r.rest.length ∧ ∀ x ∈ xs, x.text.length ≤ r.rest.length := by
  refine lexR_ind (P := fun r x => x.2.1 = 0 → x.2 = (0, 0, 0) ∧ ∃ xs l c, x.1 = xs ++ [⟨0, [], 0, l, c⟩] ∧ (∀ x ∈ xs, TokOK x) ∧ xs.length ≤ r.rest.length ∧ ∀ x ∈ xs, x.text.length ≤ r.rest.length) ?_ ?_ ?_ r
  · intro r _ _
    exact ⟨rfl, [], _, _, rfl, by simp, by simp, by simp⟩
  · intro r hne hok ih h
    rw [glue_err] at h
    obtain ⟨h0, xs, l, c, e, h1, h2, h3⟩ := ih h
    have hl := nextR_lt hne hok
    have hb := blankS_len r
    refine ⟨by rw [glue_err]; exact h0, (nextT (blankS r)).1 :: xs, l, c, by unfold glue; rw [if_pos h, e]; rfl, ?_, by simp only [List.length_cons]; omega, ?_⟩
    · intro x hx
      rcases List.mem_cons.1 hx with rfl | hx
      · exact nextT_ok _ hne hok
      · exact h1 x hx
    · intro x hx
      rcases List.mem_cons.1 hx with rfl | hx
      · refine Nat.le_trans ?_ hb
        have hp : 1 ≤ (blankS r).rest.length := by cases hr : (blankS r).rest with | nil => exact absurd hr hne | cons _ _ => simp
        unfold nextT
        split
        · rw [(wordT_text _).1]; exact takeWhile_le _ _
        · split
          · show (realText _).length ≤ _
            rw [realText_eq]
            have := takeWhile_le wordB ((blankS r).rest.drop 1)
            simp only [List.length_drop] at this
            simp only [List.length_cons]; omega
          · unfold signT
            split
            · simp only [List.length_take]; omega
            · split
              · simp only [List.length_take]; omega
              · simp
      · have := h3 x hx; omega
  · intro r _ _ h
    cases h

end Go.AE

/- Plain laws of the lexer: LexBack, LexNotes, LexJoins, LexPlaces. -/
set_option linter.unusedVariables false
set_option linter.unusedSimpArgs false
namespace Go.AE

/-! ### tokens, and blanks between -/
def Sp (sp : List UInt8) : Prop := ∃ b t, sp = b :: t ∧ SepB b ∧ ∀ rest L C, blankS ⟨sp ++ rest, L, C⟩ = blankS ⟨rest, advL L sp, advC C sp⟩

theorem Sp.nl : Sp [10] := ⟨10, [], rfl, .inl rfl, fun rest L C => by rw [List.singleton_append, blankS_nl]; rfl⟩
theorem Sp.sp : Sp [32] := ⟨32, [], rfl, .inr rfl, fun rest L C => by rw [List.singleton_append, blankS_sp]; rfl⟩
theorem Sp.note {note : List UInt8} (h : ∀ x ∈ note, x ≠ 10) : Sp ([32, 9, 47, 47] ++ note ++ [10]) := by
  refine ⟨32, [9, 47, 47] ++ note ++ [10], rfl, .inr rfl, fun rest L C => ?_⟩
  have e : [32, 9, 47, 47] ++ note ++ [10] ++ rest = 32 :: 9 :: 47 :: 47 :: (note ++ 10 :: rest) := by simp
  have hs : ∀ x ∈ [32, 9, 47, 47] ++ note, x ≠ 10 := by
    intro x hx
    rcases List.mem_append.1 hx with hx | hx
    · simp only [List.mem_cons, List.not_mem_nil, or_false] at hx
      rcases hx with rfl | rfl | rfl | rfl <;> decide
    · exact h x hx
  obtain ⟨h1, h2⟩ := adv_plain ([32, 9, 47, 47] ++ note) L C hs
  rw [e, blankS_sp, blankS_tab, blankS_note _ _ _ _ h, advL_append, advC_append, h1, h2]
  rfl

def catT : List (Tok × List UInt8) → List UInt8
  | [] => []
  | (x, sp) :: ps => x.text ++ (sp ++ catT ps)
def placed (L C : Int) : List (Tok × List UInt8) → List Tok
  | [] => []
  | (x, sp) :: ps => ⟨x.kind, x.text, x.n, L, C⟩ :: placed (advL L (x.text ++ sp)) (advC C (x.text ++ sp)) ps

theorem lexR_cat (sp0 : List UInt8) (h0 : Sp sp0) : ∀ (ps : List (Tok × List UInt8)) (L C : Int), (∀ p ∈ ps, TokOK p.1 ∧ Sp p.2) → ∃ l c, lexR ⟨catT ps ++ sp0, L, C⟩ = (placed L C ps ++ [⟨0, [], 0, l, c⟩], 0, 0, 0)
  | [], L, C, _ => by
    obtain ⟨b, t, e, hb, hs⟩ := h0
    have h1 := hs [] L C
    rw [List.append_nil] at h1
    have h2 : blankS ⟨[], advL L sp0, advC C sp0⟩ = ⟨[], advL L sp0, advC C sp0⟩ := by rw [blankS_step, if_pos rfl]
    refine ⟨advL L sp0, advC C sp0, ?_⟩
    rw [catT, List.nil_append, lexR_step, h1, h2, if_pos rfl]
    rfl
  | (x, sp) :: ps, L, C, h => by
    obtain ⟨hx, b, t, e, hb, hs⟩ := h (x, sp) (by simp)
    simp only at hx e hs
    have e1 : catT ((x, sp) :: ps) ++ sp0 = x.text ++ b :: (t ++ catT ps ++ sp0) := by rw [catT, e]; simp
    obtain ⟨f1, f2, f3⟩ := hx.front hb (t ++ catT ps ++ sp0) L C
    obtain ⟨l, c, ih⟩ := lexR_cat sp0 h0 ps (advL L (x.text ++ sp)) (advC C (x.text ++ sp)) fun p hp => h p (by simp [hp])
    refine ⟨l, c, ?_⟩
    have e2 : b :: (t ++ catT ps ++ sp0) = sp ++ (catT ps ++ sp0) := by rw [e]; simp
    have e3 : lexR ⟨b :: (t ++ catT ps ++ sp0), advL L x.text, advC C x.text⟩ = lexR ⟨catT ps ++ sp0, advL L (x.text ++ sp), advC C (x.text ++ sp)⟩ := by
      rw [e2, advL_append, advC_append]
      exact lexR_blank (hs _ _ _)
    rw [e1, lexR_step, f1, if_neg (by simp), f2, if_pos rfl, f3, e3, ih]
    rfl

theorem placed_length (L C : Int) : ∀ ps, (placed L C ps).length = ps.length
  | [] => rfl
  | (x, sp) :: ps => by simp [placed, placed_length]
theorem placed_at : ∀ (ps : List (Tok × List UInt8)) (L C : Int) (i : Nat), i < ps.length →
    ((placed L C ps).getD i default).kind = ((ps.map Prod.fst).getD i default).kind ∧ ((placed L C ps).getD i default).text = ((ps.map Prod.fst).getD i default).text ∧ ((placed L C ps).getD i default).n = ((ps.map Prod.fst).getD i default).n
  | [], L, C, i, h => by simp at h
  | (x, sp) :: ps, L, C, 0, h => ⟨rfl, rfl, rfl⟩
  | (x, sp) :: ps, L, C, i + 1, h => by
    have := placed_at ps (advL L (x.text ++ sp)) (advC C (x.text ++ sp)) i (by simpa using h)
    simpa [placed] using this

/-! ### LexBack -/
def backT : List Tok → List UInt8
  | [] => []
  | x :: l => x.text ++ [10] ++ backT l
theorem backT_append (a b : List Tok) : backT (a ++ b) = backT a ++ backT b := by
  induction a with
  | nil => rfl
  | cons x a ih => simp [backT, ih]
theorem backT_cat (xs : List Tok) (l c : Int) : backT (xs ++ [⟨0, [], 0, l, c⟩]) = catT (xs.map fun x => (x, [10])) ++ [10] := by
  induction xs with
  | nil => rfl
  | cons x xs ih => simp [backT, catT, ih]

theorem placed_nl : ∀ (xs : List Tok) (L : Int) (i : Nat), (∀ x ∈ xs, TokOK x) → i < xs.length → ((placed L 1 (xs.map fun x => (x, [10]))).getD i default).line = L + i ∧ ((placed L 1 (xs.map fun x => (x, [10]))).getD i default).col = 1
  | [], L, i, _, h => by simp at h
  | x :: xs, L, 0, _, h => by simp [placed]
  | x :: xs, L, i + 1, hx, h => by
    obtain ⟨h1, h2⟩ := adv_plain x.text L 1 (hx x (by simp)).nl
    have e1 : advL L (x.text ++ [10]) = L + 1 := by rw [advL_append, h1]; simp [advL]
    have e2 : advC 1 (x.text ++ [10]) = 1 := by rw [advC_append]; simp [advC]
    have := placed_nl xs (L + 1) i (fun y hy => hx y (by simp [hy])) (by simpa using h)
    simp only [List.map_cons, placed, e1, e2, List.getD_cons_succ]
    refine ⟨by rw [this.1]; omega, this.2⟩

theorem getD_left {a b : List Tok} {i : Nat} (h : i < a.length) : (a ++ b).getD i default = a.getD i default := by
  simp [List.getD, List.getElem?_append_left h]

theorem back_plain (s : List UInt8) (hs : s.length ≤ 8192) (h : (lexS s).2.1 = 0) (ht : (backT (lexS s).1).length ≤ 8192) :
    (lexS (backT (lexS s).1)).2 = (0, 0, 0) ∧ (lexS (backT (lexS s).1)).1.length = (lexS s).1.length ∧ ∀ i, i < (lexS s).1.length →
      ((lexS (backT (lexS s).1)).1.getD i default).kind = ((lexS s).1.getD i default).kind ∧ ((lexS (backT (lexS s).1)).1.getD i default).text = ((lexS s).1.getD i default).text ∧ ((lexS (backT (lexS s).1)).1.getD i default).n = ((lexS s).1.getD i default).n ∧
      (i + 1 < (lexS s).1.length → ((lexS (backT (lexS s).1)).1.getD i default).line = i + 1 ∧ ((lexS (backT (lexS s).1)).1.getD i default).col = 1) := by
  rw [lexS_eq _ ht]
  rw [lexS_eq s hs] at h ht ⊢
  obtain ⟨h0, xs, l, c, e, hok, _, _⟩ := lexR_toks _ h
  rw [e, backT_cat]
  obtain ⟨l', c', e'⟩ := lexR_cat [10] Sp.nl (xs.map fun x => (x, [10])) 1 1 (by
    intro p hp
    obtain ⟨x, hx, rfl⟩ := List.mem_map.1 hp
    exact ⟨hok x hx, Sp.nl⟩)
  rw [e']
  have hl : (placed 1 1 (xs.map fun x => (x, [10]))).length = xs.length := by rw [placed_length]; simp
  refine ⟨rfl, by simp [hl], ?_⟩
  intro i hi
  simp only [List.length_append, List.length_cons, List.length_nil] at hi
  by_cases hlt : i < xs.length
  · rw [getD_left (by rw [hl]; exact hlt), getD_left hlt]
    obtain ⟨k1, k2, k3⟩ := placed_at (xs.map fun x => (x, [10])) 1 1 i (by simpa using hlt)
    have em : (xs.map fun x => (x, ([10] : List UInt8))).map Prod.fst = xs := by
      rw [List.map_map]
      exact List.map_id xs
    rw [em] at k1 k2 k3
    obtain ⟨q1, q2⟩ := placed_nl xs 1 i hok hlt
    exact ⟨k1, k2, k3, fun _ => ⟨by rw [q1]; omega, q2⟩⟩
  · have : i = xs.length := by omega
    subst this
    refine ⟨?_, ?_, ?_, fun h9 => by simp at h9⟩ <;> simp [List.getD, hl]

/-! ### LexNotes -/
def spN (note : List UInt8) (i : Nat) : List UInt8 := if i % 3 = 0 then [32, 9, 47, 47] ++ note ++ [10] else [32]
theorem spN_ok {note : List UInt8} (h : ∀ x ∈ note, x ≠ 10) (i : Nat) : Sp (spN note i) := by
  unfold spN; split
  · exact Sp.note h
  · exact Sp.sp
def noteT (note : List UInt8) : Nat → List Tok → List UInt8
  | _, [] => []
  | i, x :: l => x.text ++ (spN note i ++ noteT note (i + 1) l)
theorem noteT_append (note : List UInt8) (a b : List Tok) : ∀ i, noteT note i (a ++ b) = noteT note i a ++ noteT note (i + a.length) b := by
  induction a with
  | nil => intro i; rfl
  | cons x a ih => intro i; simp only [List.cons_append, noteT, ih, List.length_cons, List.append_assoc, show i + (a.length + 1) = i + 1 + a.length by omega]
def pairN (note : List UInt8) : Nat → List Tok → List (Tok × List UInt8)
  | _, [] => []
  | i, x :: l => (x, spN note i) :: pairN note (i + 1) l
theorem noteT_cat (note : List UInt8) (xs : List Tok) (l c : Int) : ∀ i, noteT note i (xs ++ [⟨0, [], 0, l, c⟩]) = catT (pairN note i xs) ++ spN note (i + xs.length) := by
  induction xs with
  | nil => intro i; simp [noteT, catT, pairN]
  | cons x xs ih => intro i; simp only [List.cons_append, noteT, ih, catT, pairN, List.length_cons, List.append_assoc, show i + (xs.length + 1) = i + 1 + xs.length by omega]
theorem pairN_fst (note : List UInt8) (xs : List Tok) : ∀ i, (pairN note i xs).map Prod.fst = xs := by
  induction xs with
  | nil => intro i; rfl
  | cons x xs ih => intro i; simp [pairN, ih]
theorem pairN_ok {note : List UInt8} (h : ∀ x ∈ note, x ≠ 10) (xs : List Tok) (hx : ∀ x ∈ xs, TokOK x) : ∀ i, ∀ p ∈ pairN note i xs, TokOK p.1 ∧ Sp p.2 := by
  induction xs with
  | nil => intro i p hp; cases hp
  | cons x xs ih =>
    intro i p hp
    rcases List.mem_cons.1 hp with rfl | hp
    · exact ⟨hx x (by simp), spN_ok h i⟩
    · exact ih (fun y hy => hx y (by simp [hy])) _ p hp

theorem notes_plain (s note : List UInt8) (hn : ∀ x ∈ note, x ≠ 10) (hs : s.length ≤ 8192) (h : (lexS s).2.1 = 0) (ht : (noteT note 0 (lexS s).1).length ≤ 8192) :
    (lexS (noteT note 0 (lexS s).1)).2 = (0, 0, 0) ∧ (lexS (noteT note 0 (lexS s).1)).1.length = (lexS s).1.length ∧ ∀ i, i < (lexS s).1.length →
      ((lexS (noteT note 0 (lexS s).1)).1.getD i default).kind = ((lexS s).1.getD i default).kind ∧ ((lexS (noteT note 0 (lexS s).1)).1.getD i default).text = ((lexS s).1.getD i default).text ∧ ((lexS (noteT note 0 (lexS s).1)).1.getD i default).n = ((lexS s).1.getD i default).n := by
  rw [lexS_eq _ ht]
  rw [lexS_eq s hs] at h ht ⊢
  obtain ⟨h0, xs, l, c, e, hok, _, _⟩ := lexR_toks _ h
  rw [e, noteT_cat]
  obtain ⟨l', c', e'⟩ := lexR_cat (spN note (0 + xs.length)) (spN_ok hn _) (pairN note 0 xs) 1 1 (pairN_ok hn xs hok 0)
  rw [e']
  have hl0 : (pairN note 0 xs).length = xs.length := by
    have := congrArg List.length (pairN_fst note xs 0)
    simpa using this
  have hl : (placed 1 1 (pairN note 0 xs)).length = xs.length := by rw [placed_length, hl0]
  refine ⟨rfl, by simp [hl], ?_⟩
  intro i hi
  simp only [List.length_append, List.length_cons, List.length_nil] at hi
  by_cases hlt : i < xs.length
  · rw [getD_left (by rw [hl]; exact hlt), getD_left hlt]
    obtain ⟨k1, k2, k3⟩ := placed_at (pairN note 0 xs) 1 1 i (by rw [hl0]; exact hlt)
    rw [pairN_fst] at k1 k2 k3
    exact ⟨k1, k2, k3⟩
  · have : i = xs.length := by omega
    subst this
    refine ⟨?_, ?_, ?_⟩ <;> simp [List.getD, hl]

/-! ### LexJoins -/
def shR (d : Int) (r : Rd) : Rd := ⟨r.rest, r.line + d, r.col⟩
def shT (d : Int) (x : Tok) : Tok := { x with line := x.line + d }
theorem advL_sh (d : Int) : ∀ (s : List UInt8) (L : Int), advL (L + d) s = advL L s + d
  | [], L => rfl
  | b :: s, L => by
    simp only [advL]
    split
    · rw [show L + d + 1 = L + 1 + d by omega, advL_sh d s]
    · exact advL_sh d s L
theorem skipS_sh (d : Int) (n : Nat) (r : Rd) : skipS n (shR d r) = shR d (skipS n r) := by simp only [skipS, shR, advL_sh]
theorem blankS_sh (d : Int) (n : Nat) : ∀ (r : Rd), r.rest.length ≤ n → blankS (shR d r) = shR d (blankS r) := by
  induction n with
  | zero =>
    intro r h
    have : r.rest = [] := List.length_eq_zero_iff.1 (by omega)
    rw [blankS_step (shR d r), if_pos (show (shR d r).rest = [] from this), blankS_step r, if_pos this]
  | succ n ih =>
    intro r h
    by_cases hne : r.rest = []
    · rw [blankS_step (shR d r), if_pos (show (shR d r).rest = [] from hne), blankS_step r, if_pos hne]
    · have hp : 1 ≤ r.rest.length := by cases hr : r.rest with | nil => exact absurd hr hne | cons _ _ => simp
      rw [blankS_step (shR d r), if_neg (show ¬ (shR d r).rest = [] from hne), blankS_step r, if_neg hne]
      show (if [47, 47].isPrefixOf r.rest then blankS (skipS (lineN r.rest) (shR d r)) else if blankB (r.rest.getD 0 0) then blankS (skipS 1 (shR d r)) else shR d r) = _
      split
      · rename_i hl
        have := lineN_pos hl
        rw [skipS_sh, ih _ (by simp only [skipS, List.length_drop]; omega)]
      · split
        · rw [skipS_sh, ih _ (by simp only [skipS, List.length_drop]; omega)]
        · rfl
theorem nextT_sh (d : Int) (r : Rd) : nextT (shR d r) = (shT d (nextT r).1, (nextT r).2) := by
  unfold nextT
  show (if wordB (r.rest.getD 0 0) then wordT (shR d r) else if (r.rest.getD 0 0) = 35 then realT (shR d r) else signT (shR d r)) = _
  split
  · unfold wordT
    show (if isWordS (r.rest.take (wordN r.rest)) then _ else if isNameS (r.rest.take (wordN r.rest)) then _ else _) = _
    dsimp only
    split
    · rfl
    · split <;> rfl
  · split
    · rfl
    · unfold signT
      show (if twoB r.rest then _ else if signB (r.rest.getD 0 0) then _ else _) = _
      split
      · rfl
      · split <;> rfl
theorem nextR_sh (d : Int) (r : Rd) : nextR (shR d r) = shR d (nextR r) := by
  unfold nextR
  show (if wordB (r.rest.getD 0 0) then skipS (wordN r.rest) (shR d r) else if (r.rest.getD 0 0) = 35 then realR (shR d r) else signR (shR d r)) = _
  split
  · exact skipS_sh _ _ _
  · split
    · unfold realR
      show skipS (wordN (r.rest.drop 1)) (skipS 1 (shR d r)) = _
      rw [skipS_sh, skipS_sh]
    · unfold signR
      show (if twoB r.rest then skipS 2 (shR d r) else if signB (r.rest.getD 0 0) then skipS 1 (shR d r) else shR d r) = _
      split
      · exact skipS_sh _ _ _
      · split
        · exact skipS_sh _ _ _
        · rfl
theorem lexR_sh (d : Int) (r : Rd) : (lexR (shR d r)).1 = (lexR r).1.map (shT d) ∧ (lexR (shR d r)).2.1 = (lexR r).2.1 := by
  refine lexR_ind (P := fun r x => (lexR (shR d r)).1 = x.1.map (shT d) ∧ (lexR (shR d r)).2.1 = x.2.1) ?_ ?_ ?_ r
  · intro r he
    rw [lexR_step, blankS_sh d _ r (Nat.le_refl _), if_pos (show (shR d (blankS r)).rest = [] from he)]
    exact ⟨rfl, rfl⟩
  · intro r hne hok ih
    rw [lexR_step (shR d r), blankS_sh d _ r (Nat.le_refl _), if_neg (show ¬ (shR d (blankS r)).rest = [] from hne), nextT_sh, if_pos hok, nextR_sh]
    obtain ⟨i1, i2⟩ := ih
    unfold glue
    rw [i2]
    split
    · exact ⟨by rw [i1]; rfl, i2⟩
    · exact ⟨i1, i2⟩
  · intro r hne hok
    rw [lexR_step (shR d r), blankS_sh d _ r (Nat.le_refl _), if_neg (show ¬ (shR d (blankS r)).rest = [] from hne), nextT_sh, if_neg (by simp only [hok]; simp)]
    exact ⟨rfl, rfl⟩

theorem blankS_app (b : List UInt8) (n : Nat) : ∀ (r : Rd), r.rest.length ≤ n → ((blankS r).rest = [] → blankS (app r (10 :: b)) = blankS ⟨b, (blankS r).line + 1, 1⟩) ∧ ((blankS r).rest ≠ [] → blankS (app r (10 :: b)) = app (blankS r) (10 :: b)) := by
  have base : ∀ r : Rd, r.rest = [] → ((blankS r).rest = [] → blankS (app r (10 :: b)) = blankS ⟨b, (blankS r).line + 1, 1⟩) ∧ ((blankS r).rest ≠ [] → blankS (app r (10 :: b)) = app (blankS r) (10 :: b)) := by
    intro r h
    have e : blankS r = r := by rw [blankS_step, if_pos h]
    rw [e]
    refine ⟨fun _ => ?_, fun h9 => absurd h h9⟩
    simp only [app, h, List.nil_append]
    exact blankS_nl _ _ _
  induction n with
  | zero => intro r h; exact base r (List.length_eq_zero_iff.1 (by omega))
  | succ n ih =>
    intro r h
    by_cases hne : r.rest = []
    · exact base r hne
    · have hp : 1 ≤ r.rest.length := by cases hr : r.rest with | nil => exact absurd hr hne | cons _ _ => simp
      have e0 : (app r (10 :: b)).rest.getD 0 0 = r.rest.getD 0 0 := getD_app _ _ hne
      have epre : [47, 47].isPrefixOf (app r (10 :: b)).rest = [47, 47].isPrefixOf r.rest := by
        show [47, 47].isPrefixOf (r.rest ++ 10 :: b) = _
        match r.rest, hne with
        | [x], _ => simp [List.isPrefixOf]
        | x :: y :: v, _ => simp [List.isPrefixOf]
      have elin : lineN (app r (10 :: b)).rest = lineN r.rest := by
        show lineN (r.rest ++ 10 :: b) = _
        unfold lineN
        rw [takeWhile_stop _ _ _ _ (by decide)]
      rw [blankS_step r, if_neg hne, blankS_step (app r (10 :: b)), if_neg (show ¬ (app r (10 :: b)).rest = [] by simp [app]), epre, e0, elin]
      split
      · rename_i hl
        have := lineN_pos hl
        rw [skipS_app _ _ _ (lineN_le _)]
        exact ih _ (by simp only [skipS, List.length_drop]; omega)
      · split
        · rw [skipS_app _ _ _ hp]
          exact ih _ (by simp only [skipS, List.length_drop]; omega)
        · exact ⟨fun h9 => absurd h9 hne, fun _ => rfl⟩

theorem lexR_join (b : List UInt8) (r : Rd) : ((lexR r).2.1 ≠ 0 → lexR (app r (10 :: b)) = lexR r) ∧ ((lexR r).2.1 = 0 → ∀ xs l c, (lexR r).1 = xs ++ [⟨0, [], 0, l, c⟩] → lexR (app r (10 :: b)) = glue xs (lexR ⟨b, l + 1, 1⟩)) := by
  refine lexR_ind (P := fun r x => (x.2.1 ≠ 0 → lexR (app r (10 :: b)) = x) ∧ (x.2.1 = 0 → ∀ xs l c, x.1 = xs ++ [⟨0, [], 0, l, c⟩] → lexR (app r (10 :: b)) = glue xs (lexR ⟨b, l + 1, 1⟩))) ?_ ?_ ?_ r
  · intro r he
    refine ⟨fun h => absurd rfl h, fun _ xs l c e => ?_⟩
    have e1 : ([] : List Tok) ++ [⟨0, [], 0, (blankS r).line, (blankS r).col⟩] = xs ++ [⟨0, [], 0, l, c⟩] := e
    obtain ⟨e2, e3⟩ := List.append_inj' e1 rfl
    injection e3 with e3 _
    injection e3 with _ _ _ e4 e5
    subst e2; subst e4
    rw [lexR_blank ((blankS_app b _ r (Nat.le_refl _)).1 he)]
    unfold glue
    split <;> rfl
  · intro r hne hok ih
    have hb := (blankS_app b _ r (Nat.le_refl _)).2 hne
    have hstep : lexR (app r (10 :: b)) = glue [(nextT (blankS r)).1] (lexR (app (nextR (blankS r)) (10 :: b))) := by
      rw [lexR_step, hb, if_neg (by simp [app]), nextT_app (.inl rfl) _ _ hne, if_pos hok, nextR_app (.inl rfl) _ _ hne]
    rw [hstep]
    refine ⟨fun h => ?_, fun h xs l c e => ?_⟩
    · rw [glue_err] at h
      rw [ih.1 h]
    · rw [glue_err] at h
      obtain ⟨_, ys, l', c', e', _⟩ := lexR_toks _ h
      unfold glue at e
      rw [if_pos h, e'] at e
      have e1 : ((nextT (blankS r)).1 :: ys) ++ [⟨0, [], 0, l', c'⟩] = xs ++ [⟨0, [], 0, l, c⟩] := by rw [← e]; simp
      obtain ⟨e2, e3⟩ := List.append_inj' e1 rfl
      injection e3 with e3 _
      injection e3 with _ _ _ e4 e5
      rw [ih.2 h ys l' c' e', glue_glue, e4, ← e2]
      rfl
  · intro r hne hok
    refine ⟨fun _ => ?_, fun h => by cases h⟩
    have hb := (blankS_app b _ r (Nat.le_refl _)).2 hne
    rw [lexR_step, hb, if_neg (by simp [app]), nextT_app (.inl rfl) _ _ hne, if_neg (by simp only [hok]; simp)]

def joinT (x y : List Tok) (i : Nat) : Tok := if i + 1 < x.length then x.getD i default else shT (x.getD (x.length - 1) default).line (y.getD (i + 1 - x.length) default)

theorem joins_plain (a b : List UInt8) (ha : a.length ≤ 4096) (hb : b.length < 4096) :
    (((lexS a).2.1 ≠ 0 ∨ (lexS b).2.1 ≠ 0) → (lexS (a ++ [10] ++ b)).2.1 ≠ 0 ∧ (lexS (a ++ [10] ++ b)).1 = [] ∧ ((lexS a).2.1 ≠ 0 → (lexS (a ++ [10] ++ b)).2 = (lexS a).2)) ∧
    ((lexS a).2.1 = 0 → (lexS b).2.1 = 0 → (lexS (a ++ [10] ++ b)).2 = (0, 0, 0) ∧ (lexS a).1.length ≠ 0 ∧ (lexS (a ++ [10] ++ b)).1.length = (lexS a).1.length - 1 + (lexS b).1.length ∧
      ∀ i, i < (lexS (a ++ [10] ++ b)).1.length → (lexS (a ++ [10] ++ b)).1.getD i default = joinT (lexS a).1 (lexS b).1 i) := by
  have e : lexS (a ++ [10] ++ b) = lexR (app ⟨a, 1, 1⟩ (10 :: b)) := by
    rw [lexS_eq _ (by simp only [List.length_append, List.length_cons, List.length_nil]; omega)]
    simp [app]
  rw [e, lexS_eq a (by omega), lexS_eq b (by omega)]
  obtain ⟨j1, j2⟩ := lexR_join b ⟨a, 1, 1⟩
  by_cases h : (lexR ⟨a, 1, 1⟩).2.1 = 0
  · obtain ⟨h0, xs, l, c, ex, _⟩ := lexR_toks _ h
    have ej := j2 h xs l c ex
    obtain ⟨s1, s2⟩ := lexR_sh l ⟨b, 1, 1⟩
    have esh : shR l ⟨b, 1, 1⟩ = ⟨b, l + 1, 1⟩ := by simp [shR, Int.add_comm]
    rw [esh] at s1 s2
    refine ⟨?_, ?_⟩
    · rintro (h9 | h9)
      · exact absurd h h9
      · have h8 : (lexR ⟨b, l + 1, 1⟩).2.1 ≠ 0 := by rw [s2]; exact h9
        rw [ej, glue_err]
        refine ⟨h8, ?_, fun h7 => absurd h h7⟩
        unfold glue
        rw [if_neg h8]
        exact (lexR_none _ h8).1
    · intro _ hbz
      have h8 : (lexR ⟨b, l + 1, 1⟩).2.1 = 0 := by rw [s2]; exact hbz
      obtain ⟨h00, _⟩ := lexR_toks _ h8
      rw [ej, glue_err]
      have eg : (glue xs (lexR ⟨b, l + 1, 1⟩)).1 = xs ++ (lexR ⟨b, 1, 1⟩).1.map (shT l) := by
        unfold glue
        rw [if_pos h8, s1]
      rw [eg, ex]
      refine ⟨h00, by simp, by simp, ?_⟩
      intro i hi
      simp only [List.length_append, List.length_map] at hi
      unfold joinT
      simp only [List.length_append, List.length_cons, List.length_nil]
      by_cases hlt : i < xs.length
      · rw [if_pos (by omega), getD_left hlt, getD_left hlt]
      · rw [if_neg (by omega)]
        have e1 : (xs ++ [(⟨0, [], 0, l, c⟩ : Tok)]).getD (xs.length + (0 + 1) - 1) default = ⟨0, [], 0, l, c⟩ := by simp [List.getD]
        rw [e1, show i + 1 - (xs.length + (0 + 1)) = i - xs.length by omega]
        have hj : i - xs.length < (lexR ⟨b, 1, 1⟩).1.length := by omega
        simp [List.getD, List.getElem?_append_right (Nat.le_of_not_lt hlt), List.getElem?_map, List.getElem?_eq_getElem hj]
  · refine ⟨fun _ => ?_, fun h9 => absurd h9 h⟩
    rw [j1 h]
    exact ⟨h, (lexR_none _ h).1, fun _ => rfl⟩

/-! ### LexPlaces -/
theorem place_lt : ∀ (u : List UInt8) (L C : Int), u ≠ [] → L < advL L u ∨ (advL L u = L ∧ C < advC C u)
  | [], L, C, h => absurd rfl h
  | b :: u, L, C, _ => by
    simp only [advL, advC]
    by_cases hb : b = 10
    · simp only [hb, if_true]
      have := advL_le (L + 1) u
      exact .inl (by omega)
    · simp only [hb, if_false]
      by_cases hu : u = []
      · subst hu; exact .inr ⟨rfl, by simp only [advC]; omega⟩
      · rcases place_lt u L (C + 1) hu with h | ⟨h1, h2⟩
        · exact .inl h
        · exact .inr ⟨h1, by omega⟩

def lineAt (s : List UInt8) (i : Nat) : Int := advL 1 (s.take i)
def colAt (s : List UInt8) (i : Nat) : Int := advC 1 (s.take i)
theorem place_inj (s : List UInt8) (i j : Nat) (hi : i ≤ s.length) (hj : j ≤ s.length) (h1 : lineAt s i = lineAt s j) (h2 : colAt s i = colAt s j) : i = j := by
  have key : ∀ i j, i < j → j ≤ s.length → lineAt s i = lineAt s j → colAt s i = colAt s j → False := by
    intro i j hij hj h1 h2
    have e : s.take j = s.take i ++ (s.drop i).take (j - i) := by rw [← List.take_add]; congr 1; omega
    unfold lineAt at h1; unfold colAt at h2
    rw [e, advL_append] at h1
    rw [e, advC_append] at h2
    have hne : (s.drop i).take (j - i) ≠ [] := by
      intro h9
      have := congrArg List.length h9
      simp only [List.length_take, List.length_drop, List.length_nil] at this
      omega
    rcases place_lt _ (advL 1 (s.take i)) (advC 1 (s.take i)) hne with h | ⟨_, h⟩ <;> omega
  rcases Nat.lt_trichotomy i j with h | h | h
  · exact (key i j h hj h1 h2).elim
  · exact h
  · exact (key j i h hi h1.symm h2.symm).elim

def rdAt (s : List UInt8) (i : Nat) : Rd := ⟨s.drop i, lineAt s i, colAt s i⟩
theorem skipS_at (s : List UInt8) (i n : Nat) (h : i + n ≤ s.length) : skipS n (rdAt s i) = rdAt s (i + n) := by
  simp only [skipS, rdAt, lineAt, colAt, List.drop_drop, List.take_add, advL_append, advC_append]

theorem blankS_at (s : List UInt8) (n : Nat) : ∀ i, i ≤ s.length → s.length - i ≤ n → ∃ j, i ≤ j ∧ j ≤ s.length ∧ blankS (rdAt s i) = rdAt s j := by
  induction n with
  | zero =>
    intro i hi hn
    have : (rdAt s i).rest = [] := by simp only [rdAt]; exact List.drop_eq_nil_of_le (by omega)
    exact ⟨i, Nat.le_refl _, hi, by rw [blankS_step, if_pos this]⟩
  | succ n ih =>
    intro i hi hn
    rw [blankS_step]
    split
    · exact ⟨i, Nat.le_refl _, hi, rfl⟩
    · rename_i hne
      have hlen : (rdAt s i).rest.length = s.length - i := by simp [rdAt]
      have hp : 1 ≤ s.length - i := by
        rw [← hlen]
        cases hr : (rdAt s i).rest with | nil => exact absurd hr hne | cons _ _ => simp
      split
      · rename_i hl
        have h1 := lineN_pos hl
        have h2 := lineN_le (rdAt s i).rest
        rw [hlen] at h2
        rw [skipS_at _ _ _ (by omega)]
        obtain ⟨j, h3, h4, h5⟩ := ih (i + lineN (rdAt s i).rest) (by omega) (by omega)
        exact ⟨j, by omega, h4, h5⟩
      · split
        · rw [skipS_at _ _ _ (by omega)]
          obtain ⟨j, h3, h4, h5⟩ := ih (i + 1) (by omega) (by omega)
          exact ⟨j, by omega, h4, h5⟩
        · exact ⟨i, Nat.le_refl _, hi, rfl⟩

theorem nextT_at (r : Rd) (hne : r.rest ≠ []) (h : (nextT r).2 = true) : (nextT r).1.line = r.line ∧ (nextT r).1.col = r.col ∧ (nextT r).1.text.length ≤ r.rest.length ∧ r.rest.take (nextT r).1.text.length = (nextT r).1.text ∧ nextR r = skipS (nextT r).1.text.length r := by
  have hp : 1 ≤ r.rest.length := by cases hr : r.rest with | nil => exact absurd hr hne | cons _ _ => simp
  unfold nextT nextR at *
  split at h
  · rename_i hw
    simp only [hw, if_true]
    have e1 : (wordT r).1.line = r.line ∧ (wordT r).1.col = r.col := by
      unfold wordT; dsimp only; split
      · exact ⟨rfl, rfl⟩
      · split <;> exact ⟨rfl, rfl⟩
    rw [(wordT_text r).1]
    exact ⟨e1.1, e1.2, wordN_le' _, takeWhile_length_take _ _, rfl⟩
  · rename_i hw
    split at h
    · rename_i h35
      have hw' : wordB 35 = false := by decide
      simp only [h35, hw', if_true, Bool.false_eq_true, if_false]
      have ht : (realT r).1.text = 35 :: (r.rest.drop 1).takeWhile wordB := realText_eq r
      rw [ht]
      have hcons : r.rest = 35 :: r.rest.drop 1 := by
        cases hr : r.rest with
        | nil => exact absurd hr hne
        | cons b l => rw [hr] at h35; simp only [List.getD_cons_zero] at h35; rw [h35]; rfl
      have hle := takeWhile_le wordB (r.rest.drop 1)
      simp only [List.length_drop] at hle
      refine ⟨rfl, rfl, by simp only [List.length_cons]; omega, ?_, ?_⟩
      · generalize r.rest.drop 1 = d at hcons
        rw [hcons]
        simp only [List.length_cons, List.take_succ_cons, takeWhile_length_take]
      · unfold realR
        rw [skipS_add _ _ _ hp, wordN_eq]
        simp only [List.length_cons]
        rw [Nat.add_comm]
    · rename_i h35
      simp only [hw, h35, Bool.false_eq_true, if_false]
      unfold signT signR at *
      split at h
      · rename_i h2
        have := twoB_len h2
        simp only [h2, if_true, List.length_take, Nat.min_eq_left this, Bool.false_eq_true, if_false]
        exact ⟨by trivial, by trivial, this, by trivial, by trivial⟩
      · rename_i h2
        split at h
        · rename_i h3
          simp only [h2, h3, if_true, if_false, List.length_take, Nat.min_eq_left hp, Bool.false_eq_true]
          exact ⟨by trivial, by trivial, hp, by trivial, by trivial⟩
        · cases h

/-- Where the tokens begin. -/
def Offs (s : List UInt8) : Nat → List Tok → List Nat → Prop
  | _, [], [] => True
  | i, x :: xs, o :: os => i ≤ o ∧ x.text ≠ [] ∧ o + x.text.length ≤ s.length ∧ (s.drop o).take x.text.length = x.text ∧ x.line = lineAt s o ∧ x.col = colAt s o ∧ x.kind ≠ 0 ∧ Offs s (o + x.text.length) xs os
  | _, _, _ => False

theorem lexR_offs (s : List UInt8) (r : Rd) : ∀ i, i ≤ s.length → r = rdAt s i → (lexR r).2.1 = 0 → ∃ xs os, (lexR r).1 = xs ++ [⟨0, [], 0, lineAt s s.length, colAt s s.length⟩] ∧ Offs s i xs os := by
  refine lexR_ind (P := fun r x => ∀ i, i ≤ s.length → r = rdAt s i → x.2.1 = 0 → ∃ xs os, x.1 = xs ++ [⟨0, [], 0, lineAt s s.length, colAt s s.length⟩] ∧ Offs s i xs os) ?_ ?_ ?_ r
  · intro r he i hi hr _
    obtain ⟨j, h1, h2, h3⟩ := blankS_at s _ i hi (Nat.le_refl _)
    rw [hr, h3] at he ⊢
    have hj : j = s.length := by
      simp only [rdAt] at he
      have := congrArg List.length he
      simp only [List.length_drop, List.length_nil] at this
      omega
    subst hj
    exact ⟨[], [], rfl, trivial⟩
  · intro r hne hok ih i hi hr h
    obtain ⟨j, h1, h2, h3⟩ := blankS_at s _ i hi (Nat.le_refl _)
    rw [hr, h3] at hne hok ih h ⊢
    rw [glue_err] at h
    obtain ⟨t1, t2, t3, t4, t5⟩ := nextT_at _ hne hok
    have hlen : (rdAt s j).rest.length = s.length - j := by simp [rdAt]
    rw [hlen] at t3
    have htk := nextT_ok _ hne hok
    have e5 := t5.trans (skipS_at s j _ (by omega))
    obtain ⟨xs, os, e, ho⟩ := ih (j + (nextT (rdAt s j)).1.text.length) (by omega) e5 h
    refine ⟨(nextT (rdAt s j)).1 :: xs, j :: os, by unfold glue; rw [if_pos h, e]; rfl, h1, htk.ne, by omega, t4, t1, t2, htk.kd, ho⟩
  · intro r _ _ i _ _ h
    cases h

theorem Offs.length {s : List UInt8} : ∀ {i : Nat} {xs : List Tok} {os : List Nat}, Offs s i xs os → os.length = xs.length
  | _, [], [], _ => rfl
  | _, x :: xs, o :: os, h => by simp [Offs.length h.2.2.2.2.2.2.2]
  | _, [], o :: os, h => h.elim
  | _, x :: xs, [], h => h.elim

theorem Offs.at {s : List UInt8} : ∀ {i : Nat} {xs : List Tok} {os : List Nat}, Offs s i xs os → ∀ k, k < xs.length → i ≤ os.getD k 0 ∧ (xs.getD k default).text ≠ [] ∧ os.getD k 0 + (xs.getD k default).text.length ≤ s.length ∧ (s.drop (os.getD k 0)).take (xs.getD k default).text.length = (xs.getD k default).text ∧
    (xs.getD k default).line = lineAt s (os.getD k 0) ∧ (xs.getD k default).col = colAt s (os.getD k 0) ∧ (xs.getD k default).kind ≠ 0 ∧ (k + 1 < xs.length → os.getD k 0 < os.getD (k + 1) 0)
  | _, [], os, _, k, hk => by simp at hk
  | _, x :: xs, [], h, _, _ => h.elim
  | i, x :: xs, o :: os, h, 0, hk => by
    obtain ⟨h1, h2, h3, h4, h5, h6, h7, h8⟩ := h
    refine ⟨h1, h2, h3, h4, h5, h6, h7, fun hk' => ?_⟩
    have := Offs.at h8 0 (by simpa using hk')
    have hp : 1 ≤ x.text.length := by cases hx : x.text with | nil => exact absurd hx h2 | cons _ _ => simp
    simp only [List.getD_cons_zero, List.getD_cons_succ]
    have := this.1
    omega
  | i, x :: xs, o :: os, h, k + 1, hk => by
    obtain ⟨h1, h2, h3, h4, h5, h6, h7, h8⟩ := h
    have := Offs.at h8 k (by simpa using hk)
    simp only [List.getD_cons_succ]
    refine ⟨by omega, this.2.1, this.2.2.1, this.2.2.2.1, this.2.2.2.2.1, this.2.2.2.2.2.1, this.2.2.2.2.2.2.1, fun hk' => this.2.2.2.2.2.2.2 (by simpa using hk')⟩

/-- Where a walk through the text stands: so many tokens are over. -/
def AtOK (s : List UInt8) (xs : List Tok) (os : List Nat) (i k : Nat) : Prop := k ≤ xs.length ∧ ∀ j, k ≤ j → j < xs.length → i ≤ os.getD j 0

theorem AtOK.start {s : List UInt8} {xs : List Tok} {os : List Nat} (h : Offs s 0 xs os) : AtOK s xs os 0 0 := ⟨Nat.zero_le _, fun j _ _ => Nat.zero_le _⟩

theorem offs_mono {s : List UInt8} {i : Nat} {xs : List Tok} {os : List Nat} (h : Offs s i xs os) (a : Nat) : ∀ b, a < b → b < xs.length → os.getD a 0 < os.getD b 0
  | 0, hab, _ => absurd hab (Nat.not_lt_zero _)
  | b + 1, hab, hb => by
    have hs := (h.at b (by omega)).2.2.2.2.2.2.2 hb
    rcases Nat.lt_or_ge a b with h1 | h1
    · have := offs_mono h a b h1 (by omega); omega
    · have : a = b := by omega
      subst this; exact hs

/-- A step of it. -/
theorem AtOK.hit {s : List UInt8} {xs : List Tok} {os : List Nat} {i k : Nat} (h : Offs s 0 xs os) (a : AtOK s xs os i k) (hi : i < s.length) (hk : k < xs.length) (h1 : (xs.getD k default).line = lineAt s i) (h2 : (xs.getD k default).col = colAt s i) :
    os.getD k 0 = i ∧ AtOK s xs os (i + 1) (k + 1) ∧ i + (xs.getD k default).text.length ≤ s.length ∧ (s.drop i).take (xs.getD k default).text.length = (xs.getD k default).text ∧ (xs.getD k default).text ≠ [] := by
  obtain ⟨o1, o2, o3, o4, o5, o6, o7, o8⟩ := h.at k hk
  have e : os.getD k 0 = i := place_inj s _ _ (by omega) (by omega) (by rw [← o5, h1]) (by rw [← o6, h2])
  rw [e] at o3 o4
  refine ⟨e, ⟨hk, fun j hj hj' => ?_⟩, o3, o4, o2⟩
  have := offs_mono h k j (by omega) hj'
  omega
theorem AtOK.miss {s : List UInt8} {xs : List Tok} {os : List Nat} {i k : Nat} (h : Offs s 0 xs os) (a : AtOK s xs os i k) (hm : k < xs.length → ¬ ((xs.getD k default).line = lineAt s i ∧ (xs.getD k default).col = colAt s i)) : AtOK s xs os (i + 1) k := by
  refine ⟨a.1, fun j hj hj' => ?_⟩
  have := a.2 j hj hj'
  by_cases he : os.getD j 0 = i
  · by_cases hjk : k = j
    · subst hjk
      obtain ⟨o1, o2, o3, o4, o5, o6, o7, o8⟩ := h.at k hj'
      exact absurd ⟨by rw [o5, he], by rw [o6, he]⟩ (hm hj')
    · have h3 := offs_mono h k j (by omega) hj'
      have h4 := a.2 k (Nat.le_refl _) (by omega)
      omega
  · omega
theorem AtOK.end {s : List UInt8} {xs : List Tok} {os : List Nat} {i k : Nat} (h : Offs s 0 xs os) (a : AtOK s xs os i k) (hi : s.length ≤ i) : k = xs.length := by
  rcases Nat.lt_or_ge k xs.length with hk | hk
  · obtain ⟨o1, o2, o3, _⟩ := h.at k hk
    have := a.2 k (Nat.le_refl _) hk
    have hp : 1 ≤ (xs.getD k default).text.length := by cases hx : (xs.getD k default).text with | nil => exact absurd hx o2 | cons _ _ => simp
    omega
  · have := a.1; omega

theorem lineAt_succ (s : List UInt8) (i : Nat) (h : i < s.length) : lineAt s (i + 1) = if s.getD i 0 = 10 then lineAt s i + 1 else lineAt s i := advL_succ 1 s i h
theorem colAt_succ (s : List UInt8) (i : Nat) (h : i < s.length) : colAt s (i + 1) = if s.getD i 0 = 10 then 1 else colAt s i + 1 := advC_succ 1 s i h

theorem places_plain (s : List UInt8) (hs : s.length ≤ 8192) (h : (lexS s).2.1 = 0) : ∃ xs os, (lexS s).1 = xs ++ [⟨0, [], 0, lineAt s s.length, colAt s s.length⟩] ∧ Offs s 0 xs os := by
  rw [lexS_eq s hs] at h ⊢
  exact lexR_offs s _ 0 (Nat.zero_le _) rfl h

end Go.AE

