/- Parts of the proof of a law, in build order: P2, P3. -/
import Derived.Test.YtjdbmjllhmmddaaDoorP8Q3
import Derived.IntWalk
set_option maxRecDepth 2000
set_option linter.unusedVariables false
set_option linter.unusedSimpArgs false
set_option linter.unusedVariables false
set_option linter.unusedSimpArgs false
set_option maxRecDepth 4000
namespace Go.AE
open Go.Proofs

theorem unary_walk (t : List UInt8) (σ : St)  : ACalls Tryd.prog 109 [.str t] σ (fun e s => σ = s ∧ e = .ret (.i (unaryS t))) := by
  refine ACalls.enter hT Tryd.func109 rfl (by kernel_rfl) ?_
  refine ACode.seq ?_
  refine ACode.run hT nh [0] (fr' := ⟨[(0, .str t)], [], [], [], 0⟩) (σ' := σ) (ob := Tt 2) (by kernel_rfl) (tt 2) ?_
  refine ACode.seq ?_
  refine ACode.seq ?_
  refine ACode.run hT nh [3] (fr' := ⟨[(3, .str t)], [], [], [], 0⟩) (σ' := σ) (ob := Tt 2) (by kernel_rfl) (tt 2) ?_
  refine ACode.block ?_
  refine ACode.seq ?_
  refine ACode.run hT nh [3, 4] (fr' := ⟨[(3, .str t), (4, .bool (t == [45]))], [], [], [], 0⟩) (σ' := σ) (ob := Tt 3) (by kernel_rfl) (tt 3) ?_
  refine ACode.cond (t := t == [45]) (by kernel_rfl) (fun h1 => ?_) (fun h1 => ?_)
  · -- true
    have h1k := eq_of_beq h1
    refine ACode.seq ?_
    refine ACode.run hT nh [2] (fr' := ⟨[(2, .i 6)], [], [], [], 0⟩) (σ' := σ) (ob := Tt 2) (by kernel_rfl) (tt 2) ?_
    refine ACode.ret ?_
    refine retQ.ret (.i 6) (by kernel_rfl) ?_
    refine ⟨rfl, ?_⟩
    unfold unaryS
    simp only [h1, Bool.false_eq_true, if_true, if_false]
  · -- false
    have h1k := ne_of_beq_false h1
    refine ACode.seq ?_
    refine ACode.run hT nh [3, 6] (fr' := ⟨[(3, .str t), (6, .bool (t == [114, 101, 97, 108]))], [], [], [], 0⟩) (σ' := σ) (ob := Tt 3) (by kernel_rfl) (tt 3) ?_
    refine ACode.cond (t := t == [114, 101, 97, 108]) (by kernel_rfl) (fun h2 => ?_) (fun h2 => ?_)
    · -- true
      have h2k := eq_of_beq h2
      refine ACode.seq ?_
      refine ACode.run hT nh [2] (fr' := ⟨[(2, .i 7)], [], [], [], 0⟩) (σ' := σ) (ob := Tt 2) (by kernel_rfl) (tt 2) ?_
      refine ACode.ret ?_
      refine retQ.ret (.i 7) (by kernel_rfl) ?_
      refine ⟨rfl, ?_⟩
      unfold unaryS
      simp only [h1, h2, Bool.false_eq_true, if_true, if_false]
    · -- false
      have h2k := ne_of_beq_false h2
      refine ACode.seq ?_
      refine ACode.run hT nh [8] (fr' := ⟨[(8, .bool (t == [116, 114, 117, 110, 99]))], [], [], [], 0⟩) (σ' := σ) (ob := Tt 3) (by kernel_rfl) (tt 3) ?_
      refine ACode.cond (t := t == [116, 114, 117, 110, 99]) (by kernel_rfl) (fun h3 => ?_) (fun h3 => ?_)
      · -- true
        have h3k := eq_of_beq h3
        refine ACode.seq ?_
        refine ACode.run hT nh [2] (fr' := ⟨[(2, .i 8)], [], [], [], 0⟩) (σ' := σ) (ob := Tt 2) (by kernel_rfl) (tt 2) ?_
        refine ACode.ret ?_
        refine retQ.ret (.i 8) (by kernel_rfl) ?_
        refine ⟨rfl, ?_⟩
        unfold unaryS
        simp only [h1, h2, h3, Bool.false_eq_true, if_true, if_false]
      · -- false
        have h3k := ne_of_beq_false h3
        refine ACode.skip ?_
        refine ACode.seq ?_
        refine ACode.run hT nh [2] (fr' := ⟨[(2, .i 0)], [], [], [], 0⟩) (σ' := σ) (ob := Tt 2) (by kernel_rfl) (tt 2) ?_
        refine ACode.ret ?_
        refine retQ.ret (.i 0) (by kernel_rfl) ?_
        refine ⟨rfl, ?_⟩
        unfold unaryS
        simp only [h1, h2, h3, Bool.false_eq_true, if_true, if_false]
def binFrom (i : Nat) (t : List UInt8) : Int :=
  match i with
  | 0 => if [43] == t then 0 else if [45] == t then 1 else if [42] == t then 2 else if [47] == t then 3 else if [37] == t then 4 else if [61, 61] == t then 5 else if [33, 61] == t then 6 else if [60] == t then 7 else if [60, 61] == t then 8 else 0
  | 1 => if [45] == t then 1 else if [42] == t then 2 else if [47] == t then 3 else if [37] == t then 4 else if [61, 61] == t then 5 else if [33, 61] == t then 6 else if [60] == t then 7 else if [60, 61] == t then 8 else 0
  | 2 => if [42] == t then 2 else if [47] == t then 3 else if [37] == t then 4 else if [61, 61] == t then 5 else if [33, 61] == t then 6 else if [60] == t then 7 else if [60, 61] == t then 8 else 0
  | 3 => if [47] == t then 3 else if [37] == t then 4 else if [61, 61] == t then 5 else if [33, 61] == t then 6 else if [60] == t then 7 else if [60, 61] == t then 8 else 0
  | 4 => if [37] == t then 4 else if [61, 61] == t then 5 else if [33, 61] == t then 6 else if [60] == t then 7 else if [60, 61] == t then 8 else 0
  | 5 => if [61, 61] == t then 5 else if [33, 61] == t then 6 else if [60] == t then 7 else if [60, 61] == t then 8 else 0
  | 6 => if [33, 61] == t then 6 else if [60] == t then 7 else if [60, 61] == t then 8 else 0
  | 7 => if [60] == t then 7 else if [60, 61] == t then 8 else 0
  | 8 => if [60, 61] == t then 8 else 0
  | _ => 0
theorem binFrom_0 (t : List UInt8) (h : ([43] == t) = false) : binFrom 0 t = binFrom 1 t := by
  show (if ([43] == t) = true then _ else _) = _
  rw [h]; rfl
theorem binFrom_1 (t : List UInt8) (h : ([45] == t) = false) : binFrom 1 t = binFrom 2 t := by
  show (if ([45] == t) = true then _ else _) = _
  rw [h]; rfl
theorem binFrom_2 (t : List UInt8) (h : ([42] == t) = false) : binFrom 2 t = binFrom 3 t := by
  show (if ([42] == t) = true then _ else _) = _
  rw [h]; rfl
theorem binFrom_3 (t : List UInt8) (h : ([47] == t) = false) : binFrom 3 t = binFrom 4 t := by
  show (if ([47] == t) = true then _ else _) = _
  rw [h]; rfl
theorem binFrom_4 (t : List UInt8) (h : ([37] == t) = false) : binFrom 4 t = binFrom 5 t := by
  show (if ([37] == t) = true then _ else _) = _
  rw [h]; rfl
theorem binFrom_5 (t : List UInt8) (h : ([61, 61] == t) = false) : binFrom 5 t = binFrom 6 t := by
  show (if ([61, 61] == t) = true then _ else _) = _
  rw [h]; rfl
theorem binFrom_6 (t : List UInt8) (h : ([33, 61] == t) = false) : binFrom 6 t = binFrom 7 t := by
  show (if ([33, 61] == t) = true then _ else _) = _
  rw [h]; rfl
theorem binFrom_7 (t : List UInt8) (h : ([60] == t) = false) : binFrom 7 t = binFrom 8 t := by
  show (if ([60] == t) = true then _ else _) = _
  rw [h]; rfl
theorem binFrom_8 (t : List UInt8) (h : ([60, 61] == t) = false) : binFrom 8 t = binFrom 9 t := by
  show (if ([60, 61] == t) = true then _ else _) = _
  rw [h]; rfl
theorem bin_walk (t : List UInt8) (σ : St)  : ACalls Tryd.prog 105 [.str t] σ (fun e s => σ = s ∧ e = .ret (.i (binS t))) := by
  refine ACalls.enter hT Tryd.func105 rfl (by kernel_rfl) ?_
  refine ACode.seq ?_
  refine ACode.run hT nh [0] (fr' := ⟨[(0, .str t)], [], [], [], 0⟩) (σ' := σ) (ob := Tt 2) (by kernel_rfl) (tt 2) ?_
  refine ACode.seq ?_
  refine ACode.seq ?_
  refine ACode.run hT nh [0, 5, 6] (fr' := ⟨[(0, .str t), (5, .agg [.str [43], .str [45], .str [42], .str [47], .str [37], .str [61, 61], .str [33, 61], .str [60], .str [60, 61]]), (6, .i 0)], [], [], [], 0⟩) (σ' := σ) (ob := Tt 3) (by kernel_rfl) (tt 3) ?_
  refine ACode.block ?_
  refine ACode.loop [0, 5, 6] 0 0 (fun n0 fr σ' => ( fr = ⟨[(0, .str t), (5, .agg [.str [43], .str [45], .str [42], .str [47], .str [37], .str [61, 61], .str [33, 61], .str [60], .str [60, 61]]), (6, .i 0)], [], [], [], 0⟩ ∧ σ = σ' ∧ (binS t = binFrom 0 t) ∧ n0 = 10) ∨ ( fr = ⟨[(0, .str t), (5, .agg [.str [43], .str [45], .str [42], .str [47], .str [37], .str [61, 61], .str [33, 61], .str [60], .str [60, 61]]), (6, .i 1)], [], [], [], 0⟩ ∧ σ = σ' ∧ (binS t = binFrom 1 t) ∧ n0 = 9) ∨ ( fr = ⟨[(0, .str t), (5, .agg [.str [43], .str [45], .str [42], .str [47], .str [37], .str [61, 61], .str [33, 61], .str [60], .str [60, 61]]), (6, .i 2)], [], [], [], 0⟩ ∧ σ = σ' ∧ (binS t = binFrom 2 t) ∧ n0 = 8) ∨ ( fr = ⟨[(0, .str t), (5, .agg [.str [43], .str [45], .str [42], .str [47], .str [37], .str [61, 61], .str [33, 61], .str [60], .str [60, 61]]), (6, .i 3)], [], [], [], 0⟩ ∧ σ = σ' ∧ (binS t = binFrom 3 t) ∧ n0 = 7) ∨ ( fr = ⟨[(0, .str t), (5, .agg [.str [43], .str [45], .str [42], .str [47], .str [37], .str [61, 61], .str [33, 61], .str [60], .str [60, 61]]), (6, .i 4)], [], [], [], 0⟩ ∧ σ = σ' ∧ (binS t = binFrom 4 t) ∧ n0 = 6) ∨ ( fr = ⟨[(0, .str t), (5, .agg [.str [43], .str [45], .str [42], .str [47], .str [37], .str [61, 61], .str [33, 61], .str [60], .str [60, 61]]), (6, .i 5)], [], [], [], 0⟩ ∧ σ = σ' ∧ (binS t = binFrom 5 t) ∧ n0 = 5) ∨ ( fr = ⟨[(0, .str t), (5, .agg [.str [43], .str [45], .str [42], .str [47], .str [37], .str [61, 61], .str [33, 61], .str [60], .str [60, 61]]), (6, .i 6)], [], [], [], 0⟩ ∧ σ = σ' ∧ (binS t = binFrom 6 t) ∧ n0 = 4) ∨ ( fr = ⟨[(0, .str t), (5, .agg [.str [43], .str [45], .str [42], .str [47], .str [37], .str [61, 61], .str [33, 61], .str [60], .str [60, 61]]), (6, .i 7)], [], [], [], 0⟩ ∧ σ = σ' ∧ (binS t = binFrom 7 t) ∧ n0 = 3) ∨ ( fr = ⟨[(0, .str t), (5, .agg [.str [43], .str [45], .str [42], .str [47], .str [37], .str [61, 61], .str [33, 61], .str [60], .str [60, 61]]), (6, .i 8)], [], [], [], 0⟩ ∧ σ = σ' ∧ (binS t = binFrom 8 t) ∧ n0 = 2) ∨ ( fr = ⟨[(0, .str t), (5, .agg [.str [43], .str [45], .str [42], .str [47], .str [37], .str [61, 61], .str [33, 61], .str [60], .str [60, 61]]), (6, .i 9)], [], [], [], 0⟩ ∧ σ = σ' ∧ (binS t = binFrom 9 t) ∧ n0 = 1)) _ (by kernel_rfl) (.inl ⟨rfl, rfl, rfl, rfl⟩) ?_
  rintro n0 fr σ' (⟨rfl, rfl, hP, rfl⟩ | ⟨rfl, rfl, hP, rfl⟩ | ⟨rfl, rfl, hP, rfl⟩ | ⟨rfl, rfl, hP, rfl⟩ | ⟨rfl, rfl, hP, rfl⟩ | ⟨rfl, rfl, hP, rfl⟩ | ⟨rfl, rfl, hP, rfl⟩ | ⟨rfl, rfl, hP, rfl⟩ | ⟨rfl, rfl, hP, rfl⟩ | ⟨rfl, rfl, hP, rfl⟩)
  · -- round 0
    refine ACode.seq ?_
    refine ACode.run hT nh [0, 5, 6, 7] (fr' := ⟨[(0, .str t), (5, .agg [.str [43], .str [45], .str [42], .str [47], .str [37], .str [61, 61], .str [33, 61], .str [60], .str [60, 61]]), (6, .i 0), (7, .bool true)], [], [], [], 0⟩) (σ' := σ) (ob := Tt 2) (by kernel_rfl) (tt 2) ?_
    refine ACode.seq ?_
    refine ACode.cond (t := true) (by kernel_rfl) (fun _ => ?_) (fun h => Bool.noConfusion h)
    refine ACode.skip ?_
    refine ACode.seq ?_
    refine ACode.block ?_
    refine ACode.seq ?_
    refine ACode.run hT nh [0, 3, 4, 5, 6] (fr' := ⟨[(0, .str t), (3, .i 0), (4, .str [43]), (5, .agg [.str [43], .str [45], .str [42], .str [47], .str [37], .str [61, 61], .str [33, 61], .str [60], .str [60, 61]]), (6, .i 0)], [], [], [], 0⟩) (σ' := σ) (ob := True ∧ (0 ≤ (0 : Int) ∧ (0 : Int) < 9) ∧ True ∧ True ∧ True) (by kernel_rfl) ⟨trivial, (by first | omega | (simp; done) | (simp; omega)), trivial, trivial, trivial⟩ ?_
    refine ACode.seq ?_
    refine ACode.run hT nh [0, 3, 5, 6, 12] (fr' := ⟨[(0, .str t), (3, .i 0), (5, .agg [.str [43], .str [45], .str [42], .str [47], .str [37], .str [61, 61], .str [33, 61], .str [60], .str [60, 61]]), (6, .i 0), (12, .bool ([43] == t))], [], [], [], 0⟩) (σ' := σ) (ob := Tt 4) (by kernel_rfl) (tt 4) ?_
    refine ACode.cond (t := [43] == t) (by kernel_rfl) (fun h1 => ?_) (fun h1 => ?_)
    · -- true
      have h1k := eq_of_beq h1
      refine ACode.seq ?_
      refine ACode.run hT nh [2] (fr' := ⟨[(2, .i 0)], [], [], [], 0⟩) (σ' := σ) (ob := Tt 3) (by kernel_rfl) (tt 3) ?_
      refine ACode.ret ?_
      refine retQ.ret (.i 0) (by kernel_rfl) ?_
      refine ⟨rfl, ?_⟩
      rw [hP]; show _ = AEnd.ret (AV.int _ (if ([43] == t) = true then _ else _)); rw [h1]; rfl
    · -- false
      have h1k := ne_of_beq_false h1
      refine ACode.skip ?_
      refine ACode.run hT nh [0, 5, 6] (fr' := ⟨[(0, .str t), (5, .agg [.str [43], .str [45], .str [42], .str [47], .str [37], .str [61, 61], .str [33, 61], .str [60], .str [60, 61]]), (6, .i 1)], [], [], [], 0⟩) (σ' := σ) (ob := Tt 3) (by kernel_rfl) (tt 3) ?_
      refine ⟨by kernel_rfl, _, ?_, (.inr (.inl ⟨rfl, rfl, ?_, rfl⟩))⟩
      · omega
      · rw [hP, binFrom_0 t h1]
  · -- round 1
    refine ACode.seq ?_
    refine ACode.run hT nh [0, 5, 6, 7] (fr' := ⟨[(0, .str t), (5, .agg [.str [43], .str [45], .str [42], .str [47], .str [37], .str [61, 61], .str [33, 61], .str [60], .str [60, 61]]), (6, .i 1), (7, .bool true)], [], [], [], 0⟩) (σ' := σ) (ob := Tt 2) (by kernel_rfl) (tt 2) ?_
    refine ACode.seq ?_
    refine ACode.cond (t := true) (by kernel_rfl) (fun _ => ?_) (fun h => Bool.noConfusion h)
    refine ACode.skip ?_
    refine ACode.seq ?_
    refine ACode.block ?_
    refine ACode.seq ?_
    refine ACode.run hT nh [0, 3, 4, 5, 6] (fr' := ⟨[(0, .str t), (3, .i 1), (4, .str [45]), (5, .agg [.str [43], .str [45], .str [42], .str [47], .str [37], .str [61, 61], .str [33, 61], .str [60], .str [60, 61]]), (6, .i 1)], [], [], [], 0⟩) (σ' := σ) (ob := True ∧ (0 ≤ (1 : Int) ∧ (1 : Int) < 9) ∧ True ∧ True ∧ True) (by kernel_rfl) ⟨trivial, (by first | omega | (simp; done) | (simp; omega)), trivial, trivial, trivial⟩ ?_
    refine ACode.seq ?_
    refine ACode.run hT nh [0, 3, 5, 6, 12] (fr' := ⟨[(0, .str t), (3, .i 1), (5, .agg [.str [43], .str [45], .str [42], .str [47], .str [37], .str [61, 61], .str [33, 61], .str [60], .str [60, 61]]), (6, .i 1), (12, .bool ([45] == t))], [], [], [], 0⟩) (σ' := σ) (ob := Tt 4) (by kernel_rfl) (tt 4) ?_
    refine ACode.cond (t := [45] == t) (by kernel_rfl) (fun h2 => ?_) (fun h2 => ?_)
    · -- true
      have h2k := eq_of_beq h2
      refine ACode.seq ?_
      refine ACode.run hT nh [2] (fr' := ⟨[(2, .i 1)], [], [], [], 0⟩) (σ' := σ) (ob := Tt 3) (by kernel_rfl) (tt 3) ?_
      refine ACode.ret ?_
      refine retQ.ret (.i 1) (by kernel_rfl) ?_
      refine ⟨rfl, ?_⟩
      rw [hP]; show _ = AEnd.ret (AV.int _ (if ([45] == t) = true then _ else _)); rw [h2]; rfl
    · -- false
      have h2k := ne_of_beq_false h2
      refine ACode.skip ?_
      refine ACode.run hT nh [0, 5, 6] (fr' := ⟨[(0, .str t), (5, .agg [.str [43], .str [45], .str [42], .str [47], .str [37], .str [61, 61], .str [33, 61], .str [60], .str [60, 61]]), (6, .i 2)], [], [], [], 0⟩) (σ' := σ) (ob := Tt 3) (by kernel_rfl) (tt 3) ?_
      refine ⟨by kernel_rfl, _, ?_, (.inr (.inr (.inl ⟨rfl, rfl, ?_, rfl⟩)))⟩
      · omega
      · rw [hP, binFrom_1 t h2]
  · -- round 2
    refine ACode.seq ?_
    refine ACode.run hT nh [0, 5, 6, 7] (fr' := ⟨[(0, .str t), (5, .agg [.str [43], .str [45], .str [42], .str [47], .str [37], .str [61, 61], .str [33, 61], .str [60], .str [60, 61]]), (6, .i 2), (7, .bool true)], [], [], [], 0⟩) (σ' := σ) (ob := Tt 2) (by kernel_rfl) (tt 2) ?_
    refine ACode.seq ?_
    refine ACode.cond (t := true) (by kernel_rfl) (fun _ => ?_) (fun h => Bool.noConfusion h)
    refine ACode.skip ?_
    refine ACode.seq ?_
    refine ACode.block ?_
    refine ACode.seq ?_
    refine ACode.run hT nh [0, 3, 4, 5, 6] (fr' := ⟨[(0, .str t), (3, .i 2), (4, .str [42]), (5, .agg [.str [43], .str [45], .str [42], .str [47], .str [37], .str [61, 61], .str [33, 61], .str [60], .str [60, 61]]), (6, .i 2)], [], [], [], 0⟩) (σ' := σ) (ob := True ∧ (0 ≤ (2 : Int) ∧ (2 : Int) < 9) ∧ True ∧ True ∧ True) (by kernel_rfl) ⟨trivial, (by first | omega | (simp; done) | (simp; omega)), trivial, trivial, trivial⟩ ?_
    refine ACode.seq ?_
    refine ACode.run hT nh [0, 3, 5, 6, 12] (fr' := ⟨[(0, .str t), (3, .i 2), (5, .agg [.str [43], .str [45], .str [42], .str [47], .str [37], .str [61, 61], .str [33, 61], .str [60], .str [60, 61]]), (6, .i 2), (12, .bool ([42] == t))], [], [], [], 0⟩) (σ' := σ) (ob := Tt 4) (by kernel_rfl) (tt 4) ?_
    refine ACode.cond (t := [42] == t) (by kernel_rfl) (fun h3 => ?_) (fun h3 => ?_)
    · -- true
      have h3k := eq_of_beq h3
      refine ACode.seq ?_
      refine ACode.run hT nh [2] (fr' := ⟨[(2, .i 2)], [], [], [], 0⟩) (σ' := σ) (ob := Tt 3) (by kernel_rfl) (tt 3) ?_
      refine ACode.ret ?_
      refine retQ.ret (.i 2) (by kernel_rfl) ?_
      refine ⟨rfl, ?_⟩
      rw [hP]; show _ = AEnd.ret (AV.int _ (if ([42] == t) = true then _ else _)); rw [h3]; rfl
    · -- false
      have h3k := ne_of_beq_false h3
      refine ACode.skip ?_
      refine ACode.run hT nh [0, 5, 6] (fr' := ⟨[(0, .str t), (5, .agg [.str [43], .str [45], .str [42], .str [47], .str [37], .str [61, 61], .str [33, 61], .str [60], .str [60, 61]]), (6, .i 3)], [], [], [], 0⟩) (σ' := σ) (ob := Tt 3) (by kernel_rfl) (tt 3) ?_
      refine ⟨by kernel_rfl, _, ?_, (.inr (.inr (.inr (.inl ⟨rfl, rfl, ?_, rfl⟩))))⟩
      · omega
      · rw [hP, binFrom_2 t h3]
  · -- round 3
    refine ACode.seq ?_
    refine ACode.run hT nh [0, 5, 6, 7] (fr' := ⟨[(0, .str t), (5, .agg [.str [43], .str [45], .str [42], .str [47], .str [37], .str [61, 61], .str [33, 61], .str [60], .str [60, 61]]), (6, .i 3), (7, .bool true)], [], [], [], 0⟩) (σ' := σ) (ob := Tt 2) (by kernel_rfl) (tt 2) ?_
    refine ACode.seq ?_
    refine ACode.cond (t := true) (by kernel_rfl) (fun _ => ?_) (fun h => Bool.noConfusion h)
    refine ACode.skip ?_
    refine ACode.seq ?_
    refine ACode.block ?_
    refine ACode.seq ?_
    refine ACode.run hT nh [0, 3, 4, 5, 6] (fr' := ⟨[(0, .str t), (3, .i 3), (4, .str [47]), (5, .agg [.str [43], .str [45], .str [42], .str [47], .str [37], .str [61, 61], .str [33, 61], .str [60], .str [60, 61]]), (6, .i 3)], [], [], [], 0⟩) (σ' := σ) (ob := True ∧ (0 ≤ (3 : Int) ∧ (3 : Int) < 9) ∧ True ∧ True ∧ True) (by kernel_rfl) ⟨trivial, (by first | omega | (simp; done) | (simp; omega)), trivial, trivial, trivial⟩ ?_
    refine ACode.seq ?_
    refine ACode.run hT nh [0, 3, 5, 6, 12] (fr' := ⟨[(0, .str t), (3, .i 3), (5, .agg [.str [43], .str [45], .str [42], .str [47], .str [37], .str [61, 61], .str [33, 61], .str [60], .str [60, 61]]), (6, .i 3), (12, .bool ([47] == t))], [], [], [], 0⟩) (σ' := σ) (ob := Tt 4) (by kernel_rfl) (tt 4) ?_
    refine ACode.cond (t := [47] == t) (by kernel_rfl) (fun h4 => ?_) (fun h4 => ?_)
    · -- true
      have h4k := eq_of_beq h4
      refine ACode.seq ?_
      refine ACode.run hT nh [2] (fr' := ⟨[(2, .i 3)], [], [], [], 0⟩) (σ' := σ) (ob := Tt 3) (by kernel_rfl) (tt 3) ?_
      refine ACode.ret ?_
      refine retQ.ret (.i 3) (by kernel_rfl) ?_
      refine ⟨rfl, ?_⟩
      rw [hP]; show _ = AEnd.ret (AV.int _ (if ([47] == t) = true then _ else _)); rw [h4]; rfl
    · -- false
      have h4k := ne_of_beq_false h4
      refine ACode.skip ?_
      refine ACode.run hT nh [0, 5, 6] (fr' := ⟨[(0, .str t), (5, .agg [.str [43], .str [45], .str [42], .str [47], .str [37], .str [61, 61], .str [33, 61], .str [60], .str [60, 61]]), (6, .i 4)], [], [], [], 0⟩) (σ' := σ) (ob := Tt 3) (by kernel_rfl) (tt 3) ?_
      refine ⟨by kernel_rfl, _, ?_, (.inr (.inr (.inr (.inr (.inl ⟨rfl, rfl, ?_, rfl⟩)))))⟩
      · omega
      · rw [hP, binFrom_3 t h4]
  · -- round 4
    refine ACode.seq ?_
    refine ACode.run hT nh [0, 5, 6, 7] (fr' := ⟨[(0, .str t), (5, .agg [.str [43], .str [45], .str [42], .str [47], .str [37], .str [61, 61], .str [33, 61], .str [60], .str [60, 61]]), (6, .i 4), (7, .bool true)], [], [], [], 0⟩) (σ' := σ) (ob := Tt 2) (by kernel_rfl) (tt 2) ?_
    refine ACode.seq ?_
    refine ACode.cond (t := true) (by kernel_rfl) (fun _ => ?_) (fun h => Bool.noConfusion h)
    refine ACode.skip ?_
    refine ACode.seq ?_
    refine ACode.block ?_
    refine ACode.seq ?_
    refine ACode.run hT nh [0, 3, 4, 5, 6] (fr' := ⟨[(0, .str t), (3, .i 4), (4, .str [37]), (5, .agg [.str [43], .str [45], .str [42], .str [47], .str [37], .str [61, 61], .str [33, 61], .str [60], .str [60, 61]]), (6, .i 4)], [], [], [], 0⟩) (σ' := σ) (ob := True ∧ (0 ≤ (4 : Int) ∧ (4 : Int) < 9) ∧ True ∧ True ∧ True) (by kernel_rfl) ⟨trivial, (by first | omega | (simp; done) | (simp; omega)), trivial, trivial, trivial⟩ ?_
    refine ACode.seq ?_
    refine ACode.run hT nh [0, 3, 5, 6, 12] (fr' := ⟨[(0, .str t), (3, .i 4), (5, .agg [.str [43], .str [45], .str [42], .str [47], .str [37], .str [61, 61], .str [33, 61], .str [60], .str [60, 61]]), (6, .i 4), (12, .bool ([37] == t))], [], [], [], 0⟩) (σ' := σ) (ob := Tt 4) (by kernel_rfl) (tt 4) ?_
    refine ACode.cond (t := [37] == t) (by kernel_rfl) (fun h5 => ?_) (fun h5 => ?_)
    · -- true
      have h5k := eq_of_beq h5
      refine ACode.seq ?_
      refine ACode.run hT nh [2] (fr' := ⟨[(2, .i 4)], [], [], [], 0⟩) (σ' := σ) (ob := Tt 3) (by kernel_rfl) (tt 3) ?_
      refine ACode.ret ?_
      refine retQ.ret (.i 4) (by kernel_rfl) ?_
      refine ⟨rfl, ?_⟩
      rw [hP]; show _ = AEnd.ret (AV.int _ (if ([37] == t) = true then _ else _)); rw [h5]; rfl
    · -- false
      have h5k := ne_of_beq_false h5
      refine ACode.skip ?_
      refine ACode.run hT nh [0, 5, 6] (fr' := ⟨[(0, .str t), (5, .agg [.str [43], .str [45], .str [42], .str [47], .str [37], .str [61, 61], .str [33, 61], .str [60], .str [60, 61]]), (6, .i 5)], [], [], [], 0⟩) (σ' := σ) (ob := Tt 3) (by kernel_rfl) (tt 3) ?_
      refine ⟨by kernel_rfl, _, ?_, (.inr (.inr (.inr (.inr (.inr (.inl ⟨rfl, rfl, ?_, rfl⟩))))))⟩
      · omega
      · rw [hP, binFrom_4 t h5]
  · -- round 5
    refine ACode.seq ?_
    refine ACode.run hT nh [0, 5, 6, 7] (fr' := ⟨[(0, .str t), (5, .agg [.str [43], .str [45], .str [42], .str [47], .str [37], .str [61, 61], .str [33, 61], .str [60], .str [60, 61]]), (6, .i 5), (7, .bool true)], [], [], [], 0⟩) (σ' := σ) (ob := Tt 2) (by kernel_rfl) (tt 2) ?_
    refine ACode.seq ?_
    refine ACode.cond (t := true) (by kernel_rfl) (fun _ => ?_) (fun h => Bool.noConfusion h)
    refine ACode.skip ?_
    refine ACode.seq ?_
    refine ACode.block ?_
    refine ACode.seq ?_
    refine ACode.run hT nh [0, 3, 4, 5, 6] (fr' := ⟨[(0, .str t), (3, .i 5), (4, .str [61, 61]), (5, .agg [.str [43], .str [45], .str [42], .str [47], .str [37], .str [61, 61], .str [33, 61], .str [60], .str [60, 61]]), (6, .i 5)], [], [], [], 0⟩) (σ' := σ) (ob := True ∧ (0 ≤ (5 : Int) ∧ (5 : Int) < 9) ∧ True ∧ True ∧ True) (by kernel_rfl) ⟨trivial, (by first | omega | (simp; done) | (simp; omega)), trivial, trivial, trivial⟩ ?_
    refine ACode.seq ?_
    refine ACode.run hT nh [0, 3, 5, 6, 12] (fr' := ⟨[(0, .str t), (3, .i 5), (5, .agg [.str [43], .str [45], .str [42], .str [47], .str [37], .str [61, 61], .str [33, 61], .str [60], .str [60, 61]]), (6, .i 5), (12, .bool ([61, 61] == t))], [], [], [], 0⟩) (σ' := σ) (ob := Tt 4) (by kernel_rfl) (tt 4) ?_
    refine ACode.cond (t := [61, 61] == t) (by kernel_rfl) (fun h6 => ?_) (fun h6 => ?_)
    · -- true
      have h6k := eq_of_beq h6
      refine ACode.seq ?_
      refine ACode.run hT nh [2] (fr' := ⟨[(2, .i 5)], [], [], [], 0⟩) (σ' := σ) (ob := Tt 3) (by kernel_rfl) (tt 3) ?_
      refine ACode.ret ?_
      refine retQ.ret (.i 5) (by kernel_rfl) ?_
      refine ⟨rfl, ?_⟩
      rw [hP]; show _ = AEnd.ret (AV.int _ (if ([61, 61] == t) = true then _ else _)); rw [h6]; rfl
    · -- false
      have h6k := ne_of_beq_false h6
      refine ACode.skip ?_
      refine ACode.run hT nh [0, 5, 6] (fr' := ⟨[(0, .str t), (5, .agg [.str [43], .str [45], .str [42], .str [47], .str [37], .str [61, 61], .str [33, 61], .str [60], .str [60, 61]]), (6, .i 6)], [], [], [], 0⟩) (σ' := σ) (ob := Tt 3) (by kernel_rfl) (tt 3) ?_
      refine ⟨by kernel_rfl, _, ?_, (.inr (.inr (.inr (.inr (.inr (.inr (.inl ⟨rfl, rfl, ?_, rfl⟩)))))))⟩
      · omega
      · rw [hP, binFrom_5 t h6]
  · -- round 6
    refine ACode.seq ?_
    refine ACode.run hT nh [0, 5, 6, 7] (fr' := ⟨[(0, .str t), (5, .agg [.str [43], .str [45], .str [42], .str [47], .str [37], .str [61, 61], .str [33, 61], .str [60], .str [60, 61]]), (6, .i 6), (7, .bool true)], [], [], [], 0⟩) (σ' := σ) (ob := Tt 2) (by kernel_rfl) (tt 2) ?_
    refine ACode.seq ?_
    refine ACode.cond (t := true) (by kernel_rfl) (fun _ => ?_) (fun h => Bool.noConfusion h)
    refine ACode.skip ?_
    refine ACode.seq ?_
    refine ACode.block ?_
    refine ACode.seq ?_
    refine ACode.run hT nh [0, 3, 4, 5, 6] (fr' := ⟨[(0, .str t), (3, .i 6), (4, .str [33, 61]), (5, .agg [.str [43], .str [45], .str [42], .str [47], .str [37], .str [61, 61], .str [33, 61], .str [60], .str [60, 61]]), (6, .i 6)], [], [], [], 0⟩) (σ' := σ) (ob := True ∧ (0 ≤ (6 : Int) ∧ (6 : Int) < 9) ∧ True ∧ True ∧ True) (by kernel_rfl) ⟨trivial, (by first | omega | (simp; done) | (simp; omega)), trivial, trivial, trivial⟩ ?_
    refine ACode.seq ?_
    refine ACode.run hT nh [0, 3, 5, 6, 12] (fr' := ⟨[(0, .str t), (3, .i 6), (5, .agg [.str [43], .str [45], .str [42], .str [47], .str [37], .str [61, 61], .str [33, 61], .str [60], .str [60, 61]]), (6, .i 6), (12, .bool ([33, 61] == t))], [], [], [], 0⟩) (σ' := σ) (ob := Tt 4) (by kernel_rfl) (tt 4) ?_
    refine ACode.cond (t := [33, 61] == t) (by kernel_rfl) (fun h7 => ?_) (fun h7 => ?_)
    · -- true
      have h7k := eq_of_beq h7
      refine ACode.seq ?_
      refine ACode.run hT nh [2] (fr' := ⟨[(2, .i 6)], [], [], [], 0⟩) (σ' := σ) (ob := Tt 3) (by kernel_rfl) (tt 3) ?_
      refine ACode.ret ?_
      refine retQ.ret (.i 6) (by kernel_rfl) ?_
      refine ⟨rfl, ?_⟩
      rw [hP]; show _ = AEnd.ret (AV.int _ (if ([33, 61] == t) = true then _ else _)); rw [h7]; rfl
    · -- false
      have h7k := ne_of_beq_false h7
      refine ACode.skip ?_
      refine ACode.run hT nh [0, 5, 6] (fr' := ⟨[(0, .str t), (5, .agg [.str [43], .str [45], .str [42], .str [47], .str [37], .str [61, 61], .str [33, 61], .str [60], .str [60, 61]]), (6, .i 7)], [], [], [], 0⟩) (σ' := σ) (ob := Tt 3) (by kernel_rfl) (tt 3) ?_
      refine ⟨by kernel_rfl, _, ?_, (.inr (.inr (.inr (.inr (.inr (.inr (.inr (.inl ⟨rfl, rfl, ?_, rfl⟩))))))))⟩
      · omega
      · rw [hP, binFrom_6 t h7]
  · -- round 7
    refine ACode.seq ?_
    refine ACode.run hT nh [0, 5, 6, 7] (fr' := ⟨[(0, .str t), (5, .agg [.str [43], .str [45], .str [42], .str [47], .str [37], .str [61, 61], .str [33, 61], .str [60], .str [60, 61]]), (6, .i 7), (7, .bool true)], [], [], [], 0⟩) (σ' := σ) (ob := Tt 2) (by kernel_rfl) (tt 2) ?_
    refine ACode.seq ?_
    refine ACode.cond (t := true) (by kernel_rfl) (fun _ => ?_) (fun h => Bool.noConfusion h)
    refine ACode.skip ?_
    refine ACode.seq ?_
    refine ACode.block ?_
    refine ACode.seq ?_
    refine ACode.run hT nh [0, 3, 4, 5, 6] (fr' := ⟨[(0, .str t), (3, .i 7), (4, .str [60]), (5, .agg [.str [43], .str [45], .str [42], .str [47], .str [37], .str [61, 61], .str [33, 61], .str [60], .str [60, 61]]), (6, .i 7)], [], [], [], 0⟩) (σ' := σ) (ob := True ∧ (0 ≤ (7 : Int) ∧ (7 : Int) < 9) ∧ True ∧ True ∧ True) (by kernel_rfl) ⟨trivial, (by first | omega | (simp; done) | (simp; omega)), trivial, trivial, trivial⟩ ?_
    refine ACode.seq ?_
    refine ACode.run hT nh [0, 3, 5, 6, 12] (fr' := ⟨[(0, .str t), (3, .i 7), (5, .agg [.str [43], .str [45], .str [42], .str [47], .str [37], .str [61, 61], .str [33, 61], .str [60], .str [60, 61]]), (6, .i 7), (12, .bool ([60] == t))], [], [], [], 0⟩) (σ' := σ) (ob := Tt 4) (by kernel_rfl) (tt 4) ?_
    refine ACode.cond (t := [60] == t) (by kernel_rfl) (fun h8 => ?_) (fun h8 => ?_)
    · -- true
      have h8k := eq_of_beq h8
      refine ACode.seq ?_
      refine ACode.run hT nh [2] (fr' := ⟨[(2, .i 7)], [], [], [], 0⟩) (σ' := σ) (ob := Tt 3) (by kernel_rfl) (tt 3) ?_
      refine ACode.ret ?_
      refine retQ.ret (.i 7) (by kernel_rfl) ?_
      refine ⟨rfl, ?_⟩
      rw [hP]; show _ = AEnd.ret (AV.int _ (if ([60] == t) = true then _ else _)); rw [h8]; rfl
    · -- false
      have h8k := ne_of_beq_false h8
      refine ACode.skip ?_
      refine ACode.run hT nh [0, 5, 6] (fr' := ⟨[(0, .str t), (5, .agg [.str [43], .str [45], .str [42], .str [47], .str [37], .str [61, 61], .str [33, 61], .str [60], .str [60, 61]]), (6, .i 8)], [], [], [], 0⟩) (σ' := σ) (ob := Tt 3) (by kernel_rfl) (tt 3) ?_
      refine ⟨by kernel_rfl, _, ?_, (.inr (.inr (.inr (.inr (.inr (.inr (.inr (.inr (.inl ⟨rfl, rfl, ?_, rfl⟩)))))))))⟩
      · omega
      · rw [hP, binFrom_7 t h8]
  · -- round 8
    refine ACode.seq ?_
    refine ACode.run hT nh [0, 5, 6, 7] (fr' := ⟨[(0, .str t), (5, .agg [.str [43], .str [45], .str [42], .str [47], .str [37], .str [61, 61], .str [33, 61], .str [60], .str [60, 61]]), (6, .i 8), (7, .bool true)], [], [], [], 0⟩) (σ' := σ) (ob := Tt 2) (by kernel_rfl) (tt 2) ?_
    refine ACode.seq ?_
    refine ACode.cond (t := true) (by kernel_rfl) (fun _ => ?_) (fun h => Bool.noConfusion h)
    refine ACode.skip ?_
    refine ACode.seq ?_
    refine ACode.block ?_
    refine ACode.seq ?_
    refine ACode.run hT nh [0, 3, 4, 5, 6] (fr' := ⟨[(0, .str t), (3, .i 8), (4, .str [60, 61]), (5, .agg [.str [43], .str [45], .str [42], .str [47], .str [37], .str [61, 61], .str [33, 61], .str [60], .str [60, 61]]), (6, .i 8)], [], [], [], 0⟩) (σ' := σ) (ob := True ∧ (0 ≤ (8 : Int) ∧ (8 : Int) < 9) ∧ True ∧ True ∧ True) (by kernel_rfl) ⟨trivial, (by first | omega | (simp; done) | (simp; omega)), trivial, trivial, trivial⟩ ?_
    refine ACode.seq ?_
    refine ACode.run hT nh [0, 3, 5, 6, 12] (fr' := ⟨[(0, .str t), (3, .i 8), (5, .agg [.str [43], .str [45], .str [42], .str [47], .str [37], .str [61, 61], .str [33, 61], .str [60], .str [60, 61]]), (6, .i 8), (12, .bool ([60, 61] == t))], [], [], [], 0⟩) (σ' := σ) (ob := Tt 4) (by kernel_rfl) (tt 4) ?_
    refine ACode.cond (t := [60, 61] == t) (by kernel_rfl) (fun h9 => ?_) (fun h9 => ?_)
    · -- true
      have h9k := eq_of_beq h9
      refine ACode.seq ?_
      refine ACode.run hT nh [2] (fr' := ⟨[(2, .i 8)], [], [], [], 0⟩) (σ' := σ) (ob := Tt 3) (by kernel_rfl) (tt 3) ?_
      refine ACode.ret ?_
      refine retQ.ret (.i 8) (by kernel_rfl) ?_
      refine ⟨rfl, ?_⟩
      rw [hP]; show _ = AEnd.ret (AV.int _ (if ([60, 61] == t) = true then _ else _)); rw [h9]; rfl
    · -- false
      have h9k := ne_of_beq_false h9
      refine ACode.skip ?_
      refine ACode.run hT nh [0, 5, 6] (fr' := ⟨[(0, .str t), (5, .agg [.str [43], .str [45], .str [42], .str [47], .str [37], .str [61, 61], .str [33, 61], .str [60], .str [60, 61]]), (6, .i 9)], [], [], [], 0⟩) (σ' := σ) (ob := Tt 3) (by kernel_rfl) (tt 3) ?_
      refine ⟨by kernel_rfl, _, ?_, (.inr (.inr (.inr (.inr (.inr (.inr (.inr (.inr (.inr ⟨rfl, rfl, ?_, rfl⟩)))))))))⟩
      · omega
      · rw [hP, binFrom_8 t h9]
  · -- round 9
    refine ACode.seq ?_
    refine ACode.run hT nh [0, 5, 6, 7] (fr' := ⟨[(0, .str t), (5, .agg [.str [43], .str [45], .str [42], .str [47], .str [37], .str [61, 61], .str [33, 61], .str [60], .str [60, 61]]), (6, .i 9), (7, .bool false)], [], [], [], 0⟩) (σ' := σ) (ob := Tt 2) (by kernel_rfl) (tt 2) ?_
    refine ACode.seq ?_
    refine ACode.cond (t := false) (by kernel_rfl) (fun h => Bool.noConfusion h) (fun _ => ?_)
    refine ACode.exit ?_
    refine ACode.seq ?_
    refine ACode.run hT nh [2] (fr' := ⟨[(2, .i 0)], [], [], [], 0⟩) (σ' := σ) (ob := Tt 2) (by kernel_rfl) (tt 2) ?_
    refine ACode.ret ?_
    refine retQ.ret (.i 0) (by kernel_rfl) ?_
    refine ⟨rfl, ?_⟩
    rw [hP]; rfl
theorem signs_walk (v : Nat) (hv : v < 3) (σ : St) : ACalls Tryd.prog 104 [.i (v : Int)] σ (fun e s => σ = s ∧ e = .ret (.str (signsS v))) := by
  match v, hv with
  | 0, _ =>
    refine ACalls.enter hT Tryd.func104 rfl (by kernel_rfl) ?_
    refine ACode.seq ?_
    refine ACode.run hT nh [0] (fr' := ⟨[(0, .i 0)], [], [], [], 0⟩) (σ' := σ) (ob := Tt 2) (by kernel_rfl) (tt 2) ?_
    refine ACode.seq ?_
    refine ACode.run hT nh [2] (fr' := ⟨[(2, .str [32, 61, 61, 32, 33, 61, 32, 60, 32, 60, 61, 32])], [], [], [], 0⟩) (σ' := σ) (ob := True ∧ True ∧ (0 ≤ (0 : Int) ∧ (0 : Int) < 3) ∧ True ∧ True) (by kernel_rfl) ⟨trivial, trivial, (by first | omega | (simp; done) | (simp; omega)), trivial, trivial⟩ ?_
    refine ACode.ret ?_
    exact retQ.ret (.str [32, 61, 61, 32, 33, 61, 32, 60, 32, 60, 61, 32]) (by kernel_rfl) ⟨rfl, rfl⟩
  
  | 1, _ =>
    refine ACalls.enter hT Tryd.func104 rfl (by kernel_rfl) ?_
    refine ACode.seq ?_
    refine ACode.run hT nh [0] (fr' := ⟨[(0, .i 1)], [], [], [], 0⟩) (σ' := σ) (ob := Tt 2) (by kernel_rfl) (tt 2) ?_
    refine ACode.seq ?_
    refine ACode.run hT nh [2] (fr' := ⟨[(2, .str [32, 43, 32, 45, 32])], [], [], [], 0⟩) (σ' := σ) (ob := True ∧ True ∧ (0 ≤ (1 : Int) ∧ (1 : Int) < 3) ∧ True ∧ True) (by kernel_rfl) ⟨trivial, trivial, (by first | omega | (simp; done) | (simp; omega)), trivial, trivial⟩ ?_
    refine ACode.ret ?_
    exact retQ.ret (.str [32, 43, 32, 45, 32]) (by kernel_rfl) ⟨rfl, rfl⟩
  
  | 2, _ =>
    refine ACalls.enter hT Tryd.func104 rfl (by kernel_rfl) ?_
    refine ACode.seq ?_
    refine ACode.run hT nh [0] (fr' := ⟨[(0, .i 2)], [], [], [], 0⟩) (σ' := σ) (ob := Tt 2) (by kernel_rfl) (tt 2) ?_
    refine ACode.seq ?_
    refine ACode.run hT nh [2] (fr' := ⟨[(2, .str [32, 42, 32, 47, 32, 37, 32])], [], [], [], 0⟩) (σ' := σ) (ob := True ∧ True ∧ (0 ≤ (2 : Int) ∧ (2 : Int) < 3) ∧ True ∧ True) (by kernel_rfl) ⟨trivial, trivial, (by first | omega | (simp; done) | (simp; omega)), trivial, trivial⟩ ?_
    refine ACode.ret ?_
    exact retQ.ret (.str [32, 42, 32, 47, 32, 37, 32]) (by kernel_rfl) ⟨rfl, rfl⟩
  
theorem p_label (l : List Tok) (lo : Own) (hll : l.length ≤ 100000)  (s : PS)  (hne : labelF l s ≠ .out) : ACalls Tryd.prog 76 [.ptr 0 0] [psAV lo l s] (PR (fun (t : List UInt8) => .str t) lo l (labelF l s)) := by
  generalize hX : labelF l s = X at hne ⊢
  refine ACalls.soft ?_
  unfold labelF at hX
  refine ACalls.enter hT Tryd.func76 rfl (by kernel_rfl) ?_
  refine ACode.seq ?_
  refine ACode.run hT nh [0] (fr' := ⟨[(0, .ptr 0 0)], [], [], [], 0⟩) (σ' := [psAV lo l s]) (ob := Tt 2) (by kernel_rfl) (tt 2) ?_
  refine ACode.seq ?_
  refine ACode.seq ?_
  refine ACode.region ?_
  refine AOps.runN hT nh 1 [0, 3] (fr' := ⟨[(0, .ptr 0 0), (3, .ptr 0 0)], [], [], [], 0⟩) (σ' := [psAV lo l s]) (ob := Tt 2) (by kernel_rfl) (tt 2) ?_
  have nk1 : peekF l s ≠ .out := by intro h9; simp only [h9, R.out_bind] at hX; exact hne hX.symm
  refine AOps.call (fid := 40) (cap := []) (avs := [.ptr 0 0]) (by kernel_rfl) rfl (by kernel_rfl) (by kernel_rfl) en_40 (by kernel_rfl) (ACalls.mono (p_peek l lo hll s nk1) ?_)
  cases k1 : peekF l s with
  | out => exact absurd k1 nk1
  | bad ea eb ec =>
    rintro _ _ ⟨rfl, pp, dd, rfl⟩
    simp only [k1, R.bad_bind] at hX
    subst hX
    exact PR.bad_intro (vAV := fun (t : List UInt8) => .str t) pp dd rfl rfl
  | ok v2 s3 =>
    rintro _ _ ⟨rfl, rfl⟩
    simp only [k1, R.ok_bind] at hX
    obtain ⟨hsk1, hpk1, hvk1⟩ := peekF_ok k1
    refine AOps.runN hT nh 2 [0, 6] (fr' := ⟨[(0, .ptr 0 0), (6, .bool (v2.kind == 1))], [], [], [], 0⟩) (σ' := [psAV lo l s3]) (ob := Tt 3) (by kernel_rfl) (tt 3) ?_
    refine AOps.nil ?_
    refine ACode.cond (t := v2.kind == 1) (by kernel_rfl) (fun h4 => ?_) (fun h4 => ?_)
    · -- true
      have h4k := eq_of_beq h4
      try simp only [h4, Bool.false_eq_true, Bool.not_true, Bool.not_false, if_true, if_false] at hX
      refine ACode.seq ?_
      refine ACode.region ?_
      refine AOps.runN hT nh 1 [7] (fr' := ⟨[(7, .ptr 0 0)], [], [], [], 0⟩) (σ' := [psAV lo l s3]) (ob := Tt 2) (by kernel_rfl) (tt 2) ?_
      have nk5 : nextF l s3 ≠ .out := by intro h9; simp only [h9, R.out_bind] at hX; exact hne hX.symm
      refine AOps.call (fid := 69) (cap := []) (avs := [.ptr 0 0]) (by kernel_rfl) rfl (by kernel_rfl) (by kernel_rfl) en_69 (by kernel_rfl) (ACalls.mono (p_next l lo hll s3 nk5) ?_)
      cases k5 : nextF l s3 with
      | out => exact absurd k5 nk5
      | bad ea eb ec =>
        rintro _ _ ⟨rfl, pp, dd, rfl⟩
        simp only [k5, R.bad_bind] at hX
        subst hX
        exact PR.bad_intro (vAV := fun (t : List UInt8) => .str t) pp dd rfl rfl
      | ok v6 s7 =>
        rintro _ _ ⟨rfl, rfl⟩
        simp only [k5, R.ok_bind] at hX
        refine AOps.runN hT nh 2 [2] (fr' := ⟨[(2, .str v6.text)], [], [], [], 0⟩) (σ' := [psAV lo l s7]) (ob := Tt 3) (by kernel_rfl) (tt 3) ?_
        refine AOps.nil ?_
        refine ACode.ret ?_
        refine retQ.ret (.str v6.text) (by kernel_rfl) ?_
        subst hX
        exact PR.ok_intro rfl rfl
    · -- false
      have h4k := ne_of_beq_false h4
      try simp only [h4, Bool.false_eq_true, Bool.not_true, Bool.not_false, if_true, if_false] at hX
      refine ACode.skip ?_
      refine ACode.seq ?_
      refine ACode.run hT nh [2] (fr' := ⟨[(2, .str [])], [], [], [], 0⟩) (σ' := [psAV lo l s3]) (ob := Tt 2) (by kernel_rfl) (tt 2) ?_
      refine ACode.ret ?_
      refine retQ.ret (.str []) (by kernel_rfl) ?_
      subst hX
      exact PR.ok_intro rfl rfl

def typ4 (l : List Tok) (s : PS) : R Ty := (kindF l 1 s).bind fun t s => .ok ⟨4, t.text⟩ s
def typ3 (l : List Tok) (s : PS) : R Ty := (eatF l [105, 110, 116, 115] s).bind fun b s => if b then .ok ⟨3, []⟩ s else typ4 l s
def typ2 (l : List Tok) (s : PS) : R Ty := (eatF l [114, 101, 97, 108] s).bind fun b s => if b then .ok ⟨2, []⟩ s else typ3 l s
def typ1 (l : List Tok) (s : PS) : R Ty := (eatF l [105, 110, 116] s).bind fun b s => if b then .ok ⟨1, []⟩ s else typ2 l s
theorem typF_from (l : List Tok) (s : PS) : typF l s = typ1 l s := by simp only [typF, typ1, typ2, typ3, typ4]
theorem p_typ (l : List Tok) (lo : Own) (hll : l.length ≤ 100000)  (s : PS)  (hne : typF l s ≠ .out) : ACalls Tryd.prog 58 [.ptr 0 0] [psAV lo l s] (PR (fun (y : Ty) => .agg (tyAV y)) lo l (typF l s)) := by
  generalize hX : typF l s = X at hne ⊢
  refine ACalls.soft ?_
  rw [typF_from] at hX
  refine ACalls.enter hT Tryd.func58 rfl (by kernel_rfl) ?_
  refine ACode.seq ?_
  refine ACode.run hT nh [0, 2] (fr' := ⟨[(0, .ptr 0 0), (2, .loc 0 0)], [[.i 0, .str []]], [], [], 0⟩) (σ' := [psAV lo l s]) (ob := Tt 2) (by kernel_rfl) (tt 2) ?_
  refine ACode.seq ?_
  refine ACode.seq ?_
  refine ACode.run hT nh [0, 2, 5, 6] (fr' := ⟨[(0, .ptr 0 0), (2, .loc 0 0), (5, .agg [.str [], .str [105, 110, 116], .str [114, 101, 97, 108], .str [105, 110, 116, 115]]), (6, .i 0)], [[.i 0, .str []]], [], [], 0⟩) (σ' := [psAV lo l s]) (ob := Tt 3) (by kernel_rfl) (tt 3) ?_
  refine ACode.block ?_
  refine ACode.loop [0, 2, 5, 6] 1 0 (fun n0 fr σ' => ( fr = ⟨[(0, .ptr 0 0), (2, .loc 0 0), (5, .agg [.str [], .str [105, 110, 116], .str [114, 101, 97, 108], .str [105, 110, 116, 115]]), (6, .i 0)], [[.i 0, .str []]], [], [], 0⟩ ∧ σ' = [psAV lo l s] ∧ (typ1 l s = X) ∧ n0 = 5) ∨ ( fr = ⟨[(0, .ptr 0 0), (2, .loc 0 0), (5, .agg [.str [], .str [105, 110, 116], .str [114, 101, 97, 108], .str [105, 110, 116, 115]]), (6, .i 1)], [[.i 0, .str []]], [], [], 0⟩ ∧ σ' = [psAV lo l s] ∧ (typ1 l s = X) ∧ n0 = 4) ∨ (∃ (s2x : PS), fr = ⟨[(0, .ptr 0 0), (2, .loc 0 0), (5, .agg [.str [], .str [105, 110, 116], .str [114, 101, 97, 108], .str [105, 110, 116, 115]]), (6, .i 2)], [[.i 0, .str []]], [], [], 0⟩ ∧ σ' = [psAV lo l s2x] ∧ (typ2 l s2x = X) ∧ n0 = 3) ∨ (∃ (s3x : PS), fr = ⟨[(0, .ptr 0 0), (2, .loc 0 0), (5, .agg [.str [], .str [105, 110, 116], .str [114, 101, 97, 108], .str [105, 110, 116, 115]]), (6, .i 3)], [[.i 0, .str []]], [], [], 0⟩ ∧ σ' = [psAV lo l s3x] ∧ (typ3 l s3x = X) ∧ n0 = 2) ∨ (∃ (s4x : PS), fr = ⟨[(0, .ptr 0 0), (2, .loc 0 0), (5, .agg [.str [], .str [105, 110, 116], .str [114, 101, 97, 108], .str [105, 110, 116, 115]]), (6, .i 4)], [[.i 0, .str []]], [], [], 0⟩ ∧ σ' = [psAV lo l s4x] ∧ (typ4 l s4x = X) ∧ n0 = 1)) _ (by kernel_rfl) (.inl ⟨rfl, rfl, hX, rfl⟩) ?_
  rintro n0 fr σ' (⟨rfl, rfl, hX, rfl⟩ | ⟨rfl, rfl, hX, rfl⟩ | ⟨s2x, rfl, rfl, hX, rfl⟩ | ⟨s3x, rfl, rfl, hX, rfl⟩ | ⟨s4x, rfl, rfl, hX, rfl⟩)
  · -- round 0
    refine ACode.seq ?_
    refine ACode.run hT nh [0, 2, 5, 6, 7] (fr' := ⟨[(0, .ptr 0 0), (2, .loc 0 0), (5, .agg [.str [], .str [105, 110, 116], .str [114, 101, 97, 108], .str [105, 110, 116, 115]]), (6, .i 0), (7, .bool true)], [[.i 0, .str []]], [], [], 0⟩) (σ' := [psAV lo l s]) (ob := Tt 2) (by kernel_rfl) (tt 2) ?_
    refine ACode.seq ?_
    refine ACode.cond (t := true) (by kernel_rfl) (fun _ => ?_) (fun h => Bool.noConfusion h)
    refine ACode.skip ?_
    refine ACode.seq ?_
    refine ACode.block ?_
    refine ACode.seq ?_
    refine ACode.run hT nh [0, 2, 3, 4, 5, 6] (fr' := ⟨[(0, .ptr 0 0), (2, .loc 0 0), (3, .i 0), (4, .str []), (5, .agg [.str [], .str [105, 110, 116], .str [114, 101, 97, 108], .str [105, 110, 116, 115]]), (6, .i 0)], [[.i 0, .str []]], [], [], 0⟩) (σ' := [psAV lo l s]) (ob := True ∧ (0 ≤ (0 : Int) ∧ (0 : Int) < 4) ∧ True ∧ True ∧ True) (by kernel_rfl) ⟨trivial, (by first | omega | (simp; done) | (simp; omega)), trivial, trivial, trivial⟩ ?_
    refine ACode.seq ?_
    refine ACode.region ?_
    refine AOps.runN hT nh 7 [0, 2, 3, 5, 6, 16] (fr' := ⟨[(0, .ptr 0 0), (2, .loc 0 0), (3, .i 0), (5, .agg [.str [], .str [105, 110, 116], .str [114, 101, 97, 108], .str [105, 110, 116, 115]]), (6, .i 0), (16, .bool false)], [[.i 0, .str []]], [], [], 0⟩) (σ' := [psAV lo l s]) (ob := Tt 5) (by kernel_rfl) (tt 5) ?_
    refine AOps.nil ?_
    refine ACode.cond (t := false) (by kernel_rfl) (fun h => Bool.noConfusion h) (fun _ => ?_)
    refine ACode.skip ?_
    refine ACode.run hT nh [0, 2, 5, 6] (fr' := ⟨[(0, .ptr 0 0), (2, .loc 0 0), (5, .agg [.str [], .str [105, 110, 116], .str [114, 101, 97, 108], .str [105, 110, 116, 115]]), (6, .i 1)], [[.i 0, .str []]], [], [], 0⟩) (σ' := [psAV lo l s]) (ob := Tt 3) (by kernel_rfl) (tt 3) ?_
    refine ⟨by kernel_rfl, _, ?_, (.inr (.inl ⟨rfl, rfl, ?_, rfl⟩))⟩
    · omega
    · exact hX
  · -- round 1
    unfold typ1 at hX
    refine ACode.seq ?_
    refine ACode.run hT nh [0, 2, 5, 6, 7] (fr' := ⟨[(0, .ptr 0 0), (2, .loc 0 0), (5, .agg [.str [], .str [105, 110, 116], .str [114, 101, 97, 108], .str [105, 110, 116, 115]]), (6, .i 1), (7, .bool true)], [[.i 0, .str []]], [], [], 0⟩) (σ' := [psAV lo l s]) (ob := Tt 2) (by kernel_rfl) (tt 2) ?_
    refine ACode.seq ?_
    refine ACode.cond (t := true) (by kernel_rfl) (fun _ => ?_) (fun h => Bool.noConfusion h)
    refine ACode.skip ?_
    refine ACode.seq ?_
    refine ACode.block ?_
    refine ACode.seq ?_
    refine ACode.run hT nh [0, 2, 3, 4, 5, 6] (fr' := ⟨[(0, .ptr 0 0), (2, .loc 0 0), (3, .i 1), (4, .str [105, 110, 116]), (5, .agg [.str [], .str [105, 110, 116], .str [114, 101, 97, 108], .str [105, 110, 116, 115]]), (6, .i 1)], [[.i 0, .str []]], [], [], 0⟩) (σ' := [psAV lo l s]) (ob := True ∧ (0 ≤ (1 : Int) ∧ (1 : Int) < 4) ∧ True ∧ True ∧ True) (by kernel_rfl) ⟨trivial, (by first | omega | (simp; done) | (simp; omega)), trivial, trivial, trivial⟩ ?_
    refine ACode.seq ?_
    refine ACode.region ?_
    refine AOps.runN hT nh 5 [0, 2, 3, 5, 6, 12, 13, 14] (fr' := ⟨[(0, .ptr 0 0), (2, .loc 0 0), (3, .i 1), (5, .agg [.str [], .str [105, 110, 116], .str [114, 101, 97, 108], .str [105, 110, 116, 115]]), (6, .i 1), (12, .bool true), (13, .ptr 0 0), (14, .str [105, 110, 116])], [[.i 0, .str []]], [], [], 0⟩) (σ' := [psAV lo l s]) (ob := Tt 6) (by kernel_rfl) (tt 6) ?_
    have nk1 : eatF l [105, 110, 116] s ≠ .out := by intro h9; simp only [h9, R.out_bind] at hX; exact hne hX.symm
    refine AOps.call (fid := 41) (cap := []) (avs := [.ptr 0 0, .str [105, 110, 116]]) (by kernel_rfl) rfl (by kernel_rfl) (by kernel_rfl) en_41 (by kernel_rfl) (ACalls.mono (p_eat l lo hll [105, 110, 116] s nk1) ?_)
    cases k1 : eatF l [105, 110, 116] s with
    | out => exact absurd k1 nk1
    | bad ea eb ec =>
      rintro _ _ ⟨rfl, pp, dd, rfl⟩
      simp only [k1, R.bad_bind] at hX
      subst hX
      exact PR.bad_intro (vAV := fun (y : Ty) => .agg (tyAV y)) pp dd rfl rfl
    | ok v2 s3 =>
      rintro _ _ ⟨rfl, rfl⟩
      simp only [k1, R.ok_bind] at hX
      refine AOps.runN hT nh 1 [0, 2, 3, 5, 6, 16] (fr' := ⟨[(0, .ptr 0 0), (2, .loc 0 0), (3, .i 1), (5, .agg [.str [], .str [105, 110, 116], .str [114, 101, 97, 108], .str [105, 110, 116, 115]]), (6, .i 1), (16, .bool v2)], [[.i 0, .str []]], [], [], 0⟩) (σ' := [psAV lo l s3]) (ob := Tt 2) (by kernel_rfl) (tt 2) ?_
      refine AOps.nil ?_
      refine ACode.cond (t := v2) (by kernel_rfl) (fun h4 => ?_) (fun h4 => ?_)
      · -- true
        skip
        try simp only [h4, Bool.false_eq_true, Bool.not_true, Bool.not_false, if_true, if_false] at hX
        refine ACode.seq ?_
        refine ACode.run hT nh [2] (fr' := ⟨[(2, .loc 0 0)], [[.i 1, .str []]], [], [], 0⟩) (σ' := [psAV lo l s3]) (ob := Tt 4) (by kernel_rfl) (tt 4) ?_
        refine ACode.ret ?_
        refine retQ.ret (.agg [.i 1, .str []]) (by kernel_rfl) ?_
        subst hX
        exact PR.ok_intro rfl rfl
      · -- false
        skip
        try simp only [h4, Bool.false_eq_true, Bool.not_true, Bool.not_false, if_true, if_false] at hX
        refine ACode.skip ?_
        refine ACode.run hT nh [0, 2, 5, 6] (fr' := ⟨[(0, .ptr 0 0), (2, .loc 0 0), (5, .agg [.str [], .str [105, 110, 116], .str [114, 101, 97, 108], .str [105, 110, 116, 115]]), (6, .i 2)], [[.i 0, .str []]], [], [], 0⟩) (σ' := [psAV lo l s3]) (ob := Tt 3) (by kernel_rfl) (tt 3) ?_
        refine ⟨by kernel_rfl, _, ?_, (.inr (.inr (.inl ⟨s3, rfl, rfl, ?_, rfl⟩)))⟩
        · omega
        · exact hX
  · -- round 2
    unfold typ2 at hX
    refine ACode.seq ?_
    refine ACode.run hT nh [0, 2, 5, 6, 7] (fr' := ⟨[(0, .ptr 0 0), (2, .loc 0 0), (5, .agg [.str [], .str [105, 110, 116], .str [114, 101, 97, 108], .str [105, 110, 116, 115]]), (6, .i 2), (7, .bool true)], [[.i 0, .str []]], [], [], 0⟩) (σ' := [psAV lo l s2x]) (ob := Tt 2) (by kernel_rfl) (tt 2) ?_
    refine ACode.seq ?_
    refine ACode.cond (t := true) (by kernel_rfl) (fun _ => ?_) (fun h => Bool.noConfusion h)
    refine ACode.skip ?_
    refine ACode.seq ?_
    refine ACode.block ?_
    refine ACode.seq ?_
    refine ACode.run hT nh [0, 2, 3, 4, 5, 6] (fr' := ⟨[(0, .ptr 0 0), (2, .loc 0 0), (3, .i 2), (4, .str [114, 101, 97, 108]), (5, .agg [.str [], .str [105, 110, 116], .str [114, 101, 97, 108], .str [105, 110, 116, 115]]), (6, .i 2)], [[.i 0, .str []]], [], [], 0⟩) (σ' := [psAV lo l s2x]) (ob := True ∧ (0 ≤ (2 : Int) ∧ (2 : Int) < 4) ∧ True ∧ True ∧ True) (by kernel_rfl) ⟨trivial, (by first | omega | (simp; done) | (simp; omega)), trivial, trivial, trivial⟩ ?_
    refine ACode.seq ?_
    refine ACode.region ?_
    refine AOps.runN hT nh 5 [0, 2, 3, 5, 6, 12, 13, 14] (fr' := ⟨[(0, .ptr 0 0), (2, .loc 0 0), (3, .i 2), (5, .agg [.str [], .str [105, 110, 116], .str [114, 101, 97, 108], .str [105, 110, 116, 115]]), (6, .i 2), (12, .bool true), (13, .ptr 0 0), (14, .str [114, 101, 97, 108])], [[.i 0, .str []]], [], [], 0⟩) (σ' := [psAV lo l s2x]) (ob := Tt 6) (by kernel_rfl) (tt 6) ?_
    have nk5 : eatF l [114, 101, 97, 108] s2x ≠ .out := by intro h9; simp only [h9, R.out_bind] at hX; exact hne hX.symm
    refine AOps.call (fid := 41) (cap := []) (avs := [.ptr 0 0, .str [114, 101, 97, 108]]) (by kernel_rfl) rfl (by kernel_rfl) (by kernel_rfl) en_41 (by kernel_rfl) (ACalls.mono (p_eat l lo hll [114, 101, 97, 108] s2x nk5) ?_)
    cases k5 : eatF l [114, 101, 97, 108] s2x with
    | out => exact absurd k5 nk5
    | bad ea eb ec =>
      rintro _ _ ⟨rfl, pp, dd, rfl⟩
      simp only [k5, R.bad_bind] at hX
      subst hX
      exact PR.bad_intro (vAV := fun (y : Ty) => .agg (tyAV y)) pp dd rfl rfl
    | ok v6 s7 =>
      rintro _ _ ⟨rfl, rfl⟩
      simp only [k5, R.ok_bind] at hX
      refine AOps.runN hT nh 1 [0, 2, 3, 5, 6, 16] (fr' := ⟨[(0, .ptr 0 0), (2, .loc 0 0), (3, .i 2), (5, .agg [.str [], .str [105, 110, 116], .str [114, 101, 97, 108], .str [105, 110, 116, 115]]), (6, .i 2), (16, .bool v6)], [[.i 0, .str []]], [], [], 0⟩) (σ' := [psAV lo l s7]) (ob := Tt 2) (by kernel_rfl) (tt 2) ?_
      refine AOps.nil ?_
      refine ACode.cond (t := v6) (by kernel_rfl) (fun h8 => ?_) (fun h8 => ?_)
      · -- true
        skip
        try simp only [h8, Bool.false_eq_true, Bool.not_true, Bool.not_false, if_true, if_false] at hX
        refine ACode.seq ?_
        refine ACode.run hT nh [2] (fr' := ⟨[(2, .loc 0 0)], [[.i 2, .str []]], [], [], 0⟩) (σ' := [psAV lo l s7]) (ob := Tt 4) (by kernel_rfl) (tt 4) ?_
        refine ACode.ret ?_
        refine retQ.ret (.agg [.i 2, .str []]) (by kernel_rfl) ?_
        subst hX
        exact PR.ok_intro rfl rfl
      · -- false
        skip
        try simp only [h8, Bool.false_eq_true, Bool.not_true, Bool.not_false, if_true, if_false] at hX
        refine ACode.skip ?_
        refine ACode.run hT nh [0, 2, 5, 6] (fr' := ⟨[(0, .ptr 0 0), (2, .loc 0 0), (5, .agg [.str [], .str [105, 110, 116], .str [114, 101, 97, 108], .str [105, 110, 116, 115]]), (6, .i 3)], [[.i 0, .str []]], [], [], 0⟩) (σ' := [psAV lo l s7]) (ob := Tt 3) (by kernel_rfl) (tt 3) ?_
        refine ⟨by kernel_rfl, _, ?_, (.inr (.inr (.inr (.inl ⟨s7, rfl, rfl, ?_, rfl⟩))))⟩
        · omega
        · exact hX
  · -- round 3
    unfold typ3 at hX
    refine ACode.seq ?_
    refine ACode.run hT nh [0, 2, 5, 6, 7] (fr' := ⟨[(0, .ptr 0 0), (2, .loc 0 0), (5, .agg [.str [], .str [105, 110, 116], .str [114, 101, 97, 108], .str [105, 110, 116, 115]]), (6, .i 3), (7, .bool true)], [[.i 0, .str []]], [], [], 0⟩) (σ' := [psAV lo l s3x]) (ob := Tt 2) (by kernel_rfl) (tt 2) ?_
    refine ACode.seq ?_
    refine ACode.cond (t := true) (by kernel_rfl) (fun _ => ?_) (fun h => Bool.noConfusion h)
    refine ACode.skip ?_
    refine ACode.seq ?_
    refine ACode.block ?_
    refine ACode.seq ?_
    refine ACode.run hT nh [0, 2, 3, 4, 5, 6] (fr' := ⟨[(0, .ptr 0 0), (2, .loc 0 0), (3, .i 3), (4, .str [105, 110, 116, 115]), (5, .agg [.str [], .str [105, 110, 116], .str [114, 101, 97, 108], .str [105, 110, 116, 115]]), (6, .i 3)], [[.i 0, .str []]], [], [], 0⟩) (σ' := [psAV lo l s3x]) (ob := True ∧ (0 ≤ (3 : Int) ∧ (3 : Int) < 4) ∧ True ∧ True ∧ True) (by kernel_rfl) ⟨trivial, (by first | omega | (simp; done) | (simp; omega)), trivial, trivial, trivial⟩ ?_
    refine ACode.seq ?_
    refine ACode.region ?_
    refine AOps.runN hT nh 5 [0, 2, 3, 5, 6, 12, 13, 14] (fr' := ⟨[(0, .ptr 0 0), (2, .loc 0 0), (3, .i 3), (5, .agg [.str [], .str [105, 110, 116], .str [114, 101, 97, 108], .str [105, 110, 116, 115]]), (6, .i 3), (12, .bool true), (13, .ptr 0 0), (14, .str [105, 110, 116, 115])], [[.i 0, .str []]], [], [], 0⟩) (σ' := [psAV lo l s3x]) (ob := Tt 6) (by kernel_rfl) (tt 6) ?_
    have nk9 : eatF l [105, 110, 116, 115] s3x ≠ .out := by intro h9; simp only [h9, R.out_bind] at hX; exact hne hX.symm
    refine AOps.call (fid := 41) (cap := []) (avs := [.ptr 0 0, .str [105, 110, 116, 115]]) (by kernel_rfl) rfl (by kernel_rfl) (by kernel_rfl) en_41 (by kernel_rfl) (ACalls.mono (p_eat l lo hll [105, 110, 116, 115] s3x nk9) ?_)
    cases k9 : eatF l [105, 110, 116, 115] s3x with
    | out => exact absurd k9 nk9
    | bad ea eb ec =>
      rintro _ _ ⟨rfl, pp, dd, rfl⟩
      simp only [k9, R.bad_bind] at hX
      subst hX
      exact PR.bad_intro (vAV := fun (y : Ty) => .agg (tyAV y)) pp dd rfl rfl
    | ok v10 s11 =>
      rintro _ _ ⟨rfl, rfl⟩
      simp only [k9, R.ok_bind] at hX
      refine AOps.runN hT nh 1 [0, 2, 3, 5, 6, 16] (fr' := ⟨[(0, .ptr 0 0), (2, .loc 0 0), (3, .i 3), (5, .agg [.str [], .str [105, 110, 116], .str [114, 101, 97, 108], .str [105, 110, 116, 115]]), (6, .i 3), (16, .bool v10)], [[.i 0, .str []]], [], [], 0⟩) (σ' := [psAV lo l s11]) (ob := Tt 2) (by kernel_rfl) (tt 2) ?_
      refine AOps.nil ?_
      refine ACode.cond (t := v10) (by kernel_rfl) (fun h12 => ?_) (fun h12 => ?_)
      · -- true
        skip
        try simp only [h12, Bool.false_eq_true, Bool.not_true, Bool.not_false, if_true, if_false] at hX
        refine ACode.seq ?_
        refine ACode.run hT nh [2] (fr' := ⟨[(2, .loc 0 0)], [[.i 3, .str []]], [], [], 0⟩) (σ' := [psAV lo l s11]) (ob := Tt 4) (by kernel_rfl) (tt 4) ?_
        refine ACode.ret ?_
        refine retQ.ret (.agg [.i 3, .str []]) (by kernel_rfl) ?_
        subst hX
        exact PR.ok_intro rfl rfl
      · -- false
        skip
        try simp only [h12, Bool.false_eq_true, Bool.not_true, Bool.not_false, if_true, if_false] at hX
        refine ACode.skip ?_
        refine ACode.run hT nh [0, 2, 5, 6] (fr' := ⟨[(0, .ptr 0 0), (2, .loc 0 0), (5, .agg [.str [], .str [105, 110, 116], .str [114, 101, 97, 108], .str [105, 110, 116, 115]]), (6, .i 4)], [[.i 0, .str []]], [], [], 0⟩) (σ' := [psAV lo l s11]) (ob := Tt 3) (by kernel_rfl) (tt 3) ?_
        refine ⟨by kernel_rfl, _, ?_, (.inr (.inr (.inr (.inr ⟨s11, rfl, rfl, ?_, rfl⟩))))⟩
        · omega
        · exact hX
  · -- round 4
    unfold typ4 at hX
    refine ACode.seq ?_
    refine ACode.run hT nh [0, 2, 5, 6, 7] (fr' := ⟨[(0, .ptr 0 0), (2, .loc 0 0), (5, .agg [.str [], .str [105, 110, 116], .str [114, 101, 97, 108], .str [105, 110, 116, 115]]), (6, .i 4), (7, .bool false)], [[.i 0, .str []]], [], [], 0⟩) (σ' := [psAV lo l s4x]) (ob := Tt 2) (by kernel_rfl) (tt 2) ?_
    refine ACode.seq ?_
    refine ACode.cond (t := false) (by kernel_rfl) (fun h => Bool.noConfusion h) (fun _ => ?_)
    refine ACode.exit ?_
    refine ACode.seq ?_
    refine ACode.region ?_
    refine AOps.runN hT nh 1 [2, 20] (fr' := ⟨[(2, .loc 0 0), (20, .ptr 0 0)], [[.i 0, .str []]], [], [], 0⟩) (σ' := [psAV lo l s4x]) (ob := Tt 2) (by kernel_rfl) (tt 2) ?_
    have nk13 : kindF l 1 s4x ≠ .out := by intro h9; simp only [h9, R.out_bind] at hX; exact hne hX.symm
    refine AOps.call (fid := 57) (cap := []) (avs := [.ptr 0 0, .i 1]) (by kernel_rfl) rfl (by kernel_rfl) (by kernel_rfl) en_57 (by kernel_rfl) (ACalls.mono (p_kind l lo hll 1 s4x nk13) ?_)
    cases k13 : kindF l 1 s4x with
    | out => exact absurd k13 nk13
    | bad ea eb ec =>
      rintro _ _ ⟨rfl, pp, dd, rfl⟩
      simp only [k13, R.bad_bind] at hX
      subst hX
      exact PR.bad_intro (vAV := fun (y : Ty) => .agg (tyAV y)) pp dd rfl rfl
    | ok v14 s15 =>
      rintro _ _ ⟨rfl, rfl⟩
      simp only [k13, R.ok_bind] at hX
      refine AOps.runN hT nh 3 [2] (fr' := ⟨[(2, .loc 0 0)], [[.i 4, .str v14.text]], [], [], 0⟩) (σ' := [psAV lo l s15]) (ob := Tt 4) (by kernel_rfl) (tt 4) ?_
      refine AOps.nil ?_
      refine ACode.ret ?_
      refine retQ.ret (.agg [.i 4, .str v14.text]) (by kernel_rfl) ?_
      subst hX
      exact PR.ok_intro rfl rfl

theorem p_named (l : List Tok) (lo : Own) (hll : l.length ≤ 100000)  (s : PS)  (hne : namedF l s ≠ .out) : ACalls Tryd.prog 43 [.ptr 0 0] [psAV lo l s] (PR (fun (x : Nm) => .agg (nmAV x)) lo l (namedF l s)) := by
  generalize hX : namedF l s = X at hne ⊢
  refine ACalls.soft ?_
  unfold namedF at hX
  refine ACalls.enter hT Tryd.func43 rfl (by kernel_rfl) ?_
  refine ACode.seq ?_
  refine ACode.run hT nh [0, 2] (fr' := ⟨[(0, .ptr 0 0), (2, .loc 0 0)], [[.str [], .i 0, .str [], .i 0, .i 0]], [], [], 0⟩) (σ' := [psAV lo l s]) (ob := Tt 2) (by kernel_rfl) (tt 2) ?_
  refine ACode.seq ?_
  refine ACode.region ?_
  refine AOps.runN hT nh 1 [0, 2, 4] (fr' := ⟨[(0, .ptr 0 0), (2, .loc 0 0), (4, .ptr 0 0)], [[.str [], .i 0, .str [], .i 0, .i 0]], [], [], 0⟩) (σ' := [psAV lo l s]) (ob := Tt 2) (by kernel_rfl) (tt 2) ?_
  have nk1 : kindF l 1 s ≠ .out := by intro h9; simp only [h9, R.out_bind] at hX; exact hne hX.symm
  refine AOps.call (fid := 57) (cap := []) (avs := [.ptr 0 0, .i 1]) (by kernel_rfl) rfl (by kernel_rfl) (by kernel_rfl) en_57 (by kernel_rfl) (ACalls.mono (p_kind l lo hll 1 s nk1) ?_)
  cases k1 : kindF l 1 s with
  | out => exact absurd k1 nk1
  | bad ea eb ec =>
    rintro _ _ ⟨rfl, pp, dd, rfl⟩
    simp only [k1, R.bad_bind] at hX
    subst hX
    exact PR.bad_intro (vAV := fun (x : Nm) => .agg (nmAV x)) pp dd rfl rfl
  | ok v2 s3 =>
    rintro _ _ ⟨rfl, rfl⟩
    simp only [k1, R.ok_bind] at hX
    refine AOps.runN hT nh 2 [0, 2, 3] (fr' := ⟨[(0, .ptr 0 0), (2, .loc 0 0), (3, .loc 1 0)], [[.str [], .i 0, .str [], .i 0, .i 0], [.i v2.kind, .str v2.text, .int .u64 v2.n, .i v2.line, .i v2.col]], [], [], 0⟩) (σ' := [psAV lo l s3]) (ob := Tt 3) (by kernel_rfl) (tt 3) ?_
    refine AOps.nil ?_
    refine ACode.seq ?_
    refine ACode.region ?_
    refine AOps.runN hT nh 1 [0, 2, 3, 6] (fr' := ⟨[(0, .ptr 0 0), (2, .loc 0 0), (3, .loc 1 0), (6, .ptr 0 0)], [[.str [], .i 0, .str [], .i 0, .i 0], [.i v2.kind, .str v2.text, .int .u64 v2.n, .i v2.line, .i v2.col]], [], [], 0⟩) (σ' := [psAV lo l s3]) (ob := Tt 2) (by kernel_rfl) (tt 2) ?_
    have nk4 : mustF l [58] s3 ≠ .out := by intro h9; simp only [h9, R.out_bind] at hX; exact hne hX.symm
    refine AOps.call (fid := 44) (cap := []) (avs := [.ptr 0 0, .str [58]]) (by kernel_rfl) rfl (by kernel_rfl) (by kernel_rfl) en_44 (by kernel_rfl) (ACalls.mono (p_must l lo hll [58] s3 nk4) ?_)
    cases k4 : mustF l [58] s3 with
    | out => exact absurd k4 nk4
    | bad ea eb ec =>
      rintro _ _ ⟨rfl, pp, dd, rfl⟩
      simp only [k4, R.bad_bind] at hX
      subst hX
      exact PR.bad_intro (vAV := fun (x : Nm) => .agg (nmAV x)) pp dd rfl rfl
    | ok v5 s6 =>
      rintro _ _ ⟨rfl, rfl⟩
      simp only [k4, R.ok_bind] at hX
      refine AOps.nil ?_
      refine ACode.seq ?_
      refine ACode.draw [(9, 0)] 2 [] 0 (by kernel_rfl) (by kernel_rfl) ?_
      refine AAny.run hT nh (fuel := 3) [0, 1, 2, 4, 5, 6, 7] [2, 9, 10, 13, 15] (fz' := true) (l' := #[true, true, true, false, true, true, true, true, false, false]) (fr' := ⟨[(2, .loc 0 0), (9, .str v2.text), (10, .ptr 0 0), (13, .i v2.line), (15, .i v2.col)], [[.str [], .i 0, .str [], .i 0, .i 0], [.i v2.kind, .str v2.text, .int .u64 v2.n, .i v2.line, .i v2.col]], [], [], 0⟩) (σ' := [psAV lo l s6]) (ob := Tt 8) (by kernel_rfl) (by kernel_rfl) (tt 8) ?_
      have nk7 : typF l s6 ≠ .out := by intro h9; simp only [h9, R.out_bind] at hX; exact hne hX.symm
      refine AAny.call (fuel := 2) (i := 3) (fid := 58) (cap := []) (avs := [.ptr 0 0]) rfl (by kernel_rfl) (by kernel_rfl) (by kernel_rfl) (by kernel_rfl) rfl (by kernel_rfl) en_58 (by kernel_rfl) (ACalls.mono (p_typ l lo hll s6 nk7) ?_) (by kernel_rfl)
      cases k7 : typF l s6 with
      | out => exact absurd k7 nk7
      | bad ea eb ec =>
        rintro _ _ ⟨rfl, pp, dd, rfl⟩
        simp only [k7, R.bad_bind] at hX
        subst hX
        exact PR.bad_intro (vAV := fun (x : Nm) => .agg (nmAV x)) pp dd rfl rfl
      | ok v8 s9 =>
        rintro _ _ ⟨rfl, rfl⟩
        simp only [k7, R.ok_bind] at hX
        refine AAny.run hT nh (fuel := 0) [8, 9] [2] (fz' := false) (l' := #[true, true, true, true, true, true, true, true, true, true]) (fr' := ⟨[(2, .loc 0 0)], [[.str v2.text, .i v8.tk, .str v8.tr, .i v2.line, .i v2.col], [.i v2.kind, .str v2.text, .int .u64 v2.n, .i v2.line, .i v2.col]], [], [], 0⟩) (σ' := [psAV lo l s9]) (ob := Tt 3) (by kernel_rfl) (by kernel_rfl) (tt 3) ?_
        refine AAny.done (by kernel_rfl) ?_
        refine ACode.ret ?_
        refine retQ.ret (.agg [.str v2.text, .i v8.tk, .str v8.tr, .i v2.line, .i v2.col]) (by kernel_rfl) ?_
        subst hX
        exact PR.ok_intro rfl rfl


end Go.AE

set_option linter.unusedVariables false
set_option linter.unusedSimpArgs false
set_option maxRecDepth 4000
namespace Go.AE
open Go.Proofs

theorem upF_bind {α : Type} {s : PS} {f : Unit → PS → R α} {X : R α} (hne : X ≠ .out) (hX : (upF s).bind f = X) : (-1000000 < s.dep ∧ s.dep < 1000000) ∧ f () ⟨s.pos, s.dep - 1⟩ = X := by
  unfold upF at hX
  cases h : depOK s with
  | false => rw [h] at hX; exact absurd hX.symm hne
  | true =>
    rw [h] at hX
    refine ⟨?_, hX⟩
    simpa only [depOK, Bool.and_eq_true, decide_eq_true_eq] using h
structure ExOK (l : List Tok) (lo : Own) (n : Nat) : Prop where
  expr : ∀ s, exprF n l s ≠ .out → ACalls Tryd.prog 75 [.ptr 0 0] [psAV lo l s] (PR (fun (e : Ex) => .agg (exAV e)) lo l (exprF n l s))
  chain : ∀ v s, chainF n l v s ≠ .out → ACalls Tryd.prog 93 [.ptr 0 0, .i (v : Int)] [psAV lo l s] (PR (fun (e : Ex) => .agg (exAV e)) lo l (chainF n l v s))
  pre : ∀ s, prefixF n l s ≠ .out → ACalls Tryd.prog 103 [.ptr 0 0] [psAV lo l s] (PR (fun (e : Ex) => .agg (exAV e)) lo l (prefixF n l s))
  atom : ∀ s, atomF n l s ≠ .out → ACalls Tryd.prog 110 [.ptr 0 0] [psAV lo l s] (PR (fun (e : Ex) => .agg (exAV e)) lo l (atomF n l s))

theorem p_expr (l : List Tok) (lo : Own) (hll : l.length ≤ 100000) (n : Nat) (s : PS) (ih : ∀ k, k < n + 1 → ExOK l lo k) (hne : exprF (n + 1) l s ≠ .out) : ACalls Tryd.prog 75 [.ptr 0 0] [psAV lo l s] (PR (fun (e : Ex) => .agg (exAV e)) lo l (exprF (n + 1) l s)) := by
  generalize hX : exprF (n + 1) l s = X at hne ⊢
  refine ACalls.soft ?_
  rw [exprF] at hX
  refine ACalls.enter hT Tryd.func75 rfl (by kernel_rfl) ?_
  refine ACode.seq ?_
  refine ACode.run hT nh [0, 2] (fr' := ⟨[(0, .ptr 0 0), (2, .loc 0 0)], [[.i 0, .i 0, .int .u64 0, .i 0, .str [], .str [], .slice [] 0 .exact, .i 0, .i 0]], [], [], 0⟩) (σ' := [psAV lo l s]) (ob := Tt 2) (by kernel_rfl) (tt 2) ?_
  refine ACode.seq ?_
  refine ACode.region ?_
  refine AOps.runN hT nh 1 [2, 3] (fr' := ⟨[(2, .loc 0 0), (3, .ptr 0 0)], [[.i 0, .i 0, .int .u64 0, .i 0, .str [], .str [], .slice [] 0 .exact, .i 0, .i 0]], [], [], 0⟩) (σ' := [psAV lo l s]) (ob := Tt 2) (by kernel_rfl) (tt 2) ?_
  have nk1 : chainF n l 0 s ≠ .out := by intro h9; simp only [h9, R.out_bind] at hX; exact hne hX.symm
  refine AOps.call (fid := 93) (cap := []) (avs := [.ptr 0 0, .i 0]) (by kernel_rfl) rfl (by kernel_rfl) (by kernel_rfl) en_93 (by kernel_rfl) (ACalls.mono ((ih n (by omega)).chain 0 s nk1) ?_)
  cases k1 : chainF n l 0 s with
  | out => exact absurd k1 nk1
  | bad ea eb ec =>
    rintro _ _ ⟨rfl, pp, dd, rfl⟩
    simp only [k1, R.bad_bind] at hX
    subst hX
    exact PR.bad_intro (vAV := fun (e : Ex) => .agg (exAV e)) pp dd rfl rfl
  | ok v2 s3 =>
    rintro _ _ ⟨rfl, rfl⟩
    simp only [k1, R.ok_bind] at hX
    refine AOps.runN hT nh 1 [2] (fr' := ⟨[(2, .loc 0 0)], [[.i v2.op, .i v2.bin, .int .u64 v2.n, .i v2.tk, .str v2.tr, .str v2.name, .slice (exRows v2.kids) v2.kids.length .no, .i v2.line, .i v2.col]], [], [], 0⟩) (σ' := [psAV lo l s3]) (ob := Tt 2) (by kernel_rfl) (tt 2) ?_
    refine AOps.nil ?_
    refine ACode.ret ?_
    refine retQ.ret (.agg [.i v2.op, .i v2.bin, .int .u64 v2.n, .i v2.tk, .str v2.tr, .str v2.name, .slice (exRows v2.kids) v2.kids.length .no, .i v2.line, .i v2.col]) (by kernel_rfl) ?_
    subst hX
    exact PR.ok_intro rfl rfl

theorem p_atom (l : List Tok) (lo : Own) (hll : l.length ≤ 100000) (n : Nat) (s : PS) (ih : ∀ k, k < n + 1 → ExOK l lo k) (hne : atomF (n + 1) l s ≠ .out) : ACalls Tryd.prog 110 [.ptr 0 0] [psAV lo l s] (PR (fun (e : Ex) => .agg (exAV e)) lo l (atomF (n + 1) l s)) := by
  generalize hX : atomF (n + 1) l s = X at hne ⊢
  refine ACalls.soft ?_
  rw [atomF] at hX
  refine ACalls.enter hT Tryd.func110 rfl (by kernel_rfl) ?_
  refine ACode.seq ?_
  refine ACode.run hT nh [0, 2] (fr' := ⟨[(0, .ptr 0 0), (2, .loc 0 0)], [[.i 0, .i 0, .int .u64 0, .i 0, .str [], .str [], .slice [] 0 .exact, .i 0, .i 0]], [], [], 0⟩) (σ' := [psAV lo l s]) (ob := Tt 2) (by kernel_rfl) (tt 2) ?_
  refine ACode.seq ?_
  refine ACode.region ?_
  refine AOps.runN hT nh 1 [0, 2, 5] (fr' := ⟨[(0, .ptr 0 0), (2, .loc 0 0), (5, .ptr 0 0)], [[.i 0, .i 0, .int .u64 0, .i 0, .str [], .str [], .slice [] 0 .exact, .i 0, .i 0]], [], [], 0⟩) (σ' := [psAV lo l s]) (ob := Tt 2) (by kernel_rfl) (tt 2) ?_
  have nk1 : nextF l s ≠ .out := by intro h9; simp only [h9, R.out_bind] at hX; exact hne hX.symm
  refine AOps.call (fid := 69) (cap := []) (avs := [.ptr 0 0]) (by kernel_rfl) rfl (by kernel_rfl) (by kernel_rfl) en_69 (by kernel_rfl) (ACalls.mono (p_next l lo hll s nk1) ?_)
  cases k1 : nextF l s with
  | out => exact absurd k1 nk1
  | bad ea eb ec =>
    rintro _ _ ⟨rfl, pp, dd, rfl⟩
    simp only [k1, R.bad_bind] at hX
    subst hX
    exact PR.bad_intro (vAV := fun (e : Ex) => .agg (exAV e)) pp dd rfl rfl
  | ok v2 s3 =>
    rintro _ _ ⟨rfl, rfl⟩
    simp only [k1, R.ok_bind] at hX
    refine AOps.runN hT nh 2 [0, 2, 3] (fr' := ⟨[(0, .ptr 0 0), (2, .loc 0 0), (3, .loc 1 0)], [[.i 0, .i 0, .int .u64 0, .i 0, .str [], .str [], .slice [] 0 .exact, .i 0, .i 0], [.i v2.kind, .str v2.text, .int .u64 v2.n, .i v2.line, .i v2.col]], [], [], 0⟩) (σ' := [psAV lo l s3]) (ob := Tt 3) (by kernel_rfl) (tt 3) ?_
    refine AOps.nil ?_
    refine ACode.seq ?_
    refine ACode.run hT nh [0, 2, 3, 4] (fr' := ⟨[(0, .ptr 0 0), (2, .loc 0 0), (3, .loc 1 0), (4, .loc 2 0)], [[.i 0, .i 0, .int .u64 0, .i 0, .str [], .str [], .slice [] 0 .exact, .i 0, .i 0], [.i v2.kind, .str v2.text, .int .u64 v2.n, .i v2.line, .i v2.col], [.i 0, .i 0, .int .u64 0, .i 0, .str [], .str [], .slice [] 0 .exact, .i v2.line, .i v2.col]], [], [], 0⟩) (σ' := [psAV lo l s3]) (ob := Tt 8) (by kernel_rfl) (tt 8) ?_
    refine ACode.seq ?_
    refine ACode.block ?_
    refine ACode.seq ?_
    refine ACode.run hT nh [0, 2, 3, 4, 15] (fr' := ⟨[(0, .ptr 0 0), (2, .loc 0 0), (3, .loc 1 0), (4, .loc 2 0), (15, .bool (v2.kind == 3))], [[.i 0, .i 0, .int .u64 0, .i 0, .str [], .str [], .slice [] 0 .exact, .i 0, .i 0], [.i v2.kind, .str v2.text, .int .u64 v2.n, .i v2.line, .i v2.col], [.i 0, .i 0, .int .u64 0, .i 0, .str [], .str [], .slice [] 0 .exact, .i v2.line, .i v2.col]], [], [], 0⟩) (σ' := [psAV lo l s3]) (ob := Tt 5) (by kernel_rfl) (tt 5) ?_
    refine ACode.cond (t := v2.kind == 3) (by kernel_rfl) (fun h4 => ?_) (fun h4 => ?_)
    · -- true
      have h4k := eq_of_beq h4
      try simp only [h4, Bool.false_eq_true, Bool.not_true, Bool.not_false, if_true, if_false] at hX
      refine ACode.draw [(3, 2), (5, 2)] 3 [] 0 (by kernel_rfl) (by kernel_rfl) ?_
      refine AAny.run hT nh (fuel := 0) [0, 1, 2, 3, 4, 5] [2, 4] (fz' := false) (l' := #[true, true, true, true, true, true]) (fr' := ⟨[(2, .loc 0 0), (4, .loc 2 0)], [[.i 0, .i 0, .int .u64 0, .i 0, .str [], .str [], .slice [] 0 .exact, .i 0, .i 0], [.i v2.kind, .str v2.text, .int .u64 v2.n, .i v2.line, .i v2.col], [.i 1, .i 0, .int .u64 v2.n, .i 0, .str [], .str [], .slice [] 0 .exact, .i v2.line, .i v2.col]], [], [], 0⟩) (σ' := [psAV lo l s3]) (ob := Tt 7) (by kernel_rfl) (by kernel_rfl) (tt 7) ?_
      refine AAny.done (by kernel_rfl) ?_
      refine ACode.seq ?_
      refine ACode.run hT nh [2] (fr' := ⟨[(2, .loc 0 0)], [[.i 1, .i 0, .int .u64 v2.n, .i 0, .str [], .str [], .slice [] 0 .exact, .i v2.line, .i v2.col], [.i v2.kind, .str v2.text, .int .u64 v2.n, .i v2.line, .i v2.col], [.i 1, .i 0, .int .u64 v2.n, .i 0, .str [], .str [], .slice [] 0 .exact, .i v2.line, .i v2.col]], [], [], 0⟩) (σ' := [psAV lo l s3]) (ob := Tt 3) (by kernel_rfl) (tt 3) ?_
      refine ACode.ret ?_
      refine retQ.ret (.agg [.i 1, .i 0, .int .u64 v2.n, .i 0, .str [], .str [], .slice [] 0 .exact, .i v2.line, .i v2.col]) (by kernel_rfl) ?_
      subst hX
      exact PR.ok_intro rfl rfl
    · -- false
      have h4k := ne_of_beq_false h4
      try simp only [h4, Bool.false_eq_true, Bool.not_true, Bool.not_false, if_true, if_false] at hX
      refine ACode.seq ?_
      refine ACode.run hT nh [0, 2, 3, 4, 23] (fr' := ⟨[(0, .ptr 0 0), (2, .loc 0 0), (3, .loc 1 0), (4, .loc 2 0), (23, .bool (v2.kind == 4))], [[.i 0, .i 0, .int .u64 0, .i 0, .str [], .str [], .slice [] 0 .exact, .i 0, .i 0], [.i v2.kind, .str v2.text, .int .u64 v2.n, .i v2.line, .i v2.col], [.i 0, .i 0, .int .u64 0, .i 0, .str [], .str [], .slice [] 0 .exact, .i v2.line, .i v2.col]], [], [], 0⟩) (σ' := [psAV lo l s3]) (ob := Tt 5) (by kernel_rfl) (tt 5) ?_
      refine ACode.cond (t := v2.kind == 4) (by kernel_rfl) (fun h5 => ?_) (fun h5 => ?_)
      · -- true
        have h5k := eq_of_beq h5
        try simp only [h5, Bool.false_eq_true, Bool.not_true, Bool.not_false, if_true, if_false] at hX
        refine ACode.draw [(3, 2), (5, 2)] 3 [] 0 (by kernel_rfl) (by kernel_rfl) ?_
        refine AAny.run hT nh (fuel := 0) [0, 1, 2, 3, 4, 5] [2, 4] (fz' := false) (l' := #[true, true, true, true, true, true]) (fr' := ⟨[(2, .loc 0 0), (4, .loc 2 0)], [[.i 0, .i 0, .int .u64 0, .i 0, .str [], .str [], .slice [] 0 .exact, .i 0, .i 0], [.i v2.kind, .str v2.text, .int .u64 v2.n, .i v2.line, .i v2.col], [.i 2, .i 0, .int .u64 v2.n, .i 0, .str [], .str [], .slice [] 0 .exact, .i v2.line, .i v2.col]], [], [], 0⟩) (σ' := [psAV lo l s3]) (ob := Tt 7) (by kernel_rfl) (by kernel_rfl) (tt 7) ?_
        refine AAny.done (by kernel_rfl) ?_
        refine ACode.seq ?_
        refine ACode.run hT nh [2] (fr' := ⟨[(2, .loc 0 0)], [[.i 2, .i 0, .int .u64 v2.n, .i 0, .str [], .str [], .slice [] 0 .exact, .i v2.line, .i v2.col], [.i v2.kind, .str v2.text, .int .u64 v2.n, .i v2.line, .i v2.col], [.i 2, .i 0, .int .u64 v2.n, .i 0, .str [], .str [], .slice [] 0 .exact, .i v2.line, .i v2.col]], [], [], 0⟩) (σ' := [psAV lo l s3]) (ob := Tt 3) (by kernel_rfl) (tt 3) ?_
        refine ACode.ret ?_
        refine retQ.ret (.agg [.i 2, .i 0, .int .u64 v2.n, .i 0, .str [], .str [], .slice [] 0 .exact, .i v2.line, .i v2.col]) (by kernel_rfl) ?_
        subst hX
        exact PR.ok_intro rfl rfl
      · -- false
        have h5k := ne_of_beq_false h5
        try simp only [h5, Bool.false_eq_true, Bool.not_true, Bool.not_false, if_true, if_false] at hX
        refine ACode.seq ?_
        refine ACode.run hT nh [0, 2, 3, 4, 31] (fr' := ⟨[(0, .ptr 0 0), (2, .loc 0 0), (3, .loc 1 0), (4, .loc 2 0), (31, .bool (v2.kind == 1))], [[.i 0, .i 0, .int .u64 0, .i 0, .str [], .str [], .slice [] 0 .exact, .i 0, .i 0], [.i v2.kind, .str v2.text, .int .u64 v2.n, .i v2.line, .i v2.col], [.i 0, .i 0, .int .u64 0, .i 0, .str [], .str [], .slice [] 0 .exact, .i v2.line, .i v2.col]], [], [], 0⟩) (σ' := [psAV lo l s3]) (ob := Tt 5) (by kernel_rfl) (tt 5) ?_
        refine ACode.cond (t := v2.kind == 1) (by kernel_rfl) (fun h6 => ?_) (fun h6 => ?_)
        · -- true
          have h6k := eq_of_beq h6
          try simp only [h6, Bool.false_eq_true, Bool.not_true, Bool.not_false, if_true, if_false] at hX
          refine ACode.draw [(3, 2), (5, 2)] 3 [] 0 (by kernel_rfl) (by kernel_rfl) ?_
          refine AAny.run hT nh (fuel := 0) [0, 1, 2, 3, 4, 5] [2, 4] (fz' := false) (l' := #[true, true, true, true, true, true]) (fr' := ⟨[(2, .loc 0 0), (4, .loc 2 0)], [[.i 0, .i 0, .int .u64 0, .i 0, .str [], .str [], .slice [] 0 .exact, .i 0, .i 0], [.i v2.kind, .str v2.text, .int .u64 v2.n, .i v2.line, .i v2.col], [.i 5, .i 0, .int .u64 0, .i 0, .str [], .str v2.text, .slice [] 0 .exact, .i v2.line, .i v2.col]], [], [], 0⟩) (σ' := [psAV lo l s3]) (ob := Tt 7) (by kernel_rfl) (by kernel_rfl) (tt 7) ?_
          refine AAny.done (by kernel_rfl) ?_
          refine ACode.seq ?_
          refine ACode.run hT nh [2] (fr' := ⟨[(2, .loc 0 0)], [[.i 5, .i 0, .int .u64 0, .i 0, .str [], .str v2.text, .slice [] 0 .exact, .i v2.line, .i v2.col], [.i v2.kind, .str v2.text, .int .u64 v2.n, .i v2.line, .i v2.col], [.i 5, .i 0, .int .u64 0, .i 0, .str [], .str v2.text, .slice [] 0 .exact, .i v2.line, .i v2.col]], [], [], 0⟩) (σ' := [psAV lo l s3]) (ob := Tt 3) (by kernel_rfl) (tt 3) ?_
          refine ACode.ret ?_
          refine retQ.ret (.agg [.i 5, .i 0, .int .u64 0, .i 0, .str [], .str v2.text, .slice [] 0 .exact, .i v2.line, .i v2.col]) (by kernel_rfl) ?_
          subst hX
          exact PR.ok_intro rfl rfl
        · -- false
          have h6k := ne_of_beq_false h6
          try simp only [h6, Bool.false_eq_true, Bool.not_true, Bool.not_false, if_true, if_false] at hX
          refine ACode.seq ?_
          refine ACode.meet ⟨[(0, .ptr 0 0), (2, .loc 0 0), (3, .loc 1 0), (4, .loc 2 0), (39, .bool ((v2.kind == 2) && (v2.text == [105, 110, 112, 117, 116])))], [[.i 0, .i 0, .int .u64 0, .i 0, .str [], .str [], .slice [] 0 .exact, .i 0, .i 0], [.i v2.kind, .str v2.text, .int .u64 v2.n, .i v2.line, .i v2.col], [.i 0, .i 0, .int .u64 0, .i 0, .str [], .str [], .slice [] 0 .exact, .i v2.line, .i v2.col]], [], [], 0⟩ [psAV lo l s3] (ACode.region ?_) ?_
          ·
            refine AOps.runN hT nh 4 [0, 2, 3, 4, 43] (fr' := ⟨[(0, .ptr 0 0), (2, .loc 0 0), (3, .loc 1 0), (4, .loc 2 0), (43, .bool (v2.kind == 2))], [[.i 0, .i 0, .int .u64 0, .i 0, .str [], .str [], .slice [] 0 .exact, .i 0, .i 0], [.i v2.kind, .str v2.text, .int .u64 v2.n, .i v2.line, .i v2.col], [.i 0, .i 0, .int .u64 0, .i 0, .str [], .str [], .slice [] 0 .exact, .i v2.line, .i v2.col]], [], [], 0⟩) (σ' := [psAV lo l s3]) (ob := Tt 5) (by kernel_rfl) (tt 5) ?_
            cases h7 : (v2.kind == 2)
            · -- v2.kind == 2 is false
              have h7k := ne_of_beq_false h7
              try simp only [h7, Bool.false_eq_true, Bool.not_true, Bool.not_false, if_true, if_false] at hX
              refine AOps.runN hT nh 5 [0, 2, 3, 4, 39] (fr' := ⟨[(0, .ptr 0 0), (2, .loc 0 0), (3, .loc 1 0), (4, .loc 2 0), (39, .bool false)], [[.i 0, .i 0, .int .u64 0, .i 0, .str [], .str [], .slice [] 0 .exact, .i 0, .i 0], [.i v2.kind, .str v2.text, .int .u64 v2.n, .i v2.line, .i v2.col], [.i 0, .i 0, .int .u64 0, .i 0, .str [], .str [], .slice [] 0 .exact, .i v2.line, .i v2.col]], [], [], 0⟩) (σ' := [psAV lo l s3]) (ob := Tt 3) (by kernel_rfl) (tt 3) ?_
              refine AOps.weak [0, 2, 3, 4, 39] (AOps.nil ⟨rfl, rfl⟩)
            · -- v2.kind == 2 is true
              have h7k := eq_of_beq h7
              try simp only [h7, Bool.false_eq_true, Bool.not_true, Bool.not_false, if_true, if_false] at hX
              refine AOps.runN hT nh 5 [0, 2, 3, 4, 39] (fr' := ⟨[(0, .ptr 0 0), (2, .loc 0 0), (3, .loc 1 0), (4, .loc 2 0), (39, .bool (v2.text == [105, 110, 112, 117, 116]))], [[.i 0, .i 0, .int .u64 0, .i 0, .str [], .str [], .slice [] 0 .exact, .i 0, .i 0], [.i v2.kind, .str v2.text, .int .u64 v2.n, .i v2.line, .i v2.col], [.i 0, .i 0, .int .u64 0, .i 0, .str [], .str [], .slice [] 0 .exact, .i v2.line, .i v2.col]], [], [], 0⟩) (σ' := [psAV lo l s3]) (ob := Tt 6) (by kernel_rfl) (tt 6) ?_
              refine AOps.weak [0, 2, 3, 4, 39] (AOps.nil ⟨rfl, rfl⟩)
          -- on
          refine ACode.cond (t := (v2.kind == 2) && (v2.text == [105, 110, 112, 117, 116])) (by kernel_rfl) (fun h8 => ?_) (fun h8 => ?_)
          · -- true
            have h8k := h8; simp only [Bool.and_eq_true, Bool.or_eq_true, Bool.and_eq_false_iff, Bool.or_eq_false_iff, decide_eq_true_eq, decide_eq_false_iff_not, beq_iff_eq, bne_iff_ne, ne_eq, Bool.not_eq_true', Bool.not_eq_false', beq_eq_false_iff_ne, bne_eq_false_iff_eq] at h8k
            try simp only [h8, Bool.false_eq_true, Bool.not_true, Bool.not_false, if_true, if_false] at hX
            refine ACode.region ?_
            refine AOps.runN hT nh 1 [2, 4, 48] (fr' := ⟨[(2, .loc 0 0), (4, .loc 2 0), (48, .ptr 0 0)], [[.i 0, .i 0, .int .u64 0, .i 0, .str [], .str [], .slice [] 0 .exact, .i 0, .i 0], [.i v2.kind, .str v2.text, .int .u64 v2.n, .i v2.line, .i v2.col], [.i 0, .i 0, .int .u64 0, .i 0, .str [], .str [], .slice [] 0 .exact, .i v2.line, .i v2.col]], [], [], 0⟩) (σ' := [psAV lo l s3]) (ob := Tt 2) (by kernel_rfl) (tt 2) ?_
            have nk9 : kindF l 3 s3 ≠ .out := by intro h9; simp only [h9, R.out_bind] at hX; exact hne hX.symm
            refine AOps.call (fid := 57) (cap := []) (avs := [.ptr 0 0, .i 3]) (by kernel_rfl) rfl (by kernel_rfl) (by kernel_rfl) en_57 (by kernel_rfl) (ACalls.mono (p_kind l lo hll 3 s3 nk9) ?_)
            cases k9 : kindF l 3 s3 with
            | out => exact absurd k9 nk9
            | bad ea eb ec =>
              rintro _ _ ⟨rfl, pp, dd, rfl⟩
              simp only [k9, R.bad_bind] at hX
              subst hX
              exact PR.bad_intro (vAV := fun (e : Ex) => .agg (exAV e)) pp dd rfl rfl
            | ok v10 s11 =>
              rintro _ _ ⟨rfl, rfl⟩
              simp only [k9, R.ok_bind] at hX
              refine AOps.runN hT nh 5 [2, 4] (fr' := ⟨[(2, .loc 0 0), (4, .loc 2 0)], [[.i 0, .i 0, .int .u64 0, .i 0, .str [], .str [], .slice [] 0 .exact, .i 0, .i 0], [.i v2.kind, .str v2.text, .int .u64 v2.n, .i v2.line, .i v2.col], [.i 4, .i 0, .int .u64 v10.n, .i 0, .str [], .str [], .slice [] 0 .exact, .i v2.line, .i v2.col]], [], [], 0⟩) (σ' := [psAV lo l s11]) (ob := Tt 6) (by kernel_rfl) (tt 6) ?_
              refine AOps.nil ?_
              refine ACode.seq ?_
              refine ACode.run hT nh [2] (fr' := ⟨[(2, .loc 0 0)], [[.i 4, .i 0, .int .u64 v10.n, .i 0, .str [], .str [], .slice [] 0 .exact, .i v2.line, .i v2.col], [.i v2.kind, .str v2.text, .int .u64 v2.n, .i v2.line, .i v2.col], [.i 4, .i 0, .int .u64 v10.n, .i 0, .str [], .str [], .slice [] 0 .exact, .i v2.line, .i v2.col]], [], [], 0⟩) (σ' := [psAV lo l s11]) (ob := Tt 3) (by kernel_rfl) (tt 3) ?_
              refine ACode.ret ?_
              refine retQ.ret (.agg [.i 4, .i 0, .int .u64 v10.n, .i 0, .str [], .str [], .slice [] 0 .exact, .i v2.line, .i v2.col]) (by kernel_rfl) ?_
              subst hX
              exact PR.ok_intro rfl rfl
          · -- false
            have h8k := h8; simp only [Bool.and_eq_true, Bool.or_eq_true, Bool.and_eq_false_iff, Bool.or_eq_false_iff, decide_eq_true_eq, decide_eq_false_iff_not, beq_iff_eq, bne_iff_ne, ne_eq, Bool.not_eq_true', Bool.not_eq_false', beq_eq_false_iff_ne, bne_eq_false_iff_eq] at h8k
            try simp only [h8, Bool.false_eq_true, Bool.not_true, Bool.not_false, if_true, if_false] at hX
            refine ACode.seq ?_
            refine ACode.meet ⟨[(0, .ptr 0 0), (2, .loc 0 0), (3, .loc 1 0), (4, .loc 2 0), (53, .bool ((v2.kind == 2) && (v2.text == [110, 105, 108])))], [[.i 0, .i 0, .int .u64 0, .i 0, .str [], .str [], .slice [] 0 .exact, .i 0, .i 0], [.i v2.kind, .str v2.text, .int .u64 v2.n, .i v2.line, .i v2.col], [.i 0, .i 0, .int .u64 0, .i 0, .str [], .str [], .slice [] 0 .exact, .i v2.line, .i v2.col]], [], [], 0⟩ [psAV lo l s3] (ACode.region ?_) ?_
            ·
              refine AOps.runN hT nh 4 [0, 2, 3, 4, 57] (fr' := ⟨[(0, .ptr 0 0), (2, .loc 0 0), (3, .loc 1 0), (4, .loc 2 0), (57, .bool (v2.kind == 2))], [[.i 0, .i 0, .int .u64 0, .i 0, .str [], .str [], .slice [] 0 .exact, .i 0, .i 0], [.i v2.kind, .str v2.text, .int .u64 v2.n, .i v2.line, .i v2.col], [.i 0, .i 0, .int .u64 0, .i 0, .str [], .str [], .slice [] 0 .exact, .i v2.line, .i v2.col]], [], [], 0⟩) (σ' := [psAV lo l s3]) (ob := Tt 5) (by kernel_rfl) (tt 5) ?_
              cases h12 : (v2.kind == 2)
              · -- v2.kind == 2 is false
                have h12k := ne_of_beq_false h12
                try simp only [h12, Bool.false_eq_true, Bool.not_true, Bool.not_false, if_true, if_false] at hX
                refine AOps.runN hT nh 5 [0, 2, 3, 4, 53] (fr' := ⟨[(0, .ptr 0 0), (2, .loc 0 0), (3, .loc 1 0), (4, .loc 2 0), (53, .bool false)], [[.i 0, .i 0, .int .u64 0, .i 0, .str [], .str [], .slice [] 0 .exact, .i 0, .i 0], [.i v2.kind, .str v2.text, .int .u64 v2.n, .i v2.line, .i v2.col], [.i 0, .i 0, .int .u64 0, .i 0, .str [], .str [], .slice [] 0 .exact, .i v2.line, .i v2.col]], [], [], 0⟩) (σ' := [psAV lo l s3]) (ob := Tt 3) (by kernel_rfl) (tt 3) ?_
                refine AOps.weak [0, 2, 3, 4, 53] (AOps.nil ⟨rfl, rfl⟩)
              · -- v2.kind == 2 is true
                have h12k := eq_of_beq h12
                try simp only [h12, Bool.false_eq_true, Bool.not_true, Bool.not_false, if_true, if_false] at hX
                refine AOps.runN hT nh 5 [0, 2, 3, 4, 53] (fr' := ⟨[(0, .ptr 0 0), (2, .loc 0 0), (3, .loc 1 0), (4, .loc 2 0), (53, .bool (v2.text == [110, 105, 108]))], [[.i 0, .i 0, .int .u64 0, .i 0, .str [], .str [], .slice [] 0 .exact, .i 0, .i 0], [.i v2.kind, .str v2.text, .int .u64 v2.n, .i v2.line, .i v2.col], [.i 0, .i 0, .int .u64 0, .i 0, .str [], .str [], .slice [] 0 .exact, .i v2.line, .i v2.col]], [], [], 0⟩) (σ' := [psAV lo l s3]) (ob := Tt 6) (by kernel_rfl) (tt 6) ?_
                refine AOps.weak [0, 2, 3, 4, 53] (AOps.nil ⟨rfl, rfl⟩)
            -- on
            refine ACode.cond (t := (v2.kind == 2) && (v2.text == [110, 105, 108])) (by kernel_rfl) (fun h13 => ?_) (fun h13 => ?_)
            · -- true
              have h13k := h13; simp only [Bool.and_eq_true, Bool.or_eq_true, Bool.and_eq_false_iff, Bool.or_eq_false_iff, decide_eq_true_eq, decide_eq_false_iff_not, beq_iff_eq, bne_iff_ne, ne_eq, Bool.not_eq_true', Bool.not_eq_false', beq_eq_false_iff_ne, bne_eq_false_iff_eq] at h13k
              try simp only [h13, Bool.false_eq_true, Bool.not_true, Bool.not_false, if_true, if_false] at hX
              refine ACode.seq ?_
              refine ACode.run hT nh [0, 2, 4] (fr' := ⟨[(0, .ptr 0 0), (2, .loc 0 0), (4, .loc 2 0)], [[.i 0, .i 0, .int .u64 0, .i 0, .str [], .str [], .slice [] 0 .exact, .i 0, .i 0], [.i v2.kind, .str v2.text, .int .u64 v2.n, .i v2.line, .i v2.col], [.i 3, .i 0, .int .u64 0, .i 3, .str [], .str [], .slice [] 0 .exact, .i v2.line, .i v2.col]], [], [], 0⟩) (σ' := [psAV lo l s3]) (ob := Tt 6) (by kernel_rfl) (tt 6) ?_
              refine ACode.seq ?_
              refine ACode.region ?_
              refine AOps.runN hT nh 1 [0, 2, 4, 65] (fr' := ⟨[(0, .ptr 0 0), (2, .loc 0 0), (4, .loc 2 0), (65, .ptr 0 0)], [[.i 0, .i 0, .int .u64 0, .i 0, .str [], .str [], .slice [] 0 .exact, .i 0, .i 0], [.i v2.kind, .str v2.text, .int .u64 v2.n, .i v2.line, .i v2.col], [.i 3, .i 0, .int .u64 0, .i 3, .str [], .str [], .slice [] 0 .exact, .i v2.line, .i v2.col]], [], [], 0⟩) (σ' := [psAV lo l s3]) (ob := Tt 2) (by kernel_rfl) (tt 2) ?_
              have nk14 : eatF l [105, 110, 116, 115] s3 ≠ .out := by intro h9; simp only [h9, R.out_bind] at hX; exact hne hX.symm
              refine AOps.call (fid := 41) (cap := []) (avs := [.ptr 0 0, .str [105, 110, 116, 115]]) (by kernel_rfl) rfl (by kernel_rfl) (by kernel_rfl) en_41 (by kernel_rfl) (ACalls.mono (p_eat l lo hll [105, 110, 116, 115] s3 nk14) ?_)
              cases k14 : eatF l [105, 110, 116, 115] s3 with
              | out => exact absurd k14 nk14
              | bad ea eb ec =>
                rintro _ _ ⟨rfl, pp, dd, rfl⟩
                simp only [k14, R.bad_bind] at hX
                subst hX
                exact PR.bad_intro (vAV := fun (e : Ex) => .agg (exAV e)) pp dd rfl rfl
              | ok v15 s16 =>
                rintro _ _ ⟨rfl, rfl⟩
                simp only [k14, R.ok_bind] at hX
                refine AOps.runN hT nh 1 [0, 2, 4, 67] (fr' := ⟨[(0, .ptr 0 0), (2, .loc 0 0), (4, .loc 2 0), (67, .bool (!v15))], [[.i 0, .i 0, .int .u64 0, .i 0, .str [], .str [], .slice [] 0 .exact, .i 0, .i 0], [.i v2.kind, .str v2.text, .int .u64 v2.n, .i v2.line, .i v2.col], [.i 3, .i 0, .int .u64 0, .i 3, .str [], .str [], .slice [] 0 .exact, .i v2.line, .i v2.col]], [], [], 0⟩) (σ' := [psAV lo l s16]) (ob := Tt 2) (by kernel_rfl) (tt 2) ?_
                refine AOps.nil ?_
                refine ACode.cond (t := !v15) (by kernel_rfl) (fun h17 => ?_) (fun h17 => ?_)
                · -- true
                  have h17k := h17; simp only [Bool.and_eq_true, Bool.or_eq_true, Bool.and_eq_false_iff, Bool.or_eq_false_iff, decide_eq_true_eq, decide_eq_false_iff_not, beq_iff_eq, bne_iff_ne, ne_eq, Bool.not_eq_true', Bool.not_eq_false', beq_eq_false_iff_ne, bne_eq_false_iff_eq] at h17k
                  try simp only [h17, Bool.false_eq_true, Bool.not_true, Bool.not_false, if_true, if_false] at hX
                  refine ACode.region ?_
                  refine AOps.runN hT nh 1 [2, 4, 68] (fr' := ⟨[(2, .loc 0 0), (4, .loc 2 0), (68, .ptr 0 0)], [[.i 0, .i 0, .int .u64 0, .i 0, .str [], .str [], .slice [] 0 .exact, .i 0, .i 0], [.i v2.kind, .str v2.text, .int .u64 v2.n, .i v2.line, .i v2.col], [.i 3, .i 0, .int .u64 0, .i 3, .str [], .str [], .slice [] 0 .exact, .i v2.line, .i v2.col]], [], [], 0⟩) (σ' := [psAV lo l s16]) (ob := Tt 2) (by kernel_rfl) (tt 2) ?_
                  have nk18 : kindF l 1 s16 ≠ .out := by intro h9; simp only [h9, R.out_bind] at hX; exact hne hX.symm
                  refine AOps.call (fid := 57) (cap := []) (avs := [.ptr 0 0, .i 1]) (by kernel_rfl) rfl (by kernel_rfl) (by kernel_rfl) en_57 (by kernel_rfl) (ACalls.mono (p_kind l lo hll 1 s16 nk18) ?_)
                  cases k18 : kindF l 1 s16 with
                  | out => exact absurd k18 nk18
                  | bad ea eb ec =>
                    rintro _ _ ⟨rfl, pp, dd, rfl⟩
                    simp only [k18, R.bad_bind] at hX
                    subst hX
                    exact PR.bad_intro (vAV := fun (e : Ex) => .agg (exAV e)) pp dd rfl rfl
                  | ok v19 s20 =>
                    rintro _ _ ⟨rfl, rfl⟩
                    simp only [k18, R.ok_bind] at hX
                    refine AOps.runN hT nh 4 [2, 4] (fr' := ⟨[(2, .loc 0 0), (4, .loc 2 0)], [[.i 0, .i 0, .int .u64 0, .i 0, .str [], .str [], .slice [] 0 .exact, .i 0, .i 0], [.i v2.kind, .str v2.text, .int .u64 v2.n, .i v2.line, .i v2.col], [.i 3, .i 0, .int .u64 0, .i 4, .str v19.text, .str [], .slice [] 0 .exact, .i v2.line, .i v2.col]], [], [], 0⟩) (σ' := [psAV lo l s20]) (ob := Tt 5) (by kernel_rfl) (tt 5) ?_
                    refine AOps.nil ?_
                    refine ACode.seq ?_
                    refine ACode.run hT nh [2] (fr' := ⟨[(2, .loc 0 0)], [[.i 3, .i 0, .int .u64 0, .i 4, .str v19.text, .str [], .slice [] 0 .exact, .i v2.line, .i v2.col], [.i v2.kind, .str v2.text, .int .u64 v2.n, .i v2.line, .i v2.col], [.i 3, .i 0, .int .u64 0, .i 4, .str v19.text, .str [], .slice [] 0 .exact, .i v2.line, .i v2.col]], [], [], 0⟩) (σ' := [psAV lo l s20]) (ob := Tt 3) (by kernel_rfl) (tt 3) ?_
                    refine ACode.ret ?_
                    refine retQ.ret (.agg [.i 3, .i 0, .int .u64 0, .i 4, .str v19.text, .str [], .slice [] 0 .exact, .i v2.line, .i v2.col]) (by kernel_rfl) ?_
                    subst hX
                    exact PR.ok_intro rfl rfl
                · -- false
                  have h17k := h17; simp only [Bool.and_eq_true, Bool.or_eq_true, Bool.and_eq_false_iff, Bool.or_eq_false_iff, decide_eq_true_eq, decide_eq_false_iff_not, beq_iff_eq, bne_iff_ne, ne_eq, Bool.not_eq_true', Bool.not_eq_false', beq_eq_false_iff_ne, bne_eq_false_iff_eq] at h17k
                  try simp only [h17, Bool.false_eq_true, Bool.not_true, Bool.not_false, if_true, if_false] at hX
                  refine ACode.skip ?_
                  refine ACode.seq ?_
                  refine ACode.run hT nh [2] (fr' := ⟨[(2, .loc 0 0)], [[.i 3, .i 0, .int .u64 0, .i 3, .str [], .str [], .slice [] 0 .exact, .i v2.line, .i v2.col], [.i v2.kind, .str v2.text, .int .u64 v2.n, .i v2.line, .i v2.col], [.i 3, .i 0, .int .u64 0, .i 3, .str [], .str [], .slice [] 0 .exact, .i v2.line, .i v2.col]], [], [], 0⟩) (σ' := [psAV lo l s16]) (ob := Tt 3) (by kernel_rfl) (tt 3) ?_
                  refine ACode.ret ?_
                  refine retQ.ret (.agg [.i 3, .i 0, .int .u64 0, .i 3, .str [], .str [], .slice [] 0 .exact, .i v2.line, .i v2.col]) (by kernel_rfl) ?_
                  subst hX
                  exact PR.ok_intro rfl rfl
            · -- false
              have h13k := h13; simp only [Bool.and_eq_true, Bool.or_eq_true, Bool.and_eq_false_iff, Bool.or_eq_false_iff, decide_eq_true_eq, decide_eq_false_iff_not, beq_iff_eq, bne_iff_ne, ne_eq, Bool.not_eq_true', Bool.not_eq_false', beq_eq_false_iff_ne, bne_eq_false_iff_eq] at h13k
              try simp only [h13, Bool.false_eq_true, Bool.not_true, Bool.not_false, if_true, if_false] at hX
              refine ACode.seq ?_
              refine ACode.meet ⟨[(0, .ptr 0 0), (2, .loc 0 0), (3, .loc 1 0), (4, .loc 2 0), (73, .bool ((v2.kind == 5) && (v2.text == [40])))], [[.i 0, .i 0, .int .u64 0, .i 0, .str [], .str [], .slice [] 0 .exact, .i 0, .i 0], [.i v2.kind, .str v2.text, .int .u64 v2.n, .i v2.line, .i v2.col], [.i 0, .i 0, .int .u64 0, .i 0, .str [], .str [], .slice [] 0 .exact, .i v2.line, .i v2.col]], [], [], 0⟩ [psAV lo l s3] (ACode.region ?_) ?_
              ·
                refine AOps.runN hT nh 4 [0, 2, 3, 4, 77] (fr' := ⟨[(0, .ptr 0 0), (2, .loc 0 0), (3, .loc 1 0), (4, .loc 2 0), (77, .bool (v2.kind == 5))], [[.i 0, .i 0, .int .u64 0, .i 0, .str [], .str [], .slice [] 0 .exact, .i 0, .i 0], [.i v2.kind, .str v2.text, .int .u64 v2.n, .i v2.line, .i v2.col], [.i 0, .i 0, .int .u64 0, .i 0, .str [], .str [], .slice [] 0 .exact, .i v2.line, .i v2.col]], [], [], 0⟩) (σ' := [psAV lo l s3]) (ob := Tt 5) (by kernel_rfl) (tt 5) ?_
                cases h21 : (v2.kind == 5)
                · -- v2.kind == 5 is false
                  have h21k := ne_of_beq_false h21
                  try simp only [h21, Bool.false_eq_true, Bool.not_true, Bool.not_false, if_true, if_false] at hX
                  refine AOps.runN hT nh 5 [0, 2, 3, 4, 73] (fr' := ⟨[(0, .ptr 0 0), (2, .loc 0 0), (3, .loc 1 0), (4, .loc 2 0), (73, .bool false)], [[.i 0, .i 0, .int .u64 0, .i 0, .str [], .str [], .slice [] 0 .exact, .i 0, .i 0], [.i v2.kind, .str v2.text, .int .u64 v2.n, .i v2.line, .i v2.col], [.i 0, .i 0, .int .u64 0, .i 0, .str [], .str [], .slice [] 0 .exact, .i v2.line, .i v2.col]], [], [], 0⟩) (σ' := [psAV lo l s3]) (ob := Tt 3) (by kernel_rfl) (tt 3) ?_
                  refine AOps.weak [0, 2, 3, 4, 73] (AOps.nil ⟨rfl, rfl⟩)
                · -- v2.kind == 5 is true
                  have h21k := eq_of_beq h21
                  try simp only [h21, Bool.false_eq_true, Bool.not_true, Bool.not_false, if_true, if_false] at hX
                  refine AOps.runN hT nh 5 [0, 2, 3, 4, 73] (fr' := ⟨[(0, .ptr 0 0), (2, .loc 0 0), (3, .loc 1 0), (4, .loc 2 0), (73, .bool (v2.text == [40]))], [[.i 0, .i 0, .int .u64 0, .i 0, .str [], .str [], .slice [] 0 .exact, .i 0, .i 0], [.i v2.kind, .str v2.text, .int .u64 v2.n, .i v2.line, .i v2.col], [.i 0, .i 0, .int .u64 0, .i 0, .str [], .str [], .slice [] 0 .exact, .i v2.line, .i v2.col]], [], [], 0⟩) (σ' := [psAV lo l s3]) (ob := Tt 6) (by kernel_rfl) (tt 6) ?_
                  refine AOps.weak [0, 2, 3, 4, 73] (AOps.nil ⟨rfl, rfl⟩)
              -- on
              refine ACode.cond (t := (v2.kind == 5) && (v2.text == [40])) (by kernel_rfl) (fun h22 => ?_) (fun h22 => ?_)
              · -- true
                have h22k := h22; simp only [Bool.and_eq_true, Bool.or_eq_true, Bool.and_eq_false_iff, Bool.or_eq_false_iff, decide_eq_true_eq, decide_eq_false_iff_not, beq_iff_eq, bne_iff_ne, ne_eq, Bool.not_eq_true', Bool.not_eq_false', beq_eq_false_iff_ne, bne_eq_false_iff_eq] at h22k
                try simp only [h22, Bool.false_eq_true, Bool.not_true, Bool.not_false, if_true, if_false] at hX
                refine ACode.seq ?_
                refine ACode.region ?_
                refine AOps.runN hT nh 2 [0, 2, 4, 82, 83] (fr' := ⟨[(0, .ptr 0 0), (2, .loc 0 0), (4, .loc 2 0), (82, .ptr 0 0), (83, .agg [.i v2.kind, .str v2.text, .int .u64 v2.n, .i v2.line, .i v2.col])], [[.i 0, .i 0, .int .u64 0, .i 0, .str [], .str [], .slice [] 0 .exact, .i 0, .i 0], [.i v2.kind, .str v2.text, .int .u64 v2.n, .i v2.line, .i v2.col], [.i 0, .i 0, .int .u64 0, .i 0, .str [], .str [], .slice [] 0 .exact, .i v2.line, .i v2.col]], [], [], 0⟩) (σ' := [psAV lo l s3]) (ob := Tt 3) (by kernel_rfl) (tt 3) ?_
                have nk23 : downF v2 s3 ≠ .out := by intro h9; simp only [h9, R.out_bind] at hX; exact hne hX.symm
                refine AOps.call (fid := 59) (cap := []) (avs := [.ptr 0 0, .agg [.i v2.kind, .str v2.text, .int .u64 v2.n, .i v2.line, .i v2.col]]) (by kernel_rfl) rfl (by kernel_rfl) (by kernel_rfl) en_59 (by kernel_rfl) (ACalls.mono (p_down l lo hll v2 s3 nk23) ?_)
                cases k23 : downF v2 s3 with
                | out => exact absurd k23 nk23
                | bad ea eb ec =>
                  rintro _ _ ⟨rfl, pp, dd, rfl⟩
                  simp only [k23, R.bad_bind] at hX
                  subst hX
                  exact PR.bad_intro (vAV := fun (e : Ex) => .agg (exAV e)) pp dd rfl rfl
                | ok v24 s25 =>
                  rintro _ _ ⟨rfl, rfl⟩
                  simp only [k23, R.ok_bind] at hX
                  refine AOps.nil ?_
                  refine ACode.seq ?_
                  refine ACode.region ?_
                  refine AOps.runN hT nh 1 [0, 2, 4, 85] (fr' := ⟨[(0, .ptr 0 0), (2, .loc 0 0), (4, .loc 2 0), (85, .ptr 0 0)], [[.i 0, .i 0, .int .u64 0, .i 0, .str [], .str [], .slice [] 0 .exact, .i 0, .i 0], [.i v2.kind, .str v2.text, .int .u64 v2.n, .i v2.line, .i v2.col], [.i 0, .i 0, .int .u64 0, .i 0, .str [], .str [], .slice [] 0 .exact, .i v2.line, .i v2.col]], [], [], 0⟩) (σ' := [psAV lo l s25]) (ob := Tt 2) (by kernel_rfl) (tt 2) ?_
                  have nk26 : exprF n l s25 ≠ .out := by intro h9; simp only [h9, R.out_bind] at hX; exact hne hX.symm
                  refine AOps.call (fid := 75) (cap := []) (avs := [.ptr 0 0]) (by kernel_rfl) rfl (by kernel_rfl) (by kernel_rfl) en_75 (by kernel_rfl) (ACalls.mono ((ih n (by omega)).expr s25 nk26) ?_)
                  cases k26 : exprF n l s25 with
                  | out => exact absurd k26 nk26
                  | bad ea eb ec =>
                    rintro _ _ ⟨rfl, pp, dd, rfl⟩
                    simp only [k26, R.bad_bind] at hX
                    subst hX
                    exact PR.bad_intro (vAV := fun (e : Ex) => .agg (exAV e)) pp dd rfl rfl
                  | ok v27 s28 =>
                    rintro _ _ ⟨rfl, rfl⟩
                    simp only [k26, R.ok_bind] at hX
                    refine AOps.runN hT nh 1 [0, 2, 4] (fr' := ⟨[(0, .ptr 0 0), (2, .loc 0 0), (4, .loc 2 0)], [[.i 0, .i 0, .int .u64 0, .i 0, .str [], .str [], .slice [] 0 .exact, .i 0, .i 0], [.i v2.kind, .str v2.text, .int .u64 v2.n, .i v2.line, .i v2.col], [.i v27.op, .i v27.bin, .int .u64 v27.n, .i v27.tk, .str v27.tr, .str v27.name, .slice (exRows v27.kids) v27.kids.length .no, .i v27.line, .i v27.col]], [], [], 0⟩) (σ' := [psAV lo l s28]) (ob := Tt 2) (by kernel_rfl) (tt 2) ?_
                    refine AOps.nil ?_
                    refine ACode.seq ?_
                    refine ACode.region ?_
                    refine AOps.runN hT nh 1 [0, 2, 4, 87] (fr' := ⟨[(0, .ptr 0 0), (2, .loc 0 0), (4, .loc 2 0), (87, .ptr 0 0)], [[.i 0, .i 0, .int .u64 0, .i 0, .str [], .str [], .slice [] 0 .exact, .i 0, .i 0], [.i v2.kind, .str v2.text, .int .u64 v2.n, .i v2.line, .i v2.col], [.i v27.op, .i v27.bin, .int .u64 v27.n, .i v27.tk, .str v27.tr, .str v27.name, .slice (exRows v27.kids) v27.kids.length .no, .i v27.line, .i v27.col]], [], [], 0⟩) (σ' := [psAV lo l s28]) (ob := Tt 2) (by kernel_rfl) (tt 2) ?_
                    have nk29 : mustF l [41] s28 ≠ .out := by intro h9; simp only [h9, R.out_bind] at hX; exact hne hX.symm
                    refine AOps.call (fid := 44) (cap := []) (avs := [.ptr 0 0, .str [41]]) (by kernel_rfl) rfl (by kernel_rfl) (by kernel_rfl) en_44 (by kernel_rfl) (ACalls.mono (p_must l lo hll [41] s28 nk29) ?_)
                    cases k29 : mustF l [41] s28 with
                    | out => exact absurd k29 nk29
                    | bad ea eb ec =>
                      rintro _ _ ⟨rfl, pp, dd, rfl⟩
                      simp only [k29, R.bad_bind] at hX
                      subst hX
                      exact PR.bad_intro (vAV := fun (e : Ex) => .agg (exAV e)) pp dd rfl rfl
                    | ok v30 s31 =>
                      rintro _ _ ⟨rfl, rfl⟩
                      simp only [k29, R.ok_bind] at hX
                      refine AOps.nil ?_
                      replace hX := upF_bind hne hX
                      obtain ⟨hdp, hX⟩ := hX
                      refine ACode.run hT nh [2, 4] (fr' := ⟨[(2, .loc 0 0), (4, .loc 2 0)], [[.i 0, .i 0, .int .u64 0, .i 0, .str [], .str [], .slice [] 0 .exact, .i 0, .i 0], [.i v2.kind, .str v2.text, .int .u64 v2.n, .i v2.line, .i v2.col], [.i v27.op, .i v27.bin, .int .u64 v27.n, .i v27.tk, .str v27.tr, .str v27.name, .slice (exRows v27.kids) v27.kids.length .no, .i v27.line, .i v27.col]], [], [], 0⟩) (σ' := [[.slice (toksAV l) l.length lo, .i (s31.pos : Int), .i (IntKind.i64.wrap (s31.dep - 1)), .i 0, .i 0, .i 0]]) (ob := Tt 9) (by kernel_rfl) (tt 9) ?_
                      rw [IntWalk.i64_in (s31.dep - 1) (by omega)]
                      refine ACode.seq ?_
                      refine ACode.run hT nh [2] (fr' := ⟨[(2, .loc 0 0)], [[.i v27.op, .i v27.bin, .int .u64 v27.n, .i v27.tk, .str v27.tr, .str v27.name, .slice (exRows v27.kids) v27.kids.length .no, .i v27.line, .i v27.col], [.i v2.kind, .str v2.text, .int .u64 v2.n, .i v2.line, .i v2.col], [.i v27.op, .i v27.bin, .int .u64 v27.n, .i v27.tk, .str v27.tr, .str v27.name, .slice (exRows v27.kids) v27.kids.length .no, .i v27.line, .i v27.col]], [], [], 0⟩) (σ' := [[.slice (toksAV l) l.length lo, .i (s31.pos : Int), .i (s31.dep - 1), .i 0, .i 0, .i 0]]) (ob := Tt 3) (by kernel_rfl) (tt 3) ?_
                      refine ACode.ret ?_
                      refine retQ.ret (.agg [.i v27.op, .i v27.bin, .int .u64 v27.n, .i v27.tk, .str v27.tr, .str v27.name, .slice (exRows v27.kids) v27.kids.length .no, .i v27.line, .i v27.col]) (by kernel_rfl) ?_
                      subst hX
                      exact PR.ok_intro rfl rfl
              · -- false
                have h22k := h22; simp only [Bool.and_eq_true, Bool.or_eq_true, Bool.and_eq_false_iff, Bool.or_eq_false_iff, decide_eq_true_eq, decide_eq_false_iff_not, beq_iff_eq, bne_iff_ne, ne_eq, Bool.not_eq_true', Bool.not_eq_false', beq_eq_false_iff_ne, bne_eq_false_iff_eq] at h22k
                try simp only [h22, Bool.false_eq_true, Bool.not_true, Bool.not_false, if_true, if_false] at hX
                refine ACode.region ?_
                refine AOps.runN hT nh 2 [2, 4, 12, 13] (fr' := ⟨[(2, .loc 0 0), (4, .loc 2 0), (12, .ptr 0 0), (13, .agg [.i v2.kind, .str v2.text, .int .u64 v2.n, .i v2.line, .i v2.col])], [[.i 0, .i 0, .int .u64 0, .i 0, .str [], .str [], .slice [] 0 .exact, .i 0, .i 0], [.i v2.kind, .str v2.text, .int .u64 v2.n, .i v2.line, .i v2.col], [.i 0, .i 0, .int .u64 0, .i 0, .str [], .str [], .slice [] 0 .exact, .i v2.line, .i v2.col]], [], [], 0⟩) (σ' := [psAV lo l s3]) (ob := Tt 3) (by kernel_rfl) (tt 3) ?_
                refine AOps.call (fid := 47) (cap := []) (avs := [.ptr 0 0, .i 4, .agg [.i v2.kind, .str v2.text, .int .u64 v2.n, .i v2.line, .i v2.col]]) (by kernel_rfl) rfl (by kernel_rfl) (by kernel_rfl) en_47 (by kernel_rfl) (ACalls.mono (p_fail l lo hll 4 v2 (s3.pos : Int) s3.dep) ?_)
                rintro _ _ ⟨rfl, pp, dd, rfl⟩
                subst hX
                exact PR.bad_intro (vAV := fun (e : Ex) => .agg (exAV e)) pp dd rfl rfl

theorem p_prefix (l : List Tok) (lo : Own) (hll : l.length ≤ 100000) (n : Nat) (s : PS) (ih : ∀ k, k < n + 1 → ExOK l lo k) (hne : prefixF (n + 1) l s ≠ .out) : ACalls Tryd.prog 103 [.ptr 0 0] [psAV lo l s] (PR (fun (e : Ex) => .agg (exAV e)) lo l (prefixF (n + 1) l s)) := by
  generalize hX : prefixF (n + 1) l s = X at hne ⊢
  refine ACalls.soft ?_
  rw [prefixF] at hX
  refine ACalls.enter hT Tryd.func103 rfl (by kernel_rfl) ?_
  refine ACode.seq ?_
  refine ACode.run hT nh [0, 2] (fr' := ⟨[(0, .ptr 0 0), (2, .loc 0 0)], [[.i 0, .i 0, .int .u64 0, .i 0, .str [], .str [], .slice [] 0 .exact, .i 0, .i 0]], [], [], 0⟩) (σ' := [psAV lo l s]) (ob := Tt 2) (by kernel_rfl) (tt 2) ?_
  refine ACode.seq ?_
  refine ACode.region ?_
  refine AOps.runN hT nh 1 [0, 2, 6] (fr' := ⟨[(0, .ptr 0 0), (2, .loc 0 0), (6, .ptr 0 0)], [[.i 0, .i 0, .int .u64 0, .i 0, .str [], .str [], .slice [] 0 .exact, .i 0, .i 0]], [], [], 0⟩) (σ' := [psAV lo l s]) (ob := Tt 2) (by kernel_rfl) (tt 2) ?_
  have nk1 : peekF l s ≠ .out := by intro h9; simp only [h9, R.out_bind] at hX; exact hne hX.symm
  refine AOps.call (fid := 40) (cap := []) (avs := [.ptr 0 0]) (by kernel_rfl) rfl (by kernel_rfl) (by kernel_rfl) en_40 (by kernel_rfl) (ACalls.mono (p_peek l lo hll s nk1) ?_)
  cases k1 : peekF l s with
  | out => exact absurd k1 nk1
  | bad ea eb ec =>
    rintro _ _ ⟨rfl, pp, dd, rfl⟩
    simp only [k1, R.bad_bind] at hX
    subst hX
    exact PR.bad_intro (vAV := fun (e : Ex) => .agg (exAV e)) pp dd rfl rfl
  | ok v2 s3 =>
    rintro _ _ ⟨rfl, rfl⟩
    simp only [k1, R.ok_bind] at hX
    obtain ⟨hsk1, hpk1, hvk1⟩ := peekF_ok k1
    refine AOps.runN hT nh 2 [0, 2, 3] (fr' := ⟨[(0, .ptr 0 0), (2, .loc 0 0), (3, .loc 1 0)], [[.i 0, .i 0, .int .u64 0, .i 0, .str [], .str [], .slice [] 0 .exact, .i 0, .i 0], [.i v2.kind, .str v2.text, .int .u64 v2.n, .i v2.line, .i v2.col]], [], [], 0⟩) (σ' := [psAV lo l s3]) (ob := Tt 3) (by kernel_rfl) (tt 3) ?_
    refine AOps.nil ?_
    refine ACode.seq ?_
    refine ACode.run hT nh [0, 2, 3, 4] (fr' := ⟨[(0, .ptr 0 0), (2, .loc 0 0), (3, .loc 1 0), (4, .i 0)], [[.i 0, .i 0, .int .u64 0, .i 0, .str [], .str [], .slice [] 0 .exact, .i 0, .i 0], [.i v2.kind, .str v2.text, .int .u64 v2.n, .i v2.line, .i v2.col]], [], [], 0⟩) (σ' := [psAV lo l s3]) (ob := Tt 2) (by kernel_rfl) (tt 2) ?_
    refine ACode.seq ?_
    refine ACode.seq ?_
    refine ACode.meet ⟨[(0, .ptr 0 0), (2, .loc 0 0), (3, .loc 1 0), (4, .i 0), (15, .bool ((v2.kind == 2) || (v2.kind == 5)))], [[.i 0, .i 0, .int .u64 0, .i 0, .str [], .str [], .slice [] 0 .exact, .i 0, .i 0], [.i v2.kind, .str v2.text, .int .u64 v2.n, .i v2.line, .i v2.col]], [], [], 0⟩ [psAV lo l s3] (ACode.region ?_) ?_
    ·
      refine AOps.runN hT nh 4 [0, 2, 3, 4, 11] (fr' := ⟨[(0, .ptr 0 0), (2, .loc 0 0), (3, .loc 1 0), (4, .i 0), (11, .bool (v2.kind == 2))], [[.i 0, .i 0, .int .u64 0, .i 0, .str [], .str [], .slice [] 0 .exact, .i 0, .i 0], [.i v2.kind, .str v2.text, .int .u64 v2.n, .i v2.line, .i v2.col]], [], [], 0⟩) (σ' := [psAV lo l s3]) (ob := Tt 5) (by kernel_rfl) (tt 5) ?_
      cases h4 : (v2.kind == 2)
      · -- v2.kind == 2 is false
        have h4k := ne_of_beq_false h4
        try simp only [h4, Bool.false_eq_true, Bool.not_true, Bool.not_false, if_true, if_false] at hX
        refine AOps.runN hT nh 4 [0, 2, 3, 4, 15] (fr' := ⟨[(0, .ptr 0 0), (2, .loc 0 0), (3, .loc 1 0), (4, .i 0), (15, .bool (v2.kind == 5))], [[.i 0, .i 0, .int .u64 0, .i 0, .str [], .str [], .slice [] 0 .exact, .i 0, .i 0], [.i v2.kind, .str v2.text, .int .u64 v2.n, .i v2.line, .i v2.col]], [], [], 0⟩) (σ' := [psAV lo l s3]) (ob := Tt 5) (by kernel_rfl) (tt 5) ?_
        refine AOps.weak [0, 2, 3, 4, 15] (AOps.nil ⟨rfl, rfl⟩)
      · -- v2.kind == 2 is true
        have h4k := eq_of_beq h4
        try simp only [h4, Bool.false_eq_true, Bool.not_true, Bool.not_false, if_true, if_false] at hX
        refine AOps.runN hT nh 4 [0, 2, 3, 4, 15] (fr' := ⟨[(0, .ptr 0 0), (2, .loc 0 0), (3, .loc 1 0), (4, .i 0), (15, .bool true)], [[.i 0, .i 0, .int .u64 0, .i 0, .str [], .str [], .slice [] 0 .exact, .i 0, .i 0], [.i v2.kind, .str v2.text, .int .u64 v2.n, .i v2.line, .i v2.col]], [], [], 0⟩) (σ' := [psAV lo l s3]) (ob := Tt 2) (by kernel_rfl) (tt 2) ?_
        refine AOps.weak [0, 2, 3, 4, 15] (AOps.nil ⟨rfl, rfl⟩)
    -- on
    refine ACode.cond (t := (v2.kind == 2) || (v2.kind == 5)) (by kernel_rfl) (fun h5 => ?_) (fun h5 => ?_)
    · -- true
      have h5k := h5; simp only [Bool.and_eq_true, Bool.or_eq_true, Bool.and_eq_false_iff, Bool.or_eq_false_iff, decide_eq_true_eq, decide_eq_false_iff_not, beq_iff_eq, bne_iff_ne, ne_eq, Bool.not_eq_true', Bool.not_eq_false', beq_eq_false_iff_ne, bne_eq_false_iff_eq] at h5k
      try simp only [h5, Bool.false_eq_true, Bool.not_true, Bool.not_false, if_true, if_false] at hX
      refine ACode.region ?_
      refine AOps.runN hT nh 2 [0, 2, 3, 17] (fr' := ⟨[(0, .ptr 0 0), (2, .loc 0 0), (3, .loc 1 0), (17, .str v2.text)], [[.i 0, .i 0, .int .u64 0, .i 0, .str [], .str [], .slice [] 0 .exact, .i 0, .i 0], [.i v2.kind, .str v2.text, .int .u64 v2.n, .i v2.line, .i v2.col]], [], [], 0⟩) (σ' := [psAV lo l s3]) (ob := Tt 3) (by kernel_rfl) (tt 3) ?_
      refine AOps.call (fid := 109) (cap := []) (avs := [.str v2.text]) (by kernel_rfl) rfl (by kernel_rfl) (by kernel_rfl) en_109 (by kernel_rfl) (ACalls.mono (unary_walk v2.text _) ?_)
      rintro _ _ ⟨rfl, rfl⟩
      refine AOps.runN hT nh 1 [0, 2, 3, 4] (fr' := ⟨[(0, .ptr 0 0), (2, .loc 0 0), (3, .loc 1 0), (4, .i (unaryS v2.text))], [[.i 0, .i 0, .int .u64 0, .i 0, .str [], .str [], .slice [] 0 .exact, .i 0, .i 0], [.i v2.kind, .str v2.text, .int .u64 v2.n, .i v2.line, .i v2.col]], [], [], 0⟩) (σ' := [psAV lo l s3]) (ob := Tt 2) (by kernel_rfl) (tt 2) ?_
      refine AOps.nil ?_
      refine ACode.seq ?_
      refine ACode.seq ?_
      refine ACode.run hT nh [0, 2, 3, 4, 20] (fr' := ⟨[(0, .ptr 0 0), (2, .loc 0 0), (3, .loc 1 0), (4, .i (unaryS v2.text)), (20, .bool ((unaryS v2.text) == 0))], [[.i 0, .i 0, .int .u64 0, .i 0, .str [], .str [], .slice [] 0 .exact, .i 0, .i 0], [.i v2.kind, .str v2.text, .int .u64 v2.n, .i v2.line, .i v2.col]], [], [], 0⟩) (σ' := [psAV lo l s3]) (ob := Tt 3) (by kernel_rfl) (tt 3) ?_
      refine ACode.cond (t := (unaryS v2.text) == 0) (by kernel_rfl) (fun h6 => ?_) (fun h6 => ?_)
      · -- true
        have h6k := eq_of_beq h6
        try simp only [h6, Bool.false_eq_true, Bool.not_true, Bool.not_false, if_true, if_false] at hX
        refine ACode.seq ?_
        refine ACode.region ?_
        refine AOps.runN hT nh 1 [2, 21] (fr' := ⟨[(2, .loc 0 0), (21, .ptr 0 0)], [[.i 0, .i 0, .int .u64 0, .i 0, .str [], .str [], .slice [] 0 .exact, .i 0, .i 0], [.i v2.kind, .str v2.text, .int .u64 v2.n, .i v2.line, .i v2.col]], [], [], 0⟩) (σ' := [psAV lo l s3]) (ob := Tt 2) (by kernel_rfl) (tt 2) ?_
        have nk7 : atomF n l s3 ≠ .out := by intro h9; simp only [h9, R.out_bind] at hX; exact hne hX.symm
        refine AOps.call (fid := 110) (cap := []) (avs := [.ptr 0 0]) (by kernel_rfl) rfl (by kernel_rfl) (by kernel_rfl) en_110 (by kernel_rfl) (ACalls.mono ((ih n (by omega)).atom s3 nk7) ?_)
        cases k7 : atomF n l s3 with
        | out => exact absurd k7 nk7
        | bad ea eb ec =>
          rintro _ _ ⟨rfl, pp, dd, rfl⟩
          simp only [k7, R.bad_bind] at hX
          subst hX
          exact PR.bad_intro (vAV := fun (e : Ex) => .agg (exAV e)) pp dd rfl rfl
        | ok v8 s9 =>
          rintro _ _ ⟨rfl, rfl⟩
          simp only [k7, R.ok_bind] at hX
          refine AOps.runN hT nh 1 [2] (fr' := ⟨[(2, .loc 0 0)], [[.i v8.op, .i v8.bin, .int .u64 v8.n, .i v8.tk, .str v8.tr, .str v8.name, .slice (exRows v8.kids) v8.kids.length .no, .i v8.line, .i v8.col], [.i v2.kind, .str v2.text, .int .u64 v2.n, .i v2.line, .i v2.col]], [], [], 0⟩) (σ' := [psAV lo l s9]) (ob := Tt 2) (by kernel_rfl) (tt 2) ?_
          refine AOps.nil ?_
          refine ACode.ret ?_
          refine retQ.ret (.agg [.i v8.op, .i v8.bin, .int .u64 v8.n, .i v8.tk, .str v8.tr, .str v8.name, .slice (exRows v8.kids) v8.kids.length .no, .i v8.line, .i v8.col]) (by kernel_rfl) ?_
          subst hX
          exact PR.ok_intro rfl rfl
      · -- false
        have h6k := ne_of_beq_false h6
        try simp only [h6, Bool.false_eq_true, Bool.not_true, Bool.not_false, if_true, if_false] at hX
        refine ACode.skip ?_
        refine ACode.seq ?_
        refine ACode.region ?_
        refine AOps.runN hT nh 1 [0, 2, 3, 4, 23] (fr' := ⟨[(0, .ptr 0 0), (2, .loc 0 0), (3, .loc 1 0), (4, .i (unaryS v2.text)), (23, .ptr 0 0)], [[.i 0, .i 0, .int .u64 0, .i 0, .str [], .str [], .slice [] 0 .exact, .i 0, .i 0], [.i v2.kind, .str v2.text, .int .u64 v2.n, .i v2.line, .i v2.col]], [], [], 0⟩) (σ' := [psAV lo l s3]) (ob := Tt 2) (by kernel_rfl) (tt 2) ?_
        have nk10 : nextF l s3 ≠ .out := by intro h9; simp only [h9, R.out_bind] at hX; exact hne hX.symm
        refine AOps.call (fid := 69) (cap := []) (avs := [.ptr 0 0]) (by kernel_rfl) rfl (by kernel_rfl) (by kernel_rfl) en_69 (by kernel_rfl) (ACalls.mono (p_next l lo hll s3 nk10) ?_)
        cases k10 : nextF l s3 with
        | out => exact absurd k10 nk10
        | bad ea eb ec =>
          rintro _ _ ⟨rfl, pp, dd, rfl⟩
          simp only [k10, R.bad_bind] at hX
          subst hX
          exact PR.bad_intro (vAV := fun (e : Ex) => .agg (exAV e)) pp dd rfl rfl
        | ok v11 s12 =>
          rintro _ _ ⟨rfl, rfl⟩
          simp only [k10, R.ok_bind] at hX
          refine AOps.nil ?_
          refine ACode.seq ?_
          refine ACode.region ?_
          refine AOps.runN hT nh 2 [0, 2, 3, 4, 25, 26] (fr' := ⟨[(0, .ptr 0 0), (2, .loc 0 0), (3, .loc 1 0), (4, .i (unaryS v2.text)), (25, .ptr 0 0), (26, .agg [.i v2.kind, .str v2.text, .int .u64 v2.n, .i v2.line, .i v2.col])], [[.i 0, .i 0, .int .u64 0, .i 0, .str [], .str [], .slice [] 0 .exact, .i 0, .i 0], [.i v2.kind, .str v2.text, .int .u64 v2.n, .i v2.line, .i v2.col]], [], [], 0⟩) (σ' := [psAV lo l s12]) (ob := Tt 3) (by kernel_rfl) (tt 3) ?_
          have nk13 : downF v2 s12 ≠ .out := by intro h9; simp only [h9, R.out_bind] at hX; exact hne hX.symm
          refine AOps.call (fid := 59) (cap := []) (avs := [.ptr 0 0, .agg [.i v2.kind, .str v2.text, .int .u64 v2.n, .i v2.line, .i v2.col]]) (by kernel_rfl) rfl (by kernel_rfl) (by kernel_rfl) en_59 (by kernel_rfl) (ACalls.mono (p_down l lo hll v2 s12 nk13) ?_)
          cases k13 : downF v2 s12 with
          | out => exact absurd k13 nk13
          | bad ea eb ec =>
            rintro _ _ ⟨rfl, pp, dd, rfl⟩
            simp only [k13, R.bad_bind] at hX
            subst hX
            exact PR.bad_intro (vAV := fun (e : Ex) => .agg (exAV e)) pp dd rfl rfl
          | ok v14 s15 =>
            rintro _ _ ⟨rfl, rfl⟩
            simp only [k13, R.ok_bind] at hX
            refine AOps.nil ?_
            refine ACode.seq ?_
            refine ACode.draw [(10, 2)] 2 [] 0 (by kernel_rfl) (by kernel_rfl) ?_
            refine AAny.run hT nh (fuel := 5) [0, 1, 4, 5, 6, 7] [0, 2, 28, 29, 33, 35] (fz' := true) (l' := #[true, true, false, false, true, true, true, true, false, false, false]) (fr' := ⟨[(0, .ptr 0 0), (2, .loc 0 0), (28, .i (unaryS v2.text)), (29, .ptr 0 0), (33, .i v2.line), (35, .i v2.col)], [[.i 0, .i 0, .int .u64 0, .i 0, .str [], .str [], .slice [] 0 .exact, .i 0, .i 0], [.i v2.kind, .str v2.text, .int .u64 v2.n, .i v2.line, .i v2.col]], [], [], 0⟩) (σ' := [psAV lo l s15]) (ob := Tt 7) (by kernel_rfl) (by kernel_rfl) (tt 7) ?_
            refine AAny.weak [0, 2, 28, 29, 33, 35] ?_
            refine AAny.steps (fuel := 4) [2, 9] (by kernel_rfl) rfl ⟨?_, ?_, trivial⟩
            · -- 2 first
              have nk16 : prefixF n l s15 ≠ .out := by intro h9; simp only [h9, R.out_bind] at hX; exact hne hX.symm
              refine AStep.call (fuel := 4) (i := 2) (fid := 103) (cap := []) (avs := [.ptr 0 0]) rfl (by kernel_rfl) (by kernel_rfl) (by kernel_rfl) rfl (by kernel_rfl) en_103 (by kernel_rfl) (ACalls.mono ((ih n (by omega)).pre s15 nk16) ?_) (by kernel_rfl)
              cases k16 : prefixF n l s15 with
              | out => exact absurd k16 nk16
              | bad ea eb ec =>
                rintro _ _ ⟨rfl, pp, dd, rfl⟩
                simp only [k16, R.bad_bind] at hX
                subst hX
                exact PR.bad_intro (vAV := fun (e : Ex) => .agg (exAV e)) pp dd rfl rfl
              | ok v17 s18 =>
                rintro _ _ ⟨rfl, rfl⟩
                simp only [k16, R.ok_bind] at hX
                refine AAny.weak [0, 2, 28, 30, 33, 35] ?_
                refine AAny.steps (fuel := 3) [3, 9] (by kernel_rfl) rfl ⟨?_, ?_, trivial⟩
                · -- 3 first
                  refine AStep.one hT (nh (some 31)) rfl (by kernel_rfl) (by kernel_rfl) (v := .slice [.i v17.op, .i v17.bin, .int .u64 v17.n, .i v17.tk, .str v17.tr, .str v17.name, .slice (exRows v17.kids) v17.kids.length .no, .i v17.line, .i v17.col] 1 .exact) (fr' := ⟨[(0, .ptr 0 0), (2, .loc 0 0), (28, .i (unaryS v2.text)), (30, .agg [.i v17.op, .i v17.bin, .int .u64 v17.n, .i v17.tk, .str v17.tr, .str v17.name, .slice (exRows v17.kids) v17.kids.length .no, .i v17.line, .i v17.col]), (33, .i v2.line), (35, .i v2.col)], [[.i 0, .i 0, .int .u64 0, .i 0, .str [], .str [], .slice [] 0 .exact, .i 0, .i 0], [.i v2.kind, .str v2.text, .int .u64 v2.n, .i v2.line, .i v2.col]], [], [], 0⟩) (σ' := [psAV lo l s18]) (ob := Tt 1) (by kernel_rfl) (by kernel_rfl) trivial ?_ (by kernel_rfl)
                  refine AAny.run hT nh (fuel := 0) [8, 9, 10] [0, 2, 5] (fz' := false) (l' := #[true, true, true, true, true, true, true, true, true, true, true]) (fr' := ⟨[(0, .ptr 0 0), (2, .loc 0 0), (5, .loc 2 0)], [[.i 0, .i 0, .int .u64 0, .i 0, .str [], .str [], .slice [] 0 .exact, .i 0, .i 0], [.i v2.kind, .str v2.text, .int .u64 v2.n, .i v2.line, .i v2.col], [.i (unaryS v2.text), .i 0, .int .u64 0, .i 0, .str [], .str [], .slice [.i v17.op, .i v17.bin, .int .u64 v17.n, .i v17.tk, .str v17.tr, .str v17.name, .slice (exRows v17.kids) v17.kids.length .no, .i v17.line, .i v17.col] 1 .exact, .i v2.line, .i v2.col]], [], [], 0⟩) (σ' := [psAV lo l s18]) (ob := Tt 4) (by kernel_rfl) (by kernel_rfl) (tt 4) ?_
                  refine AAny.done (by kernel_rfl) ?_
                  rw [show ([.i v17.op, .i v17.bin, .int .u64 v17.n, .i v17.tk, .str v17.tr, .str v17.name, .slice (exRows v17.kids) v17.kids.length .no, .i v17.line, .i v17.col] : List AV) = exRows [v17] from (exRows_one v17).symm]
                  refine ACode.seq ?_
                  replace hX := upF_bind hne hX
                  obtain ⟨hdp, hX⟩ := hX
                  refine ACode.run hT nh [2, 5] (fr' := ⟨[(2, .loc 0 0), (5, .loc 2 0)], [[.i 0, .i 0, .int .u64 0, .i 0, .str [], .str [], .slice [] 0 .exact, .i 0, .i 0], [.i v2.kind, .str v2.text, .int .u64 v2.n, .i v2.line, .i v2.col], [.i (unaryS v2.text), .i 0, .int .u64 0, .i 0, .str [], .str [], .slice (exRows [v17]) 1 .exact, .i v2.line, .i v2.col]], [], [], 0⟩) (σ' := [[.slice (toksAV l) l.length lo, .i (s18.pos : Int), .i (IntKind.i64.wrap (s18.dep - 1)), .i 0, .i 0, .i 0]]) (ob := Tt 9) (by kernel_rfl) (tt 9) ?_
                  rw [IntWalk.i64_in (s18.dep - 1) (by omega)]
                  refine ACode.seq ?_
                  refine ACode.run hT nh [2] (fr' := ⟨[(2, .loc 0 0)], [[.i (unaryS v2.text), .i 0, .int .u64 0, .i 0, .str [], .str [], .slice (exRows [v17]) 1 .exact, .i v2.line, .i v2.col], [.i v2.kind, .str v2.text, .int .u64 v2.n, .i v2.line, .i v2.col], [.i (unaryS v2.text), .i 0, .int .u64 0, .i 0, .str [], .str [], .slice (exRows [v17]) 1 .exact, .i v2.line, .i v2.col]], [], [], 0⟩) (σ' := [[.slice (toksAV l) l.length lo, .i (s18.pos : Int), .i (s18.dep - 1), .i 0, .i 0, .i 0]]) (ob := Tt 3) (by kernel_rfl) (tt 3) ?_
                  refine ACode.ret ?_
                  refine retQ.ret (.agg [.i (unaryS v2.text), .i 0, .int .u64 0, .i 0, .str [], .str [], .slice (exRows [v17]) 1 .exact, .i v2.line, .i v2.col]) (by kernel_rfl) ?_
                  subst hX
                  exact PR.ok_intro rfl rfl
                · -- 9 first
                  refine AStep.one hT (nh (some 5)) rfl (by kernel_rfl) (by kernel_rfl) (v := .loc 2 0) (fr' := ⟨[(0, .ptr 0 0), (2, .loc 0 0), (28, .i (unaryS v2.text)), (30, .agg [.i v17.op, .i v17.bin, .int .u64 v17.n, .i v17.tk, .str v17.tr, .str v17.name, .slice (exRows v17.kids) v17.kids.length .no, .i v17.line, .i v17.col]), (33, .i v2.line), (35, .i v2.col)], [[.i 0, .i 0, .int .u64 0, .i 0, .str [], .str [], .slice [] 0 .exact, .i 0, .i 0], [.i v2.kind, .str v2.text, .int .u64 v2.n, .i v2.line, .i v2.col], [.i 0, .i 0, .int .u64 0, .i 0, .str [], .str [], .slice [] 0 .exact, .i 0, .i 0]], [], [], 0⟩) (σ' := [psAV lo l s18]) (ob := Tt 1) (by kernel_rfl) (by kernel_rfl) trivial ?_ (by kernel_rfl)
                  refine AAny.run hT nh (fuel := 0) [3, 8, 10] [0, 2, 5] (fz' := false) (l' := #[true, true, true, true, true, true, true, true, true, true, true]) (fr' := ⟨[(0, .ptr 0 0), (2, .loc 0 0), (5, .loc 2 0)], [[.i 0, .i 0, .int .u64 0, .i 0, .str [], .str [], .slice [] 0 .exact, .i 0, .i 0], [.i v2.kind, .str v2.text, .int .u64 v2.n, .i v2.line, .i v2.col], [.i (unaryS v2.text), .i 0, .int .u64 0, .i 0, .str [], .str [], .slice [.i v17.op, .i v17.bin, .int .u64 v17.n, .i v17.tk, .str v17.tr, .str v17.name, .slice (exRows v17.kids) v17.kids.length .no, .i v17.line, .i v17.col] 1 .exact, .i v2.line, .i v2.col]], [], [], 0⟩) (σ' := [psAV lo l s18]) (ob := Tt 4) (by kernel_rfl) (by kernel_rfl) (tt 4) ?_
                  refine AAny.done (by kernel_rfl) ?_
                  rw [show ([.i v17.op, .i v17.bin, .int .u64 v17.n, .i v17.tk, .str v17.tr, .str v17.name, .slice (exRows v17.kids) v17.kids.length .no, .i v17.line, .i v17.col] : List AV) = exRows [v17] from (exRows_one v17).symm]
                  refine ACode.seq ?_
                  replace hX := upF_bind hne hX
                  obtain ⟨hdp, hX⟩ := hX
                  refine ACode.run hT nh [2, 5] (fr' := ⟨[(2, .loc 0 0), (5, .loc 2 0)], [[.i 0, .i 0, .int .u64 0, .i 0, .str [], .str [], .slice [] 0 .exact, .i 0, .i 0], [.i v2.kind, .str v2.text, .int .u64 v2.n, .i v2.line, .i v2.col], [.i (unaryS v2.text), .i 0, .int .u64 0, .i 0, .str [], .str [], .slice (exRows [v17]) 1 .exact, .i v2.line, .i v2.col]], [], [], 0⟩) (σ' := [[.slice (toksAV l) l.length lo, .i (s18.pos : Int), .i (IntKind.i64.wrap (s18.dep - 1)), .i 0, .i 0, .i 0]]) (ob := Tt 9) (by kernel_rfl) (tt 9) ?_
                  rw [IntWalk.i64_in (s18.dep - 1) (by omega)]
                  refine ACode.seq ?_
                  refine ACode.run hT nh [2] (fr' := ⟨[(2, .loc 0 0)], [[.i (unaryS v2.text), .i 0, .int .u64 0, .i 0, .str [], .str [], .slice (exRows [v17]) 1 .exact, .i v2.line, .i v2.col], [.i v2.kind, .str v2.text, .int .u64 v2.n, .i v2.line, .i v2.col], [.i (unaryS v2.text), .i 0, .int .u64 0, .i 0, .str [], .str [], .slice (exRows [v17]) 1 .exact, .i v2.line, .i v2.col]], [], [], 0⟩) (σ' := [[.slice (toksAV l) l.length lo, .i (s18.pos : Int), .i (s18.dep - 1), .i 0, .i 0, .i 0]]) (ob := Tt 3) (by kernel_rfl) (tt 3) ?_
                  refine ACode.ret ?_
                  refine retQ.ret (.agg [.i (unaryS v2.text), .i 0, .int .u64 0, .i 0, .str [], .str [], .slice (exRows [v17]) 1 .exact, .i v2.line, .i v2.col]) (by kernel_rfl) ?_
                  subst hX
                  exact PR.ok_intro rfl rfl
            · -- 9 first
              refine AStep.one hT (nh (some 5)) rfl (by kernel_rfl) (by kernel_rfl) (v := .loc 2 0) (fr' := ⟨[(0, .ptr 0 0), (2, .loc 0 0), (28, .i (unaryS v2.text)), (29, .ptr 0 0), (33, .i v2.line), (35, .i v2.col)], [[.i 0, .i 0, .int .u64 0, .i 0, .str [], .str [], .slice [] 0 .exact, .i 0, .i 0], [.i v2.kind, .str v2.text, .int .u64 v2.n, .i v2.line, .i v2.col], [.i 0, .i 0, .int .u64 0, .i 0, .str [], .str [], .slice [] 0 .exact, .i 0, .i 0]], [], [], 0⟩) (σ' := [psAV lo l s15]) (ob := Tt 1) (by kernel_rfl) (by kernel_rfl) trivial ?_ (by kernel_rfl)
              have nk19 : prefixF n l s15 ≠ .out := by intro h9; simp only [h9, R.out_bind] at hX; exact hne hX.symm
              refine AAny.call (fuel := 3) (i := 2) (fid := 103) (cap := []) (avs := [.ptr 0 0]) rfl (by kernel_rfl) (by kernel_rfl) (by kernel_rfl) (by kernel_rfl) rfl (by kernel_rfl) en_103 (by kernel_rfl) (ACalls.mono ((ih n (by omega)).pre s15 nk19) ?_) (by kernel_rfl)
              cases k19 : prefixF n l s15 with
              | out => exact absurd k19 nk19
              | bad ea eb ec =>
                rintro _ _ ⟨rfl, pp, dd, rfl⟩
                simp only [k19, R.bad_bind] at hX
                subst hX
                exact PR.bad_intro (vAV := fun (e : Ex) => .agg (exAV e)) pp dd rfl rfl
              | ok v20 s21 =>
                rintro _ _ ⟨rfl, rfl⟩
                simp only [k19, R.ok_bind] at hX
                refine AAny.run hT nh (fuel := 0) [3, 8, 10] [0, 2, 5] (fz' := false) (l' := #[true, true, true, true, true, true, true, true, true, true, true]) (fr' := ⟨[(0, .ptr 0 0), (2, .loc 0 0), (5, .loc 2 0)], [[.i 0, .i 0, .int .u64 0, .i 0, .str [], .str [], .slice [] 0 .exact, .i 0, .i 0], [.i v2.kind, .str v2.text, .int .u64 v2.n, .i v2.line, .i v2.col], [.i (unaryS v2.text), .i 0, .int .u64 0, .i 0, .str [], .str [], .slice [.i v20.op, .i v20.bin, .int .u64 v20.n, .i v20.tk, .str v20.tr, .str v20.name, .slice (exRows v20.kids) v20.kids.length .no, .i v20.line, .i v20.col] 1 .exact, .i v2.line, .i v2.col]], [], [], 0⟩) (σ' := [psAV lo l s21]) (ob := Tt 4) (by kernel_rfl) (by kernel_rfl) (tt 4) ?_
                refine AAny.done (by kernel_rfl) ?_
                rw [show ([.i v20.op, .i v20.bin, .int .u64 v20.n, .i v20.tk, .str v20.tr, .str v20.name, .slice (exRows v20.kids) v20.kids.length .no, .i v20.line, .i v20.col] : List AV) = exRows [v20] from (exRows_one v20).symm]
                refine ACode.seq ?_
                replace hX := upF_bind hne hX
                obtain ⟨hdp, hX⟩ := hX
                refine ACode.run hT nh [2, 5] (fr' := ⟨[(2, .loc 0 0), (5, .loc 2 0)], [[.i 0, .i 0, .int .u64 0, .i 0, .str [], .str [], .slice [] 0 .exact, .i 0, .i 0], [.i v2.kind, .str v2.text, .int .u64 v2.n, .i v2.line, .i v2.col], [.i (unaryS v2.text), .i 0, .int .u64 0, .i 0, .str [], .str [], .slice (exRows [v20]) 1 .exact, .i v2.line, .i v2.col]], [], [], 0⟩) (σ' := [[.slice (toksAV l) l.length lo, .i (s21.pos : Int), .i (IntKind.i64.wrap (s21.dep - 1)), .i 0, .i 0, .i 0]]) (ob := Tt 9) (by kernel_rfl) (tt 9) ?_
                rw [IntWalk.i64_in (s21.dep - 1) (by omega)]
                refine ACode.seq ?_
                refine ACode.run hT nh [2] (fr' := ⟨[(2, .loc 0 0)], [[.i (unaryS v2.text), .i 0, .int .u64 0, .i 0, .str [], .str [], .slice (exRows [v20]) 1 .exact, .i v2.line, .i v2.col], [.i v2.kind, .str v2.text, .int .u64 v2.n, .i v2.line, .i v2.col], [.i (unaryS v2.text), .i 0, .int .u64 0, .i 0, .str [], .str [], .slice (exRows [v20]) 1 .exact, .i v2.line, .i v2.col]], [], [], 0⟩) (σ' := [[.slice (toksAV l) l.length lo, .i (s21.pos : Int), .i (s21.dep - 1), .i 0, .i 0, .i 0]]) (ob := Tt 3) (by kernel_rfl) (tt 3) ?_
                refine ACode.ret ?_
                refine retQ.ret (.agg [.i (unaryS v2.text), .i 0, .int .u64 0, .i 0, .str [], .str [], .slice (exRows [v20]) 1 .exact, .i v2.line, .i v2.col]) (by kernel_rfl) ?_
                subst hX
                exact PR.ok_intro rfl rfl
    · -- false
      have h5k := h5; simp only [Bool.and_eq_true, Bool.or_eq_true, Bool.and_eq_false_iff, Bool.or_eq_false_iff, decide_eq_true_eq, decide_eq_false_iff_not, beq_iff_eq, bne_iff_ne, ne_eq, Bool.not_eq_true', Bool.not_eq_false', beq_eq_false_iff_ne, bne_eq_false_iff_eq] at h5k
      try simp only [h5, Bool.false_eq_true, Bool.not_true, Bool.not_false, if_true, if_false] at hX
      refine ACode.skip ?_
      refine ACode.seq ?_
      refine ACode.seq ?_
      refine ACode.run hT nh [0, 2, 3, 4, 20] (fr' := ⟨[(0, .ptr 0 0), (2, .loc 0 0), (3, .loc 1 0), (4, .i 0), (20, .bool true)], [[.i 0, .i 0, .int .u64 0, .i 0, .str [], .str [], .slice [] 0 .exact, .i 0, .i 0], [.i v2.kind, .str v2.text, .int .u64 v2.n, .i v2.line, .i v2.col]], [], [], 0⟩) (σ' := [psAV lo l s3]) (ob := Tt 3) (by kernel_rfl) (tt 3) ?_
      refine ACode.cond (t := true) (by kernel_rfl) (fun _ => ?_) (fun h => Bool.noConfusion h)
      refine ACode.seq ?_
      refine ACode.region ?_
      refine AOps.runN hT nh 1 [2, 21] (fr' := ⟨[(2, .loc 0 0), (21, .ptr 0 0)], [[.i 0, .i 0, .int .u64 0, .i 0, .str [], .str [], .slice [] 0 .exact, .i 0, .i 0], [.i v2.kind, .str v2.text, .int .u64 v2.n, .i v2.line, .i v2.col]], [], [], 0⟩) (σ' := [psAV lo l s3]) (ob := Tt 2) (by kernel_rfl) (tt 2) ?_
      have nk22 : atomF n l s3 ≠ .out := by intro h9; simp only [h9, R.out_bind] at hX; exact hne hX.symm
      refine AOps.call (fid := 110) (cap := []) (avs := [.ptr 0 0]) (by kernel_rfl) rfl (by kernel_rfl) (by kernel_rfl) en_110 (by kernel_rfl) (ACalls.mono ((ih n (by omega)).atom s3 nk22) ?_)
      cases k22 : atomF n l s3 with
      | out => exact absurd k22 nk22
      | bad ea eb ec =>
        rintro _ _ ⟨rfl, pp, dd, rfl⟩
        simp only [k22, R.bad_bind] at hX
        subst hX
        exact PR.bad_intro (vAV := fun (e : Ex) => .agg (exAV e)) pp dd rfl rfl
      | ok v23 s24 =>
        rintro _ _ ⟨rfl, rfl⟩
        simp only [k22, R.ok_bind] at hX
        refine AOps.runN hT nh 1 [2] (fr' := ⟨[(2, .loc 0 0)], [[.i v23.op, .i v23.bin, .int .u64 v23.n, .i v23.tk, .str v23.tr, .str v23.name, .slice (exRows v23.kids) v23.kids.length .no, .i v23.line, .i v23.col], [.i v2.kind, .str v2.text, .int .u64 v2.n, .i v2.line, .i v2.col]], [], [], 0⟩) (σ' := [psAV lo l s24]) (ob := Tt 2) (by kernel_rfl) (tt 2) ?_
        refine AOps.nil ?_
        refine ACode.ret ?_
        refine retQ.ret (.agg [.i v23.op, .i v23.bin, .int .u64 v23.n, .i v23.tk, .str v23.tr, .str v23.name, .slice (exRows v23.kids) v23.kids.length .no, .i v23.line, .i v23.col]) (by kernel_rfl) ?_
        subst hX
        exact PR.ok_intro rfl rfl

theorem signsS_len (v : Nat) : (signsS v).length < 4294967281 := by
  unfold signsS
  split
  · decide
  · split <;> decide
theorem p_chain (l : List Tok) (lo : Own) (hll : l.length ≤ 100000) (n : Nat) (v : Nat) (s : PS) (ih : ∀ k, k < n + 1 → ExOK l lo k) (hne : chainF (n + 1) l v s ≠ .out) : ACalls Tryd.prog 93 [.ptr 0 0, .i (v : Int)] [psAV lo l s] (PR (fun (e : Ex) => .agg (exAV e)) lo l (chainF (n + 1) l v s)) := by
  generalize hX : chainF (n + 1) l v s = X at hne ⊢
  refine ACalls.soft ?_
  rw [chainF] at hX
  have hv3 : ¬ 3 < v := by intro h9; rw [if_pos h9] at hX; exact hne hX.symm
  rw [if_neg hv3] at hX
  refine ACalls.enter hT Tryd.func93 rfl (by kernel_rfl) ?_
  refine ACode.seq ?_
  refine ACode.run hT nh [0, 1, 4] (fr' := ⟨[(0, .ptr 0 0), (1, .i (v : Int)), (4, .loc 0 0)], [[.i 0, .i 0, .int .u64 0, .i 0, .str [], .str [], .slice [] 0 .exact, .i 0, .i 0]], [], [], 0⟩) (σ' := [psAV lo l s]) (ob := Tt 2) (by kernel_rfl) (tt 2) ?_
  refine ACode.seq ?_
  refine ACode.seq ?_
  refine ACode.run hT nh [0, 1, 4, 8] (fr' := ⟨[(0, .ptr 0 0), (1, .i (v : Int)), (4, .loc 0 0), (8, .bool ((v : Int) == 3))], [[.i 0, .i 0, .int .u64 0, .i 0, .str [], .str [], .slice [] 0 .exact, .i 0, .i 0]], [], [], 0⟩) (σ' := [psAV lo l s]) (ob := Tt 3) (by kernel_rfl) (tt 3) ?_
  refine ACode.cond (t := (v : Int) == 3) (by kernel_rfl) (fun h1 => ?_) (fun h1 => ?_)
  · -- true
    have h1k := eq_of_beq h1
    try simp only [h1, Bool.false_eq_true, Bool.not_true, Bool.not_false, if_true, if_false] at hX
    refine ACode.seq ?_
    refine ACode.region ?_
    refine AOps.runN hT nh 1 [4, 9] (fr' := ⟨[(4, .loc 0 0), (9, .ptr 0 0)], [[.i 0, .i 0, .int .u64 0, .i 0, .str [], .str [], .slice [] 0 .exact, .i 0, .i 0]], [], [], 0⟩) (σ' := [psAV lo l s]) (ob := Tt 2) (by kernel_rfl) (tt 2) ?_
    have nk2 : prefixF n l s ≠ .out := by intro h9; simp only [h9, R.out_bind] at hX; exact hne hX.symm
    refine AOps.call (fid := 103) (cap := []) (avs := [.ptr 0 0]) (by kernel_rfl) rfl (by kernel_rfl) (by kernel_rfl) en_103 (by kernel_rfl) (ACalls.mono ((ih n (by omega)).pre s nk2) ?_)
    cases k2 : prefixF n l s with
    | out => exact absurd k2 nk2
    | bad ea eb ec =>
      rintro _ _ ⟨rfl, pp, dd, rfl⟩
      simp only [k2, R.bad_bind] at hX
      subst hX
      exact PR.bad_intro (vAV := fun (e : Ex) => .agg (exAV e)) pp dd rfl rfl
    | ok v3 s4 =>
      rintro _ _ ⟨rfl, rfl⟩
      simp only [k2, R.ok_bind] at hX
      refine AOps.runN hT nh 1 [4] (fr' := ⟨[(4, .loc 0 0)], [[.i v3.op, .i v3.bin, .int .u64 v3.n, .i v3.tk, .str v3.tr, .str v3.name, .slice (exRows v3.kids) v3.kids.length .no, .i v3.line, .i v3.col]], [], [], 0⟩) (σ' := [psAV lo l s4]) (ob := Tt 2) (by kernel_rfl) (tt 2) ?_
      refine AOps.nil ?_
      refine ACode.ret ?_
      refine retQ.ret (.agg [.i v3.op, .i v3.bin, .int .u64 v3.n, .i v3.tk, .str v3.tr, .str v3.name, .slice (exRows v3.kids) v3.kids.length .no, .i v3.line, .i v3.col]) (by kernel_rfl) ?_
      subst hX
      exact PR.ok_intro rfl rfl
  · -- false
    have h1k := ne_of_beq_false h1
    try simp only [h1, Bool.false_eq_true, Bool.not_true, Bool.not_false, if_true, if_false] at hX
    refine ACode.skip ?_
    refine ACode.seq ?_
    refine ACode.region ?_
    refine AOps.runN hT nh 3 [0, 1, 4, 11, 13] (fr' := ⟨[(0, .ptr 0 0), (1, .i (v : Int)), (4, .loc 0 0), (11, .ptr 0 0), (13, .i (IntKind.i64.wrap ((v : Int) + 1)))], [[.i 0, .i 0, .int .u64 0, .i 0, .str [], .str [], .slice [] 0 .exact, .i 0, .i 0]], [], [], 0⟩) (σ' := [psAV lo l s]) (ob := Tt 4) (by kernel_rfl) (tt 4) ?_
    rw [IntWalk.i64_in ((v : Int) + 1) (by omega)]
    have nk5 : chainF n l (v + 1) s ≠ .out := by intro h9; simp only [h9, R.out_bind] at hX; exact hne hX.symm
    refine AOps.call (fid := 93) (cap := []) (avs := [.ptr 0 0, .i ((v : Int) + 1)]) (by kernel_rfl) rfl (by kernel_rfl) (by kernel_rfl) en_93 (by kernel_rfl) (ACalls.mono ((ih n (by omega)).chain (v + 1) s nk5) ?_)
    cases k5 : chainF n l (v + 1) s with
    | out => exact absurd k5 nk5
    | bad ea eb ec =>
      rintro _ _ ⟨rfl, pp, dd, rfl⟩
      simp only [k5, R.bad_bind] at hX
      subst hX
      exact PR.bad_intro (vAV := fun (e : Ex) => .agg (exAV e)) pp dd rfl rfl
    | ok v6 s7 =>
      rintro _ _ ⟨rfl, rfl⟩
      simp only [k5, R.ok_bind] at hX
      refine AOps.runN hT nh 2 [0, 1, 4, 5] (fr' := ⟨[(0, .ptr 0 0), (1, .i (v : Int)), (4, .loc 0 0), (5, .loc 1 0)], [[.i 0, .i 0, .int .u64 0, .i 0, .str [], .str [], .slice [] 0 .exact, .i 0, .i 0], [.i v6.op, .i v6.bin, .int .u64 v6.n, .i v6.tk, .str v6.tr, .str v6.name, .slice (exRows v6.kids) v6.kids.length .no, .i v6.line, .i v6.col]], [], [], 0⟩) (σ' := [psAV lo l s7]) (ob := Tt 3) (by kernel_rfl) (tt 3) ?_
      refine AOps.nil ?_
      refine ACode.block ?_
      refine ACode.loop [0, 1, 4, 5] 2 0 (fun n0 fr σ' => ∃ (m : Nat), ∃ (e : Ex), ∃ (s1 : PS), fr = ⟨[(0, .ptr 0 0), (1, .i (v : Int)), (4, .loc 0 0), (5, .loc 1 0)], [[.i 0, .i 0, .int .u64 0, .i 0, .str [], .str [], .slice [] 0 .exact, .i 0, .i 0], [.i e.op, .i e.bin, .int .u64 e.n, .i e.tk, .str e.tr, .str e.name, .slice (exRows e.kids) e.kids.length .no, .i e.line, .i e.col]], [], [], 0⟩ ∧ σ' = [psAV lo l s1] ∧ (m ≤ n ∧ chainLoopF m l v e s1 = X) ∧ n0 = m + 1) _ (by kernel_rfl) ⟨n, v6, s7, rfl, rfl, ⟨Nat.le_refl _, hX⟩, rfl⟩ ?_
      rintro n0 fr σ' ⟨m, e, s1, rfl, rfl, ⟨hm, hX⟩, rfl⟩
      have hm0 : m ≠ 0 := by rintro rfl; exact hne hX.symm
      obtain ⟨m, rfl⟩ : ∃ k, m = k + 1 := ⟨m - 1, by omega⟩
      rw [chainLoopF] at hX
      refine ACode.block ?_
      refine ACode.seq ?_
      refine ACode.region ?_
      refine AOps.runN hT nh 1 [0, 1, 4, 5, 15] (fr' := ⟨[(0, .ptr 0 0), (1, .i (v : Int)), (4, .loc 0 0), (5, .loc 1 0), (15, .ptr 0 0)], [[.i 0, .i 0, .int .u64 0, .i 0, .str [], .str [], .slice [] 0 .exact, .i 0, .i 0], [.i e.op, .i e.bin, .int .u64 e.n, .i e.tk, .str e.tr, .str e.name, .slice (exRows e.kids) e.kids.length .no, .i e.line, .i e.col]], [], [], 0⟩) (σ' := [psAV lo l s1]) (ob := Tt 2) (by kernel_rfl) (tt 2) ?_
      have nk8 : peekF l s1 ≠ .out := by intro h9; simp only [h9, R.out_bind] at hX; exact hne hX.symm
      refine AOps.call (fid := 40) (cap := []) (avs := [.ptr 0 0]) (by kernel_rfl) rfl (by kernel_rfl) (by kernel_rfl) en_40 (by kernel_rfl) (ACalls.mono (p_peek l lo hll s1 nk8) ?_)
      cases k8 : peekF l s1 with
      | out => exact absurd k8 nk8
      | bad ea eb ec =>
        rintro _ _ ⟨rfl, pp, dd, rfl⟩
        simp only [k8, R.bad_bind] at hX
        subst hX
        exact PR.bad_intro (vAV := fun (e : Ex) => .agg (exAV e)) pp dd rfl rfl
      | ok v9 s10 =>
        rintro _ _ ⟨rfl, rfl⟩
        simp only [k8, R.ok_bind] at hX
        have hx8 : ¬ 8192 < v9.text.length := by intro h9; rw [if_pos h9] at hX; exact hne hX.symm
        rw [if_neg hx8] at hX
        refine AOps.runN hT nh 2 [0, 1, 4, 5, 6] (fr' := ⟨[(0, .ptr 0 0), (1, .i (v : Int)), (4, .loc 0 0), (5, .loc 1 0), (6, .loc 2 0)], [[.i 0, .i 0, .int .u64 0, .i 0, .str [], .str [], .slice [] 0 .exact, .i 0, .i 0], [.i e.op, .i e.bin, .int .u64 e.n, .i e.tk, .str e.tr, .str e.name, .slice (exRows e.kids) e.kids.length .no, .i e.line, .i e.col], [.i v9.kind, .str v9.text, .int .u64 v9.n, .i v9.line, .i v9.col]], [], [], 0⟩) (σ' := [psAV lo l s10]) (ob := Tt 3) (by kernel_rfl) (tt 3) ?_
        refine AOps.nil ?_
        refine ACode.seq ?_
        refine ACode.seq ?_
        refine ACode.meet ⟨[(0, .ptr 0 0), (1, .i (v : Int)), (4, .loc 0 0), (5, .loc 1 0), (6, .loc 2 0), (29, .bool ((v9.kind != 5) || (!(Lib.contains (signsS v) (([32] ++ v9.text) ++ [32])))))], [[.i 0, .i 0, .int .u64 0, .i 0, .str [], .str [], .slice [] 0 .exact, .i 0, .i 0], [.i e.op, .i e.bin, .int .u64 e.n, .i e.tk, .str e.tr, .str e.name, .slice (exRows e.kids) e.kids.length .no, .i e.line, .i e.col], [.i v9.kind, .str v9.text, .int .u64 v9.n, .i v9.line, .i v9.col]], [], [], 0⟩ [psAV lo l s10] ?_ ?_
        ·
          refine ACode.draw [] 3 [] 0 (by kernel_rfl) (by kernel_rfl) ?_
          refine AAny.run hT nh (fuel := 9) [0, 1, 2, 3] [0, 1, 4, 5, 6, 20] (fz' := true) (l' := #[true, true, true, true, false, false, false, false, false, false, false, false, false]) (fr' := ⟨[(0, .ptr 0 0), (1, .i (v : Int)), (4, .loc 0 0), (5, .loc 1 0), (6, .loc 2 0), (20, .bool (v9.kind != 5))], [[.i 0, .i 0, .int .u64 0, .i 0, .str [], .str [], .slice [] 0 .exact, .i 0, .i 0], [.i e.op, .i e.bin, .int .u64 e.n, .i e.tk, .str e.tr, .str e.name, .slice (exRows e.kids) e.kids.length .no, .i e.line, .i e.col], [.i v9.kind, .str v9.text, .int .u64 v9.n, .i v9.line, .i v9.col]], [], [], 0⟩) (σ' := [psAV lo l s10]) (ob := Tt 5) (by kernel_rfl) (by kernel_rfl) (tt 5) ?_
          cases h11 : (v9.kind != 5)
          · -- v9.kind != 5 is false
            have h11k := h11; simp only [Bool.and_eq_true, Bool.or_eq_true, Bool.and_eq_false_iff, Bool.or_eq_false_iff, decide_eq_true_eq, decide_eq_false_iff_not, beq_iff_eq, bne_iff_ne, ne_eq, Bool.not_eq_true', Bool.not_eq_false', beq_eq_false_iff_ne, bne_eq_false_iff_eq] at h11k
            try simp only [h11, Bool.false_eq_true, Bool.not_true, Bool.not_false, if_true, if_false] at hX
            refine AAny.run hT nh (fuel := 4) [4, 6, 7, 8, 9] [0, 1, 4, 5, 6, 20, 21, 26] (fz' := true) (l' := #[true, true, true, true, true, false, true, true, true, true, false, false, false]) (fr' := ⟨[(0, .ptr 0 0), (1, .i (v : Int)), (4, .loc 0 0), (5, .loc 1 0), (6, .loc 2 0), (20, .bool false), (21, .i (v : Int)), (26, .str (([32] ++ v9.text) ++ [32]))], [[.i 0, .i 0, .int .u64 0, .i 0, .str [], .str [], .slice [] 0 .exact, .i 0, .i 0], [.i e.op, .i e.bin, .int .u64 e.n, .i e.tk, .str e.tr, .str e.name, .slice (exRows e.kids) e.kids.length .no, .i e.line, .i e.col], [.i v9.kind, .str v9.text, .int .u64 v9.n, .i v9.line, .i v9.col]], [], [], 0⟩) (σ' := [psAV lo l s10]) (ob := True ∧ True ∧ True ∧ (((([32] : List UInt8).length + (v9.text : List UInt8).length : Nat) : Int) ≤ 9223372036854775807) ∧ ((((([32] ++ v9.text) : List UInt8).length + ([32] : List UInt8).length : Nat) : Int) ≤ 9223372036854775807) ∧ True) (by kernel_rfl) (by kernel_rfl) ⟨trivial, trivial, trivial, (by first | omega | (simp only [List.length_append, List.length_cons, List.length_nil]; omega)), (by first | omega | (simp only [List.length_append, List.length_cons, List.length_nil]; omega)), trivial⟩ ?_
            refine AAny.call (fuel := 3) (i := 5) (fid := 104) (cap := []) (avs := [.i (v : Int)]) rfl (by kernel_rfl) (by kernel_rfl) (by kernel_rfl) (by kernel_rfl) rfl (by kernel_rfl) en_104 (by kernel_rfl) (ACalls.mono (signs_walk v (by omega) _) ?_) (by kernel_rfl)
            rintro _ _ ⟨rfl, rfl⟩
            refine AAny.call (fuel := 2) (i := 10) (fid := 22) (cap := []) (avs := [.str (signsS v), .str (([32] ++ v9.text) ++ [32])]) rfl (by kernel_rfl) (by kernel_rfl) (by kernel_rfl) (by kernel_rfl) rfl (by kernel_rfl) en_22 (by kernel_rfl) (ACalls.mono (contains_walk (signsS v) (([32] ++ v9.text) ++ [32]) (signsS_len v) _) ?_) (by kernel_rfl)
            rintro _ _ ⟨rfl, rfl⟩
            refine AAny.run hT nh (fuel := 0) [11, 12] [0, 1, 4, 5, 6, 29] (fz' := false) (l' := #[true, true, true, true, true, true, true, true, true, true, true, true, true]) (fr' := ⟨[(0, .ptr 0 0), (1, .i (v : Int)), (4, .loc 0 0), (5, .loc 1 0), (6, .loc 2 0), (29, .bool (!(Lib.contains (signsS v) (([32] ++ v9.text) ++ [32]))))], [[.i 0, .i 0, .int .u64 0, .i 0, .str [], .str [], .slice [] 0 .exact, .i 0, .i 0], [.i e.op, .i e.bin, .int .u64 e.n, .i e.tk, .str e.tr, .str e.name, .slice (exRows e.kids) e.kids.length .no, .i e.line, .i e.col], [.i v9.kind, .str v9.text, .int .u64 v9.n, .i v9.line, .i v9.col]], [], [], 0⟩) (σ' := [psAV lo l s10]) (ob := Tt 3) (by kernel_rfl) (by kernel_rfl) (tt 3) ?_
            refine AAny.done (by kernel_rfl) ?_
            exact ⟨rfl, rfl⟩
          · -- v9.kind != 5 is true
            have h11k := h11; simp only [Bool.and_eq_true, Bool.or_eq_true, Bool.and_eq_false_iff, Bool.or_eq_false_iff, decide_eq_true_eq, decide_eq_false_iff_not, beq_iff_eq, bne_iff_ne, ne_eq, Bool.not_eq_true', Bool.not_eq_false', beq_eq_false_iff_ne, bne_eq_false_iff_eq] at h11k
            try simp only [h11, Bool.false_eq_true, Bool.not_true, Bool.not_false, if_true, if_false] at hX
            refine AAny.run hT nh (fuel := 0) [4, 6, 7, 8, 9, 5, 10, 11, 12] [0, 1, 4, 5, 6, 29] (fz' := true) (l' := #[true, true, true, true, true, true, true, true, true, true, true, true, true]) (fr' := ⟨[(0, .ptr 0 0), (1, .i (v : Int)), (4, .loc 0 0), (5, .loc 1 0), (6, .loc 2 0), (29, .bool true)], [[.i 0, .i 0, .int .u64 0, .i 0, .str [], .str [], .slice [] 0 .exact, .i 0, .i 0], [.i e.op, .i e.bin, .int .u64 e.n, .i e.tk, .str e.tr, .str e.name, .slice (exRows e.kids) e.kids.length .no, .i e.line, .i e.col], [.i v9.kind, .str v9.text, .int .u64 v9.n, .i v9.line, .i v9.col]], [], [], 0⟩) (σ' := [psAV lo l s10]) (ob := Tt 10) (by kernel_rfl) (by kernel_rfl) (tt 10) ?_
            refine AAny.done (by kernel_rfl) ?_
            exact ⟨rfl, rfl⟩
        -- on
        refine ACode.cond (t := (v9.kind != 5) || (!(Lib.contains (signsS v) (([32] ++ v9.text) ++ [32])))) (by kernel_rfl) (fun h12 => ?_) (fun h12 => ?_)
        · -- true
          have h12k := h12; simp only [Bool.and_eq_true, Bool.or_eq_true, Bool.and_eq_false_iff, Bool.or_eq_false_iff, decide_eq_true_eq, decide_eq_false_iff_not, beq_iff_eq, bne_iff_ne, ne_eq, Bool.not_eq_true', Bool.not_eq_false', beq_eq_false_iff_ne, bne_eq_false_iff_eq] at h12k
          try simp only [h12, Bool.false_eq_true, Bool.not_true, Bool.not_false, if_true, if_false] at hX
          refine ACode.seq ?_
          refine ACode.run hT nh [4] (fr' := ⟨[(4, .loc 0 0)], [[.i e.op, .i e.bin, .int .u64 e.n, .i e.tk, .str e.tr, .str e.name, .slice (exRows e.kids) e.kids.length .no, .i e.line, .i e.col], [.i e.op, .i e.bin, .int .u64 e.n, .i e.tk, .str e.tr, .str e.name, .slice (exRows e.kids) e.kids.length .no, .i e.line, .i e.col], [.i v9.kind, .str v9.text, .int .u64 v9.n, .i v9.line, .i v9.col]], [], [], 0⟩) (σ' := [psAV lo l s10]) (ob := Tt 3) (by kernel_rfl) (tt 3) ?_
          refine ACode.ret ?_
          refine retQ.ret (.agg [.i e.op, .i e.bin, .int .u64 e.n, .i e.tk, .str e.tr, .str e.name, .slice (exRows e.kids) e.kids.length .no, .i e.line, .i e.col]) (by kernel_rfl) ?_
          subst hX
          exact PR.ok_intro rfl rfl
        · -- false
          have h12k := h12; simp only [Bool.and_eq_true, Bool.or_eq_true, Bool.and_eq_false_iff, Bool.or_eq_false_iff, decide_eq_true_eq, decide_eq_false_iff_not, beq_iff_eq, bne_iff_ne, ne_eq, Bool.not_eq_true', Bool.not_eq_false', beq_eq_false_iff_ne, bne_eq_false_iff_eq] at h12k
          try simp only [h12, Bool.false_eq_true, Bool.not_true, Bool.not_false, if_true, if_false] at hX
          refine ACode.skip ?_
          refine ACode.seq ?_
          refine ACode.region ?_
          refine AOps.runN hT nh 1 [0, 1, 4, 5, 6, 31] (fr' := ⟨[(0, .ptr 0 0), (1, .i (v : Int)), (4, .loc 0 0), (5, .loc 1 0), (6, .loc 2 0), (31, .ptr 0 0)], [[.i 0, .i 0, .int .u64 0, .i 0, .str [], .str [], .slice [] 0 .exact, .i 0, .i 0], [.i e.op, .i e.bin, .int .u64 e.n, .i e.tk, .str e.tr, .str e.name, .slice (exRows e.kids) e.kids.length .no, .i e.line, .i e.col], [.i v9.kind, .str v9.text, .int .u64 v9.n, .i v9.line, .i v9.col]], [], [], 0⟩) (σ' := [psAV lo l s10]) (ob := Tt 2) (by kernel_rfl) (tt 2) ?_
          have nk13 : nextF l s10 ≠ .out := by intro h9; simp only [h9, R.out_bind] at hX; exact hne hX.symm
          refine AOps.call (fid := 69) (cap := []) (avs := [.ptr 0 0]) (by kernel_rfl) rfl (by kernel_rfl) (by kernel_rfl) en_69 (by kernel_rfl) (ACalls.mono (p_next l lo hll s10 nk13) ?_)
          cases k13 : nextF l s10 with
          | out => exact absurd k13 nk13
          | bad ea eb ec =>
            rintro _ _ ⟨rfl, pp, dd, rfl⟩
            simp only [k13, R.bad_bind] at hX
            subst hX
            exact PR.bad_intro (vAV := fun (e : Ex) => .agg (exAV e)) pp dd rfl rfl
          | ok v14 s15 =>
            rintro _ _ ⟨rfl, rfl⟩
            simp only [k13, R.ok_bind] at hX
            refine AOps.nil ?_
            refine ACode.seq ?_
            refine ACode.draw [(14, 1)] 3 [] 0 (by kernel_rfl) (by kernel_rfl) ?_
            refine AAny.run hT nh (fuel := 5) [0, 1, 3, 4, 5, 6, 9, 10, 11, 12] [0, 1, 4, 5, 34, 36, 37, 39, 43, 45] (fz' := true) (l' := #[true, true, false, true, true, true, true, false, false, true, true, true, true, false, false]) (fr' := ⟨[(0, .ptr 0 0), (1, .i (v : Int)), (4, .loc 0 0), (5, .loc 1 0), (34, .str v9.text), (36, .agg [.i e.op, .i e.bin, .int .u64 e.n, .i e.tk, .str e.tr, .str e.name, .slice (exRows e.kids) e.kids.length .no, .i e.line, .i e.col]), (37, .ptr 0 0), (39, .i (IntKind.i64.wrap ((v : Int) + 1))), (43, .i v9.line), (45, .i v9.col)], [[.i 0, .i 0, .int .u64 0, .i 0, .str [], .str [], .slice [] 0 .exact, .i 0, .i 0], [.i e.op, .i e.bin, .int .u64 e.n, .i e.tk, .str e.tr, .str e.name, .slice (exRows e.kids) e.kids.length .no, .i e.line, .i e.col], [.i v9.kind, .str v9.text, .int .u64 v9.n, .i v9.line, .i v9.col]], [], [], 0⟩) (σ' := [psAV lo l s15]) (ob := Tt 11) (by kernel_rfl) (by kernel_rfl) (tt 11) ?_
            rw [IntWalk.i64_in ((v : Int) + 1) (by omega)]
            refine AAny.call (fuel := 4) (i := 2) (fid := 105) (cap := []) (avs := [.str v9.text]) rfl (by kernel_rfl) (by kernel_rfl) (by kernel_rfl) (by kernel_rfl) rfl (by kernel_rfl) en_105 (by kernel_rfl) (ACalls.mono (bin_walk v9.text _) ?_) (by kernel_rfl)
            rintro _ _ ⟨rfl, rfl⟩
            have nk16 : chainF m l (v + 1) s15 ≠ .out := by intro h9; simp only [h9, R.out_bind] at hX; exact hne hX.symm
            refine AAny.call (fuel := 3) (i := 7) (fid := 93) (cap := []) (avs := [.ptr 0 0, .i ((v : Int) + 1)]) rfl (by kernel_rfl) (by kernel_rfl) (by kernel_rfl) (by kernel_rfl) rfl (by kernel_rfl) en_93 (by kernel_rfl) (ACalls.mono ((ih m (by omega)).chain (v + 1) s15 nk16) ?_) (by kernel_rfl)
            cases k16 : chainF m l (v + 1) s15 with
            | out => exact absurd k16 nk16
            | bad ea eb ec =>
              rintro _ _ ⟨rfl, pp, dd, rfl⟩
              simp only [k16, R.bad_bind] at hX
              subst hX
              exact PR.bad_intro (vAV := fun (e : Ex) => .agg (exAV e)) pp dd rfl rfl
            | ok v17 s18 =>
              rintro _ _ ⟨rfl, rfl⟩
              simp only [k16, R.ok_bind] at hX
              refine AAny.run hT nh (fuel := 0) [8, 13, 14] [0, 1, 4, 5] (fz' := false) (l' := #[true, true, true, true, true, true, true, true, true, true, true, true, true, true, true]) (fr' := ⟨[(0, .ptr 0 0), (1, .i (v : Int)), (4, .loc 0 0), (5, .loc 1 0)], [[.i 0, .i 0, .int .u64 0, .i 0, .str [], .str [], .slice [] 0 .exact, .i 0, .i 0], [.i 9, .i (binS v9.text), .int .u64 0, .i 0, .str [], .str [], .slice [.i e.op, .i e.bin, .int .u64 e.n, .i e.tk, .str e.tr, .str e.name, .slice (exRows e.kids) e.kids.length .no, .i e.line, .i e.col, .i v17.op, .i v17.bin, .int .u64 v17.n, .i v17.tk, .str v17.tr, .str v17.name, .slice (exRows v17.kids) v17.kids.length .no, .i v17.line, .i v17.col] 2 .exact, .i v9.line, .i v9.col], [.i v9.kind, .str v9.text, .int .u64 v9.n, .i v9.line, .i v9.col]], [], [], 0⟩) (σ' := [psAV lo l s18]) (ob := Tt 4) (by kernel_rfl) (by kernel_rfl) (tt 4) ?_
              refine AAny.done (by kernel_rfl) ?_
              rw [show ([.i e.op, .i e.bin, .int .u64 e.n, .i e.tk, .str e.tr, .str e.name, .slice (exRows e.kids) e.kids.length .no, .i e.line, .i e.col, .i v17.op, .i v17.bin, .int .u64 v17.n, .i v17.tk, .str v17.tr, .str v17.name, .slice (exRows v17.kids) v17.kids.length .no, .i v17.line, .i v17.col] : List AV) = exRows [e, v17] from (exRows_two e v17).symm]
              refine ACode.softBx 1 ?_
              refine ACode.seq ?_
              refine ACode.run hT nh [0, 1, 4, 5, 48] (fr' := ⟨[(0, .ptr 0 0), (1, .i (v : Int)), (4, .loc 0 0), (5, .loc 1 0), (48, .bool ((v : Int) == 0))], [[.i 0, .i 0, .int .u64 0, .i 0, .str [], .str [], .slice [] 0 .exact, .i 0, .i 0], [.i 9, .i (binS v9.text), .int .u64 0, .i 0, .str [], .str [], .slice (exRows [e, v17]) 2 .no, .i v9.line, .i v9.col], [.i v9.kind, .str v9.text, .int .u64 v9.n, .i v9.line, .i v9.col]], [], [], 0⟩) (σ' := [psAV lo l s18]) (ob := Tt 3) (by kernel_rfl) (tt 3) ?_
              refine ACode.cond (t := (v : Int) == 0) (by kernel_rfl) (fun h19 => ?_) (fun h19 => ?_)
              · -- true
                have h19k := eq_of_beq h19
                try simp only [h19, Bool.false_eq_true, Bool.not_true, Bool.not_false, if_true, if_false] at hX
                refine ACode.seq ?_
                refine ACode.run hT nh [4] (fr' := ⟨[(4, .loc 0 0)], [[.i 9, .i (binS v9.text), .int .u64 0, .i 0, .str [], .str [], .slice (exRows [e, v17]) 2 .no, .i v9.line, .i v9.col], [.i 9, .i (binS v9.text), .int .u64 0, .i 0, .str [], .str [], .slice (exRows [e, v17]) 2 .no, .i v9.line, .i v9.col], [.i v9.kind, .str v9.text, .int .u64 v9.n, .i v9.line, .i v9.col]], [], [], 0⟩) (σ' := [psAV lo l s18]) (ob := Tt 3) (by kernel_rfl) (tt 3) ?_
                refine ACode.ret ?_
                refine retQ.ret (.agg [.i 9, .i (binS v9.text), .int .u64 0, .i 0, .str [], .str [], .slice (exRows [e, v17]) 2 .no, .i v9.line, .i v9.col]) (by kernel_rfl) ?_
                subst hX
                exact PR.ok_intro rfl rfl
              · -- false
                have h19k := ne_of_beq_false h19
                try simp only [h19, Bool.false_eq_true, Bool.not_true, Bool.not_false, if_true, if_false] at hX
                refine ACode.skip ?_
                refine ⟨by kernel_rfl, _, ?_, m, ⟨9, binS v9.text, 0, 0, [], [], [e, v17], v9.line, v9.col⟩, s18, rfl, rfl, ?_, rfl⟩
                · omega
                · exact ⟨by omega, hX⟩


end Go.AE

