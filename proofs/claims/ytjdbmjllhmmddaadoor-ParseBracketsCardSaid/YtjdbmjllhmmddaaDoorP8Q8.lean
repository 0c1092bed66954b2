/- Parts of the proof of a law, in build order: W5, W6, W7, W8, P8. -/
import Derived.Test.YtjdbmjllhmmddaaDoorP8Q7
import Derived.IntWalk
set_option maxRecDepth 2000
set_option linter.unusedVariables false
set_option linter.unusedSimpArgs false
set_option linter.unusedVariables false
set_option linter.unusedSimpArgs false
set_option maxRecDepth 4000
namespace Go.AE
open Go.Proofs

theorem skip_rd (r : Rd) (n : Nat) (hok : RdOK r) (hn : n ≤ r.rest.length) : ACalls Tryd.prog 33 [.ptr 0 0, .i (n : Int)] [[.str r.rest, .i r.line, .i r.col]] (fun e s => s = [rdAV (skipS n r)] ∧ e = .ret (.str (r.rest.take n))) := by
  obtain ⟨h1, h2, h3, h4, h5⟩ := hok
  exact skip_walk r.rest r.line r.col n hn h2 (by omega) h1 (by omega)

theorem u8_back (b : UInt8) : ((b.toNat : Int)).toNat.toUInt8 = b := by
  simp

theorem pu10_bd (s : List UInt8) : 0 ≤ (pu10 s).1 ∧ (pu10 s).1 < 18446744073709551616 := by
  have := puS_bd 10 1844674407370955162 9223372036854775807 (by omega) (by omega) s
  unfold pu10; omega

theorem wordN_le (l : List UInt8) : wordN l ≤ l.length := takeWhile_le _ _
theorem lineN_le (l : List UInt8) : lineN l ≤ l.length := takeWhile_le _ _

theorem isWord_walk0 (t : List UInt8) (σ : St) (ht : t.length ≤ 9000) : ACalls Tryd.prog 12 [.str t] σ (fun e s => σ = s ∧ e = .ret (.bool (isWordS t))) := by
  refine ACalls.enter hT Tryd.func12 rfl (by kernel_rfl) ?_
  refine ACode.seq ?_
  refine ACode.run hT nh [0] (fr' := ⟨[(0, .str t)], [], [], [], 0⟩) (σ' := σ) (ob := Tt 2) (by kernel_rfl) (tt 2) ?_
  refine ACode.seq ?_
  refine ACode.meet ⟨[(2, .bool ((!(t == [])) && ((!(decide (0 ≤ Lib.indexByte t 32))) && (Lib.contains wordsB (([32] ++ t) ++ [32])))))], [], [], [], 0⟩ σ (ACode.region ?_) ?_
  ·
   refine AOps.runN hT nh 3 [0, 5] (fr' := ⟨[(0, .str t), (5, .bool (!(t == [])))], [], [], [], 0⟩) (σ' := σ) (ob := Tt 4) (by kernel_rfl) (tt 4) ?_
   cases h1 : (!(t == []))
   ·
    have h1k := h1; simp only [Bool.and_eq_true, Bool.or_eq_true, Bool.and_eq_false_iff, Bool.or_eq_false_iff, decide_eq_true_eq, decide_eq_false_iff_not, beq_iff_eq, bne_iff_ne, ne_eq, Bool.not_eq_true', Bool.not_eq_false', beq_eq_false_iff_ne, bne_eq_false_iff_eq] at h1k
    refine AOps.runN hT nh 11 [2] (fr' := ⟨[(2, .bool false)], [], [], [], 0⟩) (σ' := σ) (ob := Tt 5) (by kernel_rfl) (tt 5) ?_
    refine AOps.weak [2] (AOps.nil ⟨rfl, rfl⟩)
   ·
    have h1k := h1; simp only [Bool.and_eq_true, Bool.or_eq_true, Bool.and_eq_false_iff, Bool.or_eq_false_iff, decide_eq_true_eq, decide_eq_false_iff_not, beq_iff_eq, bne_iff_ne, ne_eq, Bool.not_eq_true', Bool.not_eq_false', beq_eq_false_iff_ne, bne_eq_false_iff_eq] at h1k
    refine AOps.runN hT nh 1 [0, 5, 6] (fr' := ⟨[(0, .str t), (5, .bool true), (6, .str t)], [], [], [], 0⟩) (σ' := σ) (ob := Tt 2) (by kernel_rfl) (tt 2) ?_
    refine AOps.call (fid := 22) (cap := []) (avs := [.str t, .str [32]]) (by kernel_rfl) rfl (by kernel_rfl) (by kernel_rfl) en_22 (by kernel_rfl) (ACalls.mono (contains1_walk t 32 _) ?_)
    rintro _ _ ⟨rfl, rfl⟩
    refine AOps.runN hT nh 3 [0, 10] (fr' := ⟨[(0, .str t), (10, .bool (!(decide (0 ≤ Lib.indexByte t 32))))], [], [], [], 0⟩) (σ' := σ) (ob := Tt 4) (by kernel_rfl) (tt 4) ?_
    cases h2 : (!(decide (0 ≤ Lib.indexByte t 32)))
    ·
     have h2k := h2; simp only [Bool.and_eq_true, Bool.or_eq_true, Bool.and_eq_false_iff, Bool.or_eq_false_iff, decide_eq_true_eq, decide_eq_false_iff_not, beq_iff_eq, bne_iff_ne, ne_eq, Bool.not_eq_true', Bool.not_eq_false', beq_eq_false_iff_ne, bne_eq_false_iff_eq] at h2k
     refine AOps.runN hT nh 6 [2] (fr' := ⟨[(2, .bool false)], [], [], [], 0⟩) (σ' := σ) (ob := Tt 3) (by kernel_rfl) (tt 3) ?_
     refine AOps.weak [2] (AOps.nil ⟨rfl, rfl⟩)
    ·
     have h2k := h2; simp only [Bool.and_eq_true, Bool.or_eq_true, Bool.and_eq_false_iff, Bool.or_eq_false_iff, decide_eq_true_eq, decide_eq_false_iff_not, beq_iff_eq, bne_iff_ne, ne_eq, Bool.not_eq_true', Bool.not_eq_false', beq_eq_false_iff_ne, bne_eq_false_iff_eq] at h2k
     refine AOps.runN hT nh 3 [10, 13] (fr' := ⟨[(10, .bool true), (13, .str (([32] ++ t) ++ [32]))], [], [], [], 0⟩) (σ' := σ) (ob := True ∧ (((([32] : List UInt8).length + (t : List UInt8).length : Nat) : Int) ≤ 9223372036854775807) ∧ ((((([32] ++ t) : List UInt8).length + ([32] : List UInt8).length : Nat) : Int) ≤ 9223372036854775807) ∧ True) (by kernel_rfl) ⟨trivial, (by simp only [List.length_append, List.length_cons, List.length_nil]; omega), (by simp only [List.length_append, List.length_cons, List.length_nil]; omega), trivial⟩ ?_
     refine AOps.call (fid := 22) (cap := []) (avs := [.str wordsB, .str (([32] ++ t) ++ [32])]) (by kernel_rfl) rfl (by kernel_rfl) (by kernel_rfl) en_22 (by kernel_rfl) (ACalls.mono (contains_walk wordsB (([32] ++ t) ++ [32]) (by decide) _) ?_)
     rintro _ _ ⟨rfl, rfl⟩
     refine AOps.runN hT nh 2 [2] (fr' := ⟨[(2, .bool (Lib.contains wordsB (([32] ++ t) ++ [32])))], [], [], [], 0⟩) (σ' := σ) (ob := Tt 3) (by kernel_rfl) (tt 3) ?_
     refine AOps.weak [2] (AOps.nil ⟨rfl, rfl⟩)
  refine ACode.ret ?_
  refine retQ.ret (.bool ((!(t == [])) && ((!(decide (0 ≤ Lib.indexByte t 32))) && (Lib.contains wordsB (([32] ++ t) ++ [32]))))) (by kernel_rfl) ?_
  refine ⟨rfl, ?_⟩
  simp only [isWordS, Bool.and_assoc]
theorem isName_walk0 (t : List UInt8) (σ : St) (ht : t.length ≤ 9000) : ACalls Tryd.prog 11 [.str t] σ (fun e s => σ = s ∧ e = .ret (.bool (isNameS t))) := by
  refine ACalls.enter hT Tryd.func11 rfl (by kernel_rfl) ?_
  refine ACode.seq ?_
  refine ACode.run hT nh [0] (fr' := ⟨[(0, .str t)], [], [], [], 0⟩) (σ' := σ) (ob := Tt 2) (by kernel_rfl) (tt 2) ?_
  refine ACode.seq ?_
  refine ACode.seq ?_
  refine ACode.run hT nh [0, 6] (fr' := ⟨[(0, .str t), (6, .iter 0)], [], [(t, 0)], [], 0⟩) (σ' := σ) (ob := Tt 3) (by kernel_rfl) (tt 3) ?_
  refine ACode.block ?_
  refine ACode.loop [0, 6] 0 1 (fun n0 fr σ' => ∃ (i : Nat), fr = ⟨[(0, .str t), (6, .iter 0)], [], [(t, i)], [], 0⟩ ∧ σ = σ' ∧ (nameF t 0 = nameF t i) ∧ n0 = t.length - i) _ (by kernel_rfl) ⟨0, rfl, rfl, rfl, rfl⟩ ?_
  rintro n0 fr σ' ⟨i, rfl, rfl, hP, rfl⟩
  refine ACode.seq ?_
  refine ACode.region ?_
  refine AOps.next (i := 0) (s := t) (p := i) rfl rfl (by kernel_rfl) (by kernel_rfl) (by kernel_rfl) (fun hp1 => ?_) (fun hp1 => ?_)
  ·
   refine AOps.runN hT nh 1 [0, 6, 7, 8] (fr' := ⟨[(0, .str t), (6, .iter 0), (7, .tuple [.bool true, .i ((i : Nat) : Int), .int .i32 (((dec t i).1 : Nat) : Int)]), (8, .bool true)], [], [(t, i + (dec t i).2)], [], 0⟩) (σ' := σ) (ob := Tt 2) (by kernel_rfl) (tt 2) ?_
   refine AOps.nil ?_
   refine ACode.seq ?_
   refine ACode.cond (t := true) (by kernel_rfl) (fun _ => ?_) (fun h => Bool.noConfusion h)
   refine ACode.skip ?_
   refine ACode.block ?_
   refine ACode.seq ?_
   refine ACode.run hT nh [0, 3, 4, 6] (fr' := ⟨[(0, .str t), (3, .i ((i : Nat) : Int)), (4, .int .i32 (((dec t i).1 : Nat) : Int)), (6, .iter 0)], [], [(t, i + (dec t i).2)], [], 0⟩) (σ' := σ) (ob := Tt 5) (by kernel_rfl) (tt 5) ?_
   refine ACode.seq ?_
   refine ACode.meet ⟨[(0, .str t), (6, .iter 0), (22, .bool ((!(letterS (((dec t i).1 : Nat) : Int))) && ((((i : Nat) : Int) == 0) || (!(digitS (((dec t i).1 : Nat) : Int))))))], [], [(t, i + (dec t i).2)], [], 0⟩ σ (ACode.region ?_) ?_
   ·
    refine AOps.runN hT nh 1 [0, 3, 4, 6, 11] (fr' := ⟨[(0, .str t), (3, .i ((i : Nat) : Int)), (4, .int .i32 (((dec t i).1 : Nat) : Int)), (6, .iter 0), (11, .int .i32 (((dec t i).1 : Nat) : Int))], [], [(t, i + (dec t i).2)], [], 0⟩) (σ' := σ) (ob := Tt 2) (by kernel_rfl) (tt 2) ?_
    refine AOps.call (fid := 20) (cap := []) (avs := [.int .i32 (((dec t i).1 : Nat) : Int)]) (by kernel_rfl) rfl (by kernel_rfl) (by kernel_rfl) en_20 (by kernel_rfl) (ACalls.mono (letter_walk (((dec t i).1 : Nat) : Int) _) ?_)
    rintro _ _ ⟨rfl, rfl⟩
    refine AOps.runN hT nh 2 [0, 3, 4, 6, 14] (fr' := ⟨[(0, .str t), (3, .i ((i : Nat) : Int)), (4, .int .i32 (((dec t i).1 : Nat) : Int)), (6, .iter 0), (14, .bool (!(letterS (((dec t i).1 : Nat) : Int))))], [], [(t, i + (dec t i).2)], [], 0⟩) (σ' := σ) (ob := Tt 3) (by kernel_rfl) (tt 3) ?_
    cases h2 : (!(letterS (((dec t i).1 : Nat) : Int)))
    ·
     have h2k := h2; simp only [Bool.and_eq_true, Bool.or_eq_true, Bool.and_eq_false_iff, Bool.or_eq_false_iff, decide_eq_true_eq, decide_eq_false_iff_not, beq_iff_eq, bne_iff_ne, ne_eq, Bool.not_eq_true', Bool.not_eq_false', beq_eq_false_iff_ne, bne_eq_false_iff_eq] at h2k
     refine AOps.runN hT nh 8 [0, 6, 15, 16, 17, 18, 19, 20, 21, 22] (fr' := ⟨[(0, .str t), (6, .iter 0), (15, .tuple []), (16, .tuple []), (17, .tuple []), (18, .tuple []), (19, .tuple []), (20, .tuple []), (21, .tuple []), (22, .bool false)], [], [(t, i + (dec t i).2)], [], 0⟩) (σ' := σ) (ob := Tt 2) (by kernel_rfl) (tt 2) ?_
     refine AOps.weak [0, 6, 22] (AOps.nil ⟨rfl, rfl⟩)
    ·
     have h2k := h2; simp only [Bool.and_eq_true, Bool.or_eq_true, Bool.and_eq_false_iff, Bool.or_eq_false_iff, decide_eq_true_eq, decide_eq_false_iff_not, beq_iff_eq, bne_iff_ne, ne_eq, Bool.not_eq_true', Bool.not_eq_false', beq_eq_false_iff_ne, bne_eq_false_iff_eq] at h2k
     refine AOps.runN hT nh 3 [0, 4, 6, 14, 15, 16, 17] (fr' := ⟨[(0, .str t), (4, .int .i32 (((dec t i).1 : Nat) : Int)), (6, .iter 0), (14, .bool true), (15, .i ((i : Nat) : Int)), (16, .bool (((i : Nat) : Int) == 0)), (17, .bool (((i : Nat) : Int) == 0))], [], [(t, i + (dec t i).2)], [], 0⟩) (σ' := σ) (ob := Tt 4) (by kernel_rfl) (tt 4) ?_
     cases h3 : (((i : Nat) : Int) == 0)
     ·
      have h3k := ne_of_beq_false h3
      refine AOps.runN hT nh 1 [0, 6, 14, 15, 16, 17, 18] (fr' := ⟨[(0, .str t), (6, .iter 0), (14, .bool true), (15, .i ((i : Nat) : Int)), (16, .bool false), (17, .bool false), (18, .int .i32 (((dec t i).1 : Nat) : Int))], [], [(t, i + (dec t i).2)], [], 0⟩) (σ' := σ) (ob := Tt 2) (by kernel_rfl) (tt 2) ?_
      refine AOps.call (fid := 21) (cap := []) (avs := [.int .i32 (((dec t i).1 : Nat) : Int)]) (by kernel_rfl) rfl (by kernel_rfl) (by kernel_rfl) en_21 (by kernel_rfl) (ACalls.mono (digit_walk (((dec t i).1 : Nat) : Int) _) ?_)
      rintro _ _ ⟨rfl, rfl⟩
      refine AOps.runN hT nh 3 [0, 6, 15, 16, 17, 18, 19, 20, 21, 22] (fr' := ⟨[(0, .str t), (6, .iter 0), (15, .i ((i : Nat) : Int)), (16, .bool false), (17, .bool false), (18, .int .i32 (((dec t i).1 : Nat) : Int)), (19, .bool (digitS (((dec t i).1 : Nat) : Int))), (20, .bool (!(digitS (((dec t i).1 : Nat) : Int)))), (21, .bool (!(digitS (((dec t i).1 : Nat) : Int)))), (22, .bool (!(digitS (((dec t i).1 : Nat) : Int))))], [], [(t, i + (dec t i).2)], [], 0⟩) (σ' := σ) (ob := Tt 4) (by kernel_rfl) (tt 4) ?_
      refine AOps.weak [0, 6, 22] (AOps.nil ⟨rfl, rfl⟩)
     ·
      have h3k := eq_of_beq h3
      refine AOps.runN hT nh 5 [0, 6, 15, 16, 17, 18, 19, 20, 21, 22] (fr' := ⟨[(0, .str t), (6, .iter 0), (15, .i ((i : Nat) : Int)), (16, .bool true), (17, .bool true), (18, .tuple []), (19, .tuple []), (20, .tuple []), (21, .bool true), (22, .bool true)], [], [(t, i + (dec t i).2)], [], 0⟩) (σ' := σ) (ob := Tt 3) (by kernel_rfl) (tt 3) ?_
      refine AOps.weak [0, 6, 22] (AOps.nil ⟨rfl, rfl⟩)
   refine ACode.cond (t := (!(letterS (((dec t i).1 : Nat) : Int))) && ((((i : Nat) : Int) == 0) || (!(digitS (((dec t i).1 : Nat) : Int))))) (by kernel_rfl) (fun h4 => ?_) (fun h4 => ?_)
   ·
    have h4k := h4; simp only [Bool.and_eq_true, Bool.or_eq_true, Bool.and_eq_false_iff, Bool.or_eq_false_iff, decide_eq_true_eq, decide_eq_false_iff_not, beq_iff_eq, bne_iff_ne, ne_eq, Bool.not_eq_true', Bool.not_eq_false', beq_eq_false_iff_ne, bne_eq_false_iff_eq] at h4k
    refine ACode.seq ?_
    refine ACode.run hT nh [2] (fr' := ⟨[(2, .bool false)], [], [(t, i + (dec t i).2)], [], 0⟩) (σ' := σ) (ob := Tt 2) (by kernel_rfl) (tt 2) ?_
    refine ACode.ret ?_
    refine retQ.ret (.bool false) (by kernel_rfl) ?_
    refine ⟨rfl, ?_⟩
    have e9 : nameF t 0 = false := by rw [hP, nameF, dif_pos hp1, if_pos h4]
    rw [nameF_eq] at e9; simp only [isNameS, e9, Bool.false_and]
   ·
    have h4k := h4; simp only [Bool.and_eq_true, Bool.or_eq_true, Bool.and_eq_false_iff, Bool.or_eq_false_iff, decide_eq_true_eq, decide_eq_false_iff_not, beq_iff_eq, bne_iff_ne, ne_eq, Bool.not_eq_true', Bool.not_eq_false', beq_eq_false_iff_ne, bne_eq_false_iff_eq] at h4k
    refine ACode.skip ?_
    refine ⟨by kernel_rfl, _, ?_, i + (dec t i).2, rfl, rfl, ?_, rfl⟩
    ·have := dec_pos t i hp1; omega
    ·rw [hP, nameF, dif_pos hp1, if_neg (by rw [h4]; decide), Nat.max_eq_right (dec_pos t i hp1)]
  ·
   refine AOps.runN hT nh 1 [0, 6, 7, 8] (fr' := ⟨[(0, .str t), (6, .iter 0), (7, .tuple [.bool false]), (8, .bool false)], [], [(t, i)], [], 0⟩) (σ' := σ) (ob := Tt 2) (by kernel_rfl) (tt 2) ?_
   refine AOps.nil ?_
   refine ACode.seq ?_
   refine ACode.cond (t := false) (by kernel_rfl) (fun h => Bool.noConfusion h) (fun _ => ?_)
   refine ACode.exit ?_
   refine ACode.seq ?_
   refine ACode.meet ⟨[(2, .bool ((!(t == [])) && (!(isWordS t))))], [], [(t, i)], [], 0⟩ σ (ACode.region ?_) ?_
   ·
    refine AOps.runN hT nh 3 [0, 25] (fr' := ⟨[(0, .str t), (25, .bool (!(t == [])))], [], [(t, i)], [], 0⟩) (σ' := σ) (ob := Tt 4) (by kernel_rfl) (tt 4) ?_
    cases h5 : (!(t == []))
    ·
     have h5k := h5; simp only [Bool.and_eq_true, Bool.or_eq_true, Bool.and_eq_false_iff, Bool.or_eq_false_iff, decide_eq_true_eq, decide_eq_false_iff_not, beq_iff_eq, bne_iff_ne, ne_eq, Bool.not_eq_true', Bool.not_eq_false', beq_eq_false_iff_ne, bne_eq_false_iff_eq] at h5k
     refine AOps.runN hT nh 5 [2] (fr' := ⟨[(2, .bool false)], [], [(t, i)], [], 0⟩) (σ' := σ) (ob := Tt 3) (by kernel_rfl) (tt 3) ?_
     refine AOps.weak [2] (AOps.nil ⟨rfl, rfl⟩)
    ·
     have h5k := h5; simp only [Bool.and_eq_true, Bool.or_eq_true, Bool.and_eq_false_iff, Bool.or_eq_false_iff, decide_eq_true_eq, decide_eq_false_iff_not, beq_iff_eq, bne_iff_ne, ne_eq, Bool.not_eq_true', Bool.not_eq_false', beq_eq_false_iff_ne, bne_eq_false_iff_eq] at h5k
     refine AOps.runN hT nh 1 [25, 26] (fr' := ⟨[(25, .bool true), (26, .str t)], [], [(t, i)], [], 0⟩) (σ' := σ) (ob := Tt 2) (by kernel_rfl) (tt 2) ?_
     refine AOps.call (fid := 12) (cap := []) (avs := [.str t]) (by kernel_rfl) rfl (by kernel_rfl) (by kernel_rfl) en_12 (by kernel_rfl) (ACalls.mono (isWord_walk0 t _ ht) ?_)
     rintro _ _ ⟨rfl, rfl⟩
     refine AOps.runN hT nh 3 [2] (fr' := ⟨[(2, .bool (!(isWordS t)))], [], [(t, i)], [], 0⟩) (σ' := σ) (ob := Tt 4) (by kernel_rfl) (tt 4) ?_
     refine AOps.weak [2] (AOps.nil ⟨rfl, rfl⟩)
   refine ACode.ret ?_
   refine retQ.ret (.bool ((!(t == [])) && (!(isWordS t)))) (by kernel_rfl) ?_
   refine ⟨rfl, ?_⟩
   have e9 : nameF t 0 = true := by rw [hP, nameF, dif_neg (by omega)]
   rw [nameF_eq] at e9; simp only [isNameS, e9, Bool.true_and]
theorem len1 {l : List UInt8} (h : l ≠ []) : 1 ≤ l.length := by
  cases l with
  | nil => exact absurd rfl h
  | cons _ _ => simp

theorem blank_walk (r0 : Rd) (hok0 : RdOK r0) : ACalls Tryd.prog 26 [.ptr 0 0] [[.str r0.rest, .i r0.line, .i r0.col]] (fun e s => s = [rdAV (blankS r0)] ∧ e = .ret (.tuple [])) := by
  refine ACalls.enter hT Tryd.func26 rfl (by kernel_rfl) ?_
  refine ACode.scope ?_
  refine ACode.seq ?_
  refine ACode.label ?_
  refine ACode.block ?_
  refine ACode.loop [0] 0 0 (fun n0 fr σ' => ∃ (k : Nat), ∃ (r : Rd), fr = ⟨[(0, .ptr 0 0)], [], [], [], 0⟩ ∧ σ' = [[.str r.rest, .i r.line, .i r.col]] ∧ (RdOK r ∧ r.rest.length ≤ k ∧ blankS r0 = blankF k r) ∧ n0 = r.rest.length) _ (by kernel_rfl) ⟨r0.rest.length, r0, rfl, rfl, ⟨hok0, Nat.le_refl _, rfl⟩, rfl⟩ ?_
  rintro n0 fr σ' ⟨k, r, rfl, rfl, ⟨hok, hk, hP⟩, rfl⟩
  refine ACode.seq ?_
  refine ACode.seq ?_
  refine ACode.run hT nh [0, 6] (fr' := ⟨[(0, .ptr 0 0), (6, .bool (!(r.rest == [])))], [], [], [], 0⟩) (σ' := [[.str r.rest, .i r.line, .i r.col]]) (ob := Tt 6) (by kernel_rfl) (tt 6) ?_
  refine ACode.cond (t := !(r.rest == [])) (by kernel_rfl) (fun h1 => ?_) (fun h1 => ?_)
  ·
   have hne : r.rest ≠ [] := by simpa using h1
   refine ACode.skip ?_
   refine ACode.block ?_
   refine ACode.block ?_
   refine ACode.seq ?_
   refine ACode.region ?_
   refine AOps.runN hT nh 4 [0, 11] (fr' := ⟨[(0, .ptr 0 0), (11, .str r.rest)], [], [], [], 0⟩) (σ' := [[.str r.rest, .i r.line, .i r.col]]) (ob := Tt 5) (by kernel_rfl) (tt 5) ?_
   refine AOps.call (fid := 32) (cap := []) (avs := [.str r.rest, .str [47, 47]]) (by kernel_rfl) rfl (by kernel_rfl) (by kernel_rfl) en_32 (by kernel_rfl) (ACalls.mono (hasPrefix_walk r.rest [47, 47] _) ?_)
   rintro _ _ ⟨rfl, rfl⟩
   refine AOps.runN hT nh 1 [0, 7] (fr' := ⟨[(0, .ptr 0 0), (7, .bool ([47, 47].isPrefixOf r.rest))], [], [], [], 0⟩) (σ' := [[.str r.rest, .i r.line, .i r.col]]) (ob := Tt 2) (by kernel_rfl) (tt 2) ?_
   refine AOps.nil ?_
   refine ACode.cond (t := [47, 47].isPrefixOf r.rest) (by kernel_rfl) (fun h2 => ?_) (fun h2 => ?_)
   ·
    refine ACode.region ?_
    refine AOps.runN hT nh 2 [0, 13, 14] (fr' := ⟨[(0, .ptr 0 0), (13, .ptr 0 0), (14, .ptr 0 0)], [], [], [], 0⟩) (σ' := [[.str r.rest, .i r.line, .i r.col]]) (ob := Tt 3) (by kernel_rfl) (tt 3) ?_
    refine AOps.call (fid := 34) (cap := []) (avs := [.ptr 0 0, .func 35 []]) (by kernel_rfl) rfl (by kernel_rfl) (by kernel_rfl) en_34 (by kernel_rfl) (ACalls.mono (run_walk 35 (fun c => c != 10) en_35 notLF_walk r.rest r.line r.col) ?_)
    rintro _ _ ⟨rfl, rfl⟩
    rw [runF_line]
    refine AOps.call (fid := 33) (cap := []) (avs := [.ptr 0 0, .i (lineN r.rest : Int)]) (by kernel_rfl) rfl (by kernel_rfl) (by kernel_rfl) en_33 (by kernel_rfl) (ACalls.mono (skip_rd r (lineN r.rest) hok (lineN_le _)) ?_)
    rintro _ _ ⟨rfl, rfl⟩
    refine AOps.nil ?_
    refine ⟨by kernel_rfl, _, ?_, k - 1, skipS (lineN r.rest) r, rfl, rfl, ?_, rfl⟩
    ·have hp := lineN_pos h2; have h8 := lineN_le r.rest; simp only [skipS, List.length_drop]; omega
    ·have hp := lineN_pos h2
     have h8 := lineN_le r.rest
     have hk9 : k = (k - 1) + 1 := by omega
     refine ⟨skipS_ok hok (lineN_le r.rest), by simp only [skipS, List.length_drop]; omega, ?_⟩
     rw [hP, hk9, blankF, if_neg hne, if_pos h2, Nat.add_sub_cancel]
   ·
    refine ACode.seq ?_
    refine ACode.region ?_
    refine AOps.runN hT nh 5 [0, 22] (fr' := ⟨[(0, .ptr 0 0), (22, .int .u8 ((r.rest.getD 0 0).toNat : Int))], [], [], [], 0⟩) (σ' := [[.str r.rest, .i r.line, .i r.col]]) (ob := True ∧ True ∧ True ∧ True ∧ (0 ≤ (0 : Int) ∧ (0 : Int) < ((r.rest) : List UInt8).length) ∧ True) (by kernel_rfl) ⟨trivial, trivial, trivial, trivial, (by have := len1 hne; omega), trivial⟩ ?_
    refine AOps.call (fid := 36) (cap := []) (avs := [.str [32, 9, 13, 10], .int .u8 ((r.rest.getD 0 0).toNat : Int)]) (by kernel_rfl) rfl (by kernel_rfl) (by kernel_rfl) en_36 (by kernel_rfl) (ACalls.mono (indexByte_walk [32, 9, 13, 10] ((r.rest.getD 0 0).toNat : Int) _) ?_)
    rintro _ _ ⟨rfl, rfl⟩
    refine AOps.runN hT nh 2 [0, 17] (fr' := ⟨[(0, .ptr 0 0), (17, .bool (decide ((Lib.indexByte [32, 9, 13, 10] (((r.rest.getD 0 0).toNat : Int) : Int).toNat.toUInt8) ≥ 0)))], [], [], [], 0⟩) (σ' := [[.str r.rest, .i r.line, .i r.col]]) (ob := Tt 3) (by kernel_rfl) (tt 3) ?_
    refine AOps.nil ?_
    refine ACode.cond (t := decide ((Lib.indexByte [32, 9, 13, 10] (((r.rest.getD 0 0).toNat : Int) : Int).toNat.toUInt8) ≥ 0)) (by kernel_rfl) (fun h3 => ?_) (fun h3 => ?_)
    ·
     have h3k := of_decide_eq_true h3
     refine ACode.region ?_
     refine AOps.runN hT nh 1 [0, 25] (fr' := ⟨[(0, .ptr 0 0), (25, .ptr 0 0)], [], [], [], 0⟩) (σ' := [[.str r.rest, .i r.line, .i r.col]]) (ob := Tt 2) (by kernel_rfl) (tt 2) ?_
     refine AOps.call (fid := 33) (cap := []) (avs := [.ptr 0 0, .i 1]) (by kernel_rfl) rfl (by kernel_rfl) (by kernel_rfl) en_33 (by kernel_rfl) (ACalls.mono (skip_rd r 1 hok (by have := len1 hne; omega)) ?_)
     rintro _ _ ⟨rfl, rfl⟩
     refine AOps.nil ?_
     refine ⟨by kernel_rfl, _, ?_, k - 1, skipS 1 r, rfl, rfl, ?_, rfl⟩
     ·have hp : 1 ≤ 1 := Nat.le_refl 1; have h8 := len1 hne; simp only [skipS, List.length_drop]; omega
     ·have hp : 1 ≤ 1 := Nat.le_refl 1
      have h8 := len1 hne
      have hk9 : k = (k - 1) + 1 := by omega
      refine ⟨skipS_ok hok (len1 hne), by simp only [skipS, List.length_drop]; omega, ?_⟩
      rw [hP, hk9, blankF, if_neg hne, if_neg (by rw [h2]; decide), if_pos (by unfold blankB; rw [u8_back] at h3; exact h3), Nat.add_sub_cancel]
    ·
     have h3k := of_decide_eq_false h3
     refine ACode.exit ?_
     refine retQ.fall (.tuple []) (by kernel_rfl) ?_
     refine ⟨?_, rfl⟩
     have hk9 : k = (k - 1) + 1 := by have := len1 hne; omega
     rw [hP, hk9, blankF, if_neg hne, if_neg (by rw [h2]; decide), if_neg (by unfold blankB; rw [u8_back] at h3; rw [h3]; decide)]
     rfl
  ·
   refine ACode.exit ?_
   refine retQ.fall (.tuple []) (by kernel_rfl) ?_
   refine ⟨?_, rfl⟩
   have hne : r.rest = [] := by simpa using h1
   rw [hP]
   cases k with
   | zero => rfl
   | succ k => rw [blankF, if_pos hne]; rfl

end Go.AE

set_option linter.unusedVariables false
set_option linter.unusedSimpArgs false
set_option maxRecDepth 4000
namespace Go.AE
open Go.Proofs

theorem word_walk (r : Rd) (hok : RdOK r) : ACalls Tryd.prog 37 [.ptr 0 0] [[.str r.rest, .i r.line, .i r.col]] (fun e s => s = [rdAV (skipS (wordN r.rest) r)] ∧ e = .ret (.tuple [.agg (tokAV (wordT r).1), .bool (wordT r).2])) := by
  refine ACalls.enter hT Tryd.func37 rfl (by kernel_rfl) ?_
  have hlen : (r.rest.take (wordN r.rest)).length ≤ 9000 := by have := hok.2.2.2.2; simp only [List.length_take]; omega
  refine ACode.seq ?_
  refine ACode.run hT nh [0, 2] (fr' := ⟨[(0, .ptr 0 0), (2, .loc 0 0)], [[.i 0, .str [], .int .u64 0, .i 0, .i 0]], [], [], 0⟩) (σ' := [[.str r.rest, .i r.line, .i r.col]]) (ob := Tt 3) (by kernel_rfl) (tt 3) ?_
  refine ACode.seq ?_
  refine ACode.draw [(10, 1)] 1 [] 1 (by kernel_rfl) (by kernel_rfl) ?_
  refine AAny.run hT nh (fuel := 0) [0, 1, 2, 3, 4, 5, 6, 7, 8, 9, 10] [0, 2, 4] (fz' := false) (l' := #[true, true, true, true, true, true, true, true, true, true, true]) (fr' := ⟨[(0, .ptr 0 0), (2, .loc 0 0), (4, .loc 1 0)], [[.i 0, .str [], .int .u64 0, .i 0, .i 0], [.i 0, .str [], .int .u64 0, .i r.line, .i r.col]], [], [], 0⟩) (σ' := [[.str r.rest, .i r.line, .i r.col]]) (ob := Tt 12) (by kernel_rfl) (by kernel_rfl) (tt 12) ?_
  refine AAny.done (by kernel_rfl) ?_
  refine ACode.seq ?_
  refine ACode.region ?_
  refine AOps.runN hT nh 2 [2, 4, 16, 17] (fr' := ⟨[(2, .loc 0 0), (4, .loc 1 0), (16, .ptr 0 0), (17, .ptr 0 0)], [[.i 0, .str [], .int .u64 0, .i 0, .i 0], [.i 0, .str [], .int .u64 0, .i r.line, .i r.col]], [], [], 0⟩) (σ' := [[.str r.rest, .i r.line, .i r.col]]) (ob := Tt 3) (by kernel_rfl) (tt 3) ?_
  refine AOps.call (fid := 34) (cap := []) (avs := [.ptr 0 0, .func 51 []]) (by kernel_rfl) rfl (by kernel_rfl) (by kernel_rfl) en_34 (by kernel_rfl) (ACalls.mono (run_walk 51 wordS en_51 word1_walk r.rest r.line r.col) ?_)
  rintro _ _ ⟨rfl, rfl⟩
  rw [runF_word]
  refine AOps.call (fid := 33) (cap := []) (avs := [.ptr 0 0, .i (wordN r.rest : Int)]) (by kernel_rfl) rfl (by kernel_rfl) (by kernel_rfl) en_33 (by kernel_rfl) (ACalls.mono (skip_rd r (wordN r.rest) hok (wordN_le _)) ?_)
  rintro _ _ ⟨rfl, rfl⟩
  refine AOps.runN hT nh 2 [2, 4] (fr' := ⟨[(2, .loc 0 0), (4, .loc 1 0)], [[.i 0, .str [], .int .u64 0, .i 0, .i 0], [.i 0, .str (r.rest.take (wordN r.rest)), .int .u64 0, .i r.line, .i r.col]], [], [], 0⟩) (σ' := [[.str ((skipS (wordN r.rest) r).rest), .i ((skipS (wordN r.rest) r).line), .i ((skipS (wordN r.rest) r).col)]]) (ob := Tt 3) (by kernel_rfl) (tt 3) ?_
  refine AOps.nil ?_
  refine ACode.seq ?_
  refine ACode.block ?_
  refine ACode.seq ?_
  refine ACode.region ?_
  refine AOps.runN hT nh 2 [2, 4, 42] (fr' := ⟨[(2, .loc 0 0), (4, .loc 1 0), (42, .str (r.rest.take (wordN r.rest)))], [[.i 0, .str [], .int .u64 0, .i 0, .i 0], [.i 0, .str (r.rest.take (wordN r.rest)), .int .u64 0, .i r.line, .i r.col]], [], [], 0⟩) (σ' := [[.str ((skipS (wordN r.rest) r).rest), .i ((skipS (wordN r.rest) r).line), .i ((skipS (wordN r.rest) r).col)]]) (ob := Tt 3) (by kernel_rfl) (tt 3) ?_
  refine AOps.call (fid := 12) (cap := []) (avs := [.str (r.rest.take (wordN r.rest))]) (by kernel_rfl) rfl (by kernel_rfl) (by kernel_rfl) en_12 (by kernel_rfl) (ACalls.mono (isWord_walk0 (r.rest.take (wordN r.rest)) _ hlen) ?_)
  rintro _ _ ⟨rfl, rfl⟩
  refine AOps.runN hT nh 1 [2, 4, 40] (fr' := ⟨[(2, .loc 0 0), (4, .loc 1 0), (40, .bool (isWordS (r.rest.take (wordN r.rest))))], [[.i 0, .str [], .int .u64 0, .i 0, .i 0], [.i 0, .str (r.rest.take (wordN r.rest)), .int .u64 0, .i r.line, .i r.col]], [], [], 0⟩) (σ' := [[.str ((skipS (wordN r.rest) r).rest), .i ((skipS (wordN r.rest) r).line), .i ((skipS (wordN r.rest) r).col)]]) (ob := Tt 2) (by kernel_rfl) (tt 2) ?_
  refine AOps.nil ?_
  refine ACode.cond (t := isWordS (r.rest.take (wordN r.rest))) (by kernel_rfl) (fun h1 => ?_) (fun h1 => ?_)
  ·
   refine ACode.run hT nh [2, 4] (fr' := ⟨[(2, .loc 0 0), (4, .loc 1 0)], [[.i 0, .str [], .int .u64 0, .i 0, .i 0], [.i 2, .str (r.rest.take (wordN r.rest)), .int .u64 0, .i r.line, .i r.col]], [], [], 0⟩) (σ' := [[.str ((skipS (wordN r.rest) r).rest), .i ((skipS (wordN r.rest) r).line), .i ((skipS (wordN r.rest) r).col)]]) (ob := Tt 3) (by kernel_rfl) (tt 3) ?_
   refine ACode.seq ?_
   refine ACode.run hT nh [2, 3] (fr' := ⟨[(2, .loc 0 0), (3, .bool true)], [[.i 2, .str (r.rest.take (wordN r.rest)), .int .u64 0, .i r.line, .i r.col], [.i 2, .str (r.rest.take (wordN r.rest)), .int .u64 0, .i r.line, .i r.col]], [], [], 0⟩) (σ' := [[.str ((skipS (wordN r.rest) r).rest), .i ((skipS (wordN r.rest) r).line), .i ((skipS (wordN r.rest) r).col)]]) (ob := Tt 4) (by kernel_rfl) (tt 4) ?_
   refine ACode.ret ?_
   refine retQ.ret (.tuple [.agg [.i 2, .str (r.rest.take (wordN r.rest)), .int .u64 0, .i r.line, .i r.col], .bool true]) (by kernel_rfl) ?_
   refine ⟨rfl, ?_⟩
   simp only [wordT, h1, if_true]
   rfl
  ·
   refine ACode.seq ?_
   refine ACode.region ?_
   refine AOps.runN hT nh 2 [2, 4, 47] (fr' := ⟨[(2, .loc 0 0), (4, .loc 1 0), (47, .str (r.rest.take (wordN r.rest)))], [[.i 0, .str [], .int .u64 0, .i 0, .i 0], [.i 0, .str (r.rest.take (wordN r.rest)), .int .u64 0, .i r.line, .i r.col]], [], [], 0⟩) (σ' := [[.str ((skipS (wordN r.rest) r).rest), .i ((skipS (wordN r.rest) r).line), .i ((skipS (wordN r.rest) r).col)]]) (ob := Tt 3) (by kernel_rfl) (tt 3) ?_
   refine AOps.call (fid := 11) (cap := []) (avs := [.str (r.rest.take (wordN r.rest))]) (by kernel_rfl) rfl (by kernel_rfl) (by kernel_rfl) en_11 (by kernel_rfl) (ACalls.mono (isName_walk0 (r.rest.take (wordN r.rest)) _ hlen) ?_)
   rintro _ _ ⟨rfl, rfl⟩
   refine AOps.runN hT nh 1 [2, 4, 45] (fr' := ⟨[(2, .loc 0 0), (4, .loc 1 0), (45, .bool (isNameS (r.rest.take (wordN r.rest))))], [[.i 0, .str [], .int .u64 0, .i 0, .i 0], [.i 0, .str (r.rest.take (wordN r.rest)), .int .u64 0, .i r.line, .i r.col]], [], [], 0⟩) (σ' := [[.str ((skipS (wordN r.rest) r).rest), .i ((skipS (wordN r.rest) r).line), .i ((skipS (wordN r.rest) r).col)]]) (ob := Tt 2) (by kernel_rfl) (tt 2) ?_
   refine AOps.nil ?_
   refine ACode.cond (t := isNameS (r.rest.take (wordN r.rest))) (by kernel_rfl) (fun h2 => ?_) (fun h2 => ?_)
   ·
    refine ACode.run hT nh [2, 4] (fr' := ⟨[(2, .loc 0 0), (4, .loc 1 0)], [[.i 0, .str [], .int .u64 0, .i 0, .i 0], [.i 1, .str (r.rest.take (wordN r.rest)), .int .u64 0, .i r.line, .i r.col]], [], [], 0⟩) (σ' := [[.str ((skipS (wordN r.rest) r).rest), .i ((skipS (wordN r.rest) r).line), .i ((skipS (wordN r.rest) r).col)]]) (ob := Tt 3) (by kernel_rfl) (tt 3) ?_
    refine ACode.seq ?_
    refine ACode.run hT nh [2, 3] (fr' := ⟨[(2, .loc 0 0), (3, .bool true)], [[.i 1, .str (r.rest.take (wordN r.rest)), .int .u64 0, .i r.line, .i r.col], [.i 1, .str (r.rest.take (wordN r.rest)), .int .u64 0, .i r.line, .i r.col]], [], [], 0⟩) (σ' := [[.str ((skipS (wordN r.rest) r).rest), .i ((skipS (wordN r.rest) r).line), .i ((skipS (wordN r.rest) r).col)]]) (ob := Tt 4) (by kernel_rfl) (tt 4) ?_
    refine ACode.ret ?_
    refine retQ.ret (.tuple [.agg [.i 1, .str (r.rest.take (wordN r.rest)), .int .u64 0, .i r.line, .i r.col], .bool true]) (by kernel_rfl) ?_
    refine ⟨rfl, ?_⟩
    simp only [wordT, h1, h2, if_true, Bool.false_eq_true, if_false]
    rfl
   ·
    refine ACode.seq ?_
    refine ACode.region ?_
    refine AOps.runN hT nh 2 [2, 4, 23] (fr' := ⟨[(2, .loc 0 0), (4, .loc 1 0), (23, .str (r.rest.take (wordN r.rest)))], [[.i 0, .str [], .int .u64 0, .i 0, .i 0], [.i 0, .str (r.rest.take (wordN r.rest)), .int .u64 0, .i r.line, .i r.col]], [], [], 0⟩) (σ' := [[.str ((skipS (wordN r.rest) r).rest), .i ((skipS (wordN r.rest) r).line), .i ((skipS (wordN r.rest) r).col)]]) (ob := Tt 3) (by kernel_rfl) (tt 3) ?_
    refine AOps.call (fid := 52) (cap := []) (avs := [.str (r.rest.take (wordN r.rest)), .i 10, .i 63]) (by kernel_rfl) rfl (by kernel_rfl) (by kernel_rfl) en_52 (by kernel_rfl) (ACalls.mono (parseUint10 (r.rest.take (wordN r.rest)) hlen _) ?_)
    rintro _ _ ⟨rfl, (⟨hr, rfl⟩ | ⟨hr, rfl⟩)⟩
    ·
     refine AOps.runN hT nh 5 [2, 4, 5, 6] (fr' := ⟨[(2, .loc 0 0), (4, .loc 1 0), (5, .int .u64 ((pu10 (r.rest.take (wordN r.rest))).1)), (6, .nilIface)], [[.i 0, .str [], .int .u64 0, .i 0, .i 0], [.i 0, .str (r.rest.take (wordN r.rest)), .int .u64 0, .i r.line, .i r.col]], [], [], 0⟩) (σ' := [[.str ((skipS (wordN r.rest) r).rest), .i ((skipS (wordN r.rest) r).line), .i ((skipS (wordN r.rest) r).col)]]) (ob := Tt 6) (by kernel_rfl) (tt 6) ?_
     refine AOps.nil ?_
     refine ACode.seq ?_
     refine ACode.run hT nh [2, 4, 5, 6] (fr' := ⟨[(2, .loc 0 0), (4, .loc 1 0), (5, .int .u64 ((pu10 (r.rest.take (wordN r.rest))).1)), (6, .nilIface)], [[.i 0, .str [], .int .u64 0, .i 0, .i 0], [.i 3, .str (r.rest.take (wordN r.rest)), .int .u64 ((pu10 (r.rest.take (wordN r.rest))).1), .i r.line, .i r.col]], [], [], 0⟩) (σ' := [[.str ((skipS (wordN r.rest) r).rest), .i ((skipS (wordN r.rest) r).line), .i ((skipS (wordN r.rest) r).col)]]) (ob := Tt 6) (by kernel_rfl) (tt 6) ?_
     refine ACode.seq ?_
     refine ACode.draw [(10, 0)] 2 [] 0 (by kernel_rfl) (by kernel_rfl) ?_
     refine AAny.run hT nh (fuel := 5) [0, 1, 2, 3, 4, 6, 7] [2, 30, 33, 34, 37] (fz' := true) (l' := #[true, true, true, true, true, false, true, true, false, false, false, false]) (fr' := ⟨[(2, .loc 0 0), (30, .agg [.i 3, .str (r.rest.take (wordN r.rest)), .int .u64 ((pu10 (r.rest.take (wordN r.rest))).1), .i r.line, .i r.col]), (33, .bool true), (34, .int .u64 ((pu10 (r.rest.take (wordN r.rest))).1)), (37, .str (r.rest.take (wordN r.rest)))], [[.i 0, .str [], .int .u64 0, .i 0, .i 0], [.i 3, .str (r.rest.take (wordN r.rest)), .int .u64 ((pu10 (r.rest.take (wordN r.rest))).1), .i r.line, .i r.col]], [], [], 0⟩) (σ' := [[.str ((skipS (wordN r.rest) r).rest), .i ((skipS (wordN r.rest) r).line), .i ((skipS (wordN r.rest) r).col)]]) (ob := Tt 8) (by kernel_rfl) (by kernel_rfl) (tt 8) ?_
     refine AAny.call (fuel := 4) (i := 5) (fid := 53) (cap := []) (avs := [.int .u64 ((pu10 (r.rest.take (wordN r.rest))).1), .i 10]) rfl (by kernel_rfl) (by kernel_rfl) (by kernel_rfl) (by kernel_rfl) rfl (by kernel_rfl) en_53 (by kernel_rfl) (ACalls.mono (fmtU_walk ((pu10 (r.rest.take (wordN r.rest))).1) (pu10_bd _).1 (pu10_bd _).2 _) ?_) (by kernel_rfl)
     rintro _ _ ⟨rfl, rfl⟩
     refine AAny.run hT nh (fuel := 0) [8, 9, 10, 11] [2, 3] (fz' := false) (l' := #[true, true, true, true, true, true, true, true, true, true, true, true]) (fr' := ⟨[(2, .loc 0 0), (3, .bool ((Lib.decDigits ((pu10 (r.rest.take (wordN r.rest))).1 : Int).toNat) == (r.rest.take (wordN r.rest))))], [[.i 3, .str (r.rest.take (wordN r.rest)), .int .u64 ((pu10 (r.rest.take (wordN r.rest))).1), .i r.line, .i r.col], [.i 3, .str (r.rest.take (wordN r.rest)), .int .u64 ((pu10 (r.rest.take (wordN r.rest))).1), .i r.line, .i r.col]], [], [], 0⟩) (σ' := [[.str ((skipS (wordN r.rest) r).rest), .i ((skipS (wordN r.rest) r).line), .i ((skipS (wordN r.rest) r).col)]]) (ob := Tt 5) (by kernel_rfl) (by kernel_rfl) (tt 5) ?_
     refine AAny.done (by kernel_rfl) ?_
     refine ACode.ret ?_
     refine retQ.ret (.tuple [.agg [.i 3, .str (r.rest.take (wordN r.rest)), .int .u64 ((pu10 (r.rest.take (wordN r.rest))).1), .i r.line, .i r.col], .bool ((Lib.decDigits ((pu10 (r.rest.take (wordN r.rest))).1 : Int).toNat) == (r.rest.take (wordN r.rest)))]) (by kernel_rfl) ?_
     refine ⟨rfl, ?_⟩
     have hr : (pu10 (r.rest.take (wordN r.rest))).2 = true := hr
     simp only [wordT, h1, h2, hr, Bool.false_eq_true, if_false, Bool.true_and, Bool.false_and]
     rfl
    ·
     refine AOps.runN hT nh 5 [2, 4, 5, 6] (fr' := ⟨[(2, .loc 0 0), (4, .loc 1 0), (5, .int .u64 ((pu10 (r.rest.take (wordN r.rest))).1)), (6, .iface 118 (.any))], [[.i 0, .str [], .int .u64 0, .i 0, .i 0], [.i 0, .str (r.rest.take (wordN r.rest)), .int .u64 0, .i r.line, .i r.col]], [], [], 0⟩) (σ' := [[.str ((skipS (wordN r.rest) r).rest), .i ((skipS (wordN r.rest) r).line), .i ((skipS (wordN r.rest) r).col)]]) (ob := Tt 6) (by kernel_rfl) (tt 6) ?_
     refine AOps.nil ?_
     refine ACode.seq ?_
     refine ACode.run hT nh [2, 4, 5, 6] (fr' := ⟨[(2, .loc 0 0), (4, .loc 1 0), (5, .int .u64 ((pu10 (r.rest.take (wordN r.rest))).1)), (6, .iface 118 (.any))], [[.i 0, .str [], .int .u64 0, .i 0, .i 0], [.i 3, .str (r.rest.take (wordN r.rest)), .int .u64 ((pu10 (r.rest.take (wordN r.rest))).1), .i r.line, .i r.col]], [], [], 0⟩) (σ' := [[.str ((skipS (wordN r.rest) r).rest), .i ((skipS (wordN r.rest) r).line), .i ((skipS (wordN r.rest) r).col)]]) (ob := Tt 6) (by kernel_rfl) (tt 6) ?_
     refine ACode.seq ?_
     refine ACode.draw [(10, 0)] 2 [] 0 (by kernel_rfl) (by kernel_rfl) ?_
     refine AAny.run hT nh (fuel := 0) [0, 1, 2, 3, 4, 6, 7, 5, 8, 9, 10, 11] [2, 3] (fz' := false) (l' := #[true, true, true, true, true, true, true, true, true, true, true, true]) (fr' := ⟨[(2, .loc 0 0), (3, .bool false)], [[.i 3, .str (r.rest.take (wordN r.rest)), .int .u64 ((pu10 (r.rest.take (wordN r.rest))).1), .i r.line, .i r.col], [.i 3, .str (r.rest.take (wordN r.rest)), .int .u64 ((pu10 (r.rest.take (wordN r.rest))).1), .i r.line, .i r.col]], [], [], 0⟩) (σ' := [[.str ((skipS (wordN r.rest) r).rest), .i ((skipS (wordN r.rest) r).line), .i ((skipS (wordN r.rest) r).col)]]) (ob := Tt 13) (by kernel_rfl) (by kernel_rfl) (tt 13) ?_
     refine AAny.done (by kernel_rfl) ?_
     refine ACode.ret ?_
     refine retQ.ret (.tuple [.agg [.i 3, .str (r.rest.take (wordN r.rest)), .int .u64 ((pu10 (r.rest.take (wordN r.rest))).1), .i r.line, .i r.col], .bool false]) (by kernel_rfl) ?_
     refine ⟨rfl, ?_⟩
     have hr : (pu10 (r.rest.take (wordN r.rest))).2 = false := hr
     simp only [wordT, h1, h2, hr, Bool.false_eq_true, if_false, Bool.true_and, Bool.false_and]
     rfl
theorem real_walk (r : Rd) (hok : RdOK r) (hne : r.rest ≠ []) : ACalls Tryd.prog 38 [.ptr 0 0] [[.str r.rest, .i r.line, .i r.col]] (fun e s => s = [rdAV (realR r)] ∧ e = .ret (.tuple [.agg (tokAV (realT r).1), .bool (realT r).2])) := by
  refine ACalls.enter hT Tryd.func38 rfl (by kernel_rfl) ?_
  have hlen : (realText r).length ≤ 8193 := by have := hok.2.2.2.2; simp only [realText, List.length_append, List.length_cons, List.length_nil, List.length_take, List.length_drop]; omega
  have hlen2 : ((realText r).drop 1).length ≤ 9000 := by simp only [List.length_drop]; omega
  refine ACode.seq ?_
  refine ACode.run hT nh [0, 2] (fr' := ⟨[(0, .ptr 0 0), (2, .loc 0 0)], [[.i 0, .str [], .int .u64 0, .i 0, .i 0]], [], [], 0⟩) (σ' := [[.str r.rest, .i r.line, .i r.col]]) (ob := Tt 3) (by kernel_rfl) (tt 3) ?_
  refine ACode.seq ?_
  refine ACode.draw [(10, 1)] 1 [] 1 (by kernel_rfl) (by kernel_rfl) ?_
  refine AAny.run hT nh (fuel := 0) [0, 1, 2, 3, 4, 5, 6, 7, 8, 9, 10] [0, 2, 4] (fz' := false) (l' := #[true, true, true, true, true, true, true, true, true, true, true]) (fr' := ⟨[(0, .ptr 0 0), (2, .loc 0 0), (4, .loc 1 0)], [[.i 0, .str [], .int .u64 0, .i 0, .i 0], [.i 4, .str [], .int .u64 0, .i r.line, .i r.col]], [], [], 0⟩) (σ' := [[.str r.rest, .i r.line, .i r.col]]) (ob := Tt 12) (by kernel_rfl) (by kernel_rfl) (tt 12) ?_
  refine AAny.done (by kernel_rfl) ?_
  refine ACode.seq ?_
  refine ACode.region ?_
  refine AOps.runN hT nh 1 [0, 2, 4, 16] (fr' := ⟨[(0, .ptr 0 0), (2, .loc 0 0), (4, .loc 1 0), (16, .ptr 0 0)], [[.i 0, .str [], .int .u64 0, .i 0, .i 0], [.i 4, .str [], .int .u64 0, .i r.line, .i r.col]], [], [], 0⟩) (σ' := [[.str r.rest, .i r.line, .i r.col]]) (ob := Tt 2) (by kernel_rfl) (tt 2) ?_
  refine AOps.call (fid := 33) (cap := []) (avs := [.ptr 0 0, .i 1]) (by kernel_rfl) rfl (by kernel_rfl) (by kernel_rfl) en_33 (by kernel_rfl) (ACalls.mono (skip_rd r 1 hok (by have := len1 hne; omega)) ?_)
  rintro _ _ ⟨rfl, rfl⟩
  refine AOps.nil ?_
  refine ACode.seq ?_
  refine ACode.region ?_
  refine AOps.runN hT nh 2 [2, 4, 18, 19] (fr' := ⟨[(2, .loc 0 0), (4, .loc 1 0), (18, .ptr 0 0), (19, .ptr 0 0)], [[.i 0, .str [], .int .u64 0, .i 0, .i 0], [.i 4, .str [], .int .u64 0, .i r.line, .i r.col]], [], [], 0⟩) (σ' := [[.str ((skipS 1 r).rest), .i ((skipS 1 r).line), .i ((skipS 1 r).col)]]) (ob := Tt 3) (by kernel_rfl) (tt 3) ?_
  refine AOps.call (fid := 34) (cap := []) (avs := [.ptr 0 0, .func 54 []]) (by kernel_rfl) rfl (by kernel_rfl) (by kernel_rfl) en_34 (by kernel_rfl) (ACalls.mono (run_walk 54 wordS en_54 real1_walk (skipS 1 r).rest (skipS 1 r).line (skipS 1 r).col) ?_)
  rintro _ _ ⟨rfl, rfl⟩
  rw [runF_word]
  refine AOps.call (fid := 33) (cap := []) (avs := [.ptr 0 0, .i (wordN (skipS 1 r).rest : Int)]) (by kernel_rfl) rfl (by kernel_rfl) (by kernel_rfl) en_33 (by kernel_rfl) (ACalls.mono (skip_rd (skipS 1 r) (wordN (skipS 1 r).rest) (skipS_ok hok (by have := len1 hne; omega)) (wordN_le _)) ?_)
  rintro _ _ ⟨rfl, rfl⟩
  refine AOps.runN hT nh 3 [2, 4] (fr' := ⟨[(2, .loc 0 0), (4, .loc 1 0)], [[.i 0, .str [], .int .u64 0, .i 0, .i 0], [.i 4, .str ([35] ++ ((skipS 1 r).rest.take (wordN (skipS 1 r).rest))), .int .u64 0, .i r.line, .i r.col]], [], [], 0⟩) (σ' := [[.str ((skipS (wordN (skipS 1 r).rest) (skipS 1 r)).rest), .i ((skipS (wordN (skipS 1 r).rest) (skipS 1 r)).line), .i ((skipS (wordN (skipS 1 r).rest) (skipS 1 r)).col)]]) (ob := (((([35] : List UInt8).length + (((skipS 1 r).rest.take (wordN (skipS 1 r).rest)) : List UInt8).length : Nat) : Int) ≤ 9223372036854775807) ∧ True ∧ True ∧ True) (by kernel_rfl) ⟨(by have h9 := hlen; simp only [realText, skipS, List.length_append, List.length_cons, List.length_nil] at h9 ⊢; omega), trivial, trivial, trivial⟩ ?_
  refine AOps.nil ?_
  refine ACode.seq ?_
  refine ACode.region ?_
  refine AOps.runN hT nh 3 [2, 4, 27] (fr' := ⟨[(2, .loc 0 0), (4, .loc 1 0), (27, .str (([35] ++ ((skipS 1 r).rest.take (wordN (skipS 1 r).rest))).drop 1))], [[.i 0, .str [], .int .u64 0, .i 0, .i 0], [.i 4, .str ([35] ++ ((skipS 1 r).rest.take (wordN (skipS 1 r).rest))), .int .u64 0, .i r.line, .i r.col]], [], [], 0⟩) (σ' := [[.str ((skipS (wordN (skipS 1 r).rest) (skipS 1 r)).rest), .i ((skipS (wordN (skipS 1 r).rest) (skipS 1 r)).line), .i ((skipS (wordN (skipS 1 r).rest) (skipS 1 r)).col)]]) (ob := True ∧ True ∧ ((0 : Int) ≤ 1 ∧ 1 ≤ ((([35] ++ ((skipS 1 r).rest.take (wordN (skipS 1 r).rest))) : List UInt8).length : Int)) ∧ True) (by kernel_rfl) ⟨trivial, trivial, (by have h9 := hlen; simp only [realText, skipS, List.length_append, List.length_cons, List.length_nil] at h9 ⊢; omega), trivial⟩ ?_
  refine AOps.call (fid := 52) (cap := []) (avs := [.str (([35] ++ ((skipS 1 r).rest.take (wordN (skipS 1 r).rest))).drop 1), .i 16, .i 64]) (by kernel_rfl) rfl (by kernel_rfl) (by kernel_rfl) en_52 (by kernel_rfl) (ACalls.mono (parseUint16 (([35] ++ ((skipS 1 r).rest.take (wordN (skipS 1 r).rest))).drop 1) hlen2 _) ?_)
  rintro _ _ ⟨rfl, (⟨hr, rfl⟩ | ⟨hr, rfl⟩)⟩
  ·
   refine AOps.runN hT nh 5 [2, 4, 5, 6] (fr' := ⟨[(2, .loc 0 0), (4, .loc 1 0), (5, .int .u64 ((pu16 (([35] ++ ((skipS 1 r).rest.take (wordN (skipS 1 r).rest))).drop 1)).1)), (6, .nilIface)], [[.i 0, .str [], .int .u64 0, .i 0, .i 0], [.i 4, .str ([35] ++ ((skipS 1 r).rest.take (wordN (skipS 1 r).rest))), .int .u64 0, .i r.line, .i r.col]], [], [], 0⟩) (σ' := [[.str ((skipS (wordN (skipS 1 r).rest) (skipS 1 r)).rest), .i ((skipS (wordN (skipS 1 r).rest) (skipS 1 r)).line), .i ((skipS (wordN (skipS 1 r).rest) (skipS 1 r)).col)]]) (ob := Tt 6) (by kernel_rfl) (tt 6) ?_
   refine AOps.nil ?_
   refine ACode.seq ?_
   refine ACode.run hT nh [2, 4, 6] (fr' := ⟨[(2, .loc 0 0), (4, .loc 1 0), (6, .nilIface)], [[.i 0, .str [], .int .u64 0, .i 0, .i 0], [.i 4, .str ([35] ++ ((skipS 1 r).rest.take (wordN (skipS 1 r).rest))), .int .u64 ((pu16 (([35] ++ ((skipS 1 r).rest.take (wordN (skipS 1 r).rest))).drop 1)).1), .i r.line, .i r.col]], [], [], 0⟩) (σ' := [[.str ((skipS (wordN (skipS 1 r).rest) (skipS 1 r)).rest), .i ((skipS (wordN (skipS 1 r).rest) (skipS 1 r)).line), .i ((skipS (wordN (skipS 1 r).rest) (skipS 1 r)).col)]]) (ob := Tt 4) (by kernel_rfl) (tt 4) ?_
   refine ACode.seq ?_
   refine ACode.meet ⟨[(2, .loc 0 0), (3, .bool ((((([35] ++ ((skipS 1 r).rest.take (wordN (skipS 1 r).rest))) : List UInt8).length : Int) == 17) && (!(Lib.containsAny ([35] ++ ((skipS 1 r).rest.take (wordN (skipS 1 r).rest))) [65, 66, 67, 68, 69, 70]))))], [[.i 4, .str ([35] ++ ((skipS 1 r).rest.take (wordN (skipS 1 r).rest))), .int .u64 ((pu16 (([35] ++ ((skipS 1 r).rest.take (wordN (skipS 1 r).rest))).drop 1)).1), .i r.line, .i r.col], [.i 4, .str ([35] ++ ((skipS 1 r).rest.take (wordN (skipS 1 r).rest))), .int .u64 ((pu16 (([35] ++ ((skipS 1 r).rest.take (wordN (skipS 1 r).rest))).drop 1)).1), .i r.line, .i r.col]], [], [], 0⟩ [[.str ((skipS (wordN (skipS 1 r).rest) (skipS 1 r)).rest), .i ((skipS (wordN (skipS 1 r).rest) (skipS 1 r)).line), .i ((skipS (wordN (skipS 1 r).rest) (skipS 1 r)).col)]] ?_ ?_
   ·
    refine ACode.draw [(15, 0)] 2 [] 0 (by kernel_rfl) (by kernel_rfl) ?_
    refine AAny.run hT nh (fuel := 7) [0, 1, 2, 3, 4, 5, 6, 7, 8, 9] [2, 4, 33, 42] (fz' := true) (l' := #[true, true, true, true, true, true, true, true, true, true, false, false, false, false, false, false, false]) (fr' := ⟨[(2, .loc 0 0), (4, .loc 1 0), (33, .agg [.i 4, .str ([35] ++ ((skipS 1 r).rest.take (wordN (skipS 1 r).rest))), .int .u64 ((pu16 (([35] ++ ((skipS 1 r).rest.take (wordN (skipS 1 r).rest))).drop 1)).1), .i r.line, .i r.col]), (42, .bool (((([35] ++ ((skipS 1 r).rest.take (wordN (skipS 1 r).rest))) : List UInt8).length : Int) == 17))], [[.i 0, .str [], .int .u64 0, .i 0, .i 0], [.i 4, .str ([35] ++ ((skipS 1 r).rest.take (wordN (skipS 1 r).rest))), .int .u64 ((pu16 (([35] ++ ((skipS 1 r).rest.take (wordN (skipS 1 r).rest))).drop 1)).1), .i r.line, .i r.col]], [], [], 0⟩) (σ' := [[.str ((skipS (wordN (skipS 1 r).rest) (skipS 1 r)).rest), .i ((skipS (wordN (skipS 1 r).rest) (skipS 1 r)).line), .i ((skipS (wordN (skipS 1 r).rest) (skipS 1 r)).col)]]) (ob := Tt 11) (by kernel_rfl) (by kernel_rfl) (tt 11) ?_
    cases h1 : (((([35] ++ ((skipS 1 r).rest.take (wordN (skipS 1 r).rest))) : List UInt8).length : Int) == 17)
    ·
     have h1k := ne_of_beq_false h1
     refine AAny.run hT nh (fuel := 0) [10, 11, 12, 13, 14, 15, 16] [2, 3] (fz' := false) (l' := #[true, true, true, true, true, true, true, true, true, true, true, true, true, true, true, true, true]) (fr' := ⟨[(2, .loc 0 0), (3, .bool false)], [[.i 4, .str ([35] ++ ((skipS 1 r).rest.take (wordN (skipS 1 r).rest))), .int .u64 ((pu16 (([35] ++ ((skipS 1 r).rest.take (wordN (skipS 1 r).rest))).drop 1)).1), .i r.line, .i r.col], [.i 4, .str ([35] ++ ((skipS 1 r).rest.take (wordN (skipS 1 r).rest))), .int .u64 ((pu16 (([35] ++ ((skipS 1 r).rest.take (wordN (skipS 1 r).rest))).drop 1)).1), .i r.line, .i r.col]], [], [], 0⟩) (σ' := [[.str ((skipS (wordN (skipS 1 r).rest) (skipS 1 r)).rest), .i ((skipS (wordN (skipS 1 r).rest) (skipS 1 r)).line), .i ((skipS (wordN (skipS 1 r).rest) (skipS 1 r)).col)]]) (ob := Tt 8) (by kernel_rfl) (by kernel_rfl) (tt 8) ?_
     refine AAny.done (by kernel_rfl) ?_
     exact ⟨rfl, rfl⟩
    ·
     have h1k := eq_of_beq h1
     refine AAny.run hT nh (fuel := 5) [10, 11] [2, 33, 42, 44] (fz' := true) (l' := #[true, true, true, true, true, true, true, true, true, true, true, true, false, false, false, false, false]) (fr' := ⟨[(2, .loc 0 0), (33, .agg [.i 4, .str ([35] ++ ((skipS 1 r).rest.take (wordN (skipS 1 r).rest))), .int .u64 ((pu16 (([35] ++ ((skipS 1 r).rest.take (wordN (skipS 1 r).rest))).drop 1)).1), .i r.line, .i r.col]), (42, .bool true), (44, .str ([35] ++ ((skipS 1 r).rest.take (wordN (skipS 1 r).rest))))], [[.i 0, .str [], .int .u64 0, .i 0, .i 0], [.i 4, .str ([35] ++ ((skipS 1 r).rest.take (wordN (skipS 1 r).rest))), .int .u64 ((pu16 (([35] ++ ((skipS 1 r).rest.take (wordN (skipS 1 r).rest))).drop 1)).1), .i r.line, .i r.col]], [], [], 0⟩) (σ' := [[.str ((skipS (wordN (skipS 1 r).rest) (skipS 1 r)).rest), .i ((skipS (wordN (skipS 1 r).rest) (skipS 1 r)).line), .i ((skipS (wordN (skipS 1 r).rest) (skipS 1 r)).col)]]) (ob := Tt 3) (by kernel_rfl) (by kernel_rfl) (tt 3) ?_
     refine AAny.call (fuel := 4) (i := 12) (fid := 55) (cap := []) (avs := [.str ([35] ++ ((skipS 1 r).rest.take (wordN (skipS 1 r).rest))), .str [65, 66, 67, 68, 69, 70]]) rfl (by kernel_rfl) (by kernel_rfl) (by kernel_rfl) (by kernel_rfl) rfl (by kernel_rfl) en_55 (by kernel_rfl) (ACalls.mono (containsAny_walk ([35] ++ ((skipS 1 r).rest.take (wordN (skipS 1 r).rest))) [65, 66, 67, 68, 69, 70] (by omega) (by decide) (realText_ascii r) abc_ascii _) ?_) (by kernel_rfl)
     rintro _ _ ⟨rfl, rfl⟩
     refine AAny.run hT nh (fuel := 0) [13, 14, 15, 16] [2, 3] (fz' := false) (l' := #[true, true, true, true, true, true, true, true, true, true, true, true, true, true, true, true, true]) (fr' := ⟨[(2, .loc 0 0), (3, .bool (!(Lib.containsAny ([35] ++ ((skipS 1 r).rest.take (wordN (skipS 1 r).rest))) [65, 66, 67, 68, 69, 70])))], [[.i 4, .str ([35] ++ ((skipS 1 r).rest.take (wordN (skipS 1 r).rest))), .int .u64 ((pu16 (([35] ++ ((skipS 1 r).rest.take (wordN (skipS 1 r).rest))).drop 1)).1), .i r.line, .i r.col], [.i 4, .str ([35] ++ ((skipS 1 r).rest.take (wordN (skipS 1 r).rest))), .int .u64 ((pu16 (([35] ++ ((skipS 1 r).rest.take (wordN (skipS 1 r).rest))).drop 1)).1), .i r.line, .i r.col]], [], [], 0⟩) (σ' := [[.str ((skipS (wordN (skipS 1 r).rest) (skipS 1 r)).rest), .i ((skipS (wordN (skipS 1 r).rest) (skipS 1 r)).line), .i ((skipS (wordN (skipS 1 r).rest) (skipS 1 r)).col)]]) (ob := Tt 5) (by kernel_rfl) (by kernel_rfl) (tt 5) ?_
     refine AAny.done (by kernel_rfl) ?_
     exact ⟨rfl, rfl⟩
   refine ACode.ret ?_
   refine retQ.ret (.tuple [.agg [.i 4, .str ([35] ++ ((skipS 1 r).rest.take (wordN (skipS 1 r).rest))), .int .u64 ((pu16 (([35] ++ ((skipS 1 r).rest.take (wordN (skipS 1 r).rest))).drop 1)).1), .i r.line, .i r.col], .bool ((((([35] ++ ((skipS 1 r).rest.take (wordN (skipS 1 r).rest))) : List UInt8).length : Int) == 17) && (!(Lib.containsAny ([35] ++ ((skipS 1 r).rest.take (wordN (skipS 1 r).rest))) [65, 66, 67, 68, 69, 70])))]) (by kernel_rfl) ?_
   refine ⟨rfl, ?_⟩
   have hr : (pu16 ((realText r).drop 1)).2 = true := hr
   simp only [realT, hr, Bool.true_and, Bool.false_and]
   rfl
  ·
   refine AOps.runN hT nh 5 [2, 4, 5, 6] (fr' := ⟨[(2, .loc 0 0), (4, .loc 1 0), (5, .int .u64 ((pu16 (([35] ++ ((skipS 1 r).rest.take (wordN (skipS 1 r).rest))).drop 1)).1)), (6, .iface 118 (.any))], [[.i 0, .str [], .int .u64 0, .i 0, .i 0], [.i 4, .str ([35] ++ ((skipS 1 r).rest.take (wordN (skipS 1 r).rest))), .int .u64 0, .i r.line, .i r.col]], [], [], 0⟩) (σ' := [[.str ((skipS (wordN (skipS 1 r).rest) (skipS 1 r)).rest), .i ((skipS (wordN (skipS 1 r).rest) (skipS 1 r)).line), .i ((skipS (wordN (skipS 1 r).rest) (skipS 1 r)).col)]]) (ob := Tt 6) (by kernel_rfl) (tt 6) ?_
   refine AOps.nil ?_
   refine ACode.seq ?_
   refine ACode.run hT nh [2, 4, 6] (fr' := ⟨[(2, .loc 0 0), (4, .loc 1 0), (6, .iface 118 (.any))], [[.i 0, .str [], .int .u64 0, .i 0, .i 0], [.i 4, .str ([35] ++ ((skipS 1 r).rest.take (wordN (skipS 1 r).rest))), .int .u64 ((pu16 (([35] ++ ((skipS 1 r).rest.take (wordN (skipS 1 r).rest))).drop 1)).1), .i r.line, .i r.col]], [], [], 0⟩) (σ' := [[.str ((skipS (wordN (skipS 1 r).rest) (skipS 1 r)).rest), .i ((skipS (wordN (skipS 1 r).rest) (skipS 1 r)).line), .i ((skipS (wordN (skipS 1 r).rest) (skipS 1 r)).col)]]) (ob := Tt 4) (by kernel_rfl) (tt 4) ?_
   refine ACode.seq ?_
   refine ACode.draw [(15, 0)] 2 [] 0 (by kernel_rfl) (by kernel_rfl) ?_
   refine AAny.run hT nh (fuel := 0) [0, 1, 2, 3, 4, 5, 6, 7, 8, 9, 10, 11, 12, 13, 14, 15, 16] [2, 3] (fz' := false) (l' := #[true, true, true, true, true, true, true, true, true, true, true, true, true, true, true, true, true]) (fr' := ⟨[(2, .loc 0 0), (3, .bool false)], [[.i 4, .str ([35] ++ ((skipS 1 r).rest.take (wordN (skipS 1 r).rest))), .int .u64 ((pu16 (([35] ++ ((skipS 1 r).rest.take (wordN (skipS 1 r).rest))).drop 1)).1), .i r.line, .i r.col], [.i 4, .str ([35] ++ ((skipS 1 r).rest.take (wordN (skipS 1 r).rest))), .int .u64 ((pu16 (([35] ++ ((skipS 1 r).rest.take (wordN (skipS 1 r).rest))).drop 1)).1), .i r.line, .i r.col]], [], [], 0⟩) (σ' := [[.str ((skipS (wordN (skipS 1 r).rest) (skipS 1 r)).rest), .i ((skipS (wordN (skipS 1 r).rest) (skipS 1 r)).line), .i ((skipS (wordN (skipS 1 r).rest) (skipS 1 r)).col)]]) (ob := Tt 18) (by kernel_rfl) (by kernel_rfl) (tt 18) ?_
   refine AAny.done (by kernel_rfl) ?_
   refine ACode.ret ?_
   refine retQ.ret (.tuple [.agg [.i 4, .str ([35] ++ ((skipS 1 r).rest.take (wordN (skipS 1 r).rest))), .int .u64 ((pu16 (([35] ++ ((skipS 1 r).rest.take (wordN (skipS 1 r).rest))).drop 1)).1), .i r.line, .i r.col], .bool false]) (by kernel_rfl) ?_
   refine ⟨rfl, ?_⟩
   have hr : (pu16 ((realText r).drop 1)).2 = false := hr
   simp only [realT, hr, Bool.true_and, Bool.false_and]
   rfl
theorem sign_walk (r : Rd) (hok : RdOK r) (hne : r.rest ≠ []) : ACalls Tryd.prog 39 [.ptr 0 0] [[.str r.rest, .i r.line, .i r.col]] (fun e s => s = [rdAV (signR r)] ∧ e = .ret (.tuple [.agg (tokAV (signT r).1), .bool (signT r).2])) := by
  refine ACalls.enter hT Tryd.func39 rfl (by kernel_rfl) ?_
  refine ACode.seq ?_
  refine ACode.run hT nh [0, 2] (fr' := ⟨[(0, .ptr 0 0), (2, .loc 0 0)], [[.i 0, .str [], .int .u64 0, .i 0, .i 0]], [], [], 0⟩) (σ' := [[.str r.rest, .i r.line, .i r.col]]) (ob := Tt 3) (by kernel_rfl) (tt 3) ?_
  refine ACode.seq ?_
  refine ACode.draw [(10, 1)] 1 [] 1 (by kernel_rfl) (by kernel_rfl) ?_
  refine AAny.run hT nh (fuel := 0) [0, 1, 2, 3, 4, 5, 6, 7, 8, 9, 10] [0, 2, 4] (fz' := false) (l' := #[true, true, true, true, true, true, true, true, true, true, true]) (fr' := ⟨[(0, .ptr 0 0), (2, .loc 0 0), (4, .loc 1 0)], [[.i 0, .str [], .int .u64 0, .i 0, .i 0], [.i 5, .str [], .int .u64 0, .i r.line, .i r.col]], [], [], 0⟩) (σ' := [[.str r.rest, .i r.line, .i r.col]]) (ob := Tt 12) (by kernel_rfl) (by kernel_rfl) (tt 12) ?_
  refine AAny.done (by kernel_rfl) ?_
  refine ACode.seq ?_
  refine ACode.seq ?_
  refine ACode.run hT nh [0, 2, 4, 16, 17] (fr' := ⟨[(0, .ptr 0 0), (2, .loc 0 0), (4, .loc 1 0), (16, .agg [.str [61, 61], .str [33, 61], .str [60, 61]]), (17, .i 0)], [[.i 0, .str [], .int .u64 0, .i 0, .i 0], [.i 5, .str [], .int .u64 0, .i r.line, .i r.col]], [], [], 0⟩) (σ' := [[.str r.rest, .i r.line, .i r.col]]) (ob := Tt 3) (by kernel_rfl) (tt 3) ?_
  refine ACode.block ?_
  refine ACode.loop [0, 2, 4, 16, 17] 2 0 (fun n0 fr σ' => (fr = ⟨[(0, .ptr 0 0), (2, .loc 0 0), (4, .loc 1 0), (16, .agg [.str [61, 61], .str [33, 61], .str [60, 61]]), (17, .i 0)], [[.i 0, .str [], .int .u64 0, .i 0, .i 0], [.i 5, .str [], .int .u64 0, .i r.line, .i r.col]], [], [], 0⟩ ∧ σ' = [[.str r.rest, .i r.line, .i r.col]] ∧ (True) ∧ n0 = 4) ∨ (fr = ⟨[(0, .ptr 0 0), (2, .loc 0 0), (4, .loc 1 0), (16, .agg [.str [61, 61], .str [33, 61], .str [60, 61]]), (17, .i 1)], [[.i 0, .str [], .int .u64 0, .i 0, .i 0], [.i 5, .str [], .int .u64 0, .i r.line, .i r.col]], [], [], 0⟩ ∧ σ' = [[.str r.rest, .i r.line, .i r.col]] ∧ ([61, 61].isPrefixOf r.rest = false) ∧ n0 = 3) ∨ (fr = ⟨[(0, .ptr 0 0), (2, .loc 0 0), (4, .loc 1 0), (16, .agg [.str [61, 61], .str [33, 61], .str [60, 61]]), (17, .i 2)], [[.i 0, .str [], .int .u64 0, .i 0, .i 0], [.i 5, .str [], .int .u64 0, .i r.line, .i r.col]], [], [], 0⟩ ∧ σ' = [[.str r.rest, .i r.line, .i r.col]] ∧ ([61, 61].isPrefixOf r.rest = false ∧ [33, 61].isPrefixOf r.rest = false) ∧ n0 = 2) ∨ (fr = ⟨[(0, .ptr 0 0), (2, .loc 0 0), (4, .loc 1 0), (16, .agg [.str [61, 61], .str [33, 61], .str [60, 61]]), (17, .i 3)], [[.i 0, .str [], .int .u64 0, .i 0, .i 0], [.i 5, .str [], .int .u64 0, .i r.line, .i r.col]], [], [], 0⟩ ∧ σ' = [[.str r.rest, .i r.line, .i r.col]] ∧ ([61, 61].isPrefixOf r.rest = false ∧ [33, 61].isPrefixOf r.rest = false ∧ [60, 61].isPrefixOf r.rest = false) ∧ n0 = 1)) _ (by kernel_rfl) (.inl ⟨rfl, rfl, trivial, rfl⟩) ?_
  rintro n0 fr σ' (⟨rfl, rfl, _, rfl⟩ | ⟨rfl, rfl, q1, rfl⟩ | ⟨rfl, rfl, ⟨q1, q2⟩, rfl⟩ | ⟨rfl, rfl, ⟨q1, q2, q3⟩, rfl⟩)
  ·
   refine ACode.seq ?_
   refine ACode.run hT nh [0, 2, 4, 16, 17, 18] (fr' := ⟨[(0, .ptr 0 0), (2, .loc 0 0), (4, .loc 1 0), (16, .agg [.str [61, 61], .str [33, 61], .str [60, 61]]), (17, .i 0), (18, .bool true)], [[.i 0, .str [], .int .u64 0, .i 0, .i 0], [.i 5, .str [], .int .u64 0, .i r.line, .i r.col]], [], [], 0⟩) (σ' := [[.str r.rest, .i r.line, .i r.col]]) (ob := Tt 2) (by kernel_rfl) (tt 2) ?_
   refine ACode.seq ?_
   refine ACode.cond (t := true) (by kernel_rfl) (fun _ => ?_) (fun h => Bool.noConfusion h)
   refine ACode.skip ?_
   refine ACode.seq ?_
   refine ACode.block ?_
   refine ACode.seq ?_
   refine ACode.run hT nh [0, 2, 4, 6, 16, 17] (fr' := ⟨[(0, .ptr 0 0), (2, .loc 0 0), (4, .loc 1 0), (6, .str [61, 61]), (16, .agg [.str [61, 61], .str [33, 61], .str [60, 61]]), (17, .i 0)], [[.i 0, .str [], .int .u64 0, .i 0, .i 0], [.i 5, .str [], .int .u64 0, .i r.line, .i r.col]], [], [], 0⟩) (σ' := [[.str r.rest, .i r.line, .i r.col]]) (ob := (0 ≤ (0 : Int) ∧ (0 : Int) < 3) ∧ True ∧ True) (by kernel_rfl) ⟨(by first | omega | (have := len1 hne; omega)), trivial, trivial⟩ ?_
   refine ACode.seq ?_
   refine ACode.region ?_
   refine AOps.runN hT nh 5 [0, 2, 4, 16, 17, 23, 24] (fr' := ⟨[(0, .ptr 0 0), (2, .loc 0 0), (4, .loc 1 0), (16, .agg [.str [61, 61], .str [33, 61], .str [60, 61]]), (17, .i 0), (23, .str r.rest), (24, .str [61, 61])], [[.i 0, .str [], .int .u64 0, .i 0, .i 0], [.i 5, .str [], .int .u64 0, .i r.line, .i r.col]], [], [], 0⟩) (σ' := [[.str r.rest, .i r.line, .i r.col]]) (ob := Tt 6) (by kernel_rfl) (tt 6) ?_
   refine AOps.call (fid := 32) (cap := []) (avs := [.str r.rest, .str [61, 61]]) (by kernel_rfl) rfl (by kernel_rfl) (by kernel_rfl) en_32 (by kernel_rfl) (ACalls.mono (hasPrefix_walk r.rest [61, 61] _) ?_)
   rintro _ _ ⟨rfl, rfl⟩
   refine AOps.nil ?_
   refine ACode.cond (t := [61, 61].isPrefixOf r.rest) (by kernel_rfl) (fun h1 => ?_) (fun h1 => ?_)
   ·
    refine ACode.seq ?_
    refine ACode.region ?_
    refine AOps.runN hT nh 1 [2, 4, 26] (fr' := ⟨[(2, .loc 0 0), (4, .loc 1 0), (26, .ptr 0 0)], [[.i 0, .str [], .int .u64 0, .i 0, .i 0], [.i 5, .str [], .int .u64 0, .i r.line, .i r.col]], [], [], 0⟩) (σ' := [[.str r.rest, .i r.line, .i r.col]]) (ob := Tt 2) (by kernel_rfl) (tt 2) ?_
    refine AOps.call (fid := 33) (cap := []) (avs := [.ptr 0 0, .i 2]) (by kernel_rfl) rfl (by kernel_rfl) (by kernel_rfl) en_33 (by kernel_rfl) (ACalls.mono (skip_rd r 2 hok (len2 h1)) ?_)
    rintro _ _ ⟨rfl, rfl⟩
    refine AOps.runN hT nh 2 [2, 4] (fr' := ⟨[(2, .loc 0 0), (4, .loc 1 0)], [[.i 0, .str [], .int .u64 0, .i 0, .i 0], [.i 5, .str (r.rest.take 2), .int .u64 0, .i r.line, .i r.col]], [], [], 0⟩) (σ' := [[.str ((skipS 2 r).rest), .i ((skipS 2 r).line), .i ((skipS 2 r).col)]]) (ob := Tt 3) (by kernel_rfl) (tt 3) ?_
    refine AOps.nil ?_
    refine ACode.seq ?_
    refine ACode.run hT nh [2, 3] (fr' := ⟨[(2, .loc 0 0), (3, .bool true)], [[.i 5, .str (r.rest.take 2), .int .u64 0, .i r.line, .i r.col], [.i 5, .str (r.rest.take 2), .int .u64 0, .i r.line, .i r.col]], [], [], 0⟩) (σ' := [[.str ((skipS 2 r).rest), .i ((skipS 2 r).line), .i ((skipS 2 r).col)]]) (ob := Tt 4) (by kernel_rfl) (tt 4) ?_
    refine ACode.ret ?_
    refine retQ.ret (.tuple [.agg [.i 5, .str (r.rest.take 2), .int .u64 0, .i r.line, .i r.col], .bool true]) (by kernel_rfl) ?_
    have e9 : twoB r.rest = true := by simp only [twoB, h1, Bool.true_or, Bool.or_true, Bool.false_or]
    refine ⟨by simp only [signR, e9, if_true]; rfl, ?_⟩
    simp only [signT, e9, if_true]
    rfl
   ·
    refine ACode.skip ?_
    refine ACode.run hT nh [0, 2, 4, 16, 17] (fr' := ⟨[(0, .ptr 0 0), (2, .loc 0 0), (4, .loc 1 0), (16, .agg [.str [61, 61], .str [33, 61], .str [60, 61]]), (17, .i 1)], [[.i 0, .str [], .int .u64 0, .i 0, .i 0], [.i 5, .str [], .int .u64 0, .i r.line, .i r.col]], [], [], 0⟩) (σ' := [[.str r.rest, .i r.line, .i r.col]]) (ob := Tt 3) (by kernel_rfl) (tt 3) ?_
    refine ⟨by kernel_rfl, _, ?_, (.inr (.inl ⟨rfl, rfl, ?_, rfl⟩))⟩
    ·omega
    ·exact h1
  ·
   refine ACode.seq ?_
   refine ACode.run hT nh [0, 2, 4, 16, 17, 18] (fr' := ⟨[(0, .ptr 0 0), (2, .loc 0 0), (4, .loc 1 0), (16, .agg [.str [61, 61], .str [33, 61], .str [60, 61]]), (17, .i 1), (18, .bool true)], [[.i 0, .str [], .int .u64 0, .i 0, .i 0], [.i 5, .str [], .int .u64 0, .i r.line, .i r.col]], [], [], 0⟩) (σ' := [[.str r.rest, .i r.line, .i r.col]]) (ob := Tt 2) (by kernel_rfl) (tt 2) ?_
   refine ACode.seq ?_
   refine ACode.cond (t := true) (by kernel_rfl) (fun _ => ?_) (fun h => Bool.noConfusion h)
   refine ACode.skip ?_
   refine ACode.seq ?_
   refine ACode.block ?_
   refine ACode.seq ?_
   refine ACode.run hT nh [0, 2, 4, 6, 16, 17] (fr' := ⟨[(0, .ptr 0 0), (2, .loc 0 0), (4, .loc 1 0), (6, .str [33, 61]), (16, .agg [.str [61, 61], .str [33, 61], .str [60, 61]]), (17, .i 1)], [[.i 0, .str [], .int .u64 0, .i 0, .i 0], [.i 5, .str [], .int .u64 0, .i r.line, .i r.col]], [], [], 0⟩) (σ' := [[.str r.rest, .i r.line, .i r.col]]) (ob := (0 ≤ (1 : Int) ∧ (1 : Int) < 3) ∧ True ∧ True) (by kernel_rfl) ⟨(by first | omega | (have := len1 hne; omega)), trivial, trivial⟩ ?_
   refine ACode.seq ?_
   refine ACode.region ?_
   refine AOps.runN hT nh 5 [0, 2, 4, 16, 17, 23, 24] (fr' := ⟨[(0, .ptr 0 0), (2, .loc 0 0), (4, .loc 1 0), (16, .agg [.str [61, 61], .str [33, 61], .str [60, 61]]), (17, .i 1), (23, .str r.rest), (24, .str [33, 61])], [[.i 0, .str [], .int .u64 0, .i 0, .i 0], [.i 5, .str [], .int .u64 0, .i r.line, .i r.col]], [], [], 0⟩) (σ' := [[.str r.rest, .i r.line, .i r.col]]) (ob := Tt 6) (by kernel_rfl) (tt 6) ?_
   refine AOps.call (fid := 32) (cap := []) (avs := [.str r.rest, .str [33, 61]]) (by kernel_rfl) rfl (by kernel_rfl) (by kernel_rfl) en_32 (by kernel_rfl) (ACalls.mono (hasPrefix_walk r.rest [33, 61] _) ?_)
   rintro _ _ ⟨rfl, rfl⟩
   refine AOps.nil ?_
   refine ACode.cond (t := [33, 61].isPrefixOf r.rest) (by kernel_rfl) (fun h2 => ?_) (fun h2 => ?_)
   ·
    refine ACode.seq ?_
    refine ACode.region ?_
    refine AOps.runN hT nh 1 [2, 4, 26] (fr' := ⟨[(2, .loc 0 0), (4, .loc 1 0), (26, .ptr 0 0)], [[.i 0, .str [], .int .u64 0, .i 0, .i 0], [.i 5, .str [], .int .u64 0, .i r.line, .i r.col]], [], [], 0⟩) (σ' := [[.str r.rest, .i r.line, .i r.col]]) (ob := Tt 2) (by kernel_rfl) (tt 2) ?_
    refine AOps.call (fid := 33) (cap := []) (avs := [.ptr 0 0, .i 2]) (by kernel_rfl) rfl (by kernel_rfl) (by kernel_rfl) en_33 (by kernel_rfl) (ACalls.mono (skip_rd r 2 hok (len2 h2)) ?_)
    rintro _ _ ⟨rfl, rfl⟩
    refine AOps.runN hT nh 2 [2, 4] (fr' := ⟨[(2, .loc 0 0), (4, .loc 1 0)], [[.i 0, .str [], .int .u64 0, .i 0, .i 0], [.i 5, .str (r.rest.take 2), .int .u64 0, .i r.line, .i r.col]], [], [], 0⟩) (σ' := [[.str ((skipS 2 r).rest), .i ((skipS 2 r).line), .i ((skipS 2 r).col)]]) (ob := Tt 3) (by kernel_rfl) (tt 3) ?_
    refine AOps.nil ?_
    refine ACode.seq ?_
    refine ACode.run hT nh [2, 3] (fr' := ⟨[(2, .loc 0 0), (3, .bool true)], [[.i 5, .str (r.rest.take 2), .int .u64 0, .i r.line, .i r.col], [.i 5, .str (r.rest.take 2), .int .u64 0, .i r.line, .i r.col]], [], [], 0⟩) (σ' := [[.str ((skipS 2 r).rest), .i ((skipS 2 r).line), .i ((skipS 2 r).col)]]) (ob := Tt 4) (by kernel_rfl) (tt 4) ?_
    refine ACode.ret ?_
    refine retQ.ret (.tuple [.agg [.i 5, .str (r.rest.take 2), .int .u64 0, .i r.line, .i r.col], .bool true]) (by kernel_rfl) ?_
    have e9 : twoB r.rest = true := by simp only [twoB, q1, h2, Bool.true_or, Bool.or_true, Bool.false_or]
    refine ⟨by simp only [signR, e9, if_true]; rfl, ?_⟩
    simp only [signT, e9, if_true]
    rfl
   ·
    refine ACode.skip ?_
    refine ACode.run hT nh [0, 2, 4, 16, 17] (fr' := ⟨[(0, .ptr 0 0), (2, .loc 0 0), (4, .loc 1 0), (16, .agg [.str [61, 61], .str [33, 61], .str [60, 61]]), (17, .i 2)], [[.i 0, .str [], .int .u64 0, .i 0, .i 0], [.i 5, .str [], .int .u64 0, .i r.line, .i r.col]], [], [], 0⟩) (σ' := [[.str r.rest, .i r.line, .i r.col]]) (ob := Tt 3) (by kernel_rfl) (tt 3) ?_
    refine ⟨by kernel_rfl, _, ?_, (.inr (.inr (.inl ⟨rfl, rfl, ?_, rfl⟩)))⟩
    ·omega
    ·exact ⟨q1, h2⟩
  ·
   refine ACode.seq ?_
   refine ACode.run hT nh [0, 2, 4, 16, 17, 18] (fr' := ⟨[(0, .ptr 0 0), (2, .loc 0 0), (4, .loc 1 0), (16, .agg [.str [61, 61], .str [33, 61], .str [60, 61]]), (17, .i 2), (18, .bool true)], [[.i 0, .str [], .int .u64 0, .i 0, .i 0], [.i 5, .str [], .int .u64 0, .i r.line, .i r.col]], [], [], 0⟩) (σ' := [[.str r.rest, .i r.line, .i r.col]]) (ob := Tt 2) (by kernel_rfl) (tt 2) ?_
   refine ACode.seq ?_
   refine ACode.cond (t := true) (by kernel_rfl) (fun _ => ?_) (fun h => Bool.noConfusion h)
   refine ACode.skip ?_
   refine ACode.seq ?_
   refine ACode.block ?_
   refine ACode.seq ?_
   refine ACode.run hT nh [0, 2, 4, 6, 16, 17] (fr' := ⟨[(0, .ptr 0 0), (2, .loc 0 0), (4, .loc 1 0), (6, .str [60, 61]), (16, .agg [.str [61, 61], .str [33, 61], .str [60, 61]]), (17, .i 2)], [[.i 0, .str [], .int .u64 0, .i 0, .i 0], [.i 5, .str [], .int .u64 0, .i r.line, .i r.col]], [], [], 0⟩) (σ' := [[.str r.rest, .i r.line, .i r.col]]) (ob := (0 ≤ (2 : Int) ∧ (2 : Int) < 3) ∧ True ∧ True) (by kernel_rfl) ⟨(by first | omega | (have := len1 hne; omega)), trivial, trivial⟩ ?_
   refine ACode.seq ?_
   refine ACode.region ?_
   refine AOps.runN hT nh 5 [0, 2, 4, 16, 17, 23, 24] (fr' := ⟨[(0, .ptr 0 0), (2, .loc 0 0), (4, .loc 1 0), (16, .agg [.str [61, 61], .str [33, 61], .str [60, 61]]), (17, .i 2), (23, .str r.rest), (24, .str [60, 61])], [[.i 0, .str [], .int .u64 0, .i 0, .i 0], [.i 5, .str [], .int .u64 0, .i r.line, .i r.col]], [], [], 0⟩) (σ' := [[.str r.rest, .i r.line, .i r.col]]) (ob := Tt 6) (by kernel_rfl) (tt 6) ?_
   refine AOps.call (fid := 32) (cap := []) (avs := [.str r.rest, .str [60, 61]]) (by kernel_rfl) rfl (by kernel_rfl) (by kernel_rfl) en_32 (by kernel_rfl) (ACalls.mono (hasPrefix_walk r.rest [60, 61] _) ?_)
   rintro _ _ ⟨rfl, rfl⟩
   refine AOps.nil ?_
   refine ACode.cond (t := [60, 61].isPrefixOf r.rest) (by kernel_rfl) (fun h3 => ?_) (fun h3 => ?_)
   ·
    refine ACode.seq ?_
    refine ACode.region ?_
    refine AOps.runN hT nh 1 [2, 4, 26] (fr' := ⟨[(2, .loc 0 0), (4, .loc 1 0), (26, .ptr 0 0)], [[.i 0, .str [], .int .u64 0, .i 0, .i 0], [.i 5, .str [], .int .u64 0, .i r.line, .i r.col]], [], [], 0⟩) (σ' := [[.str r.rest, .i r.line, .i r.col]]) (ob := Tt 2) (by kernel_rfl) (tt 2) ?_
    refine AOps.call (fid := 33) (cap := []) (avs := [.ptr 0 0, .i 2]) (by kernel_rfl) rfl (by kernel_rfl) (by kernel_rfl) en_33 (by kernel_rfl) (ACalls.mono (skip_rd r 2 hok (len2 h3)) ?_)
    rintro _ _ ⟨rfl, rfl⟩
    refine AOps.runN hT nh 2 [2, 4] (fr' := ⟨[(2, .loc 0 0), (4, .loc 1 0)], [[.i 0, .str [], .int .u64 0, .i 0, .i 0], [.i 5, .str (r.rest.take 2), .int .u64 0, .i r.line, .i r.col]], [], [], 0⟩) (σ' := [[.str ((skipS 2 r).rest), .i ((skipS 2 r).line), .i ((skipS 2 r).col)]]) (ob := Tt 3) (by kernel_rfl) (tt 3) ?_
    refine AOps.nil ?_
    refine ACode.seq ?_
    refine ACode.run hT nh [2, 3] (fr' := ⟨[(2, .loc 0 0), (3, .bool true)], [[.i 5, .str (r.rest.take 2), .int .u64 0, .i r.line, .i r.col], [.i 5, .str (r.rest.take 2), .int .u64 0, .i r.line, .i r.col]], [], [], 0⟩) (σ' := [[.str ((skipS 2 r).rest), .i ((skipS 2 r).line), .i ((skipS 2 r).col)]]) (ob := Tt 4) (by kernel_rfl) (tt 4) ?_
    refine ACode.ret ?_
    refine retQ.ret (.tuple [.agg [.i 5, .str (r.rest.take 2), .int .u64 0, .i r.line, .i r.col], .bool true]) (by kernel_rfl) ?_
    have e9 : twoB r.rest = true := by simp only [twoB, q1, q2, h3, Bool.true_or, Bool.or_true, Bool.false_or]
    refine ⟨by simp only [signR, e9, if_true]; rfl, ?_⟩
    simp only [signT, e9, if_true]
    rfl
   ·
    refine ACode.skip ?_
    refine ACode.run hT nh [0, 2, 4, 16, 17] (fr' := ⟨[(0, .ptr 0 0), (2, .loc 0 0), (4, .loc 1 0), (16, .agg [.str [61, 61], .str [33, 61], .str [60, 61]]), (17, .i 3)], [[.i 0, .str [], .int .u64 0, .i 0, .i 0], [.i 5, .str [], .int .u64 0, .i r.line, .i r.col]], [], [], 0⟩) (σ' := [[.str r.rest, .i r.line, .i r.col]]) (ob := Tt 3) (by kernel_rfl) (tt 3) ?_
    refine ⟨by kernel_rfl, _, ?_, (.inr (.inr (.inr ⟨rfl, rfl, ?_, rfl⟩)))⟩
    ·omega
    ·exact ⟨q1, q2, h3⟩
  ·
   refine ACode.seq ?_
   refine ACode.run hT nh [0, 2, 4, 16, 17, 18] (fr' := ⟨[(0, .ptr 0 0), (2, .loc 0 0), (4, .loc 1 0), (16, .agg [.str [61, 61], .str [33, 61], .str [60, 61]]), (17, .i 3), (18, .bool false)], [[.i 0, .str [], .int .u64 0, .i 0, .i 0], [.i 5, .str [], .int .u64 0, .i r.line, .i r.col]], [], [], 0⟩) (σ' := [[.str r.rest, .i r.line, .i r.col]]) (ob := Tt 2) (by kernel_rfl) (tt 2) ?_
   refine ACode.seq ?_
   refine ACode.cond (t := false) (by kernel_rfl) (fun h => Bool.noConfusion h) (fun _ => ?_)
   refine ACode.exit ?_
   refine ACode.seq ?_
   refine ACode.seq ?_
   refine ACode.region ?_
   refine AOps.runN hT nh 5 [0, 2, 4, 35] (fr' := ⟨[(0, .ptr 0 0), (2, .loc 0 0), (4, .loc 1 0), (35, .int .u8 ((r.rest.getD 0 0).toNat : Int))], [[.i 0, .str [], .int .u64 0, .i 0, .i 0], [.i 5, .str [], .int .u64 0, .i r.line, .i r.col]], [], [], 0⟩) (σ' := [[.str r.rest, .i r.line, .i r.col]]) (ob := True ∧ True ∧ True ∧ True ∧ (0 ≤ (0 : Int) ∧ (0 : Int) < ((r.rest) : List UInt8).length) ∧ True) (by kernel_rfl) ⟨trivial, trivial, trivial, trivial, (by first | omega | (have := len1 hne; omega)), trivial⟩ ?_
   refine AOps.call (fid := 36) (cap := []) (avs := [.str [123, 125, 40, 41, 91, 93, 59, 58, 44, 46, 61, 60, 43, 45, 42, 47, 37], .int .u8 ((r.rest.getD 0 0).toNat : Int)]) (by kernel_rfl) rfl (by kernel_rfl) (by kernel_rfl) en_36 (by kernel_rfl) (ACalls.mono (indexByte_walk [123, 125, 40, 41, 91, 93, 59, 58, 44, 46, 61, 60, 43, 45, 42, 47, 37] ((r.rest.getD 0 0).toNat : Int) _) ?_)
   rintro _ _ ⟨rfl, rfl⟩
   refine AOps.runN hT nh 1 [0, 2, 4, 37] (fr' := ⟨[(0, .ptr 0 0), (2, .loc 0 0), (4, .loc 1 0), (37, .bool (decide ((Lib.indexByte [123, 125, 40, 41, 91, 93, 59, 58, 44, 46, 61, 60, 43, 45, 42, 47, 37] (((r.rest.getD 0 0).toNat : Int) : Int).toNat.toUInt8) < 0)))], [[.i 0, .str [], .int .u64 0, .i 0, .i 0], [.i 5, .str [], .int .u64 0, .i r.line, .i r.col]], [], [], 0⟩) (σ' := [[.str r.rest, .i r.line, .i r.col]]) (ob := Tt 2) (by kernel_rfl) (tt 2) ?_
   refine AOps.nil ?_
   refine ACode.cond (t := decide ((Lib.indexByte [123, 125, 40, 41, 91, 93, 59, 58, 44, 46, 61, 60, 43, 45, 42, 47, 37] (((r.rest.getD 0 0).toNat : Int) : Int).toNat.toUInt8) < 0)) (by kernel_rfl) (fun h4 => ?_) (fun h4 => ?_)
   ·
    have h4k := of_decide_eq_true h4
    refine ACode.seq ?_
    refine ACode.run hT nh [2, 3] (fr' := ⟨[(2, .loc 0 0), (3, .bool false)], [[.i 5, .str [], .int .u64 0, .i r.line, .i r.col], [.i 5, .str [], .int .u64 0, .i r.line, .i r.col]], [], [], 0⟩) (σ' := [[.str r.rest, .i r.line, .i r.col]]) (ob := Tt 4) (by kernel_rfl) (tt 4) ?_
    refine ACode.ret ?_
    refine retQ.ret (.tuple [.agg [.i 5, .str [], .int .u64 0, .i r.line, .i r.col], .bool false]) (by kernel_rfl) ?_
    have e9 : twoB r.rest = false := by simp only [twoB, q1, q2, q3, Bool.or_false]
    have e8 : signB (r.rest.getD 0 0) = false := by rw [u8_back] at h4; simp only [signB, h4, Bool.not_true, Bool.not_false]
    refine ⟨by simp only [signR, e9, e8, Bool.false_eq_true, if_false]; rfl, ?_⟩
    simp only [signT, e9, e8, Bool.false_eq_true, if_false]
    rfl
   ·
    have h4k := of_decide_eq_false h4
    refine ACode.skip ?_
    refine ACode.seq ?_
    refine ACode.region ?_
    refine AOps.runN hT nh 1 [2, 4, 39] (fr' := ⟨[(2, .loc 0 0), (4, .loc 1 0), (39, .ptr 0 0)], [[.i 0, .str [], .int .u64 0, .i 0, .i 0], [.i 5, .str [], .int .u64 0, .i r.line, .i r.col]], [], [], 0⟩) (σ' := [[.str r.rest, .i r.line, .i r.col]]) (ob := Tt 2) (by kernel_rfl) (tt 2) ?_
    refine AOps.call (fid := 33) (cap := []) (avs := [.ptr 0 0, .i 1]) (by kernel_rfl) rfl (by kernel_rfl) (by kernel_rfl) en_33 (by kernel_rfl) (ACalls.mono (skip_rd r 1 hok (len1 hne)) ?_)
    rintro _ _ ⟨rfl, rfl⟩
    refine AOps.runN hT nh 2 [2, 4] (fr' := ⟨[(2, .loc 0 0), (4, .loc 1 0)], [[.i 0, .str [], .int .u64 0, .i 0, .i 0], [.i 5, .str (r.rest.take 1), .int .u64 0, .i r.line, .i r.col]], [], [], 0⟩) (σ' := [[.str ((skipS 1 r).rest), .i ((skipS 1 r).line), .i ((skipS 1 r).col)]]) (ob := Tt 3) (by kernel_rfl) (tt 3) ?_
    refine AOps.nil ?_
    refine ACode.seq ?_
    refine ACode.run hT nh [2, 3] (fr' := ⟨[(2, .loc 0 0), (3, .bool true)], [[.i 5, .str (r.rest.take 1), .int .u64 0, .i r.line, .i r.col], [.i 5, .str (r.rest.take 1), .int .u64 0, .i r.line, .i r.col]], [], [], 0⟩) (σ' := [[.str ((skipS 1 r).rest), .i ((skipS 1 r).line), .i ((skipS 1 r).col)]]) (ob := Tt 4) (by kernel_rfl) (tt 4) ?_
    refine ACode.ret ?_
    refine retQ.ret (.tuple [.agg [.i 5, .str (r.rest.take 1), .int .u64 0, .i r.line, .i r.col], .bool true]) (by kernel_rfl) ?_
    have e9 : twoB r.rest = false := by simp only [twoB, q1, q2, q3, Bool.or_false]
    have e8 : signB (r.rest.getD 0 0) = true := by rw [u8_back] at h4; simp only [signB, h4, Bool.not_true, Bool.not_false]
    refine ⟨by simp only [signR, e9, e8, if_true, Bool.false_eq_true, if_false]; rfl, ?_⟩
    simp only [signT, e9, e8, if_true, Bool.false_eq_true, if_false]
    rfl

end Go.AE

set_option linter.unusedVariables false
set_option linter.unusedSimpArgs false
set_option maxRecDepth 4000
namespace Go.AE
open Go.Proofs

theorem next_walk (r : Rd) (hok : RdOK r) (hne : r.rest ≠ []) : ACalls Tryd.prog 27 [.ptr 0 0] [[.str r.rest, .i r.line, .i r.col]] (fun e s => s = [rdAV (nextR r)] ∧ e = .ret (.tuple [.agg (tokAV (nextT r).1), .bool (nextT r).2])) := by
  refine ACalls.enter hT Tryd.func27 rfl (by kernel_rfl) ?_
  have hb := byte_bd (r.rest.getD 0 0)
  refine ACode.seq ?_
  refine ACode.run hT nh [0, 2] (fr' := ⟨[(0, .ptr 0 0), (2, .loc 0 0)], [[.i 0, .str [], .int .u64 0, .i 0, .i 0]], [], [], 0⟩) (σ' := [[.str r.rest, .i r.line, .i r.col]]) (ob := Tt 3) (by kernel_rfl) (tt 3) ?_
  refine ACode.seq ?_
  refine ACode.region ?_
  refine AOps.runN hT nh 7 [0, 2, 4] (fr' := ⟨[(0, .ptr 0 0), (2, .loc 0 0), (4, .int .i32 (IntKind.i32.wrap (((r.rest.getD 0 0).toNat : Int))))], [[.i 0, .str [], .int .u64 0, .i 0, .i 0]], [], [], 0⟩) (σ' := [[.str r.rest, .i r.line, .i r.col]]) (ob := True ∧ True ∧ True ∧ True ∧ (0 ≤ (0 : Int) ∧ (0 : Int) < ((r.rest) : List UInt8).length) ∧ True ∧ True ∧ True) (by kernel_rfl) ⟨trivial, trivial, trivial, trivial, (by have := len1 hne; omega), trivial, trivial, trivial⟩ ?_
  rw [IntWalk.i32_in (((r.rest.getD 0 0).toNat : Int)) (by omega)]
  refine AOps.nil ?_
  refine ACode.seq ?_
  refine ACode.block ?_
  refine ACode.seq ?_
  refine ACode.meet ⟨[(0, .ptr 0 0), (2, .loc 0 0), (4, .int .i32 (((r.rest.getD 0 0).toNat : Int))), (11, .bool ((letterS (((r.rest.getD 0 0).toNat : Int))) || (digitS (((r.rest.getD 0 0).toNat : Int)))))], [[.i 0, .str [], .int .u64 0, .i 0, .i 0]], [], [], 0⟩ [[.str r.rest, .i r.line, .i r.col]] (ACode.region ?_) ?_
  ·
   refine AOps.runN hT nh 1 [0, 2, 4, 12] (fr' := ⟨[(0, .ptr 0 0), (2, .loc 0 0), (4, .int .i32 (((r.rest.getD 0 0).toNat : Int))), (12, .int .i32 (((r.rest.getD 0 0).toNat : Int)))], [[.i 0, .str [], .int .u64 0, .i 0, .i 0]], [], [], 0⟩) (σ' := [[.str r.rest, .i r.line, .i r.col]]) (ob := Tt 2) (by kernel_rfl) (tt 2) ?_
   refine AOps.call (fid := 20) (cap := []) (avs := [.int .i32 (((r.rest.getD 0 0).toNat : Int))]) (by kernel_rfl) rfl (by kernel_rfl) (by kernel_rfl) en_20 (by kernel_rfl) (ACalls.mono (letter_walk (((r.rest.getD 0 0).toNat : Int)) _) ?_)
   rintro _ _ ⟨rfl, rfl⟩
   refine AOps.runN hT nh 1 [0, 2, 4, 14] (fr' := ⟨[(0, .ptr 0 0), (2, .loc 0 0), (4, .int .i32 (((r.rest.getD 0 0).toNat : Int))), (14, .bool (letterS (((r.rest.getD 0 0).toNat : Int))))], [[.i 0, .str [], .int .u64 0, .i 0, .i 0]], [], [], 0⟩) (σ' := [[.str r.rest, .i r.line, .i r.col]]) (ob := Tt 2) (by kernel_rfl) (tt 2) ?_
   cases h1 : (letterS (((r.rest.getD 0 0).toNat : Int)))
   ·
    refine AOps.runN hT nh 1 [0, 2, 4, 14, 15] (fr' := ⟨[(0, .ptr 0 0), (2, .loc 0 0), (4, .int .i32 (((r.rest.getD 0 0).toNat : Int))), (14, .bool false), (15, .int .i32 (((r.rest.getD 0 0).toNat : Int)))], [[.i 0, .str [], .int .u64 0, .i 0, .i 0]], [], [], 0⟩) (σ' := [[.str r.rest, .i r.line, .i r.col]]) (ob := Tt 2) (by kernel_rfl) (tt 2) ?_
    refine AOps.call (fid := 21) (cap := []) (avs := [.int .i32 (((r.rest.getD 0 0).toNat : Int))]) (by kernel_rfl) rfl (by kernel_rfl) (by kernel_rfl) en_21 (by kernel_rfl) (ACalls.mono (digit_walk (((r.rest.getD 0 0).toNat : Int)) _) ?_)
    rintro _ _ ⟨rfl, rfl⟩
    refine AOps.runN hT nh 2 [0, 2, 4, 11] (fr' := ⟨[(0, .ptr 0 0), (2, .loc 0 0), (4, .int .i32 (((r.rest.getD 0 0).toNat : Int))), (11, .bool (digitS (((r.rest.getD 0 0).toNat : Int))))], [[.i 0, .str [], .int .u64 0, .i 0, .i 0]], [], [], 0⟩) (σ' := [[.str r.rest, .i r.line, .i r.col]]) (ob := Tt 3) (by kernel_rfl) (tt 3) ?_
    refine AOps.weak [0, 2, 4, 11] (AOps.nil ⟨rfl, rfl⟩)
   ·
    refine AOps.runN hT nh 4 [0, 2, 4, 11] (fr' := ⟨[(0, .ptr 0 0), (2, .loc 0 0), (4, .int .i32 (((r.rest.getD 0 0).toNat : Int))), (11, .bool true)], [[.i 0, .str [], .int .u64 0, .i 0, .i 0]], [], [], 0⟩) (σ' := [[.str r.rest, .i r.line, .i r.col]]) (ob := Tt 3) (by kernel_rfl) (tt 3) ?_
    refine AOps.weak [0, 2, 4, 11] (AOps.nil ⟨rfl, rfl⟩)
  refine ACode.cond (t := (letterS (((r.rest.getD 0 0).toNat : Int))) || (digitS (((r.rest.getD 0 0).toNat : Int)))) (by kernel_rfl) (fun h2 => ?_) (fun h2 => ?_)
  ·
   have h2k := h2; simp only [Bool.and_eq_true, Bool.or_eq_true, Bool.and_eq_false_iff, Bool.or_eq_false_iff, decide_eq_true_eq, decide_eq_false_iff_not, beq_iff_eq, bne_iff_ne, ne_eq, Bool.not_eq_true', Bool.not_eq_false', beq_eq_false_iff_ne, bne_eq_false_iff_eq] at h2k
   refine ACode.seq ?_
   refine ACode.region ?_
   refine AOps.runN hT nh 1 [2, 18] (fr' := ⟨[(2, .loc 0 0), (18, .ptr 0 0)], [[.i 0, .str [], .int .u64 0, .i 0, .i 0]], [], [], 0⟩) (σ' := [[.str r.rest, .i r.line, .i r.col]]) (ob := Tt 2) (by kernel_rfl) (tt 2) ?_
   refine AOps.call (fid := 37) (cap := []) (avs := [.ptr 0 0]) (by kernel_rfl) rfl (by kernel_rfl) (by kernel_rfl) en_37 (by kernel_rfl) (ACalls.mono (word_walk r hok) ?_)
   rintro _ _ ⟨rfl, rfl⟩
   refine AOps.runN hT nh 4 [2, 3] (fr' := ⟨[(2, .loc 0 0), (3, .bool ((wordT r).2))], [[.i ((wordT r).1.kind), .str ((wordT r).1.text), .int .u64 ((wordT r).1.n), .i ((wordT r).1.line), .i ((wordT r).1.col)]], [], [], 0⟩) (σ' := [[.str ((skipS (wordN r.rest) r).rest), .i ((skipS (wordN r.rest) r).line), .i ((skipS (wordN r.rest) r).col)]]) (ob := Tt 5) (by kernel_rfl) (tt 5) ?_
   refine AOps.nil ?_
   refine ACode.ret ?_
   refine retQ.ret (.tuple [.agg [.i ((wordT r).1.kind), .str ((wordT r).1.text), .int .u64 ((wordT r).1.n), .i ((wordT r).1.line), .i ((wordT r).1.col)], .bool ((wordT r).2)]) (by kernel_rfl) ?_
   have e9 : wordB (r.rest.getD 0 0) = true := h2
   refine ⟨by simp only [nextR, e9, if_true]; rfl, ?_⟩
   simp only [nextT, e9, if_true]
   rfl
  ·
   have h2k := h2; simp only [Bool.and_eq_true, Bool.or_eq_true, Bool.and_eq_false_iff, Bool.or_eq_false_iff, decide_eq_true_eq, decide_eq_false_iff_not, beq_iff_eq, bne_iff_ne, ne_eq, Bool.not_eq_true', Bool.not_eq_false', beq_eq_false_iff_ne, bne_eq_false_iff_eq] at h2k
   refine ACode.seq ?_
   refine ACode.run hT nh [0, 2, 22] (fr' := ⟨[(0, .ptr 0 0), (2, .loc 0 0), (22, .bool ((((r.rest.getD 0 0).toNat : Int)) == 35))], [[.i 0, .str [], .int .u64 0, .i 0, .i 0]], [], [], 0⟩) (σ' := [[.str r.rest, .i r.line, .i r.col]]) (ob := Tt 4) (by kernel_rfl) (tt 4) ?_
   refine ACode.cond (t := (((r.rest.getD 0 0).toNat : Int)) == 35) (by kernel_rfl) (fun h3 => ?_) (fun h3 => ?_)
   ·
    have h3k := eq_of_beq h3
    refine ACode.seq ?_
    refine ACode.region ?_
    refine AOps.runN hT nh 1 [2, 25] (fr' := ⟨[(2, .loc 0 0), (25, .ptr 0 0)], [[.i 0, .str [], .int .u64 0, .i 0, .i 0]], [], [], 0⟩) (σ' := [[.str r.rest, .i r.line, .i r.col]]) (ob := Tt 2) (by kernel_rfl) (tt 2) ?_
    refine AOps.call (fid := 38) (cap := []) (avs := [.ptr 0 0]) (by kernel_rfl) rfl (by kernel_rfl) (by kernel_rfl) en_38 (by kernel_rfl) (ACalls.mono (real_walk r hok hne) ?_)
    rintro _ _ ⟨rfl, rfl⟩
    refine AOps.runN hT nh 4 [2, 3] (fr' := ⟨[(2, .loc 0 0), (3, .bool ((realT r).2))], [[.i ((realT r).1.kind), .str ((realT r).1.text), .int .u64 ((realT r).1.n), .i ((realT r).1.line), .i ((realT r).1.col)]], [], [], 0⟩) (σ' := [[.str ((realR r).rest), .i ((realR r).line), .i ((realR r).col)]]) (ob := Tt 5) (by kernel_rfl) (tt 5) ?_
    refine AOps.nil ?_
    refine ACode.ret ?_
    refine retQ.ret (.tuple [.agg [.i ((realT r).1.kind), .str ((realT r).1.text), .int .u64 ((realT r).1.n), .i ((realT r).1.line), .i ((realT r).1.col)], .bool ((realT r).2)]) (by kernel_rfl) ?_
    have e9 : wordB (r.rest.getD 0 0) = false := h2
    have e8 : r.rest.getD 0 0 = 35 := by have := h3k; apply UInt8.toNat_inj.1; have h7 : (35 : UInt8).toNat = 35 := rfl; omega
    refine ⟨by simp only [nextR, e9, e8, if_true, Bool.false_eq_true, if_false]; rfl, ?_⟩
    simp only [nextT, e9, e8, if_true, Bool.false_eq_true, if_false]
    rfl
   ·
    have h3k := ne_of_beq_false h3
    refine ACode.skip ?_
    refine ACode.seq ?_
    refine ACode.region ?_
    refine AOps.runN hT nh 1 [2, 29] (fr' := ⟨[(2, .loc 0 0), (29, .ptr 0 0)], [[.i 0, .str [], .int .u64 0, .i 0, .i 0]], [], [], 0⟩) (σ' := [[.str r.rest, .i r.line, .i r.col]]) (ob := Tt 2) (by kernel_rfl) (tt 2) ?_
    refine AOps.call (fid := 39) (cap := []) (avs := [.ptr 0 0]) (by kernel_rfl) rfl (by kernel_rfl) (by kernel_rfl) en_39 (by kernel_rfl) (ACalls.mono (sign_walk r hok hne) ?_)
    rintro _ _ ⟨rfl, rfl⟩
    refine AOps.runN hT nh 4 [2, 3] (fr' := ⟨[(2, .loc 0 0), (3, .bool ((signT r).2))], [[.i ((signT r).1.kind), .str ((signT r).1.text), .int .u64 ((signT r).1.n), .i ((signT r).1.line), .i ((signT r).1.col)]], [], [], 0⟩) (σ' := [[.str ((signR r).rest), .i ((signR r).line), .i ((signR r).col)]]) (ob := Tt 5) (by kernel_rfl) (tt 5) ?_
    refine AOps.nil ?_
    refine ACode.ret ?_
    refine retQ.ret (.tuple [.agg [.i ((signT r).1.kind), .str ((signT r).1.text), .int .u64 ((signT r).1.n), .i ((signT r).1.line), .i ((signT r).1.col)], .bool ((signT r).2)]) (by kernel_rfl) ?_
    have e9 : wordB (r.rest.getD 0 0) = false := h2
    have e8 : ¬ r.rest.getD 0 0 = 35 := by intro h7; have := h3k; rw [h7] at this; exact this rfl
    refine ⟨by simp only [nextR, e9, e8, Bool.false_eq_true, if_false]; rfl, ?_⟩
    simp only [nextT, e9, e8, Bool.false_eq_true, if_false]
    rfl

end Go.AE

set_option linter.unusedVariables false
set_option linter.unusedSimpArgs false
set_option maxRecDepth 4000
namespace Go.AE
open Go.Proofs

theorem lex_walk0 (t : List UInt8)  : ACalls Tryd.prog 15 [.str t] [] (fun e s => ∃ own, own.plain = true ∧ e = .ret (.tuple [.slice (toksAV (lexS t).1) ((lexS t).1.length) own, .agg [.i ((lexS t).2.1), .i ((lexS t).2.2.1), .i ((lexS t).2.2.2)]])) := by
  refine ACalls.enter hT Tryd.func15 rfl (by kernel_rfl) ?_
  refine ACode.seq ?_
  refine ACode.run hT (fun d => match d with | some 14 => true | _ => false) [0, 3] (fr' := ⟨[(0, .str t), (3, .loc 0 0)], [[.i 0, .i 0, .i 0]], [], [], 0⟩) (σ' := []) (ob := Tt 3) (by kernel_rfl) (tt 3) ?_
  refine ACode.seq ?_
  refine ACode.seq ?_
  refine ACode.run hT (fun d => match d with | some 14 => true | _ => false) [0, 3, 10] (fr' := ⟨[(0, .str t), (3, .loc 0 0), (10, .bool (decide ((((t) : List UInt8).length : Int) > 8192)))], [[.i 0, .i 0, .i 0]], [], [], 0⟩) (σ' := []) (ob := Tt 4) (by kernel_rfl) (tt 4) ?_
  refine ACode.cond (t := decide ((((t) : List UInt8).length : Int) > 8192)) (by kernel_rfl) (fun h1 => ?_) (fun h1 => ?_)
  ·
   have h1k := of_decide_eq_true h1
   refine ACode.seq ?_
   refine ACode.run hT (fun d => match d with | some 14 => true | _ => false) [2, 3] (fr' := ⟨[(2, .slice [] 0 .exact), (3, .loc 0 0)], [[.i 10, .i 1, .i 1]], [], [], 0⟩) (σ' := []) (ob := Tt 4) (by kernel_rfl) (tt 4) ?_
   refine ACode.ret ?_
   refine retQ.ret (.tuple [.slice [] 0 .exact, .agg [.i 10, .i 1, .i 1]]) (by kernel_rfl) ?_
   have e9 : lexS t = ([], 10, 1, 1) := by rw [lexS, if_pos h1k]
   rw [e9]
   exact ⟨.exact, rfl, rfl⟩
  ·
   have h1k := of_decide_eq_false h1
   refine ACode.skip ?_
   refine ACode.seq ?_
   refine ACode.run hT (fun d => match d with | some 14 => true | _ => false) [0, 3, 4] (fr' := ⟨[(0, .str t), (3, .loc 0 0), (4, .slice [] 0 .exact)], [[.i 0, .i 0, .i 0]], [], [], 0⟩) (σ' := []) (ob := Tt 2) (by kernel_rfl) (tt 2) ?_
   refine ACode.seq ?_
   refine ACode.run hT (fun d => match d with | some 14 => true | _ => false) [3, 4, 5] (fr' := ⟨[(3, .loc 0 0), (4, .slice [] 0 .exact), (5, .ptr 0 0)], [[.i 0, .i 0, .i 0]], [], [], 0⟩) (σ' := [[.str t, .i 1, .i 1]]) (ob := Tt 5) (by kernel_rfl) (tt 5) ?_
   refine ACode.block ?_
   refine ACode.loop [3, 4, 5] 1 0 (fun n0 fr σ' => ∃ (k : Nat), ∃ (r : Rd), ∃ (acc : List Tok), ∃ (own : Own), ∃ (tk : List Nat), ∃ (nx : Nat), fr = ⟨[(3, .loc 0 0), (4, .slice (toksAV acc) acc.length own), (5, .ptr 0 0)], [[.i 0, .i 0, .i 0]], [], tk, nx⟩ ∧ σ' = [[.str r.rest, .i r.line, .i r.col]] ∧ (RdOK r ∧ r.rest.length < k ∧ acc.length + r.rest.length ≤ 8192 ∧ Can tk 5 acc.length (toksAV acc).length own ∧ lexF (t.length + 1) ⟨t, 1, 1⟩ [] = lexF k r acc) ∧ n0 = k + 1) _ (by kernel_rfl) ⟨t.length + 1, ⟨t, 1, 1⟩, [], .exact, [], 0, rfl, rfl, ⟨⟨Int.le_refl _, Int.le_refl _, by simp only; omega, by simp only; omega, by simp only; omega⟩, by simp only; omega, by simp only [List.length_nil]; omega, rfl, rfl⟩, rfl⟩ ?_
   rintro n0 fr σ' ⟨k, r, acc, own, tk, nx, rfl, rfl, ⟨hok, hk, hacc, hC, hP⟩, rfl⟩
   have hk9 : k = (k - 1) + 1 := by omega
   have hble := blankS_le hok
   refine ACode.block ?_
   refine ACode.seq ?_
   refine ACode.region ?_
   refine AOps.runN hT (fun d => match d with | some 14 => true | _ => false) 1 [3, 4, 5, 15] (fr' := ⟨[(3, .loc 0 0), (4, .slice (toksAV acc) acc.length own), (5, .ptr 0 0), (15, .ptr 0 0)], [[.i 0, .i 0, .i 0]], [], tk, nx⟩) (σ' := [[.str r.rest, .i r.line, .i r.col]]) (ob := Tt 2) (by kernel_rfl) (tt 2) ?_
   refine AOps.call (fid := 26) (cap := []) (avs := [.ptr 0 0]) (by kernel_rfl) rfl (by kernel_rfl) (by kernel_rfl) en_26 (by kernel_rfl) (ACalls.mono (blank_walk r hok) ?_)
   rintro _ _ ⟨rfl, rfl⟩
   refine AOps.nil ?_
   refine ACode.seq ?_
   refine ACode.seq ?_
   refine ACode.run hT (fun d => match d with | some 14 => true | _ => false) [3, 4, 5, 21] (fr' := ⟨[(3, .loc 0 0), (4, .slice (toksAV acc) acc.length own), (5, .ptr 0 0), (21, .bool (((blankS r).rest) == []))], [[.i 0, .i 0, .i 0]], [], tk, nx⟩) (σ' := [[.str ((blankS r).rest), .i ((blankS r).line), .i ((blankS r).col)]]) (ob := Tt 6) (by kernel_rfl) (tt 6) ?_
   refine ACode.cond (t := ((blankS r).rest) == []) (by kernel_rfl) (fun h2 => ?_) (fun h2 => ?_)
   ·
    have h2k := eq_of_beq h2
    refine ACode.seq ?_
    cases own with
    | no => exact hC.elim
    | exact =>
     refine ACode.draw [(14, 0)] 1 [] 1 (by kernel_rfl) (by kernel_rfl) ?_
     refine AAny.run hT (fun d => match d with | some 14 => true | _ => false) (fuel := 0) [0, 1, 2, 3, 4, 5, 6, 7, 8, 9, 12, 10, 11, 13, 14] [2, 3] (fz' := false) (l' := #[true, true, true, true, true, true, true, true, true, true, true, true, true, true, true]) (fr' := ⟨[(2, .slice ((toksAV acc) ++ ([.i 0, .str [], .int .u64 0, .i ((blankS r).line), .i ((blankS r).col)] : List AV)) (acc.length + 1) (.tok nx 5)), (3, .loc 0 0)], [[.i 0, .i 0, .i 0]], [], nx :: tk, nx + 1⟩) (σ' := [[.str ((blankS r).rest), .i ((blankS r).line), .i ((blankS r).col)]]) (ob := True ∧ True ∧ True ∧ True ∧ True ∧ True ∧ True ∧ True ∧ True ∧ True ∧ True ∧ True ∧ ((toksAV acc : List AV).length = acc.length * 5 ∧ ([.i 0, .str [], .int .u64 0, .i ((blankS r).line), .i ((blankS r).col)] : List AV).length = 1 * 5 ∧ 0 < 1 ∧ (acc.length + 1) * 48 ≤ room) ∧ True ∧ True ∧ True) (by kernel_rfl) (by kernel_rfl) ⟨trivial, trivial, trivial, trivial, trivial, trivial, trivial, trivial, trivial, trivial, trivial, trivial, ⟨hC, rfl, by omega, by unfold room; omega⟩, trivial, trivial, trivial⟩ ?_
     refine AAny.done (by kernel_rfl) ?_
     refine ACode.ret ?_
     refine retQ.ret (.tuple [.slice ((toksAV acc) ++ ([.i 0, .str [], .int .u64 0, .i ((blankS r).line), .i ((blankS r).col)] : List AV)) (acc.length + 1) .no, .agg [.i 0, .i 0, .i 0]]) (by kernel_rfl) ?_
     have e8 : lexS t = lexF k r acc := by rw [lexS, if_neg (by omega), hP]
     have he : (blankS r).rest = [] := by simpa using h2
     have e9 : lexS t = (acc ++ [⟨0, [], 0, (blankS r).line, (blankS r).col⟩], 0, 0, 0) := by rw [e8, hk9, lexF, if_pos he]
     rw [e9]
     exact ⟨.no, rfl, by simp only [toksAV_append, List.length_append, toksAV, List.append_nil]; rfl⟩
    | tok u9 s9 =>
     obtain ⟨rfl, hu9⟩ := hC
     refine ACode.draw [(14, 0)] 1 [] 1 (by kernel_rfl) (by kernel_rfl) ?_
     refine AAny.run hT (fun d => match d with | some 14 => true | _ => false) (fuel := 0) [0, 1, 2, 3, 4, 5, 6, 7, 8, 9, 12, 10, 11, 13, 14] [2, 3] (fz' := false) (l' := #[true, true, true, true, true, true, true, true, true, true, true, true, true, true, true]) (fr' := ⟨[(2, .slice ((toksAV acc) ++ ([.i 0, .str [], .int .u64 0, .i ((blankS r).line), .i ((blankS r).col)] : List AV)) (acc.length + 1) (.tok nx 5)), (3, .loc 0 0)], [[.i 0, .i 0, .i 0]], [], nx :: dropTok tk (some u9), nx + 1⟩) (σ' := [[.str ((blankS r).rest), .i ((blankS r).line), .i ((blankS r).col)]]) (ob := True ∧ True ∧ True ∧ True ∧ True ∧ True ∧ True ∧ True ∧ True ∧ True ∧ True ∧ True ∧ (u9 ∈ tk ∧ ([.i 0, .str [], .int .u64 0, .i ((blankS r).line), .i ((blankS r).col)] : List AV).length = 1 * 5 ∧ (acc.length + 1) * 48 ≤ room) ∧ True ∧ True ∧ True) (by kernel_rfl) (by kernel_rfl) ⟨trivial, trivial, trivial, trivial, trivial, trivial, trivial, trivial, trivial, trivial, trivial, trivial, ⟨hu9, rfl, by unfold room; omega⟩, trivial, trivial, trivial⟩ ?_
     refine AAny.done (by kernel_rfl) ?_
     refine ACode.ret ?_
     refine retQ.ret (.tuple [.slice ((toksAV acc) ++ ([.i 0, .str [], .int .u64 0, .i ((blankS r).line), .i ((blankS r).col)] : List AV)) (acc.length + 1) .no, .agg [.i 0, .i 0, .i 0]]) (by kernel_rfl) ?_
     have e8 : lexS t = lexF k r acc := by rw [lexS, if_neg (by omega), hP]
     have he : (blankS r).rest = [] := by simpa using h2
     have e9 : lexS t = (acc ++ [⟨0, [], 0, (blankS r).line, (blankS r).col⟩], 0, 0, 0) := by rw [e8, hk9, lexF, if_pos he]
     rw [e9]
     exact ⟨.no, rfl, by simp only [toksAV_append, List.length_append, toksAV, List.append_nil]; rfl⟩
   ·
    have hne : (blankS r).rest ≠ [] := ne_of_beq_false h2
    refine ACode.skip ?_
    refine ACode.seq ?_
    refine ACode.region ?_
    refine AOps.runN hT (fun d => match d with | some 14 => true | _ => false) 1 [3, 4, 5, 36] (fr' := ⟨[(3, .loc 0 0), (4, .slice (toksAV acc) acc.length own), (5, .ptr 0 0), (36, .ptr 0 0)], [[.i 0, .i 0, .i 0]], [], tk, nx⟩) (σ' := [[.str ((blankS r).rest), .i ((blankS r).line), .i ((blankS r).col)]]) (ob := Tt 2) (by kernel_rfl) (tt 2) ?_
    refine AOps.call (fid := 27) (cap := []) (avs := [.ptr 0 0]) (by kernel_rfl) rfl (by kernel_rfl) (by kernel_rfl) en_27 (by kernel_rfl) (ACalls.mono (next_walk (blankS r) (blankS_ok hok) hne) ?_)
    rintro _ _ ⟨rfl, rfl⟩
    refine AOps.runN hT (fun d => match d with | some 14 => true | _ => false) 6 [3, 4, 5, 6, 7] (fr' := ⟨[(3, .loc 0 0), (4, .slice (toksAV acc) acc.length own), (5, .ptr 0 0), (6, .loc 1 0), (7, .bool ((nextT (blankS r)).2))], [[.i 0, .i 0, .i 0], [.i ((nextT (blankS r)).1.kind), .str ((nextT (blankS r)).1.text), .int .u64 ((nextT (blankS r)).1.n), .i ((nextT (blankS r)).1.line), .i ((nextT (blankS r)).1.col)]], [], tk, nx⟩) (σ' := [[.str ((nextR (blankS r)).rest), .i ((nextR (blankS r)).line), .i ((nextR (blankS r)).col)]]) (ob := Tt 7) (by kernel_rfl) (tt 7) ?_
    refine AOps.nil ?_
    refine ACode.seq ?_
    refine ACode.seq ?_
    refine ACode.run hT (fun d => match d with | some 14 => true | _ => false) [3, 4, 5, 6, 41] (fr' := ⟨[(3, .loc 0 0), (4, .slice (toksAV acc) acc.length own), (5, .ptr 0 0), (6, .loc 1 0), (41, .bool (!((nextT (blankS r)).2)))], [[.i 0, .i 0, .i 0], [.i ((nextT (blankS r)).1.kind), .str ((nextT (blankS r)).1.text), .int .u64 ((nextT (blankS r)).1.n), .i ((nextT (blankS r)).1.line), .i ((nextT (blankS r)).1.col)]], [], tk, nx⟩) (σ' := [[.str ((nextR (blankS r)).rest), .i ((nextR (blankS r)).line), .i ((nextR (blankS r)).col)]]) (ob := Tt 3) (by kernel_rfl) (tt 3) ?_
    refine ACode.cond (t := !((nextT (blankS r)).2)) (by kernel_rfl) (fun h3 => ?_) (fun h3 => ?_)
    ·
     have h3k := h3; simp only [Bool.and_eq_true, Bool.or_eq_true, Bool.and_eq_false_iff, Bool.or_eq_false_iff, decide_eq_true_eq, decide_eq_false_iff_not, beq_iff_eq, bne_iff_ne, ne_eq, Bool.not_eq_true', Bool.not_eq_false', beq_eq_false_iff_ne, bne_eq_false_iff_eq] at h3k
     refine ACode.seq ?_
     refine ACode.draw [(6, 0)] 2 [] 0 (by kernel_rfl) (by kernel_rfl) ?_
     refine AAny.run hT (fun d => match d with | some 14 => true | _ => false) (fuel := 0) [0, 1, 2, 3, 4, 5, 6] [2, 3] (fz' := false) (l' := #[true, true, true, true, true, true, true]) (fr' := ⟨[(2, .slice [] 0 .exact), (3, .loc 0 0)], [[.i 3, .i ((nextT (blankS r)).1.line), .i ((nextT (blankS r)).1.col)], [.i ((nextT (blankS r)).1.kind), .str ((nextT (blankS r)).1.text), .int .u64 ((nextT (blankS r)).1.n), .i ((nextT (blankS r)).1.line), .i ((nextT (blankS r)).1.col)]], [], tk, nx⟩) (σ' := [[.str ((nextR (blankS r)).rest), .i ((nextR (blankS r)).line), .i ((nextR (blankS r)).col)]]) (ob := Tt 8) (by kernel_rfl) (by kernel_rfl) (tt 8) ?_
     refine AAny.done (by kernel_rfl) ?_
     refine ACode.ret ?_
     refine retQ.ret (.tuple [.slice [] 0 .exact, .agg [.i 3, .i ((nextT (blankS r)).1.line), .i ((nextT (blankS r)).1.col)]]) (by kernel_rfl) ?_
     have e8 : lexS t = lexF k r acc := by rw [lexS, if_neg (by omega), hP]
     have hnx : ¬ (nextT (blankS r)).2 = true := by simpa using h3
     have e9 : lexS t = ([], 3, (nextT (blankS r)).1.line, (nextT (blankS r)).1.col) := by rw [e8, hk9, lexF, if_neg hne, if_neg hnx]
     rw [e9]
     exact ⟨.exact, rfl, rfl⟩
    ·
     have h3k := h3; simp only [Bool.and_eq_true, Bool.or_eq_true, Bool.and_eq_false_iff, Bool.or_eq_false_iff, decide_eq_true_eq, decide_eq_false_iff_not, beq_iff_eq, bne_iff_ne, ne_eq, Bool.not_eq_true', Bool.not_eq_false', beq_eq_false_iff_ne, bne_eq_false_iff_eq] at h3k
     refine ACode.skip ?_
     refine ACode.region ?_
     refine AOps.runN hT (fun d => match d with | some 14 => true | _ => false) 3 [3, 5, 47, 49] (fr' := ⟨[(3, .loc 0 0), (5, .ptr 0 0), (47, .slice (toksAV acc) acc.length own), (49, .slice [.i ((nextT (blankS r)).1.kind), .str ((nextT (blankS r)).1.text), .int .u64 ((nextT (blankS r)).1.n), .i ((nextT (blankS r)).1.line), .i ((nextT (blankS r)).1.col)] 1 .exact)], [[.i 0, .i 0, .i 0], [.i ((nextT (blankS r)).1.kind), .str ((nextT (blankS r)).1.text), .int .u64 ((nextT (blankS r)).1.n), .i ((nextT (blankS r)).1.line), .i ((nextT (blankS r)).1.col)]], [], tk, nx⟩) (σ' := [[.str ((nextR (blankS r)).rest), .i ((nextR (blankS r)).line), .i ((nextR (blankS r)).col)]]) (ob := Tt 4) (by kernel_rfl) (tt 4) ?_
     refine AOps.append hT (cs := toksAV acc) (ds := [.i ((nextT (blankS r)).1.kind), .str ((nextT (blankS r)).1.text), .int .u64 ((nextT (blankS r)).1.n), .i ((nextT (blankS r)).1.line), .i ((nextT (blankS r)).1.col)]) (n := acc.length) (k := 1) (own := own) (own' := .exact) (e := 33) (b := true) (sz := 5) (by_ := 48) [] (by kernel_rfl) rfl (by kernel_rfl) (by kernel_rfl) (by kernel_rfl) (by kernel_rfl) hC (by omega) rfl (by unfold room; omega) (fun u hu => by cases hu) ?_
     refine AOps.runN hT (fun d => match d with | some 14 => true | _ => false) 1 [3, 4, 5] (fr' := ⟨[(3, .loc 0 0), (4, .slice ((toksAV acc) ++ ([.i ((nextT (blankS r)).1.kind), .str ((nextT (blankS r)).1.text), .int .u64 ((nextT (blankS r)).1.n), .i ((nextT (blankS r)).1.line), .i ((nextT (blankS r)).1.col)] : List AV)) (acc.length + 1) (.tok nx 5)), (5, .ptr 0 0)], [[.i 0, .i 0, .i 0], [.i ((nextT (blankS r)).1.kind), .str ((nextT (blankS r)).1.text), .int .u64 ((nextT (blankS r)).1.n), .i ((nextT (blankS r)).1.line), .i ((nextT (blankS r)).1.col)]], [], nx :: [], nx + 1⟩) (σ' := [[.str ((nextR (blankS r)).rest), .i ((nextR (blankS r)).line), .i ((nextR (blankS r)).col)]]) (ob := Tt 2) (by kernel_rfl) (tt 2) ?_
     refine AOps.nil ?_
     refine ⟨by kernel_rfl, _, ?_, k - 1, nextR (blankS r), acc ++ [(nextT (blankS r)).1], .tok nx 5, [nx], nx + 1, (by simp only [toksAV_append, List.length_append, toksAV, List.append_nil]; rfl), rfl, ?_, rfl⟩
     ·omega
     ·have hnx : (nextT (blankS r)).2 = true := by simpa using h3
      have hlt := nextR_lt hne hnx
      refine ⟨nextR_ok (blankS_ok hok) hne, by omega, by simp only [List.length_append, List.length_cons, List.length_nil]; omega, ⟨rfl, by simp⟩, ?_⟩
      rw [hP, hk9, lexF, if_neg hne, if_pos hnx, Nat.add_sub_cancel]

theorem lex_walk (t : List UInt8) (σ : St) : ACalls Tryd.prog 15 [.str t] σ (fun e s => σ = s ∧ ∃ own, own.plain = true ∧ e = .ret (.tuple [.slice (toksAV (lexS t).1) ((lexS t).1.length) own, .agg [.i ((lexS t).2.1), .i ((lexS t).2.2.1), .i ((lexS t).2.2.2)]])) := by
  refine ((lex_walk0 t).frame rfl ?_).mono ?_
  ·rintro e s ⟨own, _, rfl⟩
   simp [AEnd.closed, closed, closedAll, toksAV_closed]
  ·rintro e s ⟨h1, _, h2⟩
   exact ⟨h1, h2⟩


end Go.AE

set_option linter.unusedVariables false
set_option linter.unusedSimpArgs false
set_option maxRecDepth 4000
namespace Go.AE
open Go.Proofs

theorem lexp_ok (t : List UInt8) (l : List Tok) (h : lexS t = (l, 0, 0, 0)) (σ : St) : ACalls Tryd.prog 15 [.str t] σ (fun e s => σ = s ∧ ∃ own, own.plain = true ∧ e = .ret (.tuple [.slice (toksAV l) l.length own, .agg [.i 0, .i 0, .i 0]])) := by
  have := lex_walk t σ
  rw [h] at this
  exact this
theorem lexp_err (t : List UInt8) (k ln cl : Int) (h : lexS t = ([], k, ln, cl)) (σ : St) : ACalls Tryd.prog 15 [.str t] σ (fun e s => σ = s ∧ ∃ own, own.plain = true ∧ e = .ret (.tuple [.slice [] 0 own, .agg [.i k, .i ln, .i cl]])) := by
  have := lex_walk t σ
  rw [h] at this
  exact this

theorem catch28 {V : View} {vs : List Value} {cs : List AV} {n : Nat} {lo : Own} {p d ea eb ec : Int} {o0 o1 o2 o3 f0 f1 f2 x0 x1 x2 : AV} {x : Value}
   (hH : HInv V [[.slice cs n lo, .i p, .i d, .i ea, .i eb, .i ec], [o0, o1, o2, o3], [f0, f1, f2], [x0, x1, x2], [.ptr 0 0]]) (hv : CRs V [.ptr 4 0, .ptr 1 0, .ptr 2 0] vs) (hx : CR V (.iface 73 (.agg [])) x) :
   CallsD Tryd.prog 28 vs.toArray (.panicking [{ v := x, recovered := false }]) V.w fun e u' w' => e = .returned (.tuple #[]) ∧ u' = .panicking [{ v := x, recovered := true }] ∧
    ∃ V', V'.w = w' ∧ HInv V' [[.slice cs n lo, .i p, .i d, .i ea, .i eb, .i ec], [.slice [] 0 .exact, .slice [] 0 .exact, .slice [] 0 .exact, .slice [] 0 .exact], [.i ea, .i eb, .i ec], [x0, x1, x2], [.ptr 0 0]] ∧ Gr V V' := by
  refine callsD_of_wpS Tryd.func28 (c := _) rfl ?_
  intro c₀ fs hu
  obtain ⟨g, R⟩ := Rel.enter (ntm := 14) (args := [.ptr 4 0, .ptr 1 0, .ptr 2 0]) rfl hH hv
  refine wpS_seq (wpS_region ?_)
  show wpOpsS Tryd.prog _ _ [0, 1] _ _ _
  refine recoverS R (nt := 14) (v := .iface 73 (.agg [])) rfl rfl (by kernel_rfl) (by kernel_rfl) rfl hu (CR_mono R.gr.le _ _ hx) ?_
  intro R1
  refine stepS hT false R1 (nt := 14) rfl rfl (by kernel_rfl) (by kernel_rfl) (v := .iface 73 (.agg [])) (fr' := Fr.put (fr0 [.ptr 4 0, .ptr 1 0, .ptr 2 0]) (some 4) (.iface 73 (.agg []))) (σ' := [[.slice cs n lo, .i p, .i d, .i ea, .i eb, .i ec], [o0, o1, o2, o3], [f0, f1, f2], [x0, x1, x2], [.ptr 0 0]]) (ob := Tt 1) (by kernel_rfl) trivial ?_
  intro g2 z w2 R2
  refine wpS_of_wp ?_
  have hA : ACode Tryd.prog 14 (match Tryd.f28.body with | some (.seq _ y) => y | _ => .skip) (fun ax fr σ' => ax = .normal ∧ σ' = [[.slice cs n lo, .i p, .i d, .i ea, .i eb, .i ec], [.slice [] 0 .exact, .slice [] 0 .exact, .slice [] 0 .exact, .slice [] 0 .exact], [.i ea, .i eb, .i ec], [x0, x1, x2], [.ptr 0 0]]) (Fr.put (Fr.put (fr0 [.ptr 4 0, .ptr 1 0, .ptr 2 0]) (some 4) (.iface 73 (.agg []))) (some 3) (.iface 73 (.agg []))) ([[.slice cs n lo, .i p, .i d, .i ea, .i eb, .i ec], [o0, o1, o2, o3], [f0, f1, f2], [x0, x1, x2], [.ptr 0 0]]) := by
   refine ACode.seq ?_
   refine ACode.run hT nh [0, 1, 2, 3, 6] (fr' := ⟨[(0, .ptr 4 0), (1, .ptr 1 0), (2, .ptr 2 0), (3, .iface 73 (.agg [])), (6, .bool true)], [], [], [], 0⟩) (σ' := [[.slice cs n lo, .i p, .i d, .i ea, .i eb, .i ec], [o0, o1, o2, o3], [f0, f1, f2], [x0, x1, x2], [.ptr 0 0]]) (ob := Tt 3) (by kernel_rfl) (tt 3) ?_
   refine ACode.cond (t := true) (by kernel_rfl) (fun _ => ?_) (fun h => by cases h)
   refine ACode.seq ?_
   refine ACode.region ?_
   refine AOps.runN hT nh 1 [0, 1, 2, 7] (fr' := ⟨[(0, .ptr 4 0), (1, .ptr 1 0), (2, .ptr 2 0), (7, .iface 73 (.agg []))], [], [], [], 0⟩) (σ' := [[.slice cs n lo, .i p, .i d, .i ea, .i eb, .i ec], [o0, o1, o2, o3], [f0, f1, f2], [x0, x1, x2], [.ptr 0 0]]) (ob := Tt 2) (by kernel_rfl) (tt 2) ?_
   refine AOps.assertOk (by kernel_rfl) rfl (by kernel_rfl) (v := .agg []) (t := 73) (by kernel_rfl) Tryd.underlying73 rfl ?_
   refine AOps.nil ?_
   refine ACode.run hT nh [] (fr' := ⟨[], [], [], [], 0⟩) (σ' := [[.slice cs n lo, .i p, .i d, .i ea, .i eb, .i ec], [.slice [] 0 .exact, .slice [] 0 .exact, .slice [] 0 .exact, .slice [] 0 .exact], [.i ea, .i eb, .i ec], [x0, x1, x2], [.ptr 0 0]]) (ob := Tt 8) (by kernel_rfl) (tt 8) ?_
   exact ⟨rfl, rfl⟩
  refine wp_mono (hA _ _ _ _ rfl R2) fun e a' w' ⟨ax, g', fr', σ', ⟨h1, h2⟩, hr⟩ => ?_
  subst h1
  subst h2
  cases e <;> simp only [RelX] at hr
  refine ⟨hr.df, _, rfl, .tuple #[], ?_, rfl, rfl, g'.V, hr.w, hr.H, hr.gr⟩
  rw [results_eq]
  simp [Tryd.f28, Sem.run_bind, Sem.run_pure, Result.andThen_ok]

theorem idle28 {V : View} {vs : List Value} {σ : St} (hH : HInv V σ) (hv : CRs V [.ptr 4 0, .ptr 1 0, .ptr 2 0] vs) :
   CallsD Tryd.prog 28 vs.toArray .returning V.w fun e u' w' => e = .returned (.tuple #[]) ∧ u' = .returning ∧ ∃ V', V'.w = w' ∧ HInv V' σ ∧ Gr V V' := by
  refine callsD_of_wpS Tryd.func28 (c := _) rfl ?_
  intro c₀ fs hu
  obtain ⟨g, R⟩ := Rel.enter (ntm := 14) (args := [.ptr 4 0, .ptr 1 0, .ptr 2 0]) rfl hH hv
  refine wpS_seq (wpS_region ?_)
  show wpOpsS Tryd.prog _ _ [0, 1] _ _ _
  refine recoverS_idle R (nt := 14) rfl rfl (by kernel_rfl) (by kernel_rfl) rfl hu ?_
  intro R1
  refine stepS hT false R1 (nt := 14) rfl rfl (by kernel_rfl) (by kernel_rfl) (v := .nilIface) (fr' := Fr.put (fr0 [.ptr 4 0, .ptr 1 0, .ptr 2 0]) (some 4) .nilIface) (σ' := σ) (ob := Tt 1) (by kernel_rfl) trivial ?_
  intro g2 z w2 R2
  refine wpS_of_wp ?_
  have hA : ACode Tryd.prog 14 (match Tryd.f28.body with | some (.seq _ y) => y | _ => .skip) (fun ax fr σ' => ax = .normal ∧ σ' = σ) (Fr.put (Fr.put (fr0 [.ptr 4 0, .ptr 1 0, .ptr 2 0]) (some 4) .nilIface) (some 3) .nilIface) (σ) := by
   refine ACode.seq ?_
   refine ACode.run hT nh [6] (fr' := ⟨[(6, .bool false)], [], [], [], 0⟩) (σ' := σ) (ob := Tt 3) (by kernel_rfl) (tt 3) ?_
   refine ACode.cond (t := false) (by kernel_rfl) (fun h => by cases h) (fun _ => ?_)
   exact ACode.skip ⟨rfl, rfl⟩
  refine wp_mono (hA _ _ _ _ rfl R2) fun e a' w' ⟨ax, g', fr', σ', ⟨h1, h2⟩, hr⟩ => ?_
  subst h1
  subst h2
  cases e <;> simp only [RelX] at hr
  refine ⟨hr.df, _, by rw [← hu], .tuple #[], ?_, rfl, rfl, g'.V, hr.w, hr.H, hr.gr⟩
  rw [results_eq]
  simp [Tryd.f28, Sem.run_bind, Sem.run_pure, Result.andThen_ok]

def parseAV (x : R Pg) : AV := match x with
  | .ok p _ => .tuple [.agg (pgAV p), .agg [.i 0, .i 0, .i 0]]
  | .bad a b c => .tuple [.agg [.slice [] 0 .exact, .slice [] 0 .exact, .slice [] 0 .exact, .slice [] 0 .exact], .agg [.i a, .i b, .i c]]
  | .out => .any

theorem cap17 {E : Ent} {g : Gh} {fr : Fr} {prow : List AV} {a : Act} {w : World} (R : Rel E g fr [prow] a w) (h2 : look fr.sl 2 = .loc 0 0) (h3 : look fr.sl 3 = .loc 1 0) (h6 : look fr.sl 6 = .loc 3 0) :
   CRs g.objs [.ptr 4 0, .ptr 1 0, .ptr 2 0] [a.tmps.getD 6 undef, a.tmps.getD 2 undef, a.tmps.getD 3 undef] := by
  have hn : g.V.n = 1 := R.H.n
  have e2 := VR_prom (R.sl 2); have e3 := VR_prom (R.sl 3); have e6 := VR_prom (R.sl 6)
  rw [h2] at e2; rw [h3] at e3; rw [h6] at e6
  simp only [prom, hn] at e2 e3 e6
  simp only [CRs]
  exact ⟨_, _, rfl, e6, _, _, rfl, e2, _, _, rfl, e3, rfl⟩

theorem inv17 {V' : View} {w : World} {tmps : Array Value} {u v : AV} {p q : Prop} {σ : St} (hw : V'.w = w) (hH : HInv V' σ) (c2 : CR V' (.ptr 1 0) (tmps.getD 2 undef)) (c3 : CR V' (.ptr 2 0) (tmps.getD 3 undef))
   (h1 : acell2 T ⟨[(2, .ptr 1 0), (3, .ptr 2 0)], [], [], [], 0⟩ σ 2 40 = some (u, p)) (h2 : acell2 T ⟨[(2, .ptr 1 0), (3, .ptr 2 0)], [], [], [], 0⟩ σ 3 27 = some (v, q)) (hp : p) (hq : q) :
   ∃ x, (results Tryd.f17 tmps).run Tryd.prog w = .ok x w ∧ CR V' (.tuple [u, v]) x := by
  obtain ⟨g, hg, R⟩ := Rel.bare (a := { tmps := tmps, defers := [] }) hw hH [(2, .ptr 1 0), (3, .ptr 2 0)] (by
   intro k
   by_cases e2 : k = 2
   ·subst e2; exact c2
   by_cases e3 : k = 3
   ·subst e3; exact c3
   have : look [(2, AV.ptr 1 0), (3, .ptr 2 0)] k = .any := by simp [look, Ne.symm e2, Ne.symm e3]
   rw [this]; trivial)
  rw [← hg]
  exact results2 hT R rfl h1 h2 hp hq

def zPg : List AV := [.slice [] 0 .exact, .slice [] 0 .exact, .slice [] 0 .exact, .slice [] 0 .exact]
def zFt : List AV := [.i 0, .i 0, .i 0]

theorem leave_ret17 {E : Ent} {g : Gh} {fr : Fr} {prow : List AV} {p : Pg} {a : Act} {w : World} {K : AEnd → St → Prop} (R : Rel E g fr [prow] a w) (hbx : fr.bx = [pgAV p, zFt, zFt, [.ptr 0 0]]) (h2 : look fr.sl 2 = .loc 0 0) (h3 : look fr.sl 3 = .loc 1 0) (h6 : look fr.sl 6 = .loc 3 0)
   (hdf : a.defers = [⟨.fn (.func 28) #[a.tmps.getD 6 undef, a.tmps.getD 2 undef, a.tmps.getD 3 undef], #[]⟩]) (hK : ∀ σ, K (.ret (.tuple [.agg (pgAV p), .agg zFt])) σ) : Leaves Tryd.prog Tryd.f17 a.tmps (FinR E.V K) a.defers .returning w := by
  obtain ⟨hH, hG⟩ := R.objs
  have hc := cap17 R h2 h3 h6
  rw [hbx] at hH
  rw [hdf]
  refine leaves_cons (by simp) (f := 28) (args := #[a.tmps.getD 6 undef, a.tmps.getD 2 undef, a.tmps.getD 3 undef]) ?_ ?_
  ·simp only [invoke, Array.empty_append]
   exact en_28 _ w
  ·have hi := idle28 hH hc
   have hw : g.objs.w = w := R.w
   rw [hw] at hi
   refine hi.mono ?_
   rintro e u' w' ⟨rfl, rfl, V', hV, hH', hG'⟩
   have hn : g.V.n = 1 := R.H.n
   simp only [CRs] at hc
   obtain ⟨_, _, e1, c6, _, _, e2, c2, _, _, e3, c3, _⟩ := hc
   simp only [List.cons.injEq] at e1 e2 e3
   obtain ⟨rfl, rfl⟩ := e1
   simp only [List.cons.injEq] at e2
   obtain ⟨rfl, rfl⟩ := e2
   simp only [List.cons.injEq] at e3
   obtain ⟨rfl, rfl⟩ := e3
   obtain ⟨x, hx, cx⟩ := inv17 (u := .agg (pgAV p)) (v := .agg zFt) (p := True) (q := True) hV hH' (CR_mono hG'.le _ _ c2) (CR_mono hG'.le _ _ c3) (by kernel_rfl) (by kernel_rfl) trivial trivial
   refine ⟨x, hx, ?_⟩
   exact ⟨.ret (.tuple [.agg (pgAV p), .agg zFt]), V', _, hK _, hV, hH', hG.trans hG', cx⟩

theorem leave_panic17 {E : Ent} {g : Gh} {fr : Fr} {cs : List AV} {n : Nat} {lo : Own} {p d ea eb ec : Int} {a : Act} {w : World} {x : Value} {K : AEnd → St → Prop} (R : Rel E g fr [[.slice cs n lo, .i p, .i d, .i ea, .i eb, .i ec]] a w) (hbx : fr.bx = [zPg, zFt, zFt, [.ptr 0 0]]) (h2 : look fr.sl 2 = .loc 0 0) (h3 : look fr.sl 3 = .loc 1 0) (h6 : look fr.sl 6 = .loc 3 0)
   (hdf : a.defers = [⟨.fn (.func 28) #[a.tmps.getD 6 undef, a.tmps.getD 2 undef, a.tmps.getD 3 undef], #[]⟩]) (hx : CR g.V (.iface 73 (.agg [])) x) (hK : ∀ σ, K (.ret (.tuple [.agg zPg, .agg [.i ea, .i eb, .i ec]])) σ) : Leaves Tryd.prog Tryd.f17 a.tmps (FinR E.V K) a.defers (.panicking [{ v := x, recovered := false }]) w := by
  obtain ⟨hH, hG⟩ := R.objs
  have hc := cap17 R h2 h3 h6
  rw [hbx] at hH
  rw [hdf]
  refine leaves_cons (by simp) (f := 28) (args := #[a.tmps.getD 6 undef, a.tmps.getD 2 undef, a.tmps.getD 3 undef]) ?_ ?_
  ·simp only [invoke, Array.empty_append]
   exact en_28 _ w
  ·have hi := catch28 (o0 := .slice [] 0 .exact) (o1 := .slice [] 0 .exact) (o2 := .slice [] 0 .exact) (o3 := .slice [] 0 .exact) (f0 := .i 0) (f1 := .i 0) (f2 := .i 0) (x0 := .i 0) (x1 := .i 0) (x2 := .i 0) hH hc (CR_mono g.objs_le _ _ hx)
   have hw : g.objs.w = w := R.w
   rw [hw] at hi
   refine hi.mono ?_
   rintro e u' w' ⟨rfl, rfl, V', hV, hH', hG'⟩
   have hn : g.V.n = 1 := R.H.n
   simp only [CRs] at hc
   obtain ⟨_, _, e1, c6, _, _, e2, c2, _, _, e3, c3, _⟩ := hc
   simp only [List.cons.injEq] at e1 e2 e3
   obtain ⟨rfl, rfl⟩ := e1
   simp only [List.cons.injEq] at e2
   obtain ⟨rfl, rfl⟩ := e2
   simp only [List.cons.injEq] at e3
   obtain ⟨rfl, rfl⟩ := e3
   obtain ⟨x, hx, cx⟩ := inv17 (u := .agg zPg) (v := .agg [.i ea, .i eb, .i ec]) (p := True) (q := True) hV hH' (CR_mono hG'.le _ _ c2) (CR_mono hG'.le _ _ c3) (by kernel_rfl) (by kernel_rfl) trivial trivial
   refine ⟨x, hx, ?_⟩
   exact ⟨.ret (.tuple [.agg zPg, .agg [.i ea, .i eb, .i ec]]), V', _, hK _, hV, hH', hG.trans hG', cx⟩

theorem tail17 (l : List Tok) (hll : l.length ≤ 100000) (n : Nat) (hne : programF n l pgZ ⟨0, 0⟩ ≠ .out) {E3 : Ent} {g3 : Gh} {a3 : Act} {w : World} (hn3 : E3.nt = 24)
   (R3 : Rel E3 g3 ⟨[(20, .any), (2, .loc 0 0), (3, .loc 1 0), (6, .loc 3 0)], [[.slice [] 0 .exact, .slice [] 0 .exact, .slice [] 0 .exact, .slice [] 0 .exact], [.i 0, .i 0, .i 0], [.i 0, .i 0, .i 0], [.ptr 0 0]], [], [], 0⟩ [[.slice (toksAV l) l.length .no, .i 0, .i 0, .i 0, .i 0, .i 0]] a3 w)
   (hdf3 : E3.df = [⟨.fn (.func 28) #[a3.tmps.getD 6 undef, a3.tmps.getD 2 undef, a3.tmps.getD 3 undef], #[]⟩]) :
   Code.wp Tryd.prog (match Tryd.f17.body with | some (.seq _ (.seq _ (.seq _ (.seq _ (.seq _ y))))) => y | _ => .skip) (bodyPostD Tryd.prog Tryd.f17 (FinR E3.V (fun e _ => e = .ret (parseAV (programF n l pgZ ⟨0, 0⟩))))) a3 w := by
  refine wp_seq (wp_region_list ?_)
  refine stepQ hT false R3 (nt := 24) hn3 (by kernel_rfl) (by kernel_rfl) (v := .ptr 0 0) (fr' := ⟨[(20, .any), (2, .loc 0 0), (3, .loc 1 0), (6, .loc 3 0)], [[.slice [] 0 .exact, .slice [] 0 .exact, .slice [] 0 .exact, .slice [] 0 .exact], [.i 0, .i 0, .i 0], [.i 0, .i 0, .i 0], [.ptr 0 0]], [], [], 0⟩) (σ' := [[.slice (toksAV l) l.length .no, .i 0, .i 0, .i 0, .i 0, .i 0]]) (ob := Tt 1) (by kernel_rfl) trivial ?_
  intro g4 z4 w4 R4
  refine callQ R4 (nt := 24) (fid := 29) (cap := []) (avs := [.ptr 0 0]) hn3 (by kernel_rfl) rfl (by kernel_rfl) (by kernel_rfl) en_29 (by kernel_rfl) (p_program l .no hll n ⟨0, 0⟩ hne) ?_ ?_
  ·intro v σ' g5 z5 w5 hX R5
   cases hr : programF n l pgZ ⟨0, 0⟩ with
   | out => exact absurd hr hne
   | bad ea eb ec => rw [hr] at hX; exact absurd hX.1 (by simp)
   | ok p s1 =>
    rw [hr] at hX
    obtain ⟨hv, rfl⟩ := hX
    simp only [AEnd.ret.injEq] at hv
    subst hv
    refine stepQ hT false R5 (nt := 24) hn3 (by kernel_rfl) (by kernel_rfl) (v := .agg zFt) (fr' := Fr.put (Fr.put ⟨[(20, .any), (2, .loc 0 0), (3, .loc 1 0), (6, .loc 3 0)], [[.slice [] 0 .exact, .slice [] 0 .exact, .slice [] 0 .exact, .slice [] 0 .exact], [.i 0, .i 0, .i 0], [.i 0, .i 0, .i 0], [.ptr 0 0]], [], [], 0⟩ (some 21) (.ptr 0 0)) (some 22) (.agg (pgAV p))) (σ' := [psAV .no l s1]) (ob := Tt 1) (by kernel_rfl) trivial ?_
    intro g6 z6 w6 R6
    refine stepQ hT false R6 (nt := 24) hn3 (by kernel_rfl) (by kernel_rfl) (v := .any) (fr' := Fr.put (Fr.put (Fr.put ⟨[(20, .any), (2, .loc 0 0), (3, .loc 1 0), (6, .loc 3 0)], [pgAV p, zFt, zFt, [.ptr 0 0]], [], [], 0⟩ (some 21) (.ptr 0 0)) (some 22) (.agg (pgAV p))) (some 23) (.agg zFt)) (σ' := [psAV .no l s1]) (ob := Tt 1) (by kernel_rfl) trivial ?_
    intro g7 z7 w7 R7
    refine stepQ hT false R7 (nt := 24) hn3 (by kernel_rfl) (by kernel_rfl) (v := .any) (fr' := Fr.put (Fr.put (Fr.put ⟨[(20, .any), (2, .loc 0 0), (3, .loc 1 0), (6, .loc 3 0)], [pgAV p, zFt, zFt, [.ptr 0 0]], [], [], 0⟩ (some 21) (.ptr 0 0)) (some 22) (.agg (pgAV p))) (some 23) (.agg zFt)) (σ' := [psAV .no l s1]) (ob := Tt 1) (by kernel_rfl) trivial ?_
    intro g8 z8 w8 R8
    refine wp_ret ?_
    refine leave_ret17 R8 rfl (by kernel_rfl) (by kernel_rfl) (by kernel_rfl) ?_ (fun _ => by simp only [parseAV]; rfl)
    rw [R8.df, hdf3]
    simp [Act.put, Array.getD_eq_getD_getElem?]
  ·intro v σ' g5 w5 x hX R5 hx
   cases hr : programF n l pgZ ⟨0, 0⟩ with
   | out => exact absurd hr hne
   | ok p s1 => rw [hr] at hX; exact absurd hX.1 (by simp)
   | bad ea eb ec =>
    rw [hr] at hX
    obtain ⟨hv, pp, dd, rfl⟩ := hX
    simp only [AEnd.panic.injEq] at hv
    subst hv
    refine leave_panic17 R5 rfl (by kernel_rfl) (by kernel_rfl) (by kernel_rfl) ?_ hx (fun _ => by simp only [parseAV]; rfl)
    rw [R5.df, hdf3]
    simp [Act.put, Array.getD_eq_getD_getElem?]

theorem parse_ok0 (t : List UInt8) (l : List Tok) (hl : lexS t = (l, 0, 0, 0)) (hll : l.length ≤ 100000) (n : Nat) (hne : programF n l pgZ ⟨0, 0⟩ ≠ .out) :
   ACalls Tryd.prog 17 [.str t] [] (fun e _ => e = .ret (parseAV (programF n l pgZ ⟨0, 0⟩))) := by
  intro V vs hH hv
  refine calls_of_wp_defers (R := FinR V (fun e _ => e = .ret (parseAV (programF n l pgZ ⟨0, 0⟩)))) Tryd.func17 (c := _) rfl ?_
  obtain ⟨g0, R0⟩ := Rel.enter (ntm := 24) (args := [.str t]) rfl hH hv
  refine (?_ : QCode Tryd.prog 24 (match Tryd.f17.body with | some c => c | _ => .skip) (fun E => bodyPostD Tryd.prog Tryd.f17 (FinR E.V (fun e _ => e = .ret (parseAV (programF n l pgZ ⟨0, 0⟩))))) (fr0 [.str t]) []) _ g0 _ _ rfl rfl R0
  refine QCode.seq ?_
  refine ACode.run hT (fun d => match d with | some 19 => true | _ => false) [0, 2, 3] (fr' := ⟨[(0, .str t), (2, .loc 0 0), (3, .loc 1 0)], [[.slice [] 0 .exact, .slice [] 0 .exact, .slice [] 0 .exact, .slice [] 0 .exact], [.i 0, .i 0, .i 0]], [], [], 0⟩) (σ' := []) (ob := Tt 3) (by kernel_rfl) (tt 3) ?_
  refine ⟨rfl, ?_⟩
  refine QCode.seq ?_
  refine ACode.region ?_
  refine AOps.runN hT (fun d => match d with | some 19 => true | _ => false) 1 [2, 3, 8] (fr' := ⟨[(2, .loc 0 0), (3, .loc 1 0), (8, .str t)], [[.slice [] 0 .exact, .slice [] 0 .exact, .slice [] 0 .exact, .slice [] 0 .exact], [.i 0, .i 0, .i 0]], [], [], 0⟩) (σ' := []) (ob := Tt 2) (by kernel_rfl) (tt 2) ?_
  refine AOps.call (fid := 15) (cap := []) (avs := [.str t]) (by kernel_rfl) rfl (by kernel_rfl) (by kernel_rfl) en_15 (by kernel_rfl) (ACalls.mono (lexp_ok t l hl _) ?_)
  rintro _ _ ⟨rfl, lo, hlo, rfl⟩
  refine AOps.runN hT (fun d => match d with | some 19 => true | _ => false) 6 [2, 3, 4, 5] (fr' := ⟨[(2, .loc 0 0), (3, .loc 1 0), (4, .slice (toksAV l) l.length lo), (5, .loc 2 0)], [[.slice [] 0 .exact, .slice [] 0 .exact, .slice [] 0 .exact, .slice [] 0 .exact], [.i 0, .i 0, .i 0], [.i 0, .i 0, .i 0]], [], [], 0⟩) (σ' := []) (ob := Tt 7) (by kernel_rfl) (tt 7) ?_
  refine AOps.nil ?_
  refine ⟨rfl, ?_⟩
  refine QCode.seq ?_
  refine ACode.seq ?_
  refine ACode.run hT (fun d => match d with | some 19 => true | _ => false) [2, 3, 4, 5, 14] (fr' := ⟨[(2, .loc 0 0), (3, .loc 1 0), (4, .slice (toksAV l) l.length lo), (5, .loc 2 0), (14, .bool false)], [[.slice [] 0 .exact, .slice [] 0 .exact, .slice [] 0 .exact, .slice [] 0 .exact], [.i 0, .i 0, .i 0], [.i 0, .i 0, .i 0]], [], [], 0⟩) (σ' := []) (ob := Tt 4) (by kernel_rfl) (tt 4) ?_
  refine ACode.cond (t := false) (by kernel_rfl) (fun h => Bool.noConfusion h) (fun _ => ?_)
  refine ACode.skip ?_
  refine ⟨rfl, ?_⟩
  refine QCode.softSl 4 ?_
  refine QCode.seq ?_
  refine ACode.run hT (fun d => match d with | some 19 => true | _ => false) [2, 3, 6] (fr' := ⟨[(2, .loc 0 0), (3, .loc 1 0), (6, .loc 3 0)], [[.slice [] 0 .exact, .slice [] 0 .exact, .slice [] 0 .exact, .slice [] 0 .exact], [.i 0, .i 0, .i 0], [.i 0, .i 0, .i 0], [.ptr 0 0]], [], [], 0⟩) (σ' := [[.slice (toksAV l) l.length .no, .i 0, .i 0, .i 0, .i 0, .i 0]]) (ob := Tt 6) (by kernel_rfl) (tt 6) ?_
  refine ⟨rfl, ?_⟩
  intro E g a w hnt hdf R
  refine wp_seq (wp_region_list ?_)
  refine wpList_take (awanted_sound R (by kernel_rfl)) (nx := .value (.func (.func 28) #[] #[a.eval (.tmp 6), a.eval (.tmp 2), a.eval (.tmp 3)])) (z := .func (.func 28) #[] #[a.eval (.tmp 6), a.eval (.tmp 2), a.eval (.tmp 3)]) (w' := w) (by simp [execOp, Instr.makeFunc]) (.inl rfl) ?_
  have R2 := R.put (some 20) (v := .any) (x := .func (.func 28) #[] #[a.eval (.tmp 6), a.eval (.tmp 2), a.eval (.tmp 3)]) trivial (fun k e => by cases e; rw [hnt]; decide)
  refine deferQ R2 (t := 20) (f := 28) (cap := #[a.eval (.tmp 6), a.eval (.tmp 2), a.eval (.tmp 3)]) (by kernel_rfl) rfl rfl ?_ ?_
  ·have hsz : 20 < a.tmps.size := by rw [R.nt, hnt]; decide
   show (a.tmps.setIfInBounds 20 _).getD 20 undef = _
   simp [Array.getD_eq_getD_getElem?, hsz]
  have R3 := R2.defer ⟨.fn (.func 28) #[a.eval (.tmp 6), a.eval (.tmp 2), a.eval (.tmp 3)], #[]⟩
  refine tail17 l hll n hne (E3 := { E with df := (⟨.fn (.func 28) #[a.tmps.getD 6 undef, a.tmps.getD 2 undef, a.tmps.getD 3 undef], #[]⟩ : Deferred) :: E.df }) hnt R3 ?_
  show (⟨.fn (.func 28) #[a.tmps.getD 6 undef, a.tmps.getD 2 undef, a.tmps.getD 3 undef], #[]⟩ : Deferred) :: E.df = [⟨.fn (.func 28) #[(a.tmps.setIfInBounds 20 _).getD 6 undef, (a.tmps.setIfInBounds 20 _).getD 2 undef, (a.tmps.setIfInBounds 20 _).getD 3 undef], #[]⟩]
  rw [hdf]
  simp [Array.getD_eq_getD_getElem?]

theorem parse_err0 (t : List UInt8) (k ln cl : Int) (hl : lexS t = ([], k, ln, cl)) (hk : k ≠ 0) : ACalls Tryd.prog 17 [.str t] [] (fun e s => e = .ret (.tuple [.agg zPg, .agg [.i k, .i ln, .i cl]])) := by
  refine ACalls.enter hT Tryd.func17 rfl (by kernel_rfl) ?_
  refine ACode.seq ?_
  refine ACode.run hT (fun d => match d with | some 19 => true | _ => false) [0, 2, 3] (fr' := ⟨[(0, .str t), (2, .loc 0 0), (3, .loc 1 0)], [[.slice [] 0 .exact, .slice [] 0 .exact, .slice [] 0 .exact, .slice [] 0 .exact], [.i 0, .i 0, .i 0]], [], [], 0⟩) (σ' := []) (ob := Tt 3) (by kernel_rfl) (tt 3) ?_
  refine ACode.seq ?_
  refine ACode.region ?_
  refine AOps.runN hT (fun d => match d with | some 19 => true | _ => false) 1 [2, 3, 8] (fr' := ⟨[(2, .loc 0 0), (3, .loc 1 0), (8, .str t)], [[.slice [] 0 .exact, .slice [] 0 .exact, .slice [] 0 .exact, .slice [] 0 .exact], [.i 0, .i 0, .i 0]], [], [], 0⟩) (σ' := []) (ob := Tt 2) (by kernel_rfl) (tt 2) ?_
  refine AOps.call (fid := 15) (cap := []) (avs := [.str t]) (by kernel_rfl) rfl (by kernel_rfl) (by kernel_rfl) en_15 (by kernel_rfl) (ACalls.mono (lexp_err t k ln cl hl _) ?_)
  rintro _ _ ⟨rfl, lo, hlo, rfl⟩
  refine AOps.runN hT (fun d => match d with | some 19 => true | _ => false) 6 [2, 3, 4, 5] (fr' := ⟨[(2, .loc 0 0), (3, .loc 1 0), (4, .slice [] 0 lo), (5, .loc 2 0)], [[.slice [] 0 .exact, .slice [] 0 .exact, .slice [] 0 .exact, .slice [] 0 .exact], [.i 0, .i 0, .i 0], [.i k, .i ln, .i cl]], [], [], 0⟩) (σ' := []) (ob := Tt 7) (by kernel_rfl) (tt 7) ?_
  refine AOps.nil ?_
  refine ACode.seq ?_
  refine ACode.seq ?_
  refine ACode.run hT (fun d => match d with | some 19 => true | _ => false) [2, 3, 4, 5, 14] (fr' := ⟨[(2, .loc 0 0), (3, .loc 1 0), (4, .slice [] 0 lo), (5, .loc 2 0), (14, .bool (!((k == 0) && ((ln == 0) && (cl == 0)))))], [[.slice [] 0 .exact, .slice [] 0 .exact, .slice [] 0 .exact, .slice [] 0 .exact], [.i 0, .i 0, .i 0], [.i k, .i ln, .i cl]], [], [], 0⟩) (σ' := []) (ob := Tt 4) (by kernel_rfl) (tt 4) ?_
  refine ACode.cond (t := !((k == 0) && ((ln == 0) && (cl == 0)))) (by kernel_rfl) (fun h1 => ?_) (fun h1 => ?_)
  ·
   have h1k := h1; simp only [Bool.and_eq_true, Bool.or_eq_true, Bool.and_eq_false_iff, Bool.or_eq_false_iff, decide_eq_true_eq, decide_eq_false_iff_not, beq_iff_eq, bne_iff_ne, ne_eq, Bool.not_eq_true', Bool.not_eq_false', beq_eq_false_iff_ne, bne_eq_false_iff_eq] at h1k
   refine ACode.seq ?_
   refine ACode.draw [(2, 0), (3, 1)] 3 [] 0 (by kernel_rfl) (by kernel_rfl) ?_
   refine AAny.run hT (fun d => match d with | some 19 => true | _ => false) (fuel := 0) [0, 1, 2, 3] [2, 3] (fz' := false) (l' := #[true, true, true, true]) (fr' := ⟨[(2, .loc 0 0), (3, .loc 1 0)], [[.slice [] 0 .exact, .slice [] 0 .exact, .slice [] 0 .exact, .slice [] 0 .exact], [.i k, .i ln, .i cl], [.i k, .i ln, .i cl]], [], [], 0⟩) (σ' := []) (ob := Tt 5) (by kernel_rfl) (by kernel_rfl) (tt 5) ?_
   refine AAny.done (by kernel_rfl) ?_
   refine ACode.ret ?_
   refine retQ.ret (.tuple [.agg [.slice [] 0 .exact, .slice [] 0 .exact, .slice [] 0 .exact, .slice [] 0 .exact], .agg [.i k, .i ln, .i cl]]) (by kernel_rfl) ?_
   rfl
  ·
   have h1k := h1; simp only [Bool.and_eq_true, Bool.or_eq_true, Bool.and_eq_false_iff, Bool.or_eq_false_iff, decide_eq_true_eq, decide_eq_false_iff_not, beq_iff_eq, bne_iff_ne, ne_eq, Bool.not_eq_true', Bool.not_eq_false', beq_eq_false_iff_ne, bne_eq_false_iff_eq] at h1k
   exact absurd (by simp at h1; exact h1.1) hk


theorem closedAll_append (a b : List AV) : closedAll (a ++ b) = (closedAll a && closedAll b) := by
  induction a with
  | nil => simp [closedAll]
  | cons x a ih => simp [closedAll, ih, Bool.and_assoc]
mutual
theorem exRow_closed : ∀ e : Ex, closedAll (exRow e) = true
  | ⟨op, bin, n, tk, tr, name, kids, line, col⟩ => by simp [exRow, closedAll, closed, exRows_closed kids]
theorem exRows_closed : ∀ l : List Ex, closedAll (exRows l) = true
  | [] => by simp [exRows, closedAll]
  | e :: l => by rw [exRows, closedAll_append, exRow_closed e, exRows_closed l]; rfl
end
theorem exAV_closed (e : Ex) : closedAll (exAV e) = true := by rw [← exRow_eq]; exact exRow_closed e
theorem plAV_closed (p : Pl) : closedAll (plAV p) = true := by simp [plAV, closedAll_append, closedAll, closed, exAV_closed]
theorem rtAV_closed (r : Rt) : closedAll (rtAV r) = true := by simp [rtAV, closedAll_append, closedAll, closed, exAV_closed, plAV_closed]
mutual
theorem smRow_closed : ∀ e : Sm, closedAll (smRow e) = true
  | ⟨op, name, right, place, e, n, args, body, els, line, col⟩ => by simp [smRow, closedAll_append, closedAll, closed, exAV_closed, plAV_closed, rtAV_closed, exRows_closed, smRows_closed body, smRows_closed els]
theorem smRows_closed : ∀ l : List Sm, closedAll (smRows l) = true
  | [] => by simp [smRows, closedAll]
  | e :: l => by rw [smRows, closedAll_append, smRow_closed e, smRows_closed l]; rfl
end
theorem nmRows_closed : ∀ l : List Nm, closedAll (nmRows l) = true
  | [] => rfl
  | x :: l => by simp [nmRows, nmAV, closedAll, closed, nmRows_closed l]
theorem rcRows_closed : ∀ l : List Rc, closedAll (rcRows l) = true
  | [] => rfl
  | x :: l => by simp [rcRows, rcAV, closedAll, closed, nmRows_closed, rcRows_closed l]
theorem fuRows_closed : ∀ l : List Fu, closedAll (fuRows l) = true
  | [] => rfl
  | x :: l => by simp [fuRows, fuAV, closedAll, closed, nmRows_closed, smRows_closed, fuRows_closed l]
theorem tdRows_closed : ∀ l : List Td, closedAll (tdRows l) = true
  | [] => rfl
  | x :: l => by simp [tdRows, tdAV, closedAll, closed, smRows_closed, tdRows_closed l]
theorem pgAV_closed (p : Pg) : closedAll (pgAV p) = true := by simp [pgAV, closedAll, closed, rcRows_closed, nmRows_closed, fuRows_closed, tdRows_closed]
theorem parseAV_closed (x : R Pg) : closed (parseAV x) = true := by
  cases x <;> simp [parseAV, closed, closedAll, pgAV_closed]

theorem parse_ok (t : List UInt8) (l : List Tok) (hl : lexS t = (l, 0, 0, 0)) (hll : l.length ≤ 100000) (n : Nat) (hne : programF n l pgZ ⟨0, 0⟩ ≠ .out) (σ : St) :
   ACalls Tryd.prog 17 [.str t] σ (fun e s => σ = s ∧ e = .ret (parseAV (programF n l pgZ ⟨0, 0⟩))) := by
  refine ((parse_ok0 t l hl hll n hne).frame rfl ?_).mono ?_
  ·rintro e s rfl
   exact parseAV_closed _
  ·rintro e s ⟨h1, _, h2⟩
   exact ⟨h1, h2⟩
theorem parse_err (t : List UInt8) (k ln cl : Int) (hl : lexS t = ([], k, ln, cl)) (hk : k ≠ 0) (σ : St) :
   ACalls Tryd.prog 17 [.str t] σ (fun e s => σ = s ∧ e = .ret (parseAV (.bad k ln cl))) := by
  refine ((parse_err0 t k ln cl hl hk).frame rfl ?_).mono ?_
  ·rintro e s rfl
   rfl
  ·rintro e s ⟨h1, _, h2⟩
   exact ⟨h1, h2⟩

end Go.AE

