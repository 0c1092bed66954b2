/- Parts of the proof of a law, in build order: W3, W4, FmtD, FmtG, FmtH, FmtU, LexQ. -/
import Derived.Test.YtjdbmjllhmmddaaDoorP8Q6
import Derived.IntWalk
import Derived.Lib.AppendIntMem
import Derived.Lib.ItoaMem
import Derived.Lib.Walk
import Derived.BigCall
import Derived.BigGuard
import Derived.WalkSmall
import Derived.Shelf.Strconv.Itoa3
set_option maxRecDepth 2000
set_option linter.unusedVariables false
set_option linter.unusedSimpArgs false
set_option linter.unusedVariables false
set_option linter.unusedSimpArgs false
set_option maxRecDepth 4000
namespace Go.AE
open Go.Proofs

theorem parseUint10_walk (t : List UInt8) (σ : St) (ht : t.length ≤ 9000) : ACalls Tryd.prog 65 [.str t, .i 10, .i 63] σ (fun e s => σ = s ∧ ((puS 10 1844674407370955162 9223372036854775807 t).2 = true ∧ e = .ret (.tuple [.int .u64 (puS 10 1844674407370955162 9223372036854775807 t).1, .nilIface]) ∨ (puS 10 1844674407370955162 9223372036854775807 t).2 = false ∧ ∃ k, (k = 1 ∨ k = 2) ∧ e = .ret (.tuple [.int .u64 (puS 10 1844674407370955162 9223372036854775807 t).1, .iface 116 (.i k)]))) := by
  refine ACalls.enter hT Tryd.func65 rfl (by kernel_rfl) ?_
  refine ACode.seq ?_
  refine ACode.run hT nh [0, 1, 2] (fr' := ⟨[(0, .str t), (1, .i 10), (2, .i 63)], [], [], [], 0⟩) (σ' := σ) (ob := Tt 3) (by kernel_rfl) (tt 3) ?_
  refine ACode.seq ?_
  refine ACode.seq ?_
  refine ACode.run hT nh [0, 1, 2, 19] (fr' := ⟨[(0, .str t), (1, .i 10), (2, .i 63), (19, .bool (t == []))], [], [], [], 0⟩) (σ' := σ) (ob := Tt 3) (by kernel_rfl) (tt 3) ?_
  refine ACode.cond (t := t == []) (by kernel_rfl) (fun h1 => ?_) (fun h1 => ?_)
  ·
   have h1k := eq_of_beq h1
   refine ACode.seq ?_
   refine ACode.run hT nh [6, 7] (fr' := ⟨[(6, .int .u64 0), (7, .iface 116 (.i 2))], [], [], [], 0⟩) (σ' := σ) (ob := Tt 4) (by kernel_rfl) (tt 4) ?_
   refine ACode.ret ?_
   refine retQ.ret (.tuple [.int .u64 0, .iface 116 (.i 2)]) (by kernel_rfl) ?_
   exact ⟨rfl, .inr ⟨by simp [puS, h1k], 2, .inr rfl, by simp [puS, h1k]⟩⟩
  ·
   have h1k := ne_of_beq_false h1
   refine ACode.skip ?_
   refine ACode.seq ?_
   refine ACode.run hT nh [0, 1, 2, 8] (fr' := ⟨[(0, .str t), (1, .i 10), (2, .i 63), (8, .bool false)], [], [], [], 0⟩) (σ' := σ) (ob := Tt 4) (by kernel_rfl) (tt 4) ?_
   refine ACode.seq ?_
   refine ACode.run hT nh [0, 1, 2, 8, 9] (fr' := ⟨[(0, .str t), (1, .i 10), (2, .i 63), (8, .bool false), (9, .str t)], [], [], [], 0⟩) (σ' := σ) (ob := Tt 3) (by kernel_rfl) (tt 3) ?_
   refine ACode.seq ?_
   refine ACode.block ?_
   refine ACode.seq ?_
   refine ACode.region ?_
   refine AOps.runN hT nh 7 [0, 1, 2, 8, 9, 25] (fr' := ⟨[(0, .str t), (1, .i 10), (2, .i 63), (8, .bool false), (9, .str t), (25, .bool true)], [], [], [], 0⟩) (σ' := σ) (ob := Tt 8) (by kernel_rfl) (tt 8) ?_
   refine AOps.nil ?_
   refine ACode.cond (t := true) (by kernel_rfl) (fun _ => ?_) (fun h => Bool.noConfusion h)
   refine ACode.skip ?_
   refine ACode.seq ?_
   refine ACode.seq ?_
   refine ACode.run hT nh [0, 1, 2, 8, 9, 77] (fr' := ⟨[(0, .str t), (1, .i 10), (2, .i 63), (8, .bool false), (9, .str t), (77, .bool false)], [], [], [], 0⟩) (σ' := σ) (ob := Tt 3) (by kernel_rfl) (tt 3) ?_
   refine ACode.cond (t := false) (by kernel_rfl) (fun h => Bool.noConfusion h) (fun _ => ?_)
   refine ACode.seq ?_
   refine ACode.region ?_
   refine AOps.runN hT nh 6 [0, 1, 2, 8, 9, 83] (fr' := ⟨[(0, .str t), (1, .i 10), (2, .i 63), (8, .bool false), (9, .str t), (83, .bool false)], [], [], [], 0⟩) (σ' := σ) (ob := Tt 7) (by kernel_rfl) (tt 7) ?_
   refine AOps.nil ?_
   refine ACode.cond (t := false) (by kernel_rfl) (fun h => Bool.noConfusion h) (fun _ => ?_)
   refine ACode.skip ?_
   refine ACode.seq ?_
   refine ACode.run hT nh [0, 1, 2, 8, 9] (fr' := ⟨[(0, .str t), (1, .i 10), (2, .i 63), (8, .bool false), (9, .str t)], [], [], [], 0⟩) (σ' := σ) (ob := Tt 2) (by kernel_rfl) (tt 2) ?_
   refine ACode.seq ?_
   refine ACode.seq ?_
   refine ACode.run hT nh [0, 1, 2, 8, 9, 85] (fr' := ⟨[(0, .str t), (1, .i 10), (2, .i 63), (8, .bool false), (9, .str t), (85, .i 10)], [], [], [], 0⟩) (σ' := σ) (ob := Tt 2) (by kernel_rfl) (tt 2) ?_
   refine ACode.block ?_
   refine ACode.seq ?_
   refine ACode.run hT nh [0, 1, 2, 8, 9, 85, 90] (fr' := ⟨[(0, .str t), (1, .i 10), (2, .i 63), (8, .bool false), (9, .str t), (85, .i 10), (90, .bool true)], [], [], [], 0⟩) (σ' := σ) (ob := Tt 3) (by kernel_rfl) (tt 3) ?_
   refine ACode.cond (t := true) (by kernel_rfl) (fun _ => ?_) (fun h => Bool.noConfusion h)
   refine ACode.run hT nh [0, 1, 2, 8, 9, 10] (fr' := ⟨[(0, .str t), (1, .i 10), (2, .i 63), (8, .bool false), (9, .str t), (10, .int .u64 1844674407370955162)], [], [], [], 0⟩) (σ' := σ) (ob := Tt 2) (by kernel_rfl) (tt 2) ?_
   refine ACode.seq ?_
   refine ACode.region ?_
   refine AOps.runN hT nh 5 [0, 1, 8, 9, 10, 11] (fr' := ⟨[(0, .str t), (1, .i 10), (8, .bool false), (9, .str t), (10, .int .u64 1844674407370955162), (11, .int .u64 9223372036854775807)], [], [], [], 0⟩) (σ' := σ) (ob := True ∧ True ∧ (¬ (63 : Int) < 0) ∧ True ∧ True ∧ True) (by kernel_rfl) ⟨trivial, trivial, (by first | omega | (simp only [bytesAV_length]; omega)), trivial, trivial, trivial⟩ ?_
   refine AOps.nil ?_
   refine ACode.seq ?_
   refine ACode.run hT nh [0, 1, 8, 9, 10, 11, 12] (fr' := ⟨[(0, .str t), (1, .i 10), (8, .bool false), (9, .str t), (10, .int .u64 1844674407370955162), (11, .int .u64 9223372036854775807), (12, .bool false)], [], [], [], 0⟩) (σ' := σ) (ob := Tt 2) (by kernel_rfl) (tt 2) ?_
   refine ACode.seq ?_
   refine ACode.run hT nh [0, 1, 8, 9, 10, 11, 12, 13] (fr' := ⟨[(0, .str t), (1, .i 10), (8, .bool false), (9, .str t), (10, .int .u64 1844674407370955162), (11, .int .u64 9223372036854775807), (12, .bool false), (13, .int .u64 0)], [], [], [], 0⟩) (σ' := σ) (ob := Tt 2) (by kernel_rfl) (tt 2) ?_
   refine ACode.seq ?_
   refine ACode.seq ?_
   refine ACode.region ?_
   refine AOps.runN hT nh 1 [1, 8, 9, 10, 11, 12, 13, 98] (fr' := ⟨[(1, .i 10), (8, .bool false), (9, .str t), (10, .int .u64 1844674407370955162), (11, .int .u64 9223372036854775807), (12, .bool false), (13, .int .u64 0), (98, .str t)], [], [], [], 0⟩) (σ' := σ) (ob := Tt 2) (by kernel_rfl) (tt 2) ?_
   refine AOps.bytes hT (b := t) (e := 5) (by_ := 1) (by kernel_rfl) rfl (by kernel_rfl) (by kernel_rfl) (by kernel_rfl) (by kernel_rfl) (by kernel_rfl) ?_
   refine AOps.runN hT nh 2 [1, 8, 9, 10, 11, 12, 13, 99, 100, 101] (fr' := ⟨[(1, .i 10), (8, .bool false), (9, .str t), (10, .int .u64 1844674407370955162), (11, .int .u64 9223372036854775807), (12, .bool false), (13, .int .u64 0), (99, .slice (bytesAV t) ((t : List UInt8).length) .no), (100, .i (((t : List UInt8).length : Nat) : Int)), (101, .i 0)], [], [], [], 0⟩) (σ' := σ) (ob := Tt 3) (by kernel_rfl) (tt 3) ?_
   refine AOps.nil ?_
   refine ACode.block ?_
   refine ACode.loop [1, 8, 9, 10, 11, 12, 13, 99, 100, 101] 0 0 (fun n0 fr σ' => ∃ (i : Nat), ∃ (n : Int), fr = ⟨[(1, .i 10), (8, .bool false), (9, .str t), (10, .int .u64 1844674407370955162), (11, .int .u64 9223372036854775807), (12, .bool false), (13, .int .u64 n), (99, .slice (bytesAV t) t.length .no), (100, .i ((t.length : Nat) : Int)), (101, .i (i : Int))], [], [], [], 0⟩ ∧ σ = σ' ∧ (i ≤ t.length ∧ 0 ≤ n ∧ n ≤ 9223372036854775807 ∧ puF 10 1844674407370955162 9223372036854775807 t 0 = puF 10 1844674407370955162 9223372036854775807 (t.drop i) n) ∧ n0 = t.length - i) _ (by kernel_rfl) ⟨0, 0, rfl, rfl, ⟨Nat.zero_le _, by omega, by omega, rfl⟩, rfl⟩ ?_
   rintro n0 fr σ' ⟨i, n, rfl, rfl, ⟨hi, hn0, hn1, hP⟩, rfl⟩
   have hb := byte_bd (t.getD i 0)
   refine ACode.seq ?_
   refine ACode.run hT nh [1, 8, 9, 10, 11, 12, 13, 99, 100, 101, 102] (fr' := ⟨[(1, .i 10), (8, .bool false), (9, .str t), (10, .int .u64 1844674407370955162), (11, .int .u64 9223372036854775807), (12, .bool false), (13, .int .u64 n), (99, .slice (bytesAV t) t.length .no), (100, .i ((t.length : Nat) : Int)), (101, .i (i : Int)), (102, .bool (decide ((i : Int) < ((t.length : Nat) : Int))))], [], [], [], 0⟩) (σ' := σ) (ob := Tt 2) (by kernel_rfl) (tt 2) ?_
   refine ACode.seq ?_
   refine ACode.cond (t := decide ((i : Int) < ((t.length : Nat) : Int))) (by kernel_rfl) (fun h2 => ?_) (fun h2 => ?_)
   ·
    have h2k := of_decide_eq_true h2
    refine ACode.skip ?_
    refine ACode.seq ?_
    refine ACode.block ?_
    refine ACode.seq ?_
    refine ACode.region ?_
    refine AOps.runN hT nh 1 [1, 8, 9, 10, 11, 12, 13, 99, 100, 101, 103] (fr' := ⟨[(1, .i 10), (8, .bool false), (9, .str t), (10, .int .u64 1844674407370955162), (11, .int .u64 9223372036854775807), (12, .bool false), (13, .int .u64 n), (99, .slice (bytesAV t) t.length .no), (100, .i ((t.length : Nat) : Int)), (101, .i (i : Int)), (103, .dat (((bytesAV t : List AV).drop (i * 1)).take 1))], [], [], [], 0⟩) (σ' := σ) (ob := (0 ≤ ((i : Int) : Int) ∧ ((i : Int) : Int) < (t.length : Nat) ∧ i * 1 ≤ (bytesAV t : List AV).length) ∧ True) (by kernel_rfl) ⟨(by first | omega | (simp only [bytesAV_length]; omega)), trivial⟩ ?_
    rw [bytesAV_at t i (by simp at *; omega)]
    refine AOps.runN hT nh 2 [1, 8, 9, 10, 11, 12, 13, 15, 99, 100, 101] (fr' := ⟨[(1, .i 10), (8, .bool false), (9, .str t), (10, .int .u64 1844674407370955162), (11, .int .u64 9223372036854775807), (12, .bool false), (13, .int .u64 n), (15, .int .u8 ((t.getD i 0).toNat : Int)), (99, .slice (bytesAV t) t.length .no), (100, .i ((t.length : Nat) : Int)), (101, .i (i : Int))], [], [], [], 0⟩) (σ' := σ) (ob := Tt 3) (by kernel_rfl) (tt 3) ?_
    refine AOps.nil ?_
    refine ACode.seq ?_
    refine ACode.run hT nh [1, 8, 9, 10, 11, 12, 13, 15, 99, 100, 101] (fr' := ⟨[(1, .i 10), (8, .bool false), (9, .str t), (10, .int .u64 1844674407370955162), (11, .int .u64 9223372036854775807), (12, .bool false), (13, .int .u64 n), (15, .int .u8 ((t.getD i 0).toNat : Int)), (99, .slice (bytesAV t) t.length .no), (100, .i ((t.length : Nat) : Int)), (101, .i (i : Int))], [], [], [], 0⟩) (σ' := σ) (ob := Tt 2) (by kernel_rfl) (tt 2) ?_
    refine ACode.seq ?_
    refine ACode.block ?_
    refine ACode.seq ?_
    refine ACode.meet ⟨[(1, .i 10), (8, .bool false), (9, .str t), (10, .int .u64 1844674407370955162), (11, .int .u64 9223372036854775807), (12, .bool false), (13, .int .u64 n), (15, .int .u8 ((t.getD i 0).toNat : Int)), (99, .slice (bytesAV t) t.length .no), (100, .i ((t.length : Nat) : Int)), (101, .i (i : Int)), (106, .bool false)], [], [], [], 0⟩ σ (ACode.region ?_) ?_
    ·
     refine AOps.runN hT nh 3 [1, 8, 9, 10, 11, 12, 13, 15, 99, 100, 101, 109] (fr' := ⟨[(1, .i 10), (8, .bool false), (9, .str t), (10, .int .u64 1844674407370955162), (11, .int .u64 9223372036854775807), (12, .bool false), (13, .int .u64 n), (15, .int .u8 ((t.getD i 0).toNat : Int)), (99, .slice (bytesAV t) t.length .no), (100, .i ((t.length : Nat) : Int)), (101, .i (i : Int)), (109, .bool (((t.getD i 0).toNat : Int) == 95))], [], [], [], 0⟩) (σ' := σ) (ob := Tt 4) (by kernel_rfl) (tt 4) ?_
     cases h3 : (((t.getD i 0).toNat : Int) == 95)
     ·
      have h3k := ne_of_beq_false h3
      refine AOps.runN hT nh 3 [1, 8, 9, 10, 11, 12, 13, 15, 99, 100, 101, 106, 110] (fr' := ⟨[(1, .i 10), (8, .bool false), (9, .str t), (10, .int .u64 1844674407370955162), (11, .int .u64 9223372036854775807), (12, .bool false), (13, .int .u64 n), (15, .int .u8 ((t.getD i 0).toNat : Int)), (99, .slice (bytesAV t) t.length .no), (100, .i ((t.length : Nat) : Int)), (101, .i (i : Int)), (106, .bool false), (110, .tuple [])], [], [], [], 0⟩) (σ' := σ) (ob := Tt 3) (by kernel_rfl) (tt 3) ?_
      refine AOps.weak [1, 8, 9, 10, 11, 12, 13, 15, 99, 100, 101, 106] (AOps.nil ⟨rfl, rfl⟩)
     ·
      have h3k := eq_of_beq h3
      refine AOps.runN hT nh 3 [1, 8, 9, 10, 11, 12, 13, 15, 99, 100, 101, 106, 110] (fr' := ⟨[(1, .i 10), (8, .bool false), (9, .str t), (10, .int .u64 1844674407370955162), (11, .int .u64 9223372036854775807), (12, .bool false), (13, .int .u64 n), (15, .int .u8 ((t.getD i 0).toNat : Int)), (99, .slice (bytesAV t) t.length .no), (100, .i ((t.length : Nat) : Int)), (101, .i (i : Int)), (106, .bool false), (110, .bool false)], [], [], [], 0⟩) (σ' := σ) (ob := Tt 4) (by kernel_rfl) (tt 4) ?_
      refine AOps.weak [1, 8, 9, 10, 11, 12, 13, 15, 99, 100, 101, 106] (AOps.nil ⟨rfl, rfl⟩)
    refine ACode.cond (t := false) (by kernel_rfl) (fun h => Bool.noConfusion h) (fun _ => ?_)
    refine ACode.seq ?_
    refine ACode.meet ⟨[(1, .i 10), (8, .bool false), (9, .str t), (10, .int .u64 1844674407370955162), (11, .int .u64 9223372036854775807), (12, .bool false), (13, .int .u64 n), (15, .int .u8 ((t.getD i 0).toNat : Int)), (99, .slice (bytesAV t) t.length .no), (100, .i ((t.length : Nat) : Int)), (101, .i (i : Int)), (112, .bool ((decide (48 ≤ ((t.getD i 0).toNat : Int))) && (decide (((t.getD i 0).toNat : Int) ≤ 57))))], [], [], [], 0⟩ σ (ACode.region ?_) ?_
    ·
     refine AOps.runN hT nh 3 [1, 8, 9, 10, 11, 12, 13, 15, 99, 100, 101, 115] (fr' := ⟨[(1, .i 10), (8, .bool false), (9, .str t), (10, .int .u64 1844674407370955162), (11, .int .u64 9223372036854775807), (12, .bool false), (13, .int .u64 n), (15, .int .u8 ((t.getD i 0).toNat : Int)), (99, .slice (bytesAV t) t.length .no), (100, .i ((t.length : Nat) : Int)), (101, .i (i : Int)), (115, .bool (decide (48 ≤ ((t.getD i 0).toNat : Int))))], [], [], [], 0⟩) (σ' := σ) (ob := Tt 4) (by kernel_rfl) (tt 4) ?_
     cases h4 : (decide (48 ≤ ((t.getD i 0).toNat : Int)))
     ·
      have h4k := of_decide_eq_false h4
      refine AOps.runN hT nh 4 [1, 8, 9, 10, 11, 12, 13, 15, 99, 100, 101, 112, 116, 117] (fr' := ⟨[(1, .i 10), (8, .bool false), (9, .str t), (10, .int .u64 1844674407370955162), (11, .int .u64 9223372036854775807), (12, .bool false), (13, .int .u64 n), (15, .int .u8 ((t.getD i 0).toNat : Int)), (99, .slice (bytesAV t) t.length .no), (100, .i ((t.length : Nat) : Int)), (101, .i (i : Int)), (112, .bool false), (116, .tuple []), (117, .tuple [])], [], [], [], 0⟩) (σ' := σ) (ob := Tt 3) (by kernel_rfl) (tt 3) ?_
      refine AOps.weak [1, 8, 9, 10, 11, 12, 13, 15, 99, 100, 101, 112] (AOps.nil ⟨rfl, rfl⟩)
     ·
      have h4k := of_decide_eq_true h4
      refine AOps.runN hT nh 4 [1, 8, 9, 10, 11, 12, 13, 15, 99, 100, 101, 112, 116, 117] (fr' := ⟨[(1, .i 10), (8, .bool false), (9, .str t), (10, .int .u64 1844674407370955162), (11, .int .u64 9223372036854775807), (12, .bool false), (13, .int .u64 n), (15, .int .u8 ((t.getD i 0).toNat : Int)), (99, .slice (bytesAV t) t.length .no), (100, .i ((t.length : Nat) : Int)), (101, .i (i : Int)), (112, .bool (decide (((t.getD i 0).toNat : Int) ≤ 57))), (116, .int .u8 ((t.getD i 0).toNat : Int)), (117, .bool (decide (((t.getD i 0).toNat : Int) ≤ 57)))], [], [], [], 0⟩) (σ' := σ) (ob := Tt 5) (by kernel_rfl) (tt 5) ?_
      refine AOps.weak [1, 8, 9, 10, 11, 12, 13, 15, 99, 100, 101, 112] (AOps.nil ⟨rfl, rfl⟩)
    refine ACode.cond (t := (decide (48 ≤ ((t.getD i 0).toNat : Int))) && (decide (((t.getD i 0).toNat : Int) ≤ 57))) (by kernel_rfl) (fun h5 => ?_) (fun h5 => ?_)
    ·
     have h5k := h5; simp only [Bool.and_eq_true, Bool.or_eq_true, Bool.and_eq_false_iff, Bool.or_eq_false_iff, decide_eq_true_eq, decide_eq_false_iff_not, beq_iff_eq, bne_iff_ne, ne_eq, Bool.not_eq_true', Bool.not_eq_false', beq_eq_false_iff_ne, bne_eq_false_iff_eq] at h5k
     refine ACode.run hT nh [1, 8, 9, 10, 11, 12, 13, 16, 99, 100, 101] (fr' := ⟨[(1, .i 10), (8, .bool false), (9, .str t), (10, .int .u64 1844674407370955162), (11, .int .u64 9223372036854775807), (12, .bool false), (13, .int .u64 n), (16, .int .u8 (IntKind.u8.wrap (((t.getD i 0).toNat : Int) - 48))), (99, .slice (bytesAV t) t.length .no), (100, .i ((t.length : Nat) : Int)), (101, .i (i : Int))], [], [], [], 0⟩) (σ' := σ) (ob := Tt 4) (by kernel_rfl) (tt 4) ?_
     rw [IntWalk.u8_in (((t.getD i 0).toNat : Int) - 48) (by omega)]
     refine ACode.seq ?_
     refine ACode.seq ?_
     refine ACode.region ?_
     refine AOps.runN hT nh 4 [1, 8, 9, 10, 11, 12, 13, 16, 99, 100, 101, 137] (fr' := ⟨[(1, .i 10), (8, .bool false), (9, .str t), (10, .int .u64 1844674407370955162), (11, .int .u64 9223372036854775807), (12, .bool false), (13, .int .u64 n), (16, .int .u8 (((t.getD i 0).toNat : Int) - 48)), (99, .slice (bytesAV t) t.length .no), (100, .i ((t.length : Nat) : Int)), (101, .i (i : Int)), (137, .bool (decide ((((t.getD i 0).toNat : Int) - 48) ≥ 10)))], [], [], [], 0⟩) (σ' := σ) (ob := Tt 5) (by kernel_rfl) (tt 5) ?_
     refine AOps.nil ?_
     refine ACode.cond (t := decide ((((t.getD i 0).toNat : Int) - 48) ≥ 10)) (by kernel_rfl) (fun h6 => ?_) (fun h6 => ?_)
     ·
      have h6k := of_decide_eq_true h6
      refine ACode.seq ?_
      refine ACode.run hT nh [6, 7] (fr' := ⟨[(6, .int .u64 0), (7, .iface 116 (.i 2))], [], [], [], 0⟩) (σ' := σ) (ob := Tt 4) (by kernel_rfl) (tt 4) ?_
      refine ACode.ret ?_
      refine retQ.ret (.tuple [.int .u64 0, .iface 116 (.i 2)]) (by kernel_rfl) ?_
      have hd : digV ((t.getD i 0).toNat : Int) = some (((t.getD i 0).toNat : Int) - 48) := by unfold digV; rw [if_pos (by omega)]
      have e9 := puF_at 10 1844674407370955162 9223372036854775807 t i n (by omega)
      rw [hd] at e9
      dsimp only at e9
      rw [if_pos (by omega)] at e9
      have e : puS 10 1844674407370955162 9223372036854775807 t = (0, false) := by rw [puS, if_neg h1k, hP, e9]
      exact ⟨rfl, .inr ⟨by rw [e], 2, by simp, by rw [e]⟩⟩
     ·
      have h6k := of_decide_eq_false h6
      refine ACode.skip ?_
      refine ACode.seq ?_
      refine ACode.seq ?_
      refine ACode.run hT nh [1, 8, 9, 10, 11, 12, 13, 16, 99, 100, 101, 141] (fr' := ⟨[(1, .i 10), (8, .bool false), (9, .str t), (10, .int .u64 1844674407370955162), (11, .int .u64 9223372036854775807), (12, .bool false), (13, .int .u64 n), (16, .int .u8 (((t.getD i 0).toNat : Int) - 48)), (99, .slice (bytesAV t) t.length .no), (100, .i ((t.length : Nat) : Int)), (101, .i (i : Int)), (141, .bool (decide (n ≥ 1844674407370955162)))], [], [], [], 0⟩) (σ' := σ) (ob := Tt 4) (by kernel_rfl) (tt 4) ?_
      refine ACode.cond (t := decide (n ≥ 1844674407370955162)) (by kernel_rfl) (fun h7 => ?_) (fun h7 => ?_)
      ·
       have h7k := of_decide_eq_true h7
       refine ACode.seq ?_
       refine ACode.run hT nh [6, 7] (fr' := ⟨[(6, .int .u64 9223372036854775807), (7, .iface 116 (.i 1))], [], [], [], 0⟩) (σ' := σ) (ob := Tt 5) (by kernel_rfl) (tt 5) ?_
       refine ACode.ret ?_
       refine retQ.ret (.tuple [.int .u64 9223372036854775807, .iface 116 (.i 1)]) (by kernel_rfl) ?_
       have hd : digV ((t.getD i 0).toNat : Int) = some (((t.getD i 0).toNat : Int) - 48) := by unfold digV; rw [if_pos (by omega)]
       have e9 := puF_at 10 1844674407370955162 9223372036854775807 t i n (by omega)
       rw [hd] at e9
       dsimp only at e9
       first | rw [if_neg (by omega), if_pos (by omega)] at e9 | rw [if_neg (by omega), if_neg (by omega), if_pos (by simp only [IntKind.wrap_u64] at *; omega)] at e9
       have e : puS 10 1844674407370955162 9223372036854775807 t = (9223372036854775807, false) := by rw [puS, if_neg h1k, hP, e9]
       exact ⟨rfl, .inr ⟨by rw [e], 1, by simp, by rw [e]⟩⟩
      ·
       have h7k := of_decide_eq_false h7
       refine ACode.skip ?_
       refine ACode.seq ?_
       refine ACode.region ?_
       refine AOps.runN hT nh 5 [1, 8, 9, 10, 11, 12, 13, 16, 99, 100, 101] (fr' := ⟨[(1, .i 10), (8, .bool false), (9, .str t), (10, .int .u64 1844674407370955162), (11, .int .u64 9223372036854775807), (12, .bool false), (13, .int .u64 (IntKind.u64.wrap (n * 10))), (16, .int .u8 (((t.getD i 0).toNat : Int) - 48)), (99, .slice (bytesAV t) t.length .no), (100, .i ((t.length : Nat) : Int)), (101, .i (i : Int))], [], [], [], 0⟩) (σ' := σ) (ob := Tt 6) (by kernel_rfl) (tt 6) ?_
       rw [IntWalk.u64_in (n * 10) (by omega)]
       refine AOps.nil ?_
       refine ACode.seq ?_
       refine ACode.region ?_
       refine AOps.runN hT nh 5 [1, 8, 9, 10, 11, 12, 13, 17, 99, 100, 101] (fr' := ⟨[(1, .i 10), (8, .bool false), (9, .str t), (10, .int .u64 1844674407370955162), (11, .int .u64 9223372036854775807), (12, .bool false), (13, .int .u64 (n * 10)), (17, .int .u64 (IntKind.u64.wrap ((n * 10) + (IntKind.u64.wrap ((((t.getD i 0).toNat : Int) - 48)))))), (99, .slice (bytesAV t) t.length .no), (100, .i ((t.length : Nat) : Int)), (101, .i (i : Int))], [], [], [], 0⟩) (σ' := σ) (ob := Tt 6) (by kernel_rfl) (tt 6) ?_
       rw [IntWalk.u64_in ((((t.getD i 0).toNat : Int) - 48)) (by omega)]
       refine AOps.nil ?_
       refine ACode.seq ?_
       refine ACode.seq ?_
       refine ACode.meet ⟨[(1, .i 10), (8, .bool false), (9, .str t), (10, .int .u64 1844674407370955162), (11, .int .u64 9223372036854775807), (12, .bool false), (17, .int .u64 (IntKind.u64.wrap ((n * 10) + ((((t.getD i 0).toNat : Int) - 48))))), (99, .slice (bytesAV t) t.length .no), (100, .i ((t.length : Nat) : Int)), (101, .i (i : Int)), (159, .bool ((decide ((IntKind.u64.wrap ((n * 10) + ((((t.getD i 0).toNat : Int) - 48)))) < (n * 10))) || (decide ((IntKind.u64.wrap ((n * 10) + ((((t.getD i 0).toNat : Int) - 48)))) > 9223372036854775807))))], [], [], [], 0⟩ σ (ACode.region ?_) ?_
       ·
        refine AOps.runN hT nh 4 [1, 8, 9, 10, 11, 12, 17, 99, 100, 101, 155] (fr' := ⟨[(1, .i 10), (8, .bool false), (9, .str t), (10, .int .u64 1844674407370955162), (11, .int .u64 9223372036854775807), (12, .bool false), (17, .int .u64 (IntKind.u64.wrap ((n * 10) + ((((t.getD i 0).toNat : Int) - 48))))), (99, .slice (bytesAV t) t.length .no), (100, .i ((t.length : Nat) : Int)), (101, .i (i : Int)), (155, .bool (decide ((IntKind.u64.wrap ((n * 10) + ((((t.getD i 0).toNat : Int) - 48)))) < (n * 10))))], [], [], [], 0⟩) (σ' := σ) (ob := Tt 5) (by kernel_rfl) (tt 5) ?_
        cases h8 : (decide ((IntKind.u64.wrap ((n * 10) + ((((t.getD i 0).toNat : Int) - 48)))) < (n * 10)))
        ·
         have h8k := of_decide_eq_false h8
         refine AOps.runN hT nh 4 [1, 8, 9, 10, 11, 12, 17, 99, 100, 101, 156, 157, 158, 159] (fr' := ⟨[(1, .i 10), (8, .bool false), (9, .str t), (10, .int .u64 1844674407370955162), (11, .int .u64 9223372036854775807), (12, .bool false), (17, .int .u64 (IntKind.u64.wrap ((n * 10) + ((((t.getD i 0).toNat : Int) - 48))))), (99, .slice (bytesAV t) t.length .no), (100, .i ((t.length : Nat) : Int)), (101, .i (i : Int)), (156, .int .u64 (IntKind.u64.wrap ((n * 10) + ((((t.getD i 0).toNat : Int) - 48))))), (157, .int .u64 9223372036854775807), (158, .bool (decide ((IntKind.u64.wrap ((n * 10) + ((((t.getD i 0).toNat : Int) - 48)))) > 9223372036854775807))), (159, .bool (decide ((IntKind.u64.wrap ((n * 10) + ((((t.getD i 0).toNat : Int) - 48)))) > 9223372036854775807)))], [], [], [], 0⟩) (σ' := σ) (ob := Tt 5) (by kernel_rfl) (tt 5) ?_
         refine AOps.weak [1, 8, 9, 10, 11, 12, 17, 99, 100, 101, 159] (AOps.nil ⟨rfl, rfl⟩)
        ·
         have h8k := of_decide_eq_true h8
         refine AOps.runN hT nh 4 [1, 8, 9, 10, 11, 12, 17, 99, 100, 101, 156, 157, 158, 159] (fr' := ⟨[(1, .i 10), (8, .bool false), (9, .str t), (10, .int .u64 1844674407370955162), (11, .int .u64 9223372036854775807), (12, .bool false), (17, .int .u64 (IntKind.u64.wrap ((n * 10) + ((((t.getD i 0).toNat : Int) - 48))))), (99, .slice (bytesAV t) t.length .no), (100, .i ((t.length : Nat) : Int)), (101, .i (i : Int)), (156, .tuple []), (157, .tuple []), (158, .tuple []), (159, .bool true)], [], [], [], 0⟩) (σ' := σ) (ob := Tt 2) (by kernel_rfl) (tt 2) ?_
         refine AOps.weak [1, 8, 9, 10, 11, 12, 17, 99, 100, 101, 159] (AOps.nil ⟨rfl, rfl⟩)
       refine ACode.cond (t := (decide ((IntKind.u64.wrap ((n * 10) + ((((t.getD i 0).toNat : Int) - 48)))) < (n * 10))) || (decide ((IntKind.u64.wrap ((n * 10) + ((((t.getD i 0).toNat : Int) - 48)))) > 9223372036854775807))) (by kernel_rfl) (fun h9 => ?_) (fun h9 => ?_)
       ·
        have h9k := h9; simp only [Bool.and_eq_true, Bool.or_eq_true, Bool.and_eq_false_iff, Bool.or_eq_false_iff, decide_eq_true_eq, decide_eq_false_iff_not, beq_iff_eq, bne_iff_ne, ne_eq, Bool.not_eq_true', Bool.not_eq_false', beq_eq_false_iff_ne, bne_eq_false_iff_eq] at h9k
        refine ACode.seq ?_
        refine ACode.run hT nh [6, 7] (fr' := ⟨[(6, .int .u64 9223372036854775807), (7, .iface 116 (.i 1))], [], [], [], 0⟩) (σ' := σ) (ob := Tt 5) (by kernel_rfl) (tt 5) ?_
        refine ACode.ret ?_
        refine retQ.ret (.tuple [.int .u64 9223372036854775807, .iface 116 (.i 1)]) (by kernel_rfl) ?_
        have hd : digV ((t.getD i 0).toNat : Int) = some (((t.getD i 0).toNat : Int) - 48) := by unfold digV; rw [if_pos (by omega)]
        have e9 := puF_at 10 1844674407370955162 9223372036854775807 t i n (by omega)
        rw [hd] at e9
        dsimp only at e9
        first | rw [if_neg (by omega), if_pos (by omega)] at e9 | rw [if_neg (by omega), if_neg (by omega), if_pos (by simp only [IntKind.wrap_u64] at *; omega)] at e9
        have e : puS 10 1844674407370955162 9223372036854775807 t = (9223372036854775807, false) := by rw [puS, if_neg h1k, hP, e9]
        exact ⟨rfl, .inr ⟨by rw [e], 1, by simp, by rw [e]⟩⟩
       ·
        have h9k := h9; simp only [Bool.and_eq_true, Bool.or_eq_true, Bool.and_eq_false_iff, Bool.or_eq_false_iff, decide_eq_true_eq, decide_eq_false_iff_not, beq_iff_eq, bne_iff_ne, ne_eq, Bool.not_eq_true', Bool.not_eq_false', beq_eq_false_iff_ne, bne_eq_false_iff_eq] at h9k
        refine ACode.skip ?_
        refine ACode.run hT nh [1, 8, 9, 10, 11, 12, 13, 99, 100, 101] (fr' := ⟨[(1, .i 10), (8, .bool false), (9, .str t), (10, .int .u64 1844674407370955162), (11, .int .u64 9223372036854775807), (12, .bool false), (13, .int .u64 (IntKind.u64.wrap ((n * 10) + ((((t.getD i 0).toNat : Int) - 48))))), (99, .slice (bytesAV t) t.length .no), (100, .i ((t.length : Nat) : Int)), (101, .i (i : Int))], [], [], [], 0⟩) (σ' := σ) (ob := Tt 3) (by kernel_rfl) (tt 3) ?_
        refine ACode.run hT nh [1, 8, 9, 10, 11, 12, 13, 99, 100, 101] (fr' := ⟨[(1, .i 10), (8, .bool false), (9, .str t), (10, .int .u64 1844674407370955162), (11, .int .u64 9223372036854775807), (12, .bool false), (13, .int .u64 (IntKind.u64.wrap ((n * 10) + ((((t.getD i 0).toNat : Int) - 48))))), (99, .slice (bytesAV t) t.length .no), (100, .i ((t.length : Nat) : Int)), (101, .i (IntKind.i64.wrap ((i : Int) + 1)))], [], [], [], 0⟩) (σ' := σ) (ob := Tt 3) (by kernel_rfl) (tt 3) ?_
        rw [IntWalk.i64_in ((i : Int) + 1) (by omega)]
        refine ⟨by kernel_rfl, _, ?_, i + 1, (IntKind.u64.wrap ((n * 10) + ((((t.getD i 0).toNat : Int) - 48)))), rfl, rfl, ?_, rfl⟩
        ·omega
        ·have hd : digV ((t.getD i 0).toNat : Int) = some (((t.getD i 0).toNat : Int) - 48) := by unfold digV; rw [if_pos (by omega)]
         have e9 := puF_at 10 1844674407370955162 9223372036854775807 t i n (by omega)
         rw [hd] at e9
         dsimp only at e9
         rw [if_neg (by omega), if_neg (by omega), if_neg (by simp only [IntKind.wrap_u64] at *; omega)] at e9
         have hw : (IntKind.u64.wrap ((n * 10) + ((((t.getD i 0).toNat : Int) - 48)))) = n * 10 + (((t.getD i 0).toNat : Int) - 48) := by simp only [IntKind.wrap_u64] at *; omega
         rw [hw]
         refine ⟨by omega, by simp only [IntKind.wrap_u64] at *; omega, by simp only [IntKind.wrap_u64] at *; omega, by rw [hP, e9]⟩
    ·
     have h5k := h5; simp only [Bool.and_eq_true, Bool.or_eq_true, Bool.and_eq_false_iff, Bool.or_eq_false_iff, decide_eq_true_eq, decide_eq_false_iff_not, beq_iff_eq, bne_iff_ne, ne_eq, Bool.not_eq_true', Bool.not_eq_false', beq_eq_false_iff_ne, bne_eq_false_iff_eq] at h5k
     refine ACode.seq ?_
     refine ACode.meet ⟨[(1, .i 10), (8, .bool false), (9, .str t), (10, .int .u64 1844674407370955162), (11, .int .u64 9223372036854775807), (12, .bool false), (13, .int .u64 n), (15, .int .u8 ((t.getD i 0).toNat : Int)), (99, .slice (bytesAV t) t.length .no), (100, .i ((t.length : Nat) : Int)), (101, .i (i : Int)), (121, .bool ((decide (97 ≤ (lowerI ((t.getD i 0).toNat : Int)))) && (decide ((lowerI ((t.getD i 0).toNat : Int)) ≤ 122))))], [], [], [], 0⟩ σ (ACode.region ?_) ?_
     ·
      refine AOps.runN hT nh 1 [1, 8, 9, 10, 11, 12, 13, 15, 99, 100, 101, 122] (fr' := ⟨[(1, .i 10), (8, .bool false), (9, .str t), (10, .int .u64 1844674407370955162), (11, .int .u64 9223372036854775807), (12, .bool false), (13, .int .u64 n), (15, .int .u8 ((t.getD i 0).toNat : Int)), (99, .slice (bytesAV t) t.length .no), (100, .i ((t.length : Nat) : Int)), (101, .i (i : Int)), (122, .int .u8 ((t.getD i 0).toNat : Int))], [], [], [], 0⟩) (σ' := σ) (ob := Tt 2) (by kernel_rfl) (tt 2) ?_
      refine AOps.call (fid := 79) (cap := []) (avs := [.int .u8 ((t.getD i 0).toNat : Int)]) (by kernel_rfl) rfl (by kernel_rfl) (by kernel_rfl) en_79 (by kernel_rfl) (ACalls.mono (lower_walk ((t.getD i 0).toNat : Int) _) ?_)
      rintro _ _ ⟨rfl, rfl⟩
      refine AOps.runN hT nh 2 [1, 8, 9, 10, 11, 12, 13, 15, 99, 100, 101, 125] (fr' := ⟨[(1, .i 10), (8, .bool false), (9, .str t), (10, .int .u64 1844674407370955162), (11, .int .u64 9223372036854775807), (12, .bool false), (13, .int .u64 n), (15, .int .u8 ((t.getD i 0).toNat : Int)), (99, .slice (bytesAV t) t.length .no), (100, .i ((t.length : Nat) : Int)), (101, .i (i : Int)), (125, .bool (decide (97 ≤ (lowerI ((t.getD i 0).toNat : Int)))))], [], [], [], 0⟩) (σ' := σ) (ob := Tt 3) (by kernel_rfl) (tt 3) ?_
      cases h10 : (decide (97 ≤ (lowerI ((t.getD i 0).toNat : Int))))
      ·
       have h10k := of_decide_eq_false h10
       refine AOps.runN hT nh 5 [1, 8, 9, 10, 11, 12, 13, 15, 99, 100, 101, 121, 126, 127, 128] (fr' := ⟨[(1, .i 10), (8, .bool false), (9, .str t), (10, .int .u64 1844674407370955162), (11, .int .u64 9223372036854775807), (12, .bool false), (13, .int .u64 n), (15, .int .u8 ((t.getD i 0).toNat : Int)), (99, .slice (bytesAV t) t.length .no), (100, .i ((t.length : Nat) : Int)), (101, .i (i : Int)), (121, .bool false), (126, .tuple []), (127, .tuple []), (128, .tuple [])], [], [], [], 0⟩) (σ' := σ) (ob := Tt 3) (by kernel_rfl) (tt 3) ?_
       refine AOps.weak [1, 8, 9, 10, 11, 12, 13, 15, 99, 100, 101, 121] (AOps.nil ⟨rfl, rfl⟩)
      ·
       have h10k := of_decide_eq_true h10
       refine AOps.runN hT nh 1 [1, 8, 9, 10, 11, 12, 13, 15, 99, 100, 101, 125, 126] (fr' := ⟨[(1, .i 10), (8, .bool false), (9, .str t), (10, .int .u64 1844674407370955162), (11, .int .u64 9223372036854775807), (12, .bool false), (13, .int .u64 n), (15, .int .u8 ((t.getD i 0).toNat : Int)), (99, .slice (bytesAV t) t.length .no), (100, .i ((t.length : Nat) : Int)), (101, .i (i : Int)), (125, .bool true), (126, .int .u8 ((t.getD i 0).toNat : Int))], [], [], [], 0⟩) (σ' := σ) (ob := Tt 2) (by kernel_rfl) (tt 2) ?_
       refine AOps.call (fid := 79) (cap := []) (avs := [.int .u8 ((t.getD i 0).toNat : Int)]) (by kernel_rfl) rfl (by kernel_rfl) (by kernel_rfl) en_79 (by kernel_rfl) (ACalls.mono (lower_walk ((t.getD i 0).toNat : Int) _) ?_)
       rintro _ _ ⟨rfl, rfl⟩
       refine AOps.runN hT nh 3 [1, 8, 9, 10, 11, 12, 13, 15, 99, 100, 101, 121, 126, 127, 128] (fr' := ⟨[(1, .i 10), (8, .bool false), (9, .str t), (10, .int .u64 1844674407370955162), (11, .int .u64 9223372036854775807), (12, .bool false), (13, .int .u64 n), (15, .int .u8 ((t.getD i 0).toNat : Int)), (99, .slice (bytesAV t) t.length .no), (100, .i ((t.length : Nat) : Int)), (101, .i (i : Int)), (121, .bool (decide ((lowerI ((t.getD i 0).toNat : Int)) ≤ 122))), (126, .int .u8 ((t.getD i 0).toNat : Int)), (127, .int .u8 (lowerI ((t.getD i 0).toNat : Int))), (128, .bool (decide ((lowerI ((t.getD i 0).toNat : Int)) ≤ 122)))], [], [], [], 0⟩) (σ' := σ) (ob := Tt 4) (by kernel_rfl) (tt 4) ?_
       refine AOps.weak [1, 8, 9, 10, 11, 12, 13, 15, 99, 100, 101, 121] (AOps.nil ⟨rfl, rfl⟩)
     refine ACode.cond (t := (decide (97 ≤ (lowerI ((t.getD i 0).toNat : Int)))) && (decide ((lowerI ((t.getD i 0).toNat : Int)) ≤ 122))) (by kernel_rfl) (fun h11 => ?_) (fun h11 => ?_)
     ·
      have h11k := h11; simp only [Bool.and_eq_true, Bool.or_eq_true, Bool.and_eq_false_iff, Bool.or_eq_false_iff, decide_eq_true_eq, decide_eq_false_iff_not, beq_iff_eq, bne_iff_ne, ne_eq, Bool.not_eq_true', Bool.not_eq_false', beq_eq_false_iff_ne, bne_eq_false_iff_eq] at h11k
      refine ACode.region ?_
      refine AOps.runN hT nh 1 [1, 8, 9, 10, 11, 12, 13, 99, 100, 101, 130] (fr' := ⟨[(1, .i 10), (8, .bool false), (9, .str t), (10, .int .u64 1844674407370955162), (11, .int .u64 9223372036854775807), (12, .bool false), (13, .int .u64 n), (99, .slice (bytesAV t) t.length .no), (100, .i ((t.length : Nat) : Int)), (101, .i (i : Int)), (130, .int .u8 ((t.getD i 0).toNat : Int))], [], [], [], 0⟩) (σ' := σ) (ob := Tt 2) (by kernel_rfl) (tt 2) ?_
      refine AOps.call (fid := 79) (cap := []) (avs := [.int .u8 ((t.getD i 0).toNat : Int)]) (by kernel_rfl) rfl (by kernel_rfl) (by kernel_rfl) en_79 (by kernel_rfl) (ACalls.mono (lower_walk ((t.getD i 0).toNat : Int) _) ?_)
      rintro _ _ ⟨rfl, rfl⟩
      refine AOps.runN hT nh 3 [1, 8, 9, 10, 11, 12, 13, 16, 99, 100, 101] (fr' := ⟨[(1, .i 10), (8, .bool false), (9, .str t), (10, .int .u64 1844674407370955162), (11, .int .u64 9223372036854775807), (12, .bool false), (13, .int .u64 n), (16, .int .u8 (IntKind.u8.wrap ((IntKind.u8.wrap ((lowerI ((t.getD i 0).toNat : Int)) - 97)) + 10))), (99, .slice (bytesAV t) t.length .no), (100, .i ((t.length : Nat) : Int)), (101, .i (i : Int))], [], [], [], 0⟩) (σ' := σ) (ob := Tt 4) (by kernel_rfl) (tt 4) ?_
      rw [IntWalk.u8_in ((lowerI ((t.getD i 0).toNat : Int)) - 97) (by omega)]
      rw [IntWalk.u8_in (((lowerI ((t.getD i 0).toNat : Int)) - 97) + 10) (by omega)]
      refine AOps.nil ?_
      refine ACode.seq ?_
      refine ACode.seq ?_
      refine ACode.region ?_
      refine AOps.runN hT nh 4 [1, 8, 9, 10, 11, 12, 13, 16, 99, 100, 101, 137] (fr' := ⟨[(1, .i 10), (8, .bool false), (9, .str t), (10, .int .u64 1844674407370955162), (11, .int .u64 9223372036854775807), (12, .bool false), (13, .int .u64 n), (16, .int .u8 (((lowerI ((t.getD i 0).toNat : Int)) - 97) + 10)), (99, .slice (bytesAV t) t.length .no), (100, .i ((t.length : Nat) : Int)), (101, .i (i : Int)), (137, .bool (decide ((((lowerI ((t.getD i 0).toNat : Int)) - 97) + 10) ≥ 10)))], [], [], [], 0⟩) (σ' := σ) (ob := Tt 5) (by kernel_rfl) (tt 5) ?_
      refine AOps.nil ?_
      refine ACode.cond (t := decide ((((lowerI ((t.getD i 0).toNat : Int)) - 97) + 10) ≥ 10)) (by kernel_rfl) (fun h12 => ?_) (fun h12 => ?_)
      ·
       have h12k := of_decide_eq_true h12
       refine ACode.seq ?_
       refine ACode.run hT nh [6, 7] (fr' := ⟨[(6, .int .u64 0), (7, .iface 116 (.i 2))], [], [], [], 0⟩) (σ' := σ) (ob := Tt 4) (by kernel_rfl) (tt 4) ?_
       refine ACode.ret ?_
       refine retQ.ret (.tuple [.int .u64 0, .iface 116 (.i 2)]) (by kernel_rfl) ?_
       have hd : digV ((t.getD i 0).toNat : Int) = some (lowerI ((t.getD i 0).toNat : Int) - 97 + 10) := by unfold digV; rw [if_neg (by omega), if_pos (by omega)]
       have e9 := puF_at 10 1844674407370955162 9223372036854775807 t i n (by omega)
       rw [hd] at e9
       dsimp only at e9
       rw [if_pos (by omega)] at e9
       have e : puS 10 1844674407370955162 9223372036854775807 t = (0, false) := by rw [puS, if_neg h1k, hP, e9]
       exact ⟨rfl, .inr ⟨by rw [e], 2, by simp, by rw [e]⟩⟩
      ·
       have h12k := of_decide_eq_false h12
       refine ACode.skip ?_
       refine ACode.seq ?_
       refine ACode.seq ?_
       refine ACode.run hT nh [1, 8, 9, 10, 11, 12, 13, 16, 99, 100, 101, 141] (fr' := ⟨[(1, .i 10), (8, .bool false), (9, .str t), (10, .int .u64 1844674407370955162), (11, .int .u64 9223372036854775807), (12, .bool false), (13, .int .u64 n), (16, .int .u8 (((lowerI ((t.getD i 0).toNat : Int)) - 97) + 10)), (99, .slice (bytesAV t) t.length .no), (100, .i ((t.length : Nat) : Int)), (101, .i (i : Int)), (141, .bool (decide (n ≥ 1844674407370955162)))], [], [], [], 0⟩) (σ' := σ) (ob := Tt 4) (by kernel_rfl) (tt 4) ?_
       refine ACode.cond (t := decide (n ≥ 1844674407370955162)) (by kernel_rfl) (fun h13 => ?_) (fun h13 => ?_)
       ·
        have h13k := of_decide_eq_true h13
        refine ACode.seq ?_
        refine ACode.run hT nh [6, 7] (fr' := ⟨[(6, .int .u64 9223372036854775807), (7, .iface 116 (.i 1))], [], [], [], 0⟩) (σ' := σ) (ob := Tt 5) (by kernel_rfl) (tt 5) ?_
        refine ACode.ret ?_
        refine retQ.ret (.tuple [.int .u64 9223372036854775807, .iface 116 (.i 1)]) (by kernel_rfl) ?_
        have hd : digV ((t.getD i 0).toNat : Int) = some (lowerI ((t.getD i 0).toNat : Int) - 97 + 10) := by unfold digV; rw [if_neg (by omega), if_pos (by omega)]
        have e9 := puF_at 10 1844674407370955162 9223372036854775807 t i n (by omega)
        rw [hd] at e9
        dsimp only at e9
        first | rw [if_neg (by omega), if_pos (by omega)] at e9 | rw [if_neg (by omega), if_neg (by omega), if_pos (by simp only [IntKind.wrap_u64] at *; omega)] at e9
        have e : puS 10 1844674407370955162 9223372036854775807 t = (9223372036854775807, false) := by rw [puS, if_neg h1k, hP, e9]
        exact ⟨rfl, .inr ⟨by rw [e], 1, by simp, by rw [e]⟩⟩
       ·
        have h13k := of_decide_eq_false h13
        refine ACode.skip ?_
        refine ACode.seq ?_
        refine ACode.region ?_
        refine AOps.runN hT nh 5 [1, 8, 9, 10, 11, 12, 13, 16, 99, 100, 101] (fr' := ⟨[(1, .i 10), (8, .bool false), (9, .str t), (10, .int .u64 1844674407370955162), (11, .int .u64 9223372036854775807), (12, .bool false), (13, .int .u64 (IntKind.u64.wrap (n * 10))), (16, .int .u8 (((lowerI ((t.getD i 0).toNat : Int)) - 97) + 10)), (99, .slice (bytesAV t) t.length .no), (100, .i ((t.length : Nat) : Int)), (101, .i (i : Int))], [], [], [], 0⟩) (σ' := σ) (ob := Tt 6) (by kernel_rfl) (tt 6) ?_
        rw [IntWalk.u64_in (n * 10) (by omega)]
        refine AOps.nil ?_
        refine ACode.seq ?_
        refine ACode.region ?_
        refine AOps.runN hT nh 5 [1, 8, 9, 10, 11, 12, 13, 17, 99, 100, 101] (fr' := ⟨[(1, .i 10), (8, .bool false), (9, .str t), (10, .int .u64 1844674407370955162), (11, .int .u64 9223372036854775807), (12, .bool false), (13, .int .u64 (n * 10)), (17, .int .u64 (IntKind.u64.wrap ((n * 10) + (IntKind.u64.wrap ((((lowerI ((t.getD i 0).toNat : Int)) - 97) + 10)))))), (99, .slice (bytesAV t) t.length .no), (100, .i ((t.length : Nat) : Int)), (101, .i (i : Int))], [], [], [], 0⟩) (σ' := σ) (ob := Tt 6) (by kernel_rfl) (tt 6) ?_
        rw [IntWalk.u64_in ((((lowerI ((t.getD i 0).toNat : Int)) - 97) + 10)) (by omega)]
        refine AOps.nil ?_
        refine ACode.seq ?_
        refine ACode.seq ?_
        refine ACode.meet ⟨[(1, .i 10), (8, .bool false), (9, .str t), (10, .int .u64 1844674407370955162), (11, .int .u64 9223372036854775807), (12, .bool false), (17, .int .u64 (IntKind.u64.wrap ((n * 10) + ((((lowerI ((t.getD i 0).toNat : Int)) - 97) + 10))))), (99, .slice (bytesAV t) t.length .no), (100, .i ((t.length : Nat) : Int)), (101, .i (i : Int)), (159, .bool ((decide ((IntKind.u64.wrap ((n * 10) + ((((lowerI ((t.getD i 0).toNat : Int)) - 97) + 10)))) < (n * 10))) || (decide ((IntKind.u64.wrap ((n * 10) + ((((lowerI ((t.getD i 0).toNat : Int)) - 97) + 10)))) > 9223372036854775807))))], [], [], [], 0⟩ σ (ACode.region ?_) ?_
        ·
         refine AOps.runN hT nh 4 [1, 8, 9, 10, 11, 12, 17, 99, 100, 101, 155] (fr' := ⟨[(1, .i 10), (8, .bool false), (9, .str t), (10, .int .u64 1844674407370955162), (11, .int .u64 9223372036854775807), (12, .bool false), (17, .int .u64 (IntKind.u64.wrap ((n * 10) + ((((lowerI ((t.getD i 0).toNat : Int)) - 97) + 10))))), (99, .slice (bytesAV t) t.length .no), (100, .i ((t.length : Nat) : Int)), (101, .i (i : Int)), (155, .bool (decide ((IntKind.u64.wrap ((n * 10) + ((((lowerI ((t.getD i 0).toNat : Int)) - 97) + 10)))) < (n * 10))))], [], [], [], 0⟩) (σ' := σ) (ob := Tt 5) (by kernel_rfl) (tt 5) ?_
         cases h14 : (decide ((IntKind.u64.wrap ((n * 10) + ((((lowerI ((t.getD i 0).toNat : Int)) - 97) + 10)))) < (n * 10)))
         ·
          have h14k := of_decide_eq_false h14
          refine AOps.runN hT nh 4 [1, 8, 9, 10, 11, 12, 17, 99, 100, 101, 156, 157, 158, 159] (fr' := ⟨[(1, .i 10), (8, .bool false), (9, .str t), (10, .int .u64 1844674407370955162), (11, .int .u64 9223372036854775807), (12, .bool false), (17, .int .u64 (IntKind.u64.wrap ((n * 10) + ((((lowerI ((t.getD i 0).toNat : Int)) - 97) + 10))))), (99, .slice (bytesAV t) t.length .no), (100, .i ((t.length : Nat) : Int)), (101, .i (i : Int)), (156, .int .u64 (IntKind.u64.wrap ((n * 10) + ((((lowerI ((t.getD i 0).toNat : Int)) - 97) + 10))))), (157, .int .u64 9223372036854775807), (158, .bool (decide ((IntKind.u64.wrap ((n * 10) + ((((lowerI ((t.getD i 0).toNat : Int)) - 97) + 10)))) > 9223372036854775807))), (159, .bool (decide ((IntKind.u64.wrap ((n * 10) + ((((lowerI ((t.getD i 0).toNat : Int)) - 97) + 10)))) > 9223372036854775807)))], [], [], [], 0⟩) (σ' := σ) (ob := Tt 5) (by kernel_rfl) (tt 5) ?_
          refine AOps.weak [1, 8, 9, 10, 11, 12, 17, 99, 100, 101, 159] (AOps.nil ⟨rfl, rfl⟩)
         ·
          have h14k := of_decide_eq_true h14
          refine AOps.runN hT nh 4 [1, 8, 9, 10, 11, 12, 17, 99, 100, 101, 156, 157, 158, 159] (fr' := ⟨[(1, .i 10), (8, .bool false), (9, .str t), (10, .int .u64 1844674407370955162), (11, .int .u64 9223372036854775807), (12, .bool false), (17, .int .u64 (IntKind.u64.wrap ((n * 10) + ((((lowerI ((t.getD i 0).toNat : Int)) - 97) + 10))))), (99, .slice (bytesAV t) t.length .no), (100, .i ((t.length : Nat) : Int)), (101, .i (i : Int)), (156, .tuple []), (157, .tuple []), (158, .tuple []), (159, .bool true)], [], [], [], 0⟩) (σ' := σ) (ob := Tt 2) (by kernel_rfl) (tt 2) ?_
          refine AOps.weak [1, 8, 9, 10, 11, 12, 17, 99, 100, 101, 159] (AOps.nil ⟨rfl, rfl⟩)
        refine ACode.cond (t := (decide ((IntKind.u64.wrap ((n * 10) + ((((lowerI ((t.getD i 0).toNat : Int)) - 97) + 10)))) < (n * 10))) || (decide ((IntKind.u64.wrap ((n * 10) + ((((lowerI ((t.getD i 0).toNat : Int)) - 97) + 10)))) > 9223372036854775807))) (by kernel_rfl) (fun h15 => ?_) (fun h15 => ?_)
        ·
         have h15k := h15; simp only [Bool.and_eq_true, Bool.or_eq_true, Bool.and_eq_false_iff, Bool.or_eq_false_iff, decide_eq_true_eq, decide_eq_false_iff_not, beq_iff_eq, bne_iff_ne, ne_eq, Bool.not_eq_true', Bool.not_eq_false', beq_eq_false_iff_ne, bne_eq_false_iff_eq] at h15k
         refine ACode.seq ?_
         refine ACode.run hT nh [6, 7] (fr' := ⟨[(6, .int .u64 9223372036854775807), (7, .iface 116 (.i 1))], [], [], [], 0⟩) (σ' := σ) (ob := Tt 5) (by kernel_rfl) (tt 5) ?_
         refine ACode.ret ?_
         refine retQ.ret (.tuple [.int .u64 9223372036854775807, .iface 116 (.i 1)]) (by kernel_rfl) ?_
         have hd : digV ((t.getD i 0).toNat : Int) = some (lowerI ((t.getD i 0).toNat : Int) - 97 + 10) := by unfold digV; rw [if_neg (by omega), if_pos (by omega)]
         have e9 := puF_at 10 1844674407370955162 9223372036854775807 t i n (by omega)
         rw [hd] at e9
         dsimp only at e9
         first | rw [if_neg (by omega), if_pos (by omega)] at e9 | rw [if_neg (by omega), if_neg (by omega), if_pos (by simp only [IntKind.wrap_u64] at *; omega)] at e9
         have e : puS 10 1844674407370955162 9223372036854775807 t = (9223372036854775807, false) := by rw [puS, if_neg h1k, hP, e9]
         exact ⟨rfl, .inr ⟨by rw [e], 1, by simp, by rw [e]⟩⟩
        ·
         have h15k := h15; simp only [Bool.and_eq_true, Bool.or_eq_true, Bool.and_eq_false_iff, Bool.or_eq_false_iff, decide_eq_true_eq, decide_eq_false_iff_not, beq_iff_eq, bne_iff_ne, ne_eq, Bool.not_eq_true', Bool.not_eq_false', beq_eq_false_iff_ne, bne_eq_false_iff_eq] at h15k
         refine ACode.skip ?_
         refine ACode.run hT nh [1, 8, 9, 10, 11, 12, 13, 99, 100, 101] (fr' := ⟨[(1, .i 10), (8, .bool false), (9, .str t), (10, .int .u64 1844674407370955162), (11, .int .u64 9223372036854775807), (12, .bool false), (13, .int .u64 (IntKind.u64.wrap ((n * 10) + ((((lowerI ((t.getD i 0).toNat : Int)) - 97) + 10))))), (99, .slice (bytesAV t) t.length .no), (100, .i ((t.length : Nat) : Int)), (101, .i (i : Int))], [], [], [], 0⟩) (σ' := σ) (ob := Tt 3) (by kernel_rfl) (tt 3) ?_
         refine ACode.run hT nh [1, 8, 9, 10, 11, 12, 13, 99, 100, 101] (fr' := ⟨[(1, .i 10), (8, .bool false), (9, .str t), (10, .int .u64 1844674407370955162), (11, .int .u64 9223372036854775807), (12, .bool false), (13, .int .u64 (IntKind.u64.wrap ((n * 10) + ((((lowerI ((t.getD i 0).toNat : Int)) - 97) + 10))))), (99, .slice (bytesAV t) t.length .no), (100, .i ((t.length : Nat) : Int)), (101, .i (IntKind.i64.wrap ((i : Int) + 1)))], [], [], [], 0⟩) (σ' := σ) (ob := Tt 3) (by kernel_rfl) (tt 3) ?_
         rw [IntWalk.i64_in ((i : Int) + 1) (by omega)]
         refine ⟨by kernel_rfl, _, ?_, i + 1, (IntKind.u64.wrap ((n * 10) + ((((lowerI ((t.getD i 0).toNat : Int)) - 97) + 10)))), rfl, rfl, ?_, rfl⟩
         ·omega
         ·have hd : digV ((t.getD i 0).toNat : Int) = some (lowerI ((t.getD i 0).toNat : Int) - 97 + 10) := by unfold digV; rw [if_neg (by omega), if_pos (by omega)]
          have e9 := puF_at 10 1844674407370955162 9223372036854775807 t i n (by omega)
          rw [hd] at e9
          dsimp only at e9
          rw [if_neg (by omega), if_neg (by omega), if_neg (by simp only [IntKind.wrap_u64] at *; omega)] at e9
          have hw : (IntKind.u64.wrap ((n * 10) + ((((lowerI ((t.getD i 0).toNat : Int)) - 97) + 10)))) = n * 10 + (lowerI ((t.getD i 0).toNat : Int) - 97 + 10) := by simp only [IntKind.wrap_u64] at *; omega
          rw [hw]
          refine ⟨by omega, by simp only [IntKind.wrap_u64] at *; omega, by simp only [IntKind.wrap_u64] at *; omega, by rw [hP, e9]⟩
     ·
      have h11k := h11; simp only [Bool.and_eq_true, Bool.or_eq_true, Bool.and_eq_false_iff, Bool.or_eq_false_iff, decide_eq_true_eq, decide_eq_false_iff_not, beq_iff_eq, bne_iff_ne, ne_eq, Bool.not_eq_true', Bool.not_eq_false', beq_eq_false_iff_ne, bne_eq_false_iff_eq] at h11k
      refine ACode.seq ?_
      refine ACode.run hT nh [6, 7] (fr' := ⟨[(6, .int .u64 0), (7, .iface 116 (.i 2))], [], [], [], 0⟩) (σ' := σ) (ob := Tt 4) (by kernel_rfl) (tt 4) ?_
      refine ACode.ret ?_
      refine retQ.ret (.tuple [.int .u64 0, .iface 116 (.i 2)]) (by kernel_rfl) ?_
      have hd : digV ((t.getD i 0).toNat : Int) = none := by unfold digV; rw [if_neg (by omega), if_neg (by omega)]
      have e9 := puF_at 10 1844674407370955162 9223372036854775807 t i n (by omega)
      rw [hd] at e9
      dsimp only at e9
      have e : puS 10 1844674407370955162 9223372036854775807 t = (0, false) := by rw [puS, if_neg h1k, hP, e9]
      exact ⟨rfl, .inr ⟨by rw [e], 2, by simp, by rw [e]⟩⟩
   ·
    have h2k := of_decide_eq_false h2
    refine ACode.exit ?_
    refine ACode.seq ?_
    refine ACode.seq ?_
    refine ACode.region ?_
    refine AOps.runN hT nh 6 [13, 169] (fr' := ⟨[(13, .int .u64 n), (169, .bool false)], [], [], [], 0⟩) (σ' := σ) (ob := Tt 4) (by kernel_rfl) (tt 4) ?_
    refine AOps.nil ?_
    refine ACode.cond (t := false) (by kernel_rfl) (fun h => Bool.noConfusion h) (fun _ => ?_)
    refine ACode.skip ?_
    refine ACode.seq ?_
    refine ACode.run hT nh [6, 7] (fr' := ⟨[(6, .int .u64 n), (7, .nilIface)], [], [], [], 0⟩) (σ' := σ) (ob := Tt 4) (by kernel_rfl) (tt 4) ?_
    refine ACode.ret ?_
    refine retQ.ret (.tuple [.int .u64 n, .nilIface]) (by kernel_rfl) ?_
    have e9 := puF_end 10 1844674407370955162 9223372036854775807 t i n (by omega)
    have e : puS 10 1844674407370955162 9223372036854775807 t = (n, true) := by rw [puS, if_neg h1k, hP, e9]
    exact ⟨rfl, .inl ⟨by rw [e], by rw [e]⟩⟩
theorem parseUint16_walk (t : List UInt8) (σ : St) (ht : t.length ≤ 9000) : ACalls Tryd.prog 65 [.str t, .i 16, .i 64] σ (fun e s => σ = s ∧ ((puS 16 1152921504606846976 18446744073709551615 t).2 = true ∧ e = .ret (.tuple [.int .u64 (puS 16 1152921504606846976 18446744073709551615 t).1, .nilIface]) ∨ (puS 16 1152921504606846976 18446744073709551615 t).2 = false ∧ ∃ k, (k = 1 ∨ k = 2) ∧ e = .ret (.tuple [.int .u64 (puS 16 1152921504606846976 18446744073709551615 t).1, .iface 116 (.i k)]))) := by
  refine ACalls.enter hT Tryd.func65 rfl (by kernel_rfl) ?_
  refine ACode.seq ?_
  refine ACode.run hT nh [0, 1, 2] (fr' := ⟨[(0, .str t), (1, .i 16), (2, .i 64)], [], [], [], 0⟩) (σ' := σ) (ob := Tt 3) (by kernel_rfl) (tt 3) ?_
  refine ACode.seq ?_
  refine ACode.seq ?_
  refine ACode.run hT nh [0, 1, 2, 19] (fr' := ⟨[(0, .str t), (1, .i 16), (2, .i 64), (19, .bool (t == []))], [], [], [], 0⟩) (σ' := σ) (ob := Tt 3) (by kernel_rfl) (tt 3) ?_
  refine ACode.cond (t := t == []) (by kernel_rfl) (fun h1 => ?_) (fun h1 => ?_)
  ·
   have h1k := eq_of_beq h1
   refine ACode.seq ?_
   refine ACode.run hT nh [6, 7] (fr' := ⟨[(6, .int .u64 0), (7, .iface 116 (.i 2))], [], [], [], 0⟩) (σ' := σ) (ob := Tt 4) (by kernel_rfl) (tt 4) ?_
   refine ACode.ret ?_
   refine retQ.ret (.tuple [.int .u64 0, .iface 116 (.i 2)]) (by kernel_rfl) ?_
   exact ⟨rfl, .inr ⟨by simp [puS, h1k], 2, .inr rfl, by simp [puS, h1k]⟩⟩
  ·
   have h1k := ne_of_beq_false h1
   refine ACode.skip ?_
   refine ACode.seq ?_
   refine ACode.run hT nh [0, 1, 2, 8] (fr' := ⟨[(0, .str t), (1, .i 16), (2, .i 64), (8, .bool false)], [], [], [], 0⟩) (σ' := σ) (ob := Tt 4) (by kernel_rfl) (tt 4) ?_
   refine ACode.seq ?_
   refine ACode.run hT nh [0, 1, 2, 8, 9] (fr' := ⟨[(0, .str t), (1, .i 16), (2, .i 64), (8, .bool false), (9, .str t)], [], [], [], 0⟩) (σ' := σ) (ob := Tt 3) (by kernel_rfl) (tt 3) ?_
   refine ACode.seq ?_
   refine ACode.block ?_
   refine ACode.seq ?_
   refine ACode.region ?_
   refine AOps.runN hT nh 7 [0, 1, 2, 8, 9, 25] (fr' := ⟨[(0, .str t), (1, .i 16), (2, .i 64), (8, .bool false), (9, .str t), (25, .bool true)], [], [], [], 0⟩) (σ' := σ) (ob := Tt 8) (by kernel_rfl) (tt 8) ?_
   refine AOps.nil ?_
   refine ACode.cond (t := true) (by kernel_rfl) (fun _ => ?_) (fun h => Bool.noConfusion h)
   refine ACode.skip ?_
   refine ACode.seq ?_
   refine ACode.seq ?_
   refine ACode.run hT nh [0, 1, 2, 8, 9, 77] (fr' := ⟨[(0, .str t), (1, .i 16), (2, .i 64), (8, .bool false), (9, .str t), (77, .bool false)], [], [], [], 0⟩) (σ' := σ) (ob := Tt 3) (by kernel_rfl) (tt 3) ?_
   refine ACode.cond (t := false) (by kernel_rfl) (fun h => Bool.noConfusion h) (fun _ => ?_)
   refine ACode.seq ?_
   refine ACode.region ?_
   refine AOps.runN hT nh 6 [0, 1, 2, 8, 9, 83] (fr' := ⟨[(0, .str t), (1, .i 16), (2, .i 64), (8, .bool false), (9, .str t), (83, .bool false)], [], [], [], 0⟩) (σ' := σ) (ob := Tt 7) (by kernel_rfl) (tt 7) ?_
   refine AOps.nil ?_
   refine ACode.cond (t := false) (by kernel_rfl) (fun h => Bool.noConfusion h) (fun _ => ?_)
   refine ACode.skip ?_
   refine ACode.seq ?_
   refine ACode.run hT nh [0, 1, 2, 8, 9] (fr' := ⟨[(0, .str t), (1, .i 16), (2, .i 64), (8, .bool false), (9, .str t)], [], [], [], 0⟩) (σ' := σ) (ob := Tt 2) (by kernel_rfl) (tt 2) ?_
   refine ACode.seq ?_
   refine ACode.seq ?_
   refine ACode.run hT nh [0, 1, 2, 8, 9, 85] (fr' := ⟨[(0, .str t), (1, .i 16), (2, .i 64), (8, .bool false), (9, .str t), (85, .i 16)], [], [], [], 0⟩) (σ' := σ) (ob := Tt 2) (by kernel_rfl) (tt 2) ?_
   refine ACode.block ?_
   refine ACode.seq ?_
   refine ACode.run hT nh [0, 1, 2, 8, 9, 85, 90] (fr' := ⟨[(0, .str t), (1, .i 16), (2, .i 64), (8, .bool false), (9, .str t), (85, .i 16), (90, .bool false)], [], [], [], 0⟩) (σ' := σ) (ob := Tt 3) (by kernel_rfl) (tt 3) ?_
   refine ACode.cond (t := false) (by kernel_rfl) (fun h => Bool.noConfusion h) (fun _ => ?_)
   refine ACode.seq ?_
   refine ACode.run hT nh [0, 1, 2, 8, 9, 92] (fr' := ⟨[(0, .str t), (1, .i 16), (2, .i 64), (8, .bool false), (9, .str t), (92, .bool true)], [], [], [], 0⟩) (σ' := σ) (ob := Tt 3) (by kernel_rfl) (tt 3) ?_
   refine ACode.cond (t := true) (by kernel_rfl) (fun _ => ?_) (fun h => Bool.noConfusion h)
   refine ACode.run hT nh [0, 1, 2, 8, 9, 10] (fr' := ⟨[(0, .str t), (1, .i 16), (2, .i 64), (8, .bool false), (9, .str t), (10, .int .u64 1152921504606846976)], [], [], [], 0⟩) (σ' := σ) (ob := Tt 2) (by kernel_rfl) (tt 2) ?_
   refine ACode.seq ?_
   refine ACode.region ?_
   refine AOps.runN hT nh 5 [0, 1, 8, 9, 10, 11] (fr' := ⟨[(0, .str t), (1, .i 16), (8, .bool false), (9, .str t), (10, .int .u64 1152921504606846976), (11, .int .u64 18446744073709551615)], [], [], [], 0⟩) (σ' := σ) (ob := True ∧ True ∧ (¬ (64 : Int) < 0) ∧ True ∧ True ∧ True) (by kernel_rfl) ⟨trivial, trivial, (by first | omega | (simp only [bytesAV_length]; omega)), trivial, trivial, trivial⟩ ?_
   refine AOps.nil ?_
   refine ACode.seq ?_
   refine ACode.run hT nh [0, 1, 8, 9, 10, 11, 12] (fr' := ⟨[(0, .str t), (1, .i 16), (8, .bool false), (9, .str t), (10, .int .u64 1152921504606846976), (11, .int .u64 18446744073709551615), (12, .bool false)], [], [], [], 0⟩) (σ' := σ) (ob := Tt 2) (by kernel_rfl) (tt 2) ?_
   refine ACode.seq ?_
   refine ACode.run hT nh [0, 1, 8, 9, 10, 11, 12, 13] (fr' := ⟨[(0, .str t), (1, .i 16), (8, .bool false), (9, .str t), (10, .int .u64 1152921504606846976), (11, .int .u64 18446744073709551615), (12, .bool false), (13, .int .u64 0)], [], [], [], 0⟩) (σ' := σ) (ob := Tt 2) (by kernel_rfl) (tt 2) ?_
   refine ACode.seq ?_
   refine ACode.seq ?_
   refine ACode.region ?_
   refine AOps.runN hT nh 1 [1, 8, 9, 10, 11, 12, 13, 98] (fr' := ⟨[(1, .i 16), (8, .bool false), (9, .str t), (10, .int .u64 1152921504606846976), (11, .int .u64 18446744073709551615), (12, .bool false), (13, .int .u64 0), (98, .str t)], [], [], [], 0⟩) (σ' := σ) (ob := Tt 2) (by kernel_rfl) (tt 2) ?_
   refine AOps.bytes hT (b := t) (e := 5) (by_ := 1) (by kernel_rfl) rfl (by kernel_rfl) (by kernel_rfl) (by kernel_rfl) (by kernel_rfl) (by kernel_rfl) ?_
   refine AOps.runN hT nh 2 [1, 8, 9, 10, 11, 12, 13, 99, 100, 101] (fr' := ⟨[(1, .i 16), (8, .bool false), (9, .str t), (10, .int .u64 1152921504606846976), (11, .int .u64 18446744073709551615), (12, .bool false), (13, .int .u64 0), (99, .slice (bytesAV t) ((t : List UInt8).length) .no), (100, .i (((t : List UInt8).length : Nat) : Int)), (101, .i 0)], [], [], [], 0⟩) (σ' := σ) (ob := Tt 3) (by kernel_rfl) (tt 3) ?_
   refine AOps.nil ?_
   refine ACode.block ?_
   refine ACode.loop [1, 8, 9, 10, 11, 12, 13, 99, 100, 101] 0 0 (fun n0 fr σ' => ∃ (i : Nat), ∃ (n : Int), fr = ⟨[(1, .i 16), (8, .bool false), (9, .str t), (10, .int .u64 1152921504606846976), (11, .int .u64 18446744073709551615), (12, .bool false), (13, .int .u64 n), (99, .slice (bytesAV t) t.length .no), (100, .i ((t.length : Nat) : Int)), (101, .i (i : Int))], [], [], [], 0⟩ ∧ σ = σ' ∧ (i ≤ t.length ∧ 0 ≤ n ∧ n ≤ 18446744073709551615 ∧ puF 16 1152921504606846976 18446744073709551615 t 0 = puF 16 1152921504606846976 18446744073709551615 (t.drop i) n) ∧ n0 = t.length - i) _ (by kernel_rfl) ⟨0, 0, rfl, rfl, ⟨Nat.zero_le _, by omega, by omega, rfl⟩, rfl⟩ ?_
   rintro n0 fr σ' ⟨i, n, rfl, rfl, ⟨hi, hn0, hn1, hP⟩, rfl⟩
   have hb := byte_bd (t.getD i 0)
   refine ACode.seq ?_
   refine ACode.run hT nh [1, 8, 9, 10, 11, 12, 13, 99, 100, 101, 102] (fr' := ⟨[(1, .i 16), (8, .bool false), (9, .str t), (10, .int .u64 1152921504606846976), (11, .int .u64 18446744073709551615), (12, .bool false), (13, .int .u64 n), (99, .slice (bytesAV t) t.length .no), (100, .i ((t.length : Nat) : Int)), (101, .i (i : Int)), (102, .bool (decide ((i : Int) < ((t.length : Nat) : Int))))], [], [], [], 0⟩) (σ' := σ) (ob := Tt 2) (by kernel_rfl) (tt 2) ?_
   refine ACode.seq ?_
   refine ACode.cond (t := decide ((i : Int) < ((t.length : Nat) : Int))) (by kernel_rfl) (fun h2 => ?_) (fun h2 => ?_)
   ·
    have h2k := of_decide_eq_true h2
    refine ACode.skip ?_
    refine ACode.seq ?_
    refine ACode.block ?_
    refine ACode.seq ?_
    refine ACode.region ?_
    refine AOps.runN hT nh 1 [1, 8, 9, 10, 11, 12, 13, 99, 100, 101, 103] (fr' := ⟨[(1, .i 16), (8, .bool false), (9, .str t), (10, .int .u64 1152921504606846976), (11, .int .u64 18446744073709551615), (12, .bool false), (13, .int .u64 n), (99, .slice (bytesAV t) t.length .no), (100, .i ((t.length : Nat) : Int)), (101, .i (i : Int)), (103, .dat (((bytesAV t : List AV).drop (i * 1)).take 1))], [], [], [], 0⟩) (σ' := σ) (ob := (0 ≤ ((i : Int) : Int) ∧ ((i : Int) : Int) < (t.length : Nat) ∧ i * 1 ≤ (bytesAV t : List AV).length) ∧ True) (by kernel_rfl) ⟨(by first | omega | (simp only [bytesAV_length]; omega)), trivial⟩ ?_
    rw [bytesAV_at t i (by simp at *; omega)]
    refine AOps.runN hT nh 2 [1, 8, 9, 10, 11, 12, 13, 15, 99, 100, 101] (fr' := ⟨[(1, .i 16), (8, .bool false), (9, .str t), (10, .int .u64 1152921504606846976), (11, .int .u64 18446744073709551615), (12, .bool false), (13, .int .u64 n), (15, .int .u8 ((t.getD i 0).toNat : Int)), (99, .slice (bytesAV t) t.length .no), (100, .i ((t.length : Nat) : Int)), (101, .i (i : Int))], [], [], [], 0⟩) (σ' := σ) (ob := Tt 3) (by kernel_rfl) (tt 3) ?_
    refine AOps.nil ?_
    refine ACode.seq ?_
    refine ACode.run hT nh [1, 8, 9, 10, 11, 12, 13, 15, 99, 100, 101] (fr' := ⟨[(1, .i 16), (8, .bool false), (9, .str t), (10, .int .u64 1152921504606846976), (11, .int .u64 18446744073709551615), (12, .bool false), (13, .int .u64 n), (15, .int .u8 ((t.getD i 0).toNat : Int)), (99, .slice (bytesAV t) t.length .no), (100, .i ((t.length : Nat) : Int)), (101, .i (i : Int))], [], [], [], 0⟩) (σ' := σ) (ob := Tt 2) (by kernel_rfl) (tt 2) ?_
    refine ACode.seq ?_
    refine ACode.block ?_
    refine ACode.seq ?_
    refine ACode.meet ⟨[(1, .i 16), (8, .bool false), (9, .str t), (10, .int .u64 1152921504606846976), (11, .int .u64 18446744073709551615), (12, .bool false), (13, .int .u64 n), (15, .int .u8 ((t.getD i 0).toNat : Int)), (99, .slice (bytesAV t) t.length .no), (100, .i ((t.length : Nat) : Int)), (101, .i (i : Int)), (106, .bool false)], [], [], [], 0⟩ σ (ACode.region ?_) ?_
    ·
     refine AOps.runN hT nh 3 [1, 8, 9, 10, 11, 12, 13, 15, 99, 100, 101, 109] (fr' := ⟨[(1, .i 16), (8, .bool false), (9, .str t), (10, .int .u64 1152921504606846976), (11, .int .u64 18446744073709551615), (12, .bool false), (13, .int .u64 n), (15, .int .u8 ((t.getD i 0).toNat : Int)), (99, .slice (bytesAV t) t.length .no), (100, .i ((t.length : Nat) : Int)), (101, .i (i : Int)), (109, .bool (((t.getD i 0).toNat : Int) == 95))], [], [], [], 0⟩) (σ' := σ) (ob := Tt 4) (by kernel_rfl) (tt 4) ?_
     cases h3 : (((t.getD i 0).toNat : Int) == 95)
     ·
      have h3k := ne_of_beq_false h3
      refine AOps.runN hT nh 3 [1, 8, 9, 10, 11, 12, 13, 15, 99, 100, 101, 106, 110] (fr' := ⟨[(1, .i 16), (8, .bool false), (9, .str t), (10, .int .u64 1152921504606846976), (11, .int .u64 18446744073709551615), (12, .bool false), (13, .int .u64 n), (15, .int .u8 ((t.getD i 0).toNat : Int)), (99, .slice (bytesAV t) t.length .no), (100, .i ((t.length : Nat) : Int)), (101, .i (i : Int)), (106, .bool false), (110, .tuple [])], [], [], [], 0⟩) (σ' := σ) (ob := Tt 3) (by kernel_rfl) (tt 3) ?_
      refine AOps.weak [1, 8, 9, 10, 11, 12, 13, 15, 99, 100, 101, 106] (AOps.nil ⟨rfl, rfl⟩)
     ·
      have h3k := eq_of_beq h3
      refine AOps.runN hT nh 3 [1, 8, 9, 10, 11, 12, 13, 15, 99, 100, 101, 106, 110] (fr' := ⟨[(1, .i 16), (8, .bool false), (9, .str t), (10, .int .u64 1152921504606846976), (11, .int .u64 18446744073709551615), (12, .bool false), (13, .int .u64 n), (15, .int .u8 ((t.getD i 0).toNat : Int)), (99, .slice (bytesAV t) t.length .no), (100, .i ((t.length : Nat) : Int)), (101, .i (i : Int)), (106, .bool false), (110, .bool false)], [], [], [], 0⟩) (σ' := σ) (ob := Tt 4) (by kernel_rfl) (tt 4) ?_
      refine AOps.weak [1, 8, 9, 10, 11, 12, 13, 15, 99, 100, 101, 106] (AOps.nil ⟨rfl, rfl⟩)
    refine ACode.cond (t := false) (by kernel_rfl) (fun h => Bool.noConfusion h) (fun _ => ?_)
    refine ACode.seq ?_
    refine ACode.meet ⟨[(1, .i 16), (8, .bool false), (9, .str t), (10, .int .u64 1152921504606846976), (11, .int .u64 18446744073709551615), (12, .bool false), (13, .int .u64 n), (15, .int .u8 ((t.getD i 0).toNat : Int)), (99, .slice (bytesAV t) t.length .no), (100, .i ((t.length : Nat) : Int)), (101, .i (i : Int)), (112, .bool ((decide (48 ≤ ((t.getD i 0).toNat : Int))) && (decide (((t.getD i 0).toNat : Int) ≤ 57))))], [], [], [], 0⟩ σ (ACode.region ?_) ?_
    ·
     refine AOps.runN hT nh 3 [1, 8, 9, 10, 11, 12, 13, 15, 99, 100, 101, 115] (fr' := ⟨[(1, .i 16), (8, .bool false), (9, .str t), (10, .int .u64 1152921504606846976), (11, .int .u64 18446744073709551615), (12, .bool false), (13, .int .u64 n), (15, .int .u8 ((t.getD i 0).toNat : Int)), (99, .slice (bytesAV t) t.length .no), (100, .i ((t.length : Nat) : Int)), (101, .i (i : Int)), (115, .bool (decide (48 ≤ ((t.getD i 0).toNat : Int))))], [], [], [], 0⟩) (σ' := σ) (ob := Tt 4) (by kernel_rfl) (tt 4) ?_
     cases h4 : (decide (48 ≤ ((t.getD i 0).toNat : Int)))
     ·
      have h4k := of_decide_eq_false h4
      refine AOps.runN hT nh 4 [1, 8, 9, 10, 11, 12, 13, 15, 99, 100, 101, 112, 116, 117] (fr' := ⟨[(1, .i 16), (8, .bool false), (9, .str t), (10, .int .u64 1152921504606846976), (11, .int .u64 18446744073709551615), (12, .bool false), (13, .int .u64 n), (15, .int .u8 ((t.getD i 0).toNat : Int)), (99, .slice (bytesAV t) t.length .no), (100, .i ((t.length : Nat) : Int)), (101, .i (i : Int)), (112, .bool false), (116, .tuple []), (117, .tuple [])], [], [], [], 0⟩) (σ' := σ) (ob := Tt 3) (by kernel_rfl) (tt 3) ?_
      refine AOps.weak [1, 8, 9, 10, 11, 12, 13, 15, 99, 100, 101, 112] (AOps.nil ⟨rfl, rfl⟩)
     ·
      have h4k := of_decide_eq_true h4
      refine AOps.runN hT nh 4 [1, 8, 9, 10, 11, 12, 13, 15, 99, 100, 101, 112, 116, 117] (fr' := ⟨[(1, .i 16), (8, .bool false), (9, .str t), (10, .int .u64 1152921504606846976), (11, .int .u64 18446744073709551615), (12, .bool false), (13, .int .u64 n), (15, .int .u8 ((t.getD i 0).toNat : Int)), (99, .slice (bytesAV t) t.length .no), (100, .i ((t.length : Nat) : Int)), (101, .i (i : Int)), (112, .bool (decide (((t.getD i 0).toNat : Int) ≤ 57))), (116, .int .u8 ((t.getD i 0).toNat : Int)), (117, .bool (decide (((t.getD i 0).toNat : Int) ≤ 57)))], [], [], [], 0⟩) (σ' := σ) (ob := Tt 5) (by kernel_rfl) (tt 5) ?_
      refine AOps.weak [1, 8, 9, 10, 11, 12, 13, 15, 99, 100, 101, 112] (AOps.nil ⟨rfl, rfl⟩)
    refine ACode.cond (t := (decide (48 ≤ ((t.getD i 0).toNat : Int))) && (decide (((t.getD i 0).toNat : Int) ≤ 57))) (by kernel_rfl) (fun h5 => ?_) (fun h5 => ?_)
    ·
     have h5k := h5; simp only [Bool.and_eq_true, Bool.or_eq_true, Bool.and_eq_false_iff, Bool.or_eq_false_iff, decide_eq_true_eq, decide_eq_false_iff_not, beq_iff_eq, bne_iff_ne, ne_eq, Bool.not_eq_true', Bool.not_eq_false', beq_eq_false_iff_ne, bne_eq_false_iff_eq] at h5k
     refine ACode.run hT nh [1, 8, 9, 10, 11, 12, 13, 16, 99, 100, 101] (fr' := ⟨[(1, .i 16), (8, .bool false), (9, .str t), (10, .int .u64 1152921504606846976), (11, .int .u64 18446744073709551615), (12, .bool false), (13, .int .u64 n), (16, .int .u8 (IntKind.u8.wrap (((t.getD i 0).toNat : Int) - 48))), (99, .slice (bytesAV t) t.length .no), (100, .i ((t.length : Nat) : Int)), (101, .i (i : Int))], [], [], [], 0⟩) (σ' := σ) (ob := Tt 4) (by kernel_rfl) (tt 4) ?_
     rw [IntWalk.u8_in (((t.getD i 0).toNat : Int) - 48) (by omega)]
     refine ACode.seq ?_
     refine ACode.seq ?_
     refine ACode.region ?_
     refine AOps.runN hT nh 4 [1, 8, 9, 10, 11, 12, 13, 16, 99, 100, 101, 137] (fr' := ⟨[(1, .i 16), (8, .bool false), (9, .str t), (10, .int .u64 1152921504606846976), (11, .int .u64 18446744073709551615), (12, .bool false), (13, .int .u64 n), (16, .int .u8 (((t.getD i 0).toNat : Int) - 48)), (99, .slice (bytesAV t) t.length .no), (100, .i ((t.length : Nat) : Int)), (101, .i (i : Int)), (137, .bool (decide ((((t.getD i 0).toNat : Int) - 48) ≥ 16)))], [], [], [], 0⟩) (σ' := σ) (ob := Tt 5) (by kernel_rfl) (tt 5) ?_
     refine AOps.nil ?_
     refine ACode.cond (t := decide ((((t.getD i 0).toNat : Int) - 48) ≥ 16)) (by kernel_rfl) (fun h6 => ?_) (fun h6 => ?_)
     ·
      have h6k := of_decide_eq_true h6
      refine ACode.seq ?_
      refine ACode.run hT nh [6, 7] (fr' := ⟨[(6, .int .u64 0), (7, .iface 116 (.i 2))], [], [], [], 0⟩) (σ' := σ) (ob := Tt 4) (by kernel_rfl) (tt 4) ?_
      refine ACode.ret ?_
      refine retQ.ret (.tuple [.int .u64 0, .iface 116 (.i 2)]) (by kernel_rfl) ?_
      have hd : digV ((t.getD i 0).toNat : Int) = some (((t.getD i 0).toNat : Int) - 48) := by unfold digV; rw [if_pos (by omega)]
      have e9 := puF_at 16 1152921504606846976 18446744073709551615 t i n (by omega)
      rw [hd] at e9
      dsimp only at e9
      rw [if_pos (by omega)] at e9
      have e : puS 16 1152921504606846976 18446744073709551615 t = (0, false) := by rw [puS, if_neg h1k, hP, e9]
      exact ⟨rfl, .inr ⟨by rw [e], 2, by simp, by rw [e]⟩⟩
     ·
      have h6k := of_decide_eq_false h6
      refine ACode.skip ?_
      refine ACode.seq ?_
      refine ACode.seq ?_
      refine ACode.run hT nh [1, 8, 9, 10, 11, 12, 13, 16, 99, 100, 101, 141] (fr' := ⟨[(1, .i 16), (8, .bool false), (9, .str t), (10, .int .u64 1152921504606846976), (11, .int .u64 18446744073709551615), (12, .bool false), (13, .int .u64 n), (16, .int .u8 (((t.getD i 0).toNat : Int) - 48)), (99, .slice (bytesAV t) t.length .no), (100, .i ((t.length : Nat) : Int)), (101, .i (i : Int)), (141, .bool (decide (n ≥ 1152921504606846976)))], [], [], [], 0⟩) (σ' := σ) (ob := Tt 4) (by kernel_rfl) (tt 4) ?_
      refine ACode.cond (t := decide (n ≥ 1152921504606846976)) (by kernel_rfl) (fun h7 => ?_) (fun h7 => ?_)
      ·
       have h7k := of_decide_eq_true h7
       refine ACode.seq ?_
       refine ACode.run hT nh [6, 7] (fr' := ⟨[(6, .int .u64 18446744073709551615), (7, .iface 116 (.i 1))], [], [], [], 0⟩) (σ' := σ) (ob := Tt 5) (by kernel_rfl) (tt 5) ?_
       refine ACode.ret ?_
       refine retQ.ret (.tuple [.int .u64 18446744073709551615, .iface 116 (.i 1)]) (by kernel_rfl) ?_
       have hd : digV ((t.getD i 0).toNat : Int) = some (((t.getD i 0).toNat : Int) - 48) := by unfold digV; rw [if_pos (by omega)]
       have e9 := puF_at 16 1152921504606846976 18446744073709551615 t i n (by omega)
       rw [hd] at e9
       dsimp only at e9
       first | rw [if_neg (by omega), if_pos (by omega)] at e9 | rw [if_neg (by omega), if_neg (by omega), if_pos (by simp only [IntKind.wrap_u64] at *; omega)] at e9
       have e : puS 16 1152921504606846976 18446744073709551615 t = (18446744073709551615, false) := by rw [puS, if_neg h1k, hP, e9]
       exact ⟨rfl, .inr ⟨by rw [e], 1, by simp, by rw [e]⟩⟩
      ·
       have h7k := of_decide_eq_false h7
       refine ACode.skip ?_
       refine ACode.seq ?_
       refine ACode.region ?_
       refine AOps.runN hT nh 5 [1, 8, 9, 10, 11, 12, 13, 16, 99, 100, 101] (fr' := ⟨[(1, .i 16), (8, .bool false), (9, .str t), (10, .int .u64 1152921504606846976), (11, .int .u64 18446744073709551615), (12, .bool false), (13, .int .u64 (IntKind.u64.wrap (n * 16))), (16, .int .u8 (((t.getD i 0).toNat : Int) - 48)), (99, .slice (bytesAV t) t.length .no), (100, .i ((t.length : Nat) : Int)), (101, .i (i : Int))], [], [], [], 0⟩) (σ' := σ) (ob := Tt 6) (by kernel_rfl) (tt 6) ?_
       rw [IntWalk.u64_in (n * 16) (by omega)]
       refine AOps.nil ?_
       refine ACode.seq ?_
       refine ACode.region ?_
       refine AOps.runN hT nh 5 [1, 8, 9, 10, 11, 12, 13, 17, 99, 100, 101] (fr' := ⟨[(1, .i 16), (8, .bool false), (9, .str t), (10, .int .u64 1152921504606846976), (11, .int .u64 18446744073709551615), (12, .bool false), (13, .int .u64 (n * 16)), (17, .int .u64 (IntKind.u64.wrap ((n * 16) + (IntKind.u64.wrap ((((t.getD i 0).toNat : Int) - 48)))))), (99, .slice (bytesAV t) t.length .no), (100, .i ((t.length : Nat) : Int)), (101, .i (i : Int))], [], [], [], 0⟩) (σ' := σ) (ob := Tt 6) (by kernel_rfl) (tt 6) ?_
       rw [IntWalk.u64_in ((((t.getD i 0).toNat : Int) - 48)) (by omega)]
       refine AOps.nil ?_
       refine ACode.seq ?_
       refine ACode.seq ?_
       refine ACode.meet ⟨[(1, .i 16), (8, .bool false), (9, .str t), (10, .int .u64 1152921504606846976), (11, .int .u64 18446744073709551615), (12, .bool false), (17, .int .u64 (IntKind.u64.wrap ((n * 16) + ((((t.getD i 0).toNat : Int) - 48))))), (99, .slice (bytesAV t) t.length .no), (100, .i ((t.length : Nat) : Int)), (101, .i (i : Int)), (159, .bool ((decide ((IntKind.u64.wrap ((n * 16) + ((((t.getD i 0).toNat : Int) - 48)))) < (n * 16))) || (decide ((IntKind.u64.wrap ((n * 16) + ((((t.getD i 0).toNat : Int) - 48)))) > 18446744073709551615))))], [], [], [], 0⟩ σ (ACode.region ?_) ?_
       ·
        refine AOps.runN hT nh 4 [1, 8, 9, 10, 11, 12, 17, 99, 100, 101, 155] (fr' := ⟨[(1, .i 16), (8, .bool false), (9, .str t), (10, .int .u64 1152921504606846976), (11, .int .u64 18446744073709551615), (12, .bool false), (17, .int .u64 (IntKind.u64.wrap ((n * 16) + ((((t.getD i 0).toNat : Int) - 48))))), (99, .slice (bytesAV t) t.length .no), (100, .i ((t.length : Nat) : Int)), (101, .i (i : Int)), (155, .bool (decide ((IntKind.u64.wrap ((n * 16) + ((((t.getD i 0).toNat : Int) - 48)))) < (n * 16))))], [], [], [], 0⟩) (σ' := σ) (ob := Tt 5) (by kernel_rfl) (tt 5) ?_
        cases h8 : (decide ((IntKind.u64.wrap ((n * 16) + ((((t.getD i 0).toNat : Int) - 48)))) < (n * 16)))
        ·
         have h8k := of_decide_eq_false h8
         refine AOps.runN hT nh 4 [1, 8, 9, 10, 11, 12, 17, 99, 100, 101, 156, 157, 158, 159] (fr' := ⟨[(1, .i 16), (8, .bool false), (9, .str t), (10, .int .u64 1152921504606846976), (11, .int .u64 18446744073709551615), (12, .bool false), (17, .int .u64 (IntKind.u64.wrap ((n * 16) + ((((t.getD i 0).toNat : Int) - 48))))), (99, .slice (bytesAV t) t.length .no), (100, .i ((t.length : Nat) : Int)), (101, .i (i : Int)), (156, .int .u64 (IntKind.u64.wrap ((n * 16) + ((((t.getD i 0).toNat : Int) - 48))))), (157, .int .u64 18446744073709551615), (158, .bool (decide ((IntKind.u64.wrap ((n * 16) + ((((t.getD i 0).toNat : Int) - 48)))) > 18446744073709551615))), (159, .bool (decide ((IntKind.u64.wrap ((n * 16) + ((((t.getD i 0).toNat : Int) - 48)))) > 18446744073709551615)))], [], [], [], 0⟩) (σ' := σ) (ob := Tt 5) (by kernel_rfl) (tt 5) ?_
         refine AOps.weak [1, 8, 9, 10, 11, 12, 17, 99, 100, 101, 159] (AOps.nil ⟨rfl, rfl⟩)
        ·
         have h8k := of_decide_eq_true h8
         refine AOps.runN hT nh 4 [1, 8, 9, 10, 11, 12, 17, 99, 100, 101, 156, 157, 158, 159] (fr' := ⟨[(1, .i 16), (8, .bool false), (9, .str t), (10, .int .u64 1152921504606846976), (11, .int .u64 18446744073709551615), (12, .bool false), (17, .int .u64 (IntKind.u64.wrap ((n * 16) + ((((t.getD i 0).toNat : Int) - 48))))), (99, .slice (bytesAV t) t.length .no), (100, .i ((t.length : Nat) : Int)), (101, .i (i : Int)), (156, .tuple []), (157, .tuple []), (158, .tuple []), (159, .bool true)], [], [], [], 0⟩) (σ' := σ) (ob := Tt 2) (by kernel_rfl) (tt 2) ?_
         refine AOps.weak [1, 8, 9, 10, 11, 12, 17, 99, 100, 101, 159] (AOps.nil ⟨rfl, rfl⟩)
       refine ACode.cond (t := (decide ((IntKind.u64.wrap ((n * 16) + ((((t.getD i 0).toNat : Int) - 48)))) < (n * 16))) || (decide ((IntKind.u64.wrap ((n * 16) + ((((t.getD i 0).toNat : Int) - 48)))) > 18446744073709551615))) (by kernel_rfl) (fun h9 => ?_) (fun h9 => ?_)
       ·
        have h9k := h9; simp only [Bool.and_eq_true, Bool.or_eq_true, Bool.and_eq_false_iff, Bool.or_eq_false_iff, decide_eq_true_eq, decide_eq_false_iff_not, beq_iff_eq, bne_iff_ne, ne_eq, Bool.not_eq_true', Bool.not_eq_false', beq_eq_false_iff_ne, bne_eq_false_iff_eq] at h9k
        refine ACode.seq ?_
        refine ACode.run hT nh [6, 7] (fr' := ⟨[(6, .int .u64 18446744073709551615), (7, .iface 116 (.i 1))], [], [], [], 0⟩) (σ' := σ) (ob := Tt 5) (by kernel_rfl) (tt 5) ?_
        refine ACode.ret ?_
        refine retQ.ret (.tuple [.int .u64 18446744073709551615, .iface 116 (.i 1)]) (by kernel_rfl) ?_
        have hd : digV ((t.getD i 0).toNat : Int) = some (((t.getD i 0).toNat : Int) - 48) := by unfold digV; rw [if_pos (by omega)]
        have e9 := puF_at 16 1152921504606846976 18446744073709551615 t i n (by omega)
        rw [hd] at e9
        dsimp only at e9
        first | rw [if_neg (by omega), if_pos (by omega)] at e9 | rw [if_neg (by omega), if_neg (by omega), if_pos (by simp only [IntKind.wrap_u64] at *; omega)] at e9
        have e : puS 16 1152921504606846976 18446744073709551615 t = (18446744073709551615, false) := by rw [puS, if_neg h1k, hP, e9]
        exact ⟨rfl, .inr ⟨by rw [e], 1, by simp, by rw [e]⟩⟩
       ·
        have h9k := h9; simp only [Bool.and_eq_true, Bool.or_eq_true, Bool.and_eq_false_iff, Bool.or_eq_false_iff, decide_eq_true_eq, decide_eq_false_iff_not, beq_iff_eq, bne_iff_ne, ne_eq, Bool.not_eq_true', Bool.not_eq_false', beq_eq_false_iff_ne, bne_eq_false_iff_eq] at h9k
        refine ACode.skip ?_
        refine ACode.run hT nh [1, 8, 9, 10, 11, 12, 13, 99, 100, 101] (fr' := ⟨[(1, .i 16), (8, .bool false), (9, .str t), (10, .int .u64 1152921504606846976), (11, .int .u64 18446744073709551615), (12, .bool false), (13, .int .u64 (IntKind.u64.wrap ((n * 16) + ((((t.getD i 0).toNat : Int) - 48))))), (99, .slice (bytesAV t) t.length .no), (100, .i ((t.length : Nat) : Int)), (101, .i (i : Int))], [], [], [], 0⟩) (σ' := σ) (ob := Tt 3) (by kernel_rfl) (tt 3) ?_
        refine ACode.run hT nh [1, 8, 9, 10, 11, 12, 13, 99, 100, 101] (fr' := ⟨[(1, .i 16), (8, .bool false), (9, .str t), (10, .int .u64 1152921504606846976), (11, .int .u64 18446744073709551615), (12, .bool false), (13, .int .u64 (IntKind.u64.wrap ((n * 16) + ((((t.getD i 0).toNat : Int) - 48))))), (99, .slice (bytesAV t) t.length .no), (100, .i ((t.length : Nat) : Int)), (101, .i (IntKind.i64.wrap ((i : Int) + 1)))], [], [], [], 0⟩) (σ' := σ) (ob := Tt 3) (by kernel_rfl) (tt 3) ?_
        rw [IntWalk.i64_in ((i : Int) + 1) (by omega)]
        refine ⟨by kernel_rfl, _, ?_, i + 1, (IntKind.u64.wrap ((n * 16) + ((((t.getD i 0).toNat : Int) - 48)))), rfl, rfl, ?_, rfl⟩
        ·omega
        ·have hd : digV ((t.getD i 0).toNat : Int) = some (((t.getD i 0).toNat : Int) - 48) := by unfold digV; rw [if_pos (by omega)]
         have e9 := puF_at 16 1152921504606846976 18446744073709551615 t i n (by omega)
         rw [hd] at e9
         dsimp only at e9
         rw [if_neg (by omega), if_neg (by omega), if_neg (by simp only [IntKind.wrap_u64] at *; omega)] at e9
         have hw : (IntKind.u64.wrap ((n * 16) + ((((t.getD i 0).toNat : Int) - 48)))) = n * 16 + (((t.getD i 0).toNat : Int) - 48) := by simp only [IntKind.wrap_u64] at *; omega
         rw [hw]
         refine ⟨by omega, by simp only [IntKind.wrap_u64] at *; omega, by simp only [IntKind.wrap_u64] at *; omega, by rw [hP, e9]⟩
    ·
     have h5k := h5; simp only [Bool.and_eq_true, Bool.or_eq_true, Bool.and_eq_false_iff, Bool.or_eq_false_iff, decide_eq_true_eq, decide_eq_false_iff_not, beq_iff_eq, bne_iff_ne, ne_eq, Bool.not_eq_true', Bool.not_eq_false', beq_eq_false_iff_ne, bne_eq_false_iff_eq] at h5k
     refine ACode.seq ?_
     refine ACode.meet ⟨[(1, .i 16), (8, .bool false), (9, .str t), (10, .int .u64 1152921504606846976), (11, .int .u64 18446744073709551615), (12, .bool false), (13, .int .u64 n), (15, .int .u8 ((t.getD i 0).toNat : Int)), (99, .slice (bytesAV t) t.length .no), (100, .i ((t.length : Nat) : Int)), (101, .i (i : Int)), (121, .bool ((decide (97 ≤ (lowerI ((t.getD i 0).toNat : Int)))) && (decide ((lowerI ((t.getD i 0).toNat : Int)) ≤ 122))))], [], [], [], 0⟩ σ (ACode.region ?_) ?_
     ·
      refine AOps.runN hT nh 1 [1, 8, 9, 10, 11, 12, 13, 15, 99, 100, 101, 122] (fr' := ⟨[(1, .i 16), (8, .bool false), (9, .str t), (10, .int .u64 1152921504606846976), (11, .int .u64 18446744073709551615), (12, .bool false), (13, .int .u64 n), (15, .int .u8 ((t.getD i 0).toNat : Int)), (99, .slice (bytesAV t) t.length .no), (100, .i ((t.length : Nat) : Int)), (101, .i (i : Int)), (122, .int .u8 ((t.getD i 0).toNat : Int))], [], [], [], 0⟩) (σ' := σ) (ob := Tt 2) (by kernel_rfl) (tt 2) ?_
      refine AOps.call (fid := 79) (cap := []) (avs := [.int .u8 ((t.getD i 0).toNat : Int)]) (by kernel_rfl) rfl (by kernel_rfl) (by kernel_rfl) en_79 (by kernel_rfl) (ACalls.mono (lower_walk ((t.getD i 0).toNat : Int) _) ?_)
      rintro _ _ ⟨rfl, rfl⟩
      refine AOps.runN hT nh 2 [1, 8, 9, 10, 11, 12, 13, 15, 99, 100, 101, 125] (fr' := ⟨[(1, .i 16), (8, .bool false), (9, .str t), (10, .int .u64 1152921504606846976), (11, .int .u64 18446744073709551615), (12, .bool false), (13, .int .u64 n), (15, .int .u8 ((t.getD i 0).toNat : Int)), (99, .slice (bytesAV t) t.length .no), (100, .i ((t.length : Nat) : Int)), (101, .i (i : Int)), (125, .bool (decide (97 ≤ (lowerI ((t.getD i 0).toNat : Int)))))], [], [], [], 0⟩) (σ' := σ) (ob := Tt 3) (by kernel_rfl) (tt 3) ?_
      cases h10 : (decide (97 ≤ (lowerI ((t.getD i 0).toNat : Int))))
      ·
       have h10k := of_decide_eq_false h10
       refine AOps.runN hT nh 5 [1, 8, 9, 10, 11, 12, 13, 15, 99, 100, 101, 121, 126, 127, 128] (fr' := ⟨[(1, .i 16), (8, .bool false), (9, .str t), (10, .int .u64 1152921504606846976), (11, .int .u64 18446744073709551615), (12, .bool false), (13, .int .u64 n), (15, .int .u8 ((t.getD i 0).toNat : Int)), (99, .slice (bytesAV t) t.length .no), (100, .i ((t.length : Nat) : Int)), (101, .i (i : Int)), (121, .bool false), (126, .tuple []), (127, .tuple []), (128, .tuple [])], [], [], [], 0⟩) (σ' := σ) (ob := Tt 3) (by kernel_rfl) (tt 3) ?_
       refine AOps.weak [1, 8, 9, 10, 11, 12, 13, 15, 99, 100, 101, 121] (AOps.nil ⟨rfl, rfl⟩)
      ·
       have h10k := of_decide_eq_true h10
       refine AOps.runN hT nh 1 [1, 8, 9, 10, 11, 12, 13, 15, 99, 100, 101, 125, 126] (fr' := ⟨[(1, .i 16), (8, .bool false), (9, .str t), (10, .int .u64 1152921504606846976), (11, .int .u64 18446744073709551615), (12, .bool false), (13, .int .u64 n), (15, .int .u8 ((t.getD i 0).toNat : Int)), (99, .slice (bytesAV t) t.length .no), (100, .i ((t.length : Nat) : Int)), (101, .i (i : Int)), (125, .bool true), (126, .int .u8 ((t.getD i 0).toNat : Int))], [], [], [], 0⟩) (σ' := σ) (ob := Tt 2) (by kernel_rfl) (tt 2) ?_
       refine AOps.call (fid := 79) (cap := []) (avs := [.int .u8 ((t.getD i 0).toNat : Int)]) (by kernel_rfl) rfl (by kernel_rfl) (by kernel_rfl) en_79 (by kernel_rfl) (ACalls.mono (lower_walk ((t.getD i 0).toNat : Int) _) ?_)
       rintro _ _ ⟨rfl, rfl⟩
       refine AOps.runN hT nh 3 [1, 8, 9, 10, 11, 12, 13, 15, 99, 100, 101, 121, 126, 127, 128] (fr' := ⟨[(1, .i 16), (8, .bool false), (9, .str t), (10, .int .u64 1152921504606846976), (11, .int .u64 18446744073709551615), (12, .bool false), (13, .int .u64 n), (15, .int .u8 ((t.getD i 0).toNat : Int)), (99, .slice (bytesAV t) t.length .no), (100, .i ((t.length : Nat) : Int)), (101, .i (i : Int)), (121, .bool (decide ((lowerI ((t.getD i 0).toNat : Int)) ≤ 122))), (126, .int .u8 ((t.getD i 0).toNat : Int)), (127, .int .u8 (lowerI ((t.getD i 0).toNat : Int))), (128, .bool (decide ((lowerI ((t.getD i 0).toNat : Int)) ≤ 122)))], [], [], [], 0⟩) (σ' := σ) (ob := Tt 4) (by kernel_rfl) (tt 4) ?_
       refine AOps.weak [1, 8, 9, 10, 11, 12, 13, 15, 99, 100, 101, 121] (AOps.nil ⟨rfl, rfl⟩)
     refine ACode.cond (t := (decide (97 ≤ (lowerI ((t.getD i 0).toNat : Int)))) && (decide ((lowerI ((t.getD i 0).toNat : Int)) ≤ 122))) (by kernel_rfl) (fun h11 => ?_) (fun h11 => ?_)
     ·
      have h11k := h11; simp only [Bool.and_eq_true, Bool.or_eq_true, Bool.and_eq_false_iff, Bool.or_eq_false_iff, decide_eq_true_eq, decide_eq_false_iff_not, beq_iff_eq, bne_iff_ne, ne_eq, Bool.not_eq_true', Bool.not_eq_false', beq_eq_false_iff_ne, bne_eq_false_iff_eq] at h11k
      refine ACode.region ?_
      refine AOps.runN hT nh 1 [1, 8, 9, 10, 11, 12, 13, 99, 100, 101, 130] (fr' := ⟨[(1, .i 16), (8, .bool false), (9, .str t), (10, .int .u64 1152921504606846976), (11, .int .u64 18446744073709551615), (12, .bool false), (13, .int .u64 n), (99, .slice (bytesAV t) t.length .no), (100, .i ((t.length : Nat) : Int)), (101, .i (i : Int)), (130, .int .u8 ((t.getD i 0).toNat : Int))], [], [], [], 0⟩) (σ' := σ) (ob := Tt 2) (by kernel_rfl) (tt 2) ?_
      refine AOps.call (fid := 79) (cap := []) (avs := [.int .u8 ((t.getD i 0).toNat : Int)]) (by kernel_rfl) rfl (by kernel_rfl) (by kernel_rfl) en_79 (by kernel_rfl) (ACalls.mono (lower_walk ((t.getD i 0).toNat : Int) _) ?_)
      rintro _ _ ⟨rfl, rfl⟩
      refine AOps.runN hT nh 3 [1, 8, 9, 10, 11, 12, 13, 16, 99, 100, 101] (fr' := ⟨[(1, .i 16), (8, .bool false), (9, .str t), (10, .int .u64 1152921504606846976), (11, .int .u64 18446744073709551615), (12, .bool false), (13, .int .u64 n), (16, .int .u8 (IntKind.u8.wrap ((IntKind.u8.wrap ((lowerI ((t.getD i 0).toNat : Int)) - 97)) + 10))), (99, .slice (bytesAV t) t.length .no), (100, .i ((t.length : Nat) : Int)), (101, .i (i : Int))], [], [], [], 0⟩) (σ' := σ) (ob := Tt 4) (by kernel_rfl) (tt 4) ?_
      rw [IntWalk.u8_in ((lowerI ((t.getD i 0).toNat : Int)) - 97) (by omega)]
      rw [IntWalk.u8_in (((lowerI ((t.getD i 0).toNat : Int)) - 97) + 10) (by omega)]
      refine AOps.nil ?_
      refine ACode.seq ?_
      refine ACode.seq ?_
      refine ACode.region ?_
      refine AOps.runN hT nh 4 [1, 8, 9, 10, 11, 12, 13, 16, 99, 100, 101, 137] (fr' := ⟨[(1, .i 16), (8, .bool false), (9, .str t), (10, .int .u64 1152921504606846976), (11, .int .u64 18446744073709551615), (12, .bool false), (13, .int .u64 n), (16, .int .u8 (((lowerI ((t.getD i 0).toNat : Int)) - 97) + 10)), (99, .slice (bytesAV t) t.length .no), (100, .i ((t.length : Nat) : Int)), (101, .i (i : Int)), (137, .bool (decide ((((lowerI ((t.getD i 0).toNat : Int)) - 97) + 10) ≥ 16)))], [], [], [], 0⟩) (σ' := σ) (ob := Tt 5) (by kernel_rfl) (tt 5) ?_
      refine AOps.nil ?_
      refine ACode.cond (t := decide ((((lowerI ((t.getD i 0).toNat : Int)) - 97) + 10) ≥ 16)) (by kernel_rfl) (fun h12 => ?_) (fun h12 => ?_)
      ·
       have h12k := of_decide_eq_true h12
       refine ACode.seq ?_
       refine ACode.run hT nh [6, 7] (fr' := ⟨[(6, .int .u64 0), (7, .iface 116 (.i 2))], [], [], [], 0⟩) (σ' := σ) (ob := Tt 4) (by kernel_rfl) (tt 4) ?_
       refine ACode.ret ?_
       refine retQ.ret (.tuple [.int .u64 0, .iface 116 (.i 2)]) (by kernel_rfl) ?_
       have hd : digV ((t.getD i 0).toNat : Int) = some (lowerI ((t.getD i 0).toNat : Int) - 97 + 10) := by unfold digV; rw [if_neg (by omega), if_pos (by omega)]
       have e9 := puF_at 16 1152921504606846976 18446744073709551615 t i n (by omega)
       rw [hd] at e9
       dsimp only at e9
       rw [if_pos (by omega)] at e9
       have e : puS 16 1152921504606846976 18446744073709551615 t = (0, false) := by rw [puS, if_neg h1k, hP, e9]
       exact ⟨rfl, .inr ⟨by rw [e], 2, by simp, by rw [e]⟩⟩
      ·
       have h12k := of_decide_eq_false h12
       refine ACode.skip ?_
       refine ACode.seq ?_
       refine ACode.seq ?_
       refine ACode.run hT nh [1, 8, 9, 10, 11, 12, 13, 16, 99, 100, 101, 141] (fr' := ⟨[(1, .i 16), (8, .bool false), (9, .str t), (10, .int .u64 1152921504606846976), (11, .int .u64 18446744073709551615), (12, .bool false), (13, .int .u64 n), (16, .int .u8 (((lowerI ((t.getD i 0).toNat : Int)) - 97) + 10)), (99, .slice (bytesAV t) t.length .no), (100, .i ((t.length : Nat) : Int)), (101, .i (i : Int)), (141, .bool (decide (n ≥ 1152921504606846976)))], [], [], [], 0⟩) (σ' := σ) (ob := Tt 4) (by kernel_rfl) (tt 4) ?_
       refine ACode.cond (t := decide (n ≥ 1152921504606846976)) (by kernel_rfl) (fun h13 => ?_) (fun h13 => ?_)
       ·
        have h13k := of_decide_eq_true h13
        refine ACode.seq ?_
        refine ACode.run hT nh [6, 7] (fr' := ⟨[(6, .int .u64 18446744073709551615), (7, .iface 116 (.i 1))], [], [], [], 0⟩) (σ' := σ) (ob := Tt 5) (by kernel_rfl) (tt 5) ?_
        refine ACode.ret ?_
        refine retQ.ret (.tuple [.int .u64 18446744073709551615, .iface 116 (.i 1)]) (by kernel_rfl) ?_
        have hd : digV ((t.getD i 0).toNat : Int) = some (lowerI ((t.getD i 0).toNat : Int) - 97 + 10) := by unfold digV; rw [if_neg (by omega), if_pos (by omega)]
        have e9 := puF_at 16 1152921504606846976 18446744073709551615 t i n (by omega)
        rw [hd] at e9
        dsimp only at e9
        first | rw [if_neg (by omega), if_pos (by omega)] at e9 | rw [if_neg (by omega), if_neg (by omega), if_pos (by simp only [IntKind.wrap_u64] at *; omega)] at e9
        have e : puS 16 1152921504606846976 18446744073709551615 t = (18446744073709551615, false) := by rw [puS, if_neg h1k, hP, e9]
        exact ⟨rfl, .inr ⟨by rw [e], 1, by simp, by rw [e]⟩⟩
       ·
        have h13k := of_decide_eq_false h13
        refine ACode.skip ?_
        refine ACode.seq ?_
        refine ACode.region ?_
        refine AOps.runN hT nh 5 [1, 8, 9, 10, 11, 12, 13, 16, 99, 100, 101] (fr' := ⟨[(1, .i 16), (8, .bool false), (9, .str t), (10, .int .u64 1152921504606846976), (11, .int .u64 18446744073709551615), (12, .bool false), (13, .int .u64 (IntKind.u64.wrap (n * 16))), (16, .int .u8 (((lowerI ((t.getD i 0).toNat : Int)) - 97) + 10)), (99, .slice (bytesAV t) t.length .no), (100, .i ((t.length : Nat) : Int)), (101, .i (i : Int))], [], [], [], 0⟩) (σ' := σ) (ob := Tt 6) (by kernel_rfl) (tt 6) ?_
        rw [IntWalk.u64_in (n * 16) (by omega)]
        refine AOps.nil ?_
        refine ACode.seq ?_
        refine ACode.region ?_
        refine AOps.runN hT nh 5 [1, 8, 9, 10, 11, 12, 13, 17, 99, 100, 101] (fr' := ⟨[(1, .i 16), (8, .bool false), (9, .str t), (10, .int .u64 1152921504606846976), (11, .int .u64 18446744073709551615), (12, .bool false), (13, .int .u64 (n * 16)), (17, .int .u64 (IntKind.u64.wrap ((n * 16) + (IntKind.u64.wrap ((((lowerI ((t.getD i 0).toNat : Int)) - 97) + 10)))))), (99, .slice (bytesAV t) t.length .no), (100, .i ((t.length : Nat) : Int)), (101, .i (i : Int))], [], [], [], 0⟩) (σ' := σ) (ob := Tt 6) (by kernel_rfl) (tt 6) ?_
        rw [IntWalk.u64_in ((((lowerI ((t.getD i 0).toNat : Int)) - 97) + 10)) (by omega)]
        refine AOps.nil ?_
        refine ACode.seq ?_
        refine ACode.seq ?_
        refine ACode.meet ⟨[(1, .i 16), (8, .bool false), (9, .str t), (10, .int .u64 1152921504606846976), (11, .int .u64 18446744073709551615), (12, .bool false), (17, .int .u64 (IntKind.u64.wrap ((n * 16) + ((((lowerI ((t.getD i 0).toNat : Int)) - 97) + 10))))), (99, .slice (bytesAV t) t.length .no), (100, .i ((t.length : Nat) : Int)), (101, .i (i : Int)), (159, .bool ((decide ((IntKind.u64.wrap ((n * 16) + ((((lowerI ((t.getD i 0).toNat : Int)) - 97) + 10)))) < (n * 16))) || (decide ((IntKind.u64.wrap ((n * 16) + ((((lowerI ((t.getD i 0).toNat : Int)) - 97) + 10)))) > 18446744073709551615))))], [], [], [], 0⟩ σ (ACode.region ?_) ?_
        ·
         refine AOps.runN hT nh 4 [1, 8, 9, 10, 11, 12, 17, 99, 100, 101, 155] (fr' := ⟨[(1, .i 16), (8, .bool false), (9, .str t), (10, .int .u64 1152921504606846976), (11, .int .u64 18446744073709551615), (12, .bool false), (17, .int .u64 (IntKind.u64.wrap ((n * 16) + ((((lowerI ((t.getD i 0).toNat : Int)) - 97) + 10))))), (99, .slice (bytesAV t) t.length .no), (100, .i ((t.length : Nat) : Int)), (101, .i (i : Int)), (155, .bool (decide ((IntKind.u64.wrap ((n * 16) + ((((lowerI ((t.getD i 0).toNat : Int)) - 97) + 10)))) < (n * 16))))], [], [], [], 0⟩) (σ' := σ) (ob := Tt 5) (by kernel_rfl) (tt 5) ?_
         cases h14 : (decide ((IntKind.u64.wrap ((n * 16) + ((((lowerI ((t.getD i 0).toNat : Int)) - 97) + 10)))) < (n * 16)))
         ·
          have h14k := of_decide_eq_false h14
          refine AOps.runN hT nh 4 [1, 8, 9, 10, 11, 12, 17, 99, 100, 101, 156, 157, 158, 159] (fr' := ⟨[(1, .i 16), (8, .bool false), (9, .str t), (10, .int .u64 1152921504606846976), (11, .int .u64 18446744073709551615), (12, .bool false), (17, .int .u64 (IntKind.u64.wrap ((n * 16) + ((((lowerI ((t.getD i 0).toNat : Int)) - 97) + 10))))), (99, .slice (bytesAV t) t.length .no), (100, .i ((t.length : Nat) : Int)), (101, .i (i : Int)), (156, .int .u64 (IntKind.u64.wrap ((n * 16) + ((((lowerI ((t.getD i 0).toNat : Int)) - 97) + 10))))), (157, .int .u64 18446744073709551615), (158, .bool (decide ((IntKind.u64.wrap ((n * 16) + ((((lowerI ((t.getD i 0).toNat : Int)) - 97) + 10)))) > 18446744073709551615))), (159, .bool (decide ((IntKind.u64.wrap ((n * 16) + ((((lowerI ((t.getD i 0).toNat : Int)) - 97) + 10)))) > 18446744073709551615)))], [], [], [], 0⟩) (σ' := σ) (ob := Tt 5) (by kernel_rfl) (tt 5) ?_
          refine AOps.weak [1, 8, 9, 10, 11, 12, 17, 99, 100, 101, 159] (AOps.nil ⟨rfl, rfl⟩)
         ·
          have h14k := of_decide_eq_true h14
          refine AOps.runN hT nh 4 [1, 8, 9, 10, 11, 12, 17, 99, 100, 101, 156, 157, 158, 159] (fr' := ⟨[(1, .i 16), (8, .bool false), (9, .str t), (10, .int .u64 1152921504606846976), (11, .int .u64 18446744073709551615), (12, .bool false), (17, .int .u64 (IntKind.u64.wrap ((n * 16) + ((((lowerI ((t.getD i 0).toNat : Int)) - 97) + 10))))), (99, .slice (bytesAV t) t.length .no), (100, .i ((t.length : Nat) : Int)), (101, .i (i : Int)), (156, .tuple []), (157, .tuple []), (158, .tuple []), (159, .bool true)], [], [], [], 0⟩) (σ' := σ) (ob := Tt 2) (by kernel_rfl) (tt 2) ?_
          refine AOps.weak [1, 8, 9, 10, 11, 12, 17, 99, 100, 101, 159] (AOps.nil ⟨rfl, rfl⟩)
        refine ACode.cond (t := (decide ((IntKind.u64.wrap ((n * 16) + ((((lowerI ((t.getD i 0).toNat : Int)) - 97) + 10)))) < (n * 16))) || (decide ((IntKind.u64.wrap ((n * 16) + ((((lowerI ((t.getD i 0).toNat : Int)) - 97) + 10)))) > 18446744073709551615))) (by kernel_rfl) (fun h15 => ?_) (fun h15 => ?_)
        ·
         have h15k := h15; simp only [Bool.and_eq_true, Bool.or_eq_true, Bool.and_eq_false_iff, Bool.or_eq_false_iff, decide_eq_true_eq, decide_eq_false_iff_not, beq_iff_eq, bne_iff_ne, ne_eq, Bool.not_eq_true', Bool.not_eq_false', beq_eq_false_iff_ne, bne_eq_false_iff_eq] at h15k
         refine ACode.seq ?_
         refine ACode.run hT nh [6, 7] (fr' := ⟨[(6, .int .u64 18446744073709551615), (7, .iface 116 (.i 1))], [], [], [], 0⟩) (σ' := σ) (ob := Tt 5) (by kernel_rfl) (tt 5) ?_
         refine ACode.ret ?_
         refine retQ.ret (.tuple [.int .u64 18446744073709551615, .iface 116 (.i 1)]) (by kernel_rfl) ?_
         have hd : digV ((t.getD i 0).toNat : Int) = some (lowerI ((t.getD i 0).toNat : Int) - 97 + 10) := by unfold digV; rw [if_neg (by omega), if_pos (by omega)]
         have e9 := puF_at 16 1152921504606846976 18446744073709551615 t i n (by omega)
         rw [hd] at e9
         dsimp only at e9
         first | rw [if_neg (by omega), if_pos (by omega)] at e9 | rw [if_neg (by omega), if_neg (by omega), if_pos (by simp only [IntKind.wrap_u64] at *; omega)] at e9
         have e : puS 16 1152921504606846976 18446744073709551615 t = (18446744073709551615, false) := by rw [puS, if_neg h1k, hP, e9]
         exact ⟨rfl, .inr ⟨by rw [e], 1, by simp, by rw [e]⟩⟩
        ·
         have h15k := h15; simp only [Bool.and_eq_true, Bool.or_eq_true, Bool.and_eq_false_iff, Bool.or_eq_false_iff, decide_eq_true_eq, decide_eq_false_iff_not, beq_iff_eq, bne_iff_ne, ne_eq, Bool.not_eq_true', Bool.not_eq_false', beq_eq_false_iff_ne, bne_eq_false_iff_eq] at h15k
         refine ACode.skip ?_
         refine ACode.run hT nh [1, 8, 9, 10, 11, 12, 13, 99, 100, 101] (fr' := ⟨[(1, .i 16), (8, .bool false), (9, .str t), (10, .int .u64 1152921504606846976), (11, .int .u64 18446744073709551615), (12, .bool false), (13, .int .u64 (IntKind.u64.wrap ((n * 16) + ((((lowerI ((t.getD i 0).toNat : Int)) - 97) + 10))))), (99, .slice (bytesAV t) t.length .no), (100, .i ((t.length : Nat) : Int)), (101, .i (i : Int))], [], [], [], 0⟩) (σ' := σ) (ob := Tt 3) (by kernel_rfl) (tt 3) ?_
         refine ACode.run hT nh [1, 8, 9, 10, 11, 12, 13, 99, 100, 101] (fr' := ⟨[(1, .i 16), (8, .bool false), (9, .str t), (10, .int .u64 1152921504606846976), (11, .int .u64 18446744073709551615), (12, .bool false), (13, .int .u64 (IntKind.u64.wrap ((n * 16) + ((((lowerI ((t.getD i 0).toNat : Int)) - 97) + 10))))), (99, .slice (bytesAV t) t.length .no), (100, .i ((t.length : Nat) : Int)), (101, .i (IntKind.i64.wrap ((i : Int) + 1)))], [], [], [], 0⟩) (σ' := σ) (ob := Tt 3) (by kernel_rfl) (tt 3) ?_
         rw [IntWalk.i64_in ((i : Int) + 1) (by omega)]
         refine ⟨by kernel_rfl, _, ?_, i + 1, (IntKind.u64.wrap ((n * 16) + ((((lowerI ((t.getD i 0).toNat : Int)) - 97) + 10)))), rfl, rfl, ?_, rfl⟩
         ·omega
         ·have hd : digV ((t.getD i 0).toNat : Int) = some (lowerI ((t.getD i 0).toNat : Int) - 97 + 10) := by unfold digV; rw [if_neg (by omega), if_pos (by omega)]
          have e9 := puF_at 16 1152921504606846976 18446744073709551615 t i n (by omega)
          rw [hd] at e9
          dsimp only at e9
          rw [if_neg (by omega), if_neg (by omega), if_neg (by simp only [IntKind.wrap_u64] at *; omega)] at e9
          have hw : (IntKind.u64.wrap ((n * 16) + ((((lowerI ((t.getD i 0).toNat : Int)) - 97) + 10)))) = n * 16 + (lowerI ((t.getD i 0).toNat : Int) - 97 + 10) := by simp only [IntKind.wrap_u64] at *; omega
          rw [hw]
          refine ⟨by omega, by simp only [IntKind.wrap_u64] at *; omega, by simp only [IntKind.wrap_u64] at *; omega, by rw [hP, e9]⟩
     ·
      have h11k := h11; simp only [Bool.and_eq_true, Bool.or_eq_true, Bool.and_eq_false_iff, Bool.or_eq_false_iff, decide_eq_true_eq, decide_eq_false_iff_not, beq_iff_eq, bne_iff_ne, ne_eq, Bool.not_eq_true', Bool.not_eq_false', beq_eq_false_iff_ne, bne_eq_false_iff_eq] at h11k
      refine ACode.seq ?_
      refine ACode.run hT nh [6, 7] (fr' := ⟨[(6, .int .u64 0), (7, .iface 116 (.i 2))], [], [], [], 0⟩) (σ' := σ) (ob := Tt 4) (by kernel_rfl) (tt 4) ?_
      refine ACode.ret ?_
      refine retQ.ret (.tuple [.int .u64 0, .iface 116 (.i 2)]) (by kernel_rfl) ?_
      have hd : digV ((t.getD i 0).toNat : Int) = none := by unfold digV; rw [if_neg (by omega), if_neg (by omega)]
      have e9 := puF_at 16 1152921504606846976 18446744073709551615 t i n (by omega)
      rw [hd] at e9
      dsimp only at e9
      have e : puS 16 1152921504606846976 18446744073709551615 t = (0, false) := by rw [puS, if_neg h1k, hP, e9]
      exact ⟨rfl, .inr ⟨by rw [e], 2, by simp, by rw [e]⟩⟩
   ·
    have h2k := of_decide_eq_false h2
    refine ACode.exit ?_
    refine ACode.seq ?_
    refine ACode.seq ?_
    refine ACode.region ?_
    refine AOps.runN hT nh 6 [13, 169] (fr' := ⟨[(13, .int .u64 n), (169, .bool false)], [], [], [], 0⟩) (σ' := σ) (ob := Tt 4) (by kernel_rfl) (tt 4) ?_
    refine AOps.nil ?_
    refine ACode.cond (t := false) (by kernel_rfl) (fun h => Bool.noConfusion h) (fun _ => ?_)
    refine ACode.skip ?_
    refine ACode.seq ?_
    refine ACode.run hT nh [6, 7] (fr' := ⟨[(6, .int .u64 n), (7, .nilIface)], [], [], [], 0⟩) (σ' := σ) (ob := Tt 4) (by kernel_rfl) (tt 4) ?_
    refine ACode.ret ?_
    refine retQ.ret (.tuple [.int .u64 n, .nilIface]) (by kernel_rfl) ?_
    have e9 := puF_end 16 1152921504606846976 18446744073709551615 t i n (by omega)
    have e : puS 16 1152921504606846976 18446744073709551615 t = (n, true) := by rw [puS, if_neg h1k, hP, e9]
    exact ⟨rfl, .inl ⟨by rw [e], by rw [e]⟩⟩

end Go.AE

set_option linter.unusedVariables false
set_option linter.unusedSimpArgs false
set_option maxRecDepth 4000
namespace Go.AE
open Go.Proofs

theorem syntaxError_walk (a b : List UInt8) (hs : b.length ≤ 281474976710656) : ACalls Tryd.prog 81 [.str a, .str b] [] (fun e s => e = .ret (.ptr 0 0) ∧ ∃ o, s = [o]) := by
  refine ACalls.enter hT Tryd.func81 rfl (by kernel_rfl) ?_
  refine ACode.seq ?_
  refine ACode.run hT (fun d => match d with | some 10 => true | _ => false) [0, 1] (fr' := ⟨[(0, .str a), (1, .str b)], [], [], [], 0⟩) (σ' := []) (ob := Tt 2) (by kernel_rfl) (tt 2) ?_
  refine ACode.seq ?_
  refine ACode.draw [] 0 [] 0 (by kernel_rfl) (by kernel_rfl) ?_
  refine AAny.run hT (fun d => match d with | some 10 => true | _ => false) (fuel := 4) [0, 1, 3] [5, 6, 8] (fz' := true) (l' := #[true, true, false, true, false, false, false]) (fr' := ⟨[(5, .str a), (6, .str b), (8, .iface 145 (.any))], [], [], [], 0⟩) (σ' := []) (ob := Tt 4) (by kernel_rfl) (by kernel_rfl) (tt 4) ?_
  refine AAny.call (fuel := 3) (i := 2) (fid := 94) (cap := []) (avs := [.str b]) rfl (by kernel_rfl) (by kernel_rfl) (by kernel_rfl) (by kernel_rfl) rfl (by kernel_rfl) en_94 (by kernel_rfl) (ACalls.mono (clone_walk b hs _) ?_) (by kernel_rfl)
  rintro _ _ ⟨rfl, rfl⟩
  refine AAny.run hT (fun d => match d with | some 10 => true | _ => false) (fuel := 0) [4, 5, 6] [4] (fz' := false) (l' := #[true, true, true, true, true, true, true]) (fr' := ⟨[(4, .ptr 0 0)], [], [], [], 0⟩) (σ' := [[.str a, .str b, .iface 145 (.any)]]) (ob := Tt 4) (by kernel_rfl) (by kernel_rfl) (tt 4) ?_
  refine AAny.done (by kernel_rfl) ?_
  refine ACode.ret ?_
  exact retQ.ret (.ptr 0 0) (by kernel_rfl) ⟨rfl, _, rfl⟩
theorem rangeError_walk (a b : List UInt8) (hs : b.length ≤ 281474976710656) : ACalls Tryd.prog 82 [.str a, .str b] [] (fun e s => e = .ret (.ptr 0 0) ∧ ∃ o, s = [o]) := by
  refine ACalls.enter hT Tryd.func82 rfl (by kernel_rfl) ?_
  refine ACode.seq ?_
  refine ACode.run hT (fun d => match d with | some 10 => true | _ => false) [0, 1] (fr' := ⟨[(0, .str a), (1, .str b)], [], [], [], 0⟩) (σ' := []) (ob := Tt 2) (by kernel_rfl) (tt 2) ?_
  refine ACode.seq ?_
  refine ACode.draw [] 0 [] 0 (by kernel_rfl) (by kernel_rfl) ?_
  refine AAny.run hT (fun d => match d with | some 10 => true | _ => false) (fuel := 4) [0, 1, 3] [5, 6, 8] (fz' := true) (l' := #[true, true, false, true, false, false, false]) (fr' := ⟨[(5, .str a), (6, .str b), (8, .iface 145 (.any))], [], [], [], 0⟩) (σ' := []) (ob := Tt 4) (by kernel_rfl) (by kernel_rfl) (tt 4) ?_
  refine AAny.call (fuel := 3) (i := 2) (fid := 94) (cap := []) (avs := [.str b]) rfl (by kernel_rfl) (by kernel_rfl) (by kernel_rfl) (by kernel_rfl) rfl (by kernel_rfl) en_94 (by kernel_rfl) (ACalls.mono (clone_walk b hs _) ?_) (by kernel_rfl)
  rintro _ _ ⟨rfl, rfl⟩
  refine AAny.run hT (fun d => match d with | some 10 => true | _ => false) (fuel := 0) [4, 5, 6] [4] (fz' := false) (l' := #[true, true, true, true, true, true, true]) (fr' := ⟨[(4, .ptr 0 0)], [], [], [], 0⟩) (σ' := [[.str a, .str b, .iface 145 (.any)]]) (ob := Tt 4) (by kernel_rfl) (by kernel_rfl) (tt 4) ?_
  refine AAny.done (by kernel_rfl) ?_
  refine ACode.ret ?_
  exact retQ.ret (.ptr 0 0) (by kernel_rfl) ⟨rfl, _, rfl⟩
theorem toError1_walk (a b : List UInt8) (c d : Int) (hs : b.length ≤ 281474976710656) : ACalls Tryd.prog 66 [.str a, .str b, .i c, .i d, .iface 116 (.i 1)] [] (fun e s => e = .ret (.iface 118 (.ptr 0 0)) ∧ ∃ o, s = [o]) := by
  refine ACalls.enter hT Tryd.func66 rfl (by kernel_rfl) ?_
  refine ACode.seq ?_
  refine ACode.run hT nh [0, 1, 2, 3, 4] (fr' := ⟨[(0, .str a), (1, .str b), (2, .i c), (3, .i d), (4, .iface 116 (.i 1))], [], [], [], 0⟩) (σ' := []) (ob := Tt 2) (by kernel_rfl) (tt 2) ?_
  refine ACode.seq ?_
  refine ACode.seq ?_
  refine ACode.run hT nh [0, 1, 2, 3, 4, 11] (fr' := ⟨[(0, .str a), (1, .str b), (2, .i c), (3, .i d), (4, .iface 116 (.i 1)), (11, .iface 116 (.i 1))], [], [], [], 0⟩) (σ' := []) (ob := Tt 2) (by kernel_rfl) (tt 2) ?_
  refine ACode.block ?_
  refine ACode.seq ?_
  refine ACode.run hT nh [0, 1, 2, 3, 4, 11, 12] (fr' := ⟨[(0, .str a), (1, .str b), (2, .i c), (3, .i d), (4, .iface 116 (.i 1)), (11, .iface 116 (.i 1)), (12, .bool false)], [], [], [], 0⟩) (σ' := []) (ob := Tt 4) (by kernel_rfl) (tt 4) ?_
  refine ACode.cond (t := false) (by kernel_rfl) (fun h => Bool.noConfusion h) (fun _ => ?_)
  refine ACode.seq ?_
  refine ACode.run hT nh [0, 1, 2, 3, 4, 11, 19] (fr' := ⟨[(0, .str a), (1, .str b), (2, .i c), (3, .i d), (4, .iface 116 (.i 1)), (11, .iface 116 (.i 1)), (19, .bool true)], [], [], [], 0⟩) (σ' := []) (ob := Tt 4) (by kernel_rfl) (tt 4) ?_
  refine ACode.cond (t := true) (by kernel_rfl) (fun _ => ?_) (fun h => Bool.noConfusion h)
  refine ACode.seq ?_
  refine ACode.region ?_
  refine AOps.runN hT nh 2 [22, 23] (fr' := ⟨[(22, .str a), (23, .str b)], [], [], [], 0⟩) (σ' := []) (ob := Tt 3) (by kernel_rfl) (tt 3) ?_
  refine AOps.call (fid := 82) (cap := []) (avs := [.str a, .str b]) (by kernel_rfl) rfl (by kernel_rfl) (by kernel_rfl) en_82 (by kernel_rfl) (ACalls.mono (rangeError_walk a b hs) ?_)
  rintro _ _ ⟨rfl, o, rfl⟩
  refine AOps.runN hT nh 2 [10] (fr' := ⟨[(10, .iface 118 (.ptr 0 0))], [], [], [], 0⟩) (σ' := [o]) (ob := Tt 3) (by kernel_rfl) (tt 3) ?_
  refine AOps.nil ?_
  refine ACode.ret ?_
  exact retQ.ret (.iface 118 (.ptr 0 0)) (by kernel_rfl) ⟨rfl, _, rfl⟩
theorem toError2_walk (a b : List UInt8) (c d : Int) (hs : b.length ≤ 281474976710656) : ACalls Tryd.prog 66 [.str a, .str b, .i c, .i d, .iface 116 (.i 2)] [] (fun e s => e = .ret (.iface 118 (.ptr 0 0)) ∧ ∃ o, s = [o]) := by
  refine ACalls.enter hT Tryd.func66 rfl (by kernel_rfl) ?_
  refine ACode.seq ?_
  refine ACode.run hT nh [0, 1, 2, 3, 4] (fr' := ⟨[(0, .str a), (1, .str b), (2, .i c), (3, .i d), (4, .iface 116 (.i 2))], [], [], [], 0⟩) (σ' := []) (ob := Tt 2) (by kernel_rfl) (tt 2) ?_
  refine ACode.seq ?_
  refine ACode.seq ?_
  refine ACode.run hT nh [0, 1, 2, 3, 4, 11] (fr' := ⟨[(0, .str a), (1, .str b), (2, .i c), (3, .i d), (4, .iface 116 (.i 2)), (11, .iface 116 (.i 2))], [], [], [], 0⟩) (σ' := []) (ob := Tt 2) (by kernel_rfl) (tt 2) ?_
  refine ACode.block ?_
  refine ACode.seq ?_
  refine ACode.run hT nh [0, 1, 2, 3, 4, 11, 12] (fr' := ⟨[(0, .str a), (1, .str b), (2, .i c), (3, .i d), (4, .iface 116 (.i 2)), (11, .iface 116 (.i 2)), (12, .bool true)], [], [], [], 0⟩) (σ' := []) (ob := Tt 4) (by kernel_rfl) (tt 4) ?_
  refine ACode.cond (t := true) (by kernel_rfl) (fun _ => ?_) (fun h => Bool.noConfusion h)
  refine ACode.seq ?_
  refine ACode.region ?_
  refine AOps.runN hT nh 2 [15, 16] (fr' := ⟨[(15, .str a), (16, .str b)], [], [], [], 0⟩) (σ' := []) (ob := Tt 3) (by kernel_rfl) (tt 3) ?_
  refine AOps.call (fid := 81) (cap := []) (avs := [.str a, .str b]) (by kernel_rfl) rfl (by kernel_rfl) (by kernel_rfl) en_81 (by kernel_rfl) (ACalls.mono (syntaxError_walk a b hs) ?_)
  rintro _ _ ⟨rfl, o, rfl⟩
  refine AOps.runN hT nh 2 [10] (fr' := ⟨[(10, .iface 118 (.ptr 0 0))], [], [], [], 0⟩) (σ' := [o]) (ob := Tt 3) (by kernel_rfl) (tt 3) ?_
  refine AOps.nil ?_
  refine ACode.ret ?_
  exact retQ.ret (.iface 118 (.ptr 0 0)) (by kernel_rfl) ⟨rfl, _, rfl⟩
theorem parseUintE10 (t : List UInt8) (ht : t.length ≤ 9000) (hs : t.length ≤ 281474976710656) : ACalls Tryd.prog 52 [.str t, .i 10, .i 63] [] (fun e s => (puS 10 1844674407370955162 9223372036854775807 t).2 = true ∧ e = .ret (.tuple [.int .u64 (puS 10 1844674407370955162 9223372036854775807 t).1, .nilIface]) ∨ (puS 10 1844674407370955162 9223372036854775807 t).2 = false ∧ e = .ret (.tuple [.int .u64 (puS 10 1844674407370955162 9223372036854775807 t).1, .iface 118 (.ptr 0 0)])) := by
  refine ACalls.enter hT Tryd.func52 rfl (by kernel_rfl) ?_
  refine ACode.seq ?_
  refine ACode.run hT nh [0, 1, 2] (fr' := ⟨[(0, .str t), (1, .i 10), (2, .i 63)], [], [], [], 0⟩) (σ' := []) (ob := Tt 3) (by kernel_rfl) (tt 3) ?_
  refine ACode.seq ?_
  refine ACode.region ?_
  refine AOps.runN hT nh 3 [0, 1, 2, 11, 12, 13] (fr' := ⟨[(0, .str t), (1, .i 10), (2, .i 63), (11, .str t), (12, .i 10), (13, .i 63)], [], [], [], 0⟩) (σ' := []) (ob := Tt 4) (by kernel_rfl) (tt 4) ?_
  refine AOps.call (fid := 65) (cap := []) (avs := [.str t, .i 10, .i 63]) (by kernel_rfl) rfl (by kernel_rfl) (by kernel_rfl) en_65 (by kernel_rfl) (ACalls.mono (parseUint10_walk t _ ht) ?_)
  rintro _ _ ⟨rfl, (⟨hr, rfl⟩ | ⟨hr, k, (rfl | rfl), rfl⟩)⟩
  ·
   refine AOps.runN hT nh 5 [0, 1, 2, 8, 9] (fr' := ⟨[(0, .str t), (1, .i 10), (2, .i 63), (8, .int .u64 ((puS 10 1844674407370955162 9223372036854775807 t).1)), (9, .nilIface)], [], [], [], 0⟩) (σ' := []) (ob := Tt 6) (by kernel_rfl) (tt 6) ?_
   refine AOps.nil ?_
   refine ACode.seq ?_
   refine ACode.seq ?_
   refine ACode.run hT nh [0, 1, 2, 8, 9, 18] (fr' := ⟨[(0, .str t), (1, .i 10), (2, .i 63), (8, .int .u64 ((puS 10 1844674407370955162 9223372036854775807 t).1)), (9, .nilIface), (18, .bool false)], [], [], [], 0⟩) (σ' := []) (ob := Tt 3) (by kernel_rfl) (tt 3) ?_
   refine ACode.cond (t := false) (by kernel_rfl) (fun h => Bool.noConfusion h) (fun _ => ?_)
   refine ACode.skip ?_
   refine ACode.seq ?_
   refine ACode.run hT nh [6, 7] (fr' := ⟨[(6, .int .u64 ((puS 10 1844674407370955162 9223372036854775807 t).1)), (7, .nilIface)], [], [], [], 0⟩) (σ' := []) (ob := Tt 4) (by kernel_rfl) (tt 4) ?_
   refine ACode.ret ?_
   exact retQ.ret (.tuple [.int .u64 ((puS 10 1844674407370955162 9223372036854775807 t).1), .nilIface]) (by kernel_rfl) (.inl ⟨hr, rfl⟩)
  ·
   refine AOps.runN hT nh 5 [0, 1, 2, 8, 9] (fr' := ⟨[(0, .str t), (1, .i 10), (2, .i 63), (8, .int .u64 ((puS 10 1844674407370955162 9223372036854775807 t).1)), (9, .iface 116 (.i 1))], [], [], [], 0⟩) (σ' := []) (ob := Tt 6) (by kernel_rfl) (tt 6) ?_
   refine AOps.nil ?_
   refine ACode.seq ?_
   refine ACode.seq ?_
   refine ACode.run hT nh [0, 1, 2, 8, 9, 18] (fr' := ⟨[(0, .str t), (1, .i 10), (2, .i 63), (8, .int .u64 ((puS 10 1844674407370955162 9223372036854775807 t).1)), (9, .iface 116 (.i 1)), (18, .bool true)], [], [], [], 0⟩) (σ' := []) (ob := Tt 3) (by kernel_rfl) (tt 3) ?_
   refine ACode.cond (t := true) (by kernel_rfl) (fun _ => ?_) (fun h => Bool.noConfusion h)
   refine ACode.seq ?_
   refine ACode.region ?_
   refine AOps.runN hT nh 5 [19, 20, 21, 22, 23] (fr' := ⟨[(19, .int .u64 ((puS 10 1844674407370955162 9223372036854775807 t).1)), (20, .str t), (21, .i 10), (22, .i 63), (23, .iface 116 (.i 1))], [], [], [], 0⟩) (σ' := []) (ob := Tt 6) (by kernel_rfl) (tt 6) ?_
   refine AOps.call (fid := 66) (cap := []) (avs := [.str [80, 97, 114, 115, 101, 85, 105, 110, 116], .str t, .i 10, .i 63, .iface 116 (.i 1)]) (by kernel_rfl) rfl (by kernel_rfl) (by kernel_rfl) en_66 (by kernel_rfl) (ACalls.mono (toError1_walk [80, 97, 114, 115, 101, 85, 105, 110, 116] t 10 63 hs) ?_)
   rintro _ _ ⟨rfl, o, rfl⟩
   refine AOps.runN hT nh 2 [6, 7] (fr' := ⟨[(6, .int .u64 ((puS 10 1844674407370955162 9223372036854775807 t).1)), (7, .iface 118 (.ptr 0 0))], [], [], [], 0⟩) (σ' := [o]) (ob := Tt 3) (by kernel_rfl) (tt 3) ?_
   refine AOps.nil ?_
   refine ACode.ret ?_
   exact retQ.ret (.tuple [.int .u64 ((puS 10 1844674407370955162 9223372036854775807 t).1), .iface 118 (.ptr 0 0)]) (by kernel_rfl) (.inr ⟨hr, rfl⟩)
  ·
   refine AOps.runN hT nh 5 [0, 1, 2, 8, 9] (fr' := ⟨[(0, .str t), (1, .i 10), (2, .i 63), (8, .int .u64 ((puS 10 1844674407370955162 9223372036854775807 t).1)), (9, .iface 116 (.i 2))], [], [], [], 0⟩) (σ' := []) (ob := Tt 6) (by kernel_rfl) (tt 6) ?_
   refine AOps.nil ?_
   refine ACode.seq ?_
   refine ACode.seq ?_
   refine ACode.run hT nh [0, 1, 2, 8, 9, 18] (fr' := ⟨[(0, .str t), (1, .i 10), (2, .i 63), (8, .int .u64 ((puS 10 1844674407370955162 9223372036854775807 t).1)), (9, .iface 116 (.i 2)), (18, .bool true)], [], [], [], 0⟩) (σ' := []) (ob := Tt 3) (by kernel_rfl) (tt 3) ?_
   refine ACode.cond (t := true) (by kernel_rfl) (fun _ => ?_) (fun h => Bool.noConfusion h)
   refine ACode.seq ?_
   refine ACode.region ?_
   refine AOps.runN hT nh 5 [19, 20, 21, 22, 23] (fr' := ⟨[(19, .int .u64 ((puS 10 1844674407370955162 9223372036854775807 t).1)), (20, .str t), (21, .i 10), (22, .i 63), (23, .iface 116 (.i 2))], [], [], [], 0⟩) (σ' := []) (ob := Tt 6) (by kernel_rfl) (tt 6) ?_
   refine AOps.call (fid := 66) (cap := []) (avs := [.str [80, 97, 114, 115, 101, 85, 105, 110, 116], .str t, .i 10, .i 63, .iface 116 (.i 2)]) (by kernel_rfl) rfl (by kernel_rfl) (by kernel_rfl) en_66 (by kernel_rfl) (ACalls.mono (toError2_walk [80, 97, 114, 115, 101, 85, 105, 110, 116] t 10 63 hs) ?_)
   rintro _ _ ⟨rfl, o, rfl⟩
   refine AOps.runN hT nh 2 [6, 7] (fr' := ⟨[(6, .int .u64 ((puS 10 1844674407370955162 9223372036854775807 t).1)), (7, .iface 118 (.ptr 0 0))], [], [], [], 0⟩) (σ' := [o]) (ob := Tt 3) (by kernel_rfl) (tt 3) ?_
   refine AOps.nil ?_
   refine ACode.ret ?_
   exact retQ.ret (.tuple [.int .u64 ((puS 10 1844674407370955162 9223372036854775807 t).1), .iface 118 (.ptr 0 0)]) (by kernel_rfl) (.inr ⟨hr, rfl⟩)

theorem parseUint10 (t : List UInt8) (ht : t.length ≤ 9000) (σ : St) : ACalls Tryd.prog 52 [.str t, .i 10, .i 63] σ (fun e s => σ = s ∧ ((puS 10 1844674407370955162 9223372036854775807 t).2 = true ∧ e = .ret (.tuple [.int .u64 (puS 10 1844674407370955162 9223372036854775807 t).1, .nilIface]) ∨ (puS 10 1844674407370955162 9223372036854775807 t).2 = false ∧ e = .ret (.tuple [.int .u64 (puS 10 1844674407370955162 9223372036854775807 t).1, .iface 118 .any]))) := by
  have h := (parseUintE10 t ht (by omega)).conv (R' := fun e _ => (puS 10 1844674407370955162 9223372036854775807 t).2 = true ∧ e = .ret (.tuple [.int .u64 (puS 10 1844674407370955162 9223372036854775807 t).1, .nilIface]) ∨ (puS 10 1844674407370955162 9223372036854775807 t).2 = false ∧ e = .ret (.tuple [.int .u64 (puS 10 1844674407370955162 9223372036854775807 t).1, .iface 118 .any])) (by
   rintro e s (⟨h, rfl⟩ | ⟨h, rfl⟩)
   ·exact ⟨_, .inl ⟨h, rfl⟩, fun V x hx => hx⟩
   ·refine ⟨_, .inr ⟨h, rfl⟩, fun V x hx => ?_⟩
    cases x <;> simp only [EndR, CR, CRs] at hx ⊢
    obtain ⟨vs, rfl, v, r, rfl, rfl, v2, r2, rfl, ⟨x, rfl, _⟩, rfl⟩ := hx
    exact ⟨_, rfl, _, _, rfl, rfl, _, _, rfl, ⟨_, rfl, trivial⟩, rfl⟩)
  refine (h.frame rfl ?_).mono ?_
  ·rintro e s (⟨_, rfl⟩ | ⟨_, rfl⟩) <;> rfl
  ·rintro e s ⟨h1, _, h2⟩
   exact ⟨h1, h2⟩

theorem parseUintE16 (t : List UInt8) (ht : t.length ≤ 9000) (hs : t.length ≤ 281474976710656) : ACalls Tryd.prog 52 [.str t, .i 16, .i 64] [] (fun e s => (puS 16 1152921504606846976 18446744073709551615 t).2 = true ∧ e = .ret (.tuple [.int .u64 (puS 16 1152921504606846976 18446744073709551615 t).1, .nilIface]) ∨ (puS 16 1152921504606846976 18446744073709551615 t).2 = false ∧ e = .ret (.tuple [.int .u64 (puS 16 1152921504606846976 18446744073709551615 t).1, .iface 118 (.ptr 0 0)])) := by
  refine ACalls.enter hT Tryd.func52 rfl (by kernel_rfl) ?_
  refine ACode.seq ?_
  refine ACode.run hT nh [0, 1, 2] (fr' := ⟨[(0, .str t), (1, .i 16), (2, .i 64)], [], [], [], 0⟩) (σ' := []) (ob := Tt 3) (by kernel_rfl) (tt 3) ?_
  refine ACode.seq ?_
  refine ACode.region ?_
  refine AOps.runN hT nh 3 [0, 1, 2, 11, 12, 13] (fr' := ⟨[(0, .str t), (1, .i 16), (2, .i 64), (11, .str t), (12, .i 16), (13, .i 64)], [], [], [], 0⟩) (σ' := []) (ob := Tt 4) (by kernel_rfl) (tt 4) ?_
  refine AOps.call (fid := 65) (cap := []) (avs := [.str t, .i 16, .i 64]) (by kernel_rfl) rfl (by kernel_rfl) (by kernel_rfl) en_65 (by kernel_rfl) (ACalls.mono (parseUint16_walk t _ ht) ?_)
  rintro _ _ ⟨rfl, (⟨hr, rfl⟩ | ⟨hr, k, (rfl | rfl), rfl⟩)⟩
  ·
   refine AOps.runN hT nh 5 [0, 1, 2, 8, 9] (fr' := ⟨[(0, .str t), (1, .i 16), (2, .i 64), (8, .int .u64 ((puS 16 1152921504606846976 18446744073709551615 t).1)), (9, .nilIface)], [], [], [], 0⟩) (σ' := []) (ob := Tt 6) (by kernel_rfl) (tt 6) ?_
   refine AOps.nil ?_
   refine ACode.seq ?_
   refine ACode.seq ?_
   refine ACode.run hT nh [0, 1, 2, 8, 9, 18] (fr' := ⟨[(0, .str t), (1, .i 16), (2, .i 64), (8, .int .u64 ((puS 16 1152921504606846976 18446744073709551615 t).1)), (9, .nilIface), (18, .bool false)], [], [], [], 0⟩) (σ' := []) (ob := Tt 3) (by kernel_rfl) (tt 3) ?_
   refine ACode.cond (t := false) (by kernel_rfl) (fun h => Bool.noConfusion h) (fun _ => ?_)
   refine ACode.skip ?_
   refine ACode.seq ?_
   refine ACode.run hT nh [6, 7] (fr' := ⟨[(6, .int .u64 ((puS 16 1152921504606846976 18446744073709551615 t).1)), (7, .nilIface)], [], [], [], 0⟩) (σ' := []) (ob := Tt 4) (by kernel_rfl) (tt 4) ?_
   refine ACode.ret ?_
   exact retQ.ret (.tuple [.int .u64 ((puS 16 1152921504606846976 18446744073709551615 t).1), .nilIface]) (by kernel_rfl) (.inl ⟨hr, rfl⟩)
  ·
   refine AOps.runN hT nh 5 [0, 1, 2, 8, 9] (fr' := ⟨[(0, .str t), (1, .i 16), (2, .i 64), (8, .int .u64 ((puS 16 1152921504606846976 18446744073709551615 t).1)), (9, .iface 116 (.i 1))], [], [], [], 0⟩) (σ' := []) (ob := Tt 6) (by kernel_rfl) (tt 6) ?_
   refine AOps.nil ?_
   refine ACode.seq ?_
   refine ACode.seq ?_
   refine ACode.run hT nh [0, 1, 2, 8, 9, 18] (fr' := ⟨[(0, .str t), (1, .i 16), (2, .i 64), (8, .int .u64 ((puS 16 1152921504606846976 18446744073709551615 t).1)), (9, .iface 116 (.i 1)), (18, .bool true)], [], [], [], 0⟩) (σ' := []) (ob := Tt 3) (by kernel_rfl) (tt 3) ?_
   refine ACode.cond (t := true) (by kernel_rfl) (fun _ => ?_) (fun h => Bool.noConfusion h)
   refine ACode.seq ?_
   refine ACode.region ?_
   refine AOps.runN hT nh 5 [19, 20, 21, 22, 23] (fr' := ⟨[(19, .int .u64 ((puS 16 1152921504606846976 18446744073709551615 t).1)), (20, .str t), (21, .i 16), (22, .i 64), (23, .iface 116 (.i 1))], [], [], [], 0⟩) (σ' := []) (ob := Tt 6) (by kernel_rfl) (tt 6) ?_
   refine AOps.call (fid := 66) (cap := []) (avs := [.str [80, 97, 114, 115, 101, 85, 105, 110, 116], .str t, .i 16, .i 64, .iface 116 (.i 1)]) (by kernel_rfl) rfl (by kernel_rfl) (by kernel_rfl) en_66 (by kernel_rfl) (ACalls.mono (toError1_walk [80, 97, 114, 115, 101, 85, 105, 110, 116] t 16 64 hs) ?_)
   rintro _ _ ⟨rfl, o, rfl⟩
   refine AOps.runN hT nh 2 [6, 7] (fr' := ⟨[(6, .int .u64 ((puS 16 1152921504606846976 18446744073709551615 t).1)), (7, .iface 118 (.ptr 0 0))], [], [], [], 0⟩) (σ' := [o]) (ob := Tt 3) (by kernel_rfl) (tt 3) ?_
   refine AOps.nil ?_
   refine ACode.ret ?_
   exact retQ.ret (.tuple [.int .u64 ((puS 16 1152921504606846976 18446744073709551615 t).1), .iface 118 (.ptr 0 0)]) (by kernel_rfl) (.inr ⟨hr, rfl⟩)
  ·
   refine AOps.runN hT nh 5 [0, 1, 2, 8, 9] (fr' := ⟨[(0, .str t), (1, .i 16), (2, .i 64), (8, .int .u64 ((puS 16 1152921504606846976 18446744073709551615 t).1)), (9, .iface 116 (.i 2))], [], [], [], 0⟩) (σ' := []) (ob := Tt 6) (by kernel_rfl) (tt 6) ?_
   refine AOps.nil ?_
   refine ACode.seq ?_
   refine ACode.seq ?_
   refine ACode.run hT nh [0, 1, 2, 8, 9, 18] (fr' := ⟨[(0, .str t), (1, .i 16), (2, .i 64), (8, .int .u64 ((puS 16 1152921504606846976 18446744073709551615 t).1)), (9, .iface 116 (.i 2)), (18, .bool true)], [], [], [], 0⟩) (σ' := []) (ob := Tt 3) (by kernel_rfl) (tt 3) ?_
   refine ACode.cond (t := true) (by kernel_rfl) (fun _ => ?_) (fun h => Bool.noConfusion h)
   refine ACode.seq ?_
   refine ACode.region ?_
   refine AOps.runN hT nh 5 [19, 20, 21, 22, 23] (fr' := ⟨[(19, .int .u64 ((puS 16 1152921504606846976 18446744073709551615 t).1)), (20, .str t), (21, .i 16), (22, .i 64), (23, .iface 116 (.i 2))], [], [], [], 0⟩) (σ' := []) (ob := Tt 6) (by kernel_rfl) (tt 6) ?_
   refine AOps.call (fid := 66) (cap := []) (avs := [.str [80, 97, 114, 115, 101, 85, 105, 110, 116], .str t, .i 16, .i 64, .iface 116 (.i 2)]) (by kernel_rfl) rfl (by kernel_rfl) (by kernel_rfl) en_66 (by kernel_rfl) (ACalls.mono (toError2_walk [80, 97, 114, 115, 101, 85, 105, 110, 116] t 16 64 hs) ?_)
   rintro _ _ ⟨rfl, o, rfl⟩
   refine AOps.runN hT nh 2 [6, 7] (fr' := ⟨[(6, .int .u64 ((puS 16 1152921504606846976 18446744073709551615 t).1)), (7, .iface 118 (.ptr 0 0))], [], [], [], 0⟩) (σ' := [o]) (ob := Tt 3) (by kernel_rfl) (tt 3) ?_
   refine AOps.nil ?_
   refine ACode.ret ?_
   exact retQ.ret (.tuple [.int .u64 ((puS 16 1152921504606846976 18446744073709551615 t).1), .iface 118 (.ptr 0 0)]) (by kernel_rfl) (.inr ⟨hr, rfl⟩)

theorem parseUint16 (t : List UInt8) (ht : t.length ≤ 9000) (σ : St) : ACalls Tryd.prog 52 [.str t, .i 16, .i 64] σ (fun e s => σ = s ∧ ((puS 16 1152921504606846976 18446744073709551615 t).2 = true ∧ e = .ret (.tuple [.int .u64 (puS 16 1152921504606846976 18446744073709551615 t).1, .nilIface]) ∨ (puS 16 1152921504606846976 18446744073709551615 t).2 = false ∧ e = .ret (.tuple [.int .u64 (puS 16 1152921504606846976 18446744073709551615 t).1, .iface 118 .any]))) := by
  have h := (parseUintE16 t ht (by omega)).conv (R' := fun e _ => (puS 16 1152921504606846976 18446744073709551615 t).2 = true ∧ e = .ret (.tuple [.int .u64 (puS 16 1152921504606846976 18446744073709551615 t).1, .nilIface]) ∨ (puS 16 1152921504606846976 18446744073709551615 t).2 = false ∧ e = .ret (.tuple [.int .u64 (puS 16 1152921504606846976 18446744073709551615 t).1, .iface 118 .any])) (by
   rintro e s (⟨h, rfl⟩ | ⟨h, rfl⟩)
   ·exact ⟨_, .inl ⟨h, rfl⟩, fun V x hx => hx⟩
   ·refine ⟨_, .inr ⟨h, rfl⟩, fun V x hx => ?_⟩
    cases x <;> simp only [EndR, CR, CRs] at hx ⊢
    obtain ⟨vs, rfl, v, r, rfl, rfl, v2, r2, rfl, ⟨x, rfl, _⟩, rfl⟩ := hx
    exact ⟨_, rfl, _, _, rfl, rfl, _, _, rfl, ⟨_, rfl, trivial⟩, rfl⟩)
  refine (h.frame rfl ?_).mono ?_
  ·rintro e s (⟨_, rfl⟩ | ⟨_, rfl⟩) <;> rfl
  ·rintro e s ⟨h1, _, h2⟩
   exact ⟨h1, h2⟩


end Go.AE

set_option linter.unusedVariables false
set_option linter.unusedSimpArgs false
set_option maxRecDepth 4000
namespace Go.AE
open Go.Proofs

def powC : List AV := [.int .u64 1, .int .u64 10, .int .u64 100, .int .u64 1000, .int .u64 10000, .int .u64 100000, .int .u64 1000000, .int .u64 10000000, .int .u64 100000000, .int .u64 1000000000, .int .u64 10000000000, .int .u64 100000000000, .int .u64 1000000000000, .int .u64 10000000000000, .int .u64 100000000000000, .int .u64 1000000000000000, .int .u64 10000000000000000, .int .u64 100000000000000000, .int .u64 1000000000000000000, .int .u64 10000000000000000000]
theorem powC_at (q : Nat) (h : q ≤ 19) : powC.drop (q * 1) = [.int .u64 ((10 ^ q : Nat) : Int)] ++ powC.drop (q + 1) := by
  have : ∀ q : Fin 20, powC.drop (q.val * 1) = [.int .u64 ((10 ^ q.val : Nat) : Int)] ++ powC.drop (q.val + 1) := by
    intro q
    match q with
    | ⟨0, _⟩ => rfl
    | ⟨1, _⟩ => rfl
    | ⟨2, _⟩ => rfl
    | ⟨3, _⟩ => rfl
    | ⟨4, _⟩ => rfl
    | ⟨5, _⟩ => rfl
    | ⟨6, _⟩ => rfl
    | ⟨7, _⟩ => rfl
    | ⟨8, _⟩ => rfl
    | ⟨9, _⟩ => rfl
    | ⟨10, _⟩ => rfl
    | ⟨11, _⟩ => rfl
    | ⟨12, _⟩ => rfl
    | ⟨13, _⟩ => rfl
    | ⟨14, _⟩ => rfl
    | ⟨15, _⟩ => rfl
    | ⟨16, _⟩ => rfl
    | ⟨17, _⟩ => rfl
    | ⟨18, _⟩ => rfl
    | ⟨19, _⟩ => rfl
    | ⟨n + 20, h⟩ => exact absurd h (by omega)
  exact this ⟨q, by omega⟩

theorem len64_walk (u : Nat) (h2 : u < 18446744073709551616) (σ : St) : ACalls Tryd.prog 98 [.int .u64 (u : Int)] σ (fun e s => σ = s ∧ e = .ret (.int .i64 (Lib.bitLen u : Nat))) := by
  refine ACalls.of_below fun V vs hH hv => ?_
  simp only [CRs, CR] at hv
  obtain ⟨v, r, rfl, rfl, rfl⟩ := hv
  exact (Tryd.bits_Len64 (u : Int) V.w (by omega) (by omega)).mono fun e w' ⟨h1, h2⟩ => ⟨h2 ▸ Go.RowKit.Below.refl _ _, _, rfl, fun V' _ => by subst h1; simp [EndR, CR]⟩

theorem log10_walk (x : Int) (σ : St) (h0 : 0 ≤ x) (h1 : x ≤ 64) : ACalls Tryd.prog 97 [.int .i64 x] σ (fun e s => σ = s ∧ e = .ret (.int .i64 ((x * 78913).fdiv (2 ^ 18)))) := by
  refine ACalls.enter hT Tryd.func97 rfl (by kernel_rfl) ?_
  refine ACode.seq ?_
  refine ACode.run hT (fun _ => false) [0] (fr' := ⟨[(0, .int .i64 x)], [], [], [], 0⟩) (σ' := σ) (ob := True ∧ True) (by kernel_rfl) ⟨trivial, trivial⟩ ?_
  refine ACode.seq ?_
  refine ACode.run hT (fun _ => false) [2] (fr' := ⟨[(2, .int .i64 (((IntKind.i64.wrap (x * 78913)) : Int).fdiv (2 ^ 18)))], [], [], [], 0⟩) (σ' := σ) (ob := True ∧ True ∧ (¬ (18 : Int) < 0) ∧ True ∧ True) (by kernel_rfl) ⟨trivial, trivial, (by first | omega | (simp; done) | (simp; omega)), trivial, trivial⟩ ?_
  rw [IntWalk.i64_in (x * 78913) (by omega)]
  refine ACode.ret ?_
  exact retQ.ret (.int .i64 (((x * 78913) : Int).fdiv (2 ^ 18))) (by kernel_rfl) ⟨rfl, rfl⟩
theorem bool2_walk (b : Bool) (σ : St)  : ACalls Tryd.prog 99 [.bool b] σ (fun e s => σ = s ∧ e = .ret (.int .i64 (if b = true then 1 else 0))) := by
  refine ACalls.enter hT Tryd.func99 rfl (by kernel_rfl) ?_
  refine ACode.seq ?_
  refine ACode.run hT (fun _ => false) [0] (fr' := ⟨[(0, .bool b)], [], [], [], 0⟩) (σ' := σ) (ob := True ∧ True) (by kernel_rfl) ⟨trivial, trivial⟩ ?_
  refine ACode.seq ?_
  refine ACode.seq ?_
  refine ACode.run hT (fun _ => false) [3] (fr' := ⟨[(3, .bool b)], [], [], [], 0⟩) (σ' := σ) (ob := True ∧ True) (by kernel_rfl) ⟨trivial, trivial⟩ ?_
  refine ACode.cond (t := b) (by kernel_rfl) (fun h1 => ?_) (fun h1 => ?_)
  · -- true
    skip
    refine ACode.seq ?_
    refine ACode.run hT (fun _ => false) [2] (fr' := ⟨[(2, .int .i64 1)], [], [], [], 0⟩) (σ' := σ) (ob := True ∧ True) (by kernel_rfl) ⟨trivial, trivial⟩ ?_
    refine ACode.ret ?_
    refine retQ.ret (.int .i64 1) (by kernel_rfl) ?_
    refine ⟨rfl, ?_⟩
    simp [h1]
  · -- false
    skip
    refine ACode.skip ?_
    refine ACode.seq ?_
    refine ACode.run hT (fun _ => false) [2] (fr' := ⟨[(2, .int .i64 0)], [], [], [], 0⟩) (σ' := σ) (ob := True ∧ True) (by kernel_rfl) ⟨trivial, trivial⟩ ?_
    refine ACode.ret ?_
    refine retQ.ret (.int .i64 0) (by kernel_rfl) ?_
    refine ⟨rfl, ?_⟩
    simp [h1]
theorem numDigits_walk (u : Nat) (σ : St) (h1 : 1 ≤ u) (h2 : u < 18446744073709551616) : ACalls Tryd.prog 86 [.int .u64 (u : Int)] σ (fun e s => σ = s ∧ e = .ret (.int .i64 ((Lib.nDigits u : Nat) : Int))) := by
  refine ACalls.enter hT Tryd.func86 rfl (by kernel_rfl) ?_
  obtain ⟨hnd, hl19⟩ := Lib.numDigits_eq u h1 h2
  have hbl0 : Lib.bitLen u ≤ 64 := Lib.bitLen_le u 64 (Nat.le_refl _) h2
  have hbl : (Lib.bitLen u : Int) ≤ 64 := by omega
  have hl10 : ((Lib.bitLen u : Int) * 78913).fdiv (2 ^ 18) = (Lib.l10 (Lib.bitLen u) : Int) := by rw [Int.fdiv_eq_ediv_of_nonneg _ (by decide)]; unfold Lib.l10; omega
  refine ACode.seq ?_
  refine ACode.run hT (fun _ => false) [0] (fr' := ⟨[(0, .int .u64 (u : Int))], [], [], [], 0⟩) (σ' := σ) (ob := True ∧ True) (by kernel_rfl) ⟨trivial, trivial⟩ ?_
  refine ACode.seq ?_
  refine ACode.region ?_
  refine AOps.runN hT (fun _ => false) 1 [0, 4] (fr' := ⟨[(0, .int .u64 (u : Int)), (4, .int .u64 (u : Int))], [], [], [], 0⟩) (σ' := σ) (ob := True ∧ True) (by kernel_rfl) ⟨trivial, trivial⟩ ?_
  refine AOps.call (fid := 98) (cap := []) (avs := [.int .u64 (u : Int)]) (by kernel_rfl) rfl (by kernel_rfl) (by kernel_rfl) en_98 (by kernel_rfl) (ACalls.mono (len64_walk u h2 _) ?_)
  rintro _ _ ⟨rfl, rfl⟩
  refine AOps.call (fid := 97) (cap := []) (avs := [.int .i64 (Lib.bitLen u : Int)]) (by kernel_rfl) rfl (by kernel_rfl) (by kernel_rfl) en_97 (by kernel_rfl) (ACalls.mono (log10_walk (Lib.bitLen u : Int) _ (by omega) hbl) ?_)
  rintro _ _ ⟨rfl, rfl⟩
  rw [hl10]
  refine AOps.runN hT (fun _ => false) 1 [0, 3] (fr' := ⟨[(0, .int .u64 (u : Int)), (3, .int .i64 (Lib.l10 (Lib.bitLen u) : Int))], [], [], [], 0⟩) (σ' := σ) (ob := True ∧ True) (by kernel_rfl) ⟨trivial, trivial⟩ ?_
  refine AOps.nil ?_
  refine ACode.seq ?_
  refine ACode.region ?_
  refine AOps.runN hT (fun _ => false) 4 [7, 8, 10] (fr' := ⟨[(7, .int .i64 (Lib.l10 (Lib.bitLen u) : Int)), (8, .int .u64 (u : Int)), (10, .dat (([.int .u64 1, .int .u64 10, .int .u64 100, .int .u64 1000, .int .u64 10000, .int .u64 100000, .int .u64 1000000, .int .u64 10000000, .int .u64 100000000, .int .u64 1000000000, .int .u64 10000000000, .int .u64 100000000000, .int .u64 1000000000000, .int .u64 10000000000000, .int .u64 100000000000000, .int .u64 1000000000000000, .int .u64 10000000000000000, .int .u64 100000000000000000, .int .u64 1000000000000000000, .int .u64 10000000000000000000] : List AV).drop (Lib.l10 (Lib.bitLen u) * 1)))], [], [], [], 0⟩) (σ' := σ) (ob := True ∧ True ∧ True ∧ (0 ≤ ((Lib.l10 (Lib.bitLen u) : Int) : Int) ∧ ((Lib.l10 (Lib.bitLen u) : Int) : Int) < 20 ∧ Lib.l10 (Lib.bitLen u) * 1 ≤ ([.int .u64 1, .int .u64 10, .int .u64 100, .int .u64 1000, .int .u64 10000, .int .u64 100000, .int .u64 1000000, .int .u64 10000000, .int .u64 100000000, .int .u64 1000000000, .int .u64 10000000000, .int .u64 100000000000, .int .u64 1000000000000, .int .u64 10000000000000, .int .u64 100000000000000, .int .u64 1000000000000000, .int .u64 10000000000000000, .int .u64 100000000000000000, .int .u64 1000000000000000000, .int .u64 10000000000000000000] : List AV).length) ∧ True) (by kernel_rfl) ⟨trivial, trivial, trivial, (by simp only [List.length_cons, List.length_nil]; omega), trivial⟩ ?_
  rw [show (([.int .u64 1, .int .u64 10, .int .u64 100, .int .u64 1000, .int .u64 10000, .int .u64 100000, .int .u64 1000000, .int .u64 10000000, .int .u64 100000000, .int .u64 1000000000, .int .u64 10000000000, .int .u64 100000000000, .int .u64 1000000000000, .int .u64 10000000000000, .int .u64 100000000000000, .int .u64 1000000000000000, .int .u64 10000000000000000, .int .u64 100000000000000000, .int .u64 1000000000000000000, .int .u64 10000000000000000000] : List AV).drop (Lib.l10 (Lib.bitLen u) * 1)) = [.int .u64 ((10 ^ (Lib.l10 (Lib.bitLen u)) : Nat) : Int)] ++ powC.drop (Lib.l10 (Lib.bitLen u) + 1) from powC_at _ hl19]
  refine AOps.runN hT (fun _ => false) 2 [7, 12] (fr' := ⟨[(7, .int .i64 (Lib.l10 (Lib.bitLen u) : Int)), (12, .bool (decide ((u : Int) ≥ ((10 ^ (Lib.l10 (Lib.bitLen u)) : Nat) : Int))))], [], [], [], 0⟩) (σ' := σ) (ob := True ∧ True ∧ True) (by kernel_rfl) ⟨trivial, trivial, trivial⟩ ?_
  refine AOps.call (fid := 99) (cap := []) (avs := [.bool (decide ((u : Int) ≥ ((10 ^ (Lib.l10 (Lib.bitLen u)) : Nat) : Int)))]) (by kernel_rfl) rfl (by kernel_rfl) (by kernel_rfl) en_99 (by kernel_rfl) (ACalls.mono (bool2_walk (decide ((u : Int) ≥ ((10 ^ (Lib.l10 (Lib.bitLen u)) : Nat) : Int))) _) ?_)
  rintro _ _ ⟨rfl, rfl⟩
  refine AOps.runN hT (fun _ => false) 2 [2] (fr' := ⟨[(2, .int .i64 (IntKind.i64.wrap ((Lib.l10 (Lib.bitLen u) : Int) + (if (decide ((u : Int) ≥ ((10 ^ (Lib.l10 (Lib.bitLen u)) : Nat) : Int))) = true then 1 else 0))))], [], [], [], 0⟩) (σ' := σ) (ob := True ∧ True ∧ True) (by kernel_rfl) ⟨trivial, trivial, trivial⟩ ?_
  refine AOps.nil ?_
  refine ACode.ret ?_
  refine retQ.ret (.int .i64 (IntKind.i64.wrap ((Lib.l10 (Lib.bitLen u) : Int) + (if (decide ((u : Int) ≥ ((10 ^ (Lib.l10 (Lib.bitLen u)) : Nat) : Int))) = true then 1 else 0)))) (by kernel_rfl) ?_
  refine ⟨rfl, ?_⟩
  rw [← hnd]
  congr 1
  by_cases h9 : 10 ^ Lib.l10 (Lib.bitLen u) ≤ u
  · rw [if_pos h9, if_pos (by rw [decide_eq_true_eq]; exact_mod_cast h9), IntWalk.i64_in _ (by omega)]; simp
  · rw [if_neg h9, if_neg (by rw [decide_eq_true_eq]; exact fun h => h9 (by exact_mod_cast h)), IntWalk.i64_in _ (by omega)]; simp

end Go.AE

/- strconv.FormatUint at base 10: over any program that bears its body. -/
set_option linter.unusedVariables false
set_option linter.unusedSimpArgs false
namespace Go.Proofs
open Go.Shelf Go.RowKit Go.Sort Go.Lib
variable {P : Program}

theorem below_putRow0 {w W1 : World} {dk : Array UInt8} (h : Below w.heap.size w W1) : Below w.heap.size w (putRow (fun (b : UInt8) => Value.int .u8 (b.toNat : Int)) W1 w.heap.size 0 dk) :=
  ⟨h.os, h.tape, h.output, by simpa [putRow, mapBlock] using h.size, fun k hk => by
    rw [← h.block k hk]
    simp [putRow, mapBlock, Array.getElem?_modify, show w.heap.size ≠ k by omega]⟩

set_option maxHeartbeats 6400000 in
set_option maxRecDepth 100000 in
theorem Any.formatUint_big (L : LaysM.n246 P Tryd.laysM246_ren) (hF : P.funcs[67]? = some Tryd.f67) (u : Nat) (h1 : 100 ≤ u) (hu64 : u < 18446744073709551616) (w : World)
    (hnum : Calls P 86 #[.int .u64 u] (w.alloc (.cells Lib.zeros24 121)) fun e w' => e = .returned (.int .i64 (Lib.nDigits u)) ∧ Below (w.alloc (.cells Lib.zeros24 121)).heap.size (w.alloc (.cells Lib.zeros24 121)) w') :
    Calls P 67 #[.int .u64 u, .int .i64 10] w fun e w' => e = .returned (.string ⟨(Lib.decDigits u).toArray⟩) ∧ Below w.heap.size w w' := by
  have mixed := L.mixed
  have t3 : P.underlying 3 = _ := L.t3
  have a3 := L.a3; have z3 := L.z3; have v3 := L.v3
  have t9 : P.underlying 9 = _ := L.t9
  have a9 := L.a9; have z9 := L.z9; have v9 := L.v9
  have t4 : P.underlying 4 = _ := L.t4
  have a4 := L.a4; have z4 := L.z4; have v4 := L.v4
  have t121 : P.underlying 121 = _ := L.t171
  have a121 := L.a171; have z121 := L.z171; have v121 := L.v171
  have t0 := L.t0; have a0 := L.a0; have z0 := L.z0; have v0 := L.v0
  have t31 : P.underlying 31 = _ := L.t53
  have a31 := L.a53; have z31 := L.z53; have v31 := L.v53
  have t93 : P.underlying 93 = _ := L.t37
  have a93 := L.a37; have z93 := L.z37; have v93 := L.v37
  have t5 : P.underlying 5 = _ := L.t5
  have a5 := L.a5; have z5 := L.z5; have v5 := L.v5
  have t124 : P.underlying 124 = _ := L.t173
  have a124 := L.a173; have z124 := L.z173; have v124 := L.v173
  simp only [Tryd.laysM246_ren] at a3 z3 v3 a9 z9 v9 a4 z4 v4 a121 z121 v121 t0 a0 z0 v0 a31 z31 v31 a93 z93 v93 a5 z5 v5 a124 z124 v124 t3 t9 t4 t121 t31 t93 t5 t124
  have e86 : ∀ args w, (callFunc 86 args).run P w = .ok (.enter 86 args) w := enters_of L.f284 (by kernel_rfl) rfl
  have e87 : ∀ args w, (callFunc 87 args).run P w = .ok (.enter 87 args) w := enters_of L.f285 (by kernel_rfl) rfl
  have hu1 : 1 ≤ u := by omega
  have hnd20 : Lib.nDigits u ≤ 20 := by have := Lib.numDigits_eq u hu1 hu64; split at this <;> omega
  have hal : P.arrayLen 121 = 24 := by simp [Program.arrayLen, t121]
  have hsl : ∀ W, (Instr.sliceAt 121 (.pointer (some ⟨w.heap.size, 0, none⟩)) none (some (.int .i64 (Lib.nDigits u : Int))) none).run P W = .ok (.slice (some ⟨w.heap.size, 0, none⟩) (Lib.nDigits u) 24) W := fun W => by
    rw [run_sliceAt_array_h W 121 ⟨w.heap.size, 0, none⟩ (by simp [Program.arrayLen, Program.elem, t121]) .i64 (Lib.nDigits u : Int) (by omega) (by rw [hal]; omega)]
    go_simp
  have hH0 := Lib.holds_zero0 w 121 (Lib.nDigits u) (by omega)
  have hsz : (w.alloc (.cells Lib.zeros24 121)).heap.size = w.heap.size + 1 := by show (w.heap.push _).size = _; rw [Array.size_push]
  have hH1 : ∀ W1 : World, Below (w.alloc (.cells Lib.zeros24 121)).heap.size (w.alloc (.cells Lib.zeros24 121)) W1 → Holds (fun (b : UInt8) => Value.int .u8 (b.toNat : Int)) W1 w.heap.size 0 (Array.replicate (Lib.nDigits u) (0 : UInt8)) := fun W1 hb j hj => by
    rw [hb.cell (by rw [hsz]; exact Nat.lt_succ_self _), hb.frozen (by rw [hsz]; exact Nat.lt_succ_self _)]
    exact hH0 j hj
  have hfmt : ∀ W1 : World, Below (w.alloc (.cells Lib.zeros24 121)).heap.size (w.alloc (.cells Lib.zeros24 121)) W1 → Calls P 87 #[.slice (some ⟨w.heap.size, 0, none⟩) (Lib.nDigits u) 24, .int .u64 u] W1 fun e w' =>
      e = .returned (.tuple #[]) ∧ ∃ (n v' : Nat) (dk : Array UInt8), w' = (putRow (fun (b : UInt8) => Value.int .u8 (b.toNat : Int)) W1 w.heap.size 0 dk).drewN n ∧ FmtInv (Lib.nDigits u) u 0 v' dk := fun W1 hb => by
    have h := Any.internal_strconv_formatBase10 (ρ := Tryd.laysM246_ren) { L with } w.heap.size 0 24 u (Array.replicate (Lib.nDigits u) 0) W1 (hH1 W1 hb) (by rw [Array.size_replicate]; exact Lib.lt_pow_nDigits u) hu64 (by rw [Array.size_replicate]; omega)
    rw [Array.size_replicate] at h
    exact h
  have HH1 := Lib.hid hH1
  have iu : (100 : Int) ≤ (u : Int) := by omega
  clear hH0 hH1 hal hsz
  go_enter hF, Tryd.ntmps67
  go_wp2_with (first
    | (go_at_fn 86; refine hnum.mono ?_; rintro e W1 ⟨rfl, hb1⟩))
  go_at_fn 87
  refine (hfmt _ hb1).mono ?_
  rintro e w' ⟨rfl, k, v', dk, rfl, hF⟩
  have hcv : (convert 93 9 (.slice (some ⟨w.heap.size, 0, none⟩) (Lib.nDigits u) 24)).run P ((putRow (fun (b : UInt8) => Value.int .u8 (b.toNat : Int)) W1 w.heap.size 0 dk).drewN k) = .ok (.string ⟨(Lib.decDigits u).toArray⟩) ((putRow (fun (b : UInt8) => Value.int .u8 (b.toNat : Int)) W1 w.heap.size 0 dk).drewN k) := by
    have h := run_convert_bytes_back (P := P) ((putRow (fun (b : UInt8) => Value.int .u8 (b.toNat : Int)) W1 w.heap.size 0 dk).drewN k) 93 9 5 ⟨w.heap.size, 0, none⟩ 24 (Lib.decDigits u) t93 t5 t9 (fun j hj => by
      rw [Lib.row_is_numeral hF j hj, Lib.add_plain, World.cell?_drewN]
      exact cell?_putRow (fun (b : UInt8) => Value.int .u8 (b.toNat : Int)) _ w.heap.size 0 _ dk (HH1.out _ hb1) (by rw [hF.size, Array.size_replicate]) j (by rw [hF.size]; rw [Lib.decDigits_length] at hj; exact hj))
    rw [Lib.decDigits_length] at h
    exact h
  go_wp2
  go_ret
  refine ⟨rfl, ?_⟩
  have hsz : (w.alloc (.cells Lib.zeros24 121)).heap.size = w.heap.size + 1 := by show (w.heap.push _).size = _; rw [Array.size_push]
  have h1 : Below w.heap.size w W1 := ((Below.refl _ _).alloc (Nat.le_refl _) _).trans (hb1.mono (by rw [hsz]; omega))
  exact below_drewN (below_putRow0 h1) k

set_option maxRecDepth 100000 in
theorem Any.formatUint_small (L : LaysM.n246 P Tryd.laysM246_ren) (hF : P.funcs[67]? = some Tryd.f67) (u : Nat) (h1 : u < 100) (w : World) :
    Calls P 67 #[.int .u64 u, .int .i64 10] w fun e w' => e = .returned (.string ⟨(Lib.decDigits u).toArray⟩) ∧ w' = w := by
  have mixed := L.mixed
  have t3 : P.underlying 3 = _ := L.t3
  have a3 := L.a3; have z3 := L.z3; have v3 := L.v3
  have t9 : P.underlying 9 = _ := L.t9
  have a9 := L.a9; have z9 := L.z9; have v9 := L.v9
  have t4 : P.underlying 4 = _ := L.t4
  have a4 := L.a4; have z4 := L.z4; have v4 := L.v4
  have t31 : P.underlying 31 = _ := L.t53
  have a31 := L.a53; have z31 := L.z53; have v31 := L.v53
  simp only [Tryd.laysM246_ren] at a3 z3 v3 a9 z9 v9 a4 z4 v4 a31 z31 v31 t3 t9 t4 t31
  have e85 : ∀ args w, (callFunc 85 args).run P w = .ok (.enter 85 args) w := enters_of L.f283 (by kernel_rfl) rfl
  have hsm : ∀ W, Calls P 85 #[.int .i64 u] W fun e w' => e = .returned (.string ⟨(Lib.decDigits u).toArray⟩) ∧ w' = W := fun W => Any.internal_strconv_small (ρ := Tryd.laysM246_ren) { L with } u h1 W
  have iu : (u : Int) < 100 := by omega
  have hw : IntKind.i64.wrap (u : Int) = (u : Int) := IntWalk.i64_in (u : Int) (by omega)
  go_enter hF, Tryd.ntmps67
  go_wp2_with (go_at_fn 85; refine (hsm _).mono ?_; rintro e w' ⟨rfl, rfl⟩)
  go_ret
  exact ⟨rfl, rfl⟩
end Go.Proofs

/- strconv.FormatUint at base 10. -/
set_option linter.unusedVariables false
set_option linter.unusedSimpArgs false
namespace Go.AE
open Go.Proofs Go.RowKit

theorem ACalls.back {P : Program} {f : FuncId} {args : List AV} {R : AEnd → St → Prop} (h : ACalls P f args [] R) {V : View} {vs : List Value} (hg : GOK V) (ha : closedAll args = true) (hv : CRs V args vs) :
    Calls P f vs.toArray V.w fun e w' => Go.RowKit.Below V.w.heap.size V.w w' ∧ ∃ ae s V1, R ae s ∧ V1.w = w' ∧ EndR V1 ae e := by
  let V0 : View := { V with n := 0 }
  have hH0 : HInv V0 [] := ⟨rfl, fun i cs h => by simp at h, fun i h => by simp [V0] at h, fun i j h => by simp [V0] at h, GOK_closed (V := V) (V' := V0) rfl rfl hg⟩
  refine (h V0 vs hH0 (CRs_closed (V := V) (V' := V0) rfl rfl _ _ ha hv)).mono fun e w' ⟨ae, V1, s, hR, hw, _, gr, hE⟩ => ⟨?_, ae, s, V1, hR, hw, hE⟩
  rw [← hw]
  exact ⟨gr.os, gr.tape, gr.output, gr.le.size, fun b hb => gr.blk b hb fun i hi => by simp [V0] at hi⟩

theorem numDigits_calls {V : View} (hg : GOK V) (u : Nat) (h1 : 1 ≤ u) (h2 : u < 18446744073709551616) :
    Calls Tryd.prog 86 #[.int .u64 u] V.w fun e w' => e = .returned (.int .i64 (Lib.nDigits u)) ∧ Go.RowKit.Below V.w.heap.size V.w w' := by
  refine ((numDigits_walk u [] h1 h2).back (vs := [.int .u64 u]) hg rfl (by simp [CRs, CR])).mono fun e w' ⟨hb, ae, s, V1, ⟨_, hR⟩, _, hE⟩ => ⟨?_, hb⟩
  subst hR
  cases e <;> simp only [EndR, CR] at hE
  rw [hE]

theorem fmt67_walk (u : Nat) (h2 : u < 18446744073709551616) (σ : St) : ACalls Tryd.prog 67 [.int .u64 (u : Int), .int .i64 10] σ (fun e s => σ = s ∧ e = .ret (.str (Lib.decDigits u))) := by
  refine ACalls.of_below fun V vs hH hv => ?_
  simp only [CRs, CR] at hv
  obtain ⟨v, r, rfl, rfl, w, r2, rfl, rfl, rfl⟩ := hv
  have key : Calls Tryd.prog 67 #[.int .u64 (u : Int), .int .i64 10] V.w fun e w' => e = .returned (.string ⟨(Lib.decDigits u).toArray⟩) ∧ Below V.w.heap.size V.w w' := by
    rcases Nat.lt_or_ge u 100 with h | h
    · exact (Any.formatUint_small Tryd.laysM246 Tryd.func67 u h V.w).mono fun e w' ⟨h1, h3⟩ => ⟨h1, h3 ▸ Below.refl _ _⟩
    · refine Any.formatUint_big Tryd.laysM246 Tryd.func67 u h h2 V.w ?_
      have hV' : (V.grow (.cells Lib.zeros24 121) 0).w = V.w.alloc (.cells Lib.zeros24 121) := by simp [View.grow]
      have hn := numDigits_calls (V := V.grow (.cells Lib.zeros24 121) 0) (GOK_mono (Gr.grow V _ 0).le hH.gl) u (by omega) h2
      rw [hV'] at hn
      exact hn
  exact key.mono fun e w' ⟨h1, h3⟩ => ⟨h3, _, rfl, fun V' _ => by subst h1; simp [EndR, CR]⟩

end Go.AE

set_option linter.unusedVariables false
set_option linter.unusedSimpArgs false
set_option maxRecDepth 4000
namespace Go.AE
open Go.Proofs

theorem fmt53_walk (u : Nat) (σ : St) (h2 : u < 18446744073709551616) : ACalls Tryd.prog 53 [.int .u64 (u : Int), .int .i64 10] σ (fun e s => σ = s ∧ e = .ret (.str (Lib.decDigits u))) := by
  refine ACalls.enter hT Tryd.func53 rfl (by kernel_rfl) ?_
  refine ACode.seq ?_
  refine ACode.run hT (fun _ => false) [0, 1] (fr' := ⟨[(0, .int .u64 (u : Int)), (1, .int .i64 10)], [], [], [], 0⟩) (σ' := σ) (ob := True ∧ True) (by kernel_rfl) ⟨trivial, trivial⟩ ?_
  refine ACode.seq ?_
  refine ACode.region ?_
  refine AOps.runN hT (fun _ => false) 2 [5, 6] (fr' := ⟨[(5, .int .u64 (u : Int)), (6, .int .i64 10)], [], [], [], 0⟩) (σ' := σ) (ob := True ∧ True ∧ True) (by kernel_rfl) ⟨trivial, trivial, trivial⟩ ?_
  refine AOps.call (fid := 67) (cap := []) (avs := [.int .u64 (u : Int), .int .i64 10]) (by kernel_rfl) rfl (by kernel_rfl) (by kernel_rfl) en_67 (by kernel_rfl) (ACalls.mono (fmt67_walk u h2 _) ?_)
  rintro _ _ ⟨rfl, rfl⟩
  refine AOps.runN hT (fun _ => false) 1 [4] (fr' := ⟨[(4, .str (Lib.decDigits u))], [], [], [], 0⟩) (σ' := σ) (ob := True ∧ True) (by kernel_rfl) ⟨trivial, trivial⟩ ?_
  refine AOps.nil ?_
  refine ACode.ret ?_
  exact retQ.ret (.str (Lib.decDigits u)) (by kernel_rfl) ⟨rfl, rfl⟩

theorem fmtU_walk (n : Int) (h0 : 0 ≤ n) (h1 : n < 18446744073709551616) (σ : St) : ACalls Tryd.prog 53 [.int .u64 n, .int .i64 10] σ (fun e s => σ = s ∧ e = .ret (.str (Lib.decDigits n.toNat))) := by
  have h := fmt53_walk n.toNat σ (by omega)
  rwa [show ((n.toNat : Nat) : Int) = n by omega] at h

end Go.AE

/- The lexer's parts byte by byte. -/
set_option linter.unusedVariables false
set_option linter.unusedSimpArgs false
namespace Go.AE

theorem get_bang (s : List UInt8) (k : Nat) : (ByteArray.mk s.toArray).get! k = s.getD k 0 := by
  simp [ByteArray.get!, List.getD, Array.getElem!_eq_getD]
  rfl

theorem dec_cont (s : List UInt8) (i k : Nat) (h1 : 1 ≤ k) (h2 : k < (dec s i).2) : i + k < s.length ∧ 128 ≤ (s.getD (i + k) 0).toNat := by
  have hsz : (ByteArray.mk s.toArray).size = s.length := by simp [ByteArray.size]
  have one : ∀ j, (decide (i + j < (ByteArray.mk s.toArray).size) && ((ByteArray.mk s.toArray).get! (i + j)).toNat / 64 == 2) = true → i + j < s.length ∧ 128 ≤ (s.getD (i + j) 0).toNat := by
    intro j hj
    simp only [Bool.and_eq_true, decide_eq_true_eq, beq_iff_eq, hsz, get_bang] at hj
    refine ⟨hj.1, by omega⟩
  unfold dec Utf8.decode at h2
  dsimp only at h2
  split at h2
  · simp only at h2; omega
  · split at h2
    · rename_i hc
      simp only [Bool.and_eq_true] at hc
      split at h2
      · simp only at h2
        have : k = 1 := by omega
        subst this
        exact one 1 (by simpa using hc.2)
      · simp only at h2; omega
    · split at h2
      · rename_i hc
        simp only [Bool.and_eq_true] at hc
        split at h2
        · simp only at h2
          have : k = 1 ∨ k = 2 := by omega
          rcases this with rfl | rfl
          · exact one 1 (by simpa using hc.1.2)
          · exact one 2 (by simpa using hc.2)
        · simp only at h2; omega
      · split at h2
        · rename_i hc
          simp only [Bool.and_eq_true] at hc
          split at h2
          · simp only at h2
            have : k = 1 ∨ k = 2 ∨ k = 3 := by omega
            rcases this with rfl | rfl | rfl
            · exact one 1 (by simpa using hc.1.1.2)
            · exact one 2 (by simpa using hc.1.2)
            · exact one 3 (by simpa using hc.2)
          · simp only at h2; omega
        · simp only at h2; omega

theorem takeWhile_skip (p : UInt8 → Bool) (s : List UInt8) (i : Nat) : ∀ (n : Nat), (∀ k, k < n → i + k < s.length ∧ p (s.getD (i + k) 0) = true) → ((s.drop i).takeWhile p).length = n + ((s.drop (i + n)).takeWhile p).length
  | 0, _ => by simp
  | n + 1, h => by
    rw [takeWhile_skip p s i n fun k hk => h k (by omega)]
    obtain ⟨h1, h2⟩ := h n (by omega)
    have hd : s.drop (i + n) = s[i + n] :: s.drop (i + n + 1) := List.drop_eq_getElem_cons h1
    have e : s.getD (i + n) 0 = s[i + n] := by simp [List.getD, h1]
    rw [hd, List.takeWhile_cons, ← e, if_pos h2]
    simp only [List.length_cons, Nat.add_assoc]
    omega

theorem lineF_eq (s : List UInt8) (i : Nat) (h : i ≤ s.length) : runF (fun c => c != 10) s i = i + ((s.drop i).takeWhile (fun b => b != 10)).length := by
  rw [runF]
  split
  · rename_i hi
    have hw : 1 ≤ (dec s i).2 := dec_pos s i hi
    by_cases ha : (s.getD i 0).toNat < 128
    · have hd := dec_ascii s i hi ha
      have hdr : s.drop i = s[i] :: s.drop (i + 1) := List.drop_eq_getElem_cons hi
      have e : s.getD i 0 = s[i] := by simp [List.getD, hi]
      rw [hd]
      simp only
      by_cases h10 : s.getD i 0 = 10
      · rw [if_neg (by rw [h10]; decide), hdr, List.takeWhile_cons, ← e, h10]; simp
      · rw [if_pos (by simp only [bne_iff_ne, ne_eq]; intro h9; apply h10; apply UInt8.toNat_inj.1; have : (10 : UInt8).toNat = 10 := rfl; omega), Nat.max_self, lineF_eq s (i + 1) (by omega), hdr, List.takeWhile_cons, ← e, if_pos (by simpa using h10)]
        simp only [List.length_cons]; omega
    · have h1 := dec_high s i hi (by omega)
      have hb : ∀ k, k < (dec s i).2 → i + k < s.length ∧ (s.getD (i + k) 0 != 10) = true := by
        intro k hk
        have key : i + k < s.length ∧ 128 ≤ (s.getD (i + k) 0).toNat := by
          rcases Nat.eq_zero_or_pos k with rfl | h0
          · exact ⟨hi, by rw [Nat.add_zero]; omega⟩
          · exact dec_cont s i k h0 hk
        refine ⟨key.1, ?_⟩
        simp only [bne_iff_ne, ne_eq]
        intro h9
        rw [h9] at key
        have : (10 : UInt8).toNat = 10 := rfl
        omega
      have hle : i + (dec s i).2 ≤ s.length := by
        have := (hb ((dec s i).2 - 1) (by omega)).1
        omega
      rw [if_pos (by simp only [bne_iff_ne, ne_eq]; omega), Nat.max_eq_right hw, lineF_eq s _ hle, takeWhile_skip _ s i _ hb]
      omega
  · rw [List.drop_eq_nil_of_le (by omega)]; simp; omega
termination_by s.length - i

theorem runF_line (l : List UInt8) : runF (fun c => c != 10) l 0 = lineN l := by
  have := lineF_eq l 0 (Nat.zero_le _)
  simpa [lineN] using this

theorem nameF_all (s : List UInt8) (i : Nat) (h1 : 1 ≤ i) (h : i ≤ s.length) : nameF s i = (s.drop i).all wordB := by
  rw [nameF]
  split
  · rename_i hi
    have hdr : s.drop i = s[i] :: s.drop (i + 1) := List.drop_eq_getElem_cons hi
    have e : s.getD i 0 = s[i] := by simp [List.getD, hi]
    have h0 : ((i : Int) == 0) = false := by simp; omega
    by_cases ha : (s.getD i 0).toNat < 128
    · rw [dec_ascii s i hi ha]
      simp only [h0, Bool.false_or]
      rw [hdr, List.all_cons, ← e]
      by_cases hw : wordB (s.getD i 0) = true
      · rw [if_neg, Nat.max_self, nameF_all s (i + 1) (by omega) (by omega), hw, Bool.true_and]
        simp only [wordB, letterB, digitB, Bool.or_eq_true] at hw
        rcases hw with hw | hw <;> rw [hw] <;> simp
      · have hw' := Bool.eq_false_iff.2 hw
        rw [if_pos, hw', Bool.false_and]
        simp only [wordB, letterB, digitB, Bool.or_eq_false_iff] at hw'
        rw [hw'.1, hw'.2]; rfl
    · have h1 := dec_high s i hi (by omega)
      have hl : letterS ((dec s i).1 : Int) = false := Bool.eq_false_iff.2 fun h9 => by have := letterS_lt h9; omega
      have hd : digitS ((dec s i).1 : Int) = false := Bool.eq_false_iff.2 fun h9 => by have := digitS_lt h9; omega
      have hw : wordB (s.getD i 0) = false := Bool.eq_false_iff.2 fun h9 => by have := wordB_lt h9; omega
      rw [if_pos (by simp [hl, hd]), hdr, List.all_cons, ← e, hw, Bool.false_and]
  · rw [List.drop_eq_nil_of_le (by omega)]; rfl
termination_by s.length - i

theorem nameF_eq (s : List UInt8) : nameF s 0 = nameC s := by
  rw [nameF]
  cases s with
  | nil => rfl
  | cons b r =>
    rw [dif_pos (by simp)]
    simp only [nameC]
    by_cases ha : b.toNat < 128
    · rw [dec_ascii _ _ (by simp) (by simpa using ha)]
      simp only [List.getD_cons_zero]
      by_cases hl : letterB b = true
      · rw [if_neg (by simp only [letterB] at hl; simp [hl]), Nat.max_self, nameF_all _ _ (by omega) (by simp), hl, Bool.true_and]
        simp
      · have hl' := Bool.eq_false_iff.2 hl
        rw [if_pos (by simp only [letterB] at hl'; simp [hl']), hl', Bool.false_and]
    · have h1 := dec_high (b :: r) 0 (by simp) (by simpa using Nat.le_of_not_lt ha)
      have hl : letterS ((dec (b :: r) 0).1 : Int) = false := Bool.eq_false_iff.2 fun h9 => by have := letterS_lt h9; omega
      have hb : letterB b = false := Bool.eq_false_iff.2 fun h9 => by have := letterS_lt (c := (b.toNat : Int)) h9; omega
      rw [if_pos (by simp [hl]), hb, Bool.false_and]


end Go.AE

