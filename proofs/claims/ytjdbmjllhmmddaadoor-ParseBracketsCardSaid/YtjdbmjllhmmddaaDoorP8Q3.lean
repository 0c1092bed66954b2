/- Parts of the proof of a law, in build order: W1, LexP, ParS, P1, P2. -/
import Derived.Test.YtjdbmjllhmmddaaDoorP8Q2
import Derived.IntWalk
set_option maxRecDepth 2000
set_option linter.unusedVariables false
set_option linter.unusedSimpArgs false
set_option linter.unusedVariables false
set_option linter.unusedSimpArgs false
set_option maxRecDepth 4000
namespace Go.AE
open Go.Proofs

theorem isPrefixOf_eq (a b : List UInt8) : (decide ((a.length : Int) ≥ (b.length : Int)) && (a.take b.length == b)) = b.isPrefixOf a := by
  rw [Bool.eq_iff_iff]
  simp only [Bool.and_eq_true, decide_eq_true_eq, beq_iff_eq, List.isPrefixOf_iff_prefix, List.prefix_iff_eq_take]
  constructor
  ·rintro ⟨_, h⟩; exact h.symm
  ·intro h; refine ⟨?_, h.symm⟩; have := congrArg List.length h; simp at this; omega

theorem en_3 : Enters Tryd.prog 3 := enters_of Tryd.func3 (by kernel_rfl) rfl
theorem en_4 : Enters Tryd.prog 4 := enters_of Tryd.func4 (by kernel_rfl) rfl
theorem en_5 : Enters Tryd.prog 5 := enters_of Tryd.func5 (by kernel_rfl) rfl
theorem en_6 : Enters Tryd.prog 6 := enters_of Tryd.func6 (by kernel_rfl) rfl
theorem en_7 : Enters Tryd.prog 7 := enters_of Tryd.func7 (by kernel_rfl) rfl
theorem en_8 : Enters Tryd.prog 8 := enters_of Tryd.func8 (by kernel_rfl) rfl
theorem en_9 : Enters Tryd.prog 9 := enters_of Tryd.func9 (by kernel_rfl) rfl
theorem en_10 : Enters Tryd.prog 10 := enters_of Tryd.func10 (by kernel_rfl) rfl
theorem en_11 : Enters Tryd.prog 11 := enters_of Tryd.func11 (by kernel_rfl) rfl
theorem en_12 : Enters Tryd.prog 12 := enters_of Tryd.func12 (by kernel_rfl) rfl
theorem en_13 : Enters Tryd.prog 13 := enters_of Tryd.func13 (by kernel_rfl) rfl
theorem en_14 : Enters Tryd.prog 14 := enters_of Tryd.func14 (by kernel_rfl) rfl
theorem en_15 : Enters Tryd.prog 15 := enters_of Tryd.func15 (by kernel_rfl) rfl
theorem en_16 : Enters Tryd.prog 16 := enters_of Tryd.func16 (by kernel_rfl) rfl
theorem en_17 : Enters Tryd.prog 17 := enters_of Tryd.func17 (by kernel_rfl) rfl
theorem en_18 : Enters Tryd.prog 18 := enters_of Tryd.func18 (by kernel_rfl) rfl
theorem en_19 : Enters Tryd.prog 19 := enters_of Tryd.func19 (by kernel_rfl) rfl
theorem en_20 : Enters Tryd.prog 20 := enters_of Tryd.func20 (by kernel_rfl) rfl
theorem en_21 : Enters Tryd.prog 21 := enters_of Tryd.func21 (by kernel_rfl) rfl
theorem en_22 : Enters Tryd.prog 22 := enters_of Tryd.func22 (by kernel_rfl) rfl
theorem en_23 : Enters Tryd.prog 23 := enters_of Tryd.func23 (by kernel_rfl) rfl
theorem en_24 : Enters Tryd.prog 24 := enters_of Tryd.func24 (by kernel_rfl) rfl
theorem en_25 : Enters Tryd.prog 25 := enters_of Tryd.func25 (by kernel_rfl) rfl
theorem en_26 : Enters Tryd.prog 26 := enters_of Tryd.func26 (by kernel_rfl) rfl
theorem en_27 : Enters Tryd.prog 27 := enters_of Tryd.func27 (by kernel_rfl) rfl
theorem en_28 : Enters Tryd.prog 28 := enters_of Tryd.func28 (by kernel_rfl) rfl
theorem en_29 : Enters Tryd.prog 29 := enters_of Tryd.func29 (by kernel_rfl) rfl
theorem en_30 : Enters Tryd.prog 30 := enters_of Tryd.func30 (by kernel_rfl) rfl
theorem en_31 : Enters Tryd.prog 31 := enters_of Tryd.func31 (by kernel_rfl) rfl
theorem en_32 : Enters Tryd.prog 32 := enters_of Tryd.func32 (by kernel_rfl) rfl
theorem en_33 : Enters Tryd.prog 33 := enters_of Tryd.func33 (by kernel_rfl) rfl
theorem en_34 : Enters Tryd.prog 34 := enters_of Tryd.func34 (by kernel_rfl) rfl
theorem en_35 : Enters Tryd.prog 35 := enters_of Tryd.func35 (by kernel_rfl) rfl
theorem en_36 : Enters Tryd.prog 36 := enters_of Tryd.func36 (by kernel_rfl) rfl
theorem en_37 : Enters Tryd.prog 37 := enters_of Tryd.func37 (by kernel_rfl) rfl
theorem en_38 : Enters Tryd.prog 38 := enters_of Tryd.func38 (by kernel_rfl) rfl
theorem en_39 : Enters Tryd.prog 39 := enters_of Tryd.func39 (by kernel_rfl) rfl
theorem en_40 : Enters Tryd.prog 40 := enters_of Tryd.func40 (by kernel_rfl) rfl
theorem en_41 : Enters Tryd.prog 41 := enters_of Tryd.func41 (by kernel_rfl) rfl
theorem en_42 : Enters Tryd.prog 42 := enters_of Tryd.func42 (by kernel_rfl) rfl
theorem en_43 : Enters Tryd.prog 43 := enters_of Tryd.func43 (by kernel_rfl) rfl
theorem en_44 : Enters Tryd.prog 44 := enters_of Tryd.func44 (by kernel_rfl) rfl
theorem en_45 : Enters Tryd.prog 45 := enters_of Tryd.func45 (by kernel_rfl) rfl
theorem en_46 : Enters Tryd.prog 46 := enters_of Tryd.func46 (by kernel_rfl) rfl
theorem en_47 : Enters Tryd.prog 47 := enters_of Tryd.func47 (by kernel_rfl) rfl
theorem en_48 : Enters Tryd.prog 48 := enters_of Tryd.func48 (by kernel_rfl) rfl
theorem en_49 : Enters Tryd.prog 49 := enters_of Tryd.func49 (by kernel_rfl) rfl
theorem en_50 : Enters Tryd.prog 50 := enters_of Tryd.func50 (by kernel_rfl) rfl
theorem en_51 : Enters Tryd.prog 51 := enters_of Tryd.func51 (by kernel_rfl) rfl
theorem en_52 : Enters Tryd.prog 52 := enters_of Tryd.func52 (by kernel_rfl) rfl
theorem en_53 : Enters Tryd.prog 53 := enters_of Tryd.func53 (by kernel_rfl) rfl
theorem en_54 : Enters Tryd.prog 54 := enters_of Tryd.func54 (by kernel_rfl) rfl
theorem en_55 : Enters Tryd.prog 55 := enters_of Tryd.func55 (by kernel_rfl) rfl
theorem en_56 : Enters Tryd.prog 56 := enters_of Tryd.func56 (by kernel_rfl) rfl
theorem en_57 : Enters Tryd.prog 57 := enters_of Tryd.func57 (by kernel_rfl) rfl
theorem en_58 : Enters Tryd.prog 58 := enters_of Tryd.func58 (by kernel_rfl) rfl
theorem en_59 : Enters Tryd.prog 59 := enters_of Tryd.func59 (by kernel_rfl) rfl
theorem en_60 : Enters Tryd.prog 60 := enters_of Tryd.func60 (by kernel_rfl) rfl
theorem en_62 : Enters Tryd.prog 62 := enters_of Tryd.func62 (by kernel_rfl) rfl
theorem en_63 : Enters Tryd.prog 63 := enters_of Tryd.func63 (by kernel_rfl) rfl
theorem en_65 : Enters Tryd.prog 65 := enters_of Tryd.func65 (by kernel_rfl) rfl
theorem en_66 : Enters Tryd.prog 66 := enters_of Tryd.func66 (by kernel_rfl) rfl
theorem en_67 : Enters Tryd.prog 67 := enters_of Tryd.func67 (by kernel_rfl) rfl
theorem en_68 : Enters Tryd.prog 68 := enters_of Tryd.func68 (by kernel_rfl) rfl
theorem en_69 : Enters Tryd.prog 69 := enters_of Tryd.func69 (by kernel_rfl) rfl
theorem en_70 : Enters Tryd.prog 70 := enters_of Tryd.func70 (by kernel_rfl) rfl
theorem en_71 : Enters Tryd.prog 71 := enters_of Tryd.func71 (by kernel_rfl) rfl
theorem en_72 : Enters Tryd.prog 72 := enters_of Tryd.func72 (by kernel_rfl) rfl
theorem en_73 : Enters Tryd.prog 73 := enters_of Tryd.func73 (by kernel_rfl) rfl
theorem en_74 : Enters Tryd.prog 74 := enters_of Tryd.func74 (by kernel_rfl) rfl
theorem en_75 : Enters Tryd.prog 75 := enters_of Tryd.func75 (by kernel_rfl) rfl
theorem en_76 : Enters Tryd.prog 76 := enters_of Tryd.func76 (by kernel_rfl) rfl
theorem en_77 : Enters Tryd.prog 77 := enters_of Tryd.func77 (by kernel_rfl) rfl
theorem en_78 : Enters Tryd.prog 78 := enters_of Tryd.func78 (by kernel_rfl) rfl
theorem en_79 : Enters Tryd.prog 79 := enters_of Tryd.func79 (by kernel_rfl) rfl
theorem en_80 : Enters Tryd.prog 80 := enters_of Tryd.func80 (by kernel_rfl) rfl
theorem en_81 : Enters Tryd.prog 81 := enters_of Tryd.func81 (by kernel_rfl) rfl
theorem en_82 : Enters Tryd.prog 82 := enters_of Tryd.func82 (by kernel_rfl) rfl
theorem en_83 : Enters Tryd.prog 83 := enters_of Tryd.func83 (by kernel_rfl) rfl
theorem en_84 : Enters Tryd.prog 84 := enters_of Tryd.func84 (by kernel_rfl) rfl
theorem en_85 : Enters Tryd.prog 85 := enters_of Tryd.func85 (by kernel_rfl) rfl
theorem en_86 : Enters Tryd.prog 86 := enters_of Tryd.func86 (by kernel_rfl) rfl
theorem en_87 : Enters Tryd.prog 87 := enters_of Tryd.func87 (by kernel_rfl) rfl
theorem en_88 : Enters Tryd.prog 88 := enters_of Tryd.func88 (by kernel_rfl) rfl
theorem en_89 : Enters Tryd.prog 89 := enters_of Tryd.func89 (by kernel_rfl) rfl
theorem en_90 : Enters Tryd.prog 90 := enters_of Tryd.func90 (by kernel_rfl) rfl
theorem en_91 : Enters Tryd.prog 91 := enters_of Tryd.func91 (by kernel_rfl) rfl
theorem en_92 : Enters Tryd.prog 92 := enters_of Tryd.func92 (by kernel_rfl) rfl
theorem en_93 : Enters Tryd.prog 93 := enters_of Tryd.func93 (by kernel_rfl) rfl
theorem en_94 : Enters Tryd.prog 94 := enters_of Tryd.func94 (by kernel_rfl) rfl
theorem en_95 : Enters Tryd.prog 95 := enters_of Tryd.func95 (by kernel_rfl) rfl
theorem en_96 : Enters Tryd.prog 96 := enters_of Tryd.func96 (by kernel_rfl) rfl
theorem en_97 : Enters Tryd.prog 97 := enters_of Tryd.func97 (by kernel_rfl) rfl
theorem en_98 : Enters Tryd.prog 98 := enters_of Tryd.func98 (by kernel_rfl) rfl
theorem en_99 : Enters Tryd.prog 99 := enters_of Tryd.func99 (by kernel_rfl) rfl
theorem en_100 : Enters Tryd.prog 100 := enters_of Tryd.func100 (by kernel_rfl) rfl
theorem en_101 : Enters Tryd.prog 101 := enters_of Tryd.func101 (by kernel_rfl) rfl
theorem en_102 : Enters Tryd.prog 102 := enters_of Tryd.func102 (by kernel_rfl) rfl
theorem en_103 : Enters Tryd.prog 103 := enters_of Tryd.func103 (by kernel_rfl) rfl
theorem en_104 : Enters Tryd.prog 104 := enters_of Tryd.func104 (by kernel_rfl) rfl
theorem en_105 : Enters Tryd.prog 105 := enters_of Tryd.func105 (by kernel_rfl) rfl
theorem en_106 : Enters Tryd.prog 106 := enters_of Tryd.func106 (by kernel_rfl) rfl
theorem en_107 : Enters Tryd.prog 107 := enters_of Tryd.func107 (by kernel_rfl) rfl
theorem en_108 : Enters Tryd.prog 108 := enters_of Tryd.func108 (by kernel_rfl) rfl
theorem en_109 : Enters Tryd.prog 109 := enters_of Tryd.func109 (by kernel_rfl) rfl
theorem en_110 : Enters Tryd.prog 110 := enters_of Tryd.func110 (by kernel_rfl) rfl

theorem letter_walk (c : Int) (σ : St)  : ACalls Tryd.prog 20 [.int .i32 c] σ (fun e s => σ = s ∧ e = .ret (.bool (letterS c))) := by
  refine ACalls.enter hT Tryd.func20 rfl (by kernel_rfl) ?_
  refine ACode.seq ?_
  refine ACode.run hT nh [0] (fr' := ⟨[(0, .int .i32 c)], [], [], [], 0⟩) (σ' := σ) (ob := Tt 2) (by kernel_rfl) (tt 2) ?_
  refine ACode.seq ?_
  refine ACode.meet ⟨[(2, .bool ((c == 95) || (bif decide (c ≥ 97) then (decide (c ≤ 122)) || ((decide (c ≥ 65)) && (decide (c ≤ 90))) else (decide (c ≥ 65)) && (decide (c ≤ 90)))))], [], [], [], 0⟩ σ (ACode.region ?_) ?_
  ·
   refine AOps.runN hT nh 3 [0, 5] (fr' := ⟨[(0, .int .i32 c), (5, .bool (c == 95))], [], [], [], 0⟩) (σ' := σ) (ob := Tt 4) (by kernel_rfl) (tt 4) ?_
   cases h1 : (c == 95)
   ·
    have h1k := ne_of_beq_false h1
    refine AOps.runN hT nh 3 [0, 5, 8] (fr' := ⟨[(0, .int .i32 c), (5, .bool false), (8, .bool (decide (c ≥ 97)))], [], [], [], 0⟩) (σ' := σ) (ob := Tt 4) (by kernel_rfl) (tt 4) ?_
    cases h2 : (decide (c ≥ 97))
    ·
     have h2k := of_decide_eq_false h2
     refine AOps.runN hT nh 8 [0, 13, 16] (fr' := ⟨[(0, .int .i32 c), (13, .bool false), (16, .bool (decide (c ≥ 65)))], [], [], [], 0⟩) (σ' := σ) (ob := Tt 7) (by kernel_rfl) (tt 7) ?_
     cases h3 : (decide (c ≥ 65))
     ·
      have h3k := of_decide_eq_false h3
      refine AOps.runN hT nh 5 [2] (fr' := ⟨[(2, .bool false)], [], [], [], 0⟩) (σ' := σ) (ob := Tt 4) (by kernel_rfl) (tt 4) ?_
      refine AOps.weak [2] (AOps.nil ⟨rfl, rfl⟩)
     ·
      have h3k := of_decide_eq_true h3
      refine AOps.runN hT nh 5 [2] (fr' := ⟨[(2, .bool (decide (c ≤ 90)))], [], [], [], 0⟩) (σ' := σ) (ob := Tt 6) (by kernel_rfl) (tt 6) ?_
      refine AOps.weak [2] (AOps.nil ⟨rfl, rfl⟩)
    ·
     have h2k := of_decide_eq_true h2
     refine AOps.runN hT nh 5 [0, 13] (fr' := ⟨[(0, .int .i32 c), (13, .bool (decide (c ≤ 122)))], [], [], [], 0⟩) (σ' := σ) (ob := Tt 6) (by kernel_rfl) (tt 6) ?_
     cases h4 : (decide (c ≤ 122))
     ·
      have h4k := of_decide_eq_false h4
      refine AOps.runN hT nh 3 [0, 13, 16] (fr' := ⟨[(0, .int .i32 c), (13, .bool false), (16, .bool (decide (c ≥ 65)))], [], [], [], 0⟩) (σ' := σ) (ob := Tt 4) (by kernel_rfl) (tt 4) ?_
      cases h5 : (decide (c ≥ 65))
      ·
       have h5k := of_decide_eq_false h5
       refine AOps.runN hT nh 5 [2] (fr' := ⟨[(2, .bool false)], [], [], [], 0⟩) (σ' := σ) (ob := Tt 4) (by kernel_rfl) (tt 4) ?_
       refine AOps.weak [2] (AOps.nil ⟨rfl, rfl⟩)
      ·
       have h5k := of_decide_eq_true h5
       refine AOps.runN hT nh 5 [2] (fr' := ⟨[(2, .bool (decide (c ≤ 90)))], [], [], [], 0⟩) (σ' := σ) (ob := Tt 6) (by kernel_rfl) (tt 6) ?_
       refine AOps.weak [2] (AOps.nil ⟨rfl, rfl⟩)
     ·
      have h4k := of_decide_eq_true h4
      refine AOps.runN hT nh 8 [2] (fr' := ⟨[(2, .bool true)], [], [], [], 0⟩) (σ' := σ) (ob := Tt 3) (by kernel_rfl) (tt 3) ?_
      refine AOps.weak [2] (AOps.nil ⟨rfl, rfl⟩)
   ·
    have h1k := eq_of_beq h1
    refine AOps.runN hT nh 16 [2] (fr' := ⟨[(2, .bool true)], [], [], [], 0⟩) (σ' := σ) (ob := Tt 5) (by kernel_rfl) (tt 5) ?_
    refine AOps.weak [2] (AOps.nil ⟨rfl, rfl⟩)
  refine ACode.ret ?_
  refine retQ.ret (.bool ((c == 95) || (bif decide (c ≥ 97) then (decide (c ≤ 122)) || ((decide (c ≥ 65)) && (decide (c ≤ 90))) else (decide (c ≥ 65)) && (decide (c ≤ 90))))) (by kernel_rfl) ?_
  refine ⟨rfl, ?_⟩
  simp only [letterS]; cases c == 95 <;> cases decide (c ≥ 97) <;> cases decide (c ≤ 122) <;> rfl
theorem digit_walk (c : Int) (σ : St)  : ACalls Tryd.prog 21 [.int .i32 c] σ (fun e s => σ = s ∧ e = .ret (.bool (digitS c))) := by
  refine ACalls.enter hT Tryd.func21 rfl (by kernel_rfl) ?_
  refine ACode.seq ?_
  refine ACode.run hT nh [0] (fr' := ⟨[(0, .int .i32 c)], [], [], [], 0⟩) (σ' := σ) (ob := Tt 2) (by kernel_rfl) (tt 2) ?_
  refine ACode.seq ?_
  refine ACode.meet ⟨[(2, .bool ((decide (c ≥ 48)) && (decide (c ≤ 57))))], [], [], [], 0⟩ σ (ACode.region ?_) ?_
  ·
   refine AOps.runN hT nh 3 [0, 5] (fr' := ⟨[(0, .int .i32 c), (5, .bool (decide (c ≥ 48)))], [], [], [], 0⟩) (σ' := σ) (ob := Tt 4) (by kernel_rfl) (tt 4) ?_
   cases h1 : (decide (c ≥ 48))
   ·
    have h1k := of_decide_eq_false h1
    refine AOps.runN hT nh 4 [2] (fr' := ⟨[(2, .bool false)], [], [], [], 0⟩) (σ' := σ) (ob := Tt 3) (by kernel_rfl) (tt 3) ?_
    refine AOps.weak [2] (AOps.nil ⟨rfl, rfl⟩)
   ·
    have h1k := of_decide_eq_true h1
    refine AOps.runN hT nh 4 [2] (fr' := ⟨[(2, .bool (decide (c ≤ 57)))], [], [], [], 0⟩) (σ' := σ) (ob := Tt 5) (by kernel_rfl) (tt 5) ?_
    refine AOps.weak [2] (AOps.nil ⟨rfl, rfl⟩)
  refine ACode.ret ?_
  exact retQ.ret (.bool ((decide (c ≥ 48)) && (decide (c ≤ 57)))) (by kernel_rfl) ⟨rfl, rfl⟩
theorem Letter_walk (c : Int) (σ : St)  : ACalls Tryd.prog 23 [.int .u8 c] σ (fun e s => σ = s ∧ e = .ret (.bool (letterS c))) := by
  refine ACalls.enter hT Tryd.func23 rfl (by kernel_rfl) ?_
  refine ACode.seq ?_
  refine ACode.run hT nh [0] (fr' := ⟨[(0, .int .u8 c)], [], [], [], 0⟩) (σ' := σ) (ob := Tt 2) (by kernel_rfl) (tt 2) ?_
  refine ACode.seq ?_
  refine ACode.meet ⟨[(2, .bool (bif decide (c ≥ 97) then (decide (c ≤ 122)) || (bif decide (c ≥ 65) then (decide (c ≤ 90)) || (c == 95) else c == 95) else bif decide (c ≥ 65) then (decide (c ≤ 90)) || (c == 95) else c == 95))], [], [], [], 0⟩ σ (ACode.region ?_) ?_
  ·
   refine AOps.runN hT nh 3 [0, 5] (fr' := ⟨[(0, .int .u8 c), (5, .bool (decide (c ≥ 97)))], [], [], [], 0⟩) (σ' := σ) (ob := Tt 4) (by kernel_rfl) (tt 4) ?_
   cases h1 : (decide (c ≥ 97))
   ·
    have h1k := of_decide_eq_false h1
    refine AOps.runN hT nh 7 [0, 9, 12] (fr' := ⟨[(0, .int .u8 c), (9, .bool false), (12, .bool (decide (c ≥ 65)))], [], [], [], 0⟩) (σ' := σ) (ob := Tt 6) (by kernel_rfl) (tt 6) ?_
    cases h2 : (decide (c ≥ 65))
    ·
     have h2k := of_decide_eq_false h2
     refine AOps.runN hT nh 9 [2] (fr' := ⟨[(2, .bool (c == 95))], [], [], [], 0⟩) (σ' := σ) (ob := Tt 8) (by kernel_rfl) (tt 8) ?_
     refine AOps.weak [2] (AOps.nil ⟨rfl, rfl⟩)
    ·
     have h2k := of_decide_eq_true h2
     refine AOps.runN hT nh 5 [0, 17] (fr' := ⟨[(0, .int .u8 c), (17, .bool (decide (c ≤ 90)))], [], [], [], 0⟩) (σ' := σ) (ob := Tt 6) (by kernel_rfl) (tt 6) ?_
     cases h3 : (decide (c ≤ 90))
     ·
      have h3k := of_decide_eq_false h3
      refine AOps.runN hT nh 4 [2] (fr' := ⟨[(2, .bool (c == 95))], [], [], [], 0⟩) (σ' := σ) (ob := Tt 5) (by kernel_rfl) (tt 5) ?_
      refine AOps.weak [2] (AOps.nil ⟨rfl, rfl⟩)
     ·
      have h3k := of_decide_eq_true h3
      refine AOps.runN hT nh 4 [2] (fr' := ⟨[(2, .bool true)], [], [], [], 0⟩) (σ' := σ) (ob := Tt 3) (by kernel_rfl) (tt 3) ?_
      refine AOps.weak [2] (AOps.nil ⟨rfl, rfl⟩)
   ·
    have h1k := of_decide_eq_true h1
    refine AOps.runN hT nh 4 [0, 9] (fr' := ⟨[(0, .int .u8 c), (9, .bool (decide (c ≤ 122)))], [], [], [], 0⟩) (σ' := σ) (ob := Tt 5) (by kernel_rfl) (tt 5) ?_
    cases h4 : (decide (c ≤ 122))
    ·
     have h4k := of_decide_eq_false h4
     refine AOps.runN hT nh 3 [0, 9, 12] (fr' := ⟨[(0, .int .u8 c), (9, .bool false), (12, .bool (decide (c ≥ 65)))], [], [], [], 0⟩) (σ' := σ) (ob := Tt 4) (by kernel_rfl) (tt 4) ?_
     cases h5 : (decide (c ≥ 65))
     ·
      have h5k := of_decide_eq_false h5
      refine AOps.runN hT nh 9 [2] (fr' := ⟨[(2, .bool (c == 95))], [], [], [], 0⟩) (σ' := σ) (ob := Tt 8) (by kernel_rfl) (tt 8) ?_
      refine AOps.weak [2] (AOps.nil ⟨rfl, rfl⟩)
     ·
      have h5k := of_decide_eq_true h5
      refine AOps.runN hT nh 5 [0, 17] (fr' := ⟨[(0, .int .u8 c), (17, .bool (decide (c ≤ 90)))], [], [], [], 0⟩) (σ' := σ) (ob := Tt 6) (by kernel_rfl) (tt 6) ?_
      cases h6 : (decide (c ≤ 90))
      ·
       have h6k := of_decide_eq_false h6
       refine AOps.runN hT nh 4 [2] (fr' := ⟨[(2, .bool (c == 95))], [], [], [], 0⟩) (σ' := σ) (ob := Tt 5) (by kernel_rfl) (tt 5) ?_
       refine AOps.weak [2] (AOps.nil ⟨rfl, rfl⟩)
      ·
       have h6k := of_decide_eq_true h6
       refine AOps.runN hT nh 4 [2] (fr' := ⟨[(2, .bool true)], [], [], [], 0⟩) (σ' := σ) (ob := Tt 3) (by kernel_rfl) (tt 3) ?_
       refine AOps.weak [2] (AOps.nil ⟨rfl, rfl⟩)
    ·
     have h4k := of_decide_eq_true h4
     refine AOps.runN hT nh 12 [2] (fr' := ⟨[(2, .bool true)], [], [], [], 0⟩) (σ' := σ) (ob := Tt 5) (by kernel_rfl) (tt 5) ?_
     refine AOps.weak [2] (AOps.nil ⟨rfl, rfl⟩)
  refine ACode.ret ?_
  refine retQ.ret (.bool (bif decide (c ≥ 97) then (decide (c ≤ 122)) || (bif decide (c ≥ 65) then (decide (c ≤ 90)) || (c == 95) else c == 95) else bif decide (c ≥ 65) then (decide (c ≤ 90)) || (c == 95) else c == 95)) (by kernel_rfl) ?_
  refine ⟨rfl, ?_⟩
  simp only [letterS]; cases c == 95 <;> cases decide (c ≥ 97) <;> cases decide (c ≤ 122) <;> cases decide (c ≥ 65) <;> cases decide (c ≤ 90) <;> rfl
theorem Digit_walk (c : Int) (σ : St)  : ACalls Tryd.prog 24 [.int .u8 c] σ (fun e s => σ = s ∧ e = .ret (.bool (digitS c))) := by
  refine ACalls.enter hT Tryd.func24 rfl (by kernel_rfl) ?_
  refine ACode.seq ?_
  refine ACode.run hT nh [0] (fr' := ⟨[(0, .int .u8 c)], [], [], [], 0⟩) (σ' := σ) (ob := Tt 2) (by kernel_rfl) (tt 2) ?_
  refine ACode.seq ?_
  refine ACode.meet ⟨[(2, .bool ((decide (c ≥ 48)) && (decide (c ≤ 57))))], [], [], [], 0⟩ σ (ACode.region ?_) ?_
  ·
   refine AOps.runN hT nh 3 [0, 5] (fr' := ⟨[(0, .int .u8 c), (5, .bool (decide (c ≥ 48)))], [], [], [], 0⟩) (σ' := σ) (ob := Tt 4) (by kernel_rfl) (tt 4) ?_
   cases h1 : (decide (c ≥ 48))
   ·
    have h1k := of_decide_eq_false h1
    refine AOps.runN hT nh 4 [2] (fr' := ⟨[(2, .bool false)], [], [], [], 0⟩) (σ' := σ) (ob := Tt 3) (by kernel_rfl) (tt 3) ?_
    refine AOps.weak [2] (AOps.nil ⟨rfl, rfl⟩)
   ·
    have h1k := of_decide_eq_true h1
    refine AOps.runN hT nh 4 [2] (fr' := ⟨[(2, .bool (decide (c ≤ 57)))], [], [], [], 0⟩) (σ' := σ) (ob := Tt 5) (by kernel_rfl) (tt 5) ?_
    refine AOps.weak [2] (AOps.nil ⟨rfl, rfl⟩)
  refine ACode.ret ?_
  exact retQ.ret (.bool ((decide (c ≥ 48)) && (decide (c ≤ 57)))) (by kernel_rfl) ⟨rfl, rfl⟩
theorem notLF_walk (c : Int) (σ : St)  : ACalls Tryd.prog 35 [.int .i32 c] σ (fun e s => σ = s ∧ e = .ret (.bool (c != 10))) := by
  refine ACalls.enter hT Tryd.func35 rfl (by kernel_rfl) ?_
  refine ACode.seq ?_
  refine ACode.run hT nh [0] (fr' := ⟨[(0, .int .i32 c)], [], [], [], 0⟩) (σ' := σ) (ob := Tt 2) (by kernel_rfl) (tt 2) ?_
  refine ACode.seq ?_
  refine ACode.run hT nh [2] (fr' := ⟨[(2, .bool (c != 10))], [], [], [], 0⟩) (σ' := σ) (ob := Tt 4) (by kernel_rfl) (tt 4) ?_
  refine ACode.ret ?_
  exact retQ.ret (.bool (c != 10)) (by kernel_rfl) ⟨rfl, rfl⟩
theorem word1_walk (c : Int) (σ : St)  : ACalls Tryd.prog 51 [.int .i32 c] σ (fun e s => σ = s ∧ e = .ret (.bool (wordS c))) := by
  refine ACalls.enter hT Tryd.func51 rfl (by kernel_rfl) ?_
  refine ACode.seq ?_
  refine ACode.run hT nh [0] (fr' := ⟨[(0, .int .i32 c)], [], [], [], 0⟩) (σ' := σ) (ob := Tt 2) (by kernel_rfl) (tt 2) ?_
  refine ACode.seq ?_
  refine ACode.meet ⟨[(2, .bool ((letterS c) || (digitS c)))], [], [], [], 0⟩ σ (ACode.region ?_) ?_
  ·
   refine AOps.runN hT nh 1 [0, 3] (fr' := ⟨[(0, .int .i32 c), (3, .int .i32 c)], [], [], [], 0⟩) (σ' := σ) (ob := Tt 2) (by kernel_rfl) (tt 2) ?_
   refine AOps.call (fid := 20) (cap := []) (avs := [.int .i32 c]) (by kernel_rfl) rfl (by kernel_rfl) (by kernel_rfl) en_20 (by kernel_rfl) (ACalls.mono (letter_walk c _) ?_)
   rintro _ _ ⟨rfl, rfl⟩
   refine AOps.runN hT nh 1 [0, 5] (fr' := ⟨[(0, .int .i32 c), (5, .bool (letterS c))], [], [], [], 0⟩) (σ' := σ) (ob := Tt 2) (by kernel_rfl) (tt 2) ?_
   cases h1 : (letterS c)
   ·
    refine AOps.runN hT nh 1 [5, 6] (fr' := ⟨[(5, .bool false), (6, .int .i32 c)], [], [], [], 0⟩) (σ' := σ) (ob := Tt 2) (by kernel_rfl) (tt 2) ?_
    refine AOps.call (fid := 21) (cap := []) (avs := [.int .i32 c]) (by kernel_rfl) rfl (by kernel_rfl) (by kernel_rfl) en_21 (by kernel_rfl) (ACalls.mono (digit_walk c _) ?_)
    rintro _ _ ⟨rfl, rfl⟩
    refine AOps.runN hT nh 2 [2] (fr' := ⟨[(2, .bool (digitS c))], [], [], [], 0⟩) (σ' := σ) (ob := Tt 3) (by kernel_rfl) (tt 3) ?_
    refine AOps.weak [2] (AOps.nil ⟨rfl, rfl⟩)
   ·
    refine AOps.runN hT nh 4 [2] (fr' := ⟨[(2, .bool true)], [], [], [], 0⟩) (σ' := σ) (ob := Tt 3) (by kernel_rfl) (tt 3) ?_
    refine AOps.weak [2] (AOps.nil ⟨rfl, rfl⟩)
  refine ACode.ret ?_
  exact retQ.ret (.bool ((letterS c) || (digitS c))) (by kernel_rfl) ⟨rfl, rfl⟩
theorem real1_walk (c : Int) (σ : St)  : ACalls Tryd.prog 54 [.int .i32 c] σ (fun e s => σ = s ∧ e = .ret (.bool (wordS c))) := by
  refine ACalls.enter hT Tryd.func54 rfl (by kernel_rfl) ?_
  refine ACode.seq ?_
  refine ACode.run hT nh [0] (fr' := ⟨[(0, .int .i32 c)], [], [], [], 0⟩) (σ' := σ) (ob := Tt 2) (by kernel_rfl) (tt 2) ?_
  refine ACode.seq ?_
  refine ACode.meet ⟨[(2, .bool ((letterS c) || (digitS c)))], [], [], [], 0⟩ σ (ACode.region ?_) ?_
  ·
   refine AOps.runN hT nh 1 [0, 3] (fr' := ⟨[(0, .int .i32 c), (3, .int .i32 c)], [], [], [], 0⟩) (σ' := σ) (ob := Tt 2) (by kernel_rfl) (tt 2) ?_
   refine AOps.call (fid := 20) (cap := []) (avs := [.int .i32 c]) (by kernel_rfl) rfl (by kernel_rfl) (by kernel_rfl) en_20 (by kernel_rfl) (ACalls.mono (letter_walk c _) ?_)
   rintro _ _ ⟨rfl, rfl⟩
   refine AOps.runN hT nh 1 [0, 5] (fr' := ⟨[(0, .int .i32 c), (5, .bool (letterS c))], [], [], [], 0⟩) (σ' := σ) (ob := Tt 2) (by kernel_rfl) (tt 2) ?_
   cases h1 : (letterS c)
   ·
    refine AOps.runN hT nh 1 [5, 6] (fr' := ⟨[(5, .bool false), (6, .int .i32 c)], [], [], [], 0⟩) (σ' := σ) (ob := Tt 2) (by kernel_rfl) (tt 2) ?_
    refine AOps.call (fid := 21) (cap := []) (avs := [.int .i32 c]) (by kernel_rfl) rfl (by kernel_rfl) (by kernel_rfl) en_21 (by kernel_rfl) (ACalls.mono (digit_walk c _) ?_)
    rintro _ _ ⟨rfl, rfl⟩
    refine AOps.runN hT nh 2 [2] (fr' := ⟨[(2, .bool (digitS c))], [], [], [], 0⟩) (σ' := σ) (ob := Tt 3) (by kernel_rfl) (tt 3) ?_
    refine AOps.weak [2] (AOps.nil ⟨rfl, rfl⟩)
   ·
    refine AOps.runN hT nh 4 [2] (fr' := ⟨[(2, .bool true)], [], [], [], 0⟩) (σ' := σ) (ob := Tt 3) (by kernel_rfl) (tt 3) ?_
    refine AOps.weak [2] (AOps.nil ⟨rfl, rfl⟩)
  refine ACode.ret ?_
  exact retQ.ret (.bool ((letterS c) || (digitS c))) (by kernel_rfl) ⟨rfl, rfl⟩
theorem hasPrefix_walk0 (a b : List UInt8) (σ : St)  : ACalls Tryd.prog 49 [.str a, .str b] σ (fun e s => σ = s ∧ e = .ret (.bool (b.isPrefixOf a))) := by
  refine ACalls.enter hT Tryd.func49 rfl (by kernel_rfl) ?_
  refine ACode.seq ?_
  refine ACode.run hT nh [0, 1] (fr' := ⟨[(0, .str a), (1, .str b)], [], [], [], 0⟩) (σ' := σ) (ob := Tt 2) (by kernel_rfl) (tt 2) ?_
  refine ACode.seq ?_
  refine ACode.meet ⟨[(4, .bool ((decide ((((a) : List UInt8).length : Int) ≥ (((b) : List UInt8).length : Int))) && ((a.take (((b) : List UInt8).length)) == b)))], [], [], [], 0⟩ σ (ACode.region ?_) ?_
  ·
   refine AOps.runN hT nh 6 [0, 1, 10] (fr' := ⟨[(0, .str a), (1, .str b), (10, .bool (decide ((((a) : List UInt8).length : Int) ≥ (((b) : List UInt8).length : Int))))], [], [], [], 0⟩) (σ' := σ) (ob := Tt 7) (by kernel_rfl) (tt 7) ?_
   cases h1 : (decide ((((a) : List UInt8).length : Int) ≥ (((b) : List UInt8).length : Int)))
   ·
    have h1k := of_decide_eq_false h1
    refine AOps.runN hT nh 8 [4] (fr' := ⟨[(4, .bool false)], [], [], [], 0⟩) (σ' := σ) (ob := Tt 3) (by kernel_rfl) (tt 3) ?_
    refine AOps.weak [4] (AOps.nil ⟨rfl, rfl⟩)
   ·
    have h1k := of_decide_eq_true h1
    refine AOps.runN hT nh 8 [4] (fr' := ⟨[(4, .bool ((a.take (((b) : List UInt8).length)) == b))], [], [], [], 0⟩) (σ' := σ) (ob := True ∧ True ∧ True ∧ (0 ≤ (((b) : List UInt8).length : Int) ∧ (((b) : List UInt8).length : Int) ≤ (((a) : List UInt8).length : Int)) ∧ True ∧ True ∧ True ∧ True ∧ True) (by kernel_rfl) ⟨trivial, trivial, trivial, (by have := of_decide_eq_true h1; omega), trivial, trivial, trivial, trivial, trivial⟩ ?_
    refine AOps.weak [4] (AOps.nil ⟨rfl, rfl⟩)
  refine ACode.ret ?_
  refine retQ.ret (.bool ((decide ((((a) : List UInt8).length : Int) ≥ (((b) : List UInt8).length : Int))) && ((a.take (((b) : List UInt8).length)) == b))) (by kernel_rfl) ?_
  refine ⟨rfl, ?_⟩
  rw [isPrefixOf_eq]
theorem hasPrefix_walk (a b : List UInt8) (σ : St)  : ACalls Tryd.prog 32 [.str a, .str b] σ (fun e s => σ = s ∧ e = .ret (.bool (b.isPrefixOf a))) := by
  refine ACalls.enter hT Tryd.func32 rfl (by kernel_rfl) ?_
  refine ACode.seq ?_
  refine ACode.run hT nh [0, 1] (fr' := ⟨[(0, .str a), (1, .str b)], [], [], [], 0⟩) (σ' := σ) (ob := Tt 2) (by kernel_rfl) (tt 2) ?_
  refine ACode.seq ?_
  refine ACode.region ?_
  refine AOps.runN hT nh 2 [5, 6] (fr' := ⟨[(5, .str a), (6, .str b)], [], [], [], 0⟩) (σ' := σ) (ob := Tt 3) (by kernel_rfl) (tt 3) ?_
  refine AOps.call (fid := 49) (cap := []) (avs := [.str a, .str b]) (by kernel_rfl) rfl (by kernel_rfl) (by kernel_rfl) en_49 (by kernel_rfl) (ACalls.mono (hasPrefix_walk0 a b _) ?_)
  rintro _ _ ⟨rfl, rfl⟩
  refine AOps.runN hT nh 1 [4] (fr' := ⟨[(4, .bool (b.isPrefixOf a))], [], [], [], 0⟩) (σ' := σ) (ob := Tt 2) (by kernel_rfl) (tt 2) ?_
  refine AOps.nil ?_
  refine ACode.ret ?_
  exact retQ.ret (.bool (b.isPrefixOf a)) (by kernel_rfl) ⟨rfl, rfl⟩
theorem lower_walk (c : Int) (σ : St)  : ACalls Tryd.prog 79 [.int .u8 c] σ (fun e s => σ = s ∧ e = .ret (.int .u8 (IntKind.u8.wrap (BitVec.ofInt 8 c ||| BitVec.ofInt 8 32).toNat))) := by
  refine ACalls.enter hT Tryd.func79 rfl (by kernel_rfl) ?_
  refine ACode.seq ?_
  refine ACode.run hT nh [0] (fr' := ⟨[(0, .int .u8 c)], [], [], [], 0⟩) (σ' := σ) (ob := Tt 2) (by kernel_rfl) (tt 2) ?_
  refine ACode.seq ?_
  refine ACode.run hT nh [2] (fr' := ⟨[(2, .int .u8 (IntKind.u8.wrap (BitVec.ofInt 8 c ||| BitVec.ofInt 8 32).toNat))], [], [], [], 0⟩) (σ' := σ) (ob := Tt 4) (by kernel_rfl) (tt 4) ?_
  refine ACode.ret ?_
  exact retQ.ret (.int .u8 (IntKind.u8.wrap (BitVec.ofInt 8 c ||| BitVec.ofInt 8 32).toNat)) (by kernel_rfl) ⟨rfl, rfl⟩

theorem indexByte_walk (t : List UInt8) (c : Int) (σ : St) : ACalls Tryd.prog 36 [.str t, .int .u8 c] σ (fun e s => σ = s ∧ e = .ret (.i (Lib.indexByte t c.toNat.toUInt8))) := by
  refine ACalls.of_below fun V vs hH hv => ?_
  simp only [CRs, CR] at hv
  obtain ⟨v, r, rfl, ⟨x, rfl, rfl⟩, w, r2, rfl, rfl, rfl⟩ := hv
  exact (Tryd.strings_IndexByte x c V.w).mono fun e w' ⟨h1, h2⟩ => ⟨h2 ▸ Go.RowKit.Below.refl _ _, _, rfl, fun V' _ => by subst h1; simp [EndR, CR]⟩

theorem contains1_walk (t : List UInt8) (c : UInt8) (σ : St) : ACalls Tryd.prog 22 [.str t, .str [c]] σ (fun e s => σ = s ∧ e = .ret (.bool (decide (0 ≤ Lib.indexByte t c)))) := by
  refine ACalls.of_below fun V vs hH hv => ?_
  simp only [CRs, CR] at hv
  obtain ⟨v, r, rfl, ⟨x, rfl, rfl⟩, w, r2, rfl, ⟨y, rfl, hy⟩, rfl⟩ := hv
  have hy' : y = ⟨#[c]⟩ := by
   obtain ⟨⟨l⟩⟩ := y
   simp only at hy
   subst hy
   rfl
  subst hy'
  exact (Tryd.strings_Contains_one x c V.w).mono fun e w' ⟨h1, h2⟩ => ⟨h2 ▸ Go.RowKit.Below.refl _ _, _, rfl, fun V' _ => by subst h1; simp [EndR, CR]⟩

theorem contains_walk (t u : List UInt8) (ht : t.length < 4294967281) (σ : St) : ACalls Tryd.prog 22 [.str t, .str u] σ (fun e s => σ = s ∧ e = .ret (.bool (Lib.contains t u))) := by
  refine ACalls.of_below fun V vs hH hv => ?_
  simp only [CRs, CR] at hv
  obtain ⟨v, r, rfl, ⟨x, rfl, rfl⟩, w, r2, rfl, ⟨y, rfl, rfl⟩, rfl⟩ := hv
  obtain ⟨m, hm⟩ := hH.gl.2 0 (by simp [theInt])
  simp only [GAt, CR, CRat] at hm
  obtain ⟨b, o, e, hb, he, ⟨q, hq, _, rfl⟩, _⟩ := hm
  simp only [Value.pointer.injEq, Option.some.injEq, Addr.mk.injEq, and_true] at e
  obtain ⟨rfl, rfl⟩ := e
  have hs : x.size < 4294967281 := by rw [Array.length_toList] at ht; exact ht
  exact (Tryd.strings_Contains x y m V.w hs hq).mono fun e w' ⟨h1, h2⟩ => ⟨h2 ▸ Go.RowKit.Below.refl _ _, _, rfl, fun V' _ => by subst h1; simp [EndR, CR]⟩

theorem clone_walk (t : List UInt8) (ht : t.length ≤ 281474976710656) (σ : St) : ACalls Tryd.prog 94 [.str t] σ (fun e s => σ = s ∧ e = .ret (.str t)) := by
  refine ACalls.of_below fun V vs hH hv => ?_
  simp only [CRs, CR] at hv
  obtain ⟨v, r, rfl, ⟨x, rfl, rfl⟩, rfl⟩ := hv
  have hs : x.size ≤ 281474976710656 := by rw [Array.length_toList] at ht; exact ht
  exact (Tryd.stringslite_Clone x V.w hs).mono fun e w' ⟨h1, h2⟩ => ⟨h2, _, rfl, fun V' _ => by subst h1; simp [EndR, CR]⟩

theorem containsAny_walk (t u : List UInt8) (ht : t.length < 4294967281) (hu : u.length < 4294967281) (ha : ∀ (j : Nat) b, t[j]? = some b → b.toNat < 128) (hb : ∀ (j : Nat) b, u[j]? = some b → b.toNat < 128) (σ : St) : ACalls Tryd.prog 55 [.str t, .str u] σ (fun e s => σ = s ∧ e = .ret (.bool (Lib.containsAny t u))) := by
  refine ACalls.of_below fun V vs hH hv => ?_
  simp only [CRs, CR] at hv
  obtain ⟨v, r, rfl, ⟨x, rfl, rfl⟩, w, r2, rfl, ⟨y, rfl, rfl⟩, rfl⟩ := hv
  have hs : x.size < 4294967281 := by rw [Array.length_toList] at ht; exact ht
  have hs2 : y.size < 4294967281 := by rw [Array.length_toList] at hu; exact hu
  exact (Tryd.strings_ContainsAny_laid x y V.w hs hs2 ha hb).mono fun e w' ⟨h1, h2⟩ => ⟨h2, _, rfl, fun V' _ => by subst h1; simp [EndR, CR]⟩

end Go.AE

/- Plain facts on the lexer's parts. -/
set_option linter.unusedVariables false
set_option linter.unusedSimpArgs false
namespace Go.AE

theorem letterS_lt {c : Int} (h : letterS c = true) : 0 ≤ c ∧ c < 128 := by
  simp only [letterS, Bool.or_eq_true, Bool.and_eq_true, beq_iff_eq, decide_eq_true_eq] at h
  omega
theorem digitS_lt {c : Int} (h : digitS c = true) : 0 ≤ c ∧ c < 128 := by
  simp only [digitS, Bool.and_eq_true, decide_eq_true_eq] at h
  omega
theorem wordS_lt {c : Int} (h : wordS c = true) : 0 ≤ c ∧ c < 128 := by
  simp only [wordS, Bool.or_eq_true] at h
  rcases h with h | h
  · exact letterS_lt h
  · exact digitS_lt h
theorem wordB_lt {b : UInt8} (h : wordB b = true) : b.toNat < 128 := by
  have := wordS_lt (c := (b.toNat : Int)) h
  omega

theorem dec_high (s : List UInt8) (i : Nat) (h : i < s.length) (ha : 128 ≤ (s.getD i 0).toNat) : 128 ≤ (dec s i).1 := by
  have e : s.getD i 0 = s[i] := by simp [List.getD, h]
  rw [e] at ha
  exact (decode_high ⟨s.toArray⟩ i h ha).1

theorem wordF_eq (s : List UInt8) (i : Nat) (h : i ≤ s.length) : runF wordS s i = i + ((s.drop i).takeWhile wordB).length := by
  rw [runF]
  split
  · rename_i hi
    have hd : s.drop i = s[i] :: s.drop (i + 1) := List.drop_eq_getElem_cons hi
    have e : s.getD i 0 = s[i] := by simp [List.getD, hi]
    by_cases ha : (s.getD i 0).toNat < 128
    · rw [dec_ascii s i hi ha]
      simp only
      by_cases hw : wordB (s.getD i 0) = true
      · have hw' : wordS (((s.getD i 0).toNat : Nat) : Int) = true := hw
        rw [if_pos hw', Nat.max_self, wordF_eq s (i + 1) (by omega), hd, List.takeWhile_cons, ← e, if_pos hw]
        simp only [List.length_cons]; omega
      · have hw' : ¬ wordS (((s.getD i 0).toNat : Nat) : Int) = true := hw
        rw [if_neg hw', hd, List.takeWhile_cons, ← e, if_neg hw]; simp
    · have h1 := dec_high s i hi (by omega)
      have hn : ¬ wordS ((dec s i).1 : Int) = true := fun h9 => by have := wordS_lt h9; omega
      have hw : ¬ wordB (s.getD i 0) = true := fun h9 => by have := wordB_lt h9; omega
      rw [if_neg hn, hd, List.takeWhile_cons, ← e, if_neg hw]; simp
  · rw [List.drop_eq_nil_of_le (by omega)]; simp; omega
termination_by s.length - i

theorem wordN_eq (l : List UInt8) : wordN l = (l.takeWhile wordB).length := rfl
theorem runF_word (l : List UInt8) : runF wordS l 0 = wordN l := by
  have := wordF_eq l 0 (Nat.zero_le _)
  simpa [wordN] using this

theorem takeWhile_length_take (p : UInt8 → Bool) (l : List UInt8) : l.take (l.takeWhile p).length = l.takeWhile p := by
  induction l with
  | nil => rfl
  | cons b l ih =>
    simp only [List.takeWhile_cons]
    split
    · simp [ih]
    · simp

theorem take_wordN (l : List UInt8) : l.take (wordN l) = l.takeWhile wordB := by rw [wordN_eq, takeWhile_length_take]

theorem realText_ascii (r : Rd) : ∀ (j : Nat) b, (realText r)[j]? = some b → b.toNat < 128 := by
  intro j b hj
  have hm := List.mem_of_getElem? hj
  simp only [realText, List.cons_append, List.nil_append, List.mem_cons, take_wordN] at hm
  rcases hm with rfl | hm
  · decide
  · have : ∀ {l : List UInt8} {x : UInt8}, x ∈ l.takeWhile wordB → wordB x = true := fun {l} {x} => by
      induction l with
      | nil => simp
      | cons y l ih =>
        rw [List.takeWhile_cons]
        split
        · rename_i hy
          intro hx
          rcases List.mem_cons.1 hx with rfl | hx
          · exact hy
          · exact ih hx
        · intro hx; cases hx
    exact wordB_lt (this hm)

theorem abc_ascii : ∀ (j : Nat) b, ([65, 66, 67, 68, 69, 70] : List UInt8)[j]? = some b → b.toNat < 128 := by
  intro j b hj
  have hm := List.mem_of_getElem? hj
  simp only [List.mem_cons, List.not_mem_nil, or_false] at hm
  rcases hm with rfl | rfl | rfl | rfl | rfl | rfl <;> decide

theorem len2 {a b : UInt8} {l : List UInt8} (h : [a, b].isPrefixOf l = true) : 2 ≤ l.length := by
  have := (List.isPrefixOf_iff_prefix.1 h).length_le
  simpa using this

theorem blankF_ok : ∀ (k : Nat) (r : Rd), RdOK r → RdOK (blankF k r) ∧ (blankF k r).rest.length ≤ r.rest.length
  | 0, r, h => ⟨h, Nat.le_refl _⟩
  | k + 1, r, h => by
    rw [blankF]
    split
    · exact ⟨h, Nat.le_refl _⟩
    · rename_i hne
      split
      · have h1 := skipS_ok (n := lineN r.rest) h (takeWhile_le _ _)
        have := blankF_ok k _ h1
        refine ⟨this.1, Nat.le_trans this.2 ?_⟩
        simp only [skipS, List.length_drop]; omega
      · split
        · have h1 := skipS_ok (n := 1) h (by cases hr : r.rest with | nil => exact absurd hr hne | cons _ _ => simp)
          have := blankF_ok k _ h1
          refine ⟨this.1, Nat.le_trans this.2 ?_⟩
          simp only [skipS, List.length_drop]; omega
        · exact ⟨h, Nat.le_refl _⟩
theorem blankS_ok {r : Rd} (h : RdOK r) : RdOK (blankS r) := (blankF_ok _ r h).1
theorem blankS_le {r : Rd} (h : RdOK r) : (blankS r).rest.length ≤ r.rest.length := (blankF_ok _ r h).2

theorem wordN_le' (l : List UInt8) : wordN l ≤ l.length := takeWhile_le _ _
theorem wordN_pos {l : List UInt8} (hne : l ≠ []) (h : wordB (l.getD 0 0) = true) : 1 ≤ wordN l := by
  rw [wordN_eq]
  cases l with
  | nil => exact absurd rfl hne
  | cons b l => rw [List.getD_cons_zero] at h; rw [List.takeWhile_cons, if_pos h]; simp

theorem twoB_len {l : List UInt8} (h : twoB l = true) : 2 ≤ l.length := by
  simp only [twoB, Bool.or_eq_true] at h
  rcases h with h | h | h <;> exact len2 h

theorem nextR_ok {r : Rd} (h : RdOK r) (hne : r.rest ≠ []) : RdOK (nextR r) := by
  have h1 : 1 ≤ r.rest.length := by cases hr : r.rest with | nil => exact absurd hr hne | cons _ _ => simp
  unfold nextR
  split
  · exact skipS_ok h (wordN_le' _)
  · split
    · exact skipS_ok (skipS_ok h h1) (wordN_le' _)
    · unfold signR
      split
      · rename_i ht; exact skipS_ok h (twoB_len ht)
      · split
        · exact skipS_ok h h1
        · exact h

theorem nextR_lt {r : Rd} (hne : r.rest ≠ []) (hok : (nextT r).2 = true) : (nextR r).rest.length < r.rest.length := by
  have h1 : 1 ≤ r.rest.length := by cases hr : r.rest with | nil => exact absurd hr hne | cons _ _ => simp
  unfold nextR
  unfold nextT at hok
  split
  · rename_i hw
    have := wordN_pos hne hw
    simp only [skipS, List.length_drop]; omega
  · rename_i hw
    rw [if_neg hw] at hok
    split
    · simp only [realR, skipS, List.length_drop]; omega
    · rename_i h35
      rw [if_neg h35] at hok
      unfold signR
      unfold signT at hok
      split
      · simp only [skipS, List.length_drop]; omega
      · rename_i ht
        rw [if_neg ht] at hok
        split
        · simp only [skipS, List.length_drop]; omega
        · rename_i hs
          rw [if_neg hs] at hok
          cases hok

def lexF : Nat → Rd → List Tok → List Tok × Int × Int × Int
  | 0, r, acc => (acc, 0, 0, 0)
  | k + 1, r, acc =>
    if (blankS r).rest = [] then (acc ++ [⟨0, [], 0, (blankS r).line, (blankS r).col⟩], 0, 0, 0)
    else if (nextT (blankS r)).2 then lexF k (nextR (blankS r)) (acc ++ [(nextT (blankS r)).1])
    else ([], 3, (nextT (blankS r)).1.line, (nextT (blankS r)).1.col)
def lexS (s : List UInt8) : List Tok × Int × Int × Int := if (s.length : Int) > 8192 then ([], 10, 1, 1) else lexF (s.length + 1) ⟨s, 1, 1⟩ []

theorem toksAV_closed : ∀ (l : List Tok), closedAll (toksAV l) = true
  | [] => rfl
  | t :: l => by simp [toksAV, tokAV, closedAll, closed, toksAV_closed l]

end Go.AE

/- What the parser computes, in plain Lean. -/
set_option linter.unusedVariables false
namespace Go.AE

structure PS where
  pos : Nat
  dep : Int

inductive R (α : Type) where
  | ok (v : α) (s : PS)
  | bad (e l c : Int)
  | out

def R.bind {α β : Type} (x : R α) (f : α → PS → R β) : R β :=
  match x with
  | .ok v s => f v s
  | .bad e l c => .bad e l c
  | .out => .out
theorem R.ok_bind {α β : Type} (v : α) (s : PS) (f : α → PS → R β) : (R.ok v s).bind f = f v s := rfl
theorem R.bad_bind {α β : Type} (e l c : Int) (f : α → PS → R β) : (R.bad e l c : R α).bind f = .bad e l c := rfl
theorem R.out_bind {α β : Type} (f : α → PS → R β) : (R.out : R α).bind f = .out := rfl

structure Ex where
  op : Int
  bin : Int
  n : Int
  tk : Int
  tr : List UInt8
  name : List UInt8
  kids : List Ex
  line : Int
  col : Int

mutual
def exRow : Ex → List AV
  | ⟨op, bin, n, tk, tr, name, kids, line, col⟩ => [.int .i64 op, .int .i64 bin, .int .u64 n, .int .i64 tk, .str tr, .str name, .slice (exRows kids) kids.length .no, .int .i64 line, .int .i64 col]
def exRows : List Ex → List AV
  | [] => []
  | e :: l => exRow e ++ exRows l
end
def exAV (e : Ex) : List AV := [.int .i64 e.op, .int .i64 e.bin, .int .u64 e.n, .int .i64 e.tk, .str e.tr, .str e.name, .slice (exRows e.kids) e.kids.length .no, .int .i64 e.line, .int .i64 e.col]
theorem exRow_eq (e : Ex) : exRow e = exAV e := by cases e; simp [exRow, exAV]
theorem exRows_cons (e : Ex) (l : List Ex) : exRows (e :: l) = exAV e ++ exRows l := by rw [exRows, exRow_eq]
theorem exRows_nil : exRows [] = [] := by rw [exRows]
theorem exRows_append (a b : List Ex) : exRows (a ++ b) = exRows a ++ exRows b := by
  induction a with
  | nil => rw [exRows_nil]; rfl
  | cons e a ih => rw [List.cons_append, exRows_cons, exRows_cons, ih, List.append_assoc]
theorem exRows_length (l : List Ex) : (exRows l).length = l.length * 9 := by
  induction l with
  | nil => rw [exRows_nil]; rfl
  | cons e l ih => rw [exRows_cons, List.length_append, ih, List.length_cons]; simp only [exAV, List.length_cons, List.length_nil]; omega
theorem exRows_one (e : Ex) : exRows [e] = exAV e := by rw [exRows_cons, exRows_nil, List.append_nil]
theorem exRows_two (e k : Ex) : exRows [e, k] = exAV e ++ exAV k := by rw [exRows_cons, exRows_one]
def exZ : Ex := ⟨0, 0, 0, 0, [], [], [], 0, 0⟩

structure Pl where
  op : Int
  base : List UInt8
  field : List UInt8
  idx : Ex
  line : Int
  col : Int
def plAV (p : Pl) : List AV := [.int .i64 p.op, .str p.base, .str p.field] ++ exAV p.idx ++ [.int .i64 p.line, .int .i64 p.col]
def plZ : Pl := ⟨0, [], [], exZ, 0, 0⟩

structure Rt where
  op : Int
  e : Ex
  place : Pl
  name : List UInt8
  line : Int
  col : Int
def rtAV (r : Rt) : List AV := [.int .i64 r.op] ++ exAV r.e ++ plAV r.place ++ [.str r.name, .int .i64 r.line, .int .i64 r.col]
def rtZ : Rt := ⟨0, exZ, plZ, [], 0, 0⟩

structure Sm where
  op : Int
  name : List UInt8
  right : Rt
  place : Pl
  e : Ex
  n : Int
  args : List Ex
  body : List Sm
  els : List Sm
  line : Int
  col : Int
mutual
def smRow : Sm → List AV
  | ⟨op, name, right, place, e, n, args, body, els, line, col⟩ => [.int .i64 op, .str name] ++ rtAV right ++ plAV place ++ exAV e ++ [.int .i64 n, .slice (exRows args) args.length .no, .slice (smRows body) body.length .no, .slice (smRows els) els.length .no, .int .i64 line, .int .i64 col]
def smRows : List Sm → List AV
  | [] => []
  | s :: l => smRow s ++ smRows l
end
def smAV (s : Sm) : List AV := [.int .i64 s.op, .str s.name] ++ rtAV s.right ++ plAV s.place ++ exAV s.e ++ [.int .i64 s.n, .slice (exRows s.args) s.args.length .no, .slice (smRows s.body) s.body.length .no, .slice (smRows s.els) s.els.length .no, .int .i64 s.line, .int .i64 s.col]
theorem smRow_eq (s : Sm) : smRow s = smAV s := by cases s; simp [smRow, smAV]
theorem smRows_cons (e : Sm) (l : List Sm) : smRows (e :: l) = smAV e ++ smRows l := by rw [smRows, smRow_eq]
theorem smRows_nil : smRows [] = [] := by rw [smRows]
theorem smRows_append (a b : List Sm) : smRows (a ++ b) = smRows a ++ smRows b := by
  induction a with
  | nil => rw [smRows_nil]; rfl
  | cons e a ih => rw [List.cons_append, smRows_cons, smRows_cons, ih, List.append_assoc]
theorem smAV_length (e : Sm) : (smAV e).length = 58 := by simp [smAV, rtAV, plAV, exAV]
theorem smRows_length (l : List Sm) : (smRows l).length = l.length * 58 := by
  induction l with
  | nil => rw [smRows_nil]; rfl
  | cons e l ih => rw [smRows_cons, List.length_append, ih, List.length_cons, smAV_length]; omega
theorem smRows_one (e : Sm) : smRows [e] = smAV e := by rw [smRows_cons, smRows_nil, List.append_nil]

structure Nm where
  name : List UInt8
  tk : Int
  tr : List UInt8
  line : Int
  col : Int
def nmAV (x : Nm) : List AV := [.str x.name, .int .i64 x.tk, .str x.tr, .int .i64 x.line, .int .i64 x.col]
def nmRows : List Nm → List AV
  | [] => []
  | x :: l => nmAV x ++ nmRows l
structure Rc where
  name : List UInt8
  fields : List Nm
  line : Int
  col : Int
def rcAV (x : Rc) : List AV := [.str x.name, .slice (nmRows x.fields) x.fields.length .no, .int .i64 x.line, .int .i64 x.col]
def rcRows : List Rc → List AV
  | [] => []
  | x :: l => rcAV x ++ rcRows l
structure Fu where
  name : List UInt8
  params : List Nm
  body : List Sm
  line : Int
  col : Int
def fuAV (x : Fu) : List AV := [.str x.name, .slice (nmRows x.params) x.params.length .no, .slice (smRows x.body) x.body.length .no, .int .i64 x.line, .int .i64 x.col]
def fuRows : List Fu → List AV
  | [] => []
  | x :: l => fuAV x ++ fuRows l
structure Td where
  body : List Sm
  line : Int
  col : Int
def tdAV (x : Td) : List AV := [.slice (smRows x.body) x.body.length .no, .int .i64 x.line, .int .i64 x.col]
def tdRows : List Td → List AV
  | [] => []
  | x :: l => tdAV x ++ tdRows l
structure Pg where
  recs : List Rc
  globals : List Nm
  funs : List Fu
  threads : List Td
def pgAV (x : Pg) : List AV := [.slice (rcRows x.recs) x.recs.length .no, .slice (nmRows x.globals) x.globals.length .no, .slice (fuRows x.funs) x.funs.length .no, .slice (tdRows x.threads) x.threads.length .no]
def pgZ : Pg := ⟨[], [], [], []⟩

theorem rows_append {α : Type} (f : α → List AV) (g : List α → List AV) (h0 : g [] = []) (h1 : ∀ x l, g (x :: l) = f x ++ g l) (a b : List α) : g (a ++ b) = g a ++ g b := by
  induction a with
  | nil => rw [h0]; rfl
  | cons e a ih => rw [List.cons_append, h1, h1, ih, List.append_assoc]
theorem rows_length {α : Type} (f : α → List AV) (g : List α → List AV) (n : Nat) (h0 : g [] = []) (h1 : ∀ x l, g (x :: l) = f x ++ g l) (hn : ∀ x, (f x).length = n) (l : List α) : (g l).length = l.length * n := by
  induction l with
  | nil => rw [h0]; simp
  | cons e l ih => rw [h1, List.length_append, ih, List.length_cons, hn, Nat.add_mul]; omega
theorem nmRows_append (a b : List Nm) : nmRows (a ++ b) = nmRows a ++ nmRows b := rows_append nmAV nmRows rfl (fun _ _ => rfl) a b
theorem rcRows_append (a b : List Rc) : rcRows (a ++ b) = rcRows a ++ rcRows b := rows_append rcAV rcRows rfl (fun _ _ => rfl) a b
theorem fuRows_append (a b : List Fu) : fuRows (a ++ b) = fuRows a ++ fuRows b := rows_append fuAV fuRows rfl (fun _ _ => rfl) a b
theorem tdRows_append (a b : List Td) : tdRows (a ++ b) = tdRows a ++ tdRows b := rows_append tdAV tdRows rfl (fun _ _ => rfl) a b
theorem nmRows_length (l : List Nm) : (nmRows l).length = l.length * 5 := rows_length nmAV nmRows 5 rfl (fun _ _ => rfl) (fun _ => rfl) l
theorem rcRows_length (l : List Rc) : (rcRows l).length = l.length * 4 := rows_length rcAV rcRows 4 rfl (fun _ _ => rfl) (fun _ => rfl) l
theorem fuRows_length (l : List Fu) : (fuRows l).length = l.length * 5 := rows_length fuAV fuRows 5 rfl (fun _ _ => rfl) (fun _ => rfl) l
theorem tdRows_length (l : List Td) : (tdRows l).length = l.length * 3 := rows_length tdAV tdRows 3 rfl (fun _ _ => rfl) (fun _ => rfl) l

def peekF (l : List Tok) (s : PS) : R Tok := if s.pos < l.length then .ok (l.getD s.pos default) s else .out
def nextF (l : List Tok) (s : PS) : R Tok := if s.pos < l.length then (if (l.getD s.pos default).kind != 0 then .ok (l.getD s.pos default) ⟨s.pos + 1, s.dep⟩ else .ok (l.getD s.pos default) s) else .out
def isF (l : List Tok) (w : List UInt8) (s : PS) : R Bool := (peekF l s).bind fun t s => .ok ((t.kind == 2 || t.kind == 5) && t.text == w) s
def eatF (l : List Tok) (w : List UInt8) (s : PS) : R Bool := (isF l w s).bind fun b s => if b then .ok true ⟨s.pos + 1, s.dep⟩ else .ok false s
def mustF (l : List Tok) (w : List UInt8) (s : PS) : R Tok := (peekF l s).bind fun t s => (eatF l w s).bind fun b s => if !b then .bad 4 t.line t.col else .ok t s
def kindF (l : List Tok) (k : Int) (s : PS) : R Tok := (peekF l s).bind fun t s => if t.kind != k then .bad 4 t.line t.col else nextF l s
def depOK (s : PS) : Bool := decide (-1000000 < s.dep) && decide (s.dep < 1000000)
def downF (t : Tok) (s : PS) : R Unit := if depOK s then (if s.dep + 1 > 12 then .bad 10 t.line t.col else .ok () ⟨s.pos, s.dep + 1⟩) else .out
def upF (s : PS) : R Unit := if depOK s then .ok () ⟨s.pos, s.dep - 1⟩ else .out

structure Ty where
  tk : Int
  tr : List UInt8
def tyAV (x : Ty) : List AV := [.int .i64 x.tk, .str x.tr]
def typF (l : List Tok) (s : PS) : R Ty :=
  (eatF l [105, 110, 116] s).bind fun b s => if b then .ok ⟨1, []⟩ s else
  (eatF l [114, 101, 97, 108] s).bind fun b s => if b then .ok ⟨2, []⟩ s else
  (eatF l [105, 110, 116, 115] s).bind fun b s => if b then .ok ⟨3, []⟩ s else
  (kindF l 1 s).bind fun t s => .ok ⟨4, t.text⟩ s
def namedF (l : List Tok) (s : PS) : R Nm :=
  (kindF l 1 s).bind fun t s => (mustF l [58] s).bind fun _ s => (typF l s).bind fun y s => .ok ⟨t.text, y.tk, y.tr, t.line, t.col⟩ s

def unaryS (t : List UInt8) : Int := if t == [45] then 6 else if t == [114, 101, 97, 108] then 7 else if t == [116, 114, 117, 110, 99] then 8 else 0
def signsS (v : Nat) : List UInt8 := if v = 0 then [32, 61, 61, 32, 33, 61, 32, 60, 32, 60, 61, 32] else if v = 1 then [32, 43, 32, 45, 32] else [32, 42, 32, 47, 32, 37, 32]
def binS (t : List UInt8) : Int :=
  if [43] == t then 0 else if [45] == t then 1 else if [42] == t then 2 else if [47] == t then 3 else if [37] == t then 4 else if [61, 61] == t then 5 else if [33, 61] == t then 6 else if [60] == t then 7 else if [60, 61] == t then 8 else 0

mutual
def exprF : Nat → List Tok → PS → R Ex
  | 0, _, _ => .out
  | n + 1, l, s => chainF n l 0 s
def chainF : Nat → List Tok → Nat → PS → R Ex
  | 0, _, _, _ => .out
  | n + 1, l, v, s => if 3 < v then .out else if (v : Int) == 3 then prefixF n l s else (chainF n l (v + 1) s).bind fun e s => chainLoopF n l v e s
def chainLoopF : Nat → List Tok → Nat → Ex → PS → R Ex
  | 0, _, _, _, _ => .out
  | n + 1, l, v, e, s => (peekF l s).bind fun t s => if 8192 < t.text.length then .out else
    if (t.kind != 5 || !Lib.contains (signsS v) (([32] ++ t.text) ++ [32])) then .ok e s else
    (nextF l s).bind fun _ s => (chainF n l (v + 1) s).bind fun k s =>
      if (v : Int) == 0 then .ok ⟨9, binS t.text, 0, 0, [], [], [e, k], t.line, t.col⟩ s else chainLoopF n l v ⟨9, binS t.text, 0, 0, [], [], [e, k], t.line, t.col⟩ s
def prefixF : Nat → List Tok → PS → R Ex
  | 0, _, _ => .out
  | n + 1, l, s => (peekF l s).bind fun t s =>
    if (t.kind == 2 || t.kind == 5) then
      (if unaryS t.text == 0 then atomF n l s else
        (nextF l s).bind fun _ s => (downF t s).bind fun _ s => (prefixF n l s).bind fun k s => (upF s).bind fun _ s => .ok ⟨unaryS t.text, 0, 0, 0, [], [], [k], t.line, t.col⟩ s)
    else atomF n l s
def atomF : Nat → List Tok → PS → R Ex
  | 0, _, _ => .out
  | n + 1, l, s => (nextF l s).bind fun t s =>
    if t.kind == 3 then .ok ⟨1, 0, t.n, 0, [], [], [], t.line, t.col⟩ s
    else if t.kind == 4 then .ok ⟨2, 0, t.n, 0, [], [], [], t.line, t.col⟩ s
    else if t.kind == 1 then .ok ⟨5, 0, 0, 0, [], t.text, [], t.line, t.col⟩ s
    else if (t.kind == 2 && t.text == [105, 110, 112, 117, 116]) then (kindF l 3 s).bind fun u s => .ok ⟨4, 0, u.n, 0, [], [], [], t.line, t.col⟩ s
    else if (t.kind == 2 && t.text == [110, 105, 108]) then (eatF l [105, 110, 116, 115] s).bind fun b s =>
      if !b then (kindF l 1 s).bind fun u s => .ok ⟨3, 0, 0, 4, u.text, [], [], t.line, t.col⟩ s else .ok ⟨3, 0, 0, 3, [], [], [], t.line, t.col⟩ s
    else if (t.kind == 5 && t.text == [40]) then (downF t s).bind fun _ s => (exprF n l s).bind fun e s => (mustF l [41] s).bind fun _ s => (upF s).bind fun _ s => .ok e s
    else .bad 4 t.line t.col
end

def placeF (n : Nat) (l : List Tok) (s : PS) : R Pl :=
  (kindF l 1 s).bind fun t s => (eatF l [46] s).bind fun b s =>
    if b then (kindF l 1 s).bind fun u s => .ok ⟨2, t.text, u.text, exZ, t.line, t.col⟩ s else
    (eatF l [91] s).bind fun b s =>
      if b then (exprF n l s).bind fun e s => (mustF l [93] s).bind fun _ s => .ok ⟨3, t.text, [], e, t.line, t.col⟩ s else .ok ⟨1, t.text, [], exZ, t.line, t.col⟩ s
def rightF (n : Nat) (l : List Tok) (s : PS) : R Rt :=
  (peekF l s).bind fun t s => (eatF l [108, 111, 97, 100] s).bind fun b s =>
    if b then (placeF n l s).bind fun p s => .ok ⟨2, exZ, p, [], t.line, t.col⟩ s else
    (eatF l [115, 105, 122, 101] s).bind fun b s => if b then (kindF l 1 s).bind fun u s => .ok ⟨5, exZ, plZ, u.text, t.line, t.col⟩ s else
    (eatF l [110, 101, 119] s).bind fun b s => if b then
      ((eatF l [105, 110, 116, 115] s).bind fun b s => if b then (exprF n l s).bind fun e s => .ok ⟨4, e, plZ, [], t.line, t.col⟩ s else (kindF l 1 s).bind fun u s => .ok ⟨3, exZ, plZ, u.text, t.line, t.col⟩ s) else
    (exprF n l s).bind fun e s => .ok ⟨1, e, plZ, [], t.line, t.col⟩ s
def labelF (l : List Tok) (s : PS) : R (List UInt8) := (peekF l s).bind fun t s => if t.kind == 1 then (nextF l s).bind fun u s => .ok u.text s else .ok [] s
def argsLoopF : Nat → List Tok → List Ex → PS → R (List Ex)
  | 0, _, _, _ => .out
  | n + 1, l, acc, s => (exprF n l s).bind fun e s => if 100000 < acc.length then .out else (eatF l [41] s).bind fun b s =>
    if b then .ok (acc ++ [e]) s else (mustF l [44] s).bind fun _ s => argsLoopF n l (acc ++ [e]) s
def argsF (n : Nat) (l : List Tok) (s : PS) : R (List Ex) := (mustF l [40] s).bind fun _ s => (eatF l [41] s).bind fun b s => if b then .ok [] s else argsLoopF n l [] s

def letF (n : Nat) (l : List Tok) (ln cl : Int) (s : PS) : R Sm :=
  (nextF l s).bind fun k s => (kindF l 1 s).bind fun u s => (mustF l [61] s).bind fun _ s => (rightF n l s).bind fun r s => (mustF l [59] s).bind fun _ s =>
    .ok ⟨bif k.text == [118, 97, 114] then 2 else 1, u.text, r, plZ, exZ, 0, [], [], [], ln, cl⟩ s

mutual
def blockF : Nat → List Tok → PS → R (List Sm)
  | 0, _, _ => .out
  | n + 1, l, s => (mustF l [123] s).bind fun t s => (downF t s).bind fun _ s => blockLoopF n l [] s
def blockLoopF : Nat → List Tok → List Sm → PS → R (List Sm)
  | 0, _, _, _ => .out
  | n + 1, l, acc, s => (eatF l [125] s).bind fun b s => if !b then (stmtF n l s).bind fun v s => (if 100000 < acc.length then .out else blockLoopF n l (acc ++ [v]) s) else (upF s).bind fun _ s => .ok acc s
def loopF : Nat → List Tok → List UInt8 → Int → Int → PS → R Sm
  | 0, _, _, _, _, _ => .out
  | n + 1, l, nm, ln, cl, s => (kindF l 3 s).bind fun u s => (blockF n l s).bind fun b s => .ok ⟨7, nm, rtZ, plZ, exZ, IntKind.i64.wrap u.n, [], b, [], ln, cl⟩ s
def byNameF : Nat → List Tok → Int → Int → PS → R Sm
  | 0, _, _, _, _ => .out
  | n + 1, l, ln, cl, s => (nextF l s).bind fun u s => (eatF l [58] s).bind fun b s =>
    if b then (mustF l [108, 111, 111, 112] s).bind fun _ s => loopF n l u.text ln cl s else
    (mustF l [61] s).bind fun _ s => (rightF n l s).bind fun r s => (mustF l [59] s).bind fun _ s => .ok ⟨3, u.text, r, plZ, exZ, 0, [], [], [], ln, cl⟩ s
def branchF : Nat → List Tok → Int → Int → PS → R Sm
  | 0, _, _, _, _ => .out
  | n + 1, l, ln, cl, s => (exprF n l s).bind fun e s => (blockF n l s).bind fun b s => (eatF l [101, 108, 115, 101] s).bind fun c s =>
    if c then (blockF n l s).bind fun d s => .ok ⟨6, [], rtZ, plZ, e, 0, [], b, d, ln, cl⟩ s else .ok ⟨6, [], rtZ, plZ, e, 0, [], b, [], ln, cl⟩ s
def stmtF : Nat → List Tok → PS → R Sm
  | 0, _, _ => .out
  | n + 1, l, s => (peekF l s).bind fun t s => if t.kind == 1 then byNameF n l t.line t.col s else
    (eatF l [108, 111, 111, 112] s).bind fun b s => if b then loopF n l [] t.line t.col s else
    (eatF l [105, 102] s).bind fun b s => if b then branchF n l t.line t.col s else
    (eatF l [97, 116, 111, 109, 105, 99] s).bind fun b s => if b then (blockF n l s).bind fun d s => .ok ⟨10, [], rtZ, plZ, exZ, 0, [], d, [], t.line, t.col⟩ s else
    (isF l [108, 101, 116] s).bind fun b s => if b then letF n l t.line t.col s else
    (isF l [118, 97, 114] s).bind fun b s => if b then letF n l t.line t.col s else
    (eatF l [115, 101, 116] s).bind fun b s => if b then
      ((placeF n l s).bind fun p s => (mustF l [61] s).bind fun _ s => (exprF n l s).bind fun e s => (mustF l [59] s).bind fun _ s => .ok ⟨4, [], rtZ, p, e, 0, [], [], [], t.line, t.col⟩ s) else
    (eatF l [112, 114, 105, 110, 116] s).bind fun b s => if b then
      ((exprF n l s).bind fun e s => (mustF l [59] s).bind fun _ s => .ok ⟨5, [], rtZ, plZ, e, 0, [], [], [], t.line, t.col⟩ s) else
    (eatF l [98, 114, 101, 97, 107] s).bind fun b s => if b then
      ((labelF l s).bind fun u s => (mustF l [59] s).bind fun _ s => .ok ⟨8, u, rtZ, plZ, exZ, 0, [], [], [], t.line, t.col⟩ s) else
    (eatF l [99, 111, 110, 116, 105, 110, 117, 101] s).bind fun b s => if b then
      ((labelF l s).bind fun u s => (mustF l [59] s).bind fun _ s => .ok ⟨9, u, rtZ, plZ, exZ, 0, [], [], [], t.line, t.col⟩ s) else
    (eatF l [99, 97, 108, 108] s).bind fun b s => if b then
      ((kindF l 1 s).bind fun u s => (argsF n l s).bind fun a s => (mustF l [59] s).bind fun _ s => .ok ⟨11, u.text, rtZ, plZ, exZ, 0, a, [], [], t.line, t.col⟩ s) else
    .bad 4 t.line t.col
end

def recordLoopF : Nat → List Tok → List Nm → PS → R (List Nm)
  | 0, _, _, _ => .out
  | n + 1, l, acc, s => (eatF l [125] s).bind fun b s => if !b then (namedF l s).bind fun x s => (if 100000 < acc.length then .out else (mustF l [59] s).bind fun _ s => recordLoopF n l (acc ++ [x]) s) else .ok acc s
def recordF (n : Nat) (l : List Tok) (s : PS) : R Rc := (kindF l 1 s).bind fun t s => (mustF l [123] s).bind fun _ s => (recordLoopF n l [] s).bind fun f s => .ok ⟨t.text, f, t.line, t.col⟩ s
def paramsLoopF : Nat → List Tok → List Nm → PS → R (List Nm)
  | 0, _, _, _ => .out
  | n + 1, l, acc, s => (namedF l s).bind fun x s => if 100000 < acc.length then .out else (eatF l [41] s).bind fun b s => if b then .ok (acc ++ [x]) s else (mustF l [44] s).bind fun _ s => paramsLoopF n l (acc ++ [x]) s
def funF (n : Nat) (l : List Tok) (s : PS) : R Fu := (kindF l 1 s).bind fun t s => (mustF l [40] s).bind fun _ s => (eatF l [41] s).bind fun b s =>
  if !b then (paramsLoopF n l [] s).bind fun ps s => (blockF n l s).bind fun d s => .ok ⟨t.text, ps, d, t.line, t.col⟩ s else (blockF n l s).bind fun d s => .ok ⟨t.text, [], d, t.line, t.col⟩ s
def pgBig (p : Pg) : Bool := decide (100000 < p.recs.length) || decide (100000 < p.globals.length) || decide (100000 < p.funs.length) || decide (100000 < p.threads.length)
def programF : Nat → List Tok → Pg → PS → R Pg
  | 0, _, _, _ => .out
  | n + 1, l, p, s => if pgBig p then .out else (peekF l s).bind fun t s => if t.kind == 0 then .ok p s else
    (eatF l [114, 101, 99, 111, 114, 100] s).bind fun b s => if b then (recordF n l s).bind fun x s => programF n l { p with recs := p.recs ++ [x] } s else
    (eatF l [103, 108, 111, 98, 97, 108] s).bind fun b s => if b then (namedF l s).bind fun x s => (mustF l [59] s).bind fun _ s => programF n l { p with globals := p.globals ++ [x] } s else
    (eatF l [102, 117, 110] s).bind fun b s => if b then (funF n l s).bind fun x s => programF n l { p with funs := p.funs ++ [x] } s else
    (eatF l [116, 104, 114, 101, 97, 100] s).bind fun b s => if b then (blockF n l s).bind fun x s => programF n l { p with threads := p.threads ++ [⟨x, t.line, t.col⟩] } s else
    .bad 4 t.line t.col

def psAV (lo : Own) (l : List Tok) (s : PS) : List AV := [.slice (toksAV l) l.length lo, .int .i64 (s.pos : Int), .int .i64 s.dep, .int .i64 0, .int .i64 0, .int .i64 0]
def PR {α : Type} (vAV : α → AV) (lo : Own) (l : List Tok) (x : R α) : AEnd → St → Prop := fun e σ =>
  match x with
  | .ok v s => e = .ret (vAV v) ∧ σ = [psAV lo l s]
  | .bad a b c => e = .panic (.iface 73 (.agg [])) ∧ ∃ p d : Int, σ = [[.slice (toksAV l) l.length lo, .int .i64 p, .int .i64 d, .int .i64 a, .int .i64 b, .int .i64 c]]
  | .out => True

end Go.AE

set_option linter.unusedVariables false
set_option linter.unusedSimpArgs false
set_option maxRecDepth 4000
namespace Go.AE
open Go.Proofs

theorem PR.ok_intro {α : Type} {vAV : α → AV} {lo : Own} {l : List Tok} {v : α} {s : PS} {e : AEnd} {σ : St} (h1 : e = .ret (vAV v)) (h2 : σ = [psAV lo l s]) : PR vAV lo l (.ok v s) e σ := ⟨h1, h2⟩
theorem PR.bad_intro {α : Type} {vAV : α → AV} {lo : Own} {l : List Tok} {a b c : Int} {e : AEnd} {σ : St} (p d : Int) (h1 : e = .panic (.iface 73 (.agg []))) (h2 : σ = [[.slice (toksAV l) l.length lo, .i p, .i d, .i a, .i b, .i c]]) : PR vAV lo l (.bad a b c) e σ := ⟨h1, p, d, h2⟩
theorem isb_eq (a b c : Bool) : (bif a then c else b && c) = ((a || b) && c) := by cases a <;> cases b <;> cases c <;> rfl
theorem peekF_ok {l : List Tok} {s s' : PS} {t : Tok} (h : peekF l s = .ok t s') : s' = s ∧ s.pos < l.length ∧ t = l.getD s.pos default := by
  unfold peekF at h
  split at h
  ·injection h with h1 h2; exact ⟨h2.symm, by assumption, h1.symm⟩
  ·cases h
theorem isF_ok {l : List Tok} {w : List UInt8} {s s' : PS} {b : Bool} (h : isF l w s = .ok b s') : s' = s ∧ s.pos < l.length := by
  unfold isF at h
  cases hp : peekF l s with
  | out => rw [hp] at h; cases h
  | bad => rw [hp] at h; cases h
  | ok t s1 =>
   rw [hp, R.ok_bind] at h
   injection h with h1 h2
   obtain ⟨q1, q2, _⟩ := peekF_ok hp
   exact ⟨by rw [← h2, q1], q2⟩

theorem p_fail (l : List Tok) (lo : Own) (hll : l.length ≤ 100000) (ec : Int) (t : Tok) (p0 d0 : Int)  : ACalls Tryd.prog 47 [.ptr 0 0, .i ec, .agg [.i t.kind, .str t.text, .int .u64 t.n, .i t.line, .i t.col]] [[.slice (toksAV l) l.length lo, .i p0, .i d0, .i 0, .i 0, .i 0]] (fun e σ => e = .panic (.iface 73 (.agg [])) ∧ ∃ p d : Int, σ = [[.slice (toksAV l) l.length lo, .i p, .i d, .i ec, .i t.line, .i t.col]]) := by
  refine ACalls.enter hT Tryd.func47 rfl (by kernel_rfl) ?_
  refine ACode.seq ?_
  refine ACode.run hT nh [0, 1, 5] (fr' := ⟨[(0, .ptr 0 0), (1, .i ec), (5, .loc 0 0)], [[.i t.kind, .str t.text, .int .u64 t.n, .i t.line, .i t.col]], [], [], 0⟩) (σ' := [[.slice (toksAV l) l.length lo, .i p0, .i d0, .i 0, .i 0, .i 0]]) (ob := Tt 2) (by kernel_rfl) (tt 2) ?_
  refine ACode.seq ?_
  refine ACode.run hT nh [] (fr' := ⟨[], [[.i t.kind, .str t.text, .int .u64 t.n, .i t.line, .i t.col]], [], [], 0⟩) (σ' := [[.slice (toksAV l) l.length lo, .i p0, .i d0, .i ec, .i t.line, .i t.col]]) (ob := Tt 11) (by kernel_rfl) (tt 11) ?_
  refine ACode.region ?_
  refine AOps.runN hT nh 2 [16] (fr' := ⟨[(16, .iface 73 (.agg []))], [[.i t.kind, .str t.text, .int .u64 t.n, .i t.line, .i t.col]], [], [], 0⟩) (σ' := [[.slice (toksAV l) l.length lo, .i p0, .i d0, .i ec, .i t.line, .i t.col]]) (ob := Tt 3) (by kernel_rfl) (tt 3) ?_
  refine AOps.panic (t := 73) (v := .agg []) (by kernel_rfl) rfl (by kernel_rfl) ?_
  exact ⟨rfl, _, _, rfl⟩

theorem p_peek (l : List Tok) (lo : Own) (hll : l.length ≤ 100000)  (s : PS)  (hne : peekF l s ≠ .out) : ACalls Tryd.prog 40 [.ptr 0 0] [psAV lo l s] (PR (fun (t : Tok) => .agg (tokAV t)) lo l (peekF l s)) := by
  generalize hX : peekF l s = X at hne ⊢
  refine ACalls.soft ?_
  have hp : s.pos < l.length := by
   rcases Nat.lt_or_ge s.pos l.length with h9 | h9
   ·exact h9
   ·exfalso; apply hne; rw [← hX]; simp only [peekF, if_neg (Nat.not_lt.2 h9)]
  simp only [peekF, if_pos hp] at hX
  refine ACalls.enter hT Tryd.func40 rfl (by kernel_rfl) ?_
  refine ACode.seq ?_
  refine ACode.run hT nh [0, 2] (fr' := ⟨[(0, .ptr 0 0), (2, .loc 0 0)], [[.i 0, .str [], .int .u64 0, .i 0, .i 0]], [], [], 0⟩) (σ' := [psAV lo l s]) (ob := Tt 2) (by kernel_rfl) (tt 2) ?_
  refine ACode.seq ?_
  refine ACode.draw [(10, 0)] 1 [] 1 (by kernel_rfl) (by kernel_rfl) ?_
  refine AAny.run hT nh (fuel := 2) [0, 1, 2, 3, 4, 5, 6, 7, 8] [2, 11] (fz' := true) (l' := #[true, true, true, true, true, true, true, true, true, false, false]) (fr' := ⟨[(2, .loc 0 0), (11, .dat (((toksAV l : List AV).drop (s.pos * 5)).take 5))], [[.i 0, .str [], .int .u64 0, .i 0, .i 0]], [], [], 0⟩) (σ' := [psAV lo l s]) (ob := True ∧ True ∧ True ∧ True ∧ True ∧ True ∧ True ∧ True ∧ (0 ≤ ((s.pos : Int) : Int) ∧ ((s.pos : Int) : Int) < (l.length : Nat) ∧ s.pos * 5 ≤ (toksAV l : List AV).length) ∧ True) (by kernel_rfl) (by kernel_rfl) ⟨trivial, trivial, trivial, trivial, trivial, trivial, trivial, trivial, (by rw [toksAV_length]; omega), trivial⟩ ?_
  rw [toksAV_at l s.pos (by omega)]
  refine AAny.run hT nh (fuel := 0) [9, 10] [2] (fz' := false) (l' := #[true, true, true, true, true, true, true, true, true, true, true]) (fr' := ⟨[(2, .loc 0 0)], [[.i ((l.getD s.pos default).kind), .str ((l.getD s.pos default).text), .int .u64 ((l.getD s.pos default).n), .i ((l.getD s.pos default).line), .i ((l.getD s.pos default).col)]], [], [], 0⟩) (σ' := [psAV lo l s]) (ob := (5 ≤ ([.i ((l.getD s.pos default).kind), .str ((l.getD s.pos default).text), .int .u64 ((l.getD s.pos default).n), .i ((l.getD s.pos default).line), .i ((l.getD s.pos default).col)] : List AV).length) ∧ True ∧ True) (by kernel_rfl) (by kernel_rfl) ⟨(by first | omega | (simp; done) | (simp; omega)), trivial, trivial⟩ ?_
  refine AAny.done (by kernel_rfl) ?_
  refine ACode.ret ?_
  refine retQ.ret (.agg [.i ((l.getD s.pos default).kind), .str ((l.getD s.pos default).text), .int .u64 ((l.getD s.pos default).n), .i ((l.getD s.pos default).line), .i ((l.getD s.pos default).col)]) (by kernel_rfl) ?_
  subst hX
  exact PR.ok_intro rfl rfl

theorem p_next (l : List Tok) (lo : Own) (hll : l.length ≤ 100000)  (s : PS)  (hne : nextF l s ≠ .out) : ACalls Tryd.prog 69 [.ptr 0 0] [psAV lo l s] (PR (fun (t : Tok) => .agg (tokAV t)) lo l (nextF l s)) := by
  generalize hX : nextF l s = X at hne ⊢
  refine ACalls.soft ?_
  have hp : s.pos < l.length := by
   rcases Nat.lt_or_ge s.pos l.length with h9 | h9
   ·exact h9
   ·exfalso; apply hne; rw [← hX]; simp only [nextF, if_neg (Nat.not_lt.2 h9)]
  simp only [nextF, if_pos hp] at hX
  refine ACalls.enter hT Tryd.func69 rfl (by kernel_rfl) ?_
  refine ACode.seq ?_
  refine ACode.run hT nh [0, 2] (fr' := ⟨[(0, .ptr 0 0), (2, .loc 0 0)], [[.i 0, .str [], .int .u64 0, .i 0, .i 0]], [], [], 0⟩) (σ' := [psAV lo l s]) (ob := Tt 2) (by kernel_rfl) (tt 2) ?_
  refine ACode.seq ?_
  refine ACode.draw [(11, 1)] 1 [] 1 (by kernel_rfl) (by kernel_rfl) ?_
  refine AAny.run hT nh (fuel := 3) [0, 1, 2, 3, 4, 5, 6, 7, 8] [0, 2, 12] (fz' := true) (l' := #[true, true, true, true, true, true, true, true, true, false, false, false]) (fr' := ⟨[(0, .ptr 0 0), (2, .loc 0 0), (12, .dat (((toksAV l : List AV).drop (s.pos * 5)).take 5))], [[.i 0, .str [], .int .u64 0, .i 0, .i 0]], [], [], 0⟩) (σ' := [psAV lo l s]) (ob := True ∧ True ∧ True ∧ True ∧ True ∧ True ∧ True ∧ True ∧ (0 ≤ ((s.pos : Int) : Int) ∧ ((s.pos : Int) : Int) < (l.length : Nat) ∧ s.pos * 5 ≤ (toksAV l : List AV).length) ∧ True) (by kernel_rfl) (by kernel_rfl) ⟨trivial, trivial, trivial, trivial, trivial, trivial, trivial, trivial, (by rw [toksAV_length]; omega), trivial⟩ ?_
  rw [toksAV_at l s.pos (by omega)]
  refine AAny.run hT nh (fuel := 0) [9, 10, 11] [0, 2, 3] (fz' := false) (l' := #[true, true, true, true, true, true, true, true, true, true, true, true]) (fr' := ⟨[(0, .ptr 0 0), (2, .loc 0 0), (3, .loc 1 0)], [[.i 0, .str [], .int .u64 0, .i 0, .i 0], [.i ((l.getD s.pos default).kind), .str ((l.getD s.pos default).text), .int .u64 ((l.getD s.pos default).n), .i ((l.getD s.pos default).line), .i ((l.getD s.pos default).col)]], [], [], 0⟩) (σ' := [psAV lo l s]) (ob := (5 ≤ ([.i ((l.getD s.pos default).kind), .str ((l.getD s.pos default).text), .int .u64 ((l.getD s.pos default).n), .i ((l.getD s.pos default).line), .i ((l.getD s.pos default).col)] : List AV).length) ∧ True ∧ True ∧ True) (by kernel_rfl) (by kernel_rfl) ⟨(by first | omega | (simp; done) | (simp; omega)), trivial, trivial, trivial⟩ ?_
  refine AAny.done (by kernel_rfl) ?_
  refine ACode.seq ?_
  refine ACode.seq ?_
  refine ACode.run hT nh [0, 2, 3, 16] (fr' := ⟨[(0, .ptr 0 0), (2, .loc 0 0), (3, .loc 1 0), (16, .bool (((l.getD s.pos default).kind) != 0))], [[.i 0, .str [], .int .u64 0, .i 0, .i 0], [.i ((l.getD s.pos default).kind), .str ((l.getD s.pos default).text), .int .u64 ((l.getD s.pos default).n), .i ((l.getD s.pos default).line), .i ((l.getD s.pos default).col)]], [], [], 0⟩) (σ' := [psAV lo l s]) (ob := Tt 4) (by kernel_rfl) (tt 4) ?_
  refine ACode.cond (t := ((l.getD s.pos default).kind) != 0) (by kernel_rfl) (fun h1 => ?_) (fun h1 => ?_)
  ·
   have h1k := h1; simp only [Bool.and_eq_true, Bool.or_eq_true, Bool.and_eq_false_iff, Bool.or_eq_false_iff, decide_eq_true_eq, decide_eq_false_iff_not, beq_iff_eq, bne_iff_ne, ne_eq, Bool.not_eq_true', Bool.not_eq_false', beq_eq_false_iff_ne, bne_eq_false_iff_eq] at h1k
   try simp only [h1, Bool.false_eq_true, Bool.not_true, Bool.not_false, if_true, if_false] at hX
   refine ACode.run hT nh [2, 3] (fr' := ⟨[(2, .loc 0 0), (3, .loc 1 0)], [[.i 0, .str [], .int .u64 0, .i 0, .i 0], [.i ((l.getD s.pos default).kind), .str ((l.getD s.pos default).text), .int .u64 ((l.getD s.pos default).n), .i ((l.getD s.pos default).line), .i ((l.getD s.pos default).col)]], [], [], 0⟩) (σ' := [[.slice (toksAV l) l.length lo, .i (IntKind.i64.wrap ((s.pos : Int) + 1)), .i s.dep, .i 0, .i 0, .i 0]]) (ob := Tt 9) (by kernel_rfl) (tt 9) ?_
   rw [IntWalk.i64_in ((s.pos : Int) + 1) (by omega)]
   refine ACode.seq ?_
   refine ACode.run hT nh [2] (fr' := ⟨[(2, .loc 0 0)], [[.i ((l.getD s.pos default).kind), .str ((l.getD s.pos default).text), .int .u64 ((l.getD s.pos default).n), .i ((l.getD s.pos default).line), .i ((l.getD s.pos default).col)], [.i ((l.getD s.pos default).kind), .str ((l.getD s.pos default).text), .int .u64 ((l.getD s.pos default).n), .i ((l.getD s.pos default).line), .i ((l.getD s.pos default).col)]], [], [], 0⟩) (σ' := [[.slice (toksAV l) l.length lo, .i ((s.pos : Int) + 1), .i s.dep, .i 0, .i 0, .i 0]]) (ob := Tt 3) (by kernel_rfl) (tt 3) ?_
   refine ACode.ret ?_
   refine retQ.ret (.agg [.i ((l.getD s.pos default).kind), .str ((l.getD s.pos default).text), .int .u64 ((l.getD s.pos default).n), .i ((l.getD s.pos default).line), .i ((l.getD s.pos default).col)]) (by kernel_rfl) ?_
   subst hX
   exact PR.ok_intro rfl rfl
  ·
   have h1k := h1; simp only [Bool.and_eq_true, Bool.or_eq_true, Bool.and_eq_false_iff, Bool.or_eq_false_iff, decide_eq_true_eq, decide_eq_false_iff_not, beq_iff_eq, bne_iff_ne, ne_eq, Bool.not_eq_true', Bool.not_eq_false', beq_eq_false_iff_ne, bne_eq_false_iff_eq] at h1k
   try simp only [h1, Bool.false_eq_true, Bool.not_true, Bool.not_false, if_true, if_false] at hX
   refine ACode.skip ?_
   refine ACode.seq ?_
   refine ACode.run hT nh [2] (fr' := ⟨[(2, .loc 0 0)], [[.i ((l.getD s.pos default).kind), .str ((l.getD s.pos default).text), .int .u64 ((l.getD s.pos default).n), .i ((l.getD s.pos default).line), .i ((l.getD s.pos default).col)], [.i ((l.getD s.pos default).kind), .str ((l.getD s.pos default).text), .int .u64 ((l.getD s.pos default).n), .i ((l.getD s.pos default).line), .i ((l.getD s.pos default).col)]], [], [], 0⟩) (σ' := [psAV lo l s]) (ob := Tt 3) (by kernel_rfl) (tt 3) ?_
   refine ACode.ret ?_
   refine retQ.ret (.agg [.i ((l.getD s.pos default).kind), .str ((l.getD s.pos default).text), .int .u64 ((l.getD s.pos default).n), .i ((l.getD s.pos default).line), .i ((l.getD s.pos default).col)]) (by kernel_rfl) ?_
   subst hX
   exact PR.ok_intro rfl rfl

theorem p_is (l : List Tok) (lo : Own) (hll : l.length ≤ 100000) (w : List UInt8) (s : PS)  (hne : isF l w s ≠ .out) : ACalls Tryd.prog 56 [.ptr 0 0, .str w] [psAV lo l s] (PR (fun (b : Bool) => .bool b) lo l (isF l w s)) := by
  generalize hX : isF l w s = X at hne ⊢
  refine ACalls.soft ?_
  unfold isF at hX
  refine ACalls.enter hT Tryd.func56 rfl (by kernel_rfl) ?_
  refine ACode.seq ?_
  refine ACode.run hT nh [0, 1] (fr' := ⟨[(0, .ptr 0 0), (1, .str w)], [], [], [], 0⟩) (σ' := [psAV lo l s]) (ob := Tt 2) (by kernel_rfl) (tt 2) ?_
  refine ACode.seq ?_
  refine ACode.region ?_
  refine AOps.runN hT nh 1 [1, 6] (fr' := ⟨[(1, .str w), (6, .ptr 0 0)], [], [], [], 0⟩) (σ' := [psAV lo l s]) (ob := Tt 2) (by kernel_rfl) (tt 2) ?_
  have nk1 : peekF l s ≠ .out := by intro h9; simp only [h9, R.out_bind] at hX; exact hne hX.symm
  refine AOps.call (fid := 40) (cap := []) (avs := [.ptr 0 0]) (by kernel_rfl) rfl (by kernel_rfl) (by kernel_rfl) en_40 (by kernel_rfl) (ACalls.mono (p_peek l lo hll s nk1) ?_)
  cases k1 : peekF l s with
  | out => exact absurd k1 nk1
  | bad ea eb ec =>
   rintro _ _ ⟨rfl, pp, dd, rfl⟩
   simp only [k1, R.bad_bind] at hX
   subst hX
   exact PR.bad_intro (vAV := fun (b : Bool) => .bool b) pp dd rfl rfl
  | ok v2 s3 =>
   rintro _ _ ⟨rfl, rfl⟩
   simp only [k1, R.ok_bind] at hX
   obtain ⟨hsk1, hpk1, hvk1⟩ := peekF_ok k1
   refine AOps.runN hT nh 2 [1, 5] (fr' := ⟨[(1, .str w), (5, .loc 0 0)], [[.i v2.kind, .str v2.text, .int .u64 v2.n, .i v2.line, .i v2.col]], [], [], 0⟩) (σ' := [psAV lo l s3]) (ob := Tt 3) (by kernel_rfl) (tt 3) ?_
   refine AOps.nil ?_
   refine ACode.seq ?_
   refine ACode.meet ⟨[(4, .bool (bif v2.kind == 2 then v2.text == w else (v2.kind == 5) && (v2.text == w)))], [[.i v2.kind, .str v2.text, .int .u64 v2.n, .i v2.line, .i v2.col]], [], [], 0⟩ [psAV lo l s3] (ACode.region ?_) ?_
   ·
    refine AOps.runN hT nh 4 [1, 5, 11] (fr' := ⟨[(1, .str w), (5, .loc 0 0), (11, .bool (v2.kind == 2))], [[.i v2.kind, .str v2.text, .int .u64 v2.n, .i v2.line, .i v2.col]], [], [], 0⟩) (σ' := [psAV lo l s3]) (ob := Tt 5) (by kernel_rfl) (tt 5) ?_
    cases h4 : (v2.kind == 2)
    ·
     have h4k := ne_of_beq_false h4
     try simp only [h4, Bool.false_eq_true, Bool.not_true, Bool.not_false, if_true, if_false] at hX
     refine AOps.runN hT nh 5 [1, 5, 16] (fr' := ⟨[(1, .str w), (5, .loc 0 0), (16, .bool (v2.kind == 5))], [[.i v2.kind, .str v2.text, .int .u64 v2.n, .i v2.line, .i v2.col]], [], [], 0⟩) (σ' := [psAV lo l s3]) (ob := Tt 6) (by kernel_rfl) (tt 6) ?_
     cases h5 : (v2.kind == 5)
     ·
      have h5k := ne_of_beq_false h5
      try simp only [h5, Bool.false_eq_true, Bool.not_true, Bool.not_false, if_true, if_false] at hX
      refine AOps.runN hT nh 6 [4] (fr' := ⟨[(4, .bool false)], [[.i v2.kind, .str v2.text, .int .u64 v2.n, .i v2.line, .i v2.col]], [], [], 0⟩) (σ' := [psAV lo l s3]) (ob := Tt 3) (by kernel_rfl) (tt 3) ?_
      refine AOps.weak [4] (AOps.nil ⟨rfl, rfl⟩)
     ·
      have h5k := eq_of_beq h5
      try simp only [h5, Bool.false_eq_true, Bool.not_true, Bool.not_false, if_true, if_false] at hX
      refine AOps.runN hT nh 6 [4] (fr' := ⟨[(4, .bool (v2.text == w))], [[.i v2.kind, .str v2.text, .int .u64 v2.n, .i v2.line, .i v2.col]], [], [], 0⟩) (σ' := [psAV lo l s3]) (ob := Tt 7) (by kernel_rfl) (tt 7) ?_
      refine AOps.weak [4] (AOps.nil ⟨rfl, rfl⟩)
    ·
     have h4k := eq_of_beq h4
     try simp only [h4, Bool.false_eq_true, Bool.not_true, Bool.not_false, if_true, if_false] at hX
     refine AOps.runN hT nh 11 [4] (fr' := ⟨[(4, .bool (v2.text == w))], [[.i v2.kind, .str v2.text, .int .u64 v2.n, .i v2.line, .i v2.col]], [], [], 0⟩) (σ' := [psAV lo l s3]) (ob := Tt 9) (by kernel_rfl) (tt 9) ?_
     refine AOps.weak [4] (AOps.nil ⟨rfl, rfl⟩)
   refine ACode.ret ?_
   refine retQ.ret (.bool (bif v2.kind == 2 then v2.text == w else (v2.kind == 5) && (v2.text == w))) (by kernel_rfl) ?_
   subst hX
   refine PR.ok_intro ?_ rfl
   show AEnd.ret (AV.bool _) = _
   rw [isb_eq]

theorem p_eat (l : List Tok) (lo : Own) (hll : l.length ≤ 100000) (w : List UInt8) (s : PS)  (hne : eatF l w s ≠ .out) : ACalls Tryd.prog 41 [.ptr 0 0, .str w] [psAV lo l s] (PR (fun (b : Bool) => .bool b) lo l (eatF l w s)) := by
  generalize hX : eatF l w s = X at hne ⊢
  refine ACalls.soft ?_
  unfold eatF at hX
  refine ACalls.enter hT Tryd.func41 rfl (by kernel_rfl) ?_
  refine ACode.seq ?_
  refine ACode.run hT nh [0, 1] (fr' := ⟨[(0, .ptr 0 0), (1, .str w)], [], [], [], 0⟩) (σ' := [psAV lo l s]) (ob := Tt 2) (by kernel_rfl) (tt 2) ?_
  refine ACode.seq ?_
  refine ACode.seq ?_
  refine ACode.region ?_
  refine AOps.runN hT nh 2 [0, 5, 6] (fr' := ⟨[(0, .ptr 0 0), (5, .ptr 0 0), (6, .str w)], [], [], [], 0⟩) (σ' := [psAV lo l s]) (ob := Tt 3) (by kernel_rfl) (tt 3) ?_
  have nk1 : isF l w s ≠ .out := by intro h9; simp only [h9, R.out_bind] at hX; exact hne hX.symm
  refine AOps.call (fid := 56) (cap := []) (avs := [.ptr 0 0, .str w]) (by kernel_rfl) rfl (by kernel_rfl) (by kernel_rfl) en_56 (by kernel_rfl) (ACalls.mono (p_is l lo hll w s nk1) ?_)
  cases k1 : isF l w s with
  | out => exact absurd k1 nk1
  | bad ea eb ec =>
   rintro _ _ ⟨rfl, pp, dd, rfl⟩
   simp only [k1, R.bad_bind] at hX
   subst hX
   exact PR.bad_intro (vAV := fun (b : Bool) => .bool b) pp dd rfl rfl
  | ok v2 s3 =>
   rintro _ _ ⟨rfl, rfl⟩
   simp only [k1, R.ok_bind] at hX
   obtain ⟨hsk1, hpk1⟩ := isF_ok k1
   have hqk1 : s3.pos < l.length := by rw [hsk1]; exact hpk1
   refine AOps.nil ?_
   refine ACode.cond (t := v2) (by kernel_rfl) (fun h4 => ?_) (fun h4 => ?_)
   ·
    try simp only [h4, Bool.false_eq_true, Bool.not_true, Bool.not_false, if_true, if_false] at hX
    refine ACode.seq ?_
    refine ACode.run hT nh [] (fr' := ⟨[], [], [], [], 0⟩) (σ' := [[.slice (toksAV l) l.length lo, .i (IntKind.i64.wrap ((s3.pos : Int) + 1)), .i s3.dep, .i 0, .i 0, .i 0]]) (ob := Tt 9) (by kernel_rfl) (tt 9) ?_
    rw [IntWalk.i64_in ((s3.pos : Int) + 1) (by omega)]
    refine ACode.seq ?_
    refine ACode.run hT nh [4] (fr' := ⟨[(4, .bool true)], [], [], [], 0⟩) (σ' := [[.slice (toksAV l) l.length lo, .i ((s3.pos : Int) + 1), .i s3.dep, .i 0, .i 0, .i 0]]) (ob := Tt 2) (by kernel_rfl) (tt 2) ?_
    refine ACode.ret ?_
    refine retQ.ret (.bool true) (by kernel_rfl) ?_
    subst hX
    exact PR.ok_intro rfl rfl
   ·
    try simp only [h4, Bool.false_eq_true, Bool.not_true, Bool.not_false, if_true, if_false] at hX
    refine ACode.skip ?_
    refine ACode.seq ?_
    refine ACode.run hT nh [4] (fr' := ⟨[(4, .bool false)], [], [], [], 0⟩) (σ' := [psAV lo l s3]) (ob := Tt 2) (by kernel_rfl) (tt 2) ?_
    refine ACode.ret ?_
    refine retQ.ret (.bool false) (by kernel_rfl) ?_
    subst hX
    exact PR.ok_intro rfl rfl

theorem p_must (l : List Tok) (lo : Own) (hll : l.length ≤ 100000) (w : List UInt8) (s : PS)  (hne : mustF l w s ≠ .out) : ACalls Tryd.prog 44 [.ptr 0 0, .str w] [psAV lo l s] (PR (fun (t : Tok) => .agg (tokAV t)) lo l (mustF l w s)) := by
  generalize hX : mustF l w s = X at hne ⊢
  refine ACalls.soft ?_
  unfold mustF at hX
  refine ACalls.enter hT Tryd.func44 rfl (by kernel_rfl) ?_
  refine ACode.seq ?_
  refine ACode.run hT nh [0, 1, 4] (fr' := ⟨[(0, .ptr 0 0), (1, .str w), (4, .loc 0 0)], [[.i 0, .str [], .int .u64 0, .i 0, .i 0]], [], [], 0⟩) (σ' := [psAV lo l s]) (ob := Tt 2) (by kernel_rfl) (tt 2) ?_
  refine ACode.seq ?_
  refine ACode.region ?_
  refine AOps.runN hT nh 1 [0, 1, 4, 6] (fr' := ⟨[(0, .ptr 0 0), (1, .str w), (4, .loc 0 0), (6, .ptr 0 0)], [[.i 0, .str [], .int .u64 0, .i 0, .i 0]], [], [], 0⟩) (σ' := [psAV lo l s]) (ob := Tt 2) (by kernel_rfl) (tt 2) ?_
  have nk1 : peekF l s ≠ .out := by intro h9; simp only [h9, R.out_bind] at hX; exact hne hX.symm
  refine AOps.call (fid := 40) (cap := []) (avs := [.ptr 0 0]) (by kernel_rfl) rfl (by kernel_rfl) (by kernel_rfl) en_40 (by kernel_rfl) (ACalls.mono (p_peek l lo hll s nk1) ?_)
  cases k1 : peekF l s with
  | out => exact absurd k1 nk1
  | bad ea eb ec =>
   rintro _ _ ⟨rfl, pp, dd, rfl⟩
   simp only [k1, R.bad_bind] at hX
   subst hX
   exact PR.bad_intro (vAV := fun (t : Tok) => .agg (tokAV t)) pp dd rfl rfl
  | ok v2 s3 =>
   rintro _ _ ⟨rfl, rfl⟩
   simp only [k1, R.ok_bind] at hX
   obtain ⟨hsk1, hpk1, hvk1⟩ := peekF_ok k1
   refine AOps.runN hT nh 2 [0, 1, 4, 5] (fr' := ⟨[(0, .ptr 0 0), (1, .str w), (4, .loc 0 0), (5, .loc 1 0)], [[.i 0, .str [], .int .u64 0, .i 0, .i 0], [.i v2.kind, .str v2.text, .int .u64 v2.n, .i v2.line, .i v2.col]], [], [], 0⟩) (σ' := [psAV lo l s3]) (ob := Tt 3) (by kernel_rfl) (tt 3) ?_
   refine AOps.nil ?_
   refine ACode.seq ?_
   refine ACode.seq ?_
   refine ACode.region ?_
   refine AOps.runN hT nh 2 [0, 4, 5, 8, 9] (fr' := ⟨[(0, .ptr 0 0), (4, .loc 0 0), (5, .loc 1 0), (8, .ptr 0 0), (9, .str w)], [[.i 0, .str [], .int .u64 0, .i 0, .i 0], [.i v2.kind, .str v2.text, .int .u64 v2.n, .i v2.line, .i v2.col]], [], [], 0⟩) (σ' := [psAV lo l s3]) (ob := Tt 3) (by kernel_rfl) (tt 3) ?_
   have nk4 : eatF l w s3 ≠ .out := by intro h9; simp only [h9, R.out_bind] at hX; exact hne hX.symm
   refine AOps.call (fid := 41) (cap := []) (avs := [.ptr 0 0, .str w]) (by kernel_rfl) rfl (by kernel_rfl) (by kernel_rfl) en_41 (by kernel_rfl) (ACalls.mono (p_eat l lo hll w s3 nk4) ?_)
   cases k4 : eatF l w s3 with
   | out => exact absurd k4 nk4
   | bad ea eb ec =>
    rintro _ _ ⟨rfl, pp, dd, rfl⟩
    simp only [k4, R.bad_bind] at hX
    subst hX
    exact PR.bad_intro (vAV := fun (t : Tok) => .agg (tokAV t)) pp dd rfl rfl
   | ok v5 s6 =>
    rintro _ _ ⟨rfl, rfl⟩
    simp only [k4, R.ok_bind] at hX
    refine AOps.runN hT nh 1 [0, 4, 5, 11] (fr' := ⟨[(0, .ptr 0 0), (4, .loc 0 0), (5, .loc 1 0), (11, .bool (!v5))], [[.i 0, .str [], .int .u64 0, .i 0, .i 0], [.i v2.kind, .str v2.text, .int .u64 v2.n, .i v2.line, .i v2.col]], [], [], 0⟩) (σ' := [psAV lo l s6]) (ob := Tt 2) (by kernel_rfl) (tt 2) ?_
    refine AOps.nil ?_
    refine ACode.cond (t := !v5) (by kernel_rfl) (fun h7 => ?_) (fun h7 => ?_)
    ·
     have h7k := h7; simp only [Bool.and_eq_true, Bool.or_eq_true, Bool.and_eq_false_iff, Bool.or_eq_false_iff, decide_eq_true_eq, decide_eq_false_iff_not, beq_iff_eq, bne_iff_ne, ne_eq, Bool.not_eq_true', Bool.not_eq_false', beq_eq_false_iff_ne, bne_eq_false_iff_eq] at h7k
     try simp only [h7, Bool.false_eq_true, Bool.not_true, Bool.not_false, if_true, if_false] at hX
     refine ACode.region ?_
     refine AOps.runN hT nh 2 [4, 5, 12, 13] (fr' := ⟨[(4, .loc 0 0), (5, .loc 1 0), (12, .ptr 0 0), (13, .agg [.i v2.kind, .str v2.text, .int .u64 v2.n, .i v2.line, .i v2.col])], [[.i 0, .str [], .int .u64 0, .i 0, .i 0], [.i v2.kind, .str v2.text, .int .u64 v2.n, .i v2.line, .i v2.col]], [], [], 0⟩) (σ' := [psAV lo l s6]) (ob := Tt 3) (by kernel_rfl) (tt 3) ?_
     refine AOps.call (fid := 47) (cap := []) (avs := [.ptr 0 0, .i 4, .agg [.i v2.kind, .str v2.text, .int .u64 v2.n, .i v2.line, .i v2.col]]) (by kernel_rfl) rfl (by kernel_rfl) (by kernel_rfl) en_47 (by kernel_rfl) (ACalls.mono (p_fail l lo hll 4 v2 (s6.pos : Int) s6.dep) ?_)
     rintro _ _ ⟨rfl, pp, dd, rfl⟩
     subst hX
     exact PR.bad_intro (vAV := fun (t : Tok) => .agg (tokAV t)) pp dd rfl rfl
    ·
     have h7k := h7; simp only [Bool.and_eq_true, Bool.or_eq_true, Bool.and_eq_false_iff, Bool.or_eq_false_iff, decide_eq_true_eq, decide_eq_false_iff_not, beq_iff_eq, bne_iff_ne, ne_eq, Bool.not_eq_true', Bool.not_eq_false', beq_eq_false_iff_ne, bne_eq_false_iff_eq] at h7k
     try simp only [h7, Bool.false_eq_true, Bool.not_true, Bool.not_false, if_true, if_false] at hX
     refine ACode.skip ?_
     refine ACode.seq ?_
     refine ACode.run hT nh [4] (fr' := ⟨[(4, .loc 0 0)], [[.i v2.kind, .str v2.text, .int .u64 v2.n, .i v2.line, .i v2.col], [.i v2.kind, .str v2.text, .int .u64 v2.n, .i v2.line, .i v2.col]], [], [], 0⟩) (σ' := [psAV lo l s6]) (ob := Tt 3) (by kernel_rfl) (tt 3) ?_
     refine ACode.ret ?_
     refine retQ.ret (.agg [.i v2.kind, .str v2.text, .int .u64 v2.n, .i v2.line, .i v2.col]) (by kernel_rfl) ?_
     subst hX
     exact PR.ok_intro rfl rfl

theorem p_kind (l : List Tok) (lo : Own) (hll : l.length ≤ 100000) (k : Int) (s : PS)  (hne : kindF l k s ≠ .out) : ACalls Tryd.prog 57 [.ptr 0 0, .i k] [psAV lo l s] (PR (fun (t : Tok) => .agg (tokAV t)) lo l (kindF l k s)) := by
  generalize hX : kindF l k s = X at hne ⊢
  refine ACalls.soft ?_
  unfold kindF at hX
  refine ACalls.enter hT Tryd.func57 rfl (by kernel_rfl) ?_
  refine ACode.seq ?_
  refine ACode.run hT nh [0, 1, 4] (fr' := ⟨[(0, .ptr 0 0), (1, .i k), (4, .loc 0 0)], [[.i 0, .str [], .int .u64 0, .i 0, .i 0]], [], [], 0⟩) (σ' := [psAV lo l s]) (ob := Tt 2) (by kernel_rfl) (tt 2) ?_
  refine ACode.seq ?_
  refine ACode.region ?_
  refine AOps.runN hT nh 1 [0, 1, 4, 6] (fr' := ⟨[(0, .ptr 0 0), (1, .i k), (4, .loc 0 0), (6, .ptr 0 0)], [[.i 0, .str [], .int .u64 0, .i 0, .i 0]], [], [], 0⟩) (σ' := [psAV lo l s]) (ob := Tt 2) (by kernel_rfl) (tt 2) ?_
  have nk1 : peekF l s ≠ .out := by intro h9; simp only [h9, R.out_bind] at hX; exact hne hX.symm
  refine AOps.call (fid := 40) (cap := []) (avs := [.ptr 0 0]) (by kernel_rfl) rfl (by kernel_rfl) (by kernel_rfl) en_40 (by kernel_rfl) (ACalls.mono (p_peek l lo hll s nk1) ?_)
  cases k1 : peekF l s with
  | out => exact absurd k1 nk1
  | bad ea eb ec =>
   rintro _ _ ⟨rfl, pp, dd, rfl⟩
   simp only [k1, R.bad_bind] at hX
   subst hX
   exact PR.bad_intro (vAV := fun (t : Tok) => .agg (tokAV t)) pp dd rfl rfl
  | ok v2 s3 =>
   rintro _ _ ⟨rfl, rfl⟩
   simp only [k1, R.ok_bind] at hX
   obtain ⟨hsk1, hpk1, hvk1⟩ := peekF_ok k1
   refine AOps.runN hT nh 2 [0, 1, 4, 5] (fr' := ⟨[(0, .ptr 0 0), (1, .i k), (4, .loc 0 0), (5, .loc 1 0)], [[.i 0, .str [], .int .u64 0, .i 0, .i 0], [.i v2.kind, .str v2.text, .int .u64 v2.n, .i v2.line, .i v2.col]], [], [], 0⟩) (σ' := [psAV lo l s3]) (ob := Tt 3) (by kernel_rfl) (tt 3) ?_
   refine AOps.nil ?_
   refine ACode.seq ?_
   refine ACode.seq ?_
   refine ACode.run hT nh [0, 4, 5, 11] (fr' := ⟨[(0, .ptr 0 0), (4, .loc 0 0), (5, .loc 1 0), (11, .bool (v2.kind != k))], [[.i 0, .str [], .int .u64 0, .i 0, .i 0], [.i v2.kind, .str v2.text, .int .u64 v2.n, .i v2.line, .i v2.col]], [], [], 0⟩) (σ' := [psAV lo l s3]) (ob := Tt 5) (by kernel_rfl) (tt 5) ?_
   refine ACode.cond (t := v2.kind != k) (by kernel_rfl) (fun h4 => ?_) (fun h4 => ?_)
   ·
    have h4k := h4; simp only [Bool.and_eq_true, Bool.or_eq_true, Bool.and_eq_false_iff, Bool.or_eq_false_iff, decide_eq_true_eq, decide_eq_false_iff_not, beq_iff_eq, bne_iff_ne, ne_eq, Bool.not_eq_true', Bool.not_eq_false', beq_eq_false_iff_ne, bne_eq_false_iff_eq] at h4k
    try simp only [h4, Bool.false_eq_true, Bool.not_true, Bool.not_false, if_true, if_false] at hX
    refine ACode.region ?_
    refine AOps.runN hT nh 2 [0, 4, 12, 13] (fr' := ⟨[(0, .ptr 0 0), (4, .loc 0 0), (12, .ptr 0 0), (13, .agg [.i v2.kind, .str v2.text, .int .u64 v2.n, .i v2.line, .i v2.col])], [[.i 0, .str [], .int .u64 0, .i 0, .i 0], [.i v2.kind, .str v2.text, .int .u64 v2.n, .i v2.line, .i v2.col]], [], [], 0⟩) (σ' := [psAV lo l s3]) (ob := Tt 3) (by kernel_rfl) (tt 3) ?_
    refine AOps.call (fid := 47) (cap := []) (avs := [.ptr 0 0, .i 4, .agg [.i v2.kind, .str v2.text, .int .u64 v2.n, .i v2.line, .i v2.col]]) (by kernel_rfl) rfl (by kernel_rfl) (by kernel_rfl) en_47 (by kernel_rfl) (ACalls.mono (p_fail l lo hll 4 v2 (s3.pos : Int) s3.dep) ?_)
    rintro _ _ ⟨rfl, pp, dd, rfl⟩
    subst hX
    exact PR.bad_intro (vAV := fun (t : Tok) => .agg (tokAV t)) pp dd rfl rfl
   ·
    have h4k := h4; simp only [Bool.and_eq_true, Bool.or_eq_true, Bool.and_eq_false_iff, Bool.or_eq_false_iff, decide_eq_true_eq, decide_eq_false_iff_not, beq_iff_eq, bne_iff_ne, ne_eq, Bool.not_eq_true', Bool.not_eq_false', beq_eq_false_iff_ne, bne_eq_false_iff_eq] at h4k
    try simp only [h4, Bool.false_eq_true, Bool.not_true, Bool.not_false, if_true, if_false] at hX
    refine ACode.skip ?_
    refine ACode.seq ?_
    refine ACode.region ?_
    refine AOps.runN hT nh 1 [4, 15] (fr' := ⟨[(4, .loc 0 0), (15, .ptr 0 0)], [[.i 0, .str [], .int .u64 0, .i 0, .i 0], [.i v2.kind, .str v2.text, .int .u64 v2.n, .i v2.line, .i v2.col]], [], [], 0⟩) (σ' := [psAV lo l s3]) (ob := Tt 2) (by kernel_rfl) (tt 2) ?_
    have nk5 : nextF l s3 ≠ .out := by intro h9; simp only [h9, R.out_bind] at hX; exact hne hX.symm
    refine AOps.call (fid := 69) (cap := []) (avs := [.ptr 0 0]) (by kernel_rfl) rfl (by kernel_rfl) (by kernel_rfl) en_69 (by kernel_rfl) (ACalls.mono (p_next l lo hll s3 nk5) ?_)
    cases k5 : nextF l s3 with
    | out => exact absurd k5 nk5
    | bad ea eb ec =>
     rintro _ _ ⟨rfl, pp, dd, rfl⟩
     simp only [k5, R.bad_bind] at hX
     subst hX
     exact PR.bad_intro (vAV := fun (t : Tok) => .agg (tokAV t)) pp dd rfl rfl
    | ok v6 s7 =>
     rintro _ _ ⟨rfl, rfl⟩
     simp only [k5, R.ok_bind] at hX
     refine AOps.runN hT nh 1 [4] (fr' := ⟨[(4, .loc 0 0)], [[.i v6.kind, .str v6.text, .int .u64 v6.n, .i v6.line, .i v6.col], [.i v2.kind, .str v2.text, .int .u64 v2.n, .i v2.line, .i v2.col]], [], [], 0⟩) (σ' := [psAV lo l s7]) (ob := Tt 2) (by kernel_rfl) (tt 2) ?_
     refine AOps.nil ?_
     refine ACode.ret ?_
     refine retQ.ret (.agg [.i v6.kind, .str v6.text, .int .u64 v6.n, .i v6.line, .i v6.col]) (by kernel_rfl) ?_
     subst hX
     exact PR.ok_intro rfl rfl

theorem p_down (l : List Tok) (lo : Own) (hll : l.length ≤ 100000) (t : Tok) (s : PS)  (hne : downF t s ≠ .out) : ACalls Tryd.prog 59 [.ptr 0 0, .agg [.i t.kind, .str t.text, .int .u64 t.n, .i t.line, .i t.col]] [psAV lo l s] (PR (fun (_ : Unit) => .tuple []) lo l (downF t s)) := by
  generalize hX : downF t s = X at hne ⊢
  refine ACalls.soft ?_
  have hdp : depOK s = true := by
   cases h9 : depOK s
   ·exfalso; apply hne; rw [← hX]; simp only [downF, h9, Bool.false_eq_true, if_false]
   ·rfl
  simp only [downF, hdp, if_true] at hX
  have hdq := hdp
  simp only [depOK, Bool.and_eq_true, decide_eq_true_eq] at hdq
  refine ACalls.enter hT Tryd.func59 rfl (by kernel_rfl) ?_
  refine ACode.seq ?_
  refine ACode.run hT nh [0, 3] (fr' := ⟨[(0, .ptr 0 0), (3, .loc 0 0)], [[.i t.kind, .str t.text, .int .u64 t.n, .i t.line, .i t.col]], [], [], 0⟩) (σ' := [psAV lo l s]) (ob := Tt 2) (by kernel_rfl) (tt 2) ?_
  refine ACode.seq ?_
  refine ACode.run hT nh [0, 3] (fr' := ⟨[(0, .ptr 0 0), (3, .loc 0 0)], [[.i t.kind, .str t.text, .int .u64 t.n, .i t.line, .i t.col]], [], [], 0⟩) (σ' := [[.slice (toksAV l) l.length lo, .i (s.pos : Int), .i (IntKind.i64.wrap (s.dep + 1)), .i 0, .i 0, .i 0]]) (ob := Tt 9) (by kernel_rfl) (tt 9) ?_
  rw [IntWalk.i64_in (s.dep + 1) (by omega)]
  refine ACode.seq ?_
  refine ACode.run hT nh [0, 3, 15] (fr' := ⟨[(0, .ptr 0 0), (3, .loc 0 0), (15, .bool (decide ((s.dep + 1) > 12)))], [[.i t.kind, .str t.text, .int .u64 t.n, .i t.line, .i t.col]], [], [], 0⟩) (σ' := [[.slice (toksAV l) l.length lo, .i (s.pos : Int), .i (s.dep + 1), .i 0, .i 0, .i 0]]) (ob := Tt 6) (by kernel_rfl) (tt 6) ?_
  refine ACode.cond (t := decide ((s.dep + 1) > 12)) (by kernel_rfl) (fun h1 => ?_) (fun h1 => ?_)
  ·
   have h1k := of_decide_eq_true h1
   try simp only [h1k, h1, Bool.false_eq_true, Bool.not_true, Bool.not_false, if_true, if_false] at hX
   refine ACode.region ?_
   refine AOps.runN hT nh 2 [16, 17] (fr' := ⟨[(16, .ptr 0 0), (17, .agg [.i t.kind, .str t.text, .int .u64 t.n, .i t.line, .i t.col])], [[.i t.kind, .str t.text, .int .u64 t.n, .i t.line, .i t.col]], [], [], 0⟩) (σ' := [[.slice (toksAV l) l.length lo, .i (s.pos : Int), .i (s.dep + 1), .i 0, .i 0, .i 0]]) (ob := Tt 3) (by kernel_rfl) (tt 3) ?_
   refine AOps.call (fid := 47) (cap := []) (avs := [.ptr 0 0, .i 10, .agg [.i t.kind, .str t.text, .int .u64 t.n, .i t.line, .i t.col]]) (by kernel_rfl) rfl (by kernel_rfl) (by kernel_rfl) en_47 (by kernel_rfl) (ACalls.mono (p_fail l lo hll 10 t (s.pos : Int) (s.dep + 1)) ?_)
   rintro _ _ ⟨rfl, pp, dd, rfl⟩
   subst hX
   exact PR.bad_intro (vAV := fun (_ : Unit) => .tuple []) pp dd rfl rfl
  ·
   have h1k := of_decide_eq_false h1
   try simp only [h1k, h1, Bool.false_eq_true, Bool.not_true, Bool.not_false, if_true, if_false] at hX
   refine ACode.skip ?_
   refine retQ.fall (.tuple []) (by kernel_rfl) ?_
   subst hX
   exact PR.ok_intro rfl rfl


end Go.AE

set_option linter.unusedVariables false
set_option linter.unusedSimpArgs false
set_option maxRecDepth 4000
namespace Go.AE
open Go.Proofs

theorem unary_walk (t : List UInt8) (σ : St)  : ACalls Tryd.prog 109 [.str t] σ (fun e s => σ = s ∧ e = .ret (.i (unaryS t))) := by
  refine ACalls.enter hT Tryd.func109 rfl (by kernel_rfl) ?_
  refine ACode.seq ?_
  refine ACode.run hT nh [0] (fr' := ⟨[(0, .str t)], [], [], [], 0⟩) (σ' := σ) (ob := Tt 2) (by kernel_rfl) (tt 2) ?_
  refine ACode.seq ?_
  refine ACode.seq ?_
  refine ACode.run hT nh [3] (fr' := ⟨[(3, .str t)], [], [], [], 0⟩) (σ' := σ) (ob := Tt 2) (by kernel_rfl) (tt 2) ?_
  refine ACode.block ?_
  refine ACode.seq ?_
  refine ACode.run hT nh [3, 4] (fr' := ⟨[(3, .str t), (4, .bool (t == [45]))], [], [], [], 0⟩) (σ' := σ) (ob := Tt 3) (by kernel_rfl) (tt 3) ?_
  refine ACode.cond (t := t == [45]) (by kernel_rfl) (fun h1 => ?_) (fun h1 => ?_)
  ·
   have h1k := eq_of_beq h1
   refine ACode.seq ?_
   refine ACode.run hT nh [2] (fr' := ⟨[(2, .i 6)], [], [], [], 0⟩) (σ' := σ) (ob := Tt 2) (by kernel_rfl) (tt 2) ?_
   refine ACode.ret ?_
   refine retQ.ret (.i 6) (by kernel_rfl) ?_
   refine ⟨rfl, ?_⟩
   unfold unaryS
   simp only [h1, Bool.false_eq_true, if_true, if_false]
  ·
   have h1k := ne_of_beq_false h1
   refine ACode.seq ?_
   refine ACode.run hT nh [3, 6] (fr' := ⟨[(3, .str t), (6, .bool (t == [114, 101, 97, 108]))], [], [], [], 0⟩) (σ' := σ) (ob := Tt 3) (by kernel_rfl) (tt 3) ?_
   refine ACode.cond (t := t == [114, 101, 97, 108]) (by kernel_rfl) (fun h2 => ?_) (fun h2 => ?_)
   ·
    have h2k := eq_of_beq h2
    refine ACode.seq ?_
    refine ACode.run hT nh [2] (fr' := ⟨[(2, .i 7)], [], [], [], 0⟩) (σ' := σ) (ob := Tt 2) (by kernel_rfl) (tt 2) ?_
    refine ACode.ret ?_
    refine retQ.ret (.i 7) (by kernel_rfl) ?_
    refine ⟨rfl, ?_⟩
    unfold unaryS
    simp only [h1, h2, Bool.false_eq_true, if_true, if_false]
   ·
    have h2k := ne_of_beq_false h2
    refine ACode.seq ?_
    refine ACode.run hT nh [8] (fr' := ⟨[(8, .bool (t == [116, 114, 117, 110, 99]))], [], [], [], 0⟩) (σ' := σ) (ob := Tt 3) (by kernel_rfl) (tt 3) ?_
    refine ACode.cond (t := t == [116, 114, 117, 110, 99]) (by kernel_rfl) (fun h3 => ?_) (fun h3 => ?_)
    ·
     have h3k := eq_of_beq h3
     refine ACode.seq ?_
     refine ACode.run hT nh [2] (fr' := ⟨[(2, .i 8)], [], [], [], 0⟩) (σ' := σ) (ob := Tt 2) (by kernel_rfl) (tt 2) ?_
     refine ACode.ret ?_
     refine retQ.ret (.i 8) (by kernel_rfl) ?_
     refine ⟨rfl, ?_⟩
     unfold unaryS
     simp only [h1, h2, h3, Bool.false_eq_true, if_true, if_false]
    ·
     have h3k := ne_of_beq_false h3
     refine ACode.skip ?_
     refine ACode.seq ?_
     refine ACode.run hT nh [2] (fr' := ⟨[(2, .i 0)], [], [], [], 0⟩) (σ' := σ) (ob := Tt 2) (by kernel_rfl) (tt 2) ?_
     refine ACode.ret ?_
     refine retQ.ret (.i 0) (by kernel_rfl) ?_
     refine ⟨rfl, ?_⟩
     unfold unaryS
     simp only [h1, h2, h3, Bool.false_eq_true, if_true, if_false]
def binFrom (i : Nat) (t : List UInt8) : Int :=
  match i with
  | 0 => if [43] == t then 0 else if [45] == t then 1 else if [42] == t then 2 else if [47] == t then 3 else if [37] == t then 4 else if [61, 61] == t then 5 else if [33, 61] == t then 6 else if [60] == t then 7 else if [60, 61] == t then 8 else 0
  | 1 => if [45] == t then 1 else if [42] == t then 2 else if [47] == t then 3 else if [37] == t then 4 else if [61, 61] == t then 5 else if [33, 61] == t then 6 else if [60] == t then 7 else if [60, 61] == t then 8 else 0
  | 2 => if [42] == t then 2 else if [47] == t then 3 else if [37] == t then 4 else if [61, 61] == t then 5 else if [33, 61] == t then 6 else if [60] == t then 7 else if [60, 61] == t then 8 else 0
  | 3 => if [47] == t then 3 else if [37] == t then 4 else if [61, 61] == t then 5 else if [33, 61] == t then 6 else if [60] == t then 7 else if [60, 61] == t then 8 else 0
  | 4 => if [37] == t then 4 else if [61, 61] == t then 5 else if [33, 61] == t then 6 else if [60] == t then 7 else if [60, 61] == t then 8 else 0
  | 5 => if [61, 61] == t then 5 else if [33, 61] == t then 6 else if [60] == t then 7 else if [60, 61] == t then 8 else 0
  | 6 => if [33, 61] == t then 6 else if [60] == t then 7 else if [60, 61] == t then 8 else 0
  | 7 => if [60] == t then 7 else if [60, 61] == t then 8 else 0
  | 8 => if [60, 61] == t then 8 else 0
  | _ => 0
theorem binFrom_0 (t : List UInt8) (h : ([43] == t) = false) : binFrom 0 t = binFrom 1 t := by
  show (if ([43] == t) = true then _ else _) = _
  rw [h]; rfl
theorem binFrom_1 (t : List UInt8) (h : ([45] == t) = false) : binFrom 1 t = binFrom 2 t := by
  show (if ([45] == t) = true then _ else _) = _
  rw [h]; rfl
theorem binFrom_2 (t : List UInt8) (h : ([42] == t) = false) : binFrom 2 t = binFrom 3 t := by
  show (if ([42] == t) = true then _ else _) = _
  rw [h]; rfl
theorem binFrom_3 (t : List UInt8) (h : ([47] == t) = false) : binFrom 3 t = binFrom 4 t := by
  show (if ([47] == t) = true then _ else _) = _
  rw [h]; rfl
theorem binFrom_4 (t : List UInt8) (h : ([37] == t) = false) : binFrom 4 t = binFrom 5 t := by
  show (if ([37] == t) = true then _ else _) = _
  rw [h]; rfl
theorem binFrom_5 (t : List UInt8) (h : ([61, 61] == t) = false) : binFrom 5 t = binFrom 6 t := by
  show (if ([61, 61] == t) = true then _ else _) = _
  rw [h]; rfl
theorem binFrom_6 (t : List UInt8) (h : ([33, 61] == t) = false) : binFrom 6 t = binFrom 7 t := by
  show (if ([33, 61] == t) = true then _ else _) = _
  rw [h]; rfl
theorem binFrom_7 (t : List UInt8) (h : ([60] == t) = false) : binFrom 7 t = binFrom 8 t := by
  show (if ([60] == t) = true then _ else _) = _
  rw [h]; rfl
theorem binFrom_8 (t : List UInt8) (h : ([60, 61] == t) = false) : binFrom 8 t = binFrom 9 t := by
  show (if ([60, 61] == t) = true then _ else _) = _
  rw [h]; rfl
theorem bin_walk (t : List UInt8) (σ : St)  : ACalls Tryd.prog 105 [.str t] σ (fun e s => σ = s ∧ e = .ret (.i (binS t))) := by
  refine ACalls.enter hT Tryd.func105 rfl (by kernel_rfl) ?_
  refine ACode.seq ?_
  refine ACode.run hT nh [0] (fr' := ⟨[(0, .str t)], [], [], [], 0⟩) (σ' := σ) (ob := Tt 2) (by kernel_rfl) (tt 2) ?_
  refine ACode.seq ?_
  refine ACode.seq ?_
  refine ACode.run hT nh [0, 5, 6] (fr' := ⟨[(0, .str t), (5, .agg [.str [43], .str [45], .str [42], .str [47], .str [37], .str [61, 61], .str [33, 61], .str [60], .str [60, 61]]), (6, .i 0)], [], [], [], 0⟩) (σ' := σ) (ob := Tt 3) (by kernel_rfl) (tt 3) ?_
  refine ACode.block ?_
  refine ACode.loop [0, 5, 6] 0 0 (fun n0 fr σ' => ( fr = ⟨[(0, .str t), (5, .agg [.str [43], .str [45], .str [42], .str [47], .str [37], .str [61, 61], .str [33, 61], .str [60], .str [60, 61]]), (6, .i 0)], [], [], [], 0⟩ ∧ σ = σ' ∧ (binS t = binFrom 0 t) ∧ n0 = 10) ∨ ( fr = ⟨[(0, .str t), (5, .agg [.str [43], .str [45], .str [42], .str [47], .str [37], .str [61, 61], .str [33, 61], .str [60], .str [60, 61]]), (6, .i 1)], [], [], [], 0⟩ ∧ σ = σ' ∧ (binS t = binFrom 1 t) ∧ n0 = 9) ∨ ( fr = ⟨[(0, .str t), (5, .agg [.str [43], .str [45], .str [42], .str [47], .str [37], .str [61, 61], .str [33, 61], .str [60], .str [60, 61]]), (6, .i 2)], [], [], [], 0⟩ ∧ σ = σ' ∧ (binS t = binFrom 2 t) ∧ n0 = 8) ∨ ( fr = ⟨[(0, .str t), (5, .agg [.str [43], .str [45], .str [42], .str [47], .str [37], .str [61, 61], .str [33, 61], .str [60], .str [60, 61]]), (6, .i 3)], [], [], [], 0⟩ ∧ σ = σ' ∧ (binS t = binFrom 3 t) ∧ n0 = 7) ∨ ( fr = ⟨[(0, .str t), (5, .agg [.str [43], .str [45], .str [42], .str [47], .str [37], .str [61, 61], .str [33, 61], .str [60], .str [60, 61]]), (6, .i 4)], [], [], [], 0⟩ ∧ σ = σ' ∧ (binS t = binFrom 4 t) ∧ n0 = 6) ∨ ( fr = ⟨[(0, .str t), (5, .agg [.str [43], .str [45], .str [42], .str [47], .str [37], .str [61, 61], .str [33, 61], .str [60], .str [60, 61]]), (6, .i 5)], [], [], [], 0⟩ ∧ σ = σ' ∧ (binS t = binFrom 5 t) ∧ n0 = 5) ∨ ( fr = ⟨[(0, .str t), (5, .agg [.str [43], .str [45], .str [42], .str [47], .str [37], .str [61, 61], .str [33, 61], .str [60], .str [60, 61]]), (6, .i 6)], [], [], [], 0⟩ ∧ σ = σ' ∧ (binS t = binFrom 6 t) ∧ n0 = 4) ∨ ( fr = ⟨[(0, .str t), (5, .agg [.str [43], .str [45], .str [42], .str [47], .str [37], .str [61, 61], .str [33, 61], .str [60], .str [60, 61]]), (6, .i 7)], [], [], [], 0⟩ ∧ σ = σ' ∧ (binS t = binFrom 7 t) ∧ n0 = 3) ∨ ( fr = ⟨[(0, .str t), (5, .agg [.str [43], .str [45], .str [42], .str [47], .str [37], .str [61, 61], .str [33, 61], .str [60], .str [60, 61]]), (6, .i 8)], [], [], [], 0⟩ ∧ σ = σ' ∧ (binS t = binFrom 8 t) ∧ n0 = 2) ∨ ( fr = ⟨[(0, .str t), (5, .agg [.str [43], .str [45], .str [42], .str [47], .str [37], .str [61, 61], .str [33, 61], .str [60], .str [60, 61]]), (6, .i 9)], [], [], [], 0⟩ ∧ σ = σ' ∧ (binS t = binFrom 9 t) ∧ n0 = 1)) _ (by kernel_rfl) (.inl ⟨rfl, rfl, rfl, rfl⟩) ?_
  rintro n0 fr σ' (⟨rfl, rfl, hP, rfl⟩ | ⟨rfl, rfl, hP, rfl⟩ | ⟨rfl, rfl, hP, rfl⟩ | ⟨rfl, rfl, hP, rfl⟩ | ⟨rfl, rfl, hP, rfl⟩ | ⟨rfl, rfl, hP, rfl⟩ | ⟨rfl, rfl, hP, rfl⟩ | ⟨rfl, rfl, hP, rfl⟩ | ⟨rfl, rfl, hP, rfl⟩ | ⟨rfl, rfl, hP, rfl⟩)
  ·
   refine ACode.seq ?_
   refine ACode.run hT nh [0, 5, 6, 7] (fr' := ⟨[(0, .str t), (5, .agg [.str [43], .str [45], .str [42], .str [47], .str [37], .str [61, 61], .str [33, 61], .str [60], .str [60, 61]]), (6, .i 0), (7, .bool true)], [], [], [], 0⟩) (σ' := σ) (ob := Tt 2) (by kernel_rfl) (tt 2) ?_
   refine ACode.seq ?_
   refine ACode.cond (t := true) (by kernel_rfl) (fun _ => ?_) (fun h => Bool.noConfusion h)
   refine ACode.skip ?_
   refine ACode.seq ?_
   refine ACode.block ?_
   refine ACode.seq ?_
   refine ACode.run hT nh [0, 3, 4, 5, 6] (fr' := ⟨[(0, .str t), (3, .i 0), (4, .str [43]), (5, .agg [.str [43], .str [45], .str [42], .str [47], .str [37], .str [61, 61], .str [33, 61], .str [60], .str [60, 61]]), (6, .i 0)], [], [], [], 0⟩) (σ' := σ) (ob := True ∧ (0 ≤ (0 : Int) ∧ (0 : Int) < 9) ∧ True ∧ True ∧ True) (by kernel_rfl) ⟨trivial, (by first | omega | (simp; done) | (simp; omega)), trivial, trivial, trivial⟩ ?_
   refine ACode.seq ?_
   refine ACode.run hT nh [0, 3, 5, 6, 12] (fr' := ⟨[(0, .str t), (3, .i 0), (5, .agg [.str [43], .str [45], .str [42], .str [47], .str [37], .str [61, 61], .str [33, 61], .str [60], .str [60, 61]]), (6, .i 0), (12, .bool ([43] == t))], [], [], [], 0⟩) (σ' := σ) (ob := Tt 4) (by kernel_rfl) (tt 4) ?_
   refine ACode.cond (t := [43] == t) (by kernel_rfl) (fun h1 => ?_) (fun h1 => ?_)
   ·
    have h1k := eq_of_beq h1
    refine ACode.seq ?_
    refine ACode.run hT nh [2] (fr' := ⟨[(2, .i 0)], [], [], [], 0⟩) (σ' := σ) (ob := Tt 3) (by kernel_rfl) (tt 3) ?_
    refine ACode.ret ?_
    refine retQ.ret (.i 0) (by kernel_rfl) ?_
    refine ⟨rfl, ?_⟩
    rw [hP]; show _ = AEnd.ret (AV.int _ (if ([43] == t) = true then _ else _)); rw [h1]; rfl
   ·
    have h1k := ne_of_beq_false h1
    refine ACode.skip ?_
    refine ACode.run hT nh [0, 5, 6] (fr' := ⟨[(0, .str t), (5, .agg [.str [43], .str [45], .str [42], .str [47], .str [37], .str [61, 61], .str [33, 61], .str [60], .str [60, 61]]), (6, .i 1)], [], [], [], 0⟩) (σ' := σ) (ob := Tt 3) (by kernel_rfl) (tt 3) ?_
    refine ⟨by kernel_rfl, _, ?_, (.inr (.inl ⟨rfl, rfl, ?_, rfl⟩))⟩
    ·omega
    ·rw [hP, binFrom_0 t h1]
  ·
   refine ACode.seq ?_
   refine ACode.run hT nh [0, 5, 6, 7] (fr' := ⟨[(0, .str t), (5, .agg [.str [43], .str [45], .str [42], .str [47], .str [37], .str [61, 61], .str [33, 61], .str [60], .str [60, 61]]), (6, .i 1), (7, .bool true)], [], [], [], 0⟩) (σ' := σ) (ob := Tt 2) (by kernel_rfl) (tt 2) ?_
   refine ACode.seq ?_
   refine ACode.cond (t := true) (by kernel_rfl) (fun _ => ?_) (fun h => Bool.noConfusion h)
   refine ACode.skip ?_
   refine ACode.seq ?_
   refine ACode.block ?_
   refine ACode.seq ?_
   refine ACode.run hT nh [0, 3, 4, 5, 6] (fr' := ⟨[(0, .str t), (3, .i 1), (4, .str [45]), (5, .agg [.str [43], .str [45], .str [42], .str [47], .str [37], .str [61, 61], .str [33, 61], .str [60], .str [60, 61]]), (6, .i 1)], [], [], [], 0⟩) (σ' := σ) (ob := True ∧ (0 ≤ (1 : Int) ∧ (1 : Int) < 9) ∧ True ∧ True ∧ True) (by kernel_rfl) ⟨trivial, (by first | omega | (simp; done) | (simp; omega)), trivial, trivial, trivial⟩ ?_
   refine ACode.seq ?_
   refine ACode.run hT nh [0, 3, 5, 6, 12] (fr' := ⟨[(0, .str t), (3, .i 1), (5, .agg [.str [43], .str [45], .str [42], .str [47], .str [37], .str [61, 61], .str [33, 61], .str [60], .str [60, 61]]), (6, .i 1), (12, .bool ([45] == t))], [], [], [], 0⟩) (σ' := σ) (ob := Tt 4) (by kernel_rfl) (tt 4) ?_
   refine ACode.cond (t := [45] == t) (by kernel_rfl) (fun h2 => ?_) (fun h2 => ?_)
   ·
    have h2k := eq_of_beq h2
    refine ACode.seq ?_
    refine ACode.run hT nh [2] (fr' := ⟨[(2, .i 1)], [], [], [], 0⟩) (σ' := σ) (ob := Tt 3) (by kernel_rfl) (tt 3) ?_
    refine ACode.ret ?_
    refine retQ.ret (.i 1) (by kernel_rfl) ?_
    refine ⟨rfl, ?_⟩
    rw [hP]; show _ = AEnd.ret (AV.int _ (if ([45] == t) = true then _ else _)); rw [h2]; rfl
   ·
    have h2k := ne_of_beq_false h2
    refine ACode.skip ?_
    refine ACode.run hT nh [0, 5, 6] (fr' := ⟨[(0, .str t), (5, .agg [.str [43], .str [45], .str [42], .str [47], .str [37], .str [61, 61], .str [33, 61], .str [60], .str [60, 61]]), (6, .i 2)], [], [], [], 0⟩) (σ' := σ) (ob := Tt 3) (by kernel_rfl) (tt 3) ?_
    refine ⟨by kernel_rfl, _, ?_, (.inr (.inr (.inl ⟨rfl, rfl, ?_, rfl⟩)))⟩
    ·omega
    ·rw [hP, binFrom_1 t h2]
  ·
   refine ACode.seq ?_
   refine ACode.run hT nh [0, 5, 6, 7] (fr' := ⟨[(0, .str t), (5, .agg [.str [43], .str [45], .str [42], .str [47], .str [37], .str [61, 61], .str [33, 61], .str [60], .str [60, 61]]), (6, .i 2), (7, .bool true)], [], [], [], 0⟩) (σ' := σ) (ob := Tt 2) (by kernel_rfl) (tt 2) ?_
   refine ACode.seq ?_
   refine ACode.cond (t := true) (by kernel_rfl) (fun _ => ?_) (fun h => Bool.noConfusion h)
   refine ACode.skip ?_
   refine ACode.seq ?_
   refine ACode.block ?_
   refine ACode.seq ?_
   refine ACode.run hT nh [0, 3, 4, 5, 6] (fr' := ⟨[(0, .str t), (3, .i 2), (4, .str [42]), (5, .agg [.str [43], .str [45], .str [42], .str [47], .str [37], .str [61, 61], .str [33, 61], .str [60], .str [60, 61]]), (6, .i 2)], [], [], [], 0⟩) (σ' := σ) (ob := True ∧ (0 ≤ (2 : Int) ∧ (2 : Int) < 9) ∧ True ∧ True ∧ True) (by kernel_rfl) ⟨trivial, (by first | omega | (simp; done) | (simp; omega)), trivial, trivial, trivial⟩ ?_
   refine ACode.seq ?_
   refine ACode.run hT nh [0, 3, 5, 6, 12] (fr' := ⟨[(0, .str t), (3, .i 2), (5, .agg [.str [43], .str [45], .str [42], .str [47], .str [37], .str [61, 61], .str [33, 61], .str [60], .str [60, 61]]), (6, .i 2), (12, .bool ([42] == t))], [], [], [], 0⟩) (σ' := σ) (ob := Tt 4) (by kernel_rfl) (tt 4) ?_
   refine ACode.cond (t := [42] == t) (by kernel_rfl) (fun h3 => ?_) (fun h3 => ?_)
   ·
    have h3k := eq_of_beq h3
    refine ACode.seq ?_
    refine ACode.run hT nh [2] (fr' := ⟨[(2, .i 2)], [], [], [], 0⟩) (σ' := σ) (ob := Tt 3) (by kernel_rfl) (tt 3) ?_
    refine ACode.ret ?_
    refine retQ.ret (.i 2) (by kernel_rfl) ?_
    refine ⟨rfl, ?_⟩
    rw [hP]; show _ = AEnd.ret (AV.int _ (if ([42] == t) = true then _ else _)); rw [h3]; rfl
   ·
    have h3k := ne_of_beq_false h3
    refine ACode.skip ?_
    refine ACode.run hT nh [0, 5, 6] (fr' := ⟨[(0, .str t), (5, .agg [.str [43], .str [45], .str [42], .str [47], .str [37], .str [61, 61], .str [33, 61], .str [60], .str [60, 61]]), (6, .i 3)], [], [], [], 0⟩) (σ' := σ) (ob := Tt 3) (by kernel_rfl) (tt 3) ?_
    refine ⟨by kernel_rfl, _, ?_, (.inr (.inr (.inr (.inl ⟨rfl, rfl, ?_, rfl⟩))))⟩
    ·omega
    ·rw [hP, binFrom_2 t h3]
  ·
   refine ACode.seq ?_
   refine ACode.run hT nh [0, 5, 6, 7] (fr' := ⟨[(0, .str t), (5, .agg [.str [43], .str [45], .str [42], .str [47], .str [37], .str [61, 61], .str [33, 61], .str [60], .str [60, 61]]), (6, .i 3), (7, .bool true)], [], [], [], 0⟩) (σ' := σ) (ob := Tt 2) (by kernel_rfl) (tt 2) ?_
   refine ACode.seq ?_
   refine ACode.cond (t := true) (by kernel_rfl) (fun _ => ?_) (fun h => Bool.noConfusion h)
   refine ACode.skip ?_
   refine ACode.seq ?_
   refine ACode.block ?_
   refine ACode.seq ?_
   refine ACode.run hT nh [0, 3, 4, 5, 6] (fr' := ⟨[(0, .str t), (3, .i 3), (4, .str [47]), (5, .agg [.str [43], .str [45], .str [42], .str [47], .str [37], .str [61, 61], .str [33, 61], .str [60], .str [60, 61]]), (6, .i 3)], [], [], [], 0⟩) (σ' := σ) (ob := True ∧ (0 ≤ (3 : Int) ∧ (3 : Int) < 9) ∧ True ∧ True ∧ True) (by kernel_rfl) ⟨trivial, (by first | omega | (simp; done) | (simp; omega)), trivial, trivial, trivial⟩ ?_
   refine ACode.seq ?_
   refine ACode.run hT nh [0, 3, 5, 6, 12] (fr' := ⟨[(0, .str t), (3, .i 3), (5, .agg [.str [43], .str [45], .str [42], .str [47], .str [37], .str [61, 61], .str [33, 61], .str [60], .str [60, 61]]), (6, .i 3), (12, .bool ([47] == t))], [], [], [], 0⟩) (σ' := σ) (ob := Tt 4) (by kernel_rfl) (tt 4) ?_
   refine ACode.cond (t := [47] == t) (by kernel_rfl) (fun h4 => ?_) (fun h4 => ?_)
   ·
    have h4k := eq_of_beq h4
    refine ACode.seq ?_
    refine ACode.run hT nh [2] (fr' := ⟨[(2, .i 3)], [], [], [], 0⟩) (σ' := σ) (ob := Tt 3) (by kernel_rfl) (tt 3) ?_
    refine ACode.ret ?_
    refine retQ.ret (.i 3) (by kernel_rfl) ?_
    refine ⟨rfl, ?_⟩
    rw [hP]; show _ = AEnd.ret (AV.int _ (if ([47] == t) = true then _ else _)); rw [h4]; rfl
   ·
    have h4k := ne_of_beq_false h4
    refine ACode.skip ?_
    refine ACode.run hT nh [0, 5, 6] (fr' := ⟨[(0, .str t), (5, .agg [.str [43], .str [45], .str [42], .str [47], .str [37], .str [61, 61], .str [33, 61], .str [60], .str [60, 61]]), (6, .i 4)], [], [], [], 0⟩) (σ' := σ) (ob := Tt 3) (by kernel_rfl) (tt 3) ?_
    refine ⟨by kernel_rfl, _, ?_, (.inr (.inr (.inr (.inr (.inl ⟨rfl, rfl, ?_, rfl⟩)))))⟩
    ·omega
    ·rw [hP, binFrom_3 t h4]
  ·
   refine ACode.seq ?_
   refine ACode.run hT nh [0, 5, 6, 7] (fr' := ⟨[(0, .str t), (5, .agg [.str [43], .str [45], .str [42], .str [47], .str [37], .str [61, 61], .str [33, 61], .str [60], .str [60, 61]]), (6, .i 4), (7, .bool true)], [], [], [], 0⟩) (σ' := σ) (ob := Tt 2) (by kernel_rfl) (tt 2) ?_
   refine ACode.seq ?_
   refine ACode.cond (t := true) (by kernel_rfl) (fun _ => ?_) (fun h => Bool.noConfusion h)
   refine ACode.skip ?_
   refine ACode.seq ?_
   refine ACode.block ?_
   refine ACode.seq ?_
   refine ACode.run hT nh [0, 3, 4, 5, 6] (fr' := ⟨[(0, .str t), (3, .i 4), (4, .str [37]), (5, .agg [.str [43], .str [45], .str [42], .str [47], .str [37], .str [61, 61], .str [33, 61], .str [60], .str [60, 61]]), (6, .i 4)], [], [], [], 0⟩) (σ' := σ) (ob := True ∧ (0 ≤ (4 : Int) ∧ (4 : Int) < 9) ∧ True ∧ True ∧ True) (by kernel_rfl) ⟨trivial, (by first | omega | (simp; done) | (simp; omega)), trivial, trivial, trivial⟩ ?_
   refine ACode.seq ?_
   refine ACode.run hT nh [0, 3, 5, 6, 12] (fr' := ⟨[(0, .str t), (3, .i 4), (5, .agg [.str [43], .str [45], .str [42], .str [47], .str [37], .str [61, 61], .str [33, 61], .str [60], .str [60, 61]]), (6, .i 4), (12, .bool ([37] == t))], [], [], [], 0⟩) (σ' := σ) (ob := Tt 4) (by kernel_rfl) (tt 4) ?_
   refine ACode.cond (t := [37] == t) (by kernel_rfl) (fun h5 => ?_) (fun h5 => ?_)
   ·
    have h5k := eq_of_beq h5
    refine ACode.seq ?_
    refine ACode.run hT nh [2] (fr' := ⟨[(2, .i 4)], [], [], [], 0⟩) (σ' := σ) (ob := Tt 3) (by kernel_rfl) (tt 3) ?_
    refine ACode.ret ?_
    refine retQ.ret (.i 4) (by kernel_rfl) ?_
    refine ⟨rfl, ?_⟩
    rw [hP]; show _ = AEnd.ret (AV.int _ (if ([37] == t) = true then _ else _)); rw [h5]; rfl
   ·
    have h5k := ne_of_beq_false h5
    refine ACode.skip ?_
    refine ACode.run hT nh [0, 5, 6] (fr' := ⟨[(0, .str t), (5, .agg [.str [43], .str [45], .str [42], .str [47], .str [37], .str [61, 61], .str [33, 61], .str [60], .str [60, 61]]), (6, .i 5)], [], [], [], 0⟩) (σ' := σ) (ob := Tt 3) (by kernel_rfl) (tt 3) ?_
    refine ⟨by kernel_rfl, _, ?_, (.inr (.inr (.inr (.inr (.inr (.inl ⟨rfl, rfl, ?_, rfl⟩))))))⟩
    ·omega
    ·rw [hP, binFrom_4 t h5]
  ·
   refine ACode.seq ?_
   refine ACode.run hT nh [0, 5, 6, 7] (fr' := ⟨[(0, .str t), (5, .agg [.str [43], .str [45], .str [42], .str [47], .str [37], .str [61, 61], .str [33, 61], .str [60], .str [60, 61]]), (6, .i 5), (7, .bool true)], [], [], [], 0⟩) (σ' := σ) (ob := Tt 2) (by kernel_rfl) (tt 2) ?_
   refine ACode.seq ?_
   refine ACode.cond (t := true) (by kernel_rfl) (fun _ => ?_) (fun h => Bool.noConfusion h)
   refine ACode.skip ?_
   refine ACode.seq ?_
   refine ACode.block ?_
   refine ACode.seq ?_
   refine ACode.run hT nh [0, 3, 4, 5, 6] (fr' := ⟨[(0, .str t), (3, .i 5), (4, .str [61, 61]), (5, .agg [.str [43], .str [45], .str [42], .str [47], .str [37], .str [61, 61], .str [33, 61], .str [60], .str [60, 61]]), (6, .i 5)], [], [], [], 0⟩) (σ' := σ) (ob := True ∧ (0 ≤ (5 : Int) ∧ (5 : Int) < 9) ∧ True ∧ True ∧ True) (by kernel_rfl) ⟨trivial, (by first | omega | (simp; done) | (simp; omega)), trivial, trivial, trivial⟩ ?_
   refine ACode.seq ?_
   refine ACode.run hT nh [0, 3, 5, 6, 12] (fr' := ⟨[(0, .str t), (3, .i 5), (5, .agg [.str [43], .str [45], .str [42], .str [47], .str [37], .str [61, 61], .str [33, 61], .str [60], .str [60, 61]]), (6, .i 5), (12, .bool ([61, 61] == t))], [], [], [], 0⟩) (σ' := σ) (ob := Tt 4) (by kernel_rfl) (tt 4) ?_
   refine ACode.cond (t := [61, 61] == t) (by kernel_rfl) (fun h6 => ?_) (fun h6 => ?_)
   ·
    have h6k := eq_of_beq h6
    refine ACode.seq ?_
    refine ACode.run hT nh [2] (fr' := ⟨[(2, .i 5)], [], [], [], 0⟩) (σ' := σ) (ob := Tt 3) (by kernel_rfl) (tt 3) ?_
    refine ACode.ret ?_
    refine retQ.ret (.i 5) (by kernel_rfl) ?_
    refine ⟨rfl, ?_⟩
    rw [hP]; show _ = AEnd.ret (AV.int _ (if ([61, 61] == t) = true then _ else _)); rw [h6]; rfl
   ·
    have h6k := ne_of_beq_false h6
    refine ACode.skip ?_
    refine ACode.run hT nh [0, 5, 6] (fr' := ⟨[(0, .str t), (5, .agg [.str [43], .str [45], .str [42], .str [47], .str [37], .str [61, 61], .str [33, 61], .str [60], .str [60, 61]]), (6, .i 6)], [], [], [], 0⟩) (σ' := σ) (ob := Tt 3) (by kernel_rfl) (tt 3) ?_
    refine ⟨by kernel_rfl, _, ?_, (.inr (.inr (.inr (.inr (.inr (.inr (.inl ⟨rfl, rfl, ?_, rfl⟩)))))))⟩
    ·omega
    ·rw [hP, binFrom_5 t h6]
  ·
   refine ACode.seq ?_
   refine ACode.run hT nh [0, 5, 6, 7] (fr' := ⟨[(0, .str t), (5, .agg [.str [43], .str [45], .str [42], .str [47], .str [37], .str [61, 61], .str [33, 61], .str [60], .str [60, 61]]), (6, .i 6), (7, .bool true)], [], [], [], 0⟩) (σ' := σ) (ob := Tt 2) (by kernel_rfl) (tt 2) ?_
   refine ACode.seq ?_
   refine ACode.cond (t := true) (by kernel_rfl) (fun _ => ?_) (fun h => Bool.noConfusion h)
   refine ACode.skip ?_
   refine ACode.seq ?_
   refine ACode.block ?_
   refine ACode.seq ?_
   refine ACode.run hT nh [0, 3, 4, 5, 6] (fr' := ⟨[(0, .str t), (3, .i 6), (4, .str [33, 61]), (5, .agg [.str [43], .str [45], .str [42], .str [47], .str [37], .str [61, 61], .str [33, 61], .str [60], .str [60, 61]]), (6, .i 6)], [], [], [], 0⟩) (σ' := σ) (ob := True ∧ (0 ≤ (6 : Int) ∧ (6 : Int) < 9) ∧ True ∧ True ∧ True) (by kernel_rfl) ⟨trivial, (by first | omega | (simp; done) | (simp; omega)), trivial, trivial, trivial⟩ ?_
   refine ACode.seq ?_
   refine ACode.run hT nh [0, 3, 5, 6, 12] (fr' := ⟨[(0, .str t), (3, .i 6), (5, .agg [.str [43], .str [45], .str [42], .str [47], .str [37], .str [61, 61], .str [33, 61], .str [60], .str [60, 61]]), (6, .i 6), (12, .bool ([33, 61] == t))], [], [], [], 0⟩) (σ' := σ) (ob := Tt 4) (by kernel_rfl) (tt 4) ?_
   refine ACode.cond (t := [33, 61] == t) (by kernel_rfl) (fun h7 => ?_) (fun h7 => ?_)
   ·
    have h7k := eq_of_beq h7
    refine ACode.seq ?_
    refine ACode.run hT nh [2] (fr' := ⟨[(2, .i 6)], [], [], [], 0⟩) (σ' := σ) (ob := Tt 3) (by kernel_rfl) (tt 3) ?_
    refine ACode.ret ?_
    refine retQ.ret (.i 6) (by kernel_rfl) ?_
    refine ⟨rfl, ?_⟩
    rw [hP]; show _ = AEnd.ret (AV.int _ (if ([33, 61] == t) = true then _ else _)); rw [h7]; rfl
   ·
    have h7k := ne_of_beq_false h7
    refine ACode.skip ?_
    refine ACode.run hT nh [0, 5, 6] (fr' := ⟨[(0, .str t), (5, .agg [.str [43], .str [45], .str [42], .str [47], .str [37], .str [61, 61], .str [33, 61], .str [60], .str [60, 61]]), (6, .i 7)], [], [], [], 0⟩) (σ' := σ) (ob := Tt 3) (by kernel_rfl) (tt 3) ?_
    refine ⟨by kernel_rfl, _, ?_, (.inr (.inr (.inr (.inr (.inr (.inr (.inr (.inl ⟨rfl, rfl, ?_, rfl⟩))))))))⟩
    ·omega
    ·rw [hP, binFrom_6 t h7]
  ·
   refine ACode.seq ?_
   refine ACode.run hT nh [0, 5, 6, 7] (fr' := ⟨[(0, .str t), (5, .agg [.str [43], .str [45], .str [42], .str [47], .str [37], .str [61, 61], .str [33, 61], .str [60], .str [60, 61]]), (6, .i 7), (7, .bool true)], [], [], [], 0⟩) (σ' := σ) (ob := Tt 2) (by kernel_rfl) (tt 2) ?_
   refine ACode.seq ?_
   refine ACode.cond (t := true) (by kernel_rfl) (fun _ => ?_) (fun h => Bool.noConfusion h)
   refine ACode.skip ?_
   refine ACode.seq ?_
   refine ACode.block ?_
   refine ACode.seq ?_
   refine ACode.run hT nh [0, 3, 4, 5, 6] (fr' := ⟨[(0, .str t), (3, .i 7), (4, .str [60]), (5, .agg [.str [43], .str [45], .str [42], .str [47], .str [37], .str [61, 61], .str [33, 61], .str [60], .str [60, 61]]), (6, .i 7)], [], [], [], 0⟩) (σ' := σ) (ob := True ∧ (0 ≤ (7 : Int) ∧ (7 : Int) < 9) ∧ True ∧ True ∧ True) (by kernel_rfl) ⟨trivial, (by first | omega | (simp; done) | (simp; omega)), trivial, trivial, trivial⟩ ?_
   refine ACode.seq ?_
   refine ACode.run hT nh [0, 3, 5, 6, 12] (fr' := ⟨[(0, .str t), (3, .i 7), (5, .agg [.str [43], .str [45], .str [42], .str [47], .str [37], .str [61, 61], .str [33, 61], .str [60], .str [60, 61]]), (6, .i 7), (12, .bool ([60] == t))], [], [], [], 0⟩) (σ' := σ) (ob := Tt 4) (by kernel_rfl) (tt 4) ?_
   refine ACode.cond (t := [60] == t) (by kernel_rfl) (fun h8 => ?_) (fun h8 => ?_)
   ·
    have h8k := eq_of_beq h8
    refine ACode.seq ?_
    refine ACode.run hT nh [2] (fr' := ⟨[(2, .i 7)], [], [], [], 0⟩) (σ' := σ) (ob := Tt 3) (by kernel_rfl) (tt 3) ?_
    refine ACode.ret ?_
    refine retQ.ret (.i 7) (by kernel_rfl) ?_
    refine ⟨rfl, ?_⟩
    rw [hP]; show _ = AEnd.ret (AV.int _ (if ([60] == t) = true then _ else _)); rw [h8]; rfl
   ·
    have h8k := ne_of_beq_false h8
    refine ACode.skip ?_
    refine ACode.run hT nh [0, 5, 6] (fr' := ⟨[(0, .str t), (5, .agg [.str [43], .str [45], .str [42], .str [47], .str [37], .str [61, 61], .str [33, 61], .str [60], .str [60, 61]]), (6, .i 8)], [], [], [], 0⟩) (σ' := σ) (ob := Tt 3) (by kernel_rfl) (tt 3) ?_
    refine ⟨by kernel_rfl, _, ?_, (.inr (.inr (.inr (.inr (.inr (.inr (.inr (.inr (.inl ⟨rfl, rfl, ?_, rfl⟩)))))))))⟩
    ·omega
    ·rw [hP, binFrom_7 t h8]
  ·
   refine ACode.seq ?_
   refine ACode.run hT nh [0, 5, 6, 7] (fr' := ⟨[(0, .str t), (5, .agg [.str [43], .str [45], .str [42], .str [47], .str [37], .str [61, 61], .str [33, 61], .str [60], .str [60, 61]]), (6, .i 8), (7, .bool true)], [], [], [], 0⟩) (σ' := σ) (ob := Tt 2) (by kernel_rfl) (tt 2) ?_
   refine ACode.seq ?_
   refine ACode.cond (t := true) (by kernel_rfl) (fun _ => ?_) (fun h => Bool.noConfusion h)
   refine ACode.skip ?_
   refine ACode.seq ?_
   refine ACode.block ?_
   refine ACode.seq ?_
   refine ACode.run hT nh [0, 3, 4, 5, 6] (fr' := ⟨[(0, .str t), (3, .i 8), (4, .str [60, 61]), (5, .agg [.str [43], .str [45], .str [42], .str [47], .str [37], .str [61, 61], .str [33, 61], .str [60], .str [60, 61]]), (6, .i 8)], [], [], [], 0⟩) (σ' := σ) (ob := True ∧ (0 ≤ (8 : Int) ∧ (8 : Int) < 9) ∧ True ∧ True ∧ True) (by kernel_rfl) ⟨trivial, (by first | omega | (simp; done) | (simp; omega)), trivial, trivial, trivial⟩ ?_
   refine ACode.seq ?_
   refine ACode.run hT nh [0, 3, 5, 6, 12] (fr' := ⟨[(0, .str t), (3, .i 8), (5, .agg [.str [43], .str [45], .str [42], .str [47], .str [37], .str [61, 61], .str [33, 61], .str [60], .str [60, 61]]), (6, .i 8), (12, .bool ([60, 61] == t))], [], [], [], 0⟩) (σ' := σ) (ob := Tt 4) (by kernel_rfl) (tt 4) ?_
   refine ACode.cond (t := [60, 61] == t) (by kernel_rfl) (fun h9 => ?_) (fun h9 => ?_)
   ·
    have h9k := eq_of_beq h9
    refine ACode.seq ?_
    refine ACode.run hT nh [2] (fr' := ⟨[(2, .i 8)], [], [], [], 0⟩) (σ' := σ) (ob := Tt 3) (by kernel_rfl) (tt 3) ?_
    refine ACode.ret ?_
    refine retQ.ret (.i 8) (by kernel_rfl) ?_
    refine ⟨rfl, ?_⟩
    rw [hP]; show _ = AEnd.ret (AV.int _ (if ([60, 61] == t) = true then _ else _)); rw [h9]; rfl
   ·
    have h9k := ne_of_beq_false h9
    refine ACode.skip ?_
    refine ACode.run hT nh [0, 5, 6] (fr' := ⟨[(0, .str t), (5, .agg [.str [43], .str [45], .str [42], .str [47], .str [37], .str [61, 61], .str [33, 61], .str [60], .str [60, 61]]), (6, .i 9)], [], [], [], 0⟩) (σ' := σ) (ob := Tt 3) (by kernel_rfl) (tt 3) ?_
    refine ⟨by kernel_rfl, _, ?_, (.inr (.inr (.inr (.inr (.inr (.inr (.inr (.inr (.inr ⟨rfl, rfl, ?_, rfl⟩)))))))))⟩
    ·omega
    ·rw [hP, binFrom_8 t h9]
  ·
   refine ACode.seq ?_
   refine ACode.run hT nh [0, 5, 6, 7] (fr' := ⟨[(0, .str t), (5, .agg [.str [43], .str [45], .str [42], .str [47], .str [37], .str [61, 61], .str [33, 61], .str [60], .str [60, 61]]), (6, .i 9), (7, .bool false)], [], [], [], 0⟩) (σ' := σ) (ob := Tt 2) (by kernel_rfl) (tt 2) ?_
   refine ACode.seq ?_
   refine ACode.cond (t := false) (by kernel_rfl) (fun h => Bool.noConfusion h) (fun _ => ?_)
   refine ACode.exit ?_
   refine ACode.seq ?_
   refine ACode.run hT nh [2] (fr' := ⟨[(2, .i 0)], [], [], [], 0⟩) (σ' := σ) (ob := Tt 2) (by kernel_rfl) (tt 2) ?_
   refine ACode.ret ?_
   refine retQ.ret (.i 0) (by kernel_rfl) ?_
   refine ⟨rfl, ?_⟩
   rw [hP]; rfl
theorem signs_walk (v : Nat) (hv : v < 3) (σ : St) : ACalls Tryd.prog 104 [.i (v : Int)] σ (fun e s => σ = s ∧ e = .ret (.str (signsS v))) := by
  match v, hv with
  | 0, _ =>
   refine ACalls.enter hT Tryd.func104 rfl (by kernel_rfl) ?_
   refine ACode.seq ?_
   refine ACode.run hT nh [0] (fr' := ⟨[(0, .i 0)], [], [], [], 0⟩) (σ' := σ) (ob := Tt 2) (by kernel_rfl) (tt 2) ?_
   refine ACode.seq ?_
   refine ACode.run hT nh [2] (fr' := ⟨[(2, .str [32, 61, 61, 32, 33, 61, 32, 60, 32, 60, 61, 32])], [], [], [], 0⟩) (σ' := σ) (ob := True ∧ True ∧ (0 ≤ (0 : Int) ∧ (0 : Int) < 3) ∧ True ∧ True) (by kernel_rfl) ⟨trivial, trivial, (by first | omega | (simp; done) | (simp; omega)), trivial, trivial⟩ ?_
   refine ACode.ret ?_
   exact retQ.ret (.str [32, 61, 61, 32, 33, 61, 32, 60, 32, 60, 61, 32]) (by kernel_rfl) ⟨rfl, rfl⟩
  
  | 1, _ =>
   refine ACalls.enter hT Tryd.func104 rfl (by kernel_rfl) ?_
   refine ACode.seq ?_
   refine ACode.run hT nh [0] (fr' := ⟨[(0, .i 1)], [], [], [], 0⟩) (σ' := σ) (ob := Tt 2) (by kernel_rfl) (tt 2) ?_
   refine ACode.seq ?_
   refine ACode.run hT nh [2] (fr' := ⟨[(2, .str [32, 43, 32, 45, 32])], [], [], [], 0⟩) (σ' := σ) (ob := True ∧ True ∧ (0 ≤ (1 : Int) ∧ (1 : Int) < 3) ∧ True ∧ True) (by kernel_rfl) ⟨trivial, trivial, (by first | omega | (simp; done) | (simp; omega)), trivial, trivial⟩ ?_
   refine ACode.ret ?_
   exact retQ.ret (.str [32, 43, 32, 45, 32]) (by kernel_rfl) ⟨rfl, rfl⟩
  
  | 2, _ =>
   refine ACalls.enter hT Tryd.func104 rfl (by kernel_rfl) ?_
   refine ACode.seq ?_
   refine ACode.run hT nh [0] (fr' := ⟨[(0, .i 2)], [], [], [], 0⟩) (σ' := σ) (ob := Tt 2) (by kernel_rfl) (tt 2) ?_
   refine ACode.seq ?_
   refine ACode.run hT nh [2] (fr' := ⟨[(2, .str [32, 42, 32, 47, 32, 37, 32])], [], [], [], 0⟩) (σ' := σ) (ob := True ∧ True ∧ (0 ≤ (2 : Int) ∧ (2 : Int) < 3) ∧ True ∧ True) (by kernel_rfl) ⟨trivial, trivial, (by first | omega | (simp; done) | (simp; omega)), trivial, trivial⟩ ?_
   refine ACode.ret ?_
   exact retQ.ret (.str [32, 42, 32, 47, 32, 37, 32]) (by kernel_rfl) ⟨rfl, rfl⟩
  
theorem p_label (l : List Tok) (lo : Own) (hll : l.length ≤ 100000)  (s : PS)  (hne : labelF l s ≠ .out) : ACalls Tryd.prog 76 [.ptr 0 0] [psAV lo l s] (PR (fun (t : List UInt8) => .str t) lo l (labelF l s)) := by
  generalize hX : labelF l s = X at hne ⊢
  refine ACalls.soft ?_
  unfold labelF at hX
  refine ACalls.enter hT Tryd.func76 rfl (by kernel_rfl) ?_
  refine ACode.seq ?_
  refine ACode.run hT nh [0] (fr' := ⟨[(0, .ptr 0 0)], [], [], [], 0⟩) (σ' := [psAV lo l s]) (ob := Tt 2) (by kernel_rfl) (tt 2) ?_
  refine ACode.seq ?_
  refine ACode.seq ?_
  refine ACode.region ?_
  refine AOps.runN hT nh 1 [0, 3] (fr' := ⟨[(0, .ptr 0 0), (3, .ptr 0 0)], [], [], [], 0⟩) (σ' := [psAV lo l s]) (ob := Tt 2) (by kernel_rfl) (tt 2) ?_
  have nk1 : peekF l s ≠ .out := by intro h9; simp only [h9, R.out_bind] at hX; exact hne hX.symm
  refine AOps.call (fid := 40) (cap := []) (avs := [.ptr 0 0]) (by kernel_rfl) rfl (by kernel_rfl) (by kernel_rfl) en_40 (by kernel_rfl) (ACalls.mono (p_peek l lo hll s nk1) ?_)
  cases k1 : peekF l s with
  | out => exact absurd k1 nk1
  | bad ea eb ec =>
   rintro _ _ ⟨rfl, pp, dd, rfl⟩
   simp only [k1, R.bad_bind] at hX
   subst hX
   exact PR.bad_intro (vAV := fun (t : List UInt8) => .str t) pp dd rfl rfl
  | ok v2 s3 =>
   rintro _ _ ⟨rfl, rfl⟩
   simp only [k1, R.ok_bind] at hX
   obtain ⟨hsk1, hpk1, hvk1⟩ := peekF_ok k1
   refine AOps.runN hT nh 2 [0, 6] (fr' := ⟨[(0, .ptr 0 0), (6, .bool (v2.kind == 1))], [], [], [], 0⟩) (σ' := [psAV lo l s3]) (ob := Tt 3) (by kernel_rfl) (tt 3) ?_
   refine AOps.nil ?_
   refine ACode.cond (t := v2.kind == 1) (by kernel_rfl) (fun h4 => ?_) (fun h4 => ?_)
   ·
    have h4k := eq_of_beq h4
    try simp only [h4, Bool.false_eq_true, Bool.not_true, Bool.not_false, if_true, if_false] at hX
    refine ACode.seq ?_
    refine ACode.region ?_
    refine AOps.runN hT nh 1 [7] (fr' := ⟨[(7, .ptr 0 0)], [], [], [], 0⟩) (σ' := [psAV lo l s3]) (ob := Tt 2) (by kernel_rfl) (tt 2) ?_
    have nk5 : nextF l s3 ≠ .out := by intro h9; simp only [h9, R.out_bind] at hX; exact hne hX.symm
    refine AOps.call (fid := 69) (cap := []) (avs := [.ptr 0 0]) (by kernel_rfl) rfl (by kernel_rfl) (by kernel_rfl) en_69 (by kernel_rfl) (ACalls.mono (p_next l lo hll s3 nk5) ?_)
    cases k5 : nextF l s3 with
    | out => exact absurd k5 nk5
    | bad ea eb ec =>
     rintro _ _ ⟨rfl, pp, dd, rfl⟩
     simp only [k5, R.bad_bind] at hX
     subst hX
     exact PR.bad_intro (vAV := fun (t : List UInt8) => .str t) pp dd rfl rfl
    | ok v6 s7 =>
     rintro _ _ ⟨rfl, rfl⟩
     simp only [k5, R.ok_bind] at hX
     refine AOps.runN hT nh 2 [2] (fr' := ⟨[(2, .str v6.text)], [], [], [], 0⟩) (σ' := [psAV lo l s7]) (ob := Tt 3) (by kernel_rfl) (tt 3) ?_
     refine AOps.nil ?_
     refine ACode.ret ?_
     refine retQ.ret (.str v6.text) (by kernel_rfl) ?_
     subst hX
     exact PR.ok_intro rfl rfl
   ·
    have h4k := ne_of_beq_false h4
    try simp only [h4, Bool.false_eq_true, Bool.not_true, Bool.not_false, if_true, if_false] at hX
    refine ACode.skip ?_
    refine ACode.seq ?_
    refine ACode.run hT nh [2] (fr' := ⟨[(2, .str [])], [], [], [], 0⟩) (σ' := [psAV lo l s3]) (ob := Tt 2) (by kernel_rfl) (tt 2) ?_
    refine ACode.ret ?_
    refine retQ.ret (.str []) (by kernel_rfl) ?_
    subst hX
    exact PR.ok_intro rfl rfl

def typ4 (l : List Tok) (s : PS) : R Ty := (kindF l 1 s).bind fun t s => .ok ⟨4, t.text⟩ s
def typ3 (l : List Tok) (s : PS) : R Ty := (eatF l [105, 110, 116, 115] s).bind fun b s => if b then .ok ⟨3, []⟩ s else typ4 l s
def typ2 (l : List Tok) (s : PS) : R Ty := (eatF l [114, 101, 97, 108] s).bind fun b s => if b then .ok ⟨2, []⟩ s else typ3 l s
def typ1 (l : List Tok) (s : PS) : R Ty := (eatF l [105, 110, 116] s).bind fun b s => if b then .ok ⟨1, []⟩ s else typ2 l s
theorem typF_from (l : List Tok) (s : PS) : typF l s = typ1 l s := by simp only [typF, typ1, typ2, typ3, typ4]
theorem p_typ (l : List Tok) (lo : Own) (hll : l.length ≤ 100000)  (s : PS)  (hne : typF l s ≠ .out) : ACalls Tryd.prog 58 [.ptr 0 0] [psAV lo l s] (PR (fun (y : Ty) => .agg (tyAV y)) lo l (typF l s)) := by
  generalize hX : typF l s = X at hne ⊢
  refine ACalls.soft ?_
  rw [typF_from] at hX
  refine ACalls.enter hT Tryd.func58 rfl (by kernel_rfl) ?_
  refine ACode.seq ?_
  refine ACode.run hT nh [0, 2] (fr' := ⟨[(0, .ptr 0 0), (2, .loc 0 0)], [[.i 0, .str []]], [], [], 0⟩) (σ' := [psAV lo l s]) (ob := Tt 2) (by kernel_rfl) (tt 2) ?_
  refine ACode.seq ?_
  refine ACode.seq ?_
  refine ACode.run hT nh [0, 2, 5, 6] (fr' := ⟨[(0, .ptr 0 0), (2, .loc 0 0), (5, .agg [.str [], .str [105, 110, 116], .str [114, 101, 97, 108], .str [105, 110, 116, 115]]), (6, .i 0)], [[.i 0, .str []]], [], [], 0⟩) (σ' := [psAV lo l s]) (ob := Tt 3) (by kernel_rfl) (tt 3) ?_
  refine ACode.block ?_
  refine ACode.loop [0, 2, 5, 6] 1 0 (fun n0 fr σ' => ( fr = ⟨[(0, .ptr 0 0), (2, .loc 0 0), (5, .agg [.str [], .str [105, 110, 116], .str [114, 101, 97, 108], .str [105, 110, 116, 115]]), (6, .i 0)], [[.i 0, .str []]], [], [], 0⟩ ∧ σ' = [psAV lo l s] ∧ (typ1 l s = X) ∧ n0 = 5) ∨ ( fr = ⟨[(0, .ptr 0 0), (2, .loc 0 0), (5, .agg [.str [], .str [105, 110, 116], .str [114, 101, 97, 108], .str [105, 110, 116, 115]]), (6, .i 1)], [[.i 0, .str []]], [], [], 0⟩ ∧ σ' = [psAV lo l s] ∧ (typ1 l s = X) ∧ n0 = 4) ∨ (∃ (s2x : PS), fr = ⟨[(0, .ptr 0 0), (2, .loc 0 0), (5, .agg [.str [], .str [105, 110, 116], .str [114, 101, 97, 108], .str [105, 110, 116, 115]]), (6, .i 2)], [[.i 0, .str []]], [], [], 0⟩ ∧ σ' = [psAV lo l s2x] ∧ (typ2 l s2x = X) ∧ n0 = 3) ∨ (∃ (s3x : PS), fr = ⟨[(0, .ptr 0 0), (2, .loc 0 0), (5, .agg [.str [], .str [105, 110, 116], .str [114, 101, 97, 108], .str [105, 110, 116, 115]]), (6, .i 3)], [[.i 0, .str []]], [], [], 0⟩ ∧ σ' = [psAV lo l s3x] ∧ (typ3 l s3x = X) ∧ n0 = 2) ∨ (∃ (s4x : PS), fr = ⟨[(0, .ptr 0 0), (2, .loc 0 0), (5, .agg [.str [], .str [105, 110, 116], .str [114, 101, 97, 108], .str [105, 110, 116, 115]]), (6, .i 4)], [[.i 0, .str []]], [], [], 0⟩ ∧ σ' = [psAV lo l s4x] ∧ (typ4 l s4x = X) ∧ n0 = 1)) _ (by kernel_rfl) (.inl ⟨rfl, rfl, hX, rfl⟩) ?_
  rintro n0 fr σ' (⟨rfl, rfl, hX, rfl⟩ | ⟨rfl, rfl, hX, rfl⟩ | ⟨s2x, rfl, rfl, hX, rfl⟩ | ⟨s3x, rfl, rfl, hX, rfl⟩ | ⟨s4x, rfl, rfl, hX, rfl⟩)
  ·
   refine ACode.seq ?_
   refine ACode.run hT nh [0, 2, 5, 6, 7] (fr' := ⟨[(0, .ptr 0 0), (2, .loc 0 0), (5, .agg [.str [], .str [105, 110, 116], .str [114, 101, 97, 108], .str [105, 110, 116, 115]]), (6, .i 0), (7, .bool true)], [[.i 0, .str []]], [], [], 0⟩) (σ' := [psAV lo l s]) (ob := Tt 2) (by kernel_rfl) (tt 2) ?_
   refine ACode.seq ?_
   refine ACode.cond (t := true) (by kernel_rfl) (fun _ => ?_) (fun h => Bool.noConfusion h)
   refine ACode.skip ?_
   refine ACode.seq ?_
   refine ACode.block ?_
   refine ACode.seq ?_
   refine ACode.run hT nh [0, 2, 3, 4, 5, 6] (fr' := ⟨[(0, .ptr 0 0), (2, .loc 0 0), (3, .i 0), (4, .str []), (5, .agg [.str [], .str [105, 110, 116], .str [114, 101, 97, 108], .str [105, 110, 116, 115]]), (6, .i 0)], [[.i 0, .str []]], [], [], 0⟩) (σ' := [psAV lo l s]) (ob := True ∧ (0 ≤ (0 : Int) ∧ (0 : Int) < 4) ∧ True ∧ True ∧ True) (by kernel_rfl) ⟨trivial, (by first | omega | (simp; done) | (simp; omega)), trivial, trivial, trivial⟩ ?_
   refine ACode.seq ?_
   refine ACode.region ?_
   refine AOps.runN hT nh 7 [0, 2, 3, 5, 6, 16] (fr' := ⟨[(0, .ptr 0 0), (2, .loc 0 0), (3, .i 0), (5, .agg [.str [], .str [105, 110, 116], .str [114, 101, 97, 108], .str [105, 110, 116, 115]]), (6, .i 0), (16, .bool false)], [[.i 0, .str []]], [], [], 0⟩) (σ' := [psAV lo l s]) (ob := Tt 5) (by kernel_rfl) (tt 5) ?_
   refine AOps.nil ?_
   refine ACode.cond (t := false) (by kernel_rfl) (fun h => Bool.noConfusion h) (fun _ => ?_)
   refine ACode.skip ?_
   refine ACode.run hT nh [0, 2, 5, 6] (fr' := ⟨[(0, .ptr 0 0), (2, .loc 0 0), (5, .agg [.str [], .str [105, 110, 116], .str [114, 101, 97, 108], .str [105, 110, 116, 115]]), (6, .i 1)], [[.i 0, .str []]], [], [], 0⟩) (σ' := [psAV lo l s]) (ob := Tt 3) (by kernel_rfl) (tt 3) ?_
   refine ⟨by kernel_rfl, _, ?_, (.inr (.inl ⟨rfl, rfl, ?_, rfl⟩))⟩
   ·omega
   ·exact hX
  ·
   unfold typ1 at hX
   refine ACode.seq ?_
   refine ACode.run hT nh [0, 2, 5, 6, 7] (fr' := ⟨[(0, .ptr 0 0), (2, .loc 0 0), (5, .agg [.str [], .str [105, 110, 116], .str [114, 101, 97, 108], .str [105, 110, 116, 115]]), (6, .i 1), (7, .bool true)], [[.i 0, .str []]], [], [], 0⟩) (σ' := [psAV lo l s]) (ob := Tt 2) (by kernel_rfl) (tt 2) ?_
   refine ACode.seq ?_
   refine ACode.cond (t := true) (by kernel_rfl) (fun _ => ?_) (fun h => Bool.noConfusion h)
   refine ACode.skip ?_
   refine ACode.seq ?_
   refine ACode.block ?_
   refine ACode.seq ?_
   refine ACode.run hT nh [0, 2, 3, 4, 5, 6] (fr' := ⟨[(0, .ptr 0 0), (2, .loc 0 0), (3, .i 1), (4, .str [105, 110, 116]), (5, .agg [.str [], .str [105, 110, 116], .str [114, 101, 97, 108], .str [105, 110, 116, 115]]), (6, .i 1)], [[.i 0, .str []]], [], [], 0⟩) (σ' := [psAV lo l s]) (ob := True ∧ (0 ≤ (1 : Int) ∧ (1 : Int) < 4) ∧ True ∧ True ∧ True) (by kernel_rfl) ⟨trivial, (by first | omega | (simp; done) | (simp; omega)), trivial, trivial, trivial⟩ ?_
   refine ACode.seq ?_
   refine ACode.region ?_
   refine AOps.runN hT nh 5 [0, 2, 3, 5, 6, 12, 13, 14] (fr' := ⟨[(0, .ptr 0 0), (2, .loc 0 0), (3, .i 1), (5, .agg [.str [], .str [105, 110, 116], .str [114, 101, 97, 108], .str [105, 110, 116, 115]]), (6, .i 1), (12, .bool true), (13, .ptr 0 0), (14, .str [105, 110, 116])], [[.i 0, .str []]], [], [], 0⟩) (σ' := [psAV lo l s]) (ob := Tt 6) (by kernel_rfl) (tt 6) ?_
   have nk1 : eatF l [105, 110, 116] s ≠ .out := by intro h9; simp only [h9, R.out_bind] at hX; exact hne hX.symm
   refine AOps.call (fid := 41) (cap := []) (avs := [.ptr 0 0, .str [105, 110, 116]]) (by kernel_rfl) rfl (by kernel_rfl) (by kernel_rfl) en_41 (by kernel_rfl) (ACalls.mono (p_eat l lo hll [105, 110, 116] s nk1) ?_)
   cases k1 : eatF l [105, 110, 116] s with
   | out => exact absurd k1 nk1
   | bad ea eb ec =>
    rintro _ _ ⟨rfl, pp, dd, rfl⟩
    simp only [k1, R.bad_bind] at hX
    subst hX
    exact PR.bad_intro (vAV := fun (y : Ty) => .agg (tyAV y)) pp dd rfl rfl
   | ok v2 s3 =>
    rintro _ _ ⟨rfl, rfl⟩
    simp only [k1, R.ok_bind] at hX
    refine AOps.runN hT nh 1 [0, 2, 3, 5, 6, 16] (fr' := ⟨[(0, .ptr 0 0), (2, .loc 0 0), (3, .i 1), (5, .agg [.str [], .str [105, 110, 116], .str [114, 101, 97, 108], .str [105, 110, 116, 115]]), (6, .i 1), (16, .bool v2)], [[.i 0, .str []]], [], [], 0⟩) (σ' := [psAV lo l s3]) (ob := Tt 2) (by kernel_rfl) (tt 2) ?_
    refine AOps.nil ?_
    refine ACode.cond (t := v2) (by kernel_rfl) (fun h4 => ?_) (fun h4 => ?_)
    ·
     try simp only [h4, Bool.false_eq_true, Bool.not_true, Bool.not_false, if_true, if_false] at hX
     refine ACode.seq ?_
     refine ACode.run hT nh [2] (fr' := ⟨[(2, .loc 0 0)], [[.i 1, .str []]], [], [], 0⟩) (σ' := [psAV lo l s3]) (ob := Tt 4) (by kernel_rfl) (tt 4) ?_
     refine ACode.ret ?_
     refine retQ.ret (.agg [.i 1, .str []]) (by kernel_rfl) ?_
     subst hX
     exact PR.ok_intro rfl rfl
    ·
     try simp only [h4, Bool.false_eq_true, Bool.not_true, Bool.not_false, if_true, if_false] at hX
     refine ACode.skip ?_
     refine ACode.run hT nh [0, 2, 5, 6] (fr' := ⟨[(0, .ptr 0 0), (2, .loc 0 0), (5, .agg [.str [], .str [105, 110, 116], .str [114, 101, 97, 108], .str [105, 110, 116, 115]]), (6, .i 2)], [[.i 0, .str []]], [], [], 0⟩) (σ' := [psAV lo l s3]) (ob := Tt 3) (by kernel_rfl) (tt 3) ?_
     refine ⟨by kernel_rfl, _, ?_, (.inr (.inr (.inl ⟨s3, rfl, rfl, ?_, rfl⟩)))⟩
     ·omega
     ·exact hX
  ·
   unfold typ2 at hX
   refine ACode.seq ?_
   refine ACode.run hT nh [0, 2, 5, 6, 7] (fr' := ⟨[(0, .ptr 0 0), (2, .loc 0 0), (5, .agg [.str [], .str [105, 110, 116], .str [114, 101, 97, 108], .str [105, 110, 116, 115]]), (6, .i 2), (7, .bool true)], [[.i 0, .str []]], [], [], 0⟩) (σ' := [psAV lo l s2x]) (ob := Tt 2) (by kernel_rfl) (tt 2) ?_
   refine ACode.seq ?_
   refine ACode.cond (t := true) (by kernel_rfl) (fun _ => ?_) (fun h => Bool.noConfusion h)
   refine ACode.skip ?_
   refine ACode.seq ?_
   refine ACode.block ?_
   refine ACode.seq ?_
   refine ACode.run hT nh [0, 2, 3, 4, 5, 6] (fr' := ⟨[(0, .ptr 0 0), (2, .loc 0 0), (3, .i 2), (4, .str [114, 101, 97, 108]), (5, .agg [.str [], .str [105, 110, 116], .str [114, 101, 97, 108], .str [105, 110, 116, 115]]), (6, .i 2)], [[.i 0, .str []]], [], [], 0⟩) (σ' := [psAV lo l s2x]) (ob := True ∧ (0 ≤ (2 : Int) ∧ (2 : Int) < 4) ∧ True ∧ True ∧ True) (by kernel_rfl) ⟨trivial, (by first | omega | (simp; done) | (simp; omega)), trivial, trivial, trivial⟩ ?_
   refine ACode.seq ?_
   refine ACode.region ?_
   refine AOps.runN hT nh 5 [0, 2, 3, 5, 6, 12, 13, 14] (fr' := ⟨[(0, .ptr 0 0), (2, .loc 0 0), (3, .i 2), (5, .agg [.str [], .str [105, 110, 116], .str [114, 101, 97, 108], .str [105, 110, 116, 115]]), (6, .i 2), (12, .bool true), (13, .ptr 0 0), (14, .str [114, 101, 97, 108])], [[.i 0, .str []]], [], [], 0⟩) (σ' := [psAV lo l s2x]) (ob := Tt 6) (by kernel_rfl) (tt 6) ?_
   have nk5 : eatF l [114, 101, 97, 108] s2x ≠ .out := by intro h9; simp only [h9, R.out_bind] at hX; exact hne hX.symm
   refine AOps.call (fid := 41) (cap := []) (avs := [.ptr 0 0, .str [114, 101, 97, 108]]) (by kernel_rfl) rfl (by kernel_rfl) (by kernel_rfl) en_41 (by kernel_rfl) (ACalls.mono (p_eat l lo hll [114, 101, 97, 108] s2x nk5) ?_)
   cases k5 : eatF l [114, 101, 97, 108] s2x with
   | out => exact absurd k5 nk5
   | bad ea eb ec =>
    rintro _ _ ⟨rfl, pp, dd, rfl⟩
    simp only [k5, R.bad_bind] at hX
    subst hX
    exact PR.bad_intro (vAV := fun (y : Ty) => .agg (tyAV y)) pp dd rfl rfl
   | ok v6 s7 =>
    rintro _ _ ⟨rfl, rfl⟩
    simp only [k5, R.ok_bind] at hX
    refine AOps.runN hT nh 1 [0, 2, 3, 5, 6, 16] (fr' := ⟨[(0, .ptr 0 0), (2, .loc 0 0), (3, .i 2), (5, .agg [.str [], .str [105, 110, 116], .str [114, 101, 97, 108], .str [105, 110, 116, 115]]), (6, .i 2), (16, .bool v6)], [[.i 0, .str []]], [], [], 0⟩) (σ' := [psAV lo l s7]) (ob := Tt 2) (by kernel_rfl) (tt 2) ?_
    refine AOps.nil ?_
    refine ACode.cond (t := v6) (by kernel_rfl) (fun h8 => ?_) (fun h8 => ?_)
    ·
     try simp only [h8, Bool.false_eq_true, Bool.not_true, Bool.not_false, if_true, if_false] at hX
     refine ACode.seq ?_
     refine ACode.run hT nh [2] (fr' := ⟨[(2, .loc 0 0)], [[.i 2, .str []]], [], [], 0⟩) (σ' := [psAV lo l s7]) (ob := Tt 4) (by kernel_rfl) (tt 4) ?_
     refine ACode.ret ?_
     refine retQ.ret (.agg [.i 2, .str []]) (by kernel_rfl) ?_
     subst hX
     exact PR.ok_intro rfl rfl
    ·
     try simp only [h8, Bool.false_eq_true, Bool.not_true, Bool.not_false, if_true, if_false] at hX
     refine ACode.skip ?_
     refine ACode.run hT nh [0, 2, 5, 6] (fr' := ⟨[(0, .ptr 0 0), (2, .loc 0 0), (5, .agg [.str [], .str [105, 110, 116], .str [114, 101, 97, 108], .str [105, 110, 116, 115]]), (6, .i 3)], [[.i 0, .str []]], [], [], 0⟩) (σ' := [psAV lo l s7]) (ob := Tt 3) (by kernel_rfl) (tt 3) ?_
     refine ⟨by kernel_rfl, _, ?_, (.inr (.inr (.inr (.inl ⟨s7, rfl, rfl, ?_, rfl⟩))))⟩
     ·omega
     ·exact hX
  ·
   unfold typ3 at hX
   refine ACode.seq ?_
   refine ACode.run hT nh [0, 2, 5, 6, 7] (fr' := ⟨[(0, .ptr 0 0), (2, .loc 0 0), (5, .agg [.str [], .str [105, 110, 116], .str [114, 101, 97, 108], .str [105, 110, 116, 115]]), (6, .i 3), (7, .bool true)], [[.i 0, .str []]], [], [], 0⟩) (σ' := [psAV lo l s3x]) (ob := Tt 2) (by kernel_rfl) (tt 2) ?_
   refine ACode.seq ?_
   refine ACode.cond (t := true) (by kernel_rfl) (fun _ => ?_) (fun h => Bool.noConfusion h)
   refine ACode.skip ?_
   refine ACode.seq ?_
   refine ACode.block ?_
   refine ACode.seq ?_
   refine ACode.run hT nh [0, 2, 3, 4, 5, 6] (fr' := ⟨[(0, .ptr 0 0), (2, .loc 0 0), (3, .i 3), (4, .str [105, 110, 116, 115]), (5, .agg [.str [], .str [105, 110, 116], .str [114, 101, 97, 108], .str [105, 110, 116, 115]]), (6, .i 3)], [[.i 0, .str []]], [], [], 0⟩) (σ' := [psAV lo l s3x]) (ob := True ∧ (0 ≤ (3 : Int) ∧ (3 : Int) < 4) ∧ True ∧ True ∧ True) (by kernel_rfl) ⟨trivial, (by first | omega | (simp; done) | (simp; omega)), trivial, trivial, trivial⟩ ?_
   refine ACode.seq ?_
   refine ACode.region ?_
   refine AOps.runN hT nh 5 [0, 2, 3, 5, 6, 12, 13, 14] (fr' := ⟨[(0, .ptr 0 0), (2, .loc 0 0), (3, .i 3), (5, .agg [.str [], .str [105, 110, 116], .str [114, 101, 97, 108], .str [105, 110, 116, 115]]), (6, .i 3), (12, .bool true), (13, .ptr 0 0), (14, .str [105, 110, 116, 115])], [[.i 0, .str []]], [], [], 0⟩) (σ' := [psAV lo l s3x]) (ob := Tt 6) (by kernel_rfl) (tt 6) ?_
   have nk9 : eatF l [105, 110, 116, 115] s3x ≠ .out := by intro h9; simp only [h9, R.out_bind] at hX; exact hne hX.symm
   refine AOps.call (fid := 41) (cap := []) (avs := [.ptr 0 0, .str [105, 110, 116, 115]]) (by kernel_rfl) rfl (by kernel_rfl) (by kernel_rfl) en_41 (by kernel_rfl) (ACalls.mono (p_eat l lo hll [105, 110, 116, 115] s3x nk9) ?_)
   cases k9 : eatF l [105, 110, 116, 115] s3x with
   | out => exact absurd k9 nk9
   | bad ea eb ec =>
    rintro _ _ ⟨rfl, pp, dd, rfl⟩
    simp only [k9, R.bad_bind] at hX
    subst hX
    exact PR.bad_intro (vAV := fun (y : Ty) => .agg (tyAV y)) pp dd rfl rfl
   | ok v10 s11 =>
    rintro _ _ ⟨rfl, rfl⟩
    simp only [k9, R.ok_bind] at hX
    refine AOps.runN hT nh 1 [0, 2, 3, 5, 6, 16] (fr' := ⟨[(0, .ptr 0 0), (2, .loc 0 0), (3, .i 3), (5, .agg [.str [], .str [105, 110, 116], .str [114, 101, 97, 108], .str [105, 110, 116, 115]]), (6, .i 3), (16, .bool v10)], [[.i 0, .str []]], [], [], 0⟩) (σ' := [psAV lo l s11]) (ob := Tt 2) (by kernel_rfl) (tt 2) ?_
    refine AOps.nil ?_
    refine ACode.cond (t := v10) (by kernel_rfl) (fun h12 => ?_) (fun h12 => ?_)
    ·
     try simp only [h12, Bool.false_eq_true, Bool.not_true, Bool.not_false, if_true, if_false] at hX
     refine ACode.seq ?_
     refine ACode.run hT nh [2] (fr' := ⟨[(2, .loc 0 0)], [[.i 3, .str []]], [], [], 0⟩) (σ' := [psAV lo l s11]) (ob := Tt 4) (by kernel_rfl) (tt 4) ?_
     refine ACode.ret ?_
     refine retQ.ret (.agg [.i 3, .str []]) (by kernel_rfl) ?_
     subst hX
     exact PR.ok_intro rfl rfl
    ·
     try simp only [h12, Bool.false_eq_true, Bool.not_true, Bool.not_false, if_true, if_false] at hX
     refine ACode.skip ?_
     refine ACode.run hT nh [0, 2, 5, 6] (fr' := ⟨[(0, .ptr 0 0), (2, .loc 0 0), (5, .agg [.str [], .str [105, 110, 116], .str [114, 101, 97, 108], .str [105, 110, 116, 115]]), (6, .i 4)], [[.i 0, .str []]], [], [], 0⟩) (σ' := [psAV lo l s11]) (ob := Tt 3) (by kernel_rfl) (tt 3) ?_
     refine ⟨by kernel_rfl, _, ?_, (.inr (.inr (.inr (.inr ⟨s11, rfl, rfl, ?_, rfl⟩))))⟩
     ·omega
     ·exact hX
  ·
   unfold typ4 at hX
   refine ACode.seq ?_
   refine ACode.run hT nh [0, 2, 5, 6, 7] (fr' := ⟨[(0, .ptr 0 0), (2, .loc 0 0), (5, .agg [.str [], .str [105, 110, 116], .str [114, 101, 97, 108], .str [105, 110, 116, 115]]), (6, .i 4), (7, .bool false)], [[.i 0, .str []]], [], [], 0⟩) (σ' := [psAV lo l s4x]) (ob := Tt 2) (by kernel_rfl) (tt 2) ?_
   refine ACode.seq ?_
   refine ACode.cond (t := false) (by kernel_rfl) (fun h => Bool.noConfusion h) (fun _ => ?_)
   refine ACode.exit ?_
   refine ACode.seq ?_
   refine ACode.region ?_
   refine AOps.runN hT nh 1 [2, 20] (fr' := ⟨[(2, .loc 0 0), (20, .ptr 0 0)], [[.i 0, .str []]], [], [], 0⟩) (σ' := [psAV lo l s4x]) (ob := Tt 2) (by kernel_rfl) (tt 2) ?_
   have nk13 : kindF l 1 s4x ≠ .out := by intro h9; simp only [h9, R.out_bind] at hX; exact hne hX.symm
   refine AOps.call (fid := 57) (cap := []) (avs := [.ptr 0 0, .i 1]) (by kernel_rfl) rfl (by kernel_rfl) (by kernel_rfl) en_57 (by kernel_rfl) (ACalls.mono (p_kind l lo hll 1 s4x nk13) ?_)
   cases k13 : kindF l 1 s4x with
   | out => exact absurd k13 nk13
   | bad ea eb ec =>
    rintro _ _ ⟨rfl, pp, dd, rfl⟩
    simp only [k13, R.bad_bind] at hX
    subst hX
    exact PR.bad_intro (vAV := fun (y : Ty) => .agg (tyAV y)) pp dd rfl rfl
   | ok v14 s15 =>
    rintro _ _ ⟨rfl, rfl⟩
    simp only [k13, R.ok_bind] at hX
    refine AOps.runN hT nh 3 [2] (fr' := ⟨[(2, .loc 0 0)], [[.i 4, .str v14.text]], [], [], 0⟩) (σ' := [psAV lo l s15]) (ob := Tt 4) (by kernel_rfl) (tt 4) ?_
    refine AOps.nil ?_
    refine ACode.ret ?_
    refine retQ.ret (.agg [.i 4, .str v14.text]) (by kernel_rfl) ?_
    subst hX
    exact PR.ok_intro rfl rfl

theorem p_named (l : List Tok) (lo : Own) (hll : l.length ≤ 100000)  (s : PS)  (hne : namedF l s ≠ .out) : ACalls Tryd.prog 43 [.ptr 0 0] [psAV lo l s] (PR (fun (x : Nm) => .agg (nmAV x)) lo l (namedF l s)) := by
  generalize hX : namedF l s = X at hne ⊢
  refine ACalls.soft ?_
  unfold namedF at hX
  refine ACalls.enter hT Tryd.func43 rfl (by kernel_rfl) ?_
  refine ACode.seq ?_
  refine ACode.run hT nh [0, 2] (fr' := ⟨[(0, .ptr 0 0), (2, .loc 0 0)], [[.str [], .i 0, .str [], .i 0, .i 0]], [], [], 0⟩) (σ' := [psAV lo l s]) (ob := Tt 2) (by kernel_rfl) (tt 2) ?_
  refine ACode.seq ?_
  refine ACode.region ?_
  refine AOps.runN hT nh 1 [0, 2, 4] (fr' := ⟨[(0, .ptr 0 0), (2, .loc 0 0), (4, .ptr 0 0)], [[.str [], .i 0, .str [], .i 0, .i 0]], [], [], 0⟩) (σ' := [psAV lo l s]) (ob := Tt 2) (by kernel_rfl) (tt 2) ?_
  have nk1 : kindF l 1 s ≠ .out := by intro h9; simp only [h9, R.out_bind] at hX; exact hne hX.symm
  refine AOps.call (fid := 57) (cap := []) (avs := [.ptr 0 0, .i 1]) (by kernel_rfl) rfl (by kernel_rfl) (by kernel_rfl) en_57 (by kernel_rfl) (ACalls.mono (p_kind l lo hll 1 s nk1) ?_)
  cases k1 : kindF l 1 s with
  | out => exact absurd k1 nk1
  | bad ea eb ec =>
   rintro _ _ ⟨rfl, pp, dd, rfl⟩
   simp only [k1, R.bad_bind] at hX
   subst hX
   exact PR.bad_intro (vAV := fun (x : Nm) => .agg (nmAV x)) pp dd rfl rfl
  | ok v2 s3 =>
   rintro _ _ ⟨rfl, rfl⟩
   simp only [k1, R.ok_bind] at hX
   refine AOps.runN hT nh 2 [0, 2, 3] (fr' := ⟨[(0, .ptr 0 0), (2, .loc 0 0), (3, .loc 1 0)], [[.str [], .i 0, .str [], .i 0, .i 0], [.i v2.kind, .str v2.text, .int .u64 v2.n, .i v2.line, .i v2.col]], [], [], 0⟩) (σ' := [psAV lo l s3]) (ob := Tt 3) (by kernel_rfl) (tt 3) ?_
   refine AOps.nil ?_
   refine ACode.seq ?_
   refine ACode.region ?_
   refine AOps.runN hT nh 1 [0, 2, 3, 6] (fr' := ⟨[(0, .ptr 0 0), (2, .loc 0 0), (3, .loc 1 0), (6, .ptr 0 0)], [[.str [], .i 0, .str [], .i 0, .i 0], [.i v2.kind, .str v2.text, .int .u64 v2.n, .i v2.line, .i v2.col]], [], [], 0⟩) (σ' := [psAV lo l s3]) (ob := Tt 2) (by kernel_rfl) (tt 2) ?_
   have nk4 : mustF l [58] s3 ≠ .out := by intro h9; simp only [h9, R.out_bind] at hX; exact hne hX.symm
   refine AOps.call (fid := 44) (cap := []) (avs := [.ptr 0 0, .str [58]]) (by kernel_rfl) rfl (by kernel_rfl) (by kernel_rfl) en_44 (by kernel_rfl) (ACalls.mono (p_must l lo hll [58] s3 nk4) ?_)
   cases k4 : mustF l [58] s3 with
   | out => exact absurd k4 nk4
   | bad ea eb ec =>
    rintro _ _ ⟨rfl, pp, dd, rfl⟩
    simp only [k4, R.bad_bind] at hX
    subst hX
    exact PR.bad_intro (vAV := fun (x : Nm) => .agg (nmAV x)) pp dd rfl rfl
   | ok v5 s6 =>
    rintro _ _ ⟨rfl, rfl⟩
    simp only [k4, R.ok_bind] at hX
    refine AOps.nil ?_
    refine ACode.seq ?_
    refine ACode.draw [(9, 0)] 2 [] 0 (by kernel_rfl) (by kernel_rfl) ?_
    refine AAny.run hT nh (fuel := 3) [0, 1, 2, 4, 5, 6, 7] [2, 9, 10, 13, 15] (fz' := true) (l' := #[true, true, true, false, true, true, true, true, false, false]) (fr' := ⟨[(2, .loc 0 0), (9, .str v2.text), (10, .ptr 0 0), (13, .i v2.line), (15, .i v2.col)], [[.str [], .i 0, .str [], .i 0, .i 0], [.i v2.kind, .str v2.text, .int .u64 v2.n, .i v2.line, .i v2.col]], [], [], 0⟩) (σ' := [psAV lo l s6]) (ob := Tt 8) (by kernel_rfl) (by kernel_rfl) (tt 8) ?_
    have nk7 : typF l s6 ≠ .out := by intro h9; simp only [h9, R.out_bind] at hX; exact hne hX.symm
    refine AAny.call (fuel := 2) (i := 3) (fid := 58) (cap := []) (avs := [.ptr 0 0]) rfl (by kernel_rfl) (by kernel_rfl) (by kernel_rfl) (by kernel_rfl) rfl (by kernel_rfl) en_58 (by kernel_rfl) (ACalls.mono (p_typ l lo hll s6 nk7) ?_) (by kernel_rfl)
    cases k7 : typF l s6 with
    | out => exact absurd k7 nk7
    | bad ea eb ec =>
     rintro _ _ ⟨rfl, pp, dd, rfl⟩
     simp only [k7, R.bad_bind] at hX
     subst hX
     exact PR.bad_intro (vAV := fun (x : Nm) => .agg (nmAV x)) pp dd rfl rfl
    | ok v8 s9 =>
     rintro _ _ ⟨rfl, rfl⟩
     simp only [k7, R.ok_bind] at hX
     refine AAny.run hT nh (fuel := 0) [8, 9] [2] (fz' := false) (l' := #[true, true, true, true, true, true, true, true, true, true]) (fr' := ⟨[(2, .loc 0 0)], [[.str v2.text, .i v8.tk, .str v8.tr, .i v2.line, .i v2.col], [.i v2.kind, .str v2.text, .int .u64 v2.n, .i v2.line, .i v2.col]], [], [], 0⟩) (σ' := [psAV lo l s9]) (ob := Tt 3) (by kernel_rfl) (by kernel_rfl) (tt 3) ?_
     refine AAny.done (by kernel_rfl) ?_
     refine ACode.ret ?_
     refine retQ.ret (.agg [.str v2.text, .i v8.tk, .str v8.tr, .i v2.line, .i v2.col]) (by kernel_rfl) ?_
     subst hX
     exact PR.ok_intro rfl rfl


end Go.AE

