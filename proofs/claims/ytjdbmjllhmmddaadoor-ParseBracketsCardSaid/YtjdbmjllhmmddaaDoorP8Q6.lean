/- Parts of the proof of a law, in build order: P6, P7, W2. -/
import Derived.Test.YtjdbmjllhmmddaaDoorP8Q5
import Derived.IntWalk
set_option maxRecDepth 2000
set_option linter.unusedVariables false
set_option linter.unusedSimpArgs false
set_option linter.unusedVariables false
set_option linter.unusedSimpArgs false
set_option maxRecDepth 4000
namespace Go.AE
open Go.Proofs

theorem nmRows_one (x : Nm) : nmRows [x] = nmAV x := by simp [nmRows]

theorem p_record (l : List Tok) (lo : Own) (hll : l.length ≤ 100000) (n : Nat) (s : PS)  (hne : recordF n l s ≠ .out) : ACalls Tryd.prog 42 [.ptr 0 0] [psAV lo l s] (PR (fun (x : Rc) => .agg (rcAV x)) lo l (recordF n l s)) := by
  generalize hX : recordF n l s = X at hne ⊢
  refine ACalls.soft ?_
  unfold recordF at hX
  refine ACalls.enter hT Tryd.func42 rfl (by kernel_rfl) ?_
  refine ACode.seq ?_
  refine ACode.run hT nh [0, 2] (fr' := ⟨[(0, .ptr 0 0), (2, .loc 0 0)], [[.str [], .slice [] 0 .exact, .i 0, .i 0]], [], [], 0⟩) (σ' := [psAV lo l s]) (ob := Tt 2) (by kernel_rfl) (tt 2) ?_
  refine ACode.seq ?_
  refine ACode.region ?_
  refine AOps.runN hT nh 1 [0, 2, 5] (fr' := ⟨[(0, .ptr 0 0), (2, .loc 0 0), (5, .ptr 0 0)], [[.str [], .slice [] 0 .exact, .i 0, .i 0]], [], [], 0⟩) (σ' := [psAV lo l s]) (ob := Tt 2) (by kernel_rfl) (tt 2) ?_
  have nk1 : kindF l 1 s ≠ .out := by intro h9; simp only [h9, R.out_bind] at hX; exact hne hX.symm
  refine AOps.call (fid := 57) (cap := []) (avs := [.ptr 0 0, .i 1]) (by kernel_rfl) rfl (by kernel_rfl) (by kernel_rfl) en_57 (by kernel_rfl) (ACalls.mono (p_kind l lo hll 1 s nk1) ?_)
  cases k1 : kindF l 1 s with
  | out => exact absurd k1 nk1
  | bad ea eb ec =>
   rintro _ _ ⟨rfl, pp, dd, rfl⟩
   simp only [k1, R.bad_bind] at hX
   subst hX
   exact PR.bad_intro (vAV := fun (x : Rc) => .agg (rcAV x)) pp dd rfl rfl
  | ok v2 s3 =>
   rintro _ _ ⟨rfl, rfl⟩
   simp only [k1, R.ok_bind] at hX
   refine AOps.runN hT nh 2 [0, 2, 3] (fr' := ⟨[(0, .ptr 0 0), (2, .loc 0 0), (3, .loc 1 0)], [[.str [], .slice [] 0 .exact, .i 0, .i 0], (tokAV v2)], [], [], 0⟩) (σ' := [psAV lo l s3]) (ob := Tt 3) (by kernel_rfl) (tt 3) ?_
   refine AOps.nil ?_
   refine ACode.seq ?_
   refine ACode.run hT nh [0, 2, 4] (fr' := ⟨[(0, .ptr 0 0), (2, .loc 0 0), (4, .loc 2 0)], [[.str [], .slice [] 0 .exact, .i 0, .i 0], (tokAV v2), [.str v2.text, .slice [] 0 .exact, .i v2.line, .i v2.col]], [], [], 0⟩) (σ' := [psAV lo l s3]) (ob := Tt 10) (by kernel_rfl) (tt 10) ?_
   refine ACode.seq ?_
   refine ACode.region ?_
   refine AOps.runN hT nh 1 [0, 2, 4, 14] (fr' := ⟨[(0, .ptr 0 0), (2, .loc 0 0), (4, .loc 2 0), (14, .ptr 0 0)], [[.str [], .slice [] 0 .exact, .i 0, .i 0], (tokAV v2), [.str v2.text, .slice [] 0 .exact, .i v2.line, .i v2.col]], [], [], 0⟩) (σ' := [psAV lo l s3]) (ob := Tt 2) (by kernel_rfl) (tt 2) ?_
   have nk4 : mustF l [123] s3 ≠ .out := by intro h9; simp only [h9, R.out_bind] at hX; exact hne hX.symm
   refine AOps.call (fid := 44) (cap := []) (avs := [.ptr 0 0, .str [123]]) (by kernel_rfl) rfl (by kernel_rfl) (by kernel_rfl) en_44 (by kernel_rfl) (ACalls.mono (p_must l lo hll [123] s3 nk4) ?_)
   cases k4 : mustF l [123] s3 with
   | out => exact absurd k4 nk4
   | bad ea eb ec =>
    rintro _ _ ⟨rfl, pp, dd, rfl⟩
    simp only [k4, R.bad_bind] at hX
    subst hX
    exact PR.bad_intro (vAV := fun (x : Rc) => .agg (rcAV x)) pp dd rfl rfl
   | ok v5 s6 =>
    rintro _ _ ⟨rfl, rfl⟩
    simp only [k4, R.ok_bind] at hX
    refine AOps.nil ?_
    refine ACode.seq ?_
    refine ACode.block ?_
    refine ACode.loop [0, 2, 4] 3 0 (fun n0 fr σ' => ∃ (m : Nat), ∃ (acc : List Nm), ∃ (s1 : PS), ∃ (own : Own), ∃ (tk : List Nat), ∃ (nx : Nat), fr = ⟨[(0, .ptr 0 0), (2, .loc 0 0), (4, .loc 2 0)], [[.str [], .slice [] 0 .exact, .i 0, .i 0], (tokAV v2), [.str v2.text, .slice (nmRows acc) acc.length own, .i v2.line, .i v2.col]], [], tk, nx⟩ ∧ σ' = [psAV lo l s1] ∧ ((recordLoopF m l acc s1).bind (fun f s => .ok ⟨v2.text, f, v2.line, v2.col⟩ s) = X ∧ Can tk 5 acc.length (nmRows acc).length own) ∧ n0 = m + 1) _ (by kernel_rfl) ⟨n, [], s6, .exact, [], 0, rfl, rfl, ⟨hX, rfl⟩, rfl⟩ ?_
    rintro n0 fr σ' ⟨m, acc, s1, own, tk, nx, rfl, rfl, ⟨hX, hC⟩, rfl⟩
    have hm0 : m ≠ 0 := by rintro rfl; exact hne hX.symm
    obtain ⟨m, rfl⟩ : ∃ k, m = k + 1 := ⟨m - 1, by omega⟩
    rw [recordLoopF] at hX
    refine ACode.seq ?_
    refine ACode.seq ?_
    refine ACode.region ?_
    refine AOps.runN hT nh 1 [0, 2, 4, 16] (fr' := ⟨[(0, .ptr 0 0), (2, .loc 0 0), (4, .loc 2 0), (16, .ptr 0 0)], [[.str [], .slice [] 0 .exact, .i 0, .i 0], (tokAV v2), [.str v2.text, .slice (nmRows acc) acc.length own, .i v2.line, .i v2.col]], [], tk, nx⟩) (σ' := [psAV lo l s1]) (ob := Tt 2) (by kernel_rfl) (tt 2) ?_
    have nk7 : eatF l [125] s1 ≠ .out := by intro h9; simp only [h9, R.out_bind] at hX; exact hne hX.symm
    refine AOps.call (fid := 41) (cap := []) (avs := [.ptr 0 0, .str [125]]) (by kernel_rfl) rfl (by kernel_rfl) (by kernel_rfl) en_41 (by kernel_rfl) (ACalls.mono (p_eat l lo hll [125] s1 nk7) ?_)
    cases k7 : eatF l [125] s1 with
    | out => exact absurd k7 nk7
    | bad ea eb ec =>
     rintro _ _ ⟨rfl, pp, dd, rfl⟩
     simp only [k7, R.bad_bind] at hX
     subst hX
     exact PR.bad_intro (vAV := fun (x : Rc) => .agg (rcAV x)) pp dd rfl rfl
    | ok v8 s9 =>
     rintro _ _ ⟨rfl, rfl⟩
     simp only [k7, R.ok_bind] at hX
     refine AOps.runN hT nh 1 [0, 2, 4, 18] (fr' := ⟨[(0, .ptr 0 0), (2, .loc 0 0), (4, .loc 2 0), (18, .bool (!v8))], [[.str [], .slice [] 0 .exact, .i 0, .i 0], (tokAV v2), [.str v2.text, .slice (nmRows acc) acc.length own, .i v2.line, .i v2.col]], [], tk, nx⟩) (σ' := [psAV lo l s9]) (ob := Tt 2) (by kernel_rfl) (tt 2) ?_
     refine AOps.nil ?_
     refine ACode.cond (t := !v8) (by kernel_rfl) (fun h10 => ?_) (fun h10 => ?_)
     ·
      have h10k := h10; simp only [Bool.and_eq_true, Bool.or_eq_true, Bool.and_eq_false_iff, Bool.or_eq_false_iff, decide_eq_true_eq, decide_eq_false_iff_not, beq_iff_eq, bne_iff_ne, ne_eq, Bool.not_eq_true', Bool.not_eq_false', beq_eq_false_iff_ne, bne_eq_false_iff_eq] at h10k
      try simp only [h10, Bool.false_eq_true, Bool.not_true, Bool.not_false, if_true, if_false, R.ok_bind] at hX
      refine ACode.skip ?_
      refine ACode.block ?_
      refine ACode.seq ?_
      cases own with
      | no => exact hC.elim
      | exact =>
       refine ACode.draw [(7, 2)] 3 [] 0 (by kernel_rfl) (by kernel_rfl) ?_
       refine AAny.run hT nh (fuel := 5) [0, 1, 2] [0, 2, 4, 20, 21] (fz' := true) (l' := #[true, true, true, false, false, false, false, false]) (fr' := ⟨[(0, .ptr 0 0), (2, .loc 0 0), (4, .loc 2 0), (20, .slice (nmRows acc) acc.length .exact), (21, .ptr 0 0)], [[.str [], .slice [] 0 .exact, .i 0, .i 0], (tokAV v2), [.str v2.text, .slice (nmRows acc) acc.length .exact, .i v2.line, .i v2.col]], [], tk, nx⟩) (σ' := [psAV lo l s9]) (ob := Tt 4) (by kernel_rfl) (by kernel_rfl) (tt 4) ?_
       have nk11 : namedF l s9 ≠ .out := by intro h9; simp only [h9, R.out_bind] at hX; exact hne hX.symm
       refine AAny.call (fuel := 4) (i := 3) (fid := 43) (cap := []) (avs := [.ptr 0 0]) rfl (by kernel_rfl) (by kernel_rfl) (by kernel_rfl) (by kernel_rfl) rfl (by kernel_rfl) en_43 (by kernel_rfl) (ACalls.mono (p_named l lo hll s9 nk11) ?_) (by kernel_rfl)
       cases k11 : namedF l s9 with
       | out => exact absurd k11 nk11
       | bad ea eb ec =>
        rintro _ _ ⟨rfl, pp, dd, rfl⟩
        simp only [k11, R.bad_bind] at hX
        subst hX
        exact PR.bad_intro (vAV := fun (x : Rc) => .agg (rcAV x)) pp dd rfl rfl
       | ok v12 s13 =>
        rintro _ _ ⟨rfl, rfl⟩
        simp only [k11, R.ok_bind] at hX
        have hr9 : ¬ 100000 < acc.length := by intro h9; rw [if_pos h9] at hX; exact hne hX.symm
        rw [if_neg hr9] at hX
        refine AAny.run hT nh (fuel := 0) [4, 5, 6, 7] [0, 2, 4] (fz' := false) (l' := #[true, true, true, true, true, true, true, true]) (fr' := ⟨[(0, .ptr 0 0), (2, .loc 0 0), (4, .loc 2 0)], [[.str [], .slice [] 0 .exact, .i 0, .i 0], (tokAV v2), [.str v2.text, .slice ((nmRows acc) ++ ((nmAV v12) : List AV)) (acc.length + 1) (.tok nx 5), .i v2.line, .i v2.col]], [], nx :: tk, nx + 1⟩) (σ' := [psAV lo l s13]) (ob := True ∧ ((nmRows acc : List AV).length = acc.length * 5 ∧ ((nmAV v12) : List AV).length = 1 * 5 ∧ 0 < 1 ∧ (acc.length + 1) * 56 ≤ room) ∧ True ∧ True ∧ True) (by kernel_rfl) (by kernel_rfl) ⟨trivial, ⟨hC, rfl, by omega, by unfold room; omega⟩, trivial, trivial, trivial⟩ ?_
        refine AAny.done (by kernel_rfl) ?_
        refine ACode.region ?_
        refine AOps.runN hT nh 1 [0, 2, 4, 26] (fr' := ⟨[(0, .ptr 0 0), (2, .loc 0 0), (4, .loc 2 0), (26, .ptr 0 0)], [[.str [], .slice [] 0 .exact, .i 0, .i 0], (tokAV v2), [.str v2.text, .slice ((nmRows acc) ++ ((nmAV v12) : List AV)) (acc.length + 1) (.tok nx 5), .i v2.line, .i v2.col]], [], nx :: tk, nx + 1⟩) (σ' := [psAV lo l s13]) (ob := Tt 2) (by kernel_rfl) (tt 2) ?_
        have nk14 : mustF l [59] s13 ≠ .out := by intro h9; simp only [h9, R.out_bind] at hX; exact hne hX.symm
        refine AOps.call (fid := 44) (cap := []) (avs := [.ptr 0 0, .str [59]]) (by kernel_rfl) rfl (by kernel_rfl) (by kernel_rfl) en_44 (by kernel_rfl) (ACalls.mono (p_must l lo hll [59] s13 nk14) ?_)
        cases k14 : mustF l [59] s13 with
        | out => exact absurd k14 nk14
        | bad ea eb ec =>
         rintro _ _ ⟨rfl, pp, dd, rfl⟩
         simp only [k14, R.bad_bind] at hX
         subst hX
         exact PR.bad_intro (vAV := fun (x : Rc) => .agg (rcAV x)) pp dd rfl rfl
        | ok v15 s16 =>
         rintro _ _ ⟨rfl, rfl⟩
         simp only [k14, R.ok_bind] at hX
         refine AOps.nil ?_
         refine ⟨by kernel_rfl, _, ?_, m, (acc ++ [v12]), s16, (.tok nx 5), nx :: tk, nx + 1, (by simp only [nmRows_append, nmRows_one, List.length_append, List.length_cons, List.length_nil]; rfl), rfl, ?_, rfl⟩
         ·omega
         ·exact ⟨hX, ⟨rfl, by simp⟩⟩
      | tok u9 s9 =>
       obtain ⟨rfl, hu9⟩ := hC
       refine ACode.draw [(7, 2)] 3 [] 0 (by kernel_rfl) (by kernel_rfl) ?_
       refine AAny.run hT nh (fuel := 5) [0, 1, 2] [0, 2, 4, 20, 21] (fz' := true) (l' := #[true, true, true, false, false, false, false, false]) (fr' := ⟨[(0, .ptr 0 0), (2, .loc 0 0), (4, .loc 2 0), (20, .slice (nmRows acc) acc.length (.tok u9 5)), (21, .ptr 0 0)], [[.str [], .slice [] 0 .exact, .i 0, .i 0], (tokAV v2), [.str v2.text, .slice (nmRows acc) acc.length (.tok u9 5), .i v2.line, .i v2.col]], [], tk, nx⟩) (σ' := [psAV lo l s9]) (ob := Tt 4) (by kernel_rfl) (by kernel_rfl) (tt 4) ?_
       have nk17 : namedF l s9 ≠ .out := by intro h9; simp only [h9, R.out_bind] at hX; exact hne hX.symm
       refine AAny.call (fuel := 4) (i := 3) (fid := 43) (cap := []) (avs := [.ptr 0 0]) rfl (by kernel_rfl) (by kernel_rfl) (by kernel_rfl) (by kernel_rfl) rfl (by kernel_rfl) en_43 (by kernel_rfl) (ACalls.mono (p_named l lo hll s9 nk17) ?_) (by kernel_rfl)
       cases k17 : namedF l s9 with
       | out => exact absurd k17 nk17
       | bad ea eb ec =>
        rintro _ _ ⟨rfl, pp, dd, rfl⟩
        simp only [k17, R.bad_bind] at hX
        subst hX
        exact PR.bad_intro (vAV := fun (x : Rc) => .agg (rcAV x)) pp dd rfl rfl
       | ok v18 s19 =>
        rintro _ _ ⟨rfl, rfl⟩
        simp only [k17, R.ok_bind] at hX
        have hr9 : ¬ 100000 < acc.length := by intro h9; rw [if_pos h9] at hX; exact hne hX.symm
        rw [if_neg hr9] at hX
        refine AAny.run hT nh (fuel := 0) [4, 5, 6, 7] [0, 2, 4] (fz' := false) (l' := #[true, true, true, true, true, true, true, true]) (fr' := ⟨[(0, .ptr 0 0), (2, .loc 0 0), (4, .loc 2 0)], [[.str [], .slice [] 0 .exact, .i 0, .i 0], (tokAV v2), [.str v2.text, .slice ((nmRows acc) ++ ((nmAV v18) : List AV)) (acc.length + 1) (.tok nx 5), .i v2.line, .i v2.col]], [], nx :: dropTok tk (some u9), nx + 1⟩) (σ' := [psAV lo l s19]) (ob := True ∧ (u9 ∈ tk ∧ ((nmAV v18) : List AV).length = 1 * 5 ∧ (acc.length + 1) * 56 ≤ room) ∧ True ∧ True ∧ True) (by kernel_rfl) (by kernel_rfl) ⟨trivial, ⟨hu9, rfl, by unfold room; omega⟩, trivial, trivial, trivial⟩ ?_
        refine AAny.done (by kernel_rfl) ?_
        refine ACode.region ?_
        refine AOps.runN hT nh 1 [0, 2, 4, 26] (fr' := ⟨[(0, .ptr 0 0), (2, .loc 0 0), (4, .loc 2 0), (26, .ptr 0 0)], [[.str [], .slice [] 0 .exact, .i 0, .i 0], (tokAV v2), [.str v2.text, .slice ((nmRows acc) ++ ((nmAV v18) : List AV)) (acc.length + 1) (.tok nx 5), .i v2.line, .i v2.col]], [], nx :: dropTok tk (some u9), nx + 1⟩) (σ' := [psAV lo l s19]) (ob := Tt 2) (by kernel_rfl) (tt 2) ?_
        have nk20 : mustF l [59] s19 ≠ .out := by intro h9; simp only [h9, R.out_bind] at hX; exact hne hX.symm
        refine AOps.call (fid := 44) (cap := []) (avs := [.ptr 0 0, .str [59]]) (by kernel_rfl) rfl (by kernel_rfl) (by kernel_rfl) en_44 (by kernel_rfl) (ACalls.mono (p_must l lo hll [59] s19 nk20) ?_)
        cases k20 : mustF l [59] s19 with
        | out => exact absurd k20 nk20
        | bad ea eb ec =>
         rintro _ _ ⟨rfl, pp, dd, rfl⟩
         simp only [k20, R.bad_bind] at hX
         subst hX
         exact PR.bad_intro (vAV := fun (x : Rc) => .agg (rcAV x)) pp dd rfl rfl
        | ok v21 s22 =>
         rintro _ _ ⟨rfl, rfl⟩
         simp only [k20, R.ok_bind] at hX
         refine AOps.nil ?_
         refine ⟨by kernel_rfl, _, ?_, m, (acc ++ [v18]), s22, (.tok nx 5), nx :: dropTok tk (some u9), nx + 1, (by simp only [nmRows_append, nmRows_one, List.length_append, List.length_cons, List.length_nil]; rfl), rfl, ?_, rfl⟩
         ·omega
         ·exact ⟨hX, ⟨rfl, by simp⟩⟩
     ·
      have h10k := h10; simp only [Bool.and_eq_true, Bool.or_eq_true, Bool.and_eq_false_iff, Bool.or_eq_false_iff, decide_eq_true_eq, decide_eq_false_iff_not, beq_iff_eq, bne_iff_ne, ne_eq, Bool.not_eq_true', Bool.not_eq_false', beq_eq_false_iff_ne, bne_eq_false_iff_eq] at h10k
      try simp only [h10, Bool.false_eq_true, Bool.not_true, Bool.not_false, if_true, if_false, R.ok_bind] at hX
      refine ACode.exit ?_
      refine ACode.seq ?_
      refine ACode.softBx 2 ?_
      refine ACode.run hT nh [2] (fr' := ⟨[(2, .loc 0 0)], [[.str v2.text, .slice (nmRows acc) acc.length .no, .i v2.line, .i v2.col], (tokAV v2), [.str v2.text, .slice (nmRows acc) acc.length .no, .i v2.line, .i v2.col]], [], tk, nx⟩) (σ' := [psAV lo l s9]) (ob := Tt 3) (by kernel_rfl) (tt 3) ?_
      refine ACode.ret ?_
      refine retQ.ret (.agg [.str v2.text, .slice (nmRows acc) acc.length .no, .i v2.line, .i v2.col]) (by kernel_rfl) ?_
      subst hX
      exact PR.ok_intro rfl rfl

theorem p_fun (l : List Tok) (lo : Own) (hll : l.length ≤ 100000) (n : Nat) (s : PS)  (hne : funF n l s ≠ .out) : ACalls Tryd.prog 45 [.ptr 0 0] [psAV lo l s] (PR (fun (x : Fu) => .agg (fuAV x)) lo l (funF n l s)) := by
  generalize hX : funF n l s = X at hne ⊢
  refine ACalls.soft ?_
  unfold funF at hX
  refine ACalls.enter hT Tryd.func45 rfl (by kernel_rfl) ?_
  refine ACode.seq ?_
  refine ACode.run hT nh [0, 2] (fr' := ⟨[(0, .ptr 0 0), (2, .loc 0 0)], [[.str [], .slice [] 0 .exact, .slice [] 0 .exact, .i 0, .i 0]], [], [], 0⟩) (σ' := [psAV lo l s]) (ob := Tt 2) (by kernel_rfl) (tt 2) ?_
  refine ACode.seq ?_
  refine ACode.region ?_
  refine AOps.runN hT nh 1 [0, 2, 5] (fr' := ⟨[(0, .ptr 0 0), (2, .loc 0 0), (5, .ptr 0 0)], [[.str [], .slice [] 0 .exact, .slice [] 0 .exact, .i 0, .i 0]], [], [], 0⟩) (σ' := [psAV lo l s]) (ob := Tt 2) (by kernel_rfl) (tt 2) ?_
  have nk1 : kindF l 1 s ≠ .out := by intro h9; simp only [h9, R.out_bind] at hX; exact hne hX.symm
  refine AOps.call (fid := 57) (cap := []) (avs := [.ptr 0 0, .i 1]) (by kernel_rfl) rfl (by kernel_rfl) (by kernel_rfl) en_57 (by kernel_rfl) (ACalls.mono (p_kind l lo hll 1 s nk1) ?_)
  cases k1 : kindF l 1 s with
  | out => exact absurd k1 nk1
  | bad ea eb ec =>
   rintro _ _ ⟨rfl, pp, dd, rfl⟩
   simp only [k1, R.bad_bind] at hX
   subst hX
   exact PR.bad_intro (vAV := fun (x : Fu) => .agg (fuAV x)) pp dd rfl rfl
  | ok v2 s3 =>
   rintro _ _ ⟨rfl, rfl⟩
   simp only [k1, R.ok_bind] at hX
   refine AOps.runN hT nh 2 [0, 2, 3] (fr' := ⟨[(0, .ptr 0 0), (2, .loc 0 0), (3, .loc 1 0)], [[.str [], .slice [] 0 .exact, .slice [] 0 .exact, .i 0, .i 0], (tokAV v2)], [], [], 0⟩) (σ' := [psAV lo l s3]) (ob := Tt 3) (by kernel_rfl) (tt 3) ?_
   refine AOps.nil ?_
   refine ACode.seq ?_
   refine ACode.run hT nh [0, 2, 4] (fr' := ⟨[(0, .ptr 0 0), (2, .loc 0 0), (4, .loc 2 0)], [[.str [], .slice [] 0 .exact, .slice [] 0 .exact, .i 0, .i 0], (tokAV v2), [.str v2.text, .slice [] 0 .exact, .slice [] 0 .exact, .i v2.line, .i v2.col]], [], [], 0⟩) (σ' := [psAV lo l s3]) (ob := Tt 10) (by kernel_rfl) (tt 10) ?_
   refine ACode.seq ?_
   refine ACode.region ?_
   refine AOps.runN hT nh 1 [0, 2, 4, 14] (fr' := ⟨[(0, .ptr 0 0), (2, .loc 0 0), (4, .loc 2 0), (14, .ptr 0 0)], [[.str [], .slice [] 0 .exact, .slice [] 0 .exact, .i 0, .i 0], (tokAV v2), [.str v2.text, .slice [] 0 .exact, .slice [] 0 .exact, .i v2.line, .i v2.col]], [], [], 0⟩) (σ' := [psAV lo l s3]) (ob := Tt 2) (by kernel_rfl) (tt 2) ?_
   have nk4 : mustF l [40] s3 ≠ .out := by intro h9; simp only [h9, R.out_bind] at hX; exact hne hX.symm
   refine AOps.call (fid := 44) (cap := []) (avs := [.ptr 0 0, .str [40]]) (by kernel_rfl) rfl (by kernel_rfl) (by kernel_rfl) en_44 (by kernel_rfl) (ACalls.mono (p_must l lo hll [40] s3 nk4) ?_)
   cases k4 : mustF l [40] s3 with
   | out => exact absurd k4 nk4
   | bad ea eb ec =>
    rintro _ _ ⟨rfl, pp, dd, rfl⟩
    simp only [k4, R.bad_bind] at hX
    subst hX
    exact PR.bad_intro (vAV := fun (x : Fu) => .agg (fuAV x)) pp dd rfl rfl
   | ok v5 s6 =>
    rintro _ _ ⟨rfl, rfl⟩
    simp only [k4, R.ok_bind] at hX
    refine AOps.nil ?_
    refine ACode.seq ?_
    refine ACode.seq ?_
    refine ACode.region ?_
    refine AOps.runN hT nh 1 [0, 2, 4, 16] (fr' := ⟨[(0, .ptr 0 0), (2, .loc 0 0), (4, .loc 2 0), (16, .ptr 0 0)], [[.str [], .slice [] 0 .exact, .slice [] 0 .exact, .i 0, .i 0], (tokAV v2), [.str v2.text, .slice [] 0 .exact, .slice [] 0 .exact, .i v2.line, .i v2.col]], [], [], 0⟩) (σ' := [psAV lo l s6]) (ob := Tt 2) (by kernel_rfl) (tt 2) ?_
    have nk7 : eatF l [41] s6 ≠ .out := by intro h9; simp only [h9, R.out_bind] at hX; exact hne hX.symm
    refine AOps.call (fid := 41) (cap := []) (avs := [.ptr 0 0, .str [41]]) (by kernel_rfl) rfl (by kernel_rfl) (by kernel_rfl) en_41 (by kernel_rfl) (ACalls.mono (p_eat l lo hll [41] s6 nk7) ?_)
    cases k7 : eatF l [41] s6 with
    | out => exact absurd k7 nk7
    | bad ea eb ec =>
     rintro _ _ ⟨rfl, pp, dd, rfl⟩
     simp only [k7, R.bad_bind] at hX
     subst hX
     exact PR.bad_intro (vAV := fun (x : Fu) => .agg (fuAV x)) pp dd rfl rfl
    | ok v8 s9 =>
     rintro _ _ ⟨rfl, rfl⟩
     simp only [k7, R.ok_bind] at hX
     refine AOps.runN hT nh 1 [0, 2, 4, 18] (fr' := ⟨[(0, .ptr 0 0), (2, .loc 0 0), (4, .loc 2 0), (18, .bool (!v8))], [[.str [], .slice [] 0 .exact, .slice [] 0 .exact, .i 0, .i 0], (tokAV v2), [.str v2.text, .slice [] 0 .exact, .slice [] 0 .exact, .i v2.line, .i v2.col]], [], [], 0⟩) (σ' := [psAV lo l s9]) (ob := Tt 2) (by kernel_rfl) (tt 2) ?_
     refine AOps.nil ?_
     refine ACode.cond (t := !v8) (by kernel_rfl) (fun h10 => ?_) (fun h10 => ?_)
     ·
      have h10k := h10; simp only [Bool.and_eq_true, Bool.or_eq_true, Bool.and_eq_false_iff, Bool.or_eq_false_iff, decide_eq_true_eq, decide_eq_false_iff_not, beq_iff_eq, bne_iff_ne, ne_eq, Bool.not_eq_true', Bool.not_eq_false', beq_eq_false_iff_ne, bne_eq_false_iff_eq] at h10k
      try simp only [h10, Bool.false_eq_true, Bool.not_true, Bool.not_false, if_true, if_false, R.ok_bind] at hX
      refine ACode.block ?_
      refine ACode.loop [0, 2, 4] 3 0 (fun n0 fr σ' => ∃ (m : Nat), ∃ (acc : List Nm), ∃ (s1 : PS), ∃ (own : Own), ∃ (tk : List Nat), ∃ (nx : Nat), fr = ⟨[(0, .ptr 0 0), (2, .loc 0 0), (4, .loc 2 0)], [[.str [], .slice [] 0 .exact, .slice [] 0 .exact, .i 0, .i 0], (tokAV v2), [.str v2.text, .slice (nmRows acc) acc.length own, .slice [] 0 .exact, .i v2.line, .i v2.col]], [], tk, nx⟩ ∧ σ' = [psAV lo l s1] ∧ ((paramsLoopF m l acc s1).bind (fun ps s => (blockF n l s).bind fun d s => .ok ⟨v2.text, ps, d, v2.line, v2.col⟩ s) = X ∧ Can tk 5 acc.length (nmRows acc).length own) ∧ n0 = m + 1) _ (by kernel_rfl) ⟨n, [], s9, .exact, [], 0, rfl, rfl, ⟨hX, rfl⟩, rfl⟩ ?_
      rintro n0 fr σ' ⟨m, acc, s1, own, tk, nx, rfl, rfl, ⟨hX, hC⟩, rfl⟩
      have hm0 : m ≠ 0 := by rintro rfl; exact hne hX.symm
      obtain ⟨m, rfl⟩ : ∃ k, m = k + 1 := ⟨m - 1, by omega⟩
      rw [paramsLoopF] at hX
      refine ACode.block ?_
      refine ACode.seq ?_
      cases own with
      | no => exact hC.elim
      | exact =>
       refine ACode.draw [(7, 2)] 3 [] 0 (by kernel_rfl) (by kernel_rfl) ?_
       refine AAny.run hT nh (fuel := 5) [0, 1, 2] [0, 2, 4, 20, 21] (fz' := true) (l' := #[true, true, true, false, false, false, false, false]) (fr' := ⟨[(0, .ptr 0 0), (2, .loc 0 0), (4, .loc 2 0), (20, .slice (nmRows acc) acc.length .exact), (21, .ptr 0 0)], [[.str [], .slice [] 0 .exact, .slice [] 0 .exact, .i 0, .i 0], (tokAV v2), [.str v2.text, .slice (nmRows acc) acc.length .exact, .slice [] 0 .exact, .i v2.line, .i v2.col]], [], tk, nx⟩) (σ' := [psAV lo l s1]) (ob := Tt 4) (by kernel_rfl) (by kernel_rfl) (tt 4) ?_
       have nk11 : namedF l s1 ≠ .out := by intro h9; simp only [h9, R.out_bind] at hX; exact hne hX.symm
       refine AAny.call (fuel := 4) (i := 3) (fid := 43) (cap := []) (avs := [.ptr 0 0]) rfl (by kernel_rfl) (by kernel_rfl) (by kernel_rfl) (by kernel_rfl) rfl (by kernel_rfl) en_43 (by kernel_rfl) (ACalls.mono (p_named l lo hll s1 nk11) ?_) (by kernel_rfl)
       cases k11 : namedF l s1 with
       | out => exact absurd k11 nk11
       | bad ea eb ec =>
        rintro _ _ ⟨rfl, pp, dd, rfl⟩
        simp only [k11, R.bad_bind] at hX
        subst hX
        exact PR.bad_intro (vAV := fun (x : Fu) => .agg (fuAV x)) pp dd rfl rfl
       | ok v12 s13 =>
        rintro _ _ ⟨rfl, rfl⟩
        simp only [k11, R.ok_bind] at hX
        have hr9 : ¬ 100000 < acc.length := by intro h9; rw [if_pos h9] at hX; exact hne hX.symm
        rw [if_neg hr9] at hX
        refine AAny.run hT nh (fuel := 0) [4, 5, 6, 7] [0, 2, 4] (fz' := false) (l' := #[true, true, true, true, true, true, true, true]) (fr' := ⟨[(0, .ptr 0 0), (2, .loc 0 0), (4, .loc 2 0)], [[.str [], .slice [] 0 .exact, .slice [] 0 .exact, .i 0, .i 0], (tokAV v2), [.str v2.text, .slice ((nmRows acc) ++ ((nmAV v12) : List AV)) (acc.length + 1) (.tok nx 5), .slice [] 0 .exact, .i v2.line, .i v2.col]], [], nx :: tk, nx + 1⟩) (σ' := [psAV lo l s13]) (ob := True ∧ ((nmRows acc : List AV).length = acc.length * 5 ∧ ((nmAV v12) : List AV).length = 1 * 5 ∧ 0 < 1 ∧ (acc.length + 1) * 56 ≤ room) ∧ True ∧ True ∧ True) (by kernel_rfl) (by kernel_rfl) ⟨trivial, ⟨hC, rfl, by omega, by unfold room; omega⟩, trivial, trivial, trivial⟩ ?_
        refine AAny.done (by kernel_rfl) ?_
        refine ACode.seq ?_
        refine ACode.seq ?_
        refine ACode.region ?_
        refine AOps.runN hT nh 1 [0, 2, 4, 26] (fr' := ⟨[(0, .ptr 0 0), (2, .loc 0 0), (4, .loc 2 0), (26, .ptr 0 0)], [[.str [], .slice [] 0 .exact, .slice [] 0 .exact, .i 0, .i 0], (tokAV v2), [.str v2.text, .slice ((nmRows acc) ++ ((nmAV v12) : List AV)) (acc.length + 1) (.tok nx 5), .slice [] 0 .exact, .i v2.line, .i v2.col]], [], nx :: tk, nx + 1⟩) (σ' := [psAV lo l s13]) (ob := Tt 2) (by kernel_rfl) (tt 2) ?_
        have nk14 : eatF l [41] s13 ≠ .out := by intro h9; simp only [h9, R.out_bind] at hX; exact hne hX.symm
        refine AOps.call (fid := 41) (cap := []) (avs := [.ptr 0 0, .str [41]]) (by kernel_rfl) rfl (by kernel_rfl) (by kernel_rfl) en_41 (by kernel_rfl) (ACalls.mono (p_eat l lo hll [41] s13 nk14) ?_)
        cases k14 : eatF l [41] s13 with
        | out => exact absurd k14 nk14
        | bad ea eb ec =>
         rintro _ _ ⟨rfl, pp, dd, rfl⟩
         simp only [k14, R.bad_bind] at hX
         subst hX
         exact PR.bad_intro (vAV := fun (x : Fu) => .agg (fuAV x)) pp dd rfl rfl
        | ok v15 s16 =>
         rintro _ _ ⟨rfl, rfl⟩
         simp only [k14, R.ok_bind] at hX
         refine AOps.nil ?_
         refine ACode.cond (t := v15) (by kernel_rfl) (fun h17 => ?_) (fun h17 => ?_)
         ·
          try simp only [h17, Bool.false_eq_true, Bool.not_true, Bool.not_false, if_true, if_false, R.ok_bind] at hX
          refine ACode.exit ?_
          refine ACode.seq ?_
          refine ACode.region ?_
          refine AOps.runN hT nh 1 [2, 4, 30] (fr' := ⟨[(2, .loc 0 0), (4, .loc 2 0), (30, .ptr 0 0)], [[.str [], .slice [] 0 .exact, .slice [] 0 .exact, .i 0, .i 0], (tokAV v2), [.str v2.text, .slice ((nmRows acc) ++ ((nmAV v12) : List AV)) (acc.length + 1) (.tok nx 5), .slice [] 0 .exact, .i v2.line, .i v2.col]], [], nx :: tk, nx + 1⟩) (σ' := [psAV lo l s16]) (ob := Tt 2) (by kernel_rfl) (tt 2) ?_
          have nk18 : blockF n l s16 ≠ .out := by intro h9; simp only [h9, R.out_bind] at hX; exact hne hX.symm
          refine AOps.call (fid := 46) (cap := []) (avs := [.ptr 0 0]) (by kernel_rfl) rfl (by kernel_rfl) (by kernel_rfl) en_46 (by kernel_rfl) (ACalls.mono ((sm_ok l lo hll n).block s16 nk18) ?_)
          cases k18 : blockF n l s16 with
          | out => exact absurd k18 nk18
          | bad ea eb ec =>
           rintro _ _ ⟨rfl, pp, dd, rfl⟩
           simp only [k18, R.bad_bind] at hX
           subst hX
           exact PR.bad_intro (vAV := fun (x : Fu) => .agg (fuAV x)) pp dd rfl rfl
          | ok v19 s20 =>
           rintro _ _ ⟨rfl, rfl⟩
           simp only [k18, R.ok_bind] at hX
           refine AOps.runN hT nh 2 [2, 4] (fr' := ⟨[(2, .loc 0 0), (4, .loc 2 0)], [[.str [], .slice [] 0 .exact, .slice [] 0 .exact, .i 0, .i 0], (tokAV v2), [.str v2.text, .slice ((nmRows acc) ++ ((nmAV v12) : List AV)) (acc.length + 1) (.tok nx 5), .slice (smRows v19) v19.length .no, .i v2.line, .i v2.col]], [], nx :: tk, nx + 1⟩) (σ' := [psAV lo l s20]) (ob := Tt 3) (by kernel_rfl) (tt 3) ?_
           refine AOps.nil ?_
           refine ACode.seq ?_
           refine ACode.run hT nh [2] (fr' := ⟨[(2, .loc 0 0)], [[.str v2.text, .slice ((nmRows acc) ++ ((nmAV v12) : List AV)) (acc.length + 1) .no, .slice (smRows v19) v19.length .no, .i v2.line, .i v2.col], (tokAV v2), [.str v2.text, .slice ((nmRows acc) ++ ((nmAV v12) : List AV)) (acc.length + 1) (.tok nx 5), .slice (smRows v19) v19.length .no, .i v2.line, .i v2.col]], [], nx :: tk, nx + 1⟩) (σ' := [psAV lo l s20]) (ob := Tt 3) (by kernel_rfl) (tt 3) ?_
           refine ACode.ret ?_
           refine retQ.ret (.agg [.str v2.text, .slice ((nmRows acc) ++ ((nmAV v12) : List AV)) (acc.length + 1) .no, .slice (smRows v19) v19.length .no, .i v2.line, .i v2.col]) (by kernel_rfl) ?_
           subst hX
           refine PR.ok_intro ?_ rfl
           simp only [fuAV, nmRows_append, nmRows_one, List.length_append, List.length_cons, List.length_nil]
           rfl
         ·
          try simp only [h17, Bool.false_eq_true, Bool.not_true, Bool.not_false, if_true, if_false, R.ok_bind] at hX
          refine ACode.skip ?_
          refine ACode.region ?_
          refine AOps.runN hT nh 1 [0, 2, 4, 28] (fr' := ⟨[(0, .ptr 0 0), (2, .loc 0 0), (4, .loc 2 0), (28, .ptr 0 0)], [[.str [], .slice [] 0 .exact, .slice [] 0 .exact, .i 0, .i 0], (tokAV v2), [.str v2.text, .slice ((nmRows acc) ++ ((nmAV v12) : List AV)) (acc.length + 1) (.tok nx 5), .slice [] 0 .exact, .i v2.line, .i v2.col]], [], nx :: tk, nx + 1⟩) (σ' := [psAV lo l s16]) (ob := Tt 2) (by kernel_rfl) (tt 2) ?_
          have nk21 : mustF l [44] s16 ≠ .out := by intro h9; simp only [h9, R.out_bind] at hX; exact hne hX.symm
          refine AOps.call (fid := 44) (cap := []) (avs := [.ptr 0 0, .str [44]]) (by kernel_rfl) rfl (by kernel_rfl) (by kernel_rfl) en_44 (by kernel_rfl) (ACalls.mono (p_must l lo hll [44] s16 nk21) ?_)
          cases k21 : mustF l [44] s16 with
          | out => exact absurd k21 nk21
          | bad ea eb ec =>
           rintro _ _ ⟨rfl, pp, dd, rfl⟩
           simp only [k21, R.bad_bind] at hX
           subst hX
           exact PR.bad_intro (vAV := fun (x : Fu) => .agg (fuAV x)) pp dd rfl rfl
          | ok v22 s23 =>
           rintro _ _ ⟨rfl, rfl⟩
           simp only [k21, R.ok_bind] at hX
           refine AOps.nil ?_
           refine ⟨by kernel_rfl, _, ?_, m, (acc ++ [v12]), s23, (.tok nx 5), nx :: tk, nx + 1, (by simp only [nmRows_append, nmRows_one, List.length_append, List.length_cons, List.length_nil]; rfl), rfl, ?_, rfl⟩
           ·omega
           ·exact ⟨hX, ⟨rfl, by simp⟩⟩
      | tok u9 s9 =>
       obtain ⟨rfl, hu9⟩ := hC
       refine ACode.draw [(7, 2)] 3 [] 0 (by kernel_rfl) (by kernel_rfl) ?_
       refine AAny.run hT nh (fuel := 5) [0, 1, 2] [0, 2, 4, 20, 21] (fz' := true) (l' := #[true, true, true, false, false, false, false, false]) (fr' := ⟨[(0, .ptr 0 0), (2, .loc 0 0), (4, .loc 2 0), (20, .slice (nmRows acc) acc.length (.tok u9 5)), (21, .ptr 0 0)], [[.str [], .slice [] 0 .exact, .slice [] 0 .exact, .i 0, .i 0], (tokAV v2), [.str v2.text, .slice (nmRows acc) acc.length (.tok u9 5), .slice [] 0 .exact, .i v2.line, .i v2.col]], [], tk, nx⟩) (σ' := [psAV lo l s1]) (ob := Tt 4) (by kernel_rfl) (by kernel_rfl) (tt 4) ?_
       have nk24 : namedF l s1 ≠ .out := by intro h9; simp only [h9, R.out_bind] at hX; exact hne hX.symm
       refine AAny.call (fuel := 4) (i := 3) (fid := 43) (cap := []) (avs := [.ptr 0 0]) rfl (by kernel_rfl) (by kernel_rfl) (by kernel_rfl) (by kernel_rfl) rfl (by kernel_rfl) en_43 (by kernel_rfl) (ACalls.mono (p_named l lo hll s1 nk24) ?_) (by kernel_rfl)
       cases k24 : namedF l s1 with
       | out => exact absurd k24 nk24
       | bad ea eb ec =>
        rintro _ _ ⟨rfl, pp, dd, rfl⟩
        simp only [k24, R.bad_bind] at hX
        subst hX
        exact PR.bad_intro (vAV := fun (x : Fu) => .agg (fuAV x)) pp dd rfl rfl
       | ok v25 s26 =>
        rintro _ _ ⟨rfl, rfl⟩
        simp only [k24, R.ok_bind] at hX
        have hr9 : ¬ 100000 < acc.length := by intro h9; rw [if_pos h9] at hX; exact hne hX.symm
        rw [if_neg hr9] at hX
        refine AAny.run hT nh (fuel := 0) [4, 5, 6, 7] [0, 2, 4] (fz' := false) (l' := #[true, true, true, true, true, true, true, true]) (fr' := ⟨[(0, .ptr 0 0), (2, .loc 0 0), (4, .loc 2 0)], [[.str [], .slice [] 0 .exact, .slice [] 0 .exact, .i 0, .i 0], (tokAV v2), [.str v2.text, .slice ((nmRows acc) ++ ((nmAV v25) : List AV)) (acc.length + 1) (.tok nx 5), .slice [] 0 .exact, .i v2.line, .i v2.col]], [], nx :: dropTok tk (some u9), nx + 1⟩) (σ' := [psAV lo l s26]) (ob := True ∧ (u9 ∈ tk ∧ ((nmAV v25) : List AV).length = 1 * 5 ∧ (acc.length + 1) * 56 ≤ room) ∧ True ∧ True ∧ True) (by kernel_rfl) (by kernel_rfl) ⟨trivial, ⟨hu9, rfl, by unfold room; omega⟩, trivial, trivial, trivial⟩ ?_
        refine AAny.done (by kernel_rfl) ?_
        refine ACode.seq ?_
        refine ACode.seq ?_
        refine ACode.region ?_
        refine AOps.runN hT nh 1 [0, 2, 4, 26] (fr' := ⟨[(0, .ptr 0 0), (2, .loc 0 0), (4, .loc 2 0), (26, .ptr 0 0)], [[.str [], .slice [] 0 .exact, .slice [] 0 .exact, .i 0, .i 0], (tokAV v2), [.str v2.text, .slice ((nmRows acc) ++ ((nmAV v25) : List AV)) (acc.length + 1) (.tok nx 5), .slice [] 0 .exact, .i v2.line, .i v2.col]], [], nx :: dropTok tk (some u9), nx + 1⟩) (σ' := [psAV lo l s26]) (ob := Tt 2) (by kernel_rfl) (tt 2) ?_
        have nk27 : eatF l [41] s26 ≠ .out := by intro h9; simp only [h9, R.out_bind] at hX; exact hne hX.symm
        refine AOps.call (fid := 41) (cap := []) (avs := [.ptr 0 0, .str [41]]) (by kernel_rfl) rfl (by kernel_rfl) (by kernel_rfl) en_41 (by kernel_rfl) (ACalls.mono (p_eat l lo hll [41] s26 nk27) ?_)
        cases k27 : eatF l [41] s26 with
        | out => exact absurd k27 nk27
        | bad ea eb ec =>
         rintro _ _ ⟨rfl, pp, dd, rfl⟩
         simp only [k27, R.bad_bind] at hX
         subst hX
         exact PR.bad_intro (vAV := fun (x : Fu) => .agg (fuAV x)) pp dd rfl rfl
        | ok v28 s29 =>
         rintro _ _ ⟨rfl, rfl⟩
         simp only [k27, R.ok_bind] at hX
         refine AOps.nil ?_
         refine ACode.cond (t := v28) (by kernel_rfl) (fun h30 => ?_) (fun h30 => ?_)
         ·
          try simp only [h30, Bool.false_eq_true, Bool.not_true, Bool.not_false, if_true, if_false, R.ok_bind] at hX
          refine ACode.exit ?_
          refine ACode.seq ?_
          refine ACode.region ?_
          refine AOps.runN hT nh 1 [2, 4, 30] (fr' := ⟨[(2, .loc 0 0), (4, .loc 2 0), (30, .ptr 0 0)], [[.str [], .slice [] 0 .exact, .slice [] 0 .exact, .i 0, .i 0], (tokAV v2), [.str v2.text, .slice ((nmRows acc) ++ ((nmAV v25) : List AV)) (acc.length + 1) (.tok nx 5), .slice [] 0 .exact, .i v2.line, .i v2.col]], [], nx :: dropTok tk (some u9), nx + 1⟩) (σ' := [psAV lo l s29]) (ob := Tt 2) (by kernel_rfl) (tt 2) ?_
          have nk31 : blockF n l s29 ≠ .out := by intro h9; simp only [h9, R.out_bind] at hX; exact hne hX.symm
          refine AOps.call (fid := 46) (cap := []) (avs := [.ptr 0 0]) (by kernel_rfl) rfl (by kernel_rfl) (by kernel_rfl) en_46 (by kernel_rfl) (ACalls.mono ((sm_ok l lo hll n).block s29 nk31) ?_)
          cases k31 : blockF n l s29 with
          | out => exact absurd k31 nk31
          | bad ea eb ec =>
           rintro _ _ ⟨rfl, pp, dd, rfl⟩
           simp only [k31, R.bad_bind] at hX
           subst hX
           exact PR.bad_intro (vAV := fun (x : Fu) => .agg (fuAV x)) pp dd rfl rfl
          | ok v32 s33 =>
           rintro _ _ ⟨rfl, rfl⟩
           simp only [k31, R.ok_bind] at hX
           refine AOps.runN hT nh 2 [2, 4] (fr' := ⟨[(2, .loc 0 0), (4, .loc 2 0)], [[.str [], .slice [] 0 .exact, .slice [] 0 .exact, .i 0, .i 0], (tokAV v2), [.str v2.text, .slice ((nmRows acc) ++ ((nmAV v25) : List AV)) (acc.length + 1) (.tok nx 5), .slice (smRows v32) v32.length .no, .i v2.line, .i v2.col]], [], nx :: dropTok tk (some u9), nx + 1⟩) (σ' := [psAV lo l s33]) (ob := Tt 3) (by kernel_rfl) (tt 3) ?_
           refine AOps.nil ?_
           refine ACode.seq ?_
           refine ACode.run hT nh [2] (fr' := ⟨[(2, .loc 0 0)], [[.str v2.text, .slice ((nmRows acc) ++ ((nmAV v25) : List AV)) (acc.length + 1) .no, .slice (smRows v32) v32.length .no, .i v2.line, .i v2.col], (tokAV v2), [.str v2.text, .slice ((nmRows acc) ++ ((nmAV v25) : List AV)) (acc.length + 1) (.tok nx 5), .slice (smRows v32) v32.length .no, .i v2.line, .i v2.col]], [], nx :: dropTok tk (some u9), nx + 1⟩) (σ' := [psAV lo l s33]) (ob := Tt 3) (by kernel_rfl) (tt 3) ?_
           refine ACode.ret ?_
           refine retQ.ret (.agg [.str v2.text, .slice ((nmRows acc) ++ ((nmAV v25) : List AV)) (acc.length + 1) .no, .slice (smRows v32) v32.length .no, .i v2.line, .i v2.col]) (by kernel_rfl) ?_
           subst hX
           refine PR.ok_intro ?_ rfl
           simp only [fuAV, nmRows_append, nmRows_one, List.length_append, List.length_cons, List.length_nil]
           rfl
         ·
          try simp only [h30, Bool.false_eq_true, Bool.not_true, Bool.not_false, if_true, if_false, R.ok_bind] at hX
          refine ACode.skip ?_
          refine ACode.region ?_
          refine AOps.runN hT nh 1 [0, 2, 4, 28] (fr' := ⟨[(0, .ptr 0 0), (2, .loc 0 0), (4, .loc 2 0), (28, .ptr 0 0)], [[.str [], .slice [] 0 .exact, .slice [] 0 .exact, .i 0, .i 0], (tokAV v2), [.str v2.text, .slice ((nmRows acc) ++ ((nmAV v25) : List AV)) (acc.length + 1) (.tok nx 5), .slice [] 0 .exact, .i v2.line, .i v2.col]], [], nx :: dropTok tk (some u9), nx + 1⟩) (σ' := [psAV lo l s29]) (ob := Tt 2) (by kernel_rfl) (tt 2) ?_
          have nk34 : mustF l [44] s29 ≠ .out := by intro h9; simp only [h9, R.out_bind] at hX; exact hne hX.symm
          refine AOps.call (fid := 44) (cap := []) (avs := [.ptr 0 0, .str [44]]) (by kernel_rfl) rfl (by kernel_rfl) (by kernel_rfl) en_44 (by kernel_rfl) (ACalls.mono (p_must l lo hll [44] s29 nk34) ?_)
          cases k34 : mustF l [44] s29 with
          | out => exact absurd k34 nk34
          | bad ea eb ec =>
           rintro _ _ ⟨rfl, pp, dd, rfl⟩
           simp only [k34, R.bad_bind] at hX
           subst hX
           exact PR.bad_intro (vAV := fun (x : Fu) => .agg (fuAV x)) pp dd rfl rfl
          | ok v35 s36 =>
           rintro _ _ ⟨rfl, rfl⟩
           simp only [k34, R.ok_bind] at hX
           refine AOps.nil ?_
           refine ⟨by kernel_rfl, _, ?_, m, (acc ++ [v25]), s36, (.tok nx 5), nx :: dropTok tk (some u9), nx + 1, (by simp only [nmRows_append, nmRows_one, List.length_append, List.length_cons, List.length_nil]; rfl), rfl, ?_, rfl⟩
           ·omega
           ·exact ⟨hX, ⟨rfl, by simp⟩⟩
     ·
      have h10k := h10; simp only [Bool.and_eq_true, Bool.or_eq_true, Bool.and_eq_false_iff, Bool.or_eq_false_iff, decide_eq_true_eq, decide_eq_false_iff_not, beq_iff_eq, bne_iff_ne, ne_eq, Bool.not_eq_true', Bool.not_eq_false', beq_eq_false_iff_ne, bne_eq_false_iff_eq] at h10k
      try simp only [h10, Bool.false_eq_true, Bool.not_true, Bool.not_false, if_true, if_false, R.ok_bind] at hX
      refine ACode.skip ?_
      refine ACode.seq ?_
      refine ACode.region ?_
      refine AOps.runN hT nh 1 [2, 4, 30] (fr' := ⟨[(2, .loc 0 0), (4, .loc 2 0), (30, .ptr 0 0)], [[.str [], .slice [] 0 .exact, .slice [] 0 .exact, .i 0, .i 0], (tokAV v2), [.str v2.text, .slice [] 0 .exact, .slice [] 0 .exact, .i v2.line, .i v2.col]], [], [], 0⟩) (σ' := [psAV lo l s9]) (ob := Tt 2) (by kernel_rfl) (tt 2) ?_
      have nk37 : blockF n l s9 ≠ .out := by intro h9; simp only [h9, R.out_bind] at hX; exact hne hX.symm
      refine AOps.call (fid := 46) (cap := []) (avs := [.ptr 0 0]) (by kernel_rfl) rfl (by kernel_rfl) (by kernel_rfl) en_46 (by kernel_rfl) (ACalls.mono ((sm_ok l lo hll n).block s9 nk37) ?_)
      cases k37 : blockF n l s9 with
      | out => exact absurd k37 nk37
      | bad ea eb ec =>
       rintro _ _ ⟨rfl, pp, dd, rfl⟩
       simp only [k37, R.bad_bind] at hX
       subst hX
       exact PR.bad_intro (vAV := fun (x : Fu) => .agg (fuAV x)) pp dd rfl rfl
      | ok v38 s39 =>
       rintro _ _ ⟨rfl, rfl⟩
       simp only [k37, R.ok_bind] at hX
       refine AOps.runN hT nh 2 [2, 4] (fr' := ⟨[(2, .loc 0 0), (4, .loc 2 0)], [[.str [], .slice [] 0 .exact, .slice [] 0 .exact, .i 0, .i 0], (tokAV v2), [.str v2.text, .slice [] 0 .exact, .slice (smRows v38) v38.length .no, .i v2.line, .i v2.col]], [], [], 0⟩) (σ' := [psAV lo l s39]) (ob := Tt 3) (by kernel_rfl) (tt 3) ?_
       refine AOps.nil ?_
       refine ACode.seq ?_
       refine ACode.run hT nh [2] (fr' := ⟨[(2, .loc 0 0)], [[.str v2.text, .slice [] 0 .exact, .slice (smRows v38) v38.length .no, .i v2.line, .i v2.col], (tokAV v2), [.str v2.text, .slice [] 0 .exact, .slice (smRows v38) v38.length .no, .i v2.line, .i v2.col]], [], [], 0⟩) (σ' := [psAV lo l s39]) (ob := Tt 3) (by kernel_rfl) (tt 3) ?_
       refine ACode.ret ?_
       refine retQ.ret (.agg [.str v2.text, .slice [] 0 .exact, .slice (smRows v38) v38.length .no, .i v2.line, .i v2.col]) (by kernel_rfl) ?_
       subst hX
       exact PR.ok_intro rfl rfl


end Go.AE

set_option linter.unusedVariables false
set_option linter.unusedSimpArgs false
set_option maxRecDepth 4000
namespace Go.AE
open Go.Proofs

theorem rcRows_one (x : Rc) : rcRows [x] = rcAV x := by simp [rcRows]
theorem fuRows_one (x : Fu) : fuRows [x] = fuAV x := by simp [fuRows]
theorem tdRows_one (x : Td) : tdRows [x] = tdAV x := by simp [tdRows]

def OwnNe : Own → Own → Prop
  | .tok u _, .tok w _ => u ≠ w
  | _, _ => True
theorem OwnNe.symm {a b : Own} (h : OwnNe a b) : OwnNe b a := by cases a <;> cases b <;> first | trivial | exact fun e => h e.symm
theorem Can.sub {tk tk' : List Nat} {sz n len : Nat} {o : Own} (h : Can tk sz n len o) (hs : ∀ u s, o = .tok u s → u ∈ tk → u ∈ tk') : Can tk' sz n len o := by
  cases o with
  | no => exact h
  | exact => exact h
  | tok u s => exact ⟨h.1, hs u s rfl h.2⟩
theorem Can.new {tk : List Nat} {sz n len : Nat} {o : Own} {nx : Nat} (h : Can tk sz n len o) (hl : ∀ t ∈ tk, t < nx) (k : Nat) : OwnNe (.tok nx k) o := by
  cases o with
  | no => trivial
  | exact => trivial
  | tok u s => exact fun e => by have := hl u h.2; omega
theorem dropTok_mem {tk : List Nat} {x : Option Nat} {t : Nat} (h : t ∈ dropTok tk x) : t ∈ tk := by
  cases x with
  | none => exact h
  | some u => exact (List.mem_filter.1 h).1
theorem dropTok_keep {tk : List Nat} {u w : Nat} (h : w ∈ tk) (hn : w ≠ u) : w ∈ dropTok tk (some u) := List.mem_filter.2 ⟨h, by simpa using hn⟩
theorem dropTok_lt {tk : List Nat} {nx : Nat} (hl : ∀ t ∈ tk, t < nx) (x : Option Nat) : ∀ t ∈ nx :: dropTok tk x, t < nx + 1 := by
  intro t ht
  rcases List.mem_cons.1 ht with rfl | ht
  ·omega
  ·have := hl t (dropTok_mem ht); omega

structure PgC (p : Pg) (o1 o2 o3 o4 : Own) (tk : List Nat) (nx : Nat) : Prop where
  c1 : Can tk 4 p.recs.length (rcRows p.recs).length o1
  c2 : Can tk 5 p.globals.length (nmRows p.globals).length o2
  c3 : Can tk 5 p.funs.length (fuRows p.funs).length o3
  c4 : Can tk 3 p.threads.length (tdRows p.threads).length o4
  lt : ∀ t ∈ tk, t < nx
  n12 : OwnNe o1 o2
  n13 : OwnNe o1 o3
  n14 : OwnNe o1 o4
  n23 : OwnNe o2 o3
  n24 : OwnNe o2 o4
  n34 : OwnNe o3 o4
theorem PgC.recs_exact {p : Pg} {o2 o3 o4 : Own} {tk : List Nat} {nx : Nat} (h : PgC p .exact o2 o3 o4 tk nx) (x : Rc) : PgC { p with recs := p.recs ++ [x] } (.tok nx 4) o2 o3 o4 (nx :: tk) (nx + 1) where
  c1 := ⟨rfl, by simp⟩
  c2 := h.c2.sub fun _ _ _ hm => List.mem_cons_of_mem _ hm
  c3 := h.c3.sub fun _ _ _ hm => List.mem_cons_of_mem _ hm
  c4 := h.c4.sub fun _ _ _ hm => List.mem_cons_of_mem _ hm
  lt := by
   intro t ht
   rcases List.mem_cons.1 ht with rfl | ht
   ·omega
   ·have := h.lt t ht; omega
  n12 := h.c2.new h.lt _
  n13 := h.c3.new h.lt _
  n14 := h.c4.new h.lt _
  n23 := h.n23
  n24 := h.n24
  n34 := h.n34
theorem PgC.recs_tok {p : Pg} {o2 o3 o4 : Own} {tk : List Nat} {nx u : Nat} (h : PgC p (.tok u 4) o2 o3 o4 tk nx) (x : Rc) : PgC { p with recs := p.recs ++ [x] } (.tok nx 4) o2 o3 o4 (nx :: dropTok tk (some u)) (nx + 1) where
  c1 := ⟨rfl, by simp⟩
  c2 := h.c2.sub fun w s e hm => List.mem_cons_of_mem _ (dropTok_keep hm (by subst e; exact h.n12.symm))
  c3 := h.c3.sub fun w s e hm => List.mem_cons_of_mem _ (dropTok_keep hm (by subst e; exact h.n13.symm))
  c4 := h.c4.sub fun w s e hm => List.mem_cons_of_mem _ (dropTok_keep hm (by subst e; exact h.n14.symm))
  lt := dropTok_lt h.lt _
  n12 := h.c2.new h.lt _
  n13 := h.c3.new h.lt _
  n14 := h.c4.new h.lt _
  n23 := h.n23
  n24 := h.n24
  n34 := h.n34
theorem PgC.globals_exact {p : Pg} {o1 o3 o4 : Own} {tk : List Nat} {nx : Nat} (h : PgC p o1 .exact o3 o4 tk nx) (x : Nm) : PgC { p with globals := p.globals ++ [x] } o1 (.tok nx 5) o3 o4 (nx :: tk) (nx + 1) where
  c1 := h.c1.sub fun _ _ _ hm => List.mem_cons_of_mem _ hm
  c2 := ⟨rfl, by simp⟩
  c3 := h.c3.sub fun _ _ _ hm => List.mem_cons_of_mem _ hm
  c4 := h.c4.sub fun _ _ _ hm => List.mem_cons_of_mem _ hm
  lt := by
   intro t ht
   rcases List.mem_cons.1 ht with rfl | ht
   ·omega
   ·have := h.lt t ht; omega
  n12 := (h.c1.new h.lt _).symm
  n13 := h.n13
  n14 := h.n14
  n23 := h.c3.new h.lt _
  n24 := h.c4.new h.lt _
  n34 := h.n34
theorem PgC.globals_tok {p : Pg} {o1 o3 o4 : Own} {tk : List Nat} {nx u : Nat} (h : PgC p o1 (.tok u 5) o3 o4 tk nx) (x : Nm) : PgC { p with globals := p.globals ++ [x] } o1 (.tok nx 5) o3 o4 (nx :: dropTok tk (some u)) (nx + 1) where
  c1 := h.c1.sub fun w s e hm => List.mem_cons_of_mem _ (dropTok_keep hm (by subst e; exact h.n12))
  c2 := ⟨rfl, by simp⟩
  c3 := h.c3.sub fun w s e hm => List.mem_cons_of_mem _ (dropTok_keep hm (by subst e; exact h.n23.symm))
  c4 := h.c4.sub fun w s e hm => List.mem_cons_of_mem _ (dropTok_keep hm (by subst e; exact h.n24.symm))
  lt := dropTok_lt h.lt _
  n12 := (h.c1.new h.lt _).symm
  n13 := h.n13
  n14 := h.n14
  n23 := h.c3.new h.lt _
  n24 := h.c4.new h.lt _
  n34 := h.n34
theorem PgC.funs_exact {p : Pg} {o1 o2 o4 : Own} {tk : List Nat} {nx : Nat} (h : PgC p o1 o2 .exact o4 tk nx) (x : Fu) : PgC { p with funs := p.funs ++ [x] } o1 o2 (.tok nx 5) o4 (nx :: tk) (nx + 1) where
  c1 := h.c1.sub fun _ _ _ hm => List.mem_cons_of_mem _ hm
  c2 := h.c2.sub fun _ _ _ hm => List.mem_cons_of_mem _ hm
  c3 := ⟨rfl, by simp⟩
  c4 := h.c4.sub fun _ _ _ hm => List.mem_cons_of_mem _ hm
  lt := by
   intro t ht
   rcases List.mem_cons.1 ht with rfl | ht
   ·omega
   ·have := h.lt t ht; omega
  n12 := h.n12
  n13 := (h.c1.new h.lt _).symm
  n14 := h.n14
  n23 := (h.c2.new h.lt _).symm
  n24 := h.n24
  n34 := h.c4.new h.lt _
theorem PgC.funs_tok {p : Pg} {o1 o2 o4 : Own} {tk : List Nat} {nx u : Nat} (h : PgC p o1 o2 (.tok u 5) o4 tk nx) (x : Fu) : PgC { p with funs := p.funs ++ [x] } o1 o2 (.tok nx 5) o4 (nx :: dropTok tk (some u)) (nx + 1) where
  c1 := h.c1.sub fun w s e hm => List.mem_cons_of_mem _ (dropTok_keep hm (by subst e; exact h.n13))
  c2 := h.c2.sub fun w s e hm => List.mem_cons_of_mem _ (dropTok_keep hm (by subst e; exact h.n23))
  c3 := ⟨rfl, by simp⟩
  c4 := h.c4.sub fun w s e hm => List.mem_cons_of_mem _ (dropTok_keep hm (by subst e; exact h.n34.symm))
  lt := dropTok_lt h.lt _
  n12 := h.n12
  n13 := (h.c1.new h.lt _).symm
  n14 := h.n14
  n23 := (h.c2.new h.lt _).symm
  n24 := h.n24
  n34 := h.c4.new h.lt _
theorem PgC.threads_exact {p : Pg} {o1 o2 o3 : Own} {tk : List Nat} {nx : Nat} (h : PgC p o1 o2 o3 .exact tk nx) (x : Td) : PgC { p with threads := p.threads ++ [x] } o1 o2 o3 (.tok nx 3) (nx :: tk) (nx + 1) where
  c1 := h.c1.sub fun _ _ _ hm => List.mem_cons_of_mem _ hm
  c2 := h.c2.sub fun _ _ _ hm => List.mem_cons_of_mem _ hm
  c3 := h.c3.sub fun _ _ _ hm => List.mem_cons_of_mem _ hm
  c4 := ⟨rfl, by simp⟩
  lt := by
   intro t ht
   rcases List.mem_cons.1 ht with rfl | ht
   ·omega
   ·have := h.lt t ht; omega
  n12 := h.n12
  n13 := h.n13
  n14 := (h.c1.new h.lt _).symm
  n23 := h.n23
  n24 := (h.c2.new h.lt _).symm
  n34 := (h.c3.new h.lt _).symm
theorem PgC.threads_tok {p : Pg} {o1 o2 o3 : Own} {tk : List Nat} {nx u : Nat} (h : PgC p o1 o2 o3 (.tok u 3) tk nx) (x : Td) : PgC { p with threads := p.threads ++ [x] } o1 o2 o3 (.tok nx 3) (nx :: dropTok tk (some u)) (nx + 1) where
  c1 := h.c1.sub fun w s e hm => List.mem_cons_of_mem _ (dropTok_keep hm (by subst e; exact h.n14))
  c2 := h.c2.sub fun w s e hm => List.mem_cons_of_mem _ (dropTok_keep hm (by subst e; exact h.n24))
  c3 := h.c3.sub fun w s e hm => List.mem_cons_of_mem _ (dropTok_keep hm (by subst e; exact h.n34))
  c4 := ⟨rfl, by simp⟩
  lt := dropTok_lt h.lt _
  n12 := h.n12
  n13 := h.n13
  n14 := (h.c1.new h.lt _).symm
  n23 := h.n23
  n24 := (h.c2.new h.lt _).symm
  n34 := (h.c3.new h.lt _).symm
theorem p_program (l : List Tok) (lo : Own) (hll : l.length ≤ 100000) (n : Nat) (s : PS)  (hne : programF n l pgZ s ≠ .out) : ACalls Tryd.prog 29 [.ptr 0 0] [psAV lo l s] (PR (fun (x : Pg) => .agg (pgAV x)) lo l (programF n l pgZ s)) := by
  generalize hX : programF n l pgZ s = X at hne ⊢
  refine ACalls.soft ?_
  refine ACalls.enter hT Tryd.func29 rfl (by kernel_rfl) ?_
  refine ACode.seq ?_
  refine ACode.run hT nh [0, 2] (fr' := ⟨[(0, .ptr 0 0), (2, .loc 0 0)], [[.slice [] 0 .exact, .slice [] 0 .exact, .slice [] 0 .exact, .slice [] 0 .exact]], [], [], 0⟩) (σ' := [psAV lo l s]) (ob := Tt 2) (by kernel_rfl) (tt 2) ?_
  refine ACode.seq ?_
  refine ACode.run hT nh [0, 2, 3] (fr' := ⟨[(0, .ptr 0 0), (2, .loc 0 0), (3, .loc 1 0)], [[.slice [] 0 .exact, .slice [] 0 .exact, .slice [] 0 .exact, .slice [] 0 .exact], [.slice [] 0 .exact, .slice [] 0 .exact, .slice [] 0 .exact, .slice [] 0 .exact]], [], [], 0⟩) (σ' := [psAV lo l s]) (ob := Tt 2) (by kernel_rfl) (tt 2) ?_
  refine ACode.block ?_
  refine ACode.loop [0, 2, 3] 2 0 (fun n0 fr σ' => ∃ (m : Nat), ∃ (p : Pg), ∃ (s1 : PS), ∃ (o1 : Own), ∃ (o2 : Own), ∃ (o3 : Own), ∃ (o4 : Own), ∃ (tk : List Nat), ∃ (nx : Nat), fr = ⟨[(0, .ptr 0 0), (2, .loc 0 0), (3, .loc 1 0)], [[.slice [] 0 .exact, .slice [] 0 .exact, .slice [] 0 .exact, .slice [] 0 .exact], [.slice (rcRows p.recs) p.recs.length o1, .slice (nmRows p.globals) p.globals.length o2, .slice (fuRows p.funs) p.funs.length o3, .slice (tdRows p.threads) p.threads.length o4]], [], tk, nx⟩ ∧ σ' = [psAV lo l s1] ∧ (programF m l p s1 = X ∧ PgC p o1 o2 o3 o4 tk nx) ∧ n0 = m + 1) _ (by kernel_rfl) ⟨n, pgZ, s, .exact, .exact, .exact, .exact, [], 0, rfl, rfl, ⟨hX, ⟨rfl, rfl, rfl, rfl, by simp, trivial, trivial, trivial, trivial, trivial, trivial⟩⟩, rfl⟩ ?_
  rintro n0 fr σ' ⟨m, p, s1, o1, o2, o3, o4, tk, nx, rfl, rfl, ⟨hX, hC⟩, rfl⟩
  have hm0 : m ≠ 0 := by rintro rfl; exact hne hX.symm
  obtain ⟨m, rfl⟩ : ∃ k, m = k + 1 := ⟨m - 1, by omega⟩
  rw [programF] at hX
  have hbg : pgBig p = false := by
   cases h9 : pgBig p
   ·rfl
   ·exfalso; rw [h9] at hX; exact hne hX.symm
  rw [hbg] at hX
  simp only [Bool.false_eq_true, if_false] at hX
  simp only [pgBig, Bool.or_eq_false_iff, decide_eq_false_iff_not] at hbg
  refine ACode.block ?_
  refine ACode.seq ?_
  refine ACode.region ?_
  refine AOps.runN hT nh 1 [0, 2, 3, 5] (fr' := ⟨[(0, .ptr 0 0), (2, .loc 0 0), (3, .loc 1 0), (5, .ptr 0 0)], [[.slice [] 0 .exact, .slice [] 0 .exact, .slice [] 0 .exact, .slice [] 0 .exact], [.slice (rcRows p.recs) p.recs.length o1, .slice (nmRows p.globals) p.globals.length o2, .slice (fuRows p.funs) p.funs.length o3, .slice (tdRows p.threads) p.threads.length o4]], [], tk, nx⟩) (σ' := [psAV lo l s1]) (ob := Tt 2) (by kernel_rfl) (tt 2) ?_
  have nk1 : peekF l s1 ≠ .out := by intro h9; simp only [h9, R.out_bind] at hX; exact hne hX.symm
  refine AOps.call (fid := 40) (cap := []) (avs := [.ptr 0 0]) (by kernel_rfl) rfl (by kernel_rfl) (by kernel_rfl) en_40 (by kernel_rfl) (ACalls.mono (p_peek l lo hll s1 nk1) ?_)
  cases k1 : peekF l s1 with
  | out => exact absurd k1 nk1
  | bad ea eb ec =>
   rintro _ _ ⟨rfl, pp, dd, rfl⟩
   simp only [k1, R.bad_bind] at hX
   subst hX
   exact PR.bad_intro (vAV := fun (x : Pg) => .agg (pgAV x)) pp dd rfl rfl
  | ok v2 s3 =>
   rintro _ _ ⟨rfl, rfl⟩
   simp only [k1, R.ok_bind] at hX
   obtain ⟨hsk1, hpk1, hvk1⟩ := peekF_ok k1
   refine AOps.runN hT nh 2 [0, 2, 3, 4] (fr' := ⟨[(0, .ptr 0 0), (2, .loc 0 0), (3, .loc 1 0), (4, .loc 2 0)], [[.slice [] 0 .exact, .slice [] 0 .exact, .slice [] 0 .exact, .slice [] 0 .exact], [.slice (rcRows p.recs) p.recs.length o1, .slice (nmRows p.globals) p.globals.length o2, .slice (fuRows p.funs) p.funs.length o3, .slice (tdRows p.threads) p.threads.length o4], (tokAV v2)], [], tk, nx⟩) (σ' := [psAV lo l s3]) (ob := Tt 3) (by kernel_rfl) (tt 3) ?_
   refine AOps.nil ?_
   refine ACode.block ?_
   refine ACode.seq ?_
   refine ACode.run hT nh [0, 2, 3, 4, 10] (fr' := ⟨[(0, .ptr 0 0), (2, .loc 0 0), (3, .loc 1 0), (4, .loc 2 0), (10, .bool (v2.kind == 0))], [[.slice [] 0 .exact, .slice [] 0 .exact, .slice [] 0 .exact, .slice [] 0 .exact], [.slice (rcRows p.recs) p.recs.length o1, .slice (nmRows p.globals) p.globals.length o2, .slice (fuRows p.funs) p.funs.length o3, .slice (tdRows p.threads) p.threads.length o4], (tokAV v2)], [], tk, nx⟩) (σ' := [psAV lo l s3]) (ob := Tt 5) (by kernel_rfl) (tt 5) ?_
   refine ACode.cond (t := v2.kind == 0) (by kernel_rfl) (fun h4 => ?_) (fun h4 => ?_)
   ·
    have h4k := eq_of_beq h4
    try simp only [h4, Bool.false_eq_true, Bool.not_true, Bool.not_false, if_true, if_false, R.ok_bind] at hX
    refine ACode.seq ?_
    refine ACode.softBx 1 ?_
    refine ACode.run hT nh [2] (fr' := ⟨[(2, .loc 0 0)], [[.slice (rcRows p.recs) p.recs.length .no, .slice (nmRows p.globals) p.globals.length .no, .slice (fuRows p.funs) p.funs.length .no, .slice (tdRows p.threads) p.threads.length .no], [.slice (rcRows p.recs) p.recs.length .no, .slice (nmRows p.globals) p.globals.length .no, .slice (fuRows p.funs) p.funs.length .no, .slice (tdRows p.threads) p.threads.length .no], (tokAV v2)], [], tk, nx⟩) (σ' := [psAV lo l s3]) (ob := Tt 3) (by kernel_rfl) (tt 3) ?_
    refine ACode.ret ?_
    refine retQ.ret (.agg [.slice (rcRows p.recs) p.recs.length .no, .slice (nmRows p.globals) p.globals.length .no, .slice (fuRows p.funs) p.funs.length .no, .slice (tdRows p.threads) p.threads.length .no]) (by kernel_rfl) ?_
    subst hX
    exact PR.ok_intro rfl rfl
   ·
    have h4k := ne_of_beq_false h4
    try simp only [h4, Bool.false_eq_true, Bool.not_true, Bool.not_false, if_true, if_false, R.ok_bind] at hX
    refine ACode.seq ?_
    refine ACode.region ?_
    refine AOps.runN hT nh 1 [0, 2, 3, 4, 16] (fr' := ⟨[(0, .ptr 0 0), (2, .loc 0 0), (3, .loc 1 0), (4, .loc 2 0), (16, .ptr 0 0)], [[.slice [] 0 .exact, .slice [] 0 .exact, .slice [] 0 .exact, .slice [] 0 .exact], [.slice (rcRows p.recs) p.recs.length o1, .slice (nmRows p.globals) p.globals.length o2, .slice (fuRows p.funs) p.funs.length o3, .slice (tdRows p.threads) p.threads.length o4], (tokAV v2)], [], tk, nx⟩) (σ' := [psAV lo l s3]) (ob := Tt 2) (by kernel_rfl) (tt 2) ?_
    have nk5 : eatF l [114, 101, 99, 111, 114, 100] s3 ≠ .out := by intro h9; simp only [h9, R.out_bind] at hX; exact hne hX.symm
    refine AOps.call (fid := 41) (cap := []) (avs := [.ptr 0 0, .str [114, 101, 99, 111, 114, 100]]) (by kernel_rfl) rfl (by kernel_rfl) (by kernel_rfl) en_41 (by kernel_rfl) (ACalls.mono (p_eat l lo hll [114, 101, 99, 111, 114, 100] s3 nk5) ?_)
    cases k5 : eatF l [114, 101, 99, 111, 114, 100] s3 with
    | out => exact absurd k5 nk5
    | bad ea eb ec =>
     rintro _ _ ⟨rfl, pp, dd, rfl⟩
     simp only [k5, R.bad_bind] at hX
     subst hX
     exact PR.bad_intro (vAV := fun (x : Pg) => .agg (pgAV x)) pp dd rfl rfl
    | ok v6 s7 =>
     rintro _ _ ⟨rfl, rfl⟩
     simp only [k5, R.ok_bind] at hX
     refine AOps.runN hT nh 1 [0, 2, 3, 4, 15] (fr' := ⟨[(0, .ptr 0 0), (2, .loc 0 0), (3, .loc 1 0), (4, .loc 2 0), (15, .bool v6)], [[.slice [] 0 .exact, .slice [] 0 .exact, .slice [] 0 .exact, .slice [] 0 .exact], [.slice (rcRows p.recs) p.recs.length o1, .slice (nmRows p.globals) p.globals.length o2, .slice (fuRows p.funs) p.funs.length o3, .slice (tdRows p.threads) p.threads.length o4], (tokAV v2)], [], tk, nx⟩) (σ' := [psAV lo l s7]) (ob := Tt 2) (by kernel_rfl) (tt 2) ?_
     refine AOps.nil ?_
     refine ACode.cond (t := v6) (by kernel_rfl) (fun h8 => ?_) (fun h8 => ?_)
     ·
      try simp only [h8, Bool.false_eq_true, Bool.not_true, Bool.not_false, if_true, if_false, R.ok_bind] at hX
      cases o1 with
      | no => exact hC.c1.elim
      | exact =>
       refine ACode.draw [(7, 1)] 3 [] 0 (by kernel_rfl) (by kernel_rfl) ?_
       refine AAny.run hT nh (fuel := 5) [0, 1, 2] [0, 2, 3, 19, 20] (fz' := true) (l' := #[true, true, true, false, false, false, false, false]) (fr' := ⟨[(0, .ptr 0 0), (2, .loc 0 0), (3, .loc 1 0), (19, .slice (rcRows p.recs) p.recs.length .exact), (20, .ptr 0 0)], [[.slice [] 0 .exact, .slice [] 0 .exact, .slice [] 0 .exact, .slice [] 0 .exact], [.slice (rcRows p.recs) p.recs.length .exact, .slice (nmRows p.globals) p.globals.length o2, .slice (fuRows p.funs) p.funs.length o3, .slice (tdRows p.threads) p.threads.length o4], (tokAV v2)], [], tk, nx⟩) (σ' := [psAV lo l s7]) (ob := Tt 4) (by kernel_rfl) (by kernel_rfl) (tt 4) ?_
       have nk9 : recordF m l s7 ≠ .out := by intro h9; simp only [h9, R.out_bind] at hX; exact hne hX.symm
       refine AAny.call (fuel := 4) (i := 3) (fid := 42) (cap := []) (avs := [.ptr 0 0]) rfl (by kernel_rfl) (by kernel_rfl) (by kernel_rfl) (by kernel_rfl) rfl (by kernel_rfl) en_42 (by kernel_rfl) (ACalls.mono (p_record l lo hll m s7 nk9) ?_) (by kernel_rfl)
       cases k9 : recordF m l s7 with
       | out => exact absurd k9 nk9
       | bad ea eb ec =>
        rintro _ _ ⟨rfl, pp, dd, rfl⟩
        simp only [k9, R.bad_bind] at hX
        subst hX
        exact PR.bad_intro (vAV := fun (x : Pg) => .agg (pgAV x)) pp dd rfl rfl
       | ok v10 s11 =>
        rintro _ _ ⟨rfl, rfl⟩
        simp only [k9, R.ok_bind] at hX
        refine AAny.run hT nh (fuel := 0) [4, 5, 6, 7] [0, 2, 3] (fz' := false) (l' := #[true, true, true, true, true, true, true, true]) (fr' := ⟨[(0, .ptr 0 0), (2, .loc 0 0), (3, .loc 1 0)], [[.slice [] 0 .exact, .slice [] 0 .exact, .slice [] 0 .exact, .slice [] 0 .exact], [.slice ((rcRows p.recs) ++ ([.str v10.name, .slice (nmRows v10.fields) v10.fields.length .no, .i v10.line, .i v10.col] : List AV)) (p.recs.length + 1) (.tok nx 4), .slice (nmRows p.globals) p.globals.length o2, .slice (fuRows p.funs) p.funs.length o3, .slice (tdRows p.threads) p.threads.length o4], (tokAV v2)], [], nx :: tk, nx + 1⟩) (σ' := [psAV lo l s11]) (ob := True ∧ ((rcRows p.recs : List AV).length = p.recs.length * 4 ∧ ([.str v10.name, .slice (nmRows v10.fields) v10.fields.length .no, .i v10.line, .i v10.col] : List AV).length = 1 * 4 ∧ 0 < 1 ∧ (p.recs.length + 1) * 56 ≤ room) ∧ True ∧ True ∧ True) (by kernel_rfl) (by kernel_rfl) ⟨trivial, ⟨by first | exact hC.c1 | exact hC.c2 | exact hC.c3 | exact hC.c4, rfl, by omega, by unfold room; omega⟩, trivial, trivial, trivial⟩ ?_
        refine AAny.done (by kernel_rfl) ?_
        refine ⟨by kernel_rfl, _, ?_, m, { p with recs := p.recs ++ [v10] }, s11, (.tok nx 4), o2, o3, o4, nx :: tk, nx + 1, (by simp only [rcRows_append, rcRows_one, rcAV, List.length_append, List.length_cons, List.length_nil]; rfl), rfl, ?_, rfl⟩
        ·omega
        ·exact ⟨hX, hC.recs_exact _⟩
      | tok u9 s9 =>
       obtain ⟨rfl, hu9⟩ := hC.c1
       refine ACode.draw [(7, 1)] 3 [] 0 (by kernel_rfl) (by kernel_rfl) ?_
       refine AAny.run hT nh (fuel := 5) [0, 1, 2] [0, 2, 3, 19, 20] (fz' := true) (l' := #[true, true, true, false, false, false, false, false]) (fr' := ⟨[(0, .ptr 0 0), (2, .loc 0 0), (3, .loc 1 0), (19, .slice (rcRows p.recs) p.recs.length (.tok u9 4)), (20, .ptr 0 0)], [[.slice [] 0 .exact, .slice [] 0 .exact, .slice [] 0 .exact, .slice [] 0 .exact], [.slice (rcRows p.recs) p.recs.length (.tok u9 4), .slice (nmRows p.globals) p.globals.length o2, .slice (fuRows p.funs) p.funs.length o3, .slice (tdRows p.threads) p.threads.length o4], (tokAV v2)], [], tk, nx⟩) (σ' := [psAV lo l s7]) (ob := Tt 4) (by kernel_rfl) (by kernel_rfl) (tt 4) ?_
       have nk12 : recordF m l s7 ≠ .out := by intro h9; simp only [h9, R.out_bind] at hX; exact hne hX.symm
       refine AAny.call (fuel := 4) (i := 3) (fid := 42) (cap := []) (avs := [.ptr 0 0]) rfl (by kernel_rfl) (by kernel_rfl) (by kernel_rfl) (by kernel_rfl) rfl (by kernel_rfl) en_42 (by kernel_rfl) (ACalls.mono (p_record l lo hll m s7 nk12) ?_) (by kernel_rfl)
       cases k12 : recordF m l s7 with
       | out => exact absurd k12 nk12
       | bad ea eb ec =>
        rintro _ _ ⟨rfl, pp, dd, rfl⟩
        simp only [k12, R.bad_bind] at hX
        subst hX
        exact PR.bad_intro (vAV := fun (x : Pg) => .agg (pgAV x)) pp dd rfl rfl
       | ok v13 s14 =>
        rintro _ _ ⟨rfl, rfl⟩
        simp only [k12, R.ok_bind] at hX
        refine AAny.run hT nh (fuel := 0) [4, 5, 6, 7] [0, 2, 3] (fz' := false) (l' := #[true, true, true, true, true, true, true, true]) (fr' := ⟨[(0, .ptr 0 0), (2, .loc 0 0), (3, .loc 1 0)], [[.slice [] 0 .exact, .slice [] 0 .exact, .slice [] 0 .exact, .slice [] 0 .exact], [.slice ((rcRows p.recs) ++ ([.str v13.name, .slice (nmRows v13.fields) v13.fields.length .no, .i v13.line, .i v13.col] : List AV)) (p.recs.length + 1) (.tok nx 4), .slice (nmRows p.globals) p.globals.length o2, .slice (fuRows p.funs) p.funs.length o3, .slice (tdRows p.threads) p.threads.length o4], (tokAV v2)], [], nx :: dropTok tk (some u9), nx + 1⟩) (σ' := [psAV lo l s14]) (ob := True ∧ (u9 ∈ tk ∧ ([.str v13.name, .slice (nmRows v13.fields) v13.fields.length .no, .i v13.line, .i v13.col] : List AV).length = 1 * 4 ∧ (p.recs.length + 1) * 56 ≤ room) ∧ True ∧ True ∧ True) (by kernel_rfl) (by kernel_rfl) ⟨trivial, ⟨hu9, rfl, by unfold room; omega⟩, trivial, trivial, trivial⟩ ?_
        refine AAny.done (by kernel_rfl) ?_
        refine ⟨by kernel_rfl, _, ?_, m, { p with recs := p.recs ++ [v13] }, s14, (.tok nx 4), o2, o3, o4, nx :: dropTok tk (some u9), nx + 1, (by simp only [rcRows_append, rcRows_one, rcAV, List.length_append, List.length_cons, List.length_nil]; rfl), rfl, ?_, rfl⟩
        ·omega
        ·exact ⟨hX, hC.recs_tok _⟩
     ·
      try simp only [h8, Bool.false_eq_true, Bool.not_true, Bool.not_false, if_true, if_false, R.ok_bind] at hX
      refine ACode.seq ?_
      refine ACode.region ?_
      refine AOps.runN hT nh 1 [0, 2, 3, 4, 26] (fr' := ⟨[(0, .ptr 0 0), (2, .loc 0 0), (3, .loc 1 0), (4, .loc 2 0), (26, .ptr 0 0)], [[.slice [] 0 .exact, .slice [] 0 .exact, .slice [] 0 .exact, .slice [] 0 .exact], [.slice (rcRows p.recs) p.recs.length o1, .slice (nmRows p.globals) p.globals.length o2, .slice (fuRows p.funs) p.funs.length o3, .slice (tdRows p.threads) p.threads.length o4], (tokAV v2)], [], tk, nx⟩) (σ' := [psAV lo l s7]) (ob := Tt 2) (by kernel_rfl) (tt 2) ?_
      have nk15 : eatF l [103, 108, 111, 98, 97, 108] s7 ≠ .out := by intro h9; simp only [h9, R.out_bind] at hX; exact hne hX.symm
      refine AOps.call (fid := 41) (cap := []) (avs := [.ptr 0 0, .str [103, 108, 111, 98, 97, 108]]) (by kernel_rfl) rfl (by kernel_rfl) (by kernel_rfl) en_41 (by kernel_rfl) (ACalls.mono (p_eat l lo hll [103, 108, 111, 98, 97, 108] s7 nk15) ?_)
      cases k15 : eatF l [103, 108, 111, 98, 97, 108] s7 with
      | out => exact absurd k15 nk15
      | bad ea eb ec =>
       rintro _ _ ⟨rfl, pp, dd, rfl⟩
       simp only [k15, R.bad_bind] at hX
       subst hX
       exact PR.bad_intro (vAV := fun (x : Pg) => .agg (pgAV x)) pp dd rfl rfl
      | ok v16 s17 =>
       rintro _ _ ⟨rfl, rfl⟩
       simp only [k15, R.ok_bind] at hX
       refine AOps.runN hT nh 1 [0, 2, 3, 4, 25] (fr' := ⟨[(0, .ptr 0 0), (2, .loc 0 0), (3, .loc 1 0), (4, .loc 2 0), (25, .bool v16)], [[.slice [] 0 .exact, .slice [] 0 .exact, .slice [] 0 .exact, .slice [] 0 .exact], [.slice (rcRows p.recs) p.recs.length o1, .slice (nmRows p.globals) p.globals.length o2, .slice (fuRows p.funs) p.funs.length o3, .slice (tdRows p.threads) p.threads.length o4], (tokAV v2)], [], tk, nx⟩) (σ' := [psAV lo l s17]) (ob := Tt 2) (by kernel_rfl) (tt 2) ?_
       refine AOps.nil ?_
       refine ACode.cond (t := v16) (by kernel_rfl) (fun h18 => ?_) (fun h18 => ?_)
       ·
        try simp only [h18, Bool.false_eq_true, Bool.not_true, Bool.not_false, if_true, if_false, R.ok_bind] at hX
        refine ACode.seq ?_
        cases o2 with
        | no => exact hC.c2.elim
        | exact =>
         refine ACode.draw [(7, 1)] 3 [] 0 (by kernel_rfl) (by kernel_rfl) ?_
         refine AAny.run hT nh (fuel := 5) [0, 1, 2] [0, 2, 3, 29, 30] (fz' := true) (l' := #[true, true, true, false, false, false, false, false]) (fr' := ⟨[(0, .ptr 0 0), (2, .loc 0 0), (3, .loc 1 0), (29, .slice (nmRows p.globals) p.globals.length .exact), (30, .ptr 0 0)], [[.slice [] 0 .exact, .slice [] 0 .exact, .slice [] 0 .exact, .slice [] 0 .exact], [.slice (rcRows p.recs) p.recs.length o1, .slice (nmRows p.globals) p.globals.length .exact, .slice (fuRows p.funs) p.funs.length o3, .slice (tdRows p.threads) p.threads.length o4], (tokAV v2)], [], tk, nx⟩) (σ' := [psAV lo l s17]) (ob := Tt 4) (by kernel_rfl) (by kernel_rfl) (tt 4) ?_
         have nk19 : namedF l s17 ≠ .out := by intro h9; simp only [h9, R.out_bind] at hX; exact hne hX.symm
         refine AAny.call (fuel := 4) (i := 3) (fid := 43) (cap := []) (avs := [.ptr 0 0]) rfl (by kernel_rfl) (by kernel_rfl) (by kernel_rfl) (by kernel_rfl) rfl (by kernel_rfl) en_43 (by kernel_rfl) (ACalls.mono (p_named l lo hll s17 nk19) ?_) (by kernel_rfl)
         cases k19 : namedF l s17 with
         | out => exact absurd k19 nk19
         | bad ea eb ec =>
          rintro _ _ ⟨rfl, pp, dd, rfl⟩
          simp only [k19, R.bad_bind] at hX
          subst hX
          exact PR.bad_intro (vAV := fun (x : Pg) => .agg (pgAV x)) pp dd rfl rfl
         | ok v20 s21 =>
          rintro _ _ ⟨rfl, rfl⟩
          simp only [k19, R.ok_bind] at hX
          refine AAny.run hT nh (fuel := 0) [4, 5, 6, 7] [0, 2, 3] (fz' := false) (l' := #[true, true, true, true, true, true, true, true]) (fr' := ⟨[(0, .ptr 0 0), (2, .loc 0 0), (3, .loc 1 0)], [[.slice [] 0 .exact, .slice [] 0 .exact, .slice [] 0 .exact, .slice [] 0 .exact], [.slice (rcRows p.recs) p.recs.length o1, .slice ((nmRows p.globals) ++ ((nmAV v20) : List AV)) (p.globals.length + 1) (.tok nx 5), .slice (fuRows p.funs) p.funs.length o3, .slice (tdRows p.threads) p.threads.length o4], (tokAV v2)], [], nx :: tk, nx + 1⟩) (σ' := [psAV lo l s21]) (ob := True ∧ ((nmRows p.globals : List AV).length = p.globals.length * 5 ∧ ((nmAV v20) : List AV).length = 1 * 5 ∧ 0 < 1 ∧ (p.globals.length + 1) * 56 ≤ room) ∧ True ∧ True ∧ True) (by kernel_rfl) (by kernel_rfl) ⟨trivial, ⟨by first | exact hC.c1 | exact hC.c2 | exact hC.c3 | exact hC.c4, rfl, by omega, by unfold room; omega⟩, trivial, trivial, trivial⟩ ?_
          refine AAny.done (by kernel_rfl) ?_
          refine ACode.region ?_
          refine AOps.runN hT nh 1 [0, 2, 3, 35] (fr' := ⟨[(0, .ptr 0 0), (2, .loc 0 0), (3, .loc 1 0), (35, .ptr 0 0)], [[.slice [] 0 .exact, .slice [] 0 .exact, .slice [] 0 .exact, .slice [] 0 .exact], [.slice (rcRows p.recs) p.recs.length o1, .slice ((nmRows p.globals) ++ ((nmAV v20) : List AV)) (p.globals.length + 1) (.tok nx 5), .slice (fuRows p.funs) p.funs.length o3, .slice (tdRows p.threads) p.threads.length o4], (tokAV v2)], [], nx :: tk, nx + 1⟩) (σ' := [psAV lo l s21]) (ob := Tt 2) (by kernel_rfl) (tt 2) ?_
          have nk22 : mustF l [59] s21 ≠ .out := by intro h9; simp only [h9, R.out_bind] at hX; exact hne hX.symm
          refine AOps.call (fid := 44) (cap := []) (avs := [.ptr 0 0, .str [59]]) (by kernel_rfl) rfl (by kernel_rfl) (by kernel_rfl) en_44 (by kernel_rfl) (ACalls.mono (p_must l lo hll [59] s21 nk22) ?_)
          cases k22 : mustF l [59] s21 with
          | out => exact absurd k22 nk22
          | bad ea eb ec =>
           rintro _ _ ⟨rfl, pp, dd, rfl⟩
           simp only [k22, R.bad_bind] at hX
           subst hX
           exact PR.bad_intro (vAV := fun (x : Pg) => .agg (pgAV x)) pp dd rfl rfl
          | ok v23 s24 =>
           rintro _ _ ⟨rfl, rfl⟩
           simp only [k22, R.ok_bind] at hX
           refine AOps.nil ?_
           refine ⟨by kernel_rfl, _, ?_, m, { p with globals := p.globals ++ [v20] }, s24, o1, (.tok nx 5), o3, o4, nx :: tk, nx + 1, (by simp only [nmRows_append, nmRows_one, nmAV, List.length_append, List.length_cons, List.length_nil]; rfl), rfl, ?_, rfl⟩
           ·omega
           ·exact ⟨hX, hC.globals_exact _⟩
        | tok u9 s9 =>
         obtain ⟨rfl, hu9⟩ := hC.c2
         refine ACode.draw [(7, 1)] 3 [] 0 (by kernel_rfl) (by kernel_rfl) ?_
         refine AAny.run hT nh (fuel := 5) [0, 1, 2] [0, 2, 3, 29, 30] (fz' := true) (l' := #[true, true, true, false, false, false, false, false]) (fr' := ⟨[(0, .ptr 0 0), (2, .loc 0 0), (3, .loc 1 0), (29, .slice (nmRows p.globals) p.globals.length (.tok u9 5)), (30, .ptr 0 0)], [[.slice [] 0 .exact, .slice [] 0 .exact, .slice [] 0 .exact, .slice [] 0 .exact], [.slice (rcRows p.recs) p.recs.length o1, .slice (nmRows p.globals) p.globals.length (.tok u9 5), .slice (fuRows p.funs) p.funs.length o3, .slice (tdRows p.threads) p.threads.length o4], (tokAV v2)], [], tk, nx⟩) (σ' := [psAV lo l s17]) (ob := Tt 4) (by kernel_rfl) (by kernel_rfl) (tt 4) ?_
         have nk25 : namedF l s17 ≠ .out := by intro h9; simp only [h9, R.out_bind] at hX; exact hne hX.symm
         refine AAny.call (fuel := 4) (i := 3) (fid := 43) (cap := []) (avs := [.ptr 0 0]) rfl (by kernel_rfl) (by kernel_rfl) (by kernel_rfl) (by kernel_rfl) rfl (by kernel_rfl) en_43 (by kernel_rfl) (ACalls.mono (p_named l lo hll s17 nk25) ?_) (by kernel_rfl)
         cases k25 : namedF l s17 with
         | out => exact absurd k25 nk25
         | bad ea eb ec =>
          rintro _ _ ⟨rfl, pp, dd, rfl⟩
          simp only [k25, R.bad_bind] at hX
          subst hX
          exact PR.bad_intro (vAV := fun (x : Pg) => .agg (pgAV x)) pp dd rfl rfl
         | ok v26 s27 =>
          rintro _ _ ⟨rfl, rfl⟩
          simp only [k25, R.ok_bind] at hX
          refine AAny.run hT nh (fuel := 0) [4, 5, 6, 7] [0, 2, 3] (fz' := false) (l' := #[true, true, true, true, true, true, true, true]) (fr' := ⟨[(0, .ptr 0 0), (2, .loc 0 0), (3, .loc 1 0)], [[.slice [] 0 .exact, .slice [] 0 .exact, .slice [] 0 .exact, .slice [] 0 .exact], [.slice (rcRows p.recs) p.recs.length o1, .slice ((nmRows p.globals) ++ ((nmAV v26) : List AV)) (p.globals.length + 1) (.tok nx 5), .slice (fuRows p.funs) p.funs.length o3, .slice (tdRows p.threads) p.threads.length o4], (tokAV v2)], [], nx :: dropTok tk (some u9), nx + 1⟩) (σ' := [psAV lo l s27]) (ob := True ∧ (u9 ∈ tk ∧ ((nmAV v26) : List AV).length = 1 * 5 ∧ (p.globals.length + 1) * 56 ≤ room) ∧ True ∧ True ∧ True) (by kernel_rfl) (by kernel_rfl) ⟨trivial, ⟨hu9, rfl, by unfold room; omega⟩, trivial, trivial, trivial⟩ ?_
          refine AAny.done (by kernel_rfl) ?_
          refine ACode.region ?_
          refine AOps.runN hT nh 1 [0, 2, 3, 35] (fr' := ⟨[(0, .ptr 0 0), (2, .loc 0 0), (3, .loc 1 0), (35, .ptr 0 0)], [[.slice [] 0 .exact, .slice [] 0 .exact, .slice [] 0 .exact, .slice [] 0 .exact], [.slice (rcRows p.recs) p.recs.length o1, .slice ((nmRows p.globals) ++ ((nmAV v26) : List AV)) (p.globals.length + 1) (.tok nx 5), .slice (fuRows p.funs) p.funs.length o3, .slice (tdRows p.threads) p.threads.length o4], (tokAV v2)], [], nx :: dropTok tk (some u9), nx + 1⟩) (σ' := [psAV lo l s27]) (ob := Tt 2) (by kernel_rfl) (tt 2) ?_
          have nk28 : mustF l [59] s27 ≠ .out := by intro h9; simp only [h9, R.out_bind] at hX; exact hne hX.symm
          refine AOps.call (fid := 44) (cap := []) (avs := [.ptr 0 0, .str [59]]) (by kernel_rfl) rfl (by kernel_rfl) (by kernel_rfl) en_44 (by kernel_rfl) (ACalls.mono (p_must l lo hll [59] s27 nk28) ?_)
          cases k28 : mustF l [59] s27 with
          | out => exact absurd k28 nk28
          | bad ea eb ec =>
           rintro _ _ ⟨rfl, pp, dd, rfl⟩
           simp only [k28, R.bad_bind] at hX
           subst hX
           exact PR.bad_intro (vAV := fun (x : Pg) => .agg (pgAV x)) pp dd rfl rfl
          | ok v29 s30 =>
           rintro _ _ ⟨rfl, rfl⟩
           simp only [k28, R.ok_bind] at hX
           refine AOps.nil ?_
           refine ⟨by kernel_rfl, _, ?_, m, { p with globals := p.globals ++ [v26] }, s30, o1, (.tok nx 5), o3, o4, nx :: dropTok tk (some u9), nx + 1, (by simp only [nmRows_append, nmRows_one, nmAV, List.length_append, List.length_cons, List.length_nil]; rfl), rfl, ?_, rfl⟩
           ·omega
           ·exact ⟨hX, hC.globals_tok _⟩
       ·
        try simp only [h18, Bool.false_eq_true, Bool.not_true, Bool.not_false, if_true, if_false, R.ok_bind] at hX
        refine ACode.seq ?_
        refine ACode.region ?_
        refine AOps.runN hT nh 1 [0, 2, 3, 4, 38] (fr' := ⟨[(0, .ptr 0 0), (2, .loc 0 0), (3, .loc 1 0), (4, .loc 2 0), (38, .ptr 0 0)], [[.slice [] 0 .exact, .slice [] 0 .exact, .slice [] 0 .exact, .slice [] 0 .exact], [.slice (rcRows p.recs) p.recs.length o1, .slice (nmRows p.globals) p.globals.length o2, .slice (fuRows p.funs) p.funs.length o3, .slice (tdRows p.threads) p.threads.length o4], (tokAV v2)], [], tk, nx⟩) (σ' := [psAV lo l s17]) (ob := Tt 2) (by kernel_rfl) (tt 2) ?_
        have nk31 : eatF l [102, 117, 110] s17 ≠ .out := by intro h9; simp only [h9, R.out_bind] at hX; exact hne hX.symm
        refine AOps.call (fid := 41) (cap := []) (avs := [.ptr 0 0, .str [102, 117, 110]]) (by kernel_rfl) rfl (by kernel_rfl) (by kernel_rfl) en_41 (by kernel_rfl) (ACalls.mono (p_eat l lo hll [102, 117, 110] s17 nk31) ?_)
        cases k31 : eatF l [102, 117, 110] s17 with
        | out => exact absurd k31 nk31
        | bad ea eb ec =>
         rintro _ _ ⟨rfl, pp, dd, rfl⟩
         simp only [k31, R.bad_bind] at hX
         subst hX
         exact PR.bad_intro (vAV := fun (x : Pg) => .agg (pgAV x)) pp dd rfl rfl
        | ok v32 s33 =>
         rintro _ _ ⟨rfl, rfl⟩
         simp only [k31, R.ok_bind] at hX
         refine AOps.runN hT nh 1 [0, 2, 3, 4, 37] (fr' := ⟨[(0, .ptr 0 0), (2, .loc 0 0), (3, .loc 1 0), (4, .loc 2 0), (37, .bool v32)], [[.slice [] 0 .exact, .slice [] 0 .exact, .slice [] 0 .exact, .slice [] 0 .exact], [.slice (rcRows p.recs) p.recs.length o1, .slice (nmRows p.globals) p.globals.length o2, .slice (fuRows p.funs) p.funs.length o3, .slice (tdRows p.threads) p.threads.length o4], (tokAV v2)], [], tk, nx⟩) (σ' := [psAV lo l s33]) (ob := Tt 2) (by kernel_rfl) (tt 2) ?_
         refine AOps.nil ?_
         refine ACode.cond (t := v32) (by kernel_rfl) (fun h34 => ?_) (fun h34 => ?_)
         ·
          try simp only [h34, Bool.false_eq_true, Bool.not_true, Bool.not_false, if_true, if_false, R.ok_bind] at hX
          cases o3 with
          | no => exact hC.c3.elim
          | exact =>
           refine ACode.draw [(7, 1)] 3 [] 0 (by kernel_rfl) (by kernel_rfl) ?_
           refine AAny.run hT nh (fuel := 5) [0, 1, 2] [0, 2, 3, 41, 42] (fz' := true) (l' := #[true, true, true, false, false, false, false, false]) (fr' := ⟨[(0, .ptr 0 0), (2, .loc 0 0), (3, .loc 1 0), (41, .slice (fuRows p.funs) p.funs.length .exact), (42, .ptr 0 0)], [[.slice [] 0 .exact, .slice [] 0 .exact, .slice [] 0 .exact, .slice [] 0 .exact], [.slice (rcRows p.recs) p.recs.length o1, .slice (nmRows p.globals) p.globals.length o2, .slice (fuRows p.funs) p.funs.length .exact, .slice (tdRows p.threads) p.threads.length o4], (tokAV v2)], [], tk, nx⟩) (σ' := [psAV lo l s33]) (ob := Tt 4) (by kernel_rfl) (by kernel_rfl) (tt 4) ?_
           have nk35 : funF m l s33 ≠ .out := by intro h9; simp only [h9, R.out_bind] at hX; exact hne hX.symm
           refine AAny.call (fuel := 4) (i := 3) (fid := 45) (cap := []) (avs := [.ptr 0 0]) rfl (by kernel_rfl) (by kernel_rfl) (by kernel_rfl) (by kernel_rfl) rfl (by kernel_rfl) en_45 (by kernel_rfl) (ACalls.mono (p_fun l lo hll m s33 nk35) ?_) (by kernel_rfl)
           cases k35 : funF m l s33 with
           | out => exact absurd k35 nk35
           | bad ea eb ec =>
            rintro _ _ ⟨rfl, pp, dd, rfl⟩
            simp only [k35, R.bad_bind] at hX
            subst hX
            exact PR.bad_intro (vAV := fun (x : Pg) => .agg (pgAV x)) pp dd rfl rfl
           | ok v36 s37 =>
            rintro _ _ ⟨rfl, rfl⟩
            simp only [k35, R.ok_bind] at hX
            refine AAny.run hT nh (fuel := 0) [4, 5, 6, 7] [0, 2, 3] (fz' := false) (l' := #[true, true, true, true, true, true, true, true]) (fr' := ⟨[(0, .ptr 0 0), (2, .loc 0 0), (3, .loc 1 0)], [[.slice [] 0 .exact, .slice [] 0 .exact, .slice [] 0 .exact, .slice [] 0 .exact], [.slice (rcRows p.recs) p.recs.length o1, .slice (nmRows p.globals) p.globals.length o2, .slice ((fuRows p.funs) ++ ([.str v36.name, .slice (nmRows v36.params) v36.params.length .no, .slice (smRows v36.body) v36.body.length .no, .i v36.line, .i v36.col] : List AV)) (p.funs.length + 1) (.tok nx 5), .slice (tdRows p.threads) p.threads.length o4], (tokAV v2)], [], nx :: tk, nx + 1⟩) (σ' := [psAV lo l s37]) (ob := True ∧ ((fuRows p.funs : List AV).length = p.funs.length * 5 ∧ ([.str v36.name, .slice (nmRows v36.params) v36.params.length .no, .slice (smRows v36.body) v36.body.length .no, .i v36.line, .i v36.col] : List AV).length = 1 * 5 ∧ 0 < 1 ∧ (p.funs.length + 1) * 80 ≤ room) ∧ True ∧ True ∧ True) (by kernel_rfl) (by kernel_rfl) ⟨trivial, ⟨by first | exact hC.c1 | exact hC.c2 | exact hC.c3 | exact hC.c4, rfl, by omega, by unfold room; omega⟩, trivial, trivial, trivial⟩ ?_
            refine AAny.done (by kernel_rfl) ?_
            refine ⟨by kernel_rfl, _, ?_, m, { p with funs := p.funs ++ [v36] }, s37, o1, o2, (.tok nx 5), o4, nx :: tk, nx + 1, (by simp only [fuRows_append, fuRows_one, fuAV, List.length_append, List.length_cons, List.length_nil]; rfl), rfl, ?_, rfl⟩
            ·omega
            ·exact ⟨hX, hC.funs_exact _⟩
          | tok u9 s9 =>
           obtain ⟨rfl, hu9⟩ := hC.c3
           refine ACode.draw [(7, 1)] 3 [] 0 (by kernel_rfl) (by kernel_rfl) ?_
           refine AAny.run hT nh (fuel := 5) [0, 1, 2] [0, 2, 3, 41, 42] (fz' := true) (l' := #[true, true, true, false, false, false, false, false]) (fr' := ⟨[(0, .ptr 0 0), (2, .loc 0 0), (3, .loc 1 0), (41, .slice (fuRows p.funs) p.funs.length (.tok u9 5)), (42, .ptr 0 0)], [[.slice [] 0 .exact, .slice [] 0 .exact, .slice [] 0 .exact, .slice [] 0 .exact], [.slice (rcRows p.recs) p.recs.length o1, .slice (nmRows p.globals) p.globals.length o2, .slice (fuRows p.funs) p.funs.length (.tok u9 5), .slice (tdRows p.threads) p.threads.length o4], (tokAV v2)], [], tk, nx⟩) (σ' := [psAV lo l s33]) (ob := Tt 4) (by kernel_rfl) (by kernel_rfl) (tt 4) ?_
           have nk38 : funF m l s33 ≠ .out := by intro h9; simp only [h9, R.out_bind] at hX; exact hne hX.symm
           refine AAny.call (fuel := 4) (i := 3) (fid := 45) (cap := []) (avs := [.ptr 0 0]) rfl (by kernel_rfl) (by kernel_rfl) (by kernel_rfl) (by kernel_rfl) rfl (by kernel_rfl) en_45 (by kernel_rfl) (ACalls.mono (p_fun l lo hll m s33 nk38) ?_) (by kernel_rfl)
           cases k38 : funF m l s33 with
           | out => exact absurd k38 nk38
           | bad ea eb ec =>
            rintro _ _ ⟨rfl, pp, dd, rfl⟩
            simp only [k38, R.bad_bind] at hX
            subst hX
            exact PR.bad_intro (vAV := fun (x : Pg) => .agg (pgAV x)) pp dd rfl rfl
           | ok v39 s40 =>
            rintro _ _ ⟨rfl, rfl⟩
            simp only [k38, R.ok_bind] at hX
            refine AAny.run hT nh (fuel := 0) [4, 5, 6, 7] [0, 2, 3] (fz' := false) (l' := #[true, true, true, true, true, true, true, true]) (fr' := ⟨[(0, .ptr 0 0), (2, .loc 0 0), (3, .loc 1 0)], [[.slice [] 0 .exact, .slice [] 0 .exact, .slice [] 0 .exact, .slice [] 0 .exact], [.slice (rcRows p.recs) p.recs.length o1, .slice (nmRows p.globals) p.globals.length o2, .slice ((fuRows p.funs) ++ ([.str v39.name, .slice (nmRows v39.params) v39.params.length .no, .slice (smRows v39.body) v39.body.length .no, .i v39.line, .i v39.col] : List AV)) (p.funs.length + 1) (.tok nx 5), .slice (tdRows p.threads) p.threads.length o4], (tokAV v2)], [], nx :: dropTok tk (some u9), nx + 1⟩) (σ' := [psAV lo l s40]) (ob := True ∧ (u9 ∈ tk ∧ ([.str v39.name, .slice (nmRows v39.params) v39.params.length .no, .slice (smRows v39.body) v39.body.length .no, .i v39.line, .i v39.col] : List AV).length = 1 * 5 ∧ (p.funs.length + 1) * 80 ≤ room) ∧ True ∧ True ∧ True) (by kernel_rfl) (by kernel_rfl) ⟨trivial, ⟨hu9, rfl, by unfold room; omega⟩, trivial, trivial, trivial⟩ ?_
            refine AAny.done (by kernel_rfl) ?_
            refine ⟨by kernel_rfl, _, ?_, m, { p with funs := p.funs ++ [v39] }, s40, o1, o2, (.tok nx 5), o4, nx :: dropTok tk (some u9), nx + 1, (by simp only [fuRows_append, fuRows_one, fuAV, List.length_append, List.length_cons, List.length_nil]; rfl), rfl, ?_, rfl⟩
            ·omega
            ·exact ⟨hX, hC.funs_tok _⟩
         ·
          try simp only [h34, Bool.false_eq_true, Bool.not_true, Bool.not_false, if_true, if_false, R.ok_bind] at hX
          refine ACode.seq ?_
          refine ACode.region ?_
          refine AOps.runN hT nh 1 [0, 2, 3, 4, 48] (fr' := ⟨[(0, .ptr 0 0), (2, .loc 0 0), (3, .loc 1 0), (4, .loc 2 0), (48, .ptr 0 0)], [[.slice [] 0 .exact, .slice [] 0 .exact, .slice [] 0 .exact, .slice [] 0 .exact], [.slice (rcRows p.recs) p.recs.length o1, .slice (nmRows p.globals) p.globals.length o2, .slice (fuRows p.funs) p.funs.length o3, .slice (tdRows p.threads) p.threads.length o4], (tokAV v2)], [], tk, nx⟩) (σ' := [psAV lo l s33]) (ob := Tt 2) (by kernel_rfl) (tt 2) ?_
          have nk41 : eatF l [116, 104, 114, 101, 97, 100] s33 ≠ .out := by intro h9; simp only [h9, R.out_bind] at hX; exact hne hX.symm
          refine AOps.call (fid := 41) (cap := []) (avs := [.ptr 0 0, .str [116, 104, 114, 101, 97, 100]]) (by kernel_rfl) rfl (by kernel_rfl) (by kernel_rfl) en_41 (by kernel_rfl) (ACalls.mono (p_eat l lo hll [116, 104, 114, 101, 97, 100] s33 nk41) ?_)
          cases k41 : eatF l [116, 104, 114, 101, 97, 100] s33 with
          | out => exact absurd k41 nk41
          | bad ea eb ec =>
           rintro _ _ ⟨rfl, pp, dd, rfl⟩
           simp only [k41, R.bad_bind] at hX
           subst hX
           exact PR.bad_intro (vAV := fun (x : Pg) => .agg (pgAV x)) pp dd rfl rfl
          | ok v42 s43 =>
           rintro _ _ ⟨rfl, rfl⟩
           simp only [k41, R.ok_bind] at hX
           refine AOps.runN hT nh 1 [0, 2, 3, 4, 47] (fr' := ⟨[(0, .ptr 0 0), (2, .loc 0 0), (3, .loc 1 0), (4, .loc 2 0), (47, .bool v42)], [[.slice [] 0 .exact, .slice [] 0 .exact, .slice [] 0 .exact, .slice [] 0 .exact], [.slice (rcRows p.recs) p.recs.length o1, .slice (nmRows p.globals) p.globals.length o2, .slice (fuRows p.funs) p.funs.length o3, .slice (tdRows p.threads) p.threads.length o4], (tokAV v2)], [], tk, nx⟩) (σ' := [psAV lo l s43]) (ob := Tt 2) (by kernel_rfl) (tt 2) ?_
           refine AOps.nil ?_
           refine ACode.cond (t := v42) (by kernel_rfl) (fun h44 => ?_) (fun h44 => ?_)
           ·
            try simp only [h44, Bool.false_eq_true, Bool.not_true, Bool.not_false, if_true, if_false, R.ok_bind] at hX
            cases o4 with
            | no => exact hC.c4.elim
            | exact =>
             refine ACode.draw [(12, 1)] 3 [] 0 (by kernel_rfl) (by kernel_rfl) ?_
             refine AAny.run hT nh (fuel := 6) [0, 1, 2, 4, 5, 6, 7] [0, 2, 3, 51, 52, 55, 57] (fz' := true) (l' := #[true, true, true, false, true, true, true, true, false, false, false, false, false]) (fr' := ⟨[(0, .ptr 0 0), (2, .loc 0 0), (3, .loc 1 0), (51, .slice (tdRows p.threads) p.threads.length .exact), (52, .ptr 0 0), (55, .i v2.line), (57, .i v2.col)], [[.slice [] 0 .exact, .slice [] 0 .exact, .slice [] 0 .exact, .slice [] 0 .exact], [.slice (rcRows p.recs) p.recs.length o1, .slice (nmRows p.globals) p.globals.length o2, .slice (fuRows p.funs) p.funs.length o3, .slice (tdRows p.threads) p.threads.length .exact], (tokAV v2)], [], tk, nx⟩) (σ' := [psAV lo l s43]) (ob := Tt 8) (by kernel_rfl) (by kernel_rfl) (tt 8) ?_
             have nk45 : blockF m l s43 ≠ .out := by intro h9; simp only [h9, R.out_bind] at hX; exact hne hX.symm
             refine AAny.call (fuel := 5) (i := 3) (fid := 46) (cap := []) (avs := [.ptr 0 0]) rfl (by kernel_rfl) (by kernel_rfl) (by kernel_rfl) (by kernel_rfl) rfl (by kernel_rfl) en_46 (by kernel_rfl) (ACalls.mono ((sm_ok l lo hll m).block s43 nk45) ?_) (by kernel_rfl)
             cases k45 : blockF m l s43 with
             | out => exact absurd k45 nk45
             | bad ea eb ec =>
              rintro _ _ ⟨rfl, pp, dd, rfl⟩
              simp only [k45, R.bad_bind] at hX
              subst hX
              exact PR.bad_intro (vAV := fun (x : Pg) => .agg (pgAV x)) pp dd rfl rfl
             | ok v46 s47 =>
              rintro _ _ ⟨rfl, rfl⟩
              simp only [k45, R.ok_bind] at hX
              refine AAny.run hT nh (fuel := 0) [8, 9, 10, 11, 12] [0, 2, 3] (fz' := false) (l' := #[true, true, true, true, true, true, true, true, true, true, true, true, true]) (fr' := ⟨[(0, .ptr 0 0), (2, .loc 0 0), (3, .loc 1 0)], [[.slice [] 0 .exact, .slice [] 0 .exact, .slice [] 0 .exact, .slice [] 0 .exact], [.slice (rcRows p.recs) p.recs.length o1, .slice (nmRows p.globals) p.globals.length o2, .slice (fuRows p.funs) p.funs.length o3, .slice ((tdRows p.threads) ++ ([.slice (smRows v46) v46.length .no, .i v2.line, .i v2.col] : List AV)) (p.threads.length + 1) (.tok nx 3)], (tokAV v2)], [], nx :: tk, nx + 1⟩) (σ' := [psAV lo l s47]) (ob := True ∧ True ∧ ((tdRows p.threads : List AV).length = p.threads.length * 3 ∧ ([.slice (smRows v46) v46.length .no, .i v2.line, .i v2.col] : List AV).length = 1 * 3 ∧ 0 < 1 ∧ (p.threads.length + 1) * 40 ≤ room) ∧ True ∧ True ∧ True) (by kernel_rfl) (by kernel_rfl) ⟨trivial, trivial, ⟨by first | exact hC.c1 | exact hC.c2 | exact hC.c3 | exact hC.c4, rfl, by omega, by unfold room; omega⟩, trivial, trivial, trivial⟩ ?_
              refine AAny.done (by kernel_rfl) ?_
              refine ⟨by kernel_rfl, _, ?_, m, { p with threads := p.threads ++ [⟨v46, v2.line, v2.col⟩] }, s47, o1, o2, o3, (.tok nx 3), nx :: tk, nx + 1, (by simp only [tdRows_append, tdRows_one, tdAV, List.length_append, List.length_cons, List.length_nil]; rfl), rfl, ?_, rfl⟩
              ·omega
              ·exact ⟨hX, hC.threads_exact _⟩
            | tok u9 s9 =>
             obtain ⟨rfl, hu9⟩ := hC.c4
             refine ACode.draw [(12, 1)] 3 [] 0 (by kernel_rfl) (by kernel_rfl) ?_
             refine AAny.run hT nh (fuel := 6) [0, 1, 2, 4, 5, 6, 7] [0, 2, 3, 51, 52, 55, 57] (fz' := true) (l' := #[true, true, true, false, true, true, true, true, false, false, false, false, false]) (fr' := ⟨[(0, .ptr 0 0), (2, .loc 0 0), (3, .loc 1 0), (51, .slice (tdRows p.threads) p.threads.length (.tok u9 3)), (52, .ptr 0 0), (55, .i v2.line), (57, .i v2.col)], [[.slice [] 0 .exact, .slice [] 0 .exact, .slice [] 0 .exact, .slice [] 0 .exact], [.slice (rcRows p.recs) p.recs.length o1, .slice (nmRows p.globals) p.globals.length o2, .slice (fuRows p.funs) p.funs.length o3, .slice (tdRows p.threads) p.threads.length (.tok u9 3)], (tokAV v2)], [], tk, nx⟩) (σ' := [psAV lo l s43]) (ob := Tt 8) (by kernel_rfl) (by kernel_rfl) (tt 8) ?_
             have nk48 : blockF m l s43 ≠ .out := by intro h9; simp only [h9, R.out_bind] at hX; exact hne hX.symm
             refine AAny.call (fuel := 5) (i := 3) (fid := 46) (cap := []) (avs := [.ptr 0 0]) rfl (by kernel_rfl) (by kernel_rfl) (by kernel_rfl) (by kernel_rfl) rfl (by kernel_rfl) en_46 (by kernel_rfl) (ACalls.mono ((sm_ok l lo hll m).block s43 nk48) ?_) (by kernel_rfl)
             cases k48 : blockF m l s43 with
             | out => exact absurd k48 nk48
             | bad ea eb ec =>
              rintro _ _ ⟨rfl, pp, dd, rfl⟩
              simp only [k48, R.bad_bind] at hX
              subst hX
              exact PR.bad_intro (vAV := fun (x : Pg) => .agg (pgAV x)) pp dd rfl rfl
             | ok v49 s50 =>
              rintro _ _ ⟨rfl, rfl⟩
              simp only [k48, R.ok_bind] at hX
              refine AAny.run hT nh (fuel := 0) [8, 9, 10, 11, 12] [0, 2, 3] (fz' := false) (l' := #[true, true, true, true, true, true, true, true, true, true, true, true, true]) (fr' := ⟨[(0, .ptr 0 0), (2, .loc 0 0), (3, .loc 1 0)], [[.slice [] 0 .exact, .slice [] 0 .exact, .slice [] 0 .exact, .slice [] 0 .exact], [.slice (rcRows p.recs) p.recs.length o1, .slice (nmRows p.globals) p.globals.length o2, .slice (fuRows p.funs) p.funs.length o3, .slice ((tdRows p.threads) ++ ([.slice (smRows v49) v49.length .no, .i v2.line, .i v2.col] : List AV)) (p.threads.length + 1) (.tok nx 3)], (tokAV v2)], [], nx :: dropTok tk (some u9), nx + 1⟩) (σ' := [psAV lo l s50]) (ob := True ∧ True ∧ (u9 ∈ tk ∧ ([.slice (smRows v49) v49.length .no, .i v2.line, .i v2.col] : List AV).length = 1 * 3 ∧ (p.threads.length + 1) * 40 ≤ room) ∧ True ∧ True ∧ True) (by kernel_rfl) (by kernel_rfl) ⟨trivial, trivial, ⟨hu9, rfl, by unfold room; omega⟩, trivial, trivial, trivial⟩ ?_
              refine AAny.done (by kernel_rfl) ?_
              refine ⟨by kernel_rfl, _, ?_, m, { p with threads := p.threads ++ [⟨v49, v2.line, v2.col⟩] }, s50, o1, o2, o3, (.tok nx 3), nx :: dropTok tk (some u9), nx + 1, (by simp only [tdRows_append, tdRows_one, tdAV, List.length_append, List.length_cons, List.length_nil]; rfl), rfl, ?_, rfl⟩
              ·omega
              ·exact ⟨hX, hC.threads_tok _⟩
           ·
            try simp only [h44, Bool.false_eq_true, Bool.not_true, Bool.not_false, if_true, if_false, R.ok_bind] at hX
            refine ACode.region ?_
            refine AOps.runN hT nh 2 [0, 2, 3, 7, 8] (fr' := ⟨[(0, .ptr 0 0), (2, .loc 0 0), (3, .loc 1 0), (7, .ptr 0 0), (8, .agg (tokAV v2))], [[.slice [] 0 .exact, .slice [] 0 .exact, .slice [] 0 .exact, .slice [] 0 .exact], [.slice (rcRows p.recs) p.recs.length o1, .slice (nmRows p.globals) p.globals.length o2, .slice (fuRows p.funs) p.funs.length o3, .slice (tdRows p.threads) p.threads.length o4], (tokAV v2)], [], tk, nx⟩) (σ' := [psAV lo l s43]) (ob := Tt 3) (by kernel_rfl) (tt 3) ?_
            refine AOps.call (fid := 47) (cap := []) (avs := [.ptr 0 0, .i 4, .agg (tokAV v2)]) (by kernel_rfl) rfl (by kernel_rfl) (by kernel_rfl) en_47 (by kernel_rfl) (ACalls.mono (p_fail l lo hll 4 v2 (s43.pos : Int) s43.dep) ?_)
            rintro _ _ ⟨rfl, pp, dd, rfl⟩
            subst hX
            exact PR.bad_intro (vAV := fun (x : Pg) => .agg (pgAV x)) pp dd rfl rfl


end Go.AE

set_option linter.unusedVariables false
set_option linter.unusedSimpArgs false
set_option maxRecDepth 4000
namespace Go.AE
open Go.Proofs

theorem skip_walk (rest : List UInt8) (line col : Int) (n : Nat) (hn : n ≤ rest.length) (hcol : 1 ≤ col) (hb : col + rest.length ≤ 4611686018427387904) (hl0 : 1 ≤ line) (hbl : line + rest.length ≤ 4611686018427387904) : ACalls Tryd.prog 33 [.ptr 0 0, .i (n : Int)] [[.str rest, .i line, .i col]] (fun e s => s = [rdAV (skipS n ⟨rest, line, col⟩)] ∧ e = .ret (.str (rest.take n))) := by
  refine ACalls.enter hT Tryd.func33 rfl (by kernel_rfl) ?_
  refine ACode.seq ?_
  refine ACode.run hT nh [0, 1] (fr' := ⟨[(0, .ptr 0 0), (1, .i (n : Int))], [], [], [], 0⟩) (σ' := [[.str rest, .i line, .i col]]) (ob := Tt 2) (by kernel_rfl) (tt 2) ?_
  refine ACode.seq ?_
  refine ACode.run hT nh [0, 1, 5] (fr' := ⟨[(0, .ptr 0 0), (1, .i (n : Int)), (5, .str (rest.take n))], [], [], [], 0⟩) (σ' := [[.str rest, .i line, .i col]]) (ob := True ∧ True ∧ True ∧ True ∧ True ∧ (0 ≤ (n : Int) ∧ (n : Int) ≤ (((rest) : List UInt8).length : Int)) ∧ True ∧ True) (by kernel_rfl) ⟨trivial, trivial, trivial, trivial, trivial, (by omega), trivial, trivial⟩ ?_
  refine ACode.seq ?_
  refine ACode.run hT nh [0, 5] (fr' := ⟨[(0, .ptr 0 0), (5, .str (rest.take n))], [], [], [], 0⟩) (σ' := [[.str (rest.drop n), .i line, .i col]]) (ob := True ∧ True ∧ True ∧ True ∧ True ∧ True ∧ (0 ≤ (n : Int) ∧ (n : Int) ≤ (((rest) : List UInt8).length : Int)) ∧ True ∧ True ∧ True ∧ True) (by kernel_rfl) ⟨trivial, trivial, trivial, trivial, trivial, trivial, (by omega), trivial, trivial, trivial, trivial⟩ ?_
  refine ACode.seq ?_
  refine ACode.seq ?_
  refine ACode.region ?_
  refine AOps.runN hT nh 1 [0, 5, 23] (fr' := ⟨[(0, .ptr 0 0), (5, .str (rest.take n)), (23, .str (rest.take n))], [], [], [], 0⟩) (σ' := [[.str (rest.drop n), .i line, .i col]]) (ob := Tt 2) (by kernel_rfl) (tt 2) ?_
  refine AOps.bytes hT (b := rest.take n) (e := 5) (by_ := 1) (by kernel_rfl) rfl (by kernel_rfl) (by kernel_rfl) (by kernel_rfl) (by kernel_rfl) (by kernel_rfl) ?_
  refine AOps.runN hT nh 2 [0, 5, 24, 25, 26] (fr' := ⟨[(0, .ptr 0 0), (5, .str (rest.take n)), (24, .slice (bytesAV (rest.take n)) ((rest.take n : List UInt8).length) .no), (25, .i (((rest.take n : List UInt8).length : Nat) : Int)), (26, .i 0)], [], [], [], 0⟩) (σ' := [[.str (rest.drop n), .i line, .i col]]) (ob := Tt 3) (by kernel_rfl) (tt 3) ?_
  refine AOps.nil ?_
  refine ACode.block ?_
  refine ACode.loop [0, 5, 24, 25, 26] 0 0 (fun n0 fr σ' => ∃ (i : Nat), fr = ⟨[(0, .ptr 0 0), (5, .str (rest.take n)), (24, .slice (bytesAV (rest.take n)) ((rest.take n).length) .no), (25, .i (((rest.take n).length : Nat) : Int)), (26, .i (i : Int))], [], [], [], 0⟩ ∧ σ' = [[.str (rest.drop n), .i (advL line ((rest.take n).take i)), .i (advC col ((rest.take n).take i))]] ∧ (i ≤ (rest.take n).length) ∧ n0 = (rest.take n).length - i) _ (by kernel_rfl) ⟨0, rfl, rfl, Nat.zero_le _, rfl⟩ ?_
  rintro n0 fr σ' ⟨i, rfl, rfl, hP, rfl⟩
  have hc := advC_le col hcol ((rest.take n).take i)
  have hl := advL_le line ((rest.take n).take i)
  have hk : ((rest.take n).take i).length ≤ rest.length := by simp; omega
  have hk2 : (rest.take n).length ≤ rest.length := by simp; omega
  refine ACode.seq ?_
  refine ACode.run hT nh [0, 5, 24, 25, 26, 27] (fr' := ⟨[(0, .ptr 0 0), (5, .str (rest.take n)), (24, .slice (bytesAV (rest.take n)) ((rest.take n).length) .no), (25, .i (((rest.take n).length : Nat) : Int)), (26, .i (i : Int)), (27, .bool (decide ((i : Int) < (((rest.take n).length : Nat) : Int))))], [], [], [], 0⟩) (σ' := [[.str (rest.drop n), .i (advL line ((rest.take n).take i)), .i (advC col ((rest.take n).take i))]]) (ob := Tt 2) (by kernel_rfl) (tt 2) ?_
  refine ACode.seq ?_
  refine ACode.cond (t := decide ((i : Int) < (((rest.take n).length : Nat) : Int))) (by kernel_rfl) (fun h1 => ?_) (fun h1 => ?_)
  ·
   have h1k := of_decide_eq_true h1
   refine ACode.skip ?_
   refine ACode.seq ?_
   refine ACode.block ?_
   refine ACode.seq ?_
   refine ACode.region ?_
   refine AOps.runN hT nh 1 [0, 5, 24, 25, 26, 28] (fr' := ⟨[(0, .ptr 0 0), (5, .str (rest.take n)), (24, .slice (bytesAV (rest.take n)) ((rest.take n).length) .no), (25, .i (((rest.take n).length : Nat) : Int)), (26, .i (i : Int)), (28, .dat (((bytesAV (rest.take n) : List AV).drop (i * 1)).take 1))], [], [], [], 0⟩) (σ' := [[.str (rest.drop n), .i (advL line ((rest.take n).take i)), .i (advC col ((rest.take n).take i))]]) (ob := (0 ≤ ((i : Int) : Int) ∧ ((i : Int) : Int) < ((rest.take n).length : Nat) ∧ i * 1 ≤ (bytesAV (rest.take n) : List AV).length) ∧ True) (by kernel_rfl) ⟨(by have h9 := of_decide_eq_true h1; simp only [bytesAV_length]; omega), trivial⟩ ?_
   rw [bytesAV_at (rest.take n) i (by simp at *; omega)]
   refine AOps.runN hT nh 2 [0, 5, 7, 24, 25, 26] (fr' := ⟨[(0, .ptr 0 0), (5, .str (rest.take n)), (7, .int .u8 (((rest.take n).getD i 0).toNat : Int)), (24, .slice (bytesAV (rest.take n)) ((rest.take n).length) .no), (25, .i (((rest.take n).length : Nat) : Int)), (26, .i (i : Int))], [], [], [], 0⟩) (σ' := [[.str (rest.drop n), .i (advL line ((rest.take n).take i)), .i (advC col ((rest.take n).take i))]]) (ob := Tt 3) (by kernel_rfl) (tt 3) ?_
   refine AOps.nil ?_
   refine ACode.seq ?_
   refine ACode.run hT nh [0, 5, 7, 24, 25, 26] (fr' := ⟨[(0, .ptr 0 0), (5, .str (rest.take n)), (7, .int .u8 (((rest.take n).getD i 0).toNat : Int)), (24, .slice (bytesAV (rest.take n)) ((rest.take n).length) .no), (25, .i (((rest.take n).length : Nat) : Int)), (26, .i (i : Int))], [], [], [], 0⟩) (σ' := [[.str (rest.drop n), .i (advL line ((rest.take n).take i)), .i (IntKind.i64.wrap ((advC col ((rest.take n).take i)) + 1))]]) (ob := Tt 9) (by kernel_rfl) (tt 9) ?_
   rw [IntWalk.i64_in ((advC col ((rest.take n).take i)) + 1) (by omega)]
   refine ACode.seq ?_
   refine ACode.run hT nh [0, 5, 24, 25, 26, 38] (fr' := ⟨[(0, .ptr 0 0), (5, .str (rest.take n)), (24, .slice (bytesAV (rest.take n)) ((rest.take n).length) .no), (25, .i (((rest.take n).length : Nat) : Int)), (26, .i (i : Int)), (38, .bool ((((rest.take n).getD i 0).toNat : Int) == 10))], [], [], [], 0⟩) (σ' := [[.str (rest.drop n), .i (advL line ((rest.take n).take i)), .i ((advC col ((rest.take n).take i)) + 1)]]) (ob := Tt 3) (by kernel_rfl) (tt 3) ?_
   refine ACode.cond (t := (((rest.take n).getD i 0).toNat : Int) == 10) (by kernel_rfl) (fun h2 => ?_) (fun h2 => ?_)
   ·
    have h2k := eq_of_beq h2
    refine ACode.seq ?_
    refine ACode.run hT nh [0, 5, 24, 25, 26] (fr' := ⟨[(0, .ptr 0 0), (5, .str (rest.take n)), (24, .slice (bytesAV (rest.take n)) ((rest.take n).length) .no), (25, .i (((rest.take n).length : Nat) : Int)), (26, .i (i : Int))], [], [], [], 0⟩) (σ' := [[.str (rest.drop n), .i (IntKind.i64.wrap ((advL line ((rest.take n).take i)) + 1)), .i ((advC col ((rest.take n).take i)) + 1)]]) (ob := Tt 9) (by kernel_rfl) (tt 9) ?_
    rw [IntWalk.i64_in ((advL line ((rest.take n).take i)) + 1) (by omega)]
    refine ACode.run hT nh [0, 5, 24, 25, 26] (fr' := ⟨[(0, .ptr 0 0), (5, .str (rest.take n)), (24, .slice (bytesAV (rest.take n)) ((rest.take n).length) .no), (25, .i (((rest.take n).length : Nat) : Int)), (26, .i (i : Int))], [], [], [], 0⟩) (σ' := [[.str (rest.drop n), .i ((advL line ((rest.take n).take i)) + 1), .i 1]]) (ob := Tt 5) (by kernel_rfl) (tt 5) ?_
    refine ACode.run hT nh [0, 5, 24, 25, 26] (fr' := ⟨[(0, .ptr 0 0), (5, .str (rest.take n)), (24, .slice (bytesAV (rest.take n)) ((rest.take n).length) .no), (25, .i (((rest.take n).length : Nat) : Int)), (26, .i (IntKind.i64.wrap ((i : Int) + 1)))], [], [], [], 0⟩) (σ' := [[.str (rest.drop n), .i ((advL line ((rest.take n).take i)) + 1), .i 1]]) (ob := Tt 3) (by kernel_rfl) (tt 3) ?_
    rw [IntWalk.i64_in ((i : Int) + 1) (by omega)]
    refine ⟨by kernel_rfl, _, ?_, i + 1, rfl, (by have h9 : i < (rest.take n).length := (by have := of_decide_eq_true h1; omega); rw [advL_succ _ _ _ h9, advC_succ _ _ _ h9]; have h8 := h2; rw [byte_ten] at h8; simp only [decide_eq_true_eq, decide_eq_false_iff_not] at h8; simp only [h8, if_true, if_false]), ?_, rfl⟩
    ·have := of_decide_eq_true h1; omega
    ·have := of_decide_eq_true h1; omega
   ·
    have h2k := ne_of_beq_false h2
    refine ACode.skip ?_
    refine ACode.run hT nh [0, 5, 24, 25, 26] (fr' := ⟨[(0, .ptr 0 0), (5, .str (rest.take n)), (24, .slice (bytesAV (rest.take n)) ((rest.take n).length) .no), (25, .i (((rest.take n).length : Nat) : Int)), (26, .i (IntKind.i64.wrap ((i : Int) + 1)))], [], [], [], 0⟩) (σ' := [[.str (rest.drop n), .i (advL line ((rest.take n).take i)), .i ((advC col ((rest.take n).take i)) + 1)]]) (ob := Tt 3) (by kernel_rfl) (tt 3) ?_
    rw [IntWalk.i64_in ((i : Int) + 1) (by omega)]
    refine ⟨by kernel_rfl, _, ?_, i + 1, rfl, (by have h9 : i < (rest.take n).length := (by have := of_decide_eq_true h1; omega); rw [advL_succ _ _ _ h9, advC_succ _ _ _ h9]; have h8 := h2; rw [byte_ten] at h8; simp only [decide_eq_true_eq, decide_eq_false_iff_not] at h8; simp only [h8, if_true, if_false]), ?_, rfl⟩
    ·have := of_decide_eq_true h1; omega
    ·have := of_decide_eq_true h1; omega
  ·
   have h1k := of_decide_eq_false h1
   refine ACode.exit ?_
   refine ACode.seq ?_
   refine ACode.run hT nh [4] (fr' := ⟨[(4, .str (rest.take n))], [], [], [], 0⟩) (σ' := [[.str (rest.drop n), .i (advL line ((rest.take n).take i)), .i (advC col ((rest.take n).take i))]]) (ob := Tt 3) (by kernel_rfl) (tt 3) ?_
   refine ACode.ret ?_
   refine retQ.ret (.str (rest.take n)) (by kernel_rfl) ?_
   have h9 : i = (rest.take n).length := by have := of_decide_eq_false h1; omega
   subst h9
   refine ⟨?_, rfl⟩
   rw [List.take_length]
   rfl
theorem run_walk (f : FuncId) (p : Int → Bool) (he : Enters Tryd.prog f) (hf : ∀ (c : Int) (σ : St), ACalls Tryd.prog f [.int .i32 c] σ (fun e s => σ = s ∧ e = .ret (.bool (p c)))) (rest : List UInt8) (line col : Int)  : ACalls Tryd.prog 34 [.ptr 0 0, .func f []] [[.str rest, .i line, .i col]] (fun e s => s = [[.str rest, .i line, .i col]] ∧ e = .ret (.i (runF p rest 0 : Nat))) := by
  refine ACalls.enter hT Tryd.func34 rfl (by kernel_rfl) ?_
  refine ACode.seq ?_
  refine ACode.run hT nh [0, 1] (fr' := ⟨[(0, .ptr 0 0), (1, .func f [])], [], [], [], 0⟩) (σ' := [[.str rest, .i line, .i col]]) (ob := Tt 2) (by kernel_rfl) (tt 2) ?_
  refine ACode.seq ?_
  refine ACode.seq ?_
  refine ACode.run hT nh [0, 1, 11] (fr' := ⟨[(0, .ptr 0 0), (1, .func f []), (11, .iter 0)], [], [(rest, 0)], [], 0⟩) (σ' := [[.str rest, .i line, .i col]]) (ob := Tt 6) (by kernel_rfl) (tt 6) ?_
  refine ACode.block ?_
  refine ACode.loop [0, 1, 11] 0 1 (fun n0 fr σ' => ∃ (i : Nat), fr = ⟨[(0, .ptr 0 0), (1, .func f []), (11, .iter 0)], [], [(rest, i)], [], 0⟩ ∧ σ' = [[.str rest, .i line, .i col]] ∧ (runF p rest 0 = runF p rest i) ∧ n0 = rest.length - i) _ (by kernel_rfl) ⟨0, rfl, rfl, rfl, rfl⟩ ?_
  rintro n0 fr σ' ⟨i, rfl, rfl, hP, rfl⟩
  refine ACode.seq ?_
  refine ACode.region ?_
  refine AOps.next (i := 0) (s := rest) (p := i) rfl rfl (by kernel_rfl) (by kernel_rfl) (by kernel_rfl) (fun hp1 => ?_) (fun hp1 => ?_)
  ·
   refine AOps.runN hT nh 1 [0, 1, 11, 12, 13] (fr' := ⟨[(0, .ptr 0 0), (1, .func f []), (11, .iter 0), (12, .tuple [.bool true, .i ((i : Nat) : Int), .int .i32 (((dec rest i).1 : Nat) : Int)]), (13, .bool true)], [], [(rest, i + (dec rest i).2)], [], 0⟩) (σ' := [[.str rest, .i line, .i col]]) (ob := Tt 2) (by kernel_rfl) (tt 2) ?_
   refine AOps.nil ?_
   refine ACode.seq ?_
   refine ACode.cond (t := true) (by kernel_rfl) (fun _ => ?_) (fun h => Bool.noConfusion h)
   refine ACode.skip ?_
   refine ACode.block ?_
   refine ACode.seq ?_
   refine ACode.run hT nh [0, 1, 5, 6, 11] (fr' := ⟨[(0, .ptr 0 0), (1, .func f []), (5, .i ((i : Nat) : Int)), (6, .int .i32 (((dec rest i).1 : Nat) : Int)), (11, .iter 0)], [], [(rest, i + (dec rest i).2)], [], 0⟩) (σ' := [[.str rest, .i line, .i col]]) (ob := Tt 5) (by kernel_rfl) (tt 5) ?_
   refine ACode.seq ?_
   refine ACode.region ?_
   refine AOps.runN hT nh 2 [0, 1, 5, 11, 16, 17] (fr' := ⟨[(0, .ptr 0 0), (1, .func f []), (5, .i ((i : Nat) : Int)), (11, .iter 0), (16, .func f []), (17, .int .i32 (((dec rest i).1 : Nat) : Int))], [], [(rest, i + (dec rest i).2)], [], 0⟩) (σ' := [[.str rest, .i line, .i col]]) (ob := Tt 3) (by kernel_rfl) (tt 3) ?_
   refine AOps.call (fid := f) (cap := []) (avs := [.int .i32 (((dec rest i).1 : Nat) : Int)]) (by kernel_rfl) rfl (by kernel_rfl) (by kernel_rfl) he (by kernel_rfl) (ACalls.mono (hf (((dec rest i).1 : Nat) : Int) _) ?_)
   rintro _ _ ⟨rfl, rfl⟩
   refine AOps.runN hT nh 1 [0, 1, 5, 11, 19] (fr' := ⟨[(0, .ptr 0 0), (1, .func f []), (5, .i ((i : Nat) : Int)), (11, .iter 0), (19, .bool (!(p (((dec rest i).1 : Nat) : Int))))], [], [(rest, i + (dec rest i).2)], [], 0⟩) (σ' := [[.str rest, .i line, .i col]]) (ob := Tt 2) (by kernel_rfl) (tt 2) ?_
   refine AOps.nil ?_
   refine ACode.cond (t := !(p (((dec rest i).1 : Nat) : Int))) (by kernel_rfl) (fun h2 => ?_) (fun h2 => ?_)
   ·
    have h2k := h2; simp only [Bool.and_eq_true, Bool.or_eq_true, Bool.and_eq_false_iff, Bool.or_eq_false_iff, decide_eq_true_eq, decide_eq_false_iff_not, beq_iff_eq, bne_iff_ne, ne_eq, Bool.not_eq_true', Bool.not_eq_false', beq_eq_false_iff_ne, bne_eq_false_iff_eq] at h2k
    refine ACode.seq ?_
    refine ACode.run hT nh [4] (fr' := ⟨[(4, .i ((i : Nat) : Int))], [], [(rest, i + (dec rest i).2)], [], 0⟩) (σ' := [[.str rest, .i line, .i col]]) (ob := Tt 3) (by kernel_rfl) (tt 3) ?_
    refine ACode.ret ?_
    refine retQ.ret (.i ((i : Nat) : Int)) (by kernel_rfl) ?_
    refine ⟨rfl, ?_⟩
    rw [hP, runF, dif_pos hp1, if_neg (by simpa using h2)]
   ·
    have h2k := h2; simp only [Bool.and_eq_true, Bool.or_eq_true, Bool.and_eq_false_iff, Bool.or_eq_false_iff, decide_eq_true_eq, decide_eq_false_iff_not, beq_iff_eq, bne_iff_ne, ne_eq, Bool.not_eq_true', Bool.not_eq_false', beq_eq_false_iff_ne, bne_eq_false_iff_eq] at h2k
    refine ACode.skip ?_
    refine ⟨by kernel_rfl, _, ?_, i + (dec rest i).2, rfl, rfl, ?_, rfl⟩
    ·have := dec_pos rest i hp1; omega
    ·rw [hP, runF, dif_pos hp1, if_pos (by simpa using h2), Nat.max_eq_right (dec_pos rest i hp1)]
  ·
   refine AOps.runN hT nh 1 [0, 1, 11, 12, 13] (fr' := ⟨[(0, .ptr 0 0), (1, .func f []), (11, .iter 0), (12, .tuple [.bool false]), (13, .bool false)], [], [(rest, i)], [], 0⟩) (σ' := [[.str rest, .i line, .i col]]) (ob := Tt 2) (by kernel_rfl) (tt 2) ?_
   refine AOps.nil ?_
   refine ACode.seq ?_
   refine ACode.cond (t := false) (by kernel_rfl) (fun h => Bool.noConfusion h) (fun _ => ?_)
   refine ACode.exit ?_
   refine ACode.seq ?_
   refine ACode.run hT nh [4] (fr' := ⟨[(4, .i (((rest) : List UInt8).length : Int))], [], [(rest, i)], [], 0⟩) (σ' := [[.str rest, .i line, .i col]]) (ob := Tt 7) (by kernel_rfl) (tt 7) ?_
   refine ACode.ret ?_
   refine retQ.ret (.i (((rest) : List UInt8).length : Int)) (by kernel_rfl) ?_
   refine ⟨rfl, ?_⟩
   rw [hP, runF, dif_neg (by omega)]

end Go.AE

