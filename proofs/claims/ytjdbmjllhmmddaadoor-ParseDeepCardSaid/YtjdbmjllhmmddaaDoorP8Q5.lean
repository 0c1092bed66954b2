/- Parts of the proof of a law, in build order: P4. -/
import Derived.Test.YtjdbmjllhmmddaaDoorP8Q4
import Derived.IntWalk
set_option maxRecDepth 2000
set_option linter.unusedVariables false
set_option linter.unusedSimpArgs false
set_option linter.unusedVariables false
set_option linter.unusedSimpArgs false
set_option maxRecDepth 4000
namespace Go.AE
open Go.Proofs

theorem ex_ok (l : List Tok) (lo : Own) (hll : l.length ≤ 100000) (n : Nat) : ExOK l lo n := by
  induction n using Nat.strongRecOn with
  | _ n ih =>
    cases n with
    | zero => exact ⟨fun s h => absurd rfl h, fun v s h => absurd rfl h, fun s h => absurd rfl h, fun s h => absurd rfl h⟩
    | succ n => exact ⟨fun s h => p_expr l lo hll n s ih h, fun v s h => p_chain l lo hll n v s ih h, fun s h => p_prefix l lo hll n s ih h, fun s h => p_atom l lo hll n s ih h⟩

theorem p_place (l : List Tok) (lo : Own) (hll : l.length ≤ 100000) (n : Nat) (s : PS)  (hne : placeF n l s ≠ .out) : ACalls Tryd.prog 74 [.ptr 0 0] [psAV lo l s] (PR (fun (p : Pl) => .agg (plAV p)) lo l (placeF n l s)) := by
  generalize hX : placeF n l s = X at hne ⊢
  refine ACalls.soft ?_
  unfold placeF at hX
  refine ACalls.enter hT Tryd.func74 rfl (by kernel_rfl) ?_
  refine ACode.seq ?_
  refine ACode.run hT nh [0, 2] (fr' := ⟨[(0, .ptr 0 0), (2, .loc 0 0)], [[.i 0, .str [], .str [], .i 0, .i 0, .int .u64 0, .i 0, .str [], .str [], .slice [] 0 .exact, .i 0, .i 0, .i 0, .i 0]], [], [], 0⟩) (σ' := [psAV lo l s]) (ob := Tt 2) (by kernel_rfl) (tt 2) ?_
  refine ACode.seq ?_
  refine ACode.region ?_
  refine AOps.runN hT nh 1 [0, 2, 5] (fr' := ⟨[(0, .ptr 0 0), (2, .loc 0 0), (5, .ptr 0 0)], [[.i 0, .str [], .str [], .i 0, .i 0, .int .u64 0, .i 0, .str [], .str [], .slice [] 0 .exact, .i 0, .i 0, .i 0, .i 0]], [], [], 0⟩) (σ' := [psAV lo l s]) (ob := Tt 2) (by kernel_rfl) (tt 2) ?_
  have nk1 : kindF l 1 s ≠ .out := by intro h9; simp only [h9, R.out_bind] at hX; exact hne hX.symm
  refine AOps.call (fid := 57) (cap := []) (avs := [.ptr 0 0, .i 1]) (by kernel_rfl) rfl (by kernel_rfl) (by kernel_rfl) en_57 (by kernel_rfl) (ACalls.mono (p_kind l lo hll 1 s nk1) ?_)
  cases k1 : kindF l 1 s with
  | out => exact absurd k1 nk1
  | bad ea eb ec =>
    rintro _ _ ⟨rfl, pp, dd, rfl⟩
    simp only [k1, R.bad_bind] at hX
    subst hX
    exact PR.bad_intro (vAV := fun (p : Pl) => .agg (plAV p)) pp dd rfl rfl
  | ok v2 s3 =>
    rintro _ _ ⟨rfl, rfl⟩
    simp only [k1, R.ok_bind] at hX
    refine AOps.runN hT nh 2 [0, 2, 3] (fr' := ⟨[(0, .ptr 0 0), (2, .loc 0 0), (3, .loc 1 0)], [[.i 0, .str [], .str [], .i 0, .i 0, .int .u64 0, .i 0, .str [], .str [], .slice [] 0 .exact, .i 0, .i 0, .i 0, .i 0], [.i v2.kind, .str v2.text, .int .u64 v2.n, .i v2.line, .i v2.col]], [], [], 0⟩) (σ' := [psAV lo l s3]) (ob := Tt 3) (by kernel_rfl) (tt 3) ?_
    refine AOps.nil ?_
    refine ACode.seq ?_
    refine ACode.run hT nh [0, 2, 4] (fr' := ⟨[(0, .ptr 0 0), (2, .loc 0 0), (4, .loc 2 0)], [[.i 0, .str [], .str [], .i 0, .i 0, .int .u64 0, .i 0, .str [], .str [], .slice [] 0 .exact, .i 0, .i 0, .i 0, .i 0], [.i v2.kind, .str v2.text, .int .u64 v2.n, .i v2.line, .i v2.col], [.i 1, .str v2.text, .str [], .i 0, .i 0, .int .u64 0, .i 0, .str [], .str [], .slice [] 0 .exact, .i 0, .i 0, .i v2.line, .i v2.col]], [], [], 0⟩) (σ' := [psAV lo l s3]) (ob := Tt 10) (by kernel_rfl) (tt 10) ?_
    refine ACode.seq ?_
    refine ACode.block ?_
    refine ACode.seq ?_
    refine ACode.region ?_
    refine AOps.runN hT nh 1 [0, 2, 4, 15] (fr' := ⟨[(0, .ptr 0 0), (2, .loc 0 0), (4, .loc 2 0), (15, .ptr 0 0)], [[.i 0, .str [], .str [], .i 0, .i 0, .int .u64 0, .i 0, .str [], .str [], .slice [] 0 .exact, .i 0, .i 0, .i 0, .i 0], [.i v2.kind, .str v2.text, .int .u64 v2.n, .i v2.line, .i v2.col], [.i 1, .str v2.text, .str [], .i 0, .i 0, .int .u64 0, .i 0, .str [], .str [], .slice [] 0 .exact, .i 0, .i 0, .i v2.line, .i v2.col]], [], [], 0⟩) (σ' := [psAV lo l s3]) (ob := Tt 2) (by kernel_rfl) (tt 2) ?_
    have nk4 : eatF l [46] s3 ≠ .out := by intro h9; simp only [h9, R.out_bind] at hX; exact hne hX.symm
    refine AOps.call (fid := 41) (cap := []) (avs := [.ptr 0 0, .str [46]]) (by kernel_rfl) rfl (by kernel_rfl) (by kernel_rfl) en_41 (by kernel_rfl) (ACalls.mono (p_eat l lo hll [46] s3 nk4) ?_)
    cases k4 : eatF l [46] s3 with
    | out => exact absurd k4 nk4
    | bad ea eb ec =>
      rintro _ _ ⟨rfl, pp, dd, rfl⟩
      simp only [k4, R.bad_bind] at hX
      subst hX
      exact PR.bad_intro (vAV := fun (p : Pl) => .agg (plAV p)) pp dd rfl rfl
    | ok v5 s6 =>
      rintro _ _ ⟨rfl, rfl⟩
      simp only [k4, R.ok_bind] at hX
      refine AOps.runN hT nh 1 [0, 2, 4, 14] (fr' := ⟨[(0, .ptr 0 0), (2, .loc 0 0), (4, .loc 2 0), (14, .bool v5)], [[.i 0, .str [], .str [], .i 0, .i 0, .int .u64 0, .i 0, .str [], .str [], .slice [] 0 .exact, .i 0, .i 0, .i 0, .i 0], [.i v2.kind, .str v2.text, .int .u64 v2.n, .i v2.line, .i v2.col], [.i 1, .str v2.text, .str [], .i 0, .i 0, .int .u64 0, .i 0, .str [], .str [], .slice [] 0 .exact, .i 0, .i 0, .i v2.line, .i v2.col]], [], [], 0⟩) (σ' := [psAV lo l s6]) (ob := Tt 2) (by kernel_rfl) (tt 2) ?_
      refine AOps.nil ?_
      refine ACode.cond (t := v5) (by kernel_rfl) (fun h7 => ?_) (fun h7 => ?_)
      · -- true
        skip
        try simp only [h7, Bool.false_eq_true, Bool.not_true, Bool.not_false, if_true, if_false] at hX
        refine ACode.region ?_
        refine AOps.runN hT nh 1 [2, 4, 17] (fr' := ⟨[(2, .loc 0 0), (4, .loc 2 0), (17, .ptr 0 0)], [[.i 0, .str [], .str [], .i 0, .i 0, .int .u64 0, .i 0, .str [], .str [], .slice [] 0 .exact, .i 0, .i 0, .i 0, .i 0], [.i v2.kind, .str v2.text, .int .u64 v2.n, .i v2.line, .i v2.col], [.i 1, .str v2.text, .str [], .i 0, .i 0, .int .u64 0, .i 0, .str [], .str [], .slice [] 0 .exact, .i 0, .i 0, .i v2.line, .i v2.col]], [], [], 0⟩) (σ' := [psAV lo l s6]) (ob := Tt 2) (by kernel_rfl) (tt 2) ?_
        have nk8 : kindF l 1 s6 ≠ .out := by intro h9; simp only [h9, R.out_bind] at hX; exact hne hX.symm
        refine AOps.call (fid := 57) (cap := []) (avs := [.ptr 0 0, .i 1]) (by kernel_rfl) rfl (by kernel_rfl) (by kernel_rfl) en_57 (by kernel_rfl) (ACalls.mono (p_kind l lo hll 1 s6 nk8) ?_)
        cases k8 : kindF l 1 s6 with
        | out => exact absurd k8 nk8
        | bad ea eb ec =>
          rintro _ _ ⟨rfl, pp, dd, rfl⟩
          simp only [k8, R.bad_bind] at hX
          subst hX
          exact PR.bad_intro (vAV := fun (p : Pl) => .agg (plAV p)) pp dd rfl rfl
        | ok v9 s10 =>
          rintro _ _ ⟨rfl, rfl⟩
          simp only [k8, R.ok_bind] at hX
          refine AOps.runN hT nh 5 [2, 4] (fr' := ⟨[(2, .loc 0 0), (4, .loc 2 0)], [[.i 0, .str [], .str [], .i 0, .i 0, .int .u64 0, .i 0, .str [], .str [], .slice [] 0 .exact, .i 0, .i 0, .i 0, .i 0], [.i v2.kind, .str v2.text, .int .u64 v2.n, .i v2.line, .i v2.col], [.i 2, .str v2.text, .str v9.text, .i 0, .i 0, .int .u64 0, .i 0, .str [], .str [], .slice [] 0 .exact, .i 0, .i 0, .i v2.line, .i v2.col]], [], [], 0⟩) (σ' := [psAV lo l s10]) (ob := Tt 6) (by kernel_rfl) (tt 6) ?_
          refine AOps.nil ?_
          refine ACode.seq ?_
          refine ACode.run hT nh [2] (fr' := ⟨[(2, .loc 0 0)], [[.i 2, .str v2.text, .str v9.text, .i 0, .i 0, .int .u64 0, .i 0, .str [], .str [], .slice [] 0 .exact, .i 0, .i 0, .i v2.line, .i v2.col], [.i v2.kind, .str v2.text, .int .u64 v2.n, .i v2.line, .i v2.col], [.i 2, .str v2.text, .str v9.text, .i 0, .i 0, .int .u64 0, .i 0, .str [], .str [], .slice [] 0 .exact, .i 0, .i 0, .i v2.line, .i v2.col]], [], [], 0⟩) (σ' := [psAV lo l s10]) (ob := Tt 3) (by kernel_rfl) (tt 3) ?_
          refine ACode.ret ?_
          refine retQ.ret (.agg [.i 2, .str v2.text, .str v9.text, .i 0, .i 0, .int .u64 0, .i 0, .str [], .str [], .slice [] 0 .exact, .i 0, .i 0, .i v2.line, .i v2.col]) (by kernel_rfl) ?_
          subst hX
          exact PR.ok_intro rfl rfl
      · -- false
        skip
        try simp only [h7, Bool.false_eq_true, Bool.not_true, Bool.not_false, if_true, if_false] at hX
        refine ACode.seq ?_
        refine ACode.region ?_
        refine AOps.runN hT nh 1 [0, 2, 4, 23] (fr' := ⟨[(0, .ptr 0 0), (2, .loc 0 0), (4, .loc 2 0), (23, .ptr 0 0)], [[.i 0, .str [], .str [], .i 0, .i 0, .int .u64 0, .i 0, .str [], .str [], .slice [] 0 .exact, .i 0, .i 0, .i 0, .i 0], [.i v2.kind, .str v2.text, .int .u64 v2.n, .i v2.line, .i v2.col], [.i 1, .str v2.text, .str [], .i 0, .i 0, .int .u64 0, .i 0, .str [], .str [], .slice [] 0 .exact, .i 0, .i 0, .i v2.line, .i v2.col]], [], [], 0⟩) (σ' := [psAV lo l s6]) (ob := Tt 2) (by kernel_rfl) (tt 2) ?_
        have nk11 : eatF l [91] s6 ≠ .out := by intro h9; simp only [h9, R.out_bind] at hX; exact hne hX.symm
        refine AOps.call (fid := 41) (cap := []) (avs := [.ptr 0 0, .str [91]]) (by kernel_rfl) rfl (by kernel_rfl) (by kernel_rfl) en_41 (by kernel_rfl) (ACalls.mono (p_eat l lo hll [91] s6 nk11) ?_)
        cases k11 : eatF l [91] s6 with
        | out => exact absurd k11 nk11
        | bad ea eb ec =>
          rintro _ _ ⟨rfl, pp, dd, rfl⟩
          simp only [k11, R.bad_bind] at hX
          subst hX
          exact PR.bad_intro (vAV := fun (p : Pl) => .agg (plAV p)) pp dd rfl rfl
        | ok v12 s13 =>
          rintro _ _ ⟨rfl, rfl⟩
          simp only [k11, R.ok_bind] at hX
          refine AOps.runN hT nh 1 [0, 2, 4, 22] (fr' := ⟨[(0, .ptr 0 0), (2, .loc 0 0), (4, .loc 2 0), (22, .bool v12)], [[.i 0, .str [], .str [], .i 0, .i 0, .int .u64 0, .i 0, .str [], .str [], .slice [] 0 .exact, .i 0, .i 0, .i 0, .i 0], [.i v2.kind, .str v2.text, .int .u64 v2.n, .i v2.line, .i v2.col], [.i 1, .str v2.text, .str [], .i 0, .i 0, .int .u64 0, .i 0, .str [], .str [], .slice [] 0 .exact, .i 0, .i 0, .i v2.line, .i v2.col]], [], [], 0⟩) (σ' := [psAV lo l s13]) (ob := Tt 2) (by kernel_rfl) (tt 2) ?_
          refine AOps.nil ?_
          refine ACode.cond (t := v12) (by kernel_rfl) (fun h14 => ?_) (fun h14 => ?_)
          · -- true
            skip
            try simp only [h14, Bool.false_eq_true, Bool.not_true, Bool.not_false, if_true, if_false] at hX
            refine ACode.seq ?_
            refine ACode.region ?_
            refine AOps.runN hT nh 1 [0, 2, 4, 25] (fr' := ⟨[(0, .ptr 0 0), (2, .loc 0 0), (4, .loc 2 0), (25, .ptr 0 0)], [[.i 0, .str [], .str [], .i 0, .i 0, .int .u64 0, .i 0, .str [], .str [], .slice [] 0 .exact, .i 0, .i 0, .i 0, .i 0], [.i v2.kind, .str v2.text, .int .u64 v2.n, .i v2.line, .i v2.col], [.i 1, .str v2.text, .str [], .i 0, .i 0, .int .u64 0, .i 0, .str [], .str [], .slice [] 0 .exact, .i 0, .i 0, .i v2.line, .i v2.col]], [], [], 0⟩) (σ' := [psAV lo l s13]) (ob := Tt 2) (by kernel_rfl) (tt 2) ?_
            have nk15 : exprF n l s13 ≠ .out := by intro h9; simp only [h9, R.out_bind] at hX; exact hne hX.symm
            refine AOps.call (fid := 75) (cap := []) (avs := [.ptr 0 0]) (by kernel_rfl) rfl (by kernel_rfl) (by kernel_rfl) en_75 (by kernel_rfl) (ACalls.mono ((ex_ok l lo hll n).expr s13 nk15) ?_)
            cases k15 : exprF n l s13 with
            | out => exact absurd k15 nk15
            | bad ea eb ec =>
              rintro _ _ ⟨rfl, pp, dd, rfl⟩
              simp only [k15, R.bad_bind] at hX
              subst hX
              exact PR.bad_intro (vAV := fun (p : Pl) => .agg (plAV p)) pp dd rfl rfl
            | ok v16 s17 =>
              rintro _ _ ⟨rfl, rfl⟩
              simp only [k15, R.ok_bind] at hX
              refine AOps.runN hT nh 4 [0, 2, 4] (fr' := ⟨[(0, .ptr 0 0), (2, .loc 0 0), (4, .loc 2 0)], [[.i 0, .str [], .str [], .i 0, .i 0, .int .u64 0, .i 0, .str [], .str [], .slice [] 0 .exact, .i 0, .i 0, .i 0, .i 0], [.i v2.kind, .str v2.text, .int .u64 v2.n, .i v2.line, .i v2.col], [.i 3, .str v2.text, .str [], .i v16.op, .i v16.bin, .int .u64 v16.n, .i v16.tk, .str v16.tr, .str v16.name, .slice (exRows v16.kids) v16.kids.length .no, .i v16.line, .i v16.col, .i v2.line, .i v2.col]], [], [], 0⟩) (σ' := [psAV lo l s17]) (ob := Tt 5) (by kernel_rfl) (tt 5) ?_
              refine AOps.nil ?_
              refine ACode.region ?_
              refine AOps.runN hT nh 1 [2, 4, 29] (fr' := ⟨[(2, .loc 0 0), (4, .loc 2 0), (29, .ptr 0 0)], [[.i 0, .str [], .str [], .i 0, .i 0, .int .u64 0, .i 0, .str [], .str [], .slice [] 0 .exact, .i 0, .i 0, .i 0, .i 0], [.i v2.kind, .str v2.text, .int .u64 v2.n, .i v2.line, .i v2.col], [.i 3, .str v2.text, .str [], .i v16.op, .i v16.bin, .int .u64 v16.n, .i v16.tk, .str v16.tr, .str v16.name, .slice (exRows v16.kids) v16.kids.length .no, .i v16.line, .i v16.col, .i v2.line, .i v2.col]], [], [], 0⟩) (σ' := [psAV lo l s17]) (ob := Tt 2) (by kernel_rfl) (tt 2) ?_
              have nk18 : mustF l [93] s17 ≠ .out := by intro h9; simp only [h9, R.out_bind] at hX; exact hne hX.symm
              refine AOps.call (fid := 44) (cap := []) (avs := [.ptr 0 0, .str [93]]) (by kernel_rfl) rfl (by kernel_rfl) (by kernel_rfl) en_44 (by kernel_rfl) (ACalls.mono (p_must l lo hll [93] s17 nk18) ?_)
              cases k18 : mustF l [93] s17 with
              | out => exact absurd k18 nk18
              | bad ea eb ec =>
                rintro _ _ ⟨rfl, pp, dd, rfl⟩
                simp only [k18, R.bad_bind] at hX
                subst hX
                exact PR.bad_intro (vAV := fun (p : Pl) => .agg (plAV p)) pp dd rfl rfl
              | ok v19 s20 =>
                rintro _ _ ⟨rfl, rfl⟩
                simp only [k18, R.ok_bind] at hX
                refine AOps.nil ?_
                refine ACode.seq ?_
                refine ACode.run hT nh [2] (fr' := ⟨[(2, .loc 0 0)], [[.i 3, .str v2.text, .str [], .i v16.op, .i v16.bin, .int .u64 v16.n, .i v16.tk, .str v16.tr, .str v16.name, .slice (exRows v16.kids) v16.kids.length .no, .i v16.line, .i v16.col, .i v2.line, .i v2.col], [.i v2.kind, .str v2.text, .int .u64 v2.n, .i v2.line, .i v2.col], [.i 3, .str v2.text, .str [], .i v16.op, .i v16.bin, .int .u64 v16.n, .i v16.tk, .str v16.tr, .str v16.name, .slice (exRows v16.kids) v16.kids.length .no, .i v16.line, .i v16.col, .i v2.line, .i v2.col]], [], [], 0⟩) (σ' := [psAV lo l s20]) (ob := Tt 3) (by kernel_rfl) (tt 3) ?_
                refine ACode.ret ?_
                refine retQ.ret (.agg [.i 3, .str v2.text, .str [], .i v16.op, .i v16.bin, .int .u64 v16.n, .i v16.tk, .str v16.tr, .str v16.name, .slice (exRows v16.kids) v16.kids.length .no, .i v16.line, .i v16.col, .i v2.line, .i v2.col]) (by kernel_rfl) ?_
                subst hX
                exact PR.ok_intro rfl rfl
          · -- false
            skip
            try simp only [h14, Bool.false_eq_true, Bool.not_true, Bool.not_false, if_true, if_false] at hX
            refine ACode.skip ?_
            refine ACode.seq ?_
            refine ACode.run hT nh [2] (fr' := ⟨[(2, .loc 0 0)], [[.i 1, .str v2.text, .str [], .i 0, .i 0, .int .u64 0, .i 0, .str [], .str [], .slice [] 0 .exact, .i 0, .i 0, .i v2.line, .i v2.col], [.i v2.kind, .str v2.text, .int .u64 v2.n, .i v2.line, .i v2.col], [.i 1, .str v2.text, .str [], .i 0, .i 0, .int .u64 0, .i 0, .str [], .str [], .slice [] 0 .exact, .i 0, .i 0, .i v2.line, .i v2.col]], [], [], 0⟩) (σ' := [psAV lo l s13]) (ob := Tt 3) (by kernel_rfl) (tt 3) ?_
            refine ACode.ret ?_
            refine retQ.ret (.agg [.i 1, .str v2.text, .str [], .i 0, .i 0, .int .u64 0, .i 0, .str [], .str [], .slice [] 0 .exact, .i 0, .i 0, .i v2.line, .i v2.col]) (by kernel_rfl) ?_
            subst hX
            exact PR.ok_intro rfl rfl

theorem p_right (l : List Tok) (lo : Own) (hll : l.length ≤ 100000) (n : Nat) (s : PS)  (hne : rightF n l s ≠ .out) : ACalls Tryd.prog 73 [.ptr 0 0] [psAV lo l s] (PR (fun (r : Rt) => .agg (rtAV r)) lo l (rightF n l s)) := by
  generalize hX : rightF n l s = X at hne ⊢
  refine ACalls.soft ?_
  unfold rightF at hX
  refine ACalls.enter hT Tryd.func73 rfl (by kernel_rfl) ?_
  refine ACode.seq ?_
  refine ACode.run hT nh [0, 2] (fr' := ⟨[(0, .ptr 0 0), (2, .loc 0 0)], [[.i 0, .i 0, .i 0, .int .u64 0, .i 0, .str [], .str [], .slice [] 0 .exact, .i 0, .i 0, .i 0, .str [], .str [], .i 0, .i 0, .int .u64 0, .i 0, .str [], .str [], .slice [] 0 .exact, .i 0, .i 0, .i 0, .i 0, .str [], .i 0, .i 0]], [], [], 0⟩) (σ' := [psAV lo l s]) (ob := Tt 2) (by kernel_rfl) (tt 2) ?_
  refine ACode.seq ?_
  refine ACode.region ?_
  refine AOps.runN hT nh 1 [0, 2, 5] (fr' := ⟨[(0, .ptr 0 0), (2, .loc 0 0), (5, .ptr 0 0)], [[.i 0, .i 0, .i 0, .int .u64 0, .i 0, .str [], .str [], .slice [] 0 .exact, .i 0, .i 0, .i 0, .str [], .str [], .i 0, .i 0, .int .u64 0, .i 0, .str [], .str [], .slice [] 0 .exact, .i 0, .i 0, .i 0, .i 0, .str [], .i 0, .i 0]], [], [], 0⟩) (σ' := [psAV lo l s]) (ob := Tt 2) (by kernel_rfl) (tt 2) ?_
  have nk1 : peekF l s ≠ .out := by intro h9; simp only [h9, R.out_bind] at hX; exact hne hX.symm
  refine AOps.call (fid := 40) (cap := []) (avs := [.ptr 0 0]) (by kernel_rfl) rfl (by kernel_rfl) (by kernel_rfl) en_40 (by kernel_rfl) (ACalls.mono (p_peek l lo hll s nk1) ?_)
  cases k1 : peekF l s with
  | out => exact absurd k1 nk1
  | bad ea eb ec =>
    rintro _ _ ⟨rfl, pp, dd, rfl⟩
    simp only [k1, R.bad_bind] at hX
    subst hX
    exact PR.bad_intro (vAV := fun (r : Rt) => .agg (rtAV r)) pp dd rfl rfl
  | ok v2 s3 =>
    rintro _ _ ⟨rfl, rfl⟩
    simp only [k1, R.ok_bind] at hX
    obtain ⟨hsk1, hpk1, hvk1⟩ := peekF_ok k1
    refine AOps.runN hT nh 2 [0, 2, 3] (fr' := ⟨[(0, .ptr 0 0), (2, .loc 0 0), (3, .loc 1 0)], [[.i 0, .i 0, .i 0, .int .u64 0, .i 0, .str [], .str [], .slice [] 0 .exact, .i 0, .i 0, .i 0, .str [], .str [], .i 0, .i 0, .int .u64 0, .i 0, .str [], .str [], .slice [] 0 .exact, .i 0, .i 0, .i 0, .i 0, .str [], .i 0, .i 0], [.i v2.kind, .str v2.text, .int .u64 v2.n, .i v2.line, .i v2.col]], [], [], 0⟩) (σ' := [psAV lo l s3]) (ob := Tt 3) (by kernel_rfl) (tt 3) ?_
    refine AOps.nil ?_
    refine ACode.seq ?_
    refine ACode.run hT nh [0, 2, 4] (fr' := ⟨[(0, .ptr 0 0), (2, .loc 0 0), (4, .loc 2 0)], [[.i 0, .i 0, .i 0, .int .u64 0, .i 0, .str [], .str [], .slice [] 0 .exact, .i 0, .i 0, .i 0, .str [], .str [], .i 0, .i 0, .int .u64 0, .i 0, .str [], .str [], .slice [] 0 .exact, .i 0, .i 0, .i 0, .i 0, .str [], .i 0, .i 0], [.i v2.kind, .str v2.text, .int .u64 v2.n, .i v2.line, .i v2.col], [.i 0, .i 0, .i 0, .int .u64 0, .i 0, .str [], .str [], .slice [] 0 .exact, .i 0, .i 0, .i 0, .str [], .str [], .i 0, .i 0, .int .u64 0, .i 0, .str [], .str [], .slice [] 0 .exact, .i 0, .i 0, .i 0, .i 0, .str [], .i v2.line, .i v2.col]], [], [], 0⟩) (σ' := [psAV lo l s3]) (ob := Tt 8) (by kernel_rfl) (tt 8) ?_
    refine ACode.seq ?_
    refine ACode.block ?_
    refine ACode.seq ?_
    refine ACode.region ?_
    refine AOps.runN hT nh 1 [0, 2, 4, 17] (fr' := ⟨[(0, .ptr 0 0), (2, .loc 0 0), (4, .loc 2 0), (17, .ptr 0 0)], [[.i 0, .i 0, .i 0, .int .u64 0, .i 0, .str [], .str [], .slice [] 0 .exact, .i 0, .i 0, .i 0, .str [], .str [], .i 0, .i 0, .int .u64 0, .i 0, .str [], .str [], .slice [] 0 .exact, .i 0, .i 0, .i 0, .i 0, .str [], .i 0, .i 0], [.i v2.kind, .str v2.text, .int .u64 v2.n, .i v2.line, .i v2.col], [.i 0, .i 0, .i 0, .int .u64 0, .i 0, .str [], .str [], .slice [] 0 .exact, .i 0, .i 0, .i 0, .str [], .str [], .i 0, .i 0, .int .u64 0, .i 0, .str [], .str [], .slice [] 0 .exact, .i 0, .i 0, .i 0, .i 0, .str [], .i v2.line, .i v2.col]], [], [], 0⟩) (σ' := [psAV lo l s3]) (ob := Tt 2) (by kernel_rfl) (tt 2) ?_
    have nk4 : eatF l [108, 111, 97, 100] s3 ≠ .out := by intro h9; simp only [h9, R.out_bind] at hX; exact hne hX.symm
    refine AOps.call (fid := 41) (cap := []) (avs := [.ptr 0 0, .str [108, 111, 97, 100]]) (by kernel_rfl) rfl (by kernel_rfl) (by kernel_rfl) en_41 (by kernel_rfl) (ACalls.mono (p_eat l lo hll [108, 111, 97, 100] s3 nk4) ?_)
    cases k4 : eatF l [108, 111, 97, 100] s3 with
    | out => exact absurd k4 nk4
    | bad ea eb ec =>
      rintro _ _ ⟨rfl, pp, dd, rfl⟩
      simp only [k4, R.bad_bind] at hX
      subst hX
      exact PR.bad_intro (vAV := fun (r : Rt) => .agg (rtAV r)) pp dd rfl rfl
    | ok v5 s6 =>
      rintro _ _ ⟨rfl, rfl⟩
      simp only [k4, R.ok_bind] at hX
      refine AOps.runN hT nh 1 [0, 2, 4, 16] (fr' := ⟨[(0, .ptr 0 0), (2, .loc 0 0), (4, .loc 2 0), (16, .bool v5)], [[.i 0, .i 0, .i 0, .int .u64 0, .i 0, .str [], .str [], .slice [] 0 .exact, .i 0, .i 0, .i 0, .str [], .str [], .i 0, .i 0, .int .u64 0, .i 0, .str [], .str [], .slice [] 0 .exact, .i 0, .i 0, .i 0, .i 0, .str [], .i 0, .i 0], [.i v2.kind, .str v2.text, .int .u64 v2.n, .i v2.line, .i v2.col], [.i 0, .i 0, .i 0, .int .u64 0, .i 0, .str [], .str [], .slice [] 0 .exact, .i 0, .i 0, .i 0, .str [], .str [], .i 0, .i 0, .int .u64 0, .i 0, .str [], .str [], .slice [] 0 .exact, .i 0, .i 0, .i 0, .i 0, .str [], .i v2.line, .i v2.col]], [], [], 0⟩) (σ' := [psAV lo l s6]) (ob := Tt 2) (by kernel_rfl) (tt 2) ?_
      refine AOps.nil ?_
      refine ACode.cond (t := v5) (by kernel_rfl) (fun h7 => ?_) (fun h7 => ?_)
      · -- true
        skip
        try simp only [h7, Bool.false_eq_true, Bool.not_true, Bool.not_false, if_true, if_false] at hX
        refine ACode.region ?_
        refine AOps.runN hT nh 1 [2, 4, 19] (fr' := ⟨[(2, .loc 0 0), (4, .loc 2 0), (19, .ptr 0 0)], [[.i 0, .i 0, .i 0, .int .u64 0, .i 0, .str [], .str [], .slice [] 0 .exact, .i 0, .i 0, .i 0, .str [], .str [], .i 0, .i 0, .int .u64 0, .i 0, .str [], .str [], .slice [] 0 .exact, .i 0, .i 0, .i 0, .i 0, .str [], .i 0, .i 0], [.i v2.kind, .str v2.text, .int .u64 v2.n, .i v2.line, .i v2.col], [.i 0, .i 0, .i 0, .int .u64 0, .i 0, .str [], .str [], .slice [] 0 .exact, .i 0, .i 0, .i 0, .str [], .str [], .i 0, .i 0, .int .u64 0, .i 0, .str [], .str [], .slice [] 0 .exact, .i 0, .i 0, .i 0, .i 0, .str [], .i v2.line, .i v2.col]], [], [], 0⟩) (σ' := [psAV lo l s6]) (ob := Tt 2) (by kernel_rfl) (tt 2) ?_
        have nk8 : placeF n l s6 ≠ .out := by intro h9; simp only [h9, R.out_bind] at hX; exact hne hX.symm
        refine AOps.call (fid := 74) (cap := []) (avs := [.ptr 0 0]) (by kernel_rfl) rfl (by kernel_rfl) (by kernel_rfl) en_74 (by kernel_rfl) (ACalls.mono (p_place l lo hll n s6 nk8) ?_)
        cases k8 : placeF n l s6 with
        | out => exact absurd k8 nk8
        | bad ea eb ec =>
          rintro _ _ ⟨rfl, pp, dd, rfl⟩
          simp only [k8, R.bad_bind] at hX
          subst hX
          exact PR.bad_intro (vAV := fun (r : Rt) => .agg (rtAV r)) pp dd rfl rfl
        | ok v9 s10 =>
          rintro _ _ ⟨rfl, rfl⟩
          simp only [k8, R.ok_bind] at hX
          refine AOps.runN hT nh 4 [2, 4] (fr' := ⟨[(2, .loc 0 0), (4, .loc 2 0)], [[.i 0, .i 0, .i 0, .int .u64 0, .i 0, .str [], .str [], .slice [] 0 .exact, .i 0, .i 0, .i 0, .str [], .str [], .i 0, .i 0, .int .u64 0, .i 0, .str [], .str [], .slice [] 0 .exact, .i 0, .i 0, .i 0, .i 0, .str [], .i 0, .i 0], [.i v2.kind, .str v2.text, .int .u64 v2.n, .i v2.line, .i v2.col], [.i 2, .i 0, .i 0, .int .u64 0, .i 0, .str [], .str [], .slice [] 0 .exact, .i 0, .i 0, .i v9.op, .str v9.base, .str v9.field, .i v9.idx.op, .i v9.idx.bin, .int .u64 v9.idx.n, .i v9.idx.tk, .str v9.idx.tr, .str v9.idx.name, .slice (exRows v9.idx.kids) v9.idx.kids.length .no, .i v9.idx.line, .i v9.idx.col, .i v9.line, .i v9.col, .str [], .i v2.line, .i v2.col]], [], [], 0⟩) (σ' := [psAV lo l s10]) (ob := Tt 5) (by kernel_rfl) (tt 5) ?_
          refine AOps.nil ?_
          refine ACode.seq ?_
          refine ACode.run hT nh [2] (fr' := ⟨[(2, .loc 0 0)], [[.i 2, .i 0, .i 0, .int .u64 0, .i 0, .str [], .str [], .slice [] 0 .exact, .i 0, .i 0, .i v9.op, .str v9.base, .str v9.field, .i v9.idx.op, .i v9.idx.bin, .int .u64 v9.idx.n, .i v9.idx.tk, .str v9.idx.tr, .str v9.idx.name, .slice (exRows v9.idx.kids) v9.idx.kids.length .no, .i v9.idx.line, .i v9.idx.col, .i v9.line, .i v9.col, .str [], .i v2.line, .i v2.col], [.i v2.kind, .str v2.text, .int .u64 v2.n, .i v2.line, .i v2.col], [.i 2, .i 0, .i 0, .int .u64 0, .i 0, .str [], .str [], .slice [] 0 .exact, .i 0, .i 0, .i v9.op, .str v9.base, .str v9.field, .i v9.idx.op, .i v9.idx.bin, .int .u64 v9.idx.n, .i v9.idx.tk, .str v9.idx.tr, .str v9.idx.name, .slice (exRows v9.idx.kids) v9.idx.kids.length .no, .i v9.idx.line, .i v9.idx.col, .i v9.line, .i v9.col, .str [], .i v2.line, .i v2.col]], [], [], 0⟩) (σ' := [psAV lo l s10]) (ob := Tt 3) (by kernel_rfl) (tt 3) ?_
          refine ACode.ret ?_
          refine retQ.ret (.agg [.i 2, .i 0, .i 0, .int .u64 0, .i 0, .str [], .str [], .slice [] 0 .exact, .i 0, .i 0, .i v9.op, .str v9.base, .str v9.field, .i v9.idx.op, .i v9.idx.bin, .int .u64 v9.idx.n, .i v9.idx.tk, .str v9.idx.tr, .str v9.idx.name, .slice (exRows v9.idx.kids) v9.idx.kids.length .no, .i v9.idx.line, .i v9.idx.col, .i v9.line, .i v9.col, .str [], .i v2.line, .i v2.col]) (by kernel_rfl) ?_
          subst hX
          exact PR.ok_intro rfl rfl
      · -- false
        skip
        try simp only [h7, Bool.false_eq_true, Bool.not_true, Bool.not_false, if_true, if_false] at hX
        refine ACode.seq ?_
        refine ACode.region ?_
        refine AOps.runN hT nh 1 [0, 2, 4, 24] (fr' := ⟨[(0, .ptr 0 0), (2, .loc 0 0), (4, .loc 2 0), (24, .ptr 0 0)], [[.i 0, .i 0, .i 0, .int .u64 0, .i 0, .str [], .str [], .slice [] 0 .exact, .i 0, .i 0, .i 0, .str [], .str [], .i 0, .i 0, .int .u64 0, .i 0, .str [], .str [], .slice [] 0 .exact, .i 0, .i 0, .i 0, .i 0, .str [], .i 0, .i 0], [.i v2.kind, .str v2.text, .int .u64 v2.n, .i v2.line, .i v2.col], [.i 0, .i 0, .i 0, .int .u64 0, .i 0, .str [], .str [], .slice [] 0 .exact, .i 0, .i 0, .i 0, .str [], .str [], .i 0, .i 0, .int .u64 0, .i 0, .str [], .str [], .slice [] 0 .exact, .i 0, .i 0, .i 0, .i 0, .str [], .i v2.line, .i v2.col]], [], [], 0⟩) (σ' := [psAV lo l s6]) (ob := Tt 2) (by kernel_rfl) (tt 2) ?_
        have nk11 : eatF l [115, 105, 122, 101] s6 ≠ .out := by intro h9; simp only [h9, R.out_bind] at hX; exact hne hX.symm
        refine AOps.call (fid := 41) (cap := []) (avs := [.ptr 0 0, .str [115, 105, 122, 101]]) (by kernel_rfl) rfl (by kernel_rfl) (by kernel_rfl) en_41 (by kernel_rfl) (ACalls.mono (p_eat l lo hll [115, 105, 122, 101] s6 nk11) ?_)
        cases k11 : eatF l [115, 105, 122, 101] s6 with
        | out => exact absurd k11 nk11
        | bad ea eb ec =>
          rintro _ _ ⟨rfl, pp, dd, rfl⟩
          simp only [k11, R.bad_bind] at hX
          subst hX
          exact PR.bad_intro (vAV := fun (r : Rt) => .agg (rtAV r)) pp dd rfl rfl
        | ok v12 s13 =>
          rintro _ _ ⟨rfl, rfl⟩
          simp only [k11, R.ok_bind] at hX
          refine AOps.runN hT nh 1 [0, 2, 4, 23] (fr' := ⟨[(0, .ptr 0 0), (2, .loc 0 0), (4, .loc 2 0), (23, .bool v12)], [[.i 0, .i 0, .i 0, .int .u64 0, .i 0, .str [], .str [], .slice [] 0 .exact, .i 0, .i 0, .i 0, .str [], .str [], .i 0, .i 0, .int .u64 0, .i 0, .str [], .str [], .slice [] 0 .exact, .i 0, .i 0, .i 0, .i 0, .str [], .i 0, .i 0], [.i v2.kind, .str v2.text, .int .u64 v2.n, .i v2.line, .i v2.col], [.i 0, .i 0, .i 0, .int .u64 0, .i 0, .str [], .str [], .slice [] 0 .exact, .i 0, .i 0, .i 0, .str [], .str [], .i 0, .i 0, .int .u64 0, .i 0, .str [], .str [], .slice [] 0 .exact, .i 0, .i 0, .i 0, .i 0, .str [], .i v2.line, .i v2.col]], [], [], 0⟩) (σ' := [psAV lo l s13]) (ob := Tt 2) (by kernel_rfl) (tt 2) ?_
          refine AOps.nil ?_
          refine ACode.cond (t := v12) (by kernel_rfl) (fun h14 => ?_) (fun h14 => ?_)
          · -- true
            skip
            try simp only [h14, Bool.false_eq_true, Bool.not_true, Bool.not_false, if_true, if_false] at hX
            refine ACode.region ?_
            refine AOps.runN hT nh 1 [2, 4, 26] (fr' := ⟨[(2, .loc 0 0), (4, .loc 2 0), (26, .ptr 0 0)], [[.i 0, .i 0, .i 0, .int .u64 0, .i 0, .str [], .str [], .slice [] 0 .exact, .i 0, .i 0, .i 0, .str [], .str [], .i 0, .i 0, .int .u64 0, .i 0, .str [], .str [], .slice [] 0 .exact, .i 0, .i 0, .i 0, .i 0, .str [], .i 0, .i 0], [.i v2.kind, .str v2.text, .int .u64 v2.n, .i v2.line, .i v2.col], [.i 0, .i 0, .i 0, .int .u64 0, .i 0, .str [], .str [], .slice [] 0 .exact, .i 0, .i 0, .i 0, .str [], .str [], .i 0, .i 0, .int .u64 0, .i 0, .str [], .str [], .slice [] 0 .exact, .i 0, .i 0, .i 0, .i 0, .str [], .i v2.line, .i v2.col]], [], [], 0⟩) (σ' := [psAV lo l s13]) (ob := Tt 2) (by kernel_rfl) (tt 2) ?_
            have nk15 : kindF l 1 s13 ≠ .out := by intro h9; simp only [h9, R.out_bind] at hX; exact hne hX.symm
            refine AOps.call (fid := 57) (cap := []) (avs := [.ptr 0 0, .i 1]) (by kernel_rfl) rfl (by kernel_rfl) (by kernel_rfl) en_57 (by kernel_rfl) (ACalls.mono (p_kind l lo hll 1 s13 nk15) ?_)
            cases k15 : kindF l 1 s13 with
            | out => exact absurd k15 nk15
            | bad ea eb ec =>
              rintro _ _ ⟨rfl, pp, dd, rfl⟩
              simp only [k15, R.bad_bind] at hX
              subst hX
              exact PR.bad_intro (vAV := fun (r : Rt) => .agg (rtAV r)) pp dd rfl rfl
            | ok v16 s17 =>
              rintro _ _ ⟨rfl, rfl⟩
              simp only [k15, R.ok_bind] at hX
              refine AOps.runN hT nh 5 [2, 4] (fr' := ⟨[(2, .loc 0 0), (4, .loc 2 0)], [[.i 0, .i 0, .i 0, .int .u64 0, .i 0, .str [], .str [], .slice [] 0 .exact, .i 0, .i 0, .i 0, .str [], .str [], .i 0, .i 0, .int .u64 0, .i 0, .str [], .str [], .slice [] 0 .exact, .i 0, .i 0, .i 0, .i 0, .str [], .i 0, .i 0], [.i v2.kind, .str v2.text, .int .u64 v2.n, .i v2.line, .i v2.col], [.i 5, .i 0, .i 0, .int .u64 0, .i 0, .str [], .str [], .slice [] 0 .exact, .i 0, .i 0, .i 0, .str [], .str [], .i 0, .i 0, .int .u64 0, .i 0, .str [], .str [], .slice [] 0 .exact, .i 0, .i 0, .i 0, .i 0, .str v16.text, .i v2.line, .i v2.col]], [], [], 0⟩) (σ' := [psAV lo l s17]) (ob := Tt 6) (by kernel_rfl) (tt 6) ?_
              refine AOps.nil ?_
              refine ACode.seq ?_
              refine ACode.run hT nh [2] (fr' := ⟨[(2, .loc 0 0)], [[.i 5, .i 0, .i 0, .int .u64 0, .i 0, .str [], .str [], .slice [] 0 .exact, .i 0, .i 0, .i 0, .str [], .str [], .i 0, .i 0, .int .u64 0, .i 0, .str [], .str [], .slice [] 0 .exact, .i 0, .i 0, .i 0, .i 0, .str v16.text, .i v2.line, .i v2.col], [.i v2.kind, .str v2.text, .int .u64 v2.n, .i v2.line, .i v2.col], [.i 5, .i 0, .i 0, .int .u64 0, .i 0, .str [], .str [], .slice [] 0 .exact, .i 0, .i 0, .i 0, .str [], .str [], .i 0, .i 0, .int .u64 0, .i 0, .str [], .str [], .slice [] 0 .exact, .i 0, .i 0, .i 0, .i 0, .str v16.text, .i v2.line, .i v2.col]], [], [], 0⟩) (σ' := [psAV lo l s17]) (ob := Tt 3) (by kernel_rfl) (tt 3) ?_
              refine ACode.ret ?_
              refine retQ.ret (.agg [.i 5, .i 0, .i 0, .int .u64 0, .i 0, .str [], .str [], .slice [] 0 .exact, .i 0, .i 0, .i 0, .str [], .str [], .i 0, .i 0, .int .u64 0, .i 0, .str [], .str [], .slice [] 0 .exact, .i 0, .i 0, .i 0, .i 0, .str v16.text, .i v2.line, .i v2.col]) (by kernel_rfl) ?_
              subst hX
              exact PR.ok_intro rfl rfl
          · -- false
            skip
            try simp only [h14, Bool.false_eq_true, Bool.not_true, Bool.not_false, if_true, if_false] at hX
            refine ACode.seq ?_
            refine ACode.region ?_
            refine AOps.runN hT nh 1 [0, 2, 4, 32] (fr' := ⟨[(0, .ptr 0 0), (2, .loc 0 0), (4, .loc 2 0), (32, .ptr 0 0)], [[.i 0, .i 0, .i 0, .int .u64 0, .i 0, .str [], .str [], .slice [] 0 .exact, .i 0, .i 0, .i 0, .str [], .str [], .i 0, .i 0, .int .u64 0, .i 0, .str [], .str [], .slice [] 0 .exact, .i 0, .i 0, .i 0, .i 0, .str [], .i 0, .i 0], [.i v2.kind, .str v2.text, .int .u64 v2.n, .i v2.line, .i v2.col], [.i 0, .i 0, .i 0, .int .u64 0, .i 0, .str [], .str [], .slice [] 0 .exact, .i 0, .i 0, .i 0, .str [], .str [], .i 0, .i 0, .int .u64 0, .i 0, .str [], .str [], .slice [] 0 .exact, .i 0, .i 0, .i 0, .i 0, .str [], .i v2.line, .i v2.col]], [], [], 0⟩) (σ' := [psAV lo l s13]) (ob := Tt 2) (by kernel_rfl) (tt 2) ?_
            have nk18 : eatF l [110, 101, 119] s13 ≠ .out := by intro h9; simp only [h9, R.out_bind] at hX; exact hne hX.symm
            refine AOps.call (fid := 41) (cap := []) (avs := [.ptr 0 0, .str [110, 101, 119]]) (by kernel_rfl) rfl (by kernel_rfl) (by kernel_rfl) en_41 (by kernel_rfl) (ACalls.mono (p_eat l lo hll [110, 101, 119] s13 nk18) ?_)
            cases k18 : eatF l [110, 101, 119] s13 with
            | out => exact absurd k18 nk18
            | bad ea eb ec =>
              rintro _ _ ⟨rfl, pp, dd, rfl⟩
              simp only [k18, R.bad_bind] at hX
              subst hX
              exact PR.bad_intro (vAV := fun (r : Rt) => .agg (rtAV r)) pp dd rfl rfl
            | ok v19 s20 =>
              rintro _ _ ⟨rfl, rfl⟩
              simp only [k18, R.ok_bind] at hX
              refine AOps.runN hT nh 1 [0, 2, 4, 31] (fr' := ⟨[(0, .ptr 0 0), (2, .loc 0 0), (4, .loc 2 0), (31, .bool v19)], [[.i 0, .i 0, .i 0, .int .u64 0, .i 0, .str [], .str [], .slice [] 0 .exact, .i 0, .i 0, .i 0, .str [], .str [], .i 0, .i 0, .int .u64 0, .i 0, .str [], .str [], .slice [] 0 .exact, .i 0, .i 0, .i 0, .i 0, .str [], .i 0, .i 0], [.i v2.kind, .str v2.text, .int .u64 v2.n, .i v2.line, .i v2.col], [.i 0, .i 0, .i 0, .int .u64 0, .i 0, .str [], .str [], .slice [] 0 .exact, .i 0, .i 0, .i 0, .str [], .str [], .i 0, .i 0, .int .u64 0, .i 0, .str [], .str [], .slice [] 0 .exact, .i 0, .i 0, .i 0, .i 0, .str [], .i v2.line, .i v2.col]], [], [], 0⟩) (σ' := [psAV lo l s20]) (ob := Tt 2) (by kernel_rfl) (tt 2) ?_
              refine AOps.nil ?_
              refine ACode.cond (t := v19) (by kernel_rfl) (fun h21 => ?_) (fun h21 => ?_)
              · -- true
                skip
                try simp only [h21, Bool.false_eq_true, Bool.not_true, Bool.not_false, if_true, if_false] at hX
                refine ACode.seq ?_
                refine ACode.region ?_
                refine AOps.runN hT nh 1 [0, 2, 4, 34] (fr' := ⟨[(0, .ptr 0 0), (2, .loc 0 0), (4, .loc 2 0), (34, .ptr 0 0)], [[.i 0, .i 0, .i 0, .int .u64 0, .i 0, .str [], .str [], .slice [] 0 .exact, .i 0, .i 0, .i 0, .str [], .str [], .i 0, .i 0, .int .u64 0, .i 0, .str [], .str [], .slice [] 0 .exact, .i 0, .i 0, .i 0, .i 0, .str [], .i 0, .i 0], [.i v2.kind, .str v2.text, .int .u64 v2.n, .i v2.line, .i v2.col], [.i 0, .i 0, .i 0, .int .u64 0, .i 0, .str [], .str [], .slice [] 0 .exact, .i 0, .i 0, .i 0, .str [], .str [], .i 0, .i 0, .int .u64 0, .i 0, .str [], .str [], .slice [] 0 .exact, .i 0, .i 0, .i 0, .i 0, .str [], .i v2.line, .i v2.col]], [], [], 0⟩) (σ' := [psAV lo l s20]) (ob := Tt 2) (by kernel_rfl) (tt 2) ?_
                have nk22 : eatF l [105, 110, 116, 115] s20 ≠ .out := by intro h9; simp only [h9, R.out_bind] at hX; exact hne hX.symm
                refine AOps.call (fid := 41) (cap := []) (avs := [.ptr 0 0, .str [105, 110, 116, 115]]) (by kernel_rfl) rfl (by kernel_rfl) (by kernel_rfl) en_41 (by kernel_rfl) (ACalls.mono (p_eat l lo hll [105, 110, 116, 115] s20 nk22) ?_)
                cases k22 : eatF l [105, 110, 116, 115] s20 with
                | out => exact absurd k22 nk22
                | bad ea eb ec =>
                  rintro _ _ ⟨rfl, pp, dd, rfl⟩
                  simp only [k22, R.bad_bind] at hX
                  subst hX
                  exact PR.bad_intro (vAV := fun (r : Rt) => .agg (rtAV r)) pp dd rfl rfl
                | ok v23 s24 =>
                  rintro _ _ ⟨rfl, rfl⟩
                  simp only [k22, R.ok_bind] at hX
                  refine AOps.nil ?_
                  refine ACode.cond (t := v23) (by kernel_rfl) (fun h25 => ?_) (fun h25 => ?_)
                  · -- true
                    skip
                    try simp only [h25, Bool.false_eq_true, Bool.not_true, Bool.not_false, if_true, if_false] at hX
                    refine ACode.region ?_
                    refine AOps.runN hT nh 1 [2, 4, 36] (fr' := ⟨[(2, .loc 0 0), (4, .loc 2 0), (36, .ptr 0 0)], [[.i 0, .i 0, .i 0, .int .u64 0, .i 0, .str [], .str [], .slice [] 0 .exact, .i 0, .i 0, .i 0, .str [], .str [], .i 0, .i 0, .int .u64 0, .i 0, .str [], .str [], .slice [] 0 .exact, .i 0, .i 0, .i 0, .i 0, .str [], .i 0, .i 0], [.i v2.kind, .str v2.text, .int .u64 v2.n, .i v2.line, .i v2.col], [.i 0, .i 0, .i 0, .int .u64 0, .i 0, .str [], .str [], .slice [] 0 .exact, .i 0, .i 0, .i 0, .str [], .str [], .i 0, .i 0, .int .u64 0, .i 0, .str [], .str [], .slice [] 0 .exact, .i 0, .i 0, .i 0, .i 0, .str [], .i v2.line, .i v2.col]], [], [], 0⟩) (σ' := [psAV lo l s24]) (ob := Tt 2) (by kernel_rfl) (tt 2) ?_
                    have nk26 : exprF n l s24 ≠ .out := by intro h9; simp only [h9, R.out_bind] at hX; exact hne hX.symm
                    refine AOps.call (fid := 75) (cap := []) (avs := [.ptr 0 0]) (by kernel_rfl) rfl (by kernel_rfl) (by kernel_rfl) en_75 (by kernel_rfl) (ACalls.mono ((ex_ok l lo hll n).expr s24 nk26) ?_)
                    cases k26 : exprF n l s24 with
                    | out => exact absurd k26 nk26
                    | bad ea eb ec =>
                      rintro _ _ ⟨rfl, pp, dd, rfl⟩
                      simp only [k26, R.bad_bind] at hX
                      subst hX
                      exact PR.bad_intro (vAV := fun (r : Rt) => .agg (rtAV r)) pp dd rfl rfl
                    | ok v27 s28 =>
                      rintro _ _ ⟨rfl, rfl⟩
                      simp only [k26, R.ok_bind] at hX
                      refine AOps.runN hT nh 4 [2, 4] (fr' := ⟨[(2, .loc 0 0), (4, .loc 2 0)], [[.i 0, .i 0, .i 0, .int .u64 0, .i 0, .str [], .str [], .slice [] 0 .exact, .i 0, .i 0, .i 0, .str [], .str [], .i 0, .i 0, .int .u64 0, .i 0, .str [], .str [], .slice [] 0 .exact, .i 0, .i 0, .i 0, .i 0, .str [], .i 0, .i 0], [.i v2.kind, .str v2.text, .int .u64 v2.n, .i v2.line, .i v2.col], [.i 4, .i v27.op, .i v27.bin, .int .u64 v27.n, .i v27.tk, .str v27.tr, .str v27.name, .slice (exRows v27.kids) v27.kids.length .no, .i v27.line, .i v27.col, .i 0, .str [], .str [], .i 0, .i 0, .int .u64 0, .i 0, .str [], .str [], .slice [] 0 .exact, .i 0, .i 0, .i 0, .i 0, .str [], .i v2.line, .i v2.col]], [], [], 0⟩) (σ' := [psAV lo l s28]) (ob := Tt 5) (by kernel_rfl) (tt 5) ?_
                      refine AOps.nil ?_
                      refine ACode.seq ?_
                      refine ACode.run hT nh [2] (fr' := ⟨[(2, .loc 0 0)], [[.i 4, .i v27.op, .i v27.bin, .int .u64 v27.n, .i v27.tk, .str v27.tr, .str v27.name, .slice (exRows v27.kids) v27.kids.length .no, .i v27.line, .i v27.col, .i 0, .str [], .str [], .i 0, .i 0, .int .u64 0, .i 0, .str [], .str [], .slice [] 0 .exact, .i 0, .i 0, .i 0, .i 0, .str [], .i v2.line, .i v2.col], [.i v2.kind, .str v2.text, .int .u64 v2.n, .i v2.line, .i v2.col], [.i 4, .i v27.op, .i v27.bin, .int .u64 v27.n, .i v27.tk, .str v27.tr, .str v27.name, .slice (exRows v27.kids) v27.kids.length .no, .i v27.line, .i v27.col, .i 0, .str [], .str [], .i 0, .i 0, .int .u64 0, .i 0, .str [], .str [], .slice [] 0 .exact, .i 0, .i 0, .i 0, .i 0, .str [], .i v2.line, .i v2.col]], [], [], 0⟩) (σ' := [psAV lo l s28]) (ob := Tt 3) (by kernel_rfl) (tt 3) ?_
                      refine ACode.ret ?_
                      refine retQ.ret (.agg [.i 4, .i v27.op, .i v27.bin, .int .u64 v27.n, .i v27.tk, .str v27.tr, .str v27.name, .slice (exRows v27.kids) v27.kids.length .no, .i v27.line, .i v27.col, .i 0, .str [], .str [], .i 0, .i 0, .int .u64 0, .i 0, .str [], .str [], .slice [] 0 .exact, .i 0, .i 0, .i 0, .i 0, .str [], .i v2.line, .i v2.col]) (by kernel_rfl) ?_
                      subst hX
                      exact PR.ok_intro rfl rfl
                  · -- false
                    skip
                    try simp only [h25, Bool.false_eq_true, Bool.not_true, Bool.not_false, if_true, if_false] at hX
                    refine ACode.region ?_
                    refine AOps.runN hT nh 1 [2, 4, 40] (fr' := ⟨[(2, .loc 0 0), (4, .loc 2 0), (40, .ptr 0 0)], [[.i 0, .i 0, .i 0, .int .u64 0, .i 0, .str [], .str [], .slice [] 0 .exact, .i 0, .i 0, .i 0, .str [], .str [], .i 0, .i 0, .int .u64 0, .i 0, .str [], .str [], .slice [] 0 .exact, .i 0, .i 0, .i 0, .i 0, .str [], .i 0, .i 0], [.i v2.kind, .str v2.text, .int .u64 v2.n, .i v2.line, .i v2.col], [.i 0, .i 0, .i 0, .int .u64 0, .i 0, .str [], .str [], .slice [] 0 .exact, .i 0, .i 0, .i 0, .str [], .str [], .i 0, .i 0, .int .u64 0, .i 0, .str [], .str [], .slice [] 0 .exact, .i 0, .i 0, .i 0, .i 0, .str [], .i v2.line, .i v2.col]], [], [], 0⟩) (σ' := [psAV lo l s24]) (ob := Tt 2) (by kernel_rfl) (tt 2) ?_
                    have nk29 : kindF l 1 s24 ≠ .out := by intro h9; simp only [h9, R.out_bind] at hX; exact hne hX.symm
                    refine AOps.call (fid := 57) (cap := []) (avs := [.ptr 0 0, .i 1]) (by kernel_rfl) rfl (by kernel_rfl) (by kernel_rfl) en_57 (by kernel_rfl) (ACalls.mono (p_kind l lo hll 1 s24 nk29) ?_)
                    cases k29 : kindF l 1 s24 with
                    | out => exact absurd k29 nk29
                    | bad ea eb ec =>
                      rintro _ _ ⟨rfl, pp, dd, rfl⟩
                      simp only [k29, R.bad_bind] at hX
                      subst hX
                      exact PR.bad_intro (vAV := fun (r : Rt) => .agg (rtAV r)) pp dd rfl rfl
                    | ok v30 s31 =>
                      rintro _ _ ⟨rfl, rfl⟩
                      simp only [k29, R.ok_bind] at hX
                      refine AOps.runN hT nh 5 [2, 4] (fr' := ⟨[(2, .loc 0 0), (4, .loc 2 0)], [[.i 0, .i 0, .i 0, .int .u64 0, .i 0, .str [], .str [], .slice [] 0 .exact, .i 0, .i 0, .i 0, .str [], .str [], .i 0, .i 0, .int .u64 0, .i 0, .str [], .str [], .slice [] 0 .exact, .i 0, .i 0, .i 0, .i 0, .str [], .i 0, .i 0], [.i v2.kind, .str v2.text, .int .u64 v2.n, .i v2.line, .i v2.col], [.i 3, .i 0, .i 0, .int .u64 0, .i 0, .str [], .str [], .slice [] 0 .exact, .i 0, .i 0, .i 0, .str [], .str [], .i 0, .i 0, .int .u64 0, .i 0, .str [], .str [], .slice [] 0 .exact, .i 0, .i 0, .i 0, .i 0, .str v30.text, .i v2.line, .i v2.col]], [], [], 0⟩) (σ' := [psAV lo l s31]) (ob := Tt 6) (by kernel_rfl) (tt 6) ?_
                      refine AOps.nil ?_
                      refine ACode.seq ?_
                      refine ACode.run hT nh [2] (fr' := ⟨[(2, .loc 0 0)], [[.i 3, .i 0, .i 0, .int .u64 0, .i 0, .str [], .str [], .slice [] 0 .exact, .i 0, .i 0, .i 0, .str [], .str [], .i 0, .i 0, .int .u64 0, .i 0, .str [], .str [], .slice [] 0 .exact, .i 0, .i 0, .i 0, .i 0, .str v30.text, .i v2.line, .i v2.col], [.i v2.kind, .str v2.text, .int .u64 v2.n, .i v2.line, .i v2.col], [.i 3, .i 0, .i 0, .int .u64 0, .i 0, .str [], .str [], .slice [] 0 .exact, .i 0, .i 0, .i 0, .str [], .str [], .i 0, .i 0, .int .u64 0, .i 0, .str [], .str [], .slice [] 0 .exact, .i 0, .i 0, .i 0, .i 0, .str v30.text, .i v2.line, .i v2.col]], [], [], 0⟩) (σ' := [psAV lo l s31]) (ob := Tt 3) (by kernel_rfl) (tt 3) ?_
                      refine ACode.ret ?_
                      refine retQ.ret (.agg [.i 3, .i 0, .i 0, .int .u64 0, .i 0, .str [], .str [], .slice [] 0 .exact, .i 0, .i 0, .i 0, .str [], .str [], .i 0, .i 0, .int .u64 0, .i 0, .str [], .str [], .slice [] 0 .exact, .i 0, .i 0, .i 0, .i 0, .str v30.text, .i v2.line, .i v2.col]) (by kernel_rfl) ?_
                      subst hX
                      exact PR.ok_intro rfl rfl
              · -- false
                skip
                try simp only [h21, Bool.false_eq_true, Bool.not_true, Bool.not_false, if_true, if_false] at hX
                refine ACode.region ?_
                refine AOps.runN hT nh 1 [2, 4, 12] (fr' := ⟨[(2, .loc 0 0), (4, .loc 2 0), (12, .ptr 0 0)], [[.i 0, .i 0, .i 0, .int .u64 0, .i 0, .str [], .str [], .slice [] 0 .exact, .i 0, .i 0, .i 0, .str [], .str [], .i 0, .i 0, .int .u64 0, .i 0, .str [], .str [], .slice [] 0 .exact, .i 0, .i 0, .i 0, .i 0, .str [], .i 0, .i 0], [.i v2.kind, .str v2.text, .int .u64 v2.n, .i v2.line, .i v2.col], [.i 0, .i 0, .i 0, .int .u64 0, .i 0, .str [], .str [], .slice [] 0 .exact, .i 0, .i 0, .i 0, .str [], .str [], .i 0, .i 0, .int .u64 0, .i 0, .str [], .str [], .slice [] 0 .exact, .i 0, .i 0, .i 0, .i 0, .str [], .i v2.line, .i v2.col]], [], [], 0⟩) (σ' := [psAV lo l s20]) (ob := Tt 2) (by kernel_rfl) (tt 2) ?_
                have nk32 : exprF n l s20 ≠ .out := by intro h9; simp only [h9, R.out_bind] at hX; exact hne hX.symm
                refine AOps.call (fid := 75) (cap := []) (avs := [.ptr 0 0]) (by kernel_rfl) rfl (by kernel_rfl) (by kernel_rfl) en_75 (by kernel_rfl) (ACalls.mono ((ex_ok l lo hll n).expr s20 nk32) ?_)
                cases k32 : exprF n l s20 with
                | out => exact absurd k32 nk32
                | bad ea eb ec =>
                  rintro _ _ ⟨rfl, pp, dd, rfl⟩
                  simp only [k32, R.bad_bind] at hX
                  subst hX
                  exact PR.bad_intro (vAV := fun (r : Rt) => .agg (rtAV r)) pp dd rfl rfl
                | ok v33 s34 =>
                  rintro _ _ ⟨rfl, rfl⟩
                  simp only [k32, R.ok_bind] at hX
                  refine AOps.runN hT nh 4 [2, 4] (fr' := ⟨[(2, .loc 0 0), (4, .loc 2 0)], [[.i 0, .i 0, .i 0, .int .u64 0, .i 0, .str [], .str [], .slice [] 0 .exact, .i 0, .i 0, .i 0, .str [], .str [], .i 0, .i 0, .int .u64 0, .i 0, .str [], .str [], .slice [] 0 .exact, .i 0, .i 0, .i 0, .i 0, .str [], .i 0, .i 0], [.i v2.kind, .str v2.text, .int .u64 v2.n, .i v2.line, .i v2.col], [.i 1, .i v33.op, .i v33.bin, .int .u64 v33.n, .i v33.tk, .str v33.tr, .str v33.name, .slice (exRows v33.kids) v33.kids.length .no, .i v33.line, .i v33.col, .i 0, .str [], .str [], .i 0, .i 0, .int .u64 0, .i 0, .str [], .str [], .slice [] 0 .exact, .i 0, .i 0, .i 0, .i 0, .str [], .i v2.line, .i v2.col]], [], [], 0⟩) (σ' := [psAV lo l s34]) (ob := Tt 5) (by kernel_rfl) (tt 5) ?_
                  refine AOps.nil ?_
                  refine ACode.seq ?_
                  refine ACode.run hT nh [2] (fr' := ⟨[(2, .loc 0 0)], [[.i 1, .i v33.op, .i v33.bin, .int .u64 v33.n, .i v33.tk, .str v33.tr, .str v33.name, .slice (exRows v33.kids) v33.kids.length .no, .i v33.line, .i v33.col, .i 0, .str [], .str [], .i 0, .i 0, .int .u64 0, .i 0, .str [], .str [], .slice [] 0 .exact, .i 0, .i 0, .i 0, .i 0, .str [], .i v2.line, .i v2.col], [.i v2.kind, .str v2.text, .int .u64 v2.n, .i v2.line, .i v2.col], [.i 1, .i v33.op, .i v33.bin, .int .u64 v33.n, .i v33.tk, .str v33.tr, .str v33.name, .slice (exRows v33.kids) v33.kids.length .no, .i v33.line, .i v33.col, .i 0, .str [], .str [], .i 0, .i 0, .int .u64 0, .i 0, .str [], .str [], .slice [] 0 .exact, .i 0, .i 0, .i 0, .i 0, .str [], .i v2.line, .i v2.col]], [], [], 0⟩) (σ' := [psAV lo l s34]) (ob := Tt 3) (by kernel_rfl) (tt 3) ?_
                  refine ACode.ret ?_
                  refine retQ.ret (.agg [.i 1, .i v33.op, .i v33.bin, .int .u64 v33.n, .i v33.tk, .str v33.tr, .str v33.name, .slice (exRows v33.kids) v33.kids.length .no, .i v33.line, .i v33.col, .i 0, .str [], .str [], .i 0, .i 0, .int .u64 0, .i 0, .str [], .str [], .slice [] 0 .exact, .i 0, .i 0, .i 0, .i 0, .str [], .i v2.line, .i v2.col]) (by kernel_rfl) ?_
                  subst hX
                  exact PR.ok_intro rfl rfl

theorem p_args (l : List Tok) (lo : Own) (hll : l.length ≤ 100000) (n : Nat) (s : PS)  (hne : argsF n l s ≠ .out) : ACalls Tryd.prog 77 [.ptr 0 0] [psAV lo l s] (PR (fun (a : List Ex) => .slice (exRows a) a.length .no) lo l (argsF n l s)) := by
  generalize hX : argsF n l s = X at hne ⊢
  refine ACalls.soft ?_
  unfold argsF at hX
  refine ACalls.enter hT Tryd.func77 rfl (by kernel_rfl) ?_
  refine ACode.seq ?_
  refine ACode.run hT nh [0] (fr' := ⟨[(0, .ptr 0 0)], [], [], [], 0⟩) (σ' := [psAV lo l s]) (ob := Tt 2) (by kernel_rfl) (tt 2) ?_
  refine ACode.seq ?_
  refine ACode.run hT nh [0, 3] (fr' := ⟨[(0, .ptr 0 0), (3, .slice [] 0 .exact)], [], [], [], 0⟩) (σ' := [psAV lo l s]) (ob := Tt 2) (by kernel_rfl) (tt 2) ?_
  refine ACode.seq ?_
  refine ACode.region ?_
  refine AOps.runN hT nh 1 [0, 3, 4] (fr' := ⟨[(0, .ptr 0 0), (3, .slice [] 0 .exact), (4, .ptr 0 0)], [], [], [], 0⟩) (σ' := [psAV lo l s]) (ob := Tt 2) (by kernel_rfl) (tt 2) ?_
  have nk1 : mustF l [40] s ≠ .out := by intro h9; simp only [h9, R.out_bind] at hX; exact hne hX.symm
  refine AOps.call (fid := 44) (cap := []) (avs := [.ptr 0 0, .str [40]]) (by kernel_rfl) rfl (by kernel_rfl) (by kernel_rfl) en_44 (by kernel_rfl) (ACalls.mono (p_must l lo hll [40] s nk1) ?_)
  cases k1 : mustF l [40] s with
  | out => exact absurd k1 nk1
  | bad ea eb ec =>
    rintro _ _ ⟨rfl, pp, dd, rfl⟩
    simp only [k1, R.bad_bind] at hX
    subst hX
    exact PR.bad_intro (vAV := fun (a : List Ex) => .slice (exRows a) a.length .no) pp dd rfl rfl
  | ok v2 s3 =>
    rintro _ _ ⟨rfl, rfl⟩
    simp only [k1, R.ok_bind] at hX
    refine AOps.nil ?_
    refine ACode.seq ?_
    refine ACode.seq ?_
    refine ACode.region ?_
    refine AOps.runN hT nh 1 [0, 3, 6] (fr' := ⟨[(0, .ptr 0 0), (3, .slice [] 0 .exact), (6, .ptr 0 0)], [], [], [], 0⟩) (σ' := [psAV lo l s3]) (ob := Tt 2) (by kernel_rfl) (tt 2) ?_
    have nk4 : eatF l [41] s3 ≠ .out := by intro h9; simp only [h9, R.out_bind] at hX; exact hne hX.symm
    refine AOps.call (fid := 41) (cap := []) (avs := [.ptr 0 0, .str [41]]) (by kernel_rfl) rfl (by kernel_rfl) (by kernel_rfl) en_41 (by kernel_rfl) (ACalls.mono (p_eat l lo hll [41] s3 nk4) ?_)
    cases k4 : eatF l [41] s3 with
    | out => exact absurd k4 nk4
    | bad ea eb ec =>
      rintro _ _ ⟨rfl, pp, dd, rfl⟩
      simp only [k4, R.bad_bind] at hX
      subst hX
      exact PR.bad_intro (vAV := fun (a : List Ex) => .slice (exRows a) a.length .no) pp dd rfl rfl
    | ok v5 s6 =>
      rintro _ _ ⟨rfl, rfl⟩
      simp only [k4, R.ok_bind] at hX
      refine AOps.nil ?_
      refine ACode.cond (t := v5) (by kernel_rfl) (fun h7 => ?_) (fun h7 => ?_)
      · -- true
        skip
        try simp only [h7, Bool.false_eq_true, Bool.not_true, Bool.not_false, if_true, if_false] at hX
        refine ACode.seq ?_
        refine ACode.run hT nh [2] (fr' := ⟨[(2, .slice [] 0 .exact)], [], [], [], 0⟩) (σ' := [psAV lo l s6]) (ob := Tt 3) (by kernel_rfl) (tt 3) ?_
        refine ACode.ret ?_
        refine retQ.ret (.slice [] 0 .exact) (by kernel_rfl) ?_
        subst hX
        refine PR.ok_intro ?_ rfl
        simp only [exRows_nil]
        rfl
      · -- false
        skip
        try simp only [h7, Bool.false_eq_true, Bool.not_true, Bool.not_false, if_true, if_false] at hX
        refine ACode.skip ?_
        refine ACode.block ?_
        refine ACode.loop [0, 3] 0 0 (fun n0 fr σ' => ∃ (m : Nat), ∃ (acc : List Ex), ∃ (s1 : PS), ∃ (own : Own), ∃ (tk : List Nat), ∃ (nx : Nat), fr = ⟨[(0, .ptr 0 0), (3, .slice (exRows acc) acc.length own)], [], [], tk, nx⟩ ∧ σ' = [psAV lo l s1] ∧ (argsLoopF m l acc s1 = X ∧ Can tk 9 acc.length (exRows acc).length own) ∧ n0 = m + 1) _ (by kernel_rfl) ⟨n, [], s6, .exact, [], 0, rfl, rfl, ⟨hX, by rw [exRows_nil]; rfl⟩, rfl⟩ ?_
        rintro n0 fr σ' ⟨m, acc, s1, own, tk, nx, rfl, rfl, ⟨hX, hC⟩, rfl⟩
        have hm0 : m ≠ 0 := by rintro rfl; exact hne hX.symm
        obtain ⟨m, rfl⟩ : ∃ k, m = k + 1 := ⟨m - 1, by omega⟩
        rw [argsLoopF] at hX
        refine ACode.block ?_
        refine ACode.seq ?_
        refine ACode.region ?_
        refine AOps.runN hT nh 2 [0, 9, 10] (fr' := ⟨[(0, .ptr 0 0), (9, .slice (exRows acc) acc.length own), (10, .ptr 0 0)], [], [], tk, nx⟩) (σ' := [psAV lo l s1]) (ob := Tt 3) (by kernel_rfl) (tt 3) ?_
        have nk8 : exprF m l s1 ≠ .out := by intro h9; simp only [h9, R.out_bind] at hX; exact hne hX.symm
        refine AOps.call (fid := 75) (cap := []) (avs := [.ptr 0 0]) (by kernel_rfl) rfl (by kernel_rfl) (by kernel_rfl) en_75 (by kernel_rfl) (ACalls.mono ((ex_ok l lo hll m).expr s1 nk8) ?_)
        cases k8 : exprF m l s1 with
        | out => exact absurd k8 nk8
        | bad ea eb ec =>
          rintro _ _ ⟨rfl, pp, dd, rfl⟩
          simp only [k8, R.bad_bind] at hX
          subst hX
          exact PR.bad_intro (vAV := fun (a : List Ex) => .slice (exRows a) a.length .no) pp dd rfl rfl
        | ok v9 s10 =>
          rintro _ _ ⟨rfl, rfl⟩
          simp only [k8, R.ok_bind] at hX
          have hr9 : ¬ 100000 < acc.length := by intro h9; rw [if_pos h9] at hX; exact hne hX.symm
          rw [if_neg hr9] at hX
          refine AOps.runN hT nh 1 [0, 9, 12] (fr' := ⟨[(0, .ptr 0 0), (9, .slice (exRows acc) acc.length own), (12, .slice [.i v9.op, .i v9.bin, .int .u64 v9.n, .i v9.tk, .str v9.tr, .str v9.name, .slice (exRows v9.kids) v9.kids.length .no, .i v9.line, .i v9.col] 1 .exact)], [], [], tk, nx⟩) (σ' := [psAV lo l s10]) (ob := Tt 2) (by kernel_rfl) (tt 2) ?_
          refine AOps.append hT (cs := exRows acc) (ds := [.i v9.op, .i v9.bin, .int .u64 v9.n, .i v9.tk, .str v9.tr, .str v9.name, .slice (exRows v9.kids) v9.kids.length .no, .i v9.line, .i v9.col]) (n := acc.length) (k := 1) (own := own) (own' := .exact) (e := 54) (b := true) (sz := 9) (by_ := 104) [] (by kernel_rfl) rfl (by kernel_rfl) (by kernel_rfl) (by kernel_rfl) (by kernel_rfl) hC (by omega) rfl (by unfold room; omega) (fun u hu => by cases hu) ?_
          refine AOps.runN hT nh 1 [0, 3] (fr' := ⟨[(0, .ptr 0 0), (3, .slice ((exRows acc) ++ ([.i v9.op, .i v9.bin, .int .u64 v9.n, .i v9.tk, .str v9.tr, .str v9.name, .slice (exRows v9.kids) v9.kids.length .no, .i v9.line, .i v9.col] : List AV)) (acc.length + 1) (.tok nx 9))], [], [], nx :: [], nx + 1⟩) (σ' := [psAV lo l s10]) (ob := Tt 2) (by kernel_rfl) (tt 2) ?_
          refine AOps.nil ?_
          refine ACode.seq ?_
          refine ACode.seq ?_
          refine ACode.region ?_
          refine AOps.runN hT nh 1 [0, 3, 14] (fr' := ⟨[(0, .ptr 0 0), (3, .slice ((exRows acc) ++ ([.i v9.op, .i v9.bin, .int .u64 v9.n, .i v9.tk, .str v9.tr, .str v9.name, .slice (exRows v9.kids) v9.kids.length .no, .i v9.line, .i v9.col] : List AV)) (acc.length + 1) (.tok nx 9)), (14, .ptr 0 0)], [], [], nx :: [], nx + 1⟩) (σ' := [psAV lo l s10]) (ob := Tt 2) (by kernel_rfl) (tt 2) ?_
          have nk11 : eatF l [41] s10 ≠ .out := by intro h9; simp only [h9, R.out_bind] at hX; exact hne hX.symm
          refine AOps.call (fid := 41) (cap := []) (avs := [.ptr 0 0, .str [41]]) (by kernel_rfl) rfl (by kernel_rfl) (by kernel_rfl) en_41 (by kernel_rfl) (ACalls.mono (p_eat l lo hll [41] s10 nk11) ?_)
          cases k11 : eatF l [41] s10 with
          | out => exact absurd k11 nk11
          | bad ea eb ec =>
            rintro _ _ ⟨rfl, pp, dd, rfl⟩
            simp only [k11, R.bad_bind] at hX
            subst hX
            exact PR.bad_intro (vAV := fun (a : List Ex) => .slice (exRows a) a.length .no) pp dd rfl rfl
          | ok v12 s13 =>
            rintro _ _ ⟨rfl, rfl⟩
            simp only [k11, R.ok_bind] at hX
            refine AOps.nil ?_
            refine ACode.cond (t := v12) (by kernel_rfl) (fun h14 => ?_) (fun h14 => ?_)
            · -- true
              skip
              try simp only [h14, Bool.false_eq_true, Bool.not_true, Bool.not_false, if_true, if_false] at hX
              refine ACode.seq ?_
              refine ACode.run hT nh [2] (fr' := ⟨[(2, .slice ((exRows acc) ++ ([.i v9.op, .i v9.bin, .int .u64 v9.n, .i v9.tk, .str v9.tr, .str v9.name, .slice (exRows v9.kids) v9.kids.length .no, .i v9.line, .i v9.col] : List AV)) (acc.length + 1) (.tok nx 9))], [], [], nx :: [], nx + 1⟩) (σ' := [psAV lo l s13]) (ob := Tt 3) (by kernel_rfl) (tt 3) ?_
              refine ACode.ret ?_
              refine retQ.ret (.slice ((exRows acc) ++ ([.i v9.op, .i v9.bin, .int .u64 v9.n, .i v9.tk, .str v9.tr, .str v9.name, .slice (exRows v9.kids) v9.kids.length .no, .i v9.line, .i v9.col] : List AV)) (acc.length + 1) .no) (by kernel_rfl) ?_
              subst hX
              refine PR.ok_intro ?_ rfl
              simp only [exRows_append, exRows_one, List.length_append, List.length_cons, List.length_nil]
              rfl
            · -- false
              skip
              try simp only [h14, Bool.false_eq_true, Bool.not_true, Bool.not_false, if_true, if_false] at hX
              refine ACode.skip ?_
              refine ACode.region ?_
              refine AOps.runN hT nh 1 [0, 3, 17] (fr' := ⟨[(0, .ptr 0 0), (3, .slice ((exRows acc) ++ ([.i v9.op, .i v9.bin, .int .u64 v9.n, .i v9.tk, .str v9.tr, .str v9.name, .slice (exRows v9.kids) v9.kids.length .no, .i v9.line, .i v9.col] : List AV)) (acc.length + 1) (.tok nx 9)), (17, .ptr 0 0)], [], [], nx :: [], nx + 1⟩) (σ' := [psAV lo l s13]) (ob := Tt 2) (by kernel_rfl) (tt 2) ?_
              have nk15 : mustF l [44] s13 ≠ .out := by intro h9; simp only [h9, R.out_bind] at hX; exact hne hX.symm
              refine AOps.call (fid := 44) (cap := []) (avs := [.ptr 0 0, .str [44]]) (by kernel_rfl) rfl (by kernel_rfl) (by kernel_rfl) en_44 (by kernel_rfl) (ACalls.mono (p_must l lo hll [44] s13 nk15) ?_)
              cases k15 : mustF l [44] s13 with
              | out => exact absurd k15 nk15
              | bad ea eb ec =>
                rintro _ _ ⟨rfl, pp, dd, rfl⟩
                simp only [k15, R.bad_bind] at hX
                subst hX
                exact PR.bad_intro (vAV := fun (a : List Ex) => .slice (exRows a) a.length .no) pp dd rfl rfl
              | ok v16 s17 =>
                rintro _ _ ⟨rfl, rfl⟩
                simp only [k15, R.ok_bind] at hX
                refine AOps.nil ?_
                refine ⟨by kernel_rfl, _, ?_, m, (acc ++ [v9]), s17, .tok nx 9, [nx], nx + 1, (by simp only [exRows_append, exRows_one, List.length_append, List.length_cons, List.length_nil]; rfl), rfl, ?_, rfl⟩
                · omega
                · exact ⟨hX, ⟨rfl, by simp⟩⟩


end Go.AE

