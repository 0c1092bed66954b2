/- Parts of the proof of a law, in build order: P3, P4. -/
import Derived.Test.YtjdbmjllhmmddaaDoorP8Q3
import Derived.IntWalk
set_option maxRecDepth 2000
set_option linter.unusedVariables false
set_option linter.unusedSimpArgs false
set_option linter.unusedVariables false
set_option linter.unusedSimpArgs false
set_option maxRecDepth 4000
namespace Go.AE
open Go.Proofs

theorem upF_bind {α : Type} {s : PS} {f : Unit → PS → R α} {X : R α} (hne : X ≠ .out) (hX : (upF s).bind f = X) : (-1000000 < s.dep ∧ s.dep < 1000000) ∧ f () ⟨s.pos, s.dep - 1⟩ = X := by
  unfold upF at hX
  cases h : depOK s with
  | false => rw [h] at hX; exact absurd hX.symm hne
  | true =>
   rw [h] at hX
   refine ⟨?_, hX⟩
   simpa only [depOK, Bool.and_eq_true, decide_eq_true_eq] using h
structure ExOK (l : List Tok) (lo : Own) (n : Nat) : Prop where
  expr : ∀ s, exprF n l s ≠ .out → ACalls Tryd.prog 75 [.ptr 0 0] [psAV lo l s] (PR (fun (e : Ex) => .agg (exAV e)) lo l (exprF n l s))
  chain : ∀ v s, chainF n l v s ≠ .out → ACalls Tryd.prog 93 [.ptr 0 0, .i (v : Int)] [psAV lo l s] (PR (fun (e : Ex) => .agg (exAV e)) lo l (chainF n l v s))
  pre : ∀ s, prefixF n l s ≠ .out → ACalls Tryd.prog 103 [.ptr 0 0] [psAV lo l s] (PR (fun (e : Ex) => .agg (exAV e)) lo l (prefixF n l s))
  atom : ∀ s, atomF n l s ≠ .out → ACalls Tryd.prog 110 [.ptr 0 0] [psAV lo l s] (PR (fun (e : Ex) => .agg (exAV e)) lo l (atomF n l s))

theorem p_expr (l : List Tok) (lo : Own) (hll : l.length ≤ 100000) (n : Nat) (s : PS) (ih : ∀ k, k < n + 1 → ExOK l lo k) (hne : exprF (n + 1) l s ≠ .out) : ACalls Tryd.prog 75 [.ptr 0 0] [psAV lo l s] (PR (fun (e : Ex) => .agg (exAV e)) lo l (exprF (n + 1) l s)) := by
  generalize hX : exprF (n + 1) l s = X at hne ⊢
  refine ACalls.soft ?_
  rw [exprF] at hX
  refine ACalls.enter hT Tryd.func75 rfl (by kernel_rfl) ?_
  refine ACode.seq ?_
  refine ACode.run hT nh [0, 2] (fr' := ⟨[(0, .ptr 0 0), (2, .loc 0 0)], [[.i 0, .i 0, .int .u64 0, .i 0, .str [], .str [], .slice [] 0 .exact, .i 0, .i 0]], [], [], 0⟩) (σ' := [psAV lo l s]) (ob := Tt 2) (by kernel_rfl) (tt 2) ?_
  refine ACode.seq ?_
  refine ACode.region ?_
  refine AOps.runN hT nh 1 [2, 3] (fr' := ⟨[(2, .loc 0 0), (3, .ptr 0 0)], [[.i 0, .i 0, .int .u64 0, .i 0, .str [], .str [], .slice [] 0 .exact, .i 0, .i 0]], [], [], 0⟩) (σ' := [psAV lo l s]) (ob := Tt 2) (by kernel_rfl) (tt 2) ?_
  have nk1 : chainF n l 0 s ≠ .out := by intro h9; simp only [h9, R.out_bind] at hX; exact hne hX.symm
  refine AOps.call (fid := 93) (cap := []) (avs := [.ptr 0 0, .i 0]) (by kernel_rfl) rfl (by kernel_rfl) (by kernel_rfl) en_93 (by kernel_rfl) (ACalls.mono ((ih n (by omega)).chain 0 s nk1) ?_)
  cases k1 : chainF n l 0 s with
  | out => exact absurd k1 nk1
  | bad ea eb ec =>
   rintro _ _ ⟨rfl, pp, dd, rfl⟩
   simp only [k1, R.bad_bind] at hX
   subst hX
   exact PR.bad_intro (vAV := fun (e : Ex) => .agg (exAV e)) pp dd rfl rfl
  | ok v2 s3 =>
   rintro _ _ ⟨rfl, rfl⟩
   simp only [k1, R.ok_bind] at hX
   refine AOps.runN hT nh 1 [2] (fr' := ⟨[(2, .loc 0 0)], [[.i v2.op, .i v2.bin, .int .u64 v2.n, .i v2.tk, .str v2.tr, .str v2.name, .slice (exRows v2.kids) v2.kids.length .no, .i v2.line, .i v2.col]], [], [], 0⟩) (σ' := [psAV lo l s3]) (ob := Tt 2) (by kernel_rfl) (tt 2) ?_
   refine AOps.nil ?_
   refine ACode.ret ?_
   refine retQ.ret (.agg [.i v2.op, .i v2.bin, .int .u64 v2.n, .i v2.tk, .str v2.tr, .str v2.name, .slice (exRows v2.kids) v2.kids.length .no, .i v2.line, .i v2.col]) (by kernel_rfl) ?_
   subst hX
   exact PR.ok_intro rfl rfl

theorem p_atom (l : List Tok) (lo : Own) (hll : l.length ≤ 100000) (n : Nat) (s : PS) (ih : ∀ k, k < n + 1 → ExOK l lo k) (hne : atomF (n + 1) l s ≠ .out) : ACalls Tryd.prog 110 [.ptr 0 0] [psAV lo l s] (PR (fun (e : Ex) => .agg (exAV e)) lo l (atomF (n + 1) l s)) := by
  generalize hX : atomF (n + 1) l s = X at hne ⊢
  refine ACalls.soft ?_
  rw [atomF] at hX
  refine ACalls.enter hT Tryd.func110 rfl (by kernel_rfl) ?_
  refine ACode.seq ?_
  refine ACode.run hT nh [0, 2] (fr' := ⟨[(0, .ptr 0 0), (2, .loc 0 0)], [[.i 0, .i 0, .int .u64 0, .i 0, .str [], .str [], .slice [] 0 .exact, .i 0, .i 0]], [], [], 0⟩) (σ' := [psAV lo l s]) (ob := Tt 2) (by kernel_rfl) (tt 2) ?_
  refine ACode.seq ?_
  refine ACode.region ?_
  refine AOps.runN hT nh 1 [0, 2, 5] (fr' := ⟨[(0, .ptr 0 0), (2, .loc 0 0), (5, .ptr 0 0)], [[.i 0, .i 0, .int .u64 0, .i 0, .str [], .str [], .slice [] 0 .exact, .i 0, .i 0]], [], [], 0⟩) (σ' := [psAV lo l s]) (ob := Tt 2) (by kernel_rfl) (tt 2) ?_
  have nk1 : nextF l s ≠ .out := by intro h9; simp only [h9, R.out_bind] at hX; exact hne hX.symm
  refine AOps.call (fid := 69) (cap := []) (avs := [.ptr 0 0]) (by kernel_rfl) rfl (by kernel_rfl) (by kernel_rfl) en_69 (by kernel_rfl) (ACalls.mono (p_next l lo hll s nk1) ?_)
  cases k1 : nextF l s with
  | out => exact absurd k1 nk1
  | bad ea eb ec =>
   rintro _ _ ⟨rfl, pp, dd, rfl⟩
   simp only [k1, R.bad_bind] at hX
   subst hX
   exact PR.bad_intro (vAV := fun (e : Ex) => .agg (exAV e)) pp dd rfl rfl
  | ok v2 s3 =>
   rintro _ _ ⟨rfl, rfl⟩
   simp only [k1, R.ok_bind] at hX
   refine AOps.runN hT nh 2 [0, 2, 3] (fr' := ⟨[(0, .ptr 0 0), (2, .loc 0 0), (3, .loc 1 0)], [[.i 0, .i 0, .int .u64 0, .i 0, .str [], .str [], .slice [] 0 .exact, .i 0, .i 0], [.i v2.kind, .str v2.text, .int .u64 v2.n, .i v2.line, .i v2.col]], [], [], 0⟩) (σ' := [psAV lo l s3]) (ob := Tt 3) (by kernel_rfl) (tt 3) ?_
   refine AOps.nil ?_
   refine ACode.seq ?_
   refine ACode.run hT nh [0, 2, 3, 4] (fr' := ⟨[(0, .ptr 0 0), (2, .loc 0 0), (3, .loc 1 0), (4, .loc 2 0)], [[.i 0, .i 0, .int .u64 0, .i 0, .str [], .str [], .slice [] 0 .exact, .i 0, .i 0], [.i v2.kind, .str v2.text, .int .u64 v2.n, .i v2.line, .i v2.col], [.i 0, .i 0, .int .u64 0, .i 0, .str [], .str [], .slice [] 0 .exact, .i v2.line, .i v2.col]], [], [], 0⟩) (σ' := [psAV lo l s3]) (ob := Tt 8) (by kernel_rfl) (tt 8) ?_
   refine ACode.seq ?_
   refine ACode.block ?_
   refine ACode.seq ?_
   refine ACode.run hT nh [0, 2, 3, 4, 15] (fr' := ⟨[(0, .ptr 0 0), (2, .loc 0 0), (3, .loc 1 0), (4, .loc 2 0), (15, .bool (v2.kind == 3))], [[.i 0, .i 0, .int .u64 0, .i 0, .str [], .str [], .slice [] 0 .exact, .i 0, .i 0], [.i v2.kind, .str v2.text, .int .u64 v2.n, .i v2.line, .i v2.col], [.i 0, .i 0, .int .u64 0, .i 0, .str [], .str [], .slice [] 0 .exact, .i v2.line, .i v2.col]], [], [], 0⟩) (σ' := [psAV lo l s3]) (ob := Tt 5) (by kernel_rfl) (tt 5) ?_
   refine ACode.cond (t := v2.kind == 3) (by kernel_rfl) (fun h4 => ?_) (fun h4 => ?_)
   ·
    have h4k := eq_of_beq h4
    try simp only [h4, Bool.false_eq_true, Bool.not_true, Bool.not_false, if_true, if_false] at hX
    refine ACode.draw [(3, 2), (5, 2)] 3 [] 0 (by kernel_rfl) (by kernel_rfl) ?_
    refine AAny.run hT nh (fuel := 0) [0, 1, 2, 3, 4, 5] [2, 4] (fz' := false) (l' := #[true, true, true, true, true, true]) (fr' := ⟨[(2, .loc 0 0), (4, .loc 2 0)], [[.i 0, .i 0, .int .u64 0, .i 0, .str [], .str [], .slice [] 0 .exact, .i 0, .i 0], [.i v2.kind, .str v2.text, .int .u64 v2.n, .i v2.line, .i v2.col], [.i 1, .i 0, .int .u64 v2.n, .i 0, .str [], .str [], .slice [] 0 .exact, .i v2.line, .i v2.col]], [], [], 0⟩) (σ' := [psAV lo l s3]) (ob := Tt 7) (by kernel_rfl) (by kernel_rfl) (tt 7) ?_
    refine AAny.done (by kernel_rfl) ?_
    refine ACode.seq ?_
    refine ACode.run hT nh [2] (fr' := ⟨[(2, .loc 0 0)], [[.i 1, .i 0, .int .u64 v2.n, .i 0, .str [], .str [], .slice [] 0 .exact, .i v2.line, .i v2.col], [.i v2.kind, .str v2.text, .int .u64 v2.n, .i v2.line, .i v2.col], [.i 1, .i 0, .int .u64 v2.n, .i 0, .str [], .str [], .slice [] 0 .exact, .i v2.line, .i v2.col]], [], [], 0⟩) (σ' := [psAV lo l s3]) (ob := Tt 3) (by kernel_rfl) (tt 3) ?_
    refine ACode.ret ?_
    refine retQ.ret (.agg [.i 1, .i 0, .int .u64 v2.n, .i 0, .str [], .str [], .slice [] 0 .exact, .i v2.line, .i v2.col]) (by kernel_rfl) ?_
    subst hX
    exact PR.ok_intro rfl rfl
   ·
    have h4k := ne_of_beq_false h4
    try simp only [h4, Bool.false_eq_true, Bool.not_true, Bool.not_false, if_true, if_false] at hX
    refine ACode.seq ?_
    refine ACode.run hT nh [0, 2, 3, 4, 23] (fr' := ⟨[(0, .ptr 0 0), (2, .loc 0 0), (3, .loc 1 0), (4, .loc 2 0), (23, .bool (v2.kind == 4))], [[.i 0, .i 0, .int .u64 0, .i 0, .str [], .str [], .slice [] 0 .exact, .i 0, .i 0], [.i v2.kind, .str v2.text, .int .u64 v2.n, .i v2.line, .i v2.col], [.i 0, .i 0, .int .u64 0, .i 0, .str [], .str [], .slice [] 0 .exact, .i v2.line, .i v2.col]], [], [], 0⟩) (σ' := [psAV lo l s3]) (ob := Tt 5) (by kernel_rfl) (tt 5) ?_
    refine ACode.cond (t := v2.kind == 4) (by kernel_rfl) (fun h5 => ?_) (fun h5 => ?_)
    ·
     have h5k := eq_of_beq h5
     try simp only [h5, Bool.false_eq_true, Bool.not_true, Bool.not_false, if_true, if_false] at hX
     refine ACode.draw [(3, 2), (5, 2)] 3 [] 0 (by kernel_rfl) (by kernel_rfl) ?_
     refine AAny.run hT nh (fuel := 0) [0, 1, 2, 3, 4, 5] [2, 4] (fz' := false) (l' := #[true, true, true, true, true, true]) (fr' := ⟨[(2, .loc 0 0), (4, .loc 2 0)], [[.i 0, .i 0, .int .u64 0, .i 0, .str [], .str [], .slice [] 0 .exact, .i 0, .i 0], [.i v2.kind, .str v2.text, .int .u64 v2.n, .i v2.line, .i v2.col], [.i 2, .i 0, .int .u64 v2.n, .i 0, .str [], .str [], .slice [] 0 .exact, .i v2.line, .i v2.col]], [], [], 0⟩) (σ' := [psAV lo l s3]) (ob := Tt 7) (by kernel_rfl) (by kernel_rfl) (tt 7) ?_
     refine AAny.done (by kernel_rfl) ?_
     refine ACode.seq ?_
     refine ACode.run hT nh [2] (fr' := ⟨[(2, .loc 0 0)], [[.i 2, .i 0, .int .u64 v2.n, .i 0, .str [], .str [], .slice [] 0 .exact, .i v2.line, .i v2.col], [.i v2.kind, .str v2.text, .int .u64 v2.n, .i v2.line, .i v2.col], [.i 2, .i 0, .int .u64 v2.n, .i 0, .str [], .str [], .slice [] 0 .exact, .i v2.line, .i v2.col]], [], [], 0⟩) (σ' := [psAV lo l s3]) (ob := Tt 3) (by kernel_rfl) (tt 3) ?_
     refine ACode.ret ?_
     refine retQ.ret (.agg [.i 2, .i 0, .int .u64 v2.n, .i 0, .str [], .str [], .slice [] 0 .exact, .i v2.line, .i v2.col]) (by kernel_rfl) ?_
     subst hX
     exact PR.ok_intro rfl rfl
    ·
     have h5k := ne_of_beq_false h5
     try simp only [h5, Bool.false_eq_true, Bool.not_true, Bool.not_false, if_true, if_false] at hX
     refine ACode.seq ?_
     refine ACode.run hT nh [0, 2, 3, 4, 31] (fr' := ⟨[(0, .ptr 0 0), (2, .loc 0 0), (3, .loc 1 0), (4, .loc 2 0), (31, .bool (v2.kind == 1))], [[.i 0, .i 0, .int .u64 0, .i 0, .str [], .str [], .slice [] 0 .exact, .i 0, .i 0], [.i v2.kind, .str v2.text, .int .u64 v2.n, .i v2.line, .i v2.col], [.i 0, .i 0, .int .u64 0, .i 0, .str [], .str [], .slice [] 0 .exact, .i v2.line, .i v2.col]], [], [], 0⟩) (σ' := [psAV lo l s3]) (ob := Tt 5) (by kernel_rfl) (tt 5) ?_
     refine ACode.cond (t := v2.kind == 1) (by kernel_rfl) (fun h6 => ?_) (fun h6 => ?_)
     ·
      have h6k := eq_of_beq h6
      try simp only [h6, Bool.false_eq_true, Bool.not_true, Bool.not_false, if_true, if_false] at hX
      refine ACode.draw [(3, 2), (5, 2)] 3 [] 0 (by kernel_rfl) (by kernel_rfl) ?_
      refine AAny.run hT nh (fuel := 0) [0, 1, 2, 3, 4, 5] [2, 4] (fz' := false) (l' := #[true, true, true, true, true, true]) (fr' := ⟨[(2, .loc 0 0), (4, .loc 2 0)], [[.i 0, .i 0, .int .u64 0, .i 0, .str [], .str [], .slice [] 0 .exact, .i 0, .i 0], [.i v2.kind, .str v2.text, .int .u64 v2.n, .i v2.line, .i v2.col], [.i 5, .i 0, .int .u64 0, .i 0, .str [], .str v2.text, .slice [] 0 .exact, .i v2.line, .i v2.col]], [], [], 0⟩) (σ' := [psAV lo l s3]) (ob := Tt 7) (by kernel_rfl) (by kernel_rfl) (tt 7) ?_
      refine AAny.done (by kernel_rfl) ?_
      refine ACode.seq ?_
      refine ACode.run hT nh [2] (fr' := ⟨[(2, .loc 0 0)], [[.i 5, .i 0, .int .u64 0, .i 0, .str [], .str v2.text, .slice [] 0 .exact, .i v2.line, .i v2.col], [.i v2.kind, .str v2.text, .int .u64 v2.n, .i v2.line, .i v2.col], [.i 5, .i 0, .int .u64 0, .i 0, .str [], .str v2.text, .slice [] 0 .exact, .i v2.line, .i v2.col]], [], [], 0⟩) (σ' := [psAV lo l s3]) (ob := Tt 3) (by kernel_rfl) (tt 3) ?_
      refine ACode.ret ?_
      refine retQ.ret (.agg [.i 5, .i 0, .int .u64 0, .i 0, .str [], .str v2.text, .slice [] 0 .exact, .i v2.line, .i v2.col]) (by kernel_rfl) ?_
      subst hX
      exact PR.ok_intro rfl rfl
     ·
      have h6k := ne_of_beq_false h6
      try simp only [h6, Bool.false_eq_true, Bool.not_true, Bool.not_false, if_true, if_false] at hX
      refine ACode.seq ?_
      refine ACode.meet ⟨[(0, .ptr 0 0), (2, .loc 0 0), (3, .loc 1 0), (4, .loc 2 0), (39, .bool ((v2.kind == 2) && (v2.text == [105, 110, 112, 117, 116])))], [[.i 0, .i 0, .int .u64 0, .i 0, .str [], .str [], .slice [] 0 .exact, .i 0, .i 0], [.i v2.kind, .str v2.text, .int .u64 v2.n, .i v2.line, .i v2.col], [.i 0, .i 0, .int .u64 0, .i 0, .str [], .str [], .slice [] 0 .exact, .i v2.line, .i v2.col]], [], [], 0⟩ [psAV lo l s3] (ACode.region ?_) ?_
      ·
       refine AOps.runN hT nh 4 [0, 2, 3, 4, 43] (fr' := ⟨[(0, .ptr 0 0), (2, .loc 0 0), (3, .loc 1 0), (4, .loc 2 0), (43, .bool (v2.kind == 2))], [[.i 0, .i 0, .int .u64 0, .i 0, .str [], .str [], .slice [] 0 .exact, .i 0, .i 0], [.i v2.kind, .str v2.text, .int .u64 v2.n, .i v2.line, .i v2.col], [.i 0, .i 0, .int .u64 0, .i 0, .str [], .str [], .slice [] 0 .exact, .i v2.line, .i v2.col]], [], [], 0⟩) (σ' := [psAV lo l s3]) (ob := Tt 5) (by kernel_rfl) (tt 5) ?_
       cases h7 : (v2.kind == 2)
       ·
        have h7k := ne_of_beq_false h7
        try simp only [h7, Bool.false_eq_true, Bool.not_true, Bool.not_false, if_true, if_false] at hX
        refine AOps.runN hT nh 5 [0, 2, 3, 4, 39] (fr' := ⟨[(0, .ptr 0 0), (2, .loc 0 0), (3, .loc 1 0), (4, .loc 2 0), (39, .bool false)], [[.i 0, .i 0, .int .u64 0, .i 0, .str [], .str [], .slice [] 0 .exact, .i 0, .i 0], [.i v2.kind, .str v2.text, .int .u64 v2.n, .i v2.line, .i v2.col], [.i 0, .i 0, .int .u64 0, .i 0, .str [], .str [], .slice [] 0 .exact, .i v2.line, .i v2.col]], [], [], 0⟩) (σ' := [psAV lo l s3]) (ob := Tt 3) (by kernel_rfl) (tt 3) ?_
        refine AOps.weak [0, 2, 3, 4, 39] (AOps.nil ⟨rfl, rfl⟩)
       ·
        have h7k := eq_of_beq h7
        try simp only [h7, Bool.false_eq_true, Bool.not_true, Bool.not_false, if_true, if_false] at hX
        refine AOps.runN hT nh 5 [0, 2, 3, 4, 39] (fr' := ⟨[(0, .ptr 0 0), (2, .loc 0 0), (3, .loc 1 0), (4, .loc 2 0), (39, .bool (v2.text == [105, 110, 112, 117, 116]))], [[.i 0, .i 0, .int .u64 0, .i 0, .str [], .str [], .slice [] 0 .exact, .i 0, .i 0], [.i v2.kind, .str v2.text, .int .u64 v2.n, .i v2.line, .i v2.col], [.i 0, .i 0, .int .u64 0, .i 0, .str [], .str [], .slice [] 0 .exact, .i v2.line, .i v2.col]], [], [], 0⟩) (σ' := [psAV lo l s3]) (ob := Tt 6) (by kernel_rfl) (tt 6) ?_
        refine AOps.weak [0, 2, 3, 4, 39] (AOps.nil ⟨rfl, rfl⟩)
      refine ACode.cond (t := (v2.kind == 2) && (v2.text == [105, 110, 112, 117, 116])) (by kernel_rfl) (fun h8 => ?_) (fun h8 => ?_)
      ·
       have h8k := h8; simp only [Bool.and_eq_true, Bool.or_eq_true, Bool.and_eq_false_iff, Bool.or_eq_false_iff, decide_eq_true_eq, decide_eq_false_iff_not, beq_iff_eq, bne_iff_ne, ne_eq, Bool.not_eq_true', Bool.not_eq_false', beq_eq_false_iff_ne, bne_eq_false_iff_eq] at h8k
       try simp only [h8, Bool.false_eq_true, Bool.not_true, Bool.not_false, if_true, if_false] at hX
       refine ACode.region ?_
       refine AOps.runN hT nh 1 [2, 4, 48] (fr' := ⟨[(2, .loc 0 0), (4, .loc 2 0), (48, .ptr 0 0)], [[.i 0, .i 0, .int .u64 0, .i 0, .str [], .str [], .slice [] 0 .exact, .i 0, .i 0], [.i v2.kind, .str v2.text, .int .u64 v2.n, .i v2.line, .i v2.col], [.i 0, .i 0, .int .u64 0, .i 0, .str [], .str [], .slice [] 0 .exact, .i v2.line, .i v2.col]], [], [], 0⟩) (σ' := [psAV lo l s3]) (ob := Tt 2) (by kernel_rfl) (tt 2) ?_
       have nk9 : kindF l 3 s3 ≠ .out := by intro h9; simp only [h9, R.out_bind] at hX; exact hne hX.symm
       refine AOps.call (fid := 57) (cap := []) (avs := [.ptr 0 0, .i 3]) (by kernel_rfl) rfl (by kernel_rfl) (by kernel_rfl) en_57 (by kernel_rfl) (ACalls.mono (p_kind l lo hll 3 s3 nk9) ?_)
       cases k9 : kindF l 3 s3 with
       | out => exact absurd k9 nk9
       | bad ea eb ec =>
        rintro _ _ ⟨rfl, pp, dd, rfl⟩
        simp only [k9, R.bad_bind] at hX
        subst hX
        exact PR.bad_intro (vAV := fun (e : Ex) => .agg (exAV e)) pp dd rfl rfl
       | ok v10 s11 =>
        rintro _ _ ⟨rfl, rfl⟩
        simp only [k9, R.ok_bind] at hX
        refine AOps.runN hT nh 5 [2, 4] (fr' := ⟨[(2, .loc 0 0), (4, .loc 2 0)], [[.i 0, .i 0, .int .u64 0, .i 0, .str [], .str [], .slice [] 0 .exact, .i 0, .i 0], [.i v2.kind, .str v2.text, .int .u64 v2.n, .i v2.line, .i v2.col], [.i 4, .i 0, .int .u64 v10.n, .i 0, .str [], .str [], .slice [] 0 .exact, .i v2.line, .i v2.col]], [], [], 0⟩) (σ' := [psAV lo l s11]) (ob := Tt 6) (by kernel_rfl) (tt 6) ?_
        refine AOps.nil ?_
        refine ACode.seq ?_
        refine ACode.run hT nh [2] (fr' := ⟨[(2, .loc 0 0)], [[.i 4, .i 0, .int .u64 v10.n, .i 0, .str [], .str [], .slice [] 0 .exact, .i v2.line, .i v2.col], [.i v2.kind, .str v2.text, .int .u64 v2.n, .i v2.line, .i v2.col], [.i 4, .i 0, .int .u64 v10.n, .i 0, .str [], .str [], .slice [] 0 .exact, .i v2.line, .i v2.col]], [], [], 0⟩) (σ' := [psAV lo l s11]) (ob := Tt 3) (by kernel_rfl) (tt 3) ?_
        refine ACode.ret ?_
        refine retQ.ret (.agg [.i 4, .i 0, .int .u64 v10.n, .i 0, .str [], .str [], .slice [] 0 .exact, .i v2.line, .i v2.col]) (by kernel_rfl) ?_
        subst hX
        exact PR.ok_intro rfl rfl
      ·
       have h8k := h8; simp only [Bool.and_eq_true, Bool.or_eq_true, Bool.and_eq_false_iff, Bool.or_eq_false_iff, decide_eq_true_eq, decide_eq_false_iff_not, beq_iff_eq, bne_iff_ne, ne_eq, Bool.not_eq_true', Bool.not_eq_false', beq_eq_false_iff_ne, bne_eq_false_iff_eq] at h8k
       try simp only [h8, Bool.false_eq_true, Bool.not_true, Bool.not_false, if_true, if_false] at hX
       refine ACode.seq ?_
       refine ACode.meet ⟨[(0, .ptr 0 0), (2, .loc 0 0), (3, .loc 1 0), (4, .loc 2 0), (53, .bool ((v2.kind == 2) && (v2.text == [110, 105, 108])))], [[.i 0, .i 0, .int .u64 0, .i 0, .str [], .str [], .slice [] 0 .exact, .i 0, .i 0], [.i v2.kind, .str v2.text, .int .u64 v2.n, .i v2.line, .i v2.col], [.i 0, .i 0, .int .u64 0, .i 0, .str [], .str [], .slice [] 0 .exact, .i v2.line, .i v2.col]], [], [], 0⟩ [psAV lo l s3] (ACode.region ?_) ?_
       ·
        refine AOps.runN hT nh 4 [0, 2, 3, 4, 57] (fr' := ⟨[(0, .ptr 0 0), (2, .loc 0 0), (3, .loc 1 0), (4, .loc 2 0), (57, .bool (v2.kind == 2))], [[.i 0, .i 0, .int .u64 0, .i 0, .str [], .str [], .slice [] 0 .exact, .i 0, .i 0], [.i v2.kind, .str v2.text, .int .u64 v2.n, .i v2.line, .i v2.col], [.i 0, .i 0, .int .u64 0, .i 0, .str [], .str [], .slice [] 0 .exact, .i v2.line, .i v2.col]], [], [], 0⟩) (σ' := [psAV lo l s3]) (ob := Tt 5) (by kernel_rfl) (tt 5) ?_
        cases h12 : (v2.kind == 2)
        ·
         have h12k := ne_of_beq_false h12
         try simp only [h12, Bool.false_eq_true, Bool.not_true, Bool.not_false, if_true, if_false] at hX
         refine AOps.runN hT nh 5 [0, 2, 3, 4, 53] (fr' := ⟨[(0, .ptr 0 0), (2, .loc 0 0), (3, .loc 1 0), (4, .loc 2 0), (53, .bool false)], [[.i 0, .i 0, .int .u64 0, .i 0, .str [], .str [], .slice [] 0 .exact, .i 0, .i 0], [.i v2.kind, .str v2.text, .int .u64 v2.n, .i v2.line, .i v2.col], [.i 0, .i 0, .int .u64 0, .i 0, .str [], .str [], .slice [] 0 .exact, .i v2.line, .i v2.col]], [], [], 0⟩) (σ' := [psAV lo l s3]) (ob := Tt 3) (by kernel_rfl) (tt 3) ?_
         refine AOps.weak [0, 2, 3, 4, 53] (AOps.nil ⟨rfl, rfl⟩)
        ·
         have h12k := eq_of_beq h12
         try simp only [h12, Bool.false_eq_true, Bool.not_true, Bool.not_false, if_true, if_false] at hX
         refine AOps.runN hT nh 5 [0, 2, 3, 4, 53] (fr' := ⟨[(0, .ptr 0 0), (2, .loc 0 0), (3, .loc 1 0), (4, .loc 2 0), (53, .bool (v2.text == [110, 105, 108]))], [[.i 0, .i 0, .int .u64 0, .i 0, .str [], .str [], .slice [] 0 .exact, .i 0, .i 0], [.i v2.kind, .str v2.text, .int .u64 v2.n, .i v2.line, .i v2.col], [.i 0, .i 0, .int .u64 0, .i 0, .str [], .str [], .slice [] 0 .exact, .i v2.line, .i v2.col]], [], [], 0⟩) (σ' := [psAV lo l s3]) (ob := Tt 6) (by kernel_rfl) (tt 6) ?_
         refine AOps.weak [0, 2, 3, 4, 53] (AOps.nil ⟨rfl, rfl⟩)
       refine ACode.cond (t := (v2.kind == 2) && (v2.text == [110, 105, 108])) (by kernel_rfl) (fun h13 => ?_) (fun h13 => ?_)
       ·
        have h13k := h13; simp only [Bool.and_eq_true, Bool.or_eq_true, Bool.and_eq_false_iff, Bool.or_eq_false_iff, decide_eq_true_eq, decide_eq_false_iff_not, beq_iff_eq, bne_iff_ne, ne_eq, Bool.not_eq_true', Bool.not_eq_false', beq_eq_false_iff_ne, bne_eq_false_iff_eq] at h13k
        try simp only [h13, Bool.false_eq_true, Bool.not_true, Bool.not_false, if_true, if_false] at hX
        refine ACode.seq ?_
        refine ACode.run hT nh [0, 2, 4] (fr' := ⟨[(0, .ptr 0 0), (2, .loc 0 0), (4, .loc 2 0)], [[.i 0, .i 0, .int .u64 0, .i 0, .str [], .str [], .slice [] 0 .exact, .i 0, .i 0], [.i v2.kind, .str v2.text, .int .u64 v2.n, .i v2.line, .i v2.col], [.i 3, .i 0, .int .u64 0, .i 3, .str [], .str [], .slice [] 0 .exact, .i v2.line, .i v2.col]], [], [], 0⟩) (σ' := [psAV lo l s3]) (ob := Tt 6) (by kernel_rfl) (tt 6) ?_
        refine ACode.seq ?_
        refine ACode.region ?_
        refine AOps.runN hT nh 1 [0, 2, 4, 65] (fr' := ⟨[(0, .ptr 0 0), (2, .loc 0 0), (4, .loc 2 0), (65, .ptr 0 0)], [[.i 0, .i 0, .int .u64 0, .i 0, .str [], .str [], .slice [] 0 .exact, .i 0, .i 0], [.i v2.kind, .str v2.text, .int .u64 v2.n, .i v2.line, .i v2.col], [.i 3, .i 0, .int .u64 0, .i 3, .str [], .str [], .slice [] 0 .exact, .i v2.line, .i v2.col]], [], [], 0⟩) (σ' := [psAV lo l s3]) (ob := Tt 2) (by kernel_rfl) (tt 2) ?_
        have nk14 : eatF l [105, 110, 116, 115] s3 ≠ .out := by intro h9; simp only [h9, R.out_bind] at hX; exact hne hX.symm
        refine AOps.call (fid := 41) (cap := []) (avs := [.ptr 0 0, .str [105, 110, 116, 115]]) (by kernel_rfl) rfl (by kernel_rfl) (by kernel_rfl) en_41 (by kernel_rfl) (ACalls.mono (p_eat l lo hll [105, 110, 116, 115] s3 nk14) ?_)
        cases k14 : eatF l [105, 110, 116, 115] s3 with
        | out => exact absurd k14 nk14
        | bad ea eb ec =>
         rintro _ _ ⟨rfl, pp, dd, rfl⟩
         simp only [k14, R.bad_bind] at hX
         subst hX
         exact PR.bad_intro (vAV := fun (e : Ex) => .agg (exAV e)) pp dd rfl rfl
        | ok v15 s16 =>
         rintro _ _ ⟨rfl, rfl⟩
         simp only [k14, R.ok_bind] at hX
         refine AOps.runN hT nh 1 [0, 2, 4, 67] (fr' := ⟨[(0, .ptr 0 0), (2, .loc 0 0), (4, .loc 2 0), (67, .bool (!v15))], [[.i 0, .i 0, .int .u64 0, .i 0, .str [], .str [], .slice [] 0 .exact, .i 0, .i 0], [.i v2.kind, .str v2.text, .int .u64 v2.n, .i v2.line, .i v2.col], [.i 3, .i 0, .int .u64 0, .i 3, .str [], .str [], .slice [] 0 .exact, .i v2.line, .i v2.col]], [], [], 0⟩) (σ' := [psAV lo l s16]) (ob := Tt 2) (by kernel_rfl) (tt 2) ?_
         refine AOps.nil ?_
         refine ACode.cond (t := !v15) (by kernel_rfl) (fun h17 => ?_) (fun h17 => ?_)
         ·
          have h17k := h17; simp only [Bool.and_eq_true, Bool.or_eq_true, Bool.and_eq_false_iff, Bool.or_eq_false_iff, decide_eq_true_eq, decide_eq_false_iff_not, beq_iff_eq, bne_iff_ne, ne_eq, Bool.not_eq_true', Bool.not_eq_false', beq_eq_false_iff_ne, bne_eq_false_iff_eq] at h17k
          try simp only [h17, Bool.false_eq_true, Bool.not_true, Bool.not_false, if_true, if_false] at hX
          refine ACode.region ?_
          refine AOps.runN hT nh 1 [2, 4, 68] (fr' := ⟨[(2, .loc 0 0), (4, .loc 2 0), (68, .ptr 0 0)], [[.i 0, .i 0, .int .u64 0, .i 0, .str [], .str [], .slice [] 0 .exact, .i 0, .i 0], [.i v2.kind, .str v2.text, .int .u64 v2.n, .i v2.line, .i v2.col], [.i 3, .i 0, .int .u64 0, .i 3, .str [], .str [], .slice [] 0 .exact, .i v2.line, .i v2.col]], [], [], 0⟩) (σ' := [psAV lo l s16]) (ob := Tt 2) (by kernel_rfl) (tt 2) ?_
          have nk18 : kindF l 1 s16 ≠ .out := by intro h9; simp only [h9, R.out_bind] at hX; exact hne hX.symm
          refine AOps.call (fid := 57) (cap := []) (avs := [.ptr 0 0, .i 1]) (by kernel_rfl) rfl (by kernel_rfl) (by kernel_rfl) en_57 (by kernel_rfl) (ACalls.mono (p_kind l lo hll 1 s16 nk18) ?_)
          cases k18 : kindF l 1 s16 with
          | out => exact absurd k18 nk18
          | bad ea eb ec =>
           rintro _ _ ⟨rfl, pp, dd, rfl⟩
           simp only [k18, R.bad_bind] at hX
           subst hX
           exact PR.bad_intro (vAV := fun (e : Ex) => .agg (exAV e)) pp dd rfl rfl
          | ok v19 s20 =>
           rintro _ _ ⟨rfl, rfl⟩
           simp only [k18, R.ok_bind] at hX
           refine AOps.runN hT nh 4 [2, 4] (fr' := ⟨[(2, .loc 0 0), (4, .loc 2 0)], [[.i 0, .i 0, .int .u64 0, .i 0, .str [], .str [], .slice [] 0 .exact, .i 0, .i 0], [.i v2.kind, .str v2.text, .int .u64 v2.n, .i v2.line, .i v2.col], [.i 3, .i 0, .int .u64 0, .i 4, .str v19.text, .str [], .slice [] 0 .exact, .i v2.line, .i v2.col]], [], [], 0⟩) (σ' := [psAV lo l s20]) (ob := Tt 5) (by kernel_rfl) (tt 5) ?_
           refine AOps.nil ?_
           refine ACode.seq ?_
           refine ACode.run hT nh [2] (fr' := ⟨[(2, .loc 0 0)], [[.i 3, .i 0, .int .u64 0, .i 4, .str v19.text, .str [], .slice [] 0 .exact, .i v2.line, .i v2.col], [.i v2.kind, .str v2.text, .int .u64 v2.n, .i v2.line, .i v2.col], [.i 3, .i 0, .int .u64 0, .i 4, .str v19.text, .str [], .slice [] 0 .exact, .i v2.line, .i v2.col]], [], [], 0⟩) (σ' := [psAV lo l s20]) (ob := Tt 3) (by kernel_rfl) (tt 3) ?_
           refine ACode.ret ?_
           refine retQ.ret (.agg [.i 3, .i 0, .int .u64 0, .i 4, .str v19.text, .str [], .slice [] 0 .exact, .i v2.line, .i v2.col]) (by kernel_rfl) ?_
           subst hX
           exact PR.ok_intro rfl rfl
         ·
          have h17k := h17; simp only [Bool.and_eq_true, Bool.or_eq_true, Bool.and_eq_false_iff, Bool.or_eq_false_iff, decide_eq_true_eq, decide_eq_false_iff_not, beq_iff_eq, bne_iff_ne, ne_eq, Bool.not_eq_true', Bool.not_eq_false', beq_eq_false_iff_ne, bne_eq_false_iff_eq] at h17k
          try simp only [h17, Bool.false_eq_true, Bool.not_true, Bool.not_false, if_true, if_false] at hX
          refine ACode.skip ?_
          refine ACode.seq ?_
          refine ACode.run hT nh [2] (fr' := ⟨[(2, .loc 0 0)], [[.i 3, .i 0, .int .u64 0, .i 3, .str [], .str [], .slice [] 0 .exact, .i v2.line, .i v2.col], [.i v2.kind, .str v2.text, .int .u64 v2.n, .i v2.line, .i v2.col], [.i 3, .i 0, .int .u64 0, .i 3, .str [], .str [], .slice [] 0 .exact, .i v2.line, .i v2.col]], [], [], 0⟩) (σ' := [psAV lo l s16]) (ob := Tt 3) (by kernel_rfl) (tt 3) ?_
          refine ACode.ret ?_
          refine retQ.ret (.agg [.i 3, .i 0, .int .u64 0, .i 3, .str [], .str [], .slice [] 0 .exact, .i v2.line, .i v2.col]) (by kernel_rfl) ?_
          subst hX
          exact PR.ok_intro rfl rfl
       ·
        have h13k := h13; simp only [Bool.and_eq_true, Bool.or_eq_true, Bool.and_eq_false_iff, Bool.or_eq_false_iff, decide_eq_true_eq, decide_eq_false_iff_not, beq_iff_eq, bne_iff_ne, ne_eq, Bool.not_eq_true', Bool.not_eq_false', beq_eq_false_iff_ne, bne_eq_false_iff_eq] at h13k
        try simp only [h13, Bool.false_eq_true, Bool.not_true, Bool.not_false, if_true, if_false] at hX
        refine ACode.seq ?_
        refine ACode.meet ⟨[(0, .ptr 0 0), (2, .loc 0 0), (3, .loc 1 0), (4, .loc 2 0), (73, .bool ((v2.kind == 5) && (v2.text == [40])))], [[.i 0, .i 0, .int .u64 0, .i 0, .str [], .str [], .slice [] 0 .exact, .i 0, .i 0], [.i v2.kind, .str v2.text, .int .u64 v2.n, .i v2.line, .i v2.col], [.i 0, .i 0, .int .u64 0, .i 0, .str [], .str [], .slice [] 0 .exact, .i v2.line, .i v2.col]], [], [], 0⟩ [psAV lo l s3] (ACode.region ?_) ?_
        ·
         refine AOps.runN hT nh 4 [0, 2, 3, 4, 77] (fr' := ⟨[(0, .ptr 0 0), (2, .loc 0 0), (3, .loc 1 0), (4, .loc 2 0), (77, .bool (v2.kind == 5))], [[.i 0, .i 0, .int .u64 0, .i 0, .str [], .str [], .slice [] 0 .exact, .i 0, .i 0], [.i v2.kind, .str v2.text, .int .u64 v2.n, .i v2.line, .i v2.col], [.i 0, .i 0, .int .u64 0, .i 0, .str [], .str [], .slice [] 0 .exact, .i v2.line, .i v2.col]], [], [], 0⟩) (σ' := [psAV lo l s3]) (ob := Tt 5) (by kernel_rfl) (tt 5) ?_
         cases h21 : (v2.kind == 5)
         ·
          have h21k := ne_of_beq_false h21
          try simp only [h21, Bool.false_eq_true, Bool.not_true, Bool.not_false, if_true, if_false] at hX
          refine AOps.runN hT nh 5 [0, 2, 3, 4, 73] (fr' := ⟨[(0, .ptr 0 0), (2, .loc 0 0), (3, .loc 1 0), (4, .loc 2 0), (73, .bool false)], [[.i 0, .i 0, .int .u64 0, .i 0, .str [], .str [], .slice [] 0 .exact, .i 0, .i 0], [.i v2.kind, .str v2.text, .int .u64 v2.n, .i v2.line, .i v2.col], [.i 0, .i 0, .int .u64 0, .i 0, .str [], .str [], .slice [] 0 .exact, .i v2.line, .i v2.col]], [], [], 0⟩) (σ' := [psAV lo l s3]) (ob := Tt 3) (by kernel_rfl) (tt 3) ?_
          refine AOps.weak [0, 2, 3, 4, 73] (AOps.nil ⟨rfl, rfl⟩)
         ·
          have h21k := eq_of_beq h21
          try simp only [h21, Bool.false_eq_true, Bool.not_true, Bool.not_false, if_true, if_false] at hX
          refine AOps.runN hT nh 5 [0, 2, 3, 4, 73] (fr' := ⟨[(0, .ptr 0 0), (2, .loc 0 0), (3, .loc 1 0), (4, .loc 2 0), (73, .bool (v2.text == [40]))], [[.i 0, .i 0, .int .u64 0, .i 0, .str [], .str [], .slice [] 0 .exact, .i 0, .i 0], [.i v2.kind, .str v2.text, .int .u64 v2.n, .i v2.line, .i v2.col], [.i 0, .i 0, .int .u64 0, .i 0, .str [], .str [], .slice [] 0 .exact, .i v2.line, .i v2.col]], [], [], 0⟩) (σ' := [psAV lo l s3]) (ob := Tt 6) (by kernel_rfl) (tt 6) ?_
          refine AOps.weak [0, 2, 3, 4, 73] (AOps.nil ⟨rfl, rfl⟩)
        refine ACode.cond (t := (v2.kind == 5) && (v2.text == [40])) (by kernel_rfl) (fun h22 => ?_) (fun h22 => ?_)
        ·
         have h22k := h22; simp only [Bool.and_eq_true, Bool.or_eq_true, Bool.and_eq_false_iff, Bool.or_eq_false_iff, decide_eq_true_eq, decide_eq_false_iff_not, beq_iff_eq, bne_iff_ne, ne_eq, Bool.not_eq_true', Bool.not_eq_false', beq_eq_false_iff_ne, bne_eq_false_iff_eq] at h22k
         try simp only [h22, Bool.false_eq_true, Bool.not_true, Bool.not_false, if_true, if_false] at hX
         refine ACode.seq ?_
         refine ACode.region ?_
         refine AOps.runN hT nh 2 [0, 2, 4, 82, 83] (fr' := ⟨[(0, .ptr 0 0), (2, .loc 0 0), (4, .loc 2 0), (82, .ptr 0 0), (83, .agg [.i v2.kind, .str v2.text, .int .u64 v2.n, .i v2.line, .i v2.col])], [[.i 0, .i 0, .int .u64 0, .i 0, .str [], .str [], .slice [] 0 .exact, .i 0, .i 0], [.i v2.kind, .str v2.text, .int .u64 v2.n, .i v2.line, .i v2.col], [.i 0, .i 0, .int .u64 0, .i 0, .str [], .str [], .slice [] 0 .exact, .i v2.line, .i v2.col]], [], [], 0⟩) (σ' := [psAV lo l s3]) (ob := Tt 3) (by kernel_rfl) (tt 3) ?_
         have nk23 : downF v2 s3 ≠ .out := by intro h9; simp only [h9, R.out_bind] at hX; exact hne hX.symm
         refine AOps.call (fid := 59) (cap := []) (avs := [.ptr 0 0, .agg [.i v2.kind, .str v2.text, .int .u64 v2.n, .i v2.line, .i v2.col]]) (by kernel_rfl) rfl (by kernel_rfl) (by kernel_rfl) en_59 (by kernel_rfl) (ACalls.mono (p_down l lo hll v2 s3 nk23) ?_)
         cases k23 : downF v2 s3 with
         | out => exact absurd k23 nk23
         | bad ea eb ec =>
          rintro _ _ ⟨rfl, pp, dd, rfl⟩
          simp only [k23, R.bad_bind] at hX
          subst hX
          exact PR.bad_intro (vAV := fun (e : Ex) => .agg (exAV e)) pp dd rfl rfl
         | ok v24 s25 =>
          rintro _ _ ⟨rfl, rfl⟩
          simp only [k23, R.ok_bind] at hX
          refine AOps.nil ?_
          refine ACode.seq ?_
          refine ACode.region ?_
          refine AOps.runN hT nh 1 [0, 2, 4, 85] (fr' := ⟨[(0, .ptr 0 0), (2, .loc 0 0), (4, .loc 2 0), (85, .ptr 0 0)], [[.i 0, .i 0, .int .u64 0, .i 0, .str [], .str [], .slice [] 0 .exact, .i 0, .i 0], [.i v2.kind, .str v2.text, .int .u64 v2.n, .i v2.line, .i v2.col], [.i 0, .i 0, .int .u64 0, .i 0, .str [], .str [], .slice [] 0 .exact, .i v2.line, .i v2.col]], [], [], 0⟩) (σ' := [psAV lo l s25]) (ob := Tt 2) (by kernel_rfl) (tt 2) ?_
          have nk26 : exprF n l s25 ≠ .out := by intro h9; simp only [h9, R.out_bind] at hX; exact hne hX.symm
          refine AOps.call (fid := 75) (cap := []) (avs := [.ptr 0 0]) (by kernel_rfl) rfl (by kernel_rfl) (by kernel_rfl) en_75 (by kernel_rfl) (ACalls.mono ((ih n (by omega)).expr s25 nk26) ?_)
          cases k26 : exprF n l s25 with
          | out => exact absurd k26 nk26
          | bad ea eb ec =>
           rintro _ _ ⟨rfl, pp, dd, rfl⟩
           simp only [k26, R.bad_bind] at hX
           subst hX
           exact PR.bad_intro (vAV := fun (e : Ex) => .agg (exAV e)) pp dd rfl rfl
          | ok v27 s28 =>
           rintro _ _ ⟨rfl, rfl⟩
           simp only [k26, R.ok_bind] at hX
           refine AOps.runN hT nh 1 [0, 2, 4] (fr' := ⟨[(0, .ptr 0 0), (2, .loc 0 0), (4, .loc 2 0)], [[.i 0, .i 0, .int .u64 0, .i 0, .str [], .str [], .slice [] 0 .exact, .i 0, .i 0], [.i v2.kind, .str v2.text, .int .u64 v2.n, .i v2.line, .i v2.col], [.i v27.op, .i v27.bin, .int .u64 v27.n, .i v27.tk, .str v27.tr, .str v27.name, .slice (exRows v27.kids) v27.kids.length .no, .i v27.line, .i v27.col]], [], [], 0⟩) (σ' := [psAV lo l s28]) (ob := Tt 2) (by kernel_rfl) (tt 2) ?_
           refine AOps.nil ?_
           refine ACode.seq ?_
           refine ACode.region ?_
           refine AOps.runN hT nh 1 [0, 2, 4, 87] (fr' := ⟨[(0, .ptr 0 0), (2, .loc 0 0), (4, .loc 2 0), (87, .ptr 0 0)], [[.i 0, .i 0, .int .u64 0, .i 0, .str [], .str [], .slice [] 0 .exact, .i 0, .i 0], [.i v2.kind, .str v2.text, .int .u64 v2.n, .i v2.line, .i v2.col], [.i v27.op, .i v27.bin, .int .u64 v27.n, .i v27.tk, .str v27.tr, .str v27.name, .slice (exRows v27.kids) v27.kids.length .no, .i v27.line, .i v27.col]], [], [], 0⟩) (σ' := [psAV lo l s28]) (ob := Tt 2) (by kernel_rfl) (tt 2) ?_
           have nk29 : mustF l [41] s28 ≠ .out := by intro h9; simp only [h9, R.out_bind] at hX; exact hne hX.symm
           refine AOps.call (fid := 44) (cap := []) (avs := [.ptr 0 0, .str [41]]) (by kernel_rfl) rfl (by kernel_rfl) (by kernel_rfl) en_44 (by kernel_rfl) (ACalls.mono (p_must l lo hll [41] s28 nk29) ?_)
           cases k29 : mustF l [41] s28 with
           | out => exact absurd k29 nk29
           | bad ea eb ec =>
            rintro _ _ ⟨rfl, pp, dd, rfl⟩
            simp only [k29, R.bad_bind] at hX
            subst hX
            exact PR.bad_intro (vAV := fun (e : Ex) => .agg (exAV e)) pp dd rfl rfl
           | ok v30 s31 =>
            rintro _ _ ⟨rfl, rfl⟩
            simp only [k29, R.ok_bind] at hX
            refine AOps.nil ?_
            replace hX := upF_bind hne hX
            obtain ⟨hdp, hX⟩ := hX
            refine ACode.run hT nh [2, 4] (fr' := ⟨[(2, .loc 0 0), (4, .loc 2 0)], [[.i 0, .i 0, .int .u64 0, .i 0, .str [], .str [], .slice [] 0 .exact, .i 0, .i 0], [.i v2.kind, .str v2.text, .int .u64 v2.n, .i v2.line, .i v2.col], [.i v27.op, .i v27.bin, .int .u64 v27.n, .i v27.tk, .str v27.tr, .str v27.name, .slice (exRows v27.kids) v27.kids.length .no, .i v27.line, .i v27.col]], [], [], 0⟩) (σ' := [[.slice (toksAV l) l.length lo, .i (s31.pos : Int), .i (IntKind.i64.wrap (s31.dep - 1)), .i 0, .i 0, .i 0]]) (ob := Tt 9) (by kernel_rfl) (tt 9) ?_
            rw [IntWalk.i64_in (s31.dep - 1) (by omega)]
            refine ACode.seq ?_
            refine ACode.run hT nh [2] (fr' := ⟨[(2, .loc 0 0)], [[.i v27.op, .i v27.bin, .int .u64 v27.n, .i v27.tk, .str v27.tr, .str v27.name, .slice (exRows v27.kids) v27.kids.length .no, .i v27.line, .i v27.col], [.i v2.kind, .str v2.text, .int .u64 v2.n, .i v2.line, .i v2.col], [.i v27.op, .i v27.bin, .int .u64 v27.n, .i v27.tk, .str v27.tr, .str v27.name, .slice (exRows v27.kids) v27.kids.length .no, .i v27.line, .i v27.col]], [], [], 0⟩) (σ' := [[.slice (toksAV l) l.length lo, .i (s31.pos : Int), .i (s31.dep - 1), .i 0, .i 0, .i 0]]) (ob := Tt 3) (by kernel_rfl) (tt 3) ?_
            refine ACode.ret ?_
            refine retQ.ret (.agg [.i v27.op, .i v27.bin, .int .u64 v27.n, .i v27.tk, .str v27.tr, .str v27.name, .slice (exRows v27.kids) v27.kids.length .no, .i v27.line, .i v27.col]) (by kernel_rfl) ?_
            subst hX
            exact PR.ok_intro rfl rfl
        ·
         have h22k := h22; simp only [Bool.and_eq_true, Bool.or_eq_true, Bool.and_eq_false_iff, Bool.or_eq_false_iff, decide_eq_true_eq, decide_eq_false_iff_not, beq_iff_eq, bne_iff_ne, ne_eq, Bool.not_eq_true', Bool.not_eq_false', beq_eq_false_iff_ne, bne_eq_false_iff_eq] at h22k
         try simp only [h22, Bool.false_eq_true, Bool.not_true, Bool.not_false, if_true, if_false] at hX
         refine ACode.region ?_
         refine AOps.runN hT nh 2 [2, 4, 12, 13] (fr' := ⟨[(2, .loc 0 0), (4, .loc 2 0), (12, .ptr 0 0), (13, .agg [.i v2.kind, .str v2.text, .int .u64 v2.n, .i v2.line, .i v2.col])], [[.i 0, .i 0, .int .u64 0, .i 0, .str [], .str [], .slice [] 0 .exact, .i 0, .i 0], [.i v2.kind, .str v2.text, .int .u64 v2.n, .i v2.line, .i v2.col], [.i 0, .i 0, .int .u64 0, .i 0, .str [], .str [], .slice [] 0 .exact, .i v2.line, .i v2.col]], [], [], 0⟩) (σ' := [psAV lo l s3]) (ob := Tt 3) (by kernel_rfl) (tt 3) ?_
         refine AOps.call (fid := 47) (cap := []) (avs := [.ptr 0 0, .i 4, .agg [.i v2.kind, .str v2.text, .int .u64 v2.n, .i v2.line, .i v2.col]]) (by kernel_rfl) rfl (by kernel_rfl) (by kernel_rfl) en_47 (by kernel_rfl) (ACalls.mono (p_fail l lo hll 4 v2 (s3.pos : Int) s3.dep) ?_)
         rintro _ _ ⟨rfl, pp, dd, rfl⟩
         subst hX
         exact PR.bad_intro (vAV := fun (e : Ex) => .agg (exAV e)) pp dd rfl rfl

theorem p_prefix (l : List Tok) (lo : Own) (hll : l.length ≤ 100000) (n : Nat) (s : PS) (ih : ∀ k, k < n + 1 → ExOK l lo k) (hne : prefixF (n + 1) l s ≠ .out) : ACalls Tryd.prog 103 [.ptr 0 0] [psAV lo l s] (PR (fun (e : Ex) => .agg (exAV e)) lo l (prefixF (n + 1) l s)) := by
  generalize hX : prefixF (n + 1) l s = X at hne ⊢
  refine ACalls.soft ?_
  rw [prefixF] at hX
  refine ACalls.enter hT Tryd.func103 rfl (by kernel_rfl) ?_
  refine ACode.seq ?_
  refine ACode.run hT nh [0, 2] (fr' := ⟨[(0, .ptr 0 0), (2, .loc 0 0)], [[.i 0, .i 0, .int .u64 0, .i 0, .str [], .str [], .slice [] 0 .exact, .i 0, .i 0]], [], [], 0⟩) (σ' := [psAV lo l s]) (ob := Tt 2) (by kernel_rfl) (tt 2) ?_
  refine ACode.seq ?_
  refine ACode.region ?_
  refine AOps.runN hT nh 1 [0, 2, 6] (fr' := ⟨[(0, .ptr 0 0), (2, .loc 0 0), (6, .ptr 0 0)], [[.i 0, .i 0, .int .u64 0, .i 0, .str [], .str [], .slice [] 0 .exact, .i 0, .i 0]], [], [], 0⟩) (σ' := [psAV lo l s]) (ob := Tt 2) (by kernel_rfl) (tt 2) ?_
  have nk1 : peekF l s ≠ .out := by intro h9; simp only [h9, R.out_bind] at hX; exact hne hX.symm
  refine AOps.call (fid := 40) (cap := []) (avs := [.ptr 0 0]) (by kernel_rfl) rfl (by kernel_rfl) (by kernel_rfl) en_40 (by kernel_rfl) (ACalls.mono (p_peek l lo hll s nk1) ?_)
  cases k1 : peekF l s with
  | out => exact absurd k1 nk1
  | bad ea eb ec =>
   rintro _ _ ⟨rfl, pp, dd, rfl⟩
   simp only [k1, R.bad_bind] at hX
   subst hX
   exact PR.bad_intro (vAV := fun (e : Ex) => .agg (exAV e)) pp dd rfl rfl
  | ok v2 s3 =>
   rintro _ _ ⟨rfl, rfl⟩
   simp only [k1, R.ok_bind] at hX
   obtain ⟨hsk1, hpk1, hvk1⟩ := peekF_ok k1
   refine AOps.runN hT nh 2 [0, 2, 3] (fr' := ⟨[(0, .ptr 0 0), (2, .loc 0 0), (3, .loc 1 0)], [[.i 0, .i 0, .int .u64 0, .i 0, .str [], .str [], .slice [] 0 .exact, .i 0, .i 0], [.i v2.kind, .str v2.text, .int .u64 v2.n, .i v2.line, .i v2.col]], [], [], 0⟩) (σ' := [psAV lo l s3]) (ob := Tt 3) (by kernel_rfl) (tt 3) ?_
   refine AOps.nil ?_
   refine ACode.seq ?_
   refine ACode.run hT nh [0, 2, 3, 4] (fr' := ⟨[(0, .ptr 0 0), (2, .loc 0 0), (3, .loc 1 0), (4, .i 0)], [[.i 0, .i 0, .int .u64 0, .i 0, .str [], .str [], .slice [] 0 .exact, .i 0, .i 0], [.i v2.kind, .str v2.text, .int .u64 v2.n, .i v2.line, .i v2.col]], [], [], 0⟩) (σ' := [psAV lo l s3]) (ob := Tt 2) (by kernel_rfl) (tt 2) ?_
   refine ACode.seq ?_
   refine ACode.seq ?_
   refine ACode.meet ⟨[(0, .ptr 0 0), (2, .loc 0 0), (3, .loc 1 0), (4, .i 0), (15, .bool ((v2.kind == 2) || (v2.kind == 5)))], [[.i 0, .i 0, .int .u64 0, .i 0, .str [], .str [], .slice [] 0 .exact, .i 0, .i 0], [.i v2.kind, .str v2.text, .int .u64 v2.n, .i v2.line, .i v2.col]], [], [], 0⟩ [psAV lo l s3] (ACode.region ?_) ?_
   ·
    refine AOps.runN hT nh 4 [0, 2, 3, 4, 11] (fr' := ⟨[(0, .ptr 0 0), (2, .loc 0 0), (3, .loc 1 0), (4, .i 0), (11, .bool (v2.kind == 2))], [[.i 0, .i 0, .int .u64 0, .i 0, .str [], .str [], .slice [] 0 .exact, .i 0, .i 0], [.i v2.kind, .str v2.text, .int .u64 v2.n, .i v2.line, .i v2.col]], [], [], 0⟩) (σ' := [psAV lo l s3]) (ob := Tt 5) (by kernel_rfl) (tt 5) ?_
    cases h4 : (v2.kind == 2)
    ·
     have h4k := ne_of_beq_false h4
     try simp only [h4, Bool.false_eq_true, Bool.not_true, Bool.not_false, if_true, if_false] at hX
     refine AOps.runN hT nh 4 [0, 2, 3, 4, 15] (fr' := ⟨[(0, .ptr 0 0), (2, .loc 0 0), (3, .loc 1 0), (4, .i 0), (15, .bool (v2.kind == 5))], [[.i 0, .i 0, .int .u64 0, .i 0, .str [], .str [], .slice [] 0 .exact, .i 0, .i 0], [.i v2.kind, .str v2.text, .int .u64 v2.n, .i v2.line, .i v2.col]], [], [], 0⟩) (σ' := [psAV lo l s3]) (ob := Tt 5) (by kernel_rfl) (tt 5) ?_
     refine AOps.weak [0, 2, 3, 4, 15] (AOps.nil ⟨rfl, rfl⟩)
    ·
     have h4k := eq_of_beq h4
     try simp only [h4, Bool.false_eq_true, Bool.not_true, Bool.not_false, if_true, if_false] at hX
     refine AOps.runN hT nh 4 [0, 2, 3, 4, 15] (fr' := ⟨[(0, .ptr 0 0), (2, .loc 0 0), (3, .loc 1 0), (4, .i 0), (15, .bool true)], [[.i 0, .i 0, .int .u64 0, .i 0, .str [], .str [], .slice [] 0 .exact, .i 0, .i 0], [.i v2.kind, .str v2.text, .int .u64 v2.n, .i v2.line, .i v2.col]], [], [], 0⟩) (σ' := [psAV lo l s3]) (ob := Tt 2) (by kernel_rfl) (tt 2) ?_
     refine AOps.weak [0, 2, 3, 4, 15] (AOps.nil ⟨rfl, rfl⟩)
   refine ACode.cond (t := (v2.kind == 2) || (v2.kind == 5)) (by kernel_rfl) (fun h5 => ?_) (fun h5 => ?_)
   ·
    have h5k := h5; simp only [Bool.and_eq_true, Bool.or_eq_true, Bool.and_eq_false_iff, Bool.or_eq_false_iff, decide_eq_true_eq, decide_eq_false_iff_not, beq_iff_eq, bne_iff_ne, ne_eq, Bool.not_eq_true', Bool.not_eq_false', beq_eq_false_iff_ne, bne_eq_false_iff_eq] at h5k
    try simp only [h5, Bool.false_eq_true, Bool.not_true, Bool.not_false, if_true, if_false] at hX
    refine ACode.region ?_
    refine AOps.runN hT nh 2 [0, 2, 3, 17] (fr' := ⟨[(0, .ptr 0 0), (2, .loc 0 0), (3, .loc 1 0), (17, .str v2.text)], [[.i 0, .i 0, .int .u64 0, .i 0, .str [], .str [], .slice [] 0 .exact, .i 0, .i 0], [.i v2.kind, .str v2.text, .int .u64 v2.n, .i v2.line, .i v2.col]], [], [], 0⟩) (σ' := [psAV lo l s3]) (ob := Tt 3) (by kernel_rfl) (tt 3) ?_
    refine AOps.call (fid := 109) (cap := []) (avs := [.str v2.text]) (by kernel_rfl) rfl (by kernel_rfl) (by kernel_rfl) en_109 (by kernel_rfl) (ACalls.mono (unary_walk v2.text _) ?_)
    rintro _ _ ⟨rfl, rfl⟩
    refine AOps.runN hT nh 1 [0, 2, 3, 4] (fr' := ⟨[(0, .ptr 0 0), (2, .loc 0 0), (3, .loc 1 0), (4, .i (unaryS v2.text))], [[.i 0, .i 0, .int .u64 0, .i 0, .str [], .str [], .slice [] 0 .exact, .i 0, .i 0], [.i v2.kind, .str v2.text, .int .u64 v2.n, .i v2.line, .i v2.col]], [], [], 0⟩) (σ' := [psAV lo l s3]) (ob := Tt 2) (by kernel_rfl) (tt 2) ?_
    refine AOps.nil ?_
    refine ACode.seq ?_
    refine ACode.seq ?_
    refine ACode.run hT nh [0, 2, 3, 4, 20] (fr' := ⟨[(0, .ptr 0 0), (2, .loc 0 0), (3, .loc 1 0), (4, .i (unaryS v2.text)), (20, .bool ((unaryS v2.text) == 0))], [[.i 0, .i 0, .int .u64 0, .i 0, .str [], .str [], .slice [] 0 .exact, .i 0, .i 0], [.i v2.kind, .str v2.text, .int .u64 v2.n, .i v2.line, .i v2.col]], [], [], 0⟩) (σ' := [psAV lo l s3]) (ob := Tt 3) (by kernel_rfl) (tt 3) ?_
    refine ACode.cond (t := (unaryS v2.text) == 0) (by kernel_rfl) (fun h6 => ?_) (fun h6 => ?_)
    ·
     have h6k := eq_of_beq h6
     try simp only [h6, Bool.false_eq_true, Bool.not_true, Bool.not_false, if_true, if_false] at hX
     refine ACode.seq ?_
     refine ACode.region ?_
     refine AOps.runN hT nh 1 [2, 21] (fr' := ⟨[(2, .loc 0 0), (21, .ptr 0 0)], [[.i 0, .i 0, .int .u64 0, .i 0, .str [], .str [], .slice [] 0 .exact, .i 0, .i 0], [.i v2.kind, .str v2.text, .int .u64 v2.n, .i v2.line, .i v2.col]], [], [], 0⟩) (σ' := [psAV lo l s3]) (ob := Tt 2) (by kernel_rfl) (tt 2) ?_
     have nk7 : atomF n l s3 ≠ .out := by intro h9; simp only [h9, R.out_bind] at hX; exact hne hX.symm
     refine AOps.call (fid := 110) (cap := []) (avs := [.ptr 0 0]) (by kernel_rfl) rfl (by kernel_rfl) (by kernel_rfl) en_110 (by kernel_rfl) (ACalls.mono ((ih n (by omega)).atom s3 nk7) ?_)
     cases k7 : atomF n l s3 with
     | out => exact absurd k7 nk7
     | bad ea eb ec =>
      rintro _ _ ⟨rfl, pp, dd, rfl⟩
      simp only [k7, R.bad_bind] at hX
      subst hX
      exact PR.bad_intro (vAV := fun (e : Ex) => .agg (exAV e)) pp dd rfl rfl
     | ok v8 s9 =>
      rintro _ _ ⟨rfl, rfl⟩
      simp only [k7, R.ok_bind] at hX
      refine AOps.runN hT nh 1 [2] (fr' := ⟨[(2, .loc 0 0)], [[.i v8.op, .i v8.bin, .int .u64 v8.n, .i v8.tk, .str v8.tr, .str v8.name, .slice (exRows v8.kids) v8.kids.length .no, .i v8.line, .i v8.col], [.i v2.kind, .str v2.text, .int .u64 v2.n, .i v2.line, .i v2.col]], [], [], 0⟩) (σ' := [psAV lo l s9]) (ob := Tt 2) (by kernel_rfl) (tt 2) ?_
      refine AOps.nil ?_
      refine ACode.ret ?_
      refine retQ.ret (.agg [.i v8.op, .i v8.bin, .int .u64 v8.n, .i v8.tk, .str v8.tr, .str v8.name, .slice (exRows v8.kids) v8.kids.length .no, .i v8.line, .i v8.col]) (by kernel_rfl) ?_
      subst hX
      exact PR.ok_intro rfl rfl
    ·
     have h6k := ne_of_beq_false h6
     try simp only [h6, Bool.false_eq_true, Bool.not_true, Bool.not_false, if_true, if_false] at hX
     refine ACode.skip ?_
     refine ACode.seq ?_
     refine ACode.region ?_
     refine AOps.runN hT nh 1 [0, 2, 3, 4, 23] (fr' := ⟨[(0, .ptr 0 0), (2, .loc 0 0), (3, .loc 1 0), (4, .i (unaryS v2.text)), (23, .ptr 0 0)], [[.i 0, .i 0, .int .u64 0, .i 0, .str [], .str [], .slice [] 0 .exact, .i 0, .i 0], [.i v2.kind, .str v2.text, .int .u64 v2.n, .i v2.line, .i v2.col]], [], [], 0⟩) (σ' := [psAV lo l s3]) (ob := Tt 2) (by kernel_rfl) (tt 2) ?_
     have nk10 : nextF l s3 ≠ .out := by intro h9; simp only [h9, R.out_bind] at hX; exact hne hX.symm
     refine AOps.call (fid := 69) (cap := []) (avs := [.ptr 0 0]) (by kernel_rfl) rfl (by kernel_rfl) (by kernel_rfl) en_69 (by kernel_rfl) (ACalls.mono (p_next l lo hll s3 nk10) ?_)
     cases k10 : nextF l s3 with
     | out => exact absurd k10 nk10
     | bad ea eb ec =>
      rintro _ _ ⟨rfl, pp, dd, rfl⟩
      simp only [k10, R.bad_bind] at hX
      subst hX
      exact PR.bad_intro (vAV := fun (e : Ex) => .agg (exAV e)) pp dd rfl rfl
     | ok v11 s12 =>
      rintro _ _ ⟨rfl, rfl⟩
      simp only [k10, R.ok_bind] at hX
      refine AOps.nil ?_
      refine ACode.seq ?_
      refine ACode.region ?_
      refine AOps.runN hT nh 2 [0, 2, 3, 4, 25, 26] (fr' := ⟨[(0, .ptr 0 0), (2, .loc 0 0), (3, .loc 1 0), (4, .i (unaryS v2.text)), (25, .ptr 0 0), (26, .agg [.i v2.kind, .str v2.text, .int .u64 v2.n, .i v2.line, .i v2.col])], [[.i 0, .i 0, .int .u64 0, .i 0, .str [], .str [], .slice [] 0 .exact, .i 0, .i 0], [.i v2.kind, .str v2.text, .int .u64 v2.n, .i v2.line, .i v2.col]], [], [], 0⟩) (σ' := [psAV lo l s12]) (ob := Tt 3) (by kernel_rfl) (tt 3) ?_
      have nk13 : downF v2 s12 ≠ .out := by intro h9; simp only [h9, R.out_bind] at hX; exact hne hX.symm
      refine AOps.call (fid := 59) (cap := []) (avs := [.ptr 0 0, .agg [.i v2.kind, .str v2.text, .int .u64 v2.n, .i v2.line, .i v2.col]]) (by kernel_rfl) rfl (by kernel_rfl) (by kernel_rfl) en_59 (by kernel_rfl) (ACalls.mono (p_down l lo hll v2 s12 nk13) ?_)
      cases k13 : downF v2 s12 with
      | out => exact absurd k13 nk13
      | bad ea eb ec =>
       rintro _ _ ⟨rfl, pp, dd, rfl⟩
       simp only [k13, R.bad_bind] at hX
       subst hX
       exact PR.bad_intro (vAV := fun (e : Ex) => .agg (exAV e)) pp dd rfl rfl
      | ok v14 s15 =>
       rintro _ _ ⟨rfl, rfl⟩
       simp only [k13, R.ok_bind] at hX
       refine AOps.nil ?_
       refine ACode.seq ?_
       refine ACode.draw [(10, 2)] 2 [] 0 (by kernel_rfl) (by kernel_rfl) ?_
       refine AAny.run hT nh (fuel := 5) [0, 1, 4, 5, 6, 7] [0, 2, 28, 29, 33, 35] (fz' := true) (l' := #[true, true, false, false, true, true, true, true, false, false, false]) (fr' := ⟨[(0, .ptr 0 0), (2, .loc 0 0), (28, .i (unaryS v2.text)), (29, .ptr 0 0), (33, .i v2.line), (35, .i v2.col)], [[.i 0, .i 0, .int .u64 0, .i 0, .str [], .str [], .slice [] 0 .exact, .i 0, .i 0], [.i v2.kind, .str v2.text, .int .u64 v2.n, .i v2.line, .i v2.col]], [], [], 0⟩) (σ' := [psAV lo l s15]) (ob := Tt 7) (by kernel_rfl) (by kernel_rfl) (tt 7) ?_
       refine AAny.weak [0, 2, 28, 29, 33, 35] ?_
       refine AAny.steps (fuel := 4) [2, 9] (by kernel_rfl) rfl ⟨?_, ?_, trivial⟩
       ·
        have nk16 : prefixF n l s15 ≠ .out := by intro h9; simp only [h9, R.out_bind] at hX; exact hne hX.symm
        refine AStep.call (fuel := 4) (i := 2) (fid := 103) (cap := []) (avs := [.ptr 0 0]) rfl (by kernel_rfl) (by kernel_rfl) (by kernel_rfl) rfl (by kernel_rfl) en_103 (by kernel_rfl) (ACalls.mono ((ih n (by omega)).pre s15 nk16) ?_) (by kernel_rfl)
        cases k16 : prefixF n l s15 with
        | out => exact absurd k16 nk16
        | bad ea eb ec =>
         rintro _ _ ⟨rfl, pp, dd, rfl⟩
         simp only [k16, R.bad_bind] at hX
         subst hX
         exact PR.bad_intro (vAV := fun (e : Ex) => .agg (exAV e)) pp dd rfl rfl
        | ok v17 s18 =>
         rintro _ _ ⟨rfl, rfl⟩
         simp only [k16, R.ok_bind] at hX
         refine AAny.weak [0, 2, 28, 30, 33, 35] ?_
         refine AAny.steps (fuel := 3) [3, 9] (by kernel_rfl) rfl ⟨?_, ?_, trivial⟩
         ·
          refine AStep.one hT (nh (some 31)) rfl (by kernel_rfl) (by kernel_rfl) (v := .slice [.i v17.op, .i v17.bin, .int .u64 v17.n, .i v17.tk, .str v17.tr, .str v17.name, .slice (exRows v17.kids) v17.kids.length .no, .i v17.line, .i v17.col] 1 .exact) (fr' := ⟨[(0, .ptr 0 0), (2, .loc 0 0), (28, .i (unaryS v2.text)), (30, .agg [.i v17.op, .i v17.bin, .int .u64 v17.n, .i v17.tk, .str v17.tr, .str v17.name, .slice (exRows v17.kids) v17.kids.length .no, .i v17.line, .i v17.col]), (33, .i v2.line), (35, .i v2.col)], [[.i 0, .i 0, .int .u64 0, .i 0, .str [], .str [], .slice [] 0 .exact, .i 0, .i 0], [.i v2.kind, .str v2.text, .int .u64 v2.n, .i v2.line, .i v2.col]], [], [], 0⟩) (σ' := [psAV lo l s18]) (ob := Tt 1) (by kernel_rfl) (by kernel_rfl) trivial ?_ (by kernel_rfl)
          refine AAny.run hT nh (fuel := 0) [8, 9, 10] [0, 2, 5] (fz' := false) (l' := #[true, true, true, true, true, true, true, true, true, true, true]) (fr' := ⟨[(0, .ptr 0 0), (2, .loc 0 0), (5, .loc 2 0)], [[.i 0, .i 0, .int .u64 0, .i 0, .str [], .str [], .slice [] 0 .exact, .i 0, .i 0], [.i v2.kind, .str v2.text, .int .u64 v2.n, .i v2.line, .i v2.col], [.i (unaryS v2.text), .i 0, .int .u64 0, .i 0, .str [], .str [], .slice [.i v17.op, .i v17.bin, .int .u64 v17.n, .i v17.tk, .str v17.tr, .str v17.name, .slice (exRows v17.kids) v17.kids.length .no, .i v17.line, .i v17.col] 1 .exact, .i v2.line, .i v2.col]], [], [], 0⟩) (σ' := [psAV lo l s18]) (ob := Tt 4) (by kernel_rfl) (by kernel_rfl) (tt 4) ?_
          refine AAny.done (by kernel_rfl) ?_
          rw [show ([.i v17.op, .i v17.bin, .int .u64 v17.n, .i v17.tk, .str v17.tr, .str v17.name, .slice (exRows v17.kids) v17.kids.length .no, .i v17.line, .i v17.col] : List AV) = exRows [v17] from (exRows_one v17).symm]
          refine ACode.seq ?_
          replace hX := upF_bind hne hX
          obtain ⟨hdp, hX⟩ := hX
          refine ACode.run hT nh [2, 5] (fr' := ⟨[(2, .loc 0 0), (5, .loc 2 0)], [[.i 0, .i 0, .int .u64 0, .i 0, .str [], .str [], .slice [] 0 .exact, .i 0, .i 0], [.i v2.kind, .str v2.text, .int .u64 v2.n, .i v2.line, .i v2.col], [.i (unaryS v2.text), .i 0, .int .u64 0, .i 0, .str [], .str [], .slice (exRows [v17]) 1 .exact, .i v2.line, .i v2.col]], [], [], 0⟩) (σ' := [[.slice (toksAV l) l.length lo, .i (s18.pos : Int), .i (IntKind.i64.wrap (s18.dep - 1)), .i 0, .i 0, .i 0]]) (ob := Tt 9) (by kernel_rfl) (tt 9) ?_
          rw [IntWalk.i64_in (s18.dep - 1) (by omega)]
          refine ACode.seq ?_
          refine ACode.run hT nh [2] (fr' := ⟨[(2, .loc 0 0)], [[.i (unaryS v2.text), .i 0, .int .u64 0, .i 0, .str [], .str [], .slice (exRows [v17]) 1 .exact, .i v2.line, .i v2.col], [.i v2.kind, .str v2.text, .int .u64 v2.n, .i v2.line, .i v2.col], [.i (unaryS v2.text), .i 0, .int .u64 0, .i 0, .str [], .str [], .slice (exRows [v17]) 1 .exact, .i v2.line, .i v2.col]], [], [], 0⟩) (σ' := [[.slice (toksAV l) l.length lo, .i (s18.pos : Int), .i (s18.dep - 1), .i 0, .i 0, .i 0]]) (ob := Tt 3) (by kernel_rfl) (tt 3) ?_
          refine ACode.ret ?_
          refine retQ.ret (.agg [.i (unaryS v2.text), .i 0, .int .u64 0, .i 0, .str [], .str [], .slice (exRows [v17]) 1 .exact, .i v2.line, .i v2.col]) (by kernel_rfl) ?_
          subst hX
          exact PR.ok_intro rfl rfl
         ·
          refine AStep.one hT (nh (some 5)) rfl (by kernel_rfl) (by kernel_rfl) (v := .loc 2 0) (fr' := ⟨[(0, .ptr 0 0), (2, .loc 0 0), (28, .i (unaryS v2.text)), (30, .agg [.i v17.op, .i v17.bin, .int .u64 v17.n, .i v17.tk, .str v17.tr, .str v17.name, .slice (exRows v17.kids) v17.kids.length .no, .i v17.line, .i v17.col]), (33, .i v2.line), (35, .i v2.col)], [[.i 0, .i 0, .int .u64 0, .i 0, .str [], .str [], .slice [] 0 .exact, .i 0, .i 0], [.i v2.kind, .str v2.text, .int .u64 v2.n, .i v2.line, .i v2.col], [.i 0, .i 0, .int .u64 0, .i 0, .str [], .str [], .slice [] 0 .exact, .i 0, .i 0]], [], [], 0⟩) (σ' := [psAV lo l s18]) (ob := Tt 1) (by kernel_rfl) (by kernel_rfl) trivial ?_ (by kernel_rfl)
          refine AAny.run hT nh (fuel := 0) [3, 8, 10] [0, 2, 5] (fz' := false) (l' := #[true, true, true, true, true, true, true, true, true, true, true]) (fr' := ⟨[(0, .ptr 0 0), (2, .loc 0 0), (5, .loc 2 0)], [[.i 0, .i 0, .int .u64 0, .i 0, .str [], .str [], .slice [] 0 .exact, .i 0, .i 0], [.i v2.kind, .str v2.text, .int .u64 v2.n, .i v2.line, .i v2.col], [.i (unaryS v2.text), .i 0, .int .u64 0, .i 0, .str [], .str [], .slice [.i v17.op, .i v17.bin, .int .u64 v17.n, .i v17.tk, .str v17.tr, .str v17.name, .slice (exRows v17.kids) v17.kids.length .no, .i v17.line, .i v17.col] 1 .exact, .i v2.line, .i v2.col]], [], [], 0⟩) (σ' := [psAV lo l s18]) (ob := Tt 4) (by kernel_rfl) (by kernel_rfl) (tt 4) ?_
          refine AAny.done (by kernel_rfl) ?_
          rw [show ([.i v17.op, .i v17.bin, .int .u64 v17.n, .i v17.tk, .str v17.tr, .str v17.name, .slice (exRows v17.kids) v17.kids.length .no, .i v17.line, .i v17.col] : List AV) = exRows [v17] from (exRows_one v17).symm]
          refine ACode.seq ?_
          replace hX := upF_bind hne hX
          obtain ⟨hdp, hX⟩ := hX
          refine ACode.run hT nh [2, 5] (fr' := ⟨[(2, .loc 0 0), (5, .loc 2 0)], [[.i 0, .i 0, .int .u64 0, .i 0, .str [], .str [], .slice [] 0 .exact, .i 0, .i 0], [.i v2.kind, .str v2.text, .int .u64 v2.n, .i v2.line, .i v2.col], [.i (unaryS v2.text), .i 0, .int .u64 0, .i 0, .str [], .str [], .slice (exRows [v17]) 1 .exact, .i v2.line, .i v2.col]], [], [], 0⟩) (σ' := [[.slice (toksAV l) l.length lo, .i (s18.pos : Int), .i (IntKind.i64.wrap (s18.dep - 1)), .i 0, .i 0, .i 0]]) (ob := Tt 9) (by kernel_rfl) (tt 9) ?_
          rw [IntWalk.i64_in (s18.dep - 1) (by omega)]
          refine ACode.seq ?_
          refine ACode.run hT nh [2] (fr' := ⟨[(2, .loc 0 0)], [[.i (unaryS v2.text), .i 0, .int .u64 0, .i 0, .str [], .str [], .slice (exRows [v17]) 1 .exact, .i v2.line, .i v2.col], [.i v2.kind, .str v2.text, .int .u64 v2.n, .i v2.line, .i v2.col], [.i (unaryS v2.text), .i 0, .int .u64 0, .i 0, .str [], .str [], .slice (exRows [v17]) 1 .exact, .i v2.line, .i v2.col]], [], [], 0⟩) (σ' := [[.slice (toksAV l) l.length lo, .i (s18.pos : Int), .i (s18.dep - 1), .i 0, .i 0, .i 0]]) (ob := Tt 3) (by kernel_rfl) (tt 3) ?_
          refine ACode.ret ?_
          refine retQ.ret (.agg [.i (unaryS v2.text), .i 0, .int .u64 0, .i 0, .str [], .str [], .slice (exRows [v17]) 1 .exact, .i v2.line, .i v2.col]) (by kernel_rfl) ?_
          subst hX
          exact PR.ok_intro rfl rfl
       ·
        refine AStep.one hT (nh (some 5)) rfl (by kernel_rfl) (by kernel_rfl) (v := .loc 2 0) (fr' := ⟨[(0, .ptr 0 0), (2, .loc 0 0), (28, .i (unaryS v2.text)), (29, .ptr 0 0), (33, .i v2.line), (35, .i v2.col)], [[.i 0, .i 0, .int .u64 0, .i 0, .str [], .str [], .slice [] 0 .exact, .i 0, .i 0], [.i v2.kind, .str v2.text, .int .u64 v2.n, .i v2.line, .i v2.col], [.i 0, .i 0, .int .u64 0, .i 0, .str [], .str [], .slice [] 0 .exact, .i 0, .i 0]], [], [], 0⟩) (σ' := [psAV lo l s15]) (ob := Tt 1) (by kernel_rfl) (by kernel_rfl) trivial ?_ (by kernel_rfl)
        have nk19 : prefixF n l s15 ≠ .out := by intro h9; simp only [h9, R.out_bind] at hX; exact hne hX.symm
        refine AAny.call (fuel := 3) (i := 2) (fid := 103) (cap := []) (avs := [.ptr 0 0]) rfl (by kernel_rfl) (by kernel_rfl) (by kernel_rfl) (by kernel_rfl) rfl (by kernel_rfl) en_103 (by kernel_rfl) (ACalls.mono ((ih n (by omega)).pre s15 nk19) ?_) (by kernel_rfl)
        cases k19 : prefixF n l s15 with
        | out => exact absurd k19 nk19
        | bad ea eb ec =>
         rintro _ _ ⟨rfl, pp, dd, rfl⟩
         simp only [k19, R.bad_bind] at hX
         subst hX
         exact PR.bad_intro (vAV := fun (e : Ex) => .agg (exAV e)) pp dd rfl rfl
        | ok v20 s21 =>
         rintro _ _ ⟨rfl, rfl⟩
         simp only [k19, R.ok_bind] at hX
         refine AAny.run hT nh (fuel := 0) [3, 8, 10] [0, 2, 5] (fz' := false) (l' := #[true, true, true, true, true, true, true, true, true, true, true]) (fr' := ⟨[(0, .ptr 0 0), (2, .loc 0 0), (5, .loc 2 0)], [[.i 0, .i 0, .int .u64 0, .i 0, .str [], .str [], .slice [] 0 .exact, .i 0, .i 0], [.i v2.kind, .str v2.text, .int .u64 v2.n, .i v2.line, .i v2.col], [.i (unaryS v2.text), .i 0, .int .u64 0, .i 0, .str [], .str [], .slice [.i v20.op, .i v20.bin, .int .u64 v20.n, .i v20.tk, .str v20.tr, .str v20.name, .slice (exRows v20.kids) v20.kids.length .no, .i v20.line, .i v20.col] 1 .exact, .i v2.line, .i v2.col]], [], [], 0⟩) (σ' := [psAV lo l s21]) (ob := Tt 4) (by kernel_rfl) (by kernel_rfl) (tt 4) ?_
         refine AAny.done (by kernel_rfl) ?_
         rw [show ([.i v20.op, .i v20.bin, .int .u64 v20.n, .i v20.tk, .str v20.tr, .str v20.name, .slice (exRows v20.kids) v20.kids.length .no, .i v20.line, .i v20.col] : List AV) = exRows [v20] from (exRows_one v20).symm]
         refine ACode.seq ?_
         replace hX := upF_bind hne hX
         obtain ⟨hdp, hX⟩ := hX
         refine ACode.run hT nh [2, 5] (fr' := ⟨[(2, .loc 0 0), (5, .loc 2 0)], [[.i 0, .i 0, .int .u64 0, .i 0, .str [], .str [], .slice [] 0 .exact, .i 0, .i 0], [.i v2.kind, .str v2.text, .int .u64 v2.n, .i v2.line, .i v2.col], [.i (unaryS v2.text), .i 0, .int .u64 0, .i 0, .str [], .str [], .slice (exRows [v20]) 1 .exact, .i v2.line, .i v2.col]], [], [], 0⟩) (σ' := [[.slice (toksAV l) l.length lo, .i (s21.pos : Int), .i (IntKind.i64.wrap (s21.dep - 1)), .i 0, .i 0, .i 0]]) (ob := Tt 9) (by kernel_rfl) (tt 9) ?_
         rw [IntWalk.i64_in (s21.dep - 1) (by omega)]
         refine ACode.seq ?_
         refine ACode.run hT nh [2] (fr' := ⟨[(2, .loc 0 0)], [[.i (unaryS v2.text), .i 0, .int .u64 0, .i 0, .str [], .str [], .slice (exRows [v20]) 1 .exact, .i v2.line, .i v2.col], [.i v2.kind, .str v2.text, .int .u64 v2.n, .i v2.line, .i v2.col], [.i (unaryS v2.text), .i 0, .int .u64 0, .i 0, .str [], .str [], .slice (exRows [v20]) 1 .exact, .i v2.line, .i v2.col]], [], [], 0⟩) (σ' := [[.slice (toksAV l) l.length lo, .i (s21.pos : Int), .i (s21.dep - 1), .i 0, .i 0, .i 0]]) (ob := Tt 3) (by kernel_rfl) (tt 3) ?_
         refine ACode.ret ?_
         refine retQ.ret (.agg [.i (unaryS v2.text), .i 0, .int .u64 0, .i 0, .str [], .str [], .slice (exRows [v20]) 1 .exact, .i v2.line, .i v2.col]) (by kernel_rfl) ?_
         subst hX
         exact PR.ok_intro rfl rfl
   ·
    have h5k := h5; simp only [Bool.and_eq_true, Bool.or_eq_true, Bool.and_eq_false_iff, Bool.or_eq_false_iff, decide_eq_true_eq, decide_eq_false_iff_not, beq_iff_eq, bne_iff_ne, ne_eq, Bool.not_eq_true', Bool.not_eq_false', beq_eq_false_iff_ne, bne_eq_false_iff_eq] at h5k
    try simp only [h5, Bool.false_eq_true, Bool.not_true, Bool.not_false, if_true, if_false] at hX
    refine ACode.skip ?_
    refine ACode.seq ?_
    refine ACode.seq ?_
    refine ACode.run hT nh [0, 2, 3, 4, 20] (fr' := ⟨[(0, .ptr 0 0), (2, .loc 0 0), (3, .loc 1 0), (4, .i 0), (20, .bool true)], [[.i 0, .i 0, .int .u64 0, .i 0, .str [], .str [], .slice [] 0 .exact, .i 0, .i 0], [.i v2.kind, .str v2.text, .int .u64 v2.n, .i v2.line, .i v2.col]], [], [], 0⟩) (σ' := [psAV lo l s3]) (ob := Tt 3) (by kernel_rfl) (tt 3) ?_
    refine ACode.cond (t := true) (by kernel_rfl) (fun _ => ?_) (fun h => Bool.noConfusion h)
    refine ACode.seq ?_
    refine ACode.region ?_
    refine AOps.runN hT nh 1 [2, 21] (fr' := ⟨[(2, .loc 0 0), (21, .ptr 0 0)], [[.i 0, .i 0, .int .u64 0, .i 0, .str [], .str [], .slice [] 0 .exact, .i 0, .i 0], [.i v2.kind, .str v2.text, .int .u64 v2.n, .i v2.line, .i v2.col]], [], [], 0⟩) (σ' := [psAV lo l s3]) (ob := Tt 2) (by kernel_rfl) (tt 2) ?_
    have nk22 : atomF n l s3 ≠ .out := by intro h9; simp only [h9, R.out_bind] at hX; exact hne hX.symm
    refine AOps.call (fid := 110) (cap := []) (avs := [.ptr 0 0]) (by kernel_rfl) rfl (by kernel_rfl) (by kernel_rfl) en_110 (by kernel_rfl) (ACalls.mono ((ih n (by omega)).atom s3 nk22) ?_)
    cases k22 : atomF n l s3 with
    | out => exact absurd k22 nk22
    | bad ea eb ec =>
     rintro _ _ ⟨rfl, pp, dd, rfl⟩
     simp only [k22, R.bad_bind] at hX
     subst hX
     exact PR.bad_intro (vAV := fun (e : Ex) => .agg (exAV e)) pp dd rfl rfl
    | ok v23 s24 =>
     rintro _ _ ⟨rfl, rfl⟩
     simp only [k22, R.ok_bind] at hX
     refine AOps.runN hT nh 1 [2] (fr' := ⟨[(2, .loc 0 0)], [[.i v23.op, .i v23.bin, .int .u64 v23.n, .i v23.tk, .str v23.tr, .str v23.name, .slice (exRows v23.kids) v23.kids.length .no, .i v23.line, .i v23.col], [.i v2.kind, .str v2.text, .int .u64 v2.n, .i v2.line, .i v2.col]], [], [], 0⟩) (σ' := [psAV lo l s24]) (ob := Tt 2) (by kernel_rfl) (tt 2) ?_
     refine AOps.nil ?_
     refine ACode.ret ?_
     refine retQ.ret (.agg [.i v23.op, .i v23.bin, .int .u64 v23.n, .i v23.tk, .str v23.tr, .str v23.name, .slice (exRows v23.kids) v23.kids.length .no, .i v23.line, .i v23.col]) (by kernel_rfl) ?_
     subst hX
     exact PR.ok_intro rfl rfl

theorem signsS_len (v : Nat) : (signsS v).length < 4294967281 := by
  unfold signsS
  split
  ·decide
  ·split <;> decide
theorem p_chain (l : List Tok) (lo : Own) (hll : l.length ≤ 100000) (n : Nat) (v : Nat) (s : PS) (ih : ∀ k, k < n + 1 → ExOK l lo k) (hne : chainF (n + 1) l v s ≠ .out) : ACalls Tryd.prog 93 [.ptr 0 0, .i (v : Int)] [psAV lo l s] (PR (fun (e : Ex) => .agg (exAV e)) lo l (chainF (n + 1) l v s)) := by
  generalize hX : chainF (n + 1) l v s = X at hne ⊢
  refine ACalls.soft ?_
  rw [chainF] at hX
  have hv3 : ¬ 3 < v := by intro h9; rw [if_pos h9] at hX; exact hne hX.symm
  rw [if_neg hv3] at hX
  refine ACalls.enter hT Tryd.func93 rfl (by kernel_rfl) ?_
  refine ACode.seq ?_
  refine ACode.run hT nh [0, 1, 4] (fr' := ⟨[(0, .ptr 0 0), (1, .i (v : Int)), (4, .loc 0 0)], [[.i 0, .i 0, .int .u64 0, .i 0, .str [], .str [], .slice [] 0 .exact, .i 0, .i 0]], [], [], 0⟩) (σ' := [psAV lo l s]) (ob := Tt 2) (by kernel_rfl) (tt 2) ?_
  refine ACode.seq ?_
  refine ACode.seq ?_
  refine ACode.run hT nh [0, 1, 4, 8] (fr' := ⟨[(0, .ptr 0 0), (1, .i (v : Int)), (4, .loc 0 0), (8, .bool ((v : Int) == 3))], [[.i 0, .i 0, .int .u64 0, .i 0, .str [], .str [], .slice [] 0 .exact, .i 0, .i 0]], [], [], 0⟩) (σ' := [psAV lo l s]) (ob := Tt 3) (by kernel_rfl) (tt 3) ?_
  refine ACode.cond (t := (v : Int) == 3) (by kernel_rfl) (fun h1 => ?_) (fun h1 => ?_)
  ·
   have h1k := eq_of_beq h1
   try simp only [h1, Bool.false_eq_true, Bool.not_true, Bool.not_false, if_true, if_false] at hX
   refine ACode.seq ?_
   refine ACode.region ?_
   refine AOps.runN hT nh 1 [4, 9] (fr' := ⟨[(4, .loc 0 0), (9, .ptr 0 0)], [[.i 0, .i 0, .int .u64 0, .i 0, .str [], .str [], .slice [] 0 .exact, .i 0, .i 0]], [], [], 0⟩) (σ' := [psAV lo l s]) (ob := Tt 2) (by kernel_rfl) (tt 2) ?_
   have nk2 : prefixF n l s ≠ .out := by intro h9; simp only [h9, R.out_bind] at hX; exact hne hX.symm
   refine AOps.call (fid := 103) (cap := []) (avs := [.ptr 0 0]) (by kernel_rfl) rfl (by kernel_rfl) (by kernel_rfl) en_103 (by kernel_rfl) (ACalls.mono ((ih n (by omega)).pre s nk2) ?_)
   cases k2 : prefixF n l s with
   | out => exact absurd k2 nk2
   | bad ea eb ec =>
    rintro _ _ ⟨rfl, pp, dd, rfl⟩
    simp only [k2, R.bad_bind] at hX
    subst hX
    exact PR.bad_intro (vAV := fun (e : Ex) => .agg (exAV e)) pp dd rfl rfl
   | ok v3 s4 =>
    rintro _ _ ⟨rfl, rfl⟩
    simp only [k2, R.ok_bind] at hX
    refine AOps.runN hT nh 1 [4] (fr' := ⟨[(4, .loc 0 0)], [[.i v3.op, .i v3.bin, .int .u64 v3.n, .i v3.tk, .str v3.tr, .str v3.name, .slice (exRows v3.kids) v3.kids.length .no, .i v3.line, .i v3.col]], [], [], 0⟩) (σ' := [psAV lo l s4]) (ob := Tt 2) (by kernel_rfl) (tt 2) ?_
    refine AOps.nil ?_
    refine ACode.ret ?_
    refine retQ.ret (.agg [.i v3.op, .i v3.bin, .int .u64 v3.n, .i v3.tk, .str v3.tr, .str v3.name, .slice (exRows v3.kids) v3.kids.length .no, .i v3.line, .i v3.col]) (by kernel_rfl) ?_
    subst hX
    exact PR.ok_intro rfl rfl
  ·
   have h1k := ne_of_beq_false h1
   try simp only [h1, Bool.false_eq_true, Bool.not_true, Bool.not_false, if_true, if_false] at hX
   refine ACode.skip ?_
   refine ACode.seq ?_
   refine ACode.region ?_
   refine AOps.runN hT nh 3 [0, 1, 4, 11, 13] (fr' := ⟨[(0, .ptr 0 0), (1, .i (v : Int)), (4, .loc 0 0), (11, .ptr 0 0), (13, .i (IntKind.i64.wrap ((v : Int) + 1)))], [[.i 0, .i 0, .int .u64 0, .i 0, .str [], .str [], .slice [] 0 .exact, .i 0, .i 0]], [], [], 0⟩) (σ' := [psAV lo l s]) (ob := Tt 4) (by kernel_rfl) (tt 4) ?_
   rw [IntWalk.i64_in ((v : Int) + 1) (by omega)]
   have nk5 : chainF n l (v + 1) s ≠ .out := by intro h9; simp only [h9, R.out_bind] at hX; exact hne hX.symm
   refine AOps.call (fid := 93) (cap := []) (avs := [.ptr 0 0, .i ((v : Int) + 1)]) (by kernel_rfl) rfl (by kernel_rfl) (by kernel_rfl) en_93 (by kernel_rfl) (ACalls.mono ((ih n (by omega)).chain (v + 1) s nk5) ?_)
   cases k5 : chainF n l (v + 1) s with
   | out => exact absurd k5 nk5
   | bad ea eb ec =>
    rintro _ _ ⟨rfl, pp, dd, rfl⟩
    simp only [k5, R.bad_bind] at hX
    subst hX
    exact PR.bad_intro (vAV := fun (e : Ex) => .agg (exAV e)) pp dd rfl rfl
   | ok v6 s7 =>
    rintro _ _ ⟨rfl, rfl⟩
    simp only [k5, R.ok_bind] at hX
    refine AOps.runN hT nh 2 [0, 1, 4, 5] (fr' := ⟨[(0, .ptr 0 0), (1, .i (v : Int)), (4, .loc 0 0), (5, .loc 1 0)], [[.i 0, .i 0, .int .u64 0, .i 0, .str [], .str [], .slice [] 0 .exact, .i 0, .i 0], [.i v6.op, .i v6.bin, .int .u64 v6.n, .i v6.tk, .str v6.tr, .str v6.name, .slice (exRows v6.kids) v6.kids.length .no, .i v6.line, .i v6.col]], [], [], 0⟩) (σ' := [psAV lo l s7]) (ob := Tt 3) (by kernel_rfl) (tt 3) ?_
    refine AOps.nil ?_
    refine ACode.block ?_
    refine ACode.loop [0, 1, 4, 5] 2 0 (fun n0 fr σ' => ∃ (m : Nat), ∃ (e : Ex), ∃ (s1 : PS), fr = ⟨[(0, .ptr 0 0), (1, .i (v : Int)), (4, .loc 0 0), (5, .loc 1 0)], [[.i 0, .i 0, .int .u64 0, .i 0, .str [], .str [], .slice [] 0 .exact, .i 0, .i 0], [.i e.op, .i e.bin, .int .u64 e.n, .i e.tk, .str e.tr, .str e.name, .slice (exRows e.kids) e.kids.length .no, .i e.line, .i e.col]], [], [], 0⟩ ∧ σ' = [psAV lo l s1] ∧ (m ≤ n ∧ chainLoopF m l v e s1 = X) ∧ n0 = m + 1) _ (by kernel_rfl) ⟨n, v6, s7, rfl, rfl, ⟨Nat.le_refl _, hX⟩, rfl⟩ ?_
    rintro n0 fr σ' ⟨m, e, s1, rfl, rfl, ⟨hm, hX⟩, rfl⟩
    have hm0 : m ≠ 0 := by rintro rfl; exact hne hX.symm
    obtain ⟨m, rfl⟩ : ∃ k, m = k + 1 := ⟨m - 1, by omega⟩
    rw [chainLoopF] at hX
    refine ACode.block ?_
    refine ACode.seq ?_
    refine ACode.region ?_
    refine AOps.runN hT nh 1 [0, 1, 4, 5, 15] (fr' := ⟨[(0, .ptr 0 0), (1, .i (v : Int)), (4, .loc 0 0), (5, .loc 1 0), (15, .ptr 0 0)], [[.i 0, .i 0, .int .u64 0, .i 0, .str [], .str [], .slice [] 0 .exact, .i 0, .i 0], [.i e.op, .i e.bin, .int .u64 e.n, .i e.tk, .str e.tr, .str e.name, .slice (exRows e.kids) e.kids.length .no, .i e.line, .i e.col]], [], [], 0⟩) (σ' := [psAV lo l s1]) (ob := Tt 2) (by kernel_rfl) (tt 2) ?_
    have nk8 : peekF l s1 ≠ .out := by intro h9; simp only [h9, R.out_bind] at hX; exact hne hX.symm
    refine AOps.call (fid := 40) (cap := []) (avs := [.ptr 0 0]) (by kernel_rfl) rfl (by kernel_rfl) (by kernel_rfl) en_40 (by kernel_rfl) (ACalls.mono (p_peek l lo hll s1 nk8) ?_)
    cases k8 : peekF l s1 with
    | out => exact absurd k8 nk8
    | bad ea eb ec =>
     rintro _ _ ⟨rfl, pp, dd, rfl⟩
     simp only [k8, R.bad_bind] at hX
     subst hX
     exact PR.bad_intro (vAV := fun (e : Ex) => .agg (exAV e)) pp dd rfl rfl
    | ok v9 s10 =>
     rintro _ _ ⟨rfl, rfl⟩
     simp only [k8, R.ok_bind] at hX
     have hx8 : ¬ 8192 < v9.text.length := by intro h9; rw [if_pos h9] at hX; exact hne hX.symm
     rw [if_neg hx8] at hX
     refine AOps.runN hT nh 2 [0, 1, 4, 5, 6] (fr' := ⟨[(0, .ptr 0 0), (1, .i (v : Int)), (4, .loc 0 0), (5, .loc 1 0), (6, .loc 2 0)], [[.i 0, .i 0, .int .u64 0, .i 0, .str [], .str [], .slice [] 0 .exact, .i 0, .i 0], [.i e.op, .i e.bin, .int .u64 e.n, .i e.tk, .str e.tr, .str e.name, .slice (exRows e.kids) e.kids.length .no, .i e.line, .i e.col], [.i v9.kind, .str v9.text, .int .u64 v9.n, .i v9.line, .i v9.col]], [], [], 0⟩) (σ' := [psAV lo l s10]) (ob := Tt 3) (by kernel_rfl) (tt 3) ?_
     refine AOps.nil ?_
     refine ACode.seq ?_
     refine ACode.seq ?_
     refine ACode.meet ⟨[(0, .ptr 0 0), (1, .i (v : Int)), (4, .loc 0 0), (5, .loc 1 0), (6, .loc 2 0), (29, .bool ((v9.kind != 5) || (!(Lib.contains (signsS v) (([32] ++ v9.text) ++ [32])))))], [[.i 0, .i 0, .int .u64 0, .i 0, .str [], .str [], .slice [] 0 .exact, .i 0, .i 0], [.i e.op, .i e.bin, .int .u64 e.n, .i e.tk, .str e.tr, .str e.name, .slice (exRows e.kids) e.kids.length .no, .i e.line, .i e.col], [.i v9.kind, .str v9.text, .int .u64 v9.n, .i v9.line, .i v9.col]], [], [], 0⟩ [psAV lo l s10] ?_ ?_
     ·
      refine ACode.draw [] 3 [] 0 (by kernel_rfl) (by kernel_rfl) ?_
      refine AAny.run hT nh (fuel := 9) [0, 1, 2, 3] [0, 1, 4, 5, 6, 20] (fz' := true) (l' := #[true, true, true, true, false, false, false, false, false, false, false, false, false]) (fr' := ⟨[(0, .ptr 0 0), (1, .i (v : Int)), (4, .loc 0 0), (5, .loc 1 0), (6, .loc 2 0), (20, .bool (v9.kind != 5))], [[.i 0, .i 0, .int .u64 0, .i 0, .str [], .str [], .slice [] 0 .exact, .i 0, .i 0], [.i e.op, .i e.bin, .int .u64 e.n, .i e.tk, .str e.tr, .str e.name, .slice (exRows e.kids) e.kids.length .no, .i e.line, .i e.col], [.i v9.kind, .str v9.text, .int .u64 v9.n, .i v9.line, .i v9.col]], [], [], 0⟩) (σ' := [psAV lo l s10]) (ob := Tt 5) (by kernel_rfl) (by kernel_rfl) (tt 5) ?_
      cases h11 : (v9.kind != 5)
      ·
       have h11k := h11; simp only [Bool.and_eq_true, Bool.or_eq_true, Bool.and_eq_false_iff, Bool.or_eq_false_iff, decide_eq_true_eq, decide_eq_false_iff_not, beq_iff_eq, bne_iff_ne, ne_eq, Bool.not_eq_true', Bool.not_eq_false', beq_eq_false_iff_ne, bne_eq_false_iff_eq] at h11k
       try simp only [h11, Bool.false_eq_true, Bool.not_true, Bool.not_false, if_true, if_false] at hX
       refine AAny.run hT nh (fuel := 4) [4, 6, 7, 8, 9] [0, 1, 4, 5, 6, 20, 21, 26] (fz' := true) (l' := #[true, true, true, true, true, false, true, true, true, true, false, false, false]) (fr' := ⟨[(0, .ptr 0 0), (1, .i (v : Int)), (4, .loc 0 0), (5, .loc 1 0), (6, .loc 2 0), (20, .bool false), (21, .i (v : Int)), (26, .str (([32] ++ v9.text) ++ [32]))], [[.i 0, .i 0, .int .u64 0, .i 0, .str [], .str [], .slice [] 0 .exact, .i 0, .i 0], [.i e.op, .i e.bin, .int .u64 e.n, .i e.tk, .str e.tr, .str e.name, .slice (exRows e.kids) e.kids.length .no, .i e.line, .i e.col], [.i v9.kind, .str v9.text, .int .u64 v9.n, .i v9.line, .i v9.col]], [], [], 0⟩) (σ' := [psAV lo l s10]) (ob := True ∧ True ∧ True ∧ (((([32] : List UInt8).length + (v9.text : List UInt8).length : Nat) : Int) ≤ 9223372036854775807) ∧ ((((([32] ++ v9.text) : List UInt8).length + ([32] : List UInt8).length : Nat) : Int) ≤ 9223372036854775807) ∧ True) (by kernel_rfl) (by kernel_rfl) ⟨trivial, trivial, trivial, (by first | omega | (simp only [List.length_append, List.length_cons, List.length_nil]; omega)), (by first | omega | (simp only [List.length_append, List.length_cons, List.length_nil]; omega)), trivial⟩ ?_
       refine AAny.call (fuel := 3) (i := 5) (fid := 104) (cap := []) (avs := [.i (v : Int)]) rfl (by kernel_rfl) (by kernel_rfl) (by kernel_rfl) (by kernel_rfl) rfl (by kernel_rfl) en_104 (by kernel_rfl) (ACalls.mono (signs_walk v (by omega) _) ?_) (by kernel_rfl)
       rintro _ _ ⟨rfl, rfl⟩
       refine AAny.call (fuel := 2) (i := 10) (fid := 22) (cap := []) (avs := [.str (signsS v), .str (([32] ++ v9.text) ++ [32])]) rfl (by kernel_rfl) (by kernel_rfl) (by kernel_rfl) (by kernel_rfl) rfl (by kernel_rfl) en_22 (by kernel_rfl) (ACalls.mono (contains_walk (signsS v) (([32] ++ v9.text) ++ [32]) (signsS_len v) _) ?_) (by kernel_rfl)
       rintro _ _ ⟨rfl, rfl⟩
       refine AAny.run hT nh (fuel := 0) [11, 12] [0, 1, 4, 5, 6, 29] (fz' := false) (l' := #[true, true, true, true, true, true, true, true, true, true, true, true, true]) (fr' := ⟨[(0, .ptr 0 0), (1, .i (v : Int)), (4, .loc 0 0), (5, .loc 1 0), (6, .loc 2 0), (29, .bool (!(Lib.contains (signsS v) (([32] ++ v9.text) ++ [32]))))], [[.i 0, .i 0, .int .u64 0, .i 0, .str [], .str [], .slice [] 0 .exact, .i 0, .i 0], [.i e.op, .i e.bin, .int .u64 e.n, .i e.tk, .str e.tr, .str e.name, .slice (exRows e.kids) e.kids.length .no, .i e.line, .i e.col], [.i v9.kind, .str v9.text, .int .u64 v9.n, .i v9.line, .i v9.col]], [], [], 0⟩) (σ' := [psAV lo l s10]) (ob := Tt 3) (by kernel_rfl) (by kernel_rfl) (tt 3) ?_
       refine AAny.done (by kernel_rfl) ?_
       exact ⟨rfl, rfl⟩
      ·
       have h11k := h11; simp only [Bool.and_eq_true, Bool.or_eq_true, Bool.and_eq_false_iff, Bool.or_eq_false_iff, decide_eq_true_eq, decide_eq_false_iff_not, beq_iff_eq, bne_iff_ne, ne_eq, Bool.not_eq_true', Bool.not_eq_false', beq_eq_false_iff_ne, bne_eq_false_iff_eq] at h11k
       try simp only [h11, Bool.false_eq_true, Bool.not_true, Bool.not_false, if_true, if_false] at hX
       refine AAny.run hT nh (fuel := 0) [4, 6, 7, 8, 9, 5, 10, 11, 12] [0, 1, 4, 5, 6, 29] (fz' := true) (l' := #[true, true, true, true, true, true, true, true, true, true, true, true, true]) (fr' := ⟨[(0, .ptr 0 0), (1, .i (v : Int)), (4, .loc 0 0), (5, .loc 1 0), (6, .loc 2 0), (29, .bool true)], [[.i 0, .i 0, .int .u64 0, .i 0, .str [], .str [], .slice [] 0 .exact, .i 0, .i 0], [.i e.op, .i e.bin, .int .u64 e.n, .i e.tk, .str e.tr, .str e.name, .slice (exRows e.kids) e.kids.length .no, .i e.line, .i e.col], [.i v9.kind, .str v9.text, .int .u64 v9.n, .i v9.line, .i v9.col]], [], [], 0⟩) (σ' := [psAV lo l s10]) (ob := Tt 10) (by kernel_rfl) (by kernel_rfl) (tt 10) ?_
       refine AAny.done (by kernel_rfl) ?_
       exact ⟨rfl, rfl⟩
     refine ACode.cond (t := (v9.kind != 5) || (!(Lib.contains (signsS v) (([32] ++ v9.text) ++ [32])))) (by kernel_rfl) (fun h12 => ?_) (fun h12 => ?_)
     ·
      have h12k := h12; simp only [Bool.and_eq_true, Bool.or_eq_true, Bool.and_eq_false_iff, Bool.or_eq_false_iff, decide_eq_true_eq, decide_eq_false_iff_not, beq_iff_eq, bne_iff_ne, ne_eq, Bool.not_eq_true', Bool.not_eq_false', beq_eq_false_iff_ne, bne_eq_false_iff_eq] at h12k
      try simp only [h12, Bool.false_eq_true, Bool.not_true, Bool.not_false, if_true, if_false] at hX
      refine ACode.seq ?_
      refine ACode.run hT nh [4] (fr' := ⟨[(4, .loc 0 0)], [[.i e.op, .i e.bin, .int .u64 e.n, .i e.tk, .str e.tr, .str e.name, .slice (exRows e.kids) e.kids.length .no, .i e.line, .i e.col], [.i e.op, .i e.bin, .int .u64 e.n, .i e.tk, .str e.tr, .str e.name, .slice (exRows e.kids) e.kids.length .no, .i e.line, .i e.col], [.i v9.kind, .str v9.text, .int .u64 v9.n, .i v9.line, .i v9.col]], [], [], 0⟩) (σ' := [psAV lo l s10]) (ob := Tt 3) (by kernel_rfl) (tt 3) ?_
      refine ACode.ret ?_
      refine retQ.ret (.agg [.i e.op, .i e.bin, .int .u64 e.n, .i e.tk, .str e.tr, .str e.name, .slice (exRows e.kids) e.kids.length .no, .i e.line, .i e.col]) (by kernel_rfl) ?_
      subst hX
      exact PR.ok_intro rfl rfl
     ·
      have h12k := h12; simp only [Bool.and_eq_true, Bool.or_eq_true, Bool.and_eq_false_iff, Bool.or_eq_false_iff, decide_eq_true_eq, decide_eq_false_iff_not, beq_iff_eq, bne_iff_ne, ne_eq, Bool.not_eq_true', Bool.not_eq_false', beq_eq_false_iff_ne, bne_eq_false_iff_eq] at h12k
      try simp only [h12, Bool.false_eq_true, Bool.not_true, Bool.not_false, if_true, if_false] at hX
      refine ACode.skip ?_
      refine ACode.seq ?_
      refine ACode.region ?_
      refine AOps.runN hT nh 1 [0, 1, 4, 5, 6, 31] (fr' := ⟨[(0, .ptr 0 0), (1, .i (v : Int)), (4, .loc 0 0), (5, .loc 1 0), (6, .loc 2 0), (31, .ptr 0 0)], [[.i 0, .i 0, .int .u64 0, .i 0, .str [], .str [], .slice [] 0 .exact, .i 0, .i 0], [.i e.op, .i e.bin, .int .u64 e.n, .i e.tk, .str e.tr, .str e.name, .slice (exRows e.kids) e.kids.length .no, .i e.line, .i e.col], [.i v9.kind, .str v9.text, .int .u64 v9.n, .i v9.line, .i v9.col]], [], [], 0⟩) (σ' := [psAV lo l s10]) (ob := Tt 2) (by kernel_rfl) (tt 2) ?_
      have nk13 : nextF l s10 ≠ .out := by intro h9; simp only [h9, R.out_bind] at hX; exact hne hX.symm
      refine AOps.call (fid := 69) (cap := []) (avs := [.ptr 0 0]) (by kernel_rfl) rfl (by kernel_rfl) (by kernel_rfl) en_69 (by kernel_rfl) (ACalls.mono (p_next l lo hll s10 nk13) ?_)
      cases k13 : nextF l s10 with
      | out => exact absurd k13 nk13
      | bad ea eb ec =>
       rintro _ _ ⟨rfl, pp, dd, rfl⟩
       simp only [k13, R.bad_bind] at hX
       subst hX
       exact PR.bad_intro (vAV := fun (e : Ex) => .agg (exAV e)) pp dd rfl rfl
      | ok v14 s15 =>
       rintro _ _ ⟨rfl, rfl⟩
       simp only [k13, R.ok_bind] at hX
       refine AOps.nil ?_
       refine ACode.seq ?_
       refine ACode.draw [(14, 1)] 3 [] 0 (by kernel_rfl) (by kernel_rfl) ?_
       refine AAny.run hT nh (fuel := 5) [0, 1, 3, 4, 5, 6, 9, 10, 11, 12] [0, 1, 4, 5, 34, 36, 37, 39, 43, 45] (fz' := true) (l' := #[true, true, false, true, true, true, true, false, false, true, true, true, true, false, false]) (fr' := ⟨[(0, .ptr 0 0), (1, .i (v : Int)), (4, .loc 0 0), (5, .loc 1 0), (34, .str v9.text), (36, .agg [.i e.op, .i e.bin, .int .u64 e.n, .i e.tk, .str e.tr, .str e.name, .slice (exRows e.kids) e.kids.length .no, .i e.line, .i e.col]), (37, .ptr 0 0), (39, .i (IntKind.i64.wrap ((v : Int) + 1))), (43, .i v9.line), (45, .i v9.col)], [[.i 0, .i 0, .int .u64 0, .i 0, .str [], .str [], .slice [] 0 .exact, .i 0, .i 0], [.i e.op, .i e.bin, .int .u64 e.n, .i e.tk, .str e.tr, .str e.name, .slice (exRows e.kids) e.kids.length .no, .i e.line, .i e.col], [.i v9.kind, .str v9.text, .int .u64 v9.n, .i v9.line, .i v9.col]], [], [], 0⟩) (σ' := [psAV lo l s15]) (ob := Tt 11) (by kernel_rfl) (by kernel_rfl) (tt 11) ?_
       rw [IntWalk.i64_in ((v : Int) + 1) (by omega)]
       refine AAny.call (fuel := 4) (i := 2) (fid := 105) (cap := []) (avs := [.str v9.text]) rfl (by kernel_rfl) (by kernel_rfl) (by kernel_rfl) (by kernel_rfl) rfl (by kernel_rfl) en_105 (by kernel_rfl) (ACalls.mono (bin_walk v9.text _) ?_) (by kernel_rfl)
       rintro _ _ ⟨rfl, rfl⟩
       have nk16 : chainF m l (v + 1) s15 ≠ .out := by intro h9; simp only [h9, R.out_bind] at hX; exact hne hX.symm
       refine AAny.call (fuel := 3) (i := 7) (fid := 93) (cap := []) (avs := [.ptr 0 0, .i ((v : Int) + 1)]) rfl (by kernel_rfl) (by kernel_rfl) (by kernel_rfl) (by kernel_rfl) rfl (by kernel_rfl) en_93 (by kernel_rfl) (ACalls.mono ((ih m (by omega)).chain (v + 1) s15 nk16) ?_) (by kernel_rfl)
       cases k16 : chainF m l (v + 1) s15 with
       | out => exact absurd k16 nk16
       | bad ea eb ec =>
        rintro _ _ ⟨rfl, pp, dd, rfl⟩
        simp only [k16, R.bad_bind] at hX
        subst hX
        exact PR.bad_intro (vAV := fun (e : Ex) => .agg (exAV e)) pp dd rfl rfl
       | ok v17 s18 =>
        rintro _ _ ⟨rfl, rfl⟩
        simp only [k16, R.ok_bind] at hX
        refine AAny.run hT nh (fuel := 0) [8, 13, 14] [0, 1, 4, 5] (fz' := false) (l' := #[true, true, true, true, true, true, true, true, true, true, true, true, true, true, true]) (fr' := ⟨[(0, .ptr 0 0), (1, .i (v : Int)), (4, .loc 0 0), (5, .loc 1 0)], [[.i 0, .i 0, .int .u64 0, .i 0, .str [], .str [], .slice [] 0 .exact, .i 0, .i 0], [.i 9, .i (binS v9.text), .int .u64 0, .i 0, .str [], .str [], .slice [.i e.op, .i e.bin, .int .u64 e.n, .i e.tk, .str e.tr, .str e.name, .slice (exRows e.kids) e.kids.length .no, .i e.line, .i e.col, .i v17.op, .i v17.bin, .int .u64 v17.n, .i v17.tk, .str v17.tr, .str v17.name, .slice (exRows v17.kids) v17.kids.length .no, .i v17.line, .i v17.col] 2 .exact, .i v9.line, .i v9.col], [.i v9.kind, .str v9.text, .int .u64 v9.n, .i v9.line, .i v9.col]], [], [], 0⟩) (σ' := [psAV lo l s18]) (ob := Tt 4) (by kernel_rfl) (by kernel_rfl) (tt 4) ?_
        refine AAny.done (by kernel_rfl) ?_
        rw [show ([.i e.op, .i e.bin, .int .u64 e.n, .i e.tk, .str e.tr, .str e.name, .slice (exRows e.kids) e.kids.length .no, .i e.line, .i e.col, .i v17.op, .i v17.bin, .int .u64 v17.n, .i v17.tk, .str v17.tr, .str v17.name, .slice (exRows v17.kids) v17.kids.length .no, .i v17.line, .i v17.col] : List AV) = exRows [e, v17] from (exRows_two e v17).symm]
        refine ACode.softBx 1 ?_
        refine ACode.seq ?_
        refine ACode.run hT nh [0, 1, 4, 5, 48] (fr' := ⟨[(0, .ptr 0 0), (1, .i (v : Int)), (4, .loc 0 0), (5, .loc 1 0), (48, .bool ((v : Int) == 0))], [[.i 0, .i 0, .int .u64 0, .i 0, .str [], .str [], .slice [] 0 .exact, .i 0, .i 0], [.i 9, .i (binS v9.text), .int .u64 0, .i 0, .str [], .str [], .slice (exRows [e, v17]) 2 .no, .i v9.line, .i v9.col], [.i v9.kind, .str v9.text, .int .u64 v9.n, .i v9.line, .i v9.col]], [], [], 0⟩) (σ' := [psAV lo l s18]) (ob := Tt 3) (by kernel_rfl) (tt 3) ?_
        refine ACode.cond (t := (v : Int) == 0) (by kernel_rfl) (fun h19 => ?_) (fun h19 => ?_)
        ·
         have h19k := eq_of_beq h19
         try simp only [h19, Bool.false_eq_true, Bool.not_true, Bool.not_false, if_true, if_false] at hX
         refine ACode.seq ?_
         refine ACode.run hT nh [4] (fr' := ⟨[(4, .loc 0 0)], [[.i 9, .i (binS v9.text), .int .u64 0, .i 0, .str [], .str [], .slice (exRows [e, v17]) 2 .no, .i v9.line, .i v9.col], [.i 9, .i (binS v9.text), .int .u64 0, .i 0, .str [], .str [], .slice (exRows [e, v17]) 2 .no, .i v9.line, .i v9.col], [.i v9.kind, .str v9.text, .int .u64 v9.n, .i v9.line, .i v9.col]], [], [], 0⟩) (σ' := [psAV lo l s18]) (ob := Tt 3) (by kernel_rfl) (tt 3) ?_
         refine ACode.ret ?_
         refine retQ.ret (.agg [.i 9, .i (binS v9.text), .int .u64 0, .i 0, .str [], .str [], .slice (exRows [e, v17]) 2 .no, .i v9.line, .i v9.col]) (by kernel_rfl) ?_
         subst hX
         exact PR.ok_intro rfl rfl
        ·
         have h19k := ne_of_beq_false h19
         try simp only [h19, Bool.false_eq_true, Bool.not_true, Bool.not_false, if_true, if_false] at hX
         refine ACode.skip ?_
         refine ⟨by kernel_rfl, _, ?_, m, ⟨9, binS v9.text, 0, 0, [], [], [e, v17], v9.line, v9.col⟩, s18, rfl, rfl, ?_, rfl⟩
         ·omega
         ·exact ⟨by omega, hX⟩


end Go.AE

set_option linter.unusedVariables false
set_option linter.unusedSimpArgs false
set_option maxRecDepth 4000
namespace Go.AE
open Go.Proofs

theorem ex_ok (l : List Tok) (lo : Own) (hll : l.length ≤ 100000) (n : Nat) : ExOK l lo n := by
  induction n using Nat.strongRecOn with
  | _ n ih =>
   cases n with
   | zero => exact ⟨fun s h => absurd rfl h, fun v s h => absurd rfl h, fun s h => absurd rfl h, fun s h => absurd rfl h⟩
   | succ n => exact ⟨fun s h => p_expr l lo hll n s ih h, fun v s h => p_chain l lo hll n v s ih h, fun s h => p_prefix l lo hll n s ih h, fun s h => p_atom l lo hll n s ih h⟩

theorem p_place (l : List Tok) (lo : Own) (hll : l.length ≤ 100000) (n : Nat) (s : PS)  (hne : placeF n l s ≠ .out) : ACalls Tryd.prog 74 [.ptr 0 0] [psAV lo l s] (PR (fun (p : Pl) => .agg (plAV p)) lo l (placeF n l s)) := by
  generalize hX : placeF n l s = X at hne ⊢
  refine ACalls.soft ?_
  unfold placeF at hX
  refine ACalls.enter hT Tryd.func74 rfl (by kernel_rfl) ?_
  refine ACode.seq ?_
  refine ACode.run hT nh [0, 2] (fr' := ⟨[(0, .ptr 0 0), (2, .loc 0 0)], [[.i 0, .str [], .str [], .i 0, .i 0, .int .u64 0, .i 0, .str [], .str [], .slice [] 0 .exact, .i 0, .i 0, .i 0, .i 0]], [], [], 0⟩) (σ' := [psAV lo l s]) (ob := Tt 2) (by kernel_rfl) (tt 2) ?_
  refine ACode.seq ?_
  refine ACode.region ?_
  refine AOps.runN hT nh 1 [0, 2, 5] (fr' := ⟨[(0, .ptr 0 0), (2, .loc 0 0), (5, .ptr 0 0)], [[.i 0, .str [], .str [], .i 0, .i 0, .int .u64 0, .i 0, .str [], .str [], .slice [] 0 .exact, .i 0, .i 0, .i 0, .i 0]], [], [], 0⟩) (σ' := [psAV lo l s]) (ob := Tt 2) (by kernel_rfl) (tt 2) ?_
  have nk1 : kindF l 1 s ≠ .out := by intro h9; simp only [h9, R.out_bind] at hX; exact hne hX.symm
  refine AOps.call (fid := 57) (cap := []) (avs := [.ptr 0 0, .i 1]) (by kernel_rfl) rfl (by kernel_rfl) (by kernel_rfl) en_57 (by kernel_rfl) (ACalls.mono (p_kind l lo hll 1 s nk1) ?_)
  cases k1 : kindF l 1 s with
  | out => exact absurd k1 nk1
  | bad ea eb ec =>
   rintro _ _ ⟨rfl, pp, dd, rfl⟩
   simp only [k1, R.bad_bind] at hX
   subst hX
   exact PR.bad_intro (vAV := fun (p : Pl) => .agg (plAV p)) pp dd rfl rfl
  | ok v2 s3 =>
   rintro _ _ ⟨rfl, rfl⟩
   simp only [k1, R.ok_bind] at hX
   refine AOps.runN hT nh 2 [0, 2, 3] (fr' := ⟨[(0, .ptr 0 0), (2, .loc 0 0), (3, .loc 1 0)], [[.i 0, .str [], .str [], .i 0, .i 0, .int .u64 0, .i 0, .str [], .str [], .slice [] 0 .exact, .i 0, .i 0, .i 0, .i 0], [.i v2.kind, .str v2.text, .int .u64 v2.n, .i v2.line, .i v2.col]], [], [], 0⟩) (σ' := [psAV lo l s3]) (ob := Tt 3) (by kernel_rfl) (tt 3) ?_
   refine AOps.nil ?_
   refine ACode.seq ?_
   refine ACode.run hT nh [0, 2, 4] (fr' := ⟨[(0, .ptr 0 0), (2, .loc 0 0), (4, .loc 2 0)], [[.i 0, .str [], .str [], .i 0, .i 0, .int .u64 0, .i 0, .str [], .str [], .slice [] 0 .exact, .i 0, .i 0, .i 0, .i 0], [.i v2.kind, .str v2.text, .int .u64 v2.n, .i v2.line, .i v2.col], [.i 1, .str v2.text, .str [], .i 0, .i 0, .int .u64 0, .i 0, .str [], .str [], .slice [] 0 .exact, .i 0, .i 0, .i v2.line, .i v2.col]], [], [], 0⟩) (σ' := [psAV lo l s3]) (ob := Tt 10) (by kernel_rfl) (tt 10) ?_
   refine ACode.seq ?_
   refine ACode.block ?_
   refine ACode.seq ?_
   refine ACode.region ?_
   refine AOps.runN hT nh 1 [0, 2, 4, 15] (fr' := ⟨[(0, .ptr 0 0), (2, .loc 0 0), (4, .loc 2 0), (15, .ptr 0 0)], [[.i 0, .str [], .str [], .i 0, .i 0, .int .u64 0, .i 0, .str [], .str [], .slice [] 0 .exact, .i 0, .i 0, .i 0, .i 0], [.i v2.kind, .str v2.text, .int .u64 v2.n, .i v2.line, .i v2.col], [.i 1, .str v2.text, .str [], .i 0, .i 0, .int .u64 0, .i 0, .str [], .str [], .slice [] 0 .exact, .i 0, .i 0, .i v2.line, .i v2.col]], [], [], 0⟩) (σ' := [psAV lo l s3]) (ob := Tt 2) (by kernel_rfl) (tt 2) ?_
   have nk4 : eatF l [46] s3 ≠ .out := by intro h9; simp only [h9, R.out_bind] at hX; exact hne hX.symm
   refine AOps.call (fid := 41) (cap := []) (avs := [.ptr 0 0, .str [46]]) (by kernel_rfl) rfl (by kernel_rfl) (by kernel_rfl) en_41 (by kernel_rfl) (ACalls.mono (p_eat l lo hll [46] s3 nk4) ?_)
   cases k4 : eatF l [46] s3 with
   | out => exact absurd k4 nk4
   | bad ea eb ec =>
    rintro _ _ ⟨rfl, pp, dd, rfl⟩
    simp only [k4, R.bad_bind] at hX
    subst hX
    exact PR.bad_intro (vAV := fun (p : Pl) => .agg (plAV p)) pp dd rfl rfl
   | ok v5 s6 =>
    rintro _ _ ⟨rfl, rfl⟩
    simp only [k4, R.ok_bind] at hX
    refine AOps.runN hT nh 1 [0, 2, 4, 14] (fr' := ⟨[(0, .ptr 0 0), (2, .loc 0 0), (4, .loc 2 0), (14, .bool v5)], [[.i 0, .str [], .str [], .i 0, .i 0, .int .u64 0, .i 0, .str [], .str [], .slice [] 0 .exact, .i 0, .i 0, .i 0, .i 0], [.i v2.kind, .str v2.text, .int .u64 v2.n, .i v2.line, .i v2.col], [.i 1, .str v2.text, .str [], .i 0, .i 0, .int .u64 0, .i 0, .str [], .str [], .slice [] 0 .exact, .i 0, .i 0, .i v2.line, .i v2.col]], [], [], 0⟩) (σ' := [psAV lo l s6]) (ob := Tt 2) (by kernel_rfl) (tt 2) ?_
    refine AOps.nil ?_
    refine ACode.cond (t := v5) (by kernel_rfl) (fun h7 => ?_) (fun h7 => ?_)
    ·
     try simp only [h7, Bool.false_eq_true, Bool.not_true, Bool.not_false, if_true, if_false] at hX
     refine ACode.region ?_
     refine AOps.runN hT nh 1 [2, 4, 17] (fr' := ⟨[(2, .loc 0 0), (4, .loc 2 0), (17, .ptr 0 0)], [[.i 0, .str [], .str [], .i 0, .i 0, .int .u64 0, .i 0, .str [], .str [], .slice [] 0 .exact, .i 0, .i 0, .i 0, .i 0], [.i v2.kind, .str v2.text, .int .u64 v2.n, .i v2.line, .i v2.col], [.i 1, .str v2.text, .str [], .i 0, .i 0, .int .u64 0, .i 0, .str [], .str [], .slice [] 0 .exact, .i 0, .i 0, .i v2.line, .i v2.col]], [], [], 0⟩) (σ' := [psAV lo l s6]) (ob := Tt 2) (by kernel_rfl) (tt 2) ?_
     have nk8 : kindF l 1 s6 ≠ .out := by intro h9; simp only [h9, R.out_bind] at hX; exact hne hX.symm
     refine AOps.call (fid := 57) (cap := []) (avs := [.ptr 0 0, .i 1]) (by kernel_rfl) rfl (by kernel_rfl) (by kernel_rfl) en_57 (by kernel_rfl) (ACalls.mono (p_kind l lo hll 1 s6 nk8) ?_)
     cases k8 : kindF l 1 s6 with
     | out => exact absurd k8 nk8
     | bad ea eb ec =>
      rintro _ _ ⟨rfl, pp, dd, rfl⟩
      simp only [k8, R.bad_bind] at hX
      subst hX
      exact PR.bad_intro (vAV := fun (p : Pl) => .agg (plAV p)) pp dd rfl rfl
     | ok v9 s10 =>
      rintro _ _ ⟨rfl, rfl⟩
      simp only [k8, R.ok_bind] at hX
      refine AOps.runN hT nh 5 [2, 4] (fr' := ⟨[(2, .loc 0 0), (4, .loc 2 0)], [[.i 0, .str [], .str [], .i 0, .i 0, .int .u64 0, .i 0, .str [], .str [], .slice [] 0 .exact, .i 0, .i 0, .i 0, .i 0], [.i v2.kind, .str v2.text, .int .u64 v2.n, .i v2.line, .i v2.col], [.i 2, .str v2.text, .str v9.text, .i 0, .i 0, .int .u64 0, .i 0, .str [], .str [], .slice [] 0 .exact, .i 0, .i 0, .i v2.line, .i v2.col]], [], [], 0⟩) (σ' := [psAV lo l s10]) (ob := Tt 6) (by kernel_rfl) (tt 6) ?_
      refine AOps.nil ?_
      refine ACode.seq ?_
      refine ACode.run hT nh [2] (fr' := ⟨[(2, .loc 0 0)], [[.i 2, .str v2.text, .str v9.text, .i 0, .i 0, .int .u64 0, .i 0, .str [], .str [], .slice [] 0 .exact, .i 0, .i 0, .i v2.line, .i v2.col], [.i v2.kind, .str v2.text, .int .u64 v2.n, .i v2.line, .i v2.col], [.i 2, .str v2.text, .str v9.text, .i 0, .i 0, .int .u64 0, .i 0, .str [], .str [], .slice [] 0 .exact, .i 0, .i 0, .i v2.line, .i v2.col]], [], [], 0⟩) (σ' := [psAV lo l s10]) (ob := Tt 3) (by kernel_rfl) (tt 3) ?_
      refine ACode.ret ?_
      refine retQ.ret (.agg [.i 2, .str v2.text, .str v9.text, .i 0, .i 0, .int .u64 0, .i 0, .str [], .str [], .slice [] 0 .exact, .i 0, .i 0, .i v2.line, .i v2.col]) (by kernel_rfl) ?_
      subst hX
      exact PR.ok_intro rfl rfl
    ·
     try simp only [h7, Bool.false_eq_true, Bool.not_true, Bool.not_false, if_true, if_false] at hX
     refine ACode.seq ?_
     refine ACode.region ?_
     refine AOps.runN hT nh 1 [0, 2, 4, 23] (fr' := ⟨[(0, .ptr 0 0), (2, .loc 0 0), (4, .loc 2 0), (23, .ptr 0 0)], [[.i 0, .str [], .str [], .i 0, .i 0, .int .u64 0, .i 0, .str [], .str [], .slice [] 0 .exact, .i 0, .i 0, .i 0, .i 0], [.i v2.kind, .str v2.text, .int .u64 v2.n, .i v2.line, .i v2.col], [.i 1, .str v2.text, .str [], .i 0, .i 0, .int .u64 0, .i 0, .str [], .str [], .slice [] 0 .exact, .i 0, .i 0, .i v2.line, .i v2.col]], [], [], 0⟩) (σ' := [psAV lo l s6]) (ob := Tt 2) (by kernel_rfl) (tt 2) ?_
     have nk11 : eatF l [91] s6 ≠ .out := by intro h9; simp only [h9, R.out_bind] at hX; exact hne hX.symm
     refine AOps.call (fid := 41) (cap := []) (avs := [.ptr 0 0, .str [91]]) (by kernel_rfl) rfl (by kernel_rfl) (by kernel_rfl) en_41 (by kernel_rfl) (ACalls.mono (p_eat l lo hll [91] s6 nk11) ?_)
     cases k11 : eatF l [91] s6 with
     | out => exact absurd k11 nk11
     | bad ea eb ec =>
      rintro _ _ ⟨rfl, pp, dd, rfl⟩
      simp only [k11, R.bad_bind] at hX
      subst hX
      exact PR.bad_intro (vAV := fun (p : Pl) => .agg (plAV p)) pp dd rfl rfl
     | ok v12 s13 =>
      rintro _ _ ⟨rfl, rfl⟩
      simp only [k11, R.ok_bind] at hX
      refine AOps.runN hT nh 1 [0, 2, 4, 22] (fr' := ⟨[(0, .ptr 0 0), (2, .loc 0 0), (4, .loc 2 0), (22, .bool v12)], [[.i 0, .str [], .str [], .i 0, .i 0, .int .u64 0, .i 0, .str [], .str [], .slice [] 0 .exact, .i 0, .i 0, .i 0, .i 0], [.i v2.kind, .str v2.text, .int .u64 v2.n, .i v2.line, .i v2.col], [.i 1, .str v2.text, .str [], .i 0, .i 0, .int .u64 0, .i 0, .str [], .str [], .slice [] 0 .exact, .i 0, .i 0, .i v2.line, .i v2.col]], [], [], 0⟩) (σ' := [psAV lo l s13]) (ob := Tt 2) (by kernel_rfl) (tt 2) ?_
      refine AOps.nil ?_
      refine ACode.cond (t := v12) (by kernel_rfl) (fun h14 => ?_) (fun h14 => ?_)
      ·
       try simp only [h14, Bool.false_eq_true, Bool.not_true, Bool.not_false, if_true, if_false] at hX
       refine ACode.seq ?_
       refine ACode.region ?_
       refine AOps.runN hT nh 1 [0, 2, 4, 25] (fr' := ⟨[(0, .ptr 0 0), (2, .loc 0 0), (4, .loc 2 0), (25, .ptr 0 0)], [[.i 0, .str [], .str [], .i 0, .i 0, .int .u64 0, .i 0, .str [], .str [], .slice [] 0 .exact, .i 0, .i 0, .i 0, .i 0], [.i v2.kind, .str v2.text, .int .u64 v2.n, .i v2.line, .i v2.col], [.i 1, .str v2.text, .str [], .i 0, .i 0, .int .u64 0, .i 0, .str [], .str [], .slice [] 0 .exact, .i 0, .i 0, .i v2.line, .i v2.col]], [], [], 0⟩) (σ' := [psAV lo l s13]) (ob := Tt 2) (by kernel_rfl) (tt 2) ?_
       have nk15 : exprF n l s13 ≠ .out := by intro h9; simp only [h9, R.out_bind] at hX; exact hne hX.symm
       refine AOps.call (fid := 75) (cap := []) (avs := [.ptr 0 0]) (by kernel_rfl) rfl (by kernel_rfl) (by kernel_rfl) en_75 (by kernel_rfl) (ACalls.mono ((ex_ok l lo hll n).expr s13 nk15) ?_)
       cases k15 : exprF n l s13 with
       | out => exact absurd k15 nk15
       | bad ea eb ec =>
        rintro _ _ ⟨rfl, pp, dd, rfl⟩
        simp only [k15, R.bad_bind] at hX
        subst hX
        exact PR.bad_intro (vAV := fun (p : Pl) => .agg (plAV p)) pp dd rfl rfl
       | ok v16 s17 =>
        rintro _ _ ⟨rfl, rfl⟩
        simp only [k15, R.ok_bind] at hX
        refine AOps.runN hT nh 4 [0, 2, 4] (fr' := ⟨[(0, .ptr 0 0), (2, .loc 0 0), (4, .loc 2 0)], [[.i 0, .str [], .str [], .i 0, .i 0, .int .u64 0, .i 0, .str [], .str [], .slice [] 0 .exact, .i 0, .i 0, .i 0, .i 0], [.i v2.kind, .str v2.text, .int .u64 v2.n, .i v2.line, .i v2.col], [.i 3, .str v2.text, .str [], .i v16.op, .i v16.bin, .int .u64 v16.n, .i v16.tk, .str v16.tr, .str v16.name, .slice (exRows v16.kids) v16.kids.length .no, .i v16.line, .i v16.col, .i v2.line, .i v2.col]], [], [], 0⟩) (σ' := [psAV lo l s17]) (ob := Tt 5) (by kernel_rfl) (tt 5) ?_
        refine AOps.nil ?_
        refine ACode.region ?_
        refine AOps.runN hT nh 1 [2, 4, 29] (fr' := ⟨[(2, .loc 0 0), (4, .loc 2 0), (29, .ptr 0 0)], [[.i 0, .str [], .str [], .i 0, .i 0, .int .u64 0, .i 0, .str [], .str [], .slice [] 0 .exact, .i 0, .i 0, .i 0, .i 0], [.i v2.kind, .str v2.text, .int .u64 v2.n, .i v2.line, .i v2.col], [.i 3, .str v2.text, .str [], .i v16.op, .i v16.bin, .int .u64 v16.n, .i v16.tk, .str v16.tr, .str v16.name, .slice (exRows v16.kids) v16.kids.length .no, .i v16.line, .i v16.col, .i v2.line, .i v2.col]], [], [], 0⟩) (σ' := [psAV lo l s17]) (ob := Tt 2) (by kernel_rfl) (tt 2) ?_
        have nk18 : mustF l [93] s17 ≠ .out := by intro h9; simp only [h9, R.out_bind] at hX; exact hne hX.symm
        refine AOps.call (fid := 44) (cap := []) (avs := [.ptr 0 0, .str [93]]) (by kernel_rfl) rfl (by kernel_rfl) (by kernel_rfl) en_44 (by kernel_rfl) (ACalls.mono (p_must l lo hll [93] s17 nk18) ?_)
        cases k18 : mustF l [93] s17 with
        | out => exact absurd k18 nk18
        | bad ea eb ec =>
         rintro _ _ ⟨rfl, pp, dd, rfl⟩
         simp only [k18, R.bad_bind] at hX
         subst hX
         exact PR.bad_intro (vAV := fun (p : Pl) => .agg (plAV p)) pp dd rfl rfl
        | ok v19 s20 =>
         rintro _ _ ⟨rfl, rfl⟩
         simp only [k18, R.ok_bind] at hX
         refine AOps.nil ?_
         refine ACode.seq ?_
         refine ACode.run hT nh [2] (fr' := ⟨[(2, .loc 0 0)], [[.i 3, .str v2.text, .str [], .i v16.op, .i v16.bin, .int .u64 v16.n, .i v16.tk, .str v16.tr, .str v16.name, .slice (exRows v16.kids) v16.kids.length .no, .i v16.line, .i v16.col, .i v2.line, .i v2.col], [.i v2.kind, .str v2.text, .int .u64 v2.n, .i v2.line, .i v2.col], [.i 3, .str v2.text, .str [], .i v16.op, .i v16.bin, .int .u64 v16.n, .i v16.tk, .str v16.tr, .str v16.name, .slice (exRows v16.kids) v16.kids.length .no, .i v16.line, .i v16.col, .i v2.line, .i v2.col]], [], [], 0⟩) (σ' := [psAV lo l s20]) (ob := Tt 3) (by kernel_rfl) (tt 3) ?_
         refine ACode.ret ?_
         refine retQ.ret (.agg [.i 3, .str v2.text, .str [], .i v16.op, .i v16.bin, .int .u64 v16.n, .i v16.tk, .str v16.tr, .str v16.name, .slice (exRows v16.kids) v16.kids.length .no, .i v16.line, .i v16.col, .i v2.line, .i v2.col]) (by kernel_rfl) ?_
         subst hX
         exact PR.ok_intro rfl rfl
      ·
       try simp only [h14, Bool.false_eq_true, Bool.not_true, Bool.not_false, if_true, if_false] at hX
       refine ACode.skip ?_
       refine ACode.seq ?_
       refine ACode.run hT nh [2] (fr' := ⟨[(2, .loc 0 0)], [[.i 1, .str v2.text, .str [], .i 0, .i 0, .int .u64 0, .i 0, .str [], .str [], .slice [] 0 .exact, .i 0, .i 0, .i v2.line, .i v2.col], [.i v2.kind, .str v2.text, .int .u64 v2.n, .i v2.line, .i v2.col], [.i 1, .str v2.text, .str [], .i 0, .i 0, .int .u64 0, .i 0, .str [], .str [], .slice [] 0 .exact, .i 0, .i 0, .i v2.line, .i v2.col]], [], [], 0⟩) (σ' := [psAV lo l s13]) (ob := Tt 3) (by kernel_rfl) (tt 3) ?_
       refine ACode.ret ?_
       refine retQ.ret (.agg [.i 1, .str v2.text, .str [], .i 0, .i 0, .int .u64 0, .i 0, .str [], .str [], .slice [] 0 .exact, .i 0, .i 0, .i v2.line, .i v2.col]) (by kernel_rfl) ?_
       subst hX
       exact PR.ok_intro rfl rfl

theorem p_right (l : List Tok) (lo : Own) (hll : l.length ≤ 100000) (n : Nat) (s : PS)  (hne : rightF n l s ≠ .out) : ACalls Tryd.prog 73 [.ptr 0 0] [psAV lo l s] (PR (fun (r : Rt) => .agg (rtAV r)) lo l (rightF n l s)) := by
  generalize hX : rightF n l s = X at hne ⊢
  refine ACalls.soft ?_
  unfold rightF at hX
  refine ACalls.enter hT Tryd.func73 rfl (by kernel_rfl) ?_
  refine ACode.seq ?_
  refine ACode.run hT nh [0, 2] (fr' := ⟨[(0, .ptr 0 0), (2, .loc 0 0)], [[.i 0, .i 0, .i 0, .int .u64 0, .i 0, .str [], .str [], .slice [] 0 .exact, .i 0, .i 0, .i 0, .str [], .str [], .i 0, .i 0, .int .u64 0, .i 0, .str [], .str [], .slice [] 0 .exact, .i 0, .i 0, .i 0, .i 0, .str [], .i 0, .i 0]], [], [], 0⟩) (σ' := [psAV lo l s]) (ob := Tt 2) (by kernel_rfl) (tt 2) ?_
  refine ACode.seq ?_
  refine ACode.region ?_
  refine AOps.runN hT nh 1 [0, 2, 5] (fr' := ⟨[(0, .ptr 0 0), (2, .loc 0 0), (5, .ptr 0 0)], [[.i 0, .i 0, .i 0, .int .u64 0, .i 0, .str [], .str [], .slice [] 0 .exact, .i 0, .i 0, .i 0, .str [], .str [], .i 0, .i 0, .int .u64 0, .i 0, .str [], .str [], .slice [] 0 .exact, .i 0, .i 0, .i 0, .i 0, .str [], .i 0, .i 0]], [], [], 0⟩) (σ' := [psAV lo l s]) (ob := Tt 2) (by kernel_rfl) (tt 2) ?_
  have nk1 : peekF l s ≠ .out := by intro h9; simp only [h9, R.out_bind] at hX; exact hne hX.symm
  refine AOps.call (fid := 40) (cap := []) (avs := [.ptr 0 0]) (by kernel_rfl) rfl (by kernel_rfl) (by kernel_rfl) en_40 (by kernel_rfl) (ACalls.mono (p_peek l lo hll s nk1) ?_)
  cases k1 : peekF l s with
  | out => exact absurd k1 nk1
  | bad ea eb ec =>
   rintro _ _ ⟨rfl, pp, dd, rfl⟩
   simp only [k1, R.bad_bind] at hX
   subst hX
   exact PR.bad_intro (vAV := fun (r : Rt) => .agg (rtAV r)) pp dd rfl rfl
  | ok v2 s3 =>
   rintro _ _ ⟨rfl, rfl⟩
   simp only [k1, R.ok_bind] at hX
   obtain ⟨hsk1, hpk1, hvk1⟩ := peekF_ok k1
   refine AOps.runN hT nh 2 [0, 2, 3] (fr' := ⟨[(0, .ptr 0 0), (2, .loc 0 0), (3, .loc 1 0)], [[.i 0, .i 0, .i 0, .int .u64 0, .i 0, .str [], .str [], .slice [] 0 .exact, .i 0, .i 0, .i 0, .str [], .str [], .i 0, .i 0, .int .u64 0, .i 0, .str [], .str [], .slice [] 0 .exact, .i 0, .i 0, .i 0, .i 0, .str [], .i 0, .i 0], [.i v2.kind, .str v2.text, .int .u64 v2.n, .i v2.line, .i v2.col]], [], [], 0⟩) (σ' := [psAV lo l s3]) (ob := Tt 3) (by kernel_rfl) (tt 3) ?_
   refine AOps.nil ?_
   refine ACode.seq ?_
   refine ACode.run hT nh [0, 2, 4] (fr' := ⟨[(0, .ptr 0 0), (2, .loc 0 0), (4, .loc 2 0)], [[.i 0, .i 0, .i 0, .int .u64 0, .i 0, .str [], .str [], .slice [] 0 .exact, .i 0, .i 0, .i 0, .str [], .str [], .i 0, .i 0, .int .u64 0, .i 0, .str [], .str [], .slice [] 0 .exact, .i 0, .i 0, .i 0, .i 0, .str [], .i 0, .i 0], [.i v2.kind, .str v2.text, .int .u64 v2.n, .i v2.line, .i v2.col], [.i 0, .i 0, .i 0, .int .u64 0, .i 0, .str [], .str [], .slice [] 0 .exact, .i 0, .i 0, .i 0, .str [], .str [], .i 0, .i 0, .int .u64 0, .i 0, .str [], .str [], .slice [] 0 .exact, .i 0, .i 0, .i 0, .i 0, .str [], .i v2.line, .i v2.col]], [], [], 0⟩) (σ' := [psAV lo l s3]) (ob := Tt 8) (by kernel_rfl) (tt 8) ?_
   refine ACode.seq ?_
   refine ACode.block ?_
   refine ACode.seq ?_
   refine ACode.region ?_
   refine AOps.runN hT nh 1 [0, 2, 4, 17] (fr' := ⟨[(0, .ptr 0 0), (2, .loc 0 0), (4, .loc 2 0), (17, .ptr 0 0)], [[.i 0, .i 0, .i 0, .int .u64 0, .i 0, .str [], .str [], .slice [] 0 .exact, .i 0, .i 0, .i 0, .str [], .str [], .i 0, .i 0, .int .u64 0, .i 0, .str [], .str [], .slice [] 0 .exact, .i 0, .i 0, .i 0, .i 0, .str [], .i 0, .i 0], [.i v2.kind, .str v2.text, .int .u64 v2.n, .i v2.line, .i v2.col], [.i 0, .i 0, .i 0, .int .u64 0, .i 0, .str [], .str [], .slice [] 0 .exact, .i 0, .i 0, .i 0, .str [], .str [], .i 0, .i 0, .int .u64 0, .i 0, .str [], .str [], .slice [] 0 .exact, .i 0, .i 0, .i 0, .i 0, .str [], .i v2.line, .i v2.col]], [], [], 0⟩) (σ' := [psAV lo l s3]) (ob := Tt 2) (by kernel_rfl) (tt 2) ?_
   have nk4 : eatF l [108, 111, 97, 100] s3 ≠ .out := by intro h9; simp only [h9, R.out_bind] at hX; exact hne hX.symm
   refine AOps.call (fid := 41) (cap := []) (avs := [.ptr 0 0, .str [108, 111, 97, 100]]) (by kernel_rfl) rfl (by kernel_rfl) (by kernel_rfl) en_41 (by kernel_rfl) (ACalls.mono (p_eat l lo hll [108, 111, 97, 100] s3 nk4) ?_)
   cases k4 : eatF l [108, 111, 97, 100] s3 with
   | out => exact absurd k4 nk4
   | bad ea eb ec =>
    rintro _ _ ⟨rfl, pp, dd, rfl⟩
    simp only [k4, R.bad_bind] at hX
    subst hX
    exact PR.bad_intro (vAV := fun (r : Rt) => .agg (rtAV r)) pp dd rfl rfl
   | ok v5 s6 =>
    rintro _ _ ⟨rfl, rfl⟩
    simp only [k4, R.ok_bind] at hX
    refine AOps.runN hT nh 1 [0, 2, 4, 16] (fr' := ⟨[(0, .ptr 0 0), (2, .loc 0 0), (4, .loc 2 0), (16, .bool v5)], [[.i 0, .i 0, .i 0, .int .u64 0, .i 0, .str [], .str [], .slice [] 0 .exact, .i 0, .i 0, .i 0, .str [], .str [], .i 0, .i 0, .int .u64 0, .i 0, .str [], .str [], .slice [] 0 .exact, .i 0, .i 0, .i 0, .i 0, .str [], .i 0, .i 0], [.i v2.kind, .str v2.text, .int .u64 v2.n, .i v2.line, .i v2.col], [.i 0, .i 0, .i 0, .int .u64 0, .i 0, .str [], .str [], .slice [] 0 .exact, .i 0, .i 0, .i 0, .str [], .str [], .i 0, .i 0, .int .u64 0, .i 0, .str [], .str [], .slice [] 0 .exact, .i 0, .i 0, .i 0, .i 0, .str [], .i v2.line, .i v2.col]], [], [], 0⟩) (σ' := [psAV lo l s6]) (ob := Tt 2) (by kernel_rfl) (tt 2) ?_
    refine AOps.nil ?_
    refine ACode.cond (t := v5) (by kernel_rfl) (fun h7 => ?_) (fun h7 => ?_)
    ·
     try simp only [h7, Bool.false_eq_true, Bool.not_true, Bool.not_false, if_true, if_false] at hX
     refine ACode.region ?_
     refine AOps.runN hT nh 1 [2, 4, 19] (fr' := ⟨[(2, .loc 0 0), (4, .loc 2 0), (19, .ptr 0 0)], [[.i 0, .i 0, .i 0, .int .u64 0, .i 0, .str [], .str [], .slice [] 0 .exact, .i 0, .i 0, .i 0, .str [], .str [], .i 0, .i 0, .int .u64 0, .i 0, .str [], .str [], .slice [] 0 .exact, .i 0, .i 0, .i 0, .i 0, .str [], .i 0, .i 0], [.i v2.kind, .str v2.text, .int .u64 v2.n, .i v2.line, .i v2.col], [.i 0, .i 0, .i 0, .int .u64 0, .i 0, .str [], .str [], .slice [] 0 .exact, .i 0, .i 0, .i 0, .str [], .str [], .i 0, .i 0, .int .u64 0, .i 0, .str [], .str [], .slice [] 0 .exact, .i 0, .i 0, .i 0, .i 0, .str [], .i v2.line, .i v2.col]], [], [], 0⟩) (σ' := [psAV lo l s6]) (ob := Tt 2) (by kernel_rfl) (tt 2) ?_
     have nk8 : placeF n l s6 ≠ .out := by intro h9; simp only [h9, R.out_bind] at hX; exact hne hX.symm
     refine AOps.call (fid := 74) (cap := []) (avs := [.ptr 0 0]) (by kernel_rfl) rfl (by kernel_rfl) (by kernel_rfl) en_74 (by kernel_rfl) (ACalls.mono (p_place l lo hll n s6 nk8) ?_)
     cases k8 : placeF n l s6 with
     | out => exact absurd k8 nk8
     | bad ea eb ec =>
      rintro _ _ ⟨rfl, pp, dd, rfl⟩
      simp only [k8, R.bad_bind] at hX
      subst hX
      exact PR.bad_intro (vAV := fun (r : Rt) => .agg (rtAV r)) pp dd rfl rfl
     | ok v9 s10 =>
      rintro _ _ ⟨rfl, rfl⟩
      simp only [k8, R.ok_bind] at hX
      refine AOps.runN hT nh 4 [2, 4] (fr' := ⟨[(2, .loc 0 0), (4, .loc 2 0)], [[.i 0, .i 0, .i 0, .int .u64 0, .i 0, .str [], .str [], .slice [] 0 .exact, .i 0, .i 0, .i 0, .str [], .str [], .i 0, .i 0, .int .u64 0, .i 0, .str [], .str [], .slice [] 0 .exact, .i 0, .i 0, .i 0, .i 0, .str [], .i 0, .i 0], [.i v2.kind, .str v2.text, .int .u64 v2.n, .i v2.line, .i v2.col], [.i 2, .i 0, .i 0, .int .u64 0, .i 0, .str [], .str [], .slice [] 0 .exact, .i 0, .i 0, .i v9.op, .str v9.base, .str v9.field, .i v9.idx.op, .i v9.idx.bin, .int .u64 v9.idx.n, .i v9.idx.tk, .str v9.idx.tr, .str v9.idx.name, .slice (exRows v9.idx.kids) v9.idx.kids.length .no, .i v9.idx.line, .i v9.idx.col, .i v9.line, .i v9.col, .str [], .i v2.line, .i v2.col]], [], [], 0⟩) (σ' := [psAV lo l s10]) (ob := Tt 5) (by kernel_rfl) (tt 5) ?_
      refine AOps.nil ?_
      refine ACode.seq ?_
      refine ACode.run hT nh [2] (fr' := ⟨[(2, .loc 0 0)], [[.i 2, .i 0, .i 0, .int .u64 0, .i 0, .str [], .str [], .slice [] 0 .exact, .i 0, .i 0, .i v9.op, .str v9.base, .str v9.field, .i v9.idx.op, .i v9.idx.bin, .int .u64 v9.idx.n, .i v9.idx.tk, .str v9.idx.tr, .str v9.idx.name, .slice (exRows v9.idx.kids) v9.idx.kids.length .no, .i v9.idx.line, .i v9.idx.col, .i v9.line, .i v9.col, .str [], .i v2.line, .i v2.col], [.i v2.kind, .str v2.text, .int .u64 v2.n, .i v2.line, .i v2.col], [.i 2, .i 0, .i 0, .int .u64 0, .i 0, .str [], .str [], .slice [] 0 .exact, .i 0, .i 0, .i v9.op, .str v9.base, .str v9.field, .i v9.idx.op, .i v9.idx.bin, .int .u64 v9.idx.n, .i v9.idx.tk, .str v9.idx.tr, .str v9.idx.name, .slice (exRows v9.idx.kids) v9.idx.kids.length .no, .i v9.idx.line, .i v9.idx.col, .i v9.line, .i v9.col, .str [], .i v2.line, .i v2.col]], [], [], 0⟩) (σ' := [psAV lo l s10]) (ob := Tt 3) (by kernel_rfl) (tt 3) ?_
      refine ACode.ret ?_
      refine retQ.ret (.agg [.i 2, .i 0, .i 0, .int .u64 0, .i 0, .str [], .str [], .slice [] 0 .exact, .i 0, .i 0, .i v9.op, .str v9.base, .str v9.field, .i v9.idx.op, .i v9.idx.bin, .int .u64 v9.idx.n, .i v9.idx.tk, .str v9.idx.tr, .str v9.idx.name, .slice (exRows v9.idx.kids) v9.idx.kids.length .no, .i v9.idx.line, .i v9.idx.col, .i v9.line, .i v9.col, .str [], .i v2.line, .i v2.col]) (by kernel_rfl) ?_
      subst hX
      exact PR.ok_intro rfl rfl
    ·
     try simp only [h7, Bool.false_eq_true, Bool.not_true, Bool.not_false, if_true, if_false] at hX
     refine ACode.seq ?_
     refine ACode.region ?_
     refine AOps.runN hT nh 1 [0, 2, 4, 24] (fr' := ⟨[(0, .ptr 0 0), (2, .loc 0 0), (4, .loc 2 0), (24, .ptr 0 0)], [[.i 0, .i 0, .i 0, .int .u64 0, .i 0, .str [], .str [], .slice [] 0 .exact, .i 0, .i 0, .i 0, .str [], .str [], .i 0, .i 0, .int .u64 0, .i 0, .str [], .str [], .slice [] 0 .exact, .i 0, .i 0, .i 0, .i 0, .str [], .i 0, .i 0], [.i v2.kind, .str v2.text, .int .u64 v2.n, .i v2.line, .i v2.col], [.i 0, .i 0, .i 0, .int .u64 0, .i 0, .str [], .str [], .slice [] 0 .exact, .i 0, .i 0, .i 0, .str [], .str [], .i 0, .i 0, .int .u64 0, .i 0, .str [], .str [], .slice [] 0 .exact, .i 0, .i 0, .i 0, .i 0, .str [], .i v2.line, .i v2.col]], [], [], 0⟩) (σ' := [psAV lo l s6]) (ob := Tt 2) (by kernel_rfl) (tt 2) ?_
     have nk11 : eatF l [115, 105, 122, 101] s6 ≠ .out := by intro h9; simp only [h9, R.out_bind] at hX; exact hne hX.symm
     refine AOps.call (fid := 41) (cap := []) (avs := [.ptr 0 0, .str [115, 105, 122, 101]]) (by kernel_rfl) rfl (by kernel_rfl) (by kernel_rfl) en_41 (by kernel_rfl) (ACalls.mono (p_eat l lo hll [115, 105, 122, 101] s6 nk11) ?_)
     cases k11 : eatF l [115, 105, 122, 101] s6 with
     | out => exact absurd k11 nk11
     | bad ea eb ec =>
      rintro _ _ ⟨rfl, pp, dd, rfl⟩
      simp only [k11, R.bad_bind] at hX
      subst hX
      exact PR.bad_intro (vAV := fun (r : Rt) => .agg (rtAV r)) pp dd rfl rfl
     | ok v12 s13 =>
      rintro _ _ ⟨rfl, rfl⟩
      simp only [k11, R.ok_bind] at hX
      refine AOps.runN hT nh 1 [0, 2, 4, 23] (fr' := ⟨[(0, .ptr 0 0), (2, .loc 0 0), (4, .loc 2 0), (23, .bool v12)], [[.i 0, .i 0, .i 0, .int .u64 0, .i 0, .str [], .str [], .slice [] 0 .exact, .i 0, .i 0, .i 0, .str [], .str [], .i 0, .i 0, .int .u64 0, .i 0, .str [], .str [], .slice [] 0 .exact, .i 0, .i 0, .i 0, .i 0, .str [], .i 0, .i 0], [.i v2.kind, .str v2.text, .int .u64 v2.n, .i v2.line, .i v2.col], [.i 0, .i 0, .i 0, .int .u64 0, .i 0, .str [], .str [], .slice [] 0 .exact, .i 0, .i 0, .i 0, .str [], .str [], .i 0, .i 0, .int .u64 0, .i 0, .str [], .str [], .slice [] 0 .exact, .i 0, .i 0, .i 0, .i 0, .str [], .i v2.line, .i v2.col]], [], [], 0⟩) (σ' := [psAV lo l s13]) (ob := Tt 2) (by kernel_rfl) (tt 2) ?_
      refine AOps.nil ?_
      refine ACode.cond (t := v12) (by kernel_rfl) (fun h14 => ?_) (fun h14 => ?_)
      ·
       try simp only [h14, Bool.false_eq_true, Bool.not_true, Bool.not_false, if_true, if_false] at hX
       refine ACode.region ?_
       refine AOps.runN hT nh 1 [2, 4, 26] (fr' := ⟨[(2, .loc 0 0), (4, .loc 2 0), (26, .ptr 0 0)], [[.i 0, .i 0, .i 0, .int .u64 0, .i 0, .str [], .str [], .slice [] 0 .exact, .i 0, .i 0, .i 0, .str [], .str [], .i 0, .i 0, .int .u64 0, .i 0, .str [], .str [], .slice [] 0 .exact, .i 0, .i 0, .i 0, .i 0, .str [], .i 0, .i 0], [.i v2.kind, .str v2.text, .int .u64 v2.n, .i v2.line, .i v2.col], [.i 0, .i 0, .i 0, .int .u64 0, .i 0, .str [], .str [], .slice [] 0 .exact, .i 0, .i 0, .i 0, .str [], .str [], .i 0, .i 0, .int .u64 0, .i 0, .str [], .str [], .slice [] 0 .exact, .i 0, .i 0, .i 0, .i 0, .str [], .i v2.line, .i v2.col]], [], [], 0⟩) (σ' := [psAV lo l s13]) (ob := Tt 2) (by kernel_rfl) (tt 2) ?_
       have nk15 : kindF l 1 s13 ≠ .out := by intro h9; simp only [h9, R.out_bind] at hX; exact hne hX.symm
       refine AOps.call (fid := 57) (cap := []) (avs := [.ptr 0 0, .i 1]) (by kernel_rfl) rfl (by kernel_rfl) (by kernel_rfl) en_57 (by kernel_rfl) (ACalls.mono (p_kind l lo hll 1 s13 nk15) ?_)
       cases k15 : kindF l 1 s13 with
       | out => exact absurd k15 nk15
       | bad ea eb ec =>
        rintro _ _ ⟨rfl, pp, dd, rfl⟩
        simp only [k15, R.bad_bind] at hX
        subst hX
        exact PR.bad_intro (vAV := fun (r : Rt) => .agg (rtAV r)) pp dd rfl rfl
       | ok v16 s17 =>
        rintro _ _ ⟨rfl, rfl⟩
        simp only [k15, R.ok_bind] at hX
        refine AOps.runN hT nh 5 [2, 4] (fr' := ⟨[(2, .loc 0 0), (4, .loc 2 0)], [[.i 0, .i 0, .i 0, .int .u64 0, .i 0, .str [], .str [], .slice [] 0 .exact, .i 0, .i 0, .i 0, .str [], .str [], .i 0, .i 0, .int .u64 0, .i 0, .str [], .str [], .slice [] 0 .exact, .i 0, .i 0, .i 0, .i 0, .str [], .i 0, .i 0], [.i v2.kind, .str v2.text, .int .u64 v2.n, .i v2.line, .i v2.col], [.i 5, .i 0, .i 0, .int .u64 0, .i 0, .str [], .str [], .slice [] 0 .exact, .i 0, .i 0, .i 0, .str [], .str [], .i 0, .i 0, .int .u64 0, .i 0, .str [], .str [], .slice [] 0 .exact, .i 0, .i 0, .i 0, .i 0, .str v16.text, .i v2.line, .i v2.col]], [], [], 0⟩) (σ' := [psAV lo l s17]) (ob := Tt 6) (by kernel_rfl) (tt 6) ?_
        refine AOps.nil ?_
        refine ACode.seq ?_
        refine ACode.run hT nh [2] (fr' := ⟨[(2, .loc 0 0)], [[.i 5, .i 0, .i 0, .int .u64 0, .i 0, .str [], .str [], .slice [] 0 .exact, .i 0, .i 0, .i 0, .str [], .str [], .i 0, .i 0, .int .u64 0, .i 0, .str [], .str [], .slice [] 0 .exact, .i 0, .i 0, .i 0, .i 0, .str v16.text, .i v2.line, .i v2.col], [.i v2.kind, .str v2.text, .int .u64 v2.n, .i v2.line, .i v2.col], [.i 5, .i 0, .i 0, .int .u64 0, .i 0, .str [], .str [], .slice [] 0 .exact, .i 0, .i 0, .i 0, .str [], .str [], .i 0, .i 0, .int .u64 0, .i 0, .str [], .str [], .slice [] 0 .exact, .i 0, .i 0, .i 0, .i 0, .str v16.text, .i v2.line, .i v2.col]], [], [], 0⟩) (σ' := [psAV lo l s17]) (ob := Tt 3) (by kernel_rfl) (tt 3) ?_
        refine ACode.ret ?_
        refine retQ.ret (.agg [.i 5, .i 0, .i 0, .int .u64 0, .i 0, .str [], .str [], .slice [] 0 .exact, .i 0, .i 0, .i 0, .str [], .str [], .i 0, .i 0, .int .u64 0, .i 0, .str [], .str [], .slice [] 0 .exact, .i 0, .i 0, .i 0, .i 0, .str v16.text, .i v2.line, .i v2.col]) (by kernel_rfl) ?_
        subst hX
        exact PR.ok_intro rfl rfl
      ·
       try simp only [h14, Bool.false_eq_true, Bool.not_true, Bool.not_false, if_true, if_false] at hX
       refine ACode.seq ?_
       refine ACode.region ?_
       refine AOps.runN hT nh 1 [0, 2, 4, 32] (fr' := ⟨[(0, .ptr 0 0), (2, .loc 0 0), (4, .loc 2 0), (32, .ptr 0 0)], [[.i 0, .i 0, .i 0, .int .u64 0, .i 0, .str [], .str [], .slice [] 0 .exact, .i 0, .i 0, .i 0, .str [], .str [], .i 0, .i 0, .int .u64 0, .i 0, .str [], .str [], .slice [] 0 .exact, .i 0, .i 0, .i 0, .i 0, .str [], .i 0, .i 0], [.i v2.kind, .str v2.text, .int .u64 v2.n, .i v2.line, .i v2.col], [.i 0, .i 0, .i 0, .int .u64 0, .i 0, .str [], .str [], .slice [] 0 .exact, .i 0, .i 0, .i 0, .str [], .str [], .i 0, .i 0, .int .u64 0, .i 0, .str [], .str [], .slice [] 0 .exact, .i 0, .i 0, .i 0, .i 0, .str [], .i v2.line, .i v2.col]], [], [], 0⟩) (σ' := [psAV lo l s13]) (ob := Tt 2) (by kernel_rfl) (tt 2) ?_
       have nk18 : eatF l [110, 101, 119] s13 ≠ .out := by intro h9; simp only [h9, R.out_bind] at hX; exact hne hX.symm
       refine AOps.call (fid := 41) (cap := []) (avs := [.ptr 0 0, .str [110, 101, 119]]) (by kernel_rfl) rfl (by kernel_rfl) (by kernel_rfl) en_41 (by kernel_rfl) (ACalls.mono (p_eat l lo hll [110, 101, 119] s13 nk18) ?_)
       cases k18 : eatF l [110, 101, 119] s13 with
       | out => exact absurd k18 nk18
       | bad ea eb ec =>
        rintro _ _ ⟨rfl, pp, dd, rfl⟩
        simp only [k18, R.bad_bind] at hX
        subst hX
        exact PR.bad_intro (vAV := fun (r : Rt) => .agg (rtAV r)) pp dd rfl rfl
       | ok v19 s20 =>
        rintro _ _ ⟨rfl, rfl⟩
        simp only [k18, R.ok_bind] at hX
        refine AOps.runN hT nh 1 [0, 2, 4, 31] (fr' := ⟨[(0, .ptr 0 0), (2, .loc 0 0), (4, .loc 2 0), (31, .bool v19)], [[.i 0, .i 0, .i 0, .int .u64 0, .i 0, .str [], .str [], .slice [] 0 .exact, .i 0, .i 0, .i 0, .str [], .str [], .i 0, .i 0, .int .u64 0, .i 0, .str [], .str [], .slice [] 0 .exact, .i 0, .i 0, .i 0, .i 0, .str [], .i 0, .i 0], [.i v2.kind, .str v2.text, .int .u64 v2.n, .i v2.line, .i v2.col], [.i 0, .i 0, .i 0, .int .u64 0, .i 0, .str [], .str [], .slice [] 0 .exact, .i 0, .i 0, .i 0, .str [], .str [], .i 0, .i 0, .int .u64 0, .i 0, .str [], .str [], .slice [] 0 .exact, .i 0, .i 0, .i 0, .i 0, .str [], .i v2.line, .i v2.col]], [], [], 0⟩) (σ' := [psAV lo l s20]) (ob := Tt 2) (by kernel_rfl) (tt 2) ?_
        refine AOps.nil ?_
        refine ACode.cond (t := v19) (by kernel_rfl) (fun h21 => ?_) (fun h21 => ?_)
        ·
         try simp only [h21, Bool.false_eq_true, Bool.not_true, Bool.not_false, if_true, if_false] at hX
         refine ACode.seq ?_
         refine ACode.region ?_
         refine AOps.runN hT nh 1 [0, 2, 4, 34] (fr' := ⟨[(0, .ptr 0 0), (2, .loc 0 0), (4, .loc 2 0), (34, .ptr 0 0)], [[.i 0, .i 0, .i 0, .int .u64 0, .i 0, .str [], .str [], .slice [] 0 .exact, .i 0, .i 0, .i 0, .str [], .str [], .i 0, .i 0, .int .u64 0, .i 0, .str [], .str [], .slice [] 0 .exact, .i 0, .i 0, .i 0, .i 0, .str [], .i 0, .i 0], [.i v2.kind, .str v2.text, .int .u64 v2.n, .i v2.line, .i v2.col], [.i 0, .i 0, .i 0, .int .u64 0, .i 0, .str [], .str [], .slice [] 0 .exact, .i 0, .i 0, .i 0, .str [], .str [], .i 0, .i 0, .int .u64 0, .i 0, .str [], .str [], .slice [] 0 .exact, .i 0, .i 0, .i 0, .i 0, .str [], .i v2.line, .i v2.col]], [], [], 0⟩) (σ' := [psAV lo l s20]) (ob := Tt 2) (by kernel_rfl) (tt 2) ?_
         have nk22 : eatF l [105, 110, 116, 115] s20 ≠ .out := by intro h9; simp only [h9, R.out_bind] at hX; exact hne hX.symm
         refine AOps.call (fid := 41) (cap := []) (avs := [.ptr 0 0, .str [105, 110, 116, 115]]) (by kernel_rfl) rfl (by kernel_rfl) (by kernel_rfl) en_41 (by kernel_rfl) (ACalls.mono (p_eat l lo hll [105, 110, 116, 115] s20 nk22) ?_)
         cases k22 : eatF l [105, 110, 116, 115] s20 with
         | out => exact absurd k22 nk22
         | bad ea eb ec =>
          rintro _ _ ⟨rfl, pp, dd, rfl⟩
          simp only [k22, R.bad_bind] at hX
          subst hX
          exact PR.bad_intro (vAV := fun (r : Rt) => .agg (rtAV r)) pp dd rfl rfl
         | ok v23 s24 =>
          rintro _ _ ⟨rfl, rfl⟩
          simp only [k22, R.ok_bind] at hX
          refine AOps.nil ?_
          refine ACode.cond (t := v23) (by kernel_rfl) (fun h25 => ?_) (fun h25 => ?_)
          ·
           try simp only [h25, Bool.false_eq_true, Bool.not_true, Bool.not_false, if_true, if_false] at hX
           refine ACode.region ?_
           refine AOps.runN hT nh 1 [2, 4, 36] (fr' := ⟨[(2, .loc 0 0), (4, .loc 2 0), (36, .ptr 0 0)], [[.i 0, .i 0, .i 0, .int .u64 0, .i 0, .str [], .str [], .slice [] 0 .exact, .i 0, .i 0, .i 0, .str [], .str [], .i 0, .i 0, .int .u64 0, .i 0, .str [], .str [], .slice [] 0 .exact, .i 0, .i 0, .i 0, .i 0, .str [], .i 0, .i 0], [.i v2.kind, .str v2.text, .int .u64 v2.n, .i v2.line, .i v2.col], [.i 0, .i 0, .i 0, .int .u64 0, .i 0, .str [], .str [], .slice [] 0 .exact, .i 0, .i 0, .i 0, .str [], .str [], .i 0, .i 0, .int .u64 0, .i 0, .str [], .str [], .slice [] 0 .exact, .i 0, .i 0, .i 0, .i 0, .str [], .i v2.line, .i v2.col]], [], [], 0⟩) (σ' := [psAV lo l s24]) (ob := Tt 2) (by kernel_rfl) (tt 2) ?_
           have nk26 : exprF n l s24 ≠ .out := by intro h9; simp only [h9, R.out_bind] at hX; exact hne hX.symm
           refine AOps.call (fid := 75) (cap := []) (avs := [.ptr 0 0]) (by kernel_rfl) rfl (by kernel_rfl) (by kernel_rfl) en_75 (by kernel_rfl) (ACalls.mono ((ex_ok l lo hll n).expr s24 nk26) ?_)
           cases k26 : exprF n l s24 with
           | out => exact absurd k26 nk26
           | bad ea eb ec =>
            rintro _ _ ⟨rfl, pp, dd, rfl⟩
            simp only [k26, R.bad_bind] at hX
            subst hX
            exact PR.bad_intro (vAV := fun (r : Rt) => .agg (rtAV r)) pp dd rfl rfl
           | ok v27 s28 =>
            rintro _ _ ⟨rfl, rfl⟩
            simp only [k26, R.ok_bind] at hX
            refine AOps.runN hT nh 4 [2, 4] (fr' := ⟨[(2, .loc 0 0), (4, .loc 2 0)], [[.i 0, .i 0, .i 0, .int .u64 0, .i 0, .str [], .str [], .slice [] 0 .exact, .i 0, .i 0, .i 0, .str [], .str [], .i 0, .i 0, .int .u64 0, .i 0, .str [], .str [], .slice [] 0 .exact, .i 0, .i 0, .i 0, .i 0, .str [], .i 0, .i 0], [.i v2.kind, .str v2.text, .int .u64 v2.n, .i v2.line, .i v2.col], [.i 4, .i v27.op, .i v27.bin, .int .u64 v27.n, .i v27.tk, .str v27.tr, .str v27.name, .slice (exRows v27.kids) v27.kids.length .no, .i v27.line, .i v27.col, .i 0, .str [], .str [], .i 0, .i 0, .int .u64 0, .i 0, .str [], .str [], .slice [] 0 .exact, .i 0, .i 0, .i 0, .i 0, .str [], .i v2.line, .i v2.col]], [], [], 0⟩) (σ' := [psAV lo l s28]) (ob := Tt 5) (by kernel_rfl) (tt 5) ?_
            refine AOps.nil ?_
            refine ACode.seq ?_
            refine ACode.run hT nh [2] (fr' := ⟨[(2, .loc 0 0)], [[.i 4, .i v27.op, .i v27.bin, .int .u64 v27.n, .i v27.tk, .str v27.tr, .str v27.name, .slice (exRows v27.kids) v27.kids.length .no, .i v27.line, .i v27.col, .i 0, .str [], .str [], .i 0, .i 0, .int .u64 0, .i 0, .str [], .str [], .slice [] 0 .exact, .i 0, .i 0, .i 0, .i 0, .str [], .i v2.line, .i v2.col], [.i v2.kind, .str v2.text, .int .u64 v2.n, .i v2.line, .i v2.col], [.i 4, .i v27.op, .i v27.bin, .int .u64 v27.n, .i v27.tk, .str v27.tr, .str v27.name, .slice (exRows v27.kids) v27.kids.length .no, .i v27.line, .i v27.col, .i 0, .str [], .str [], .i 0, .i 0, .int .u64 0, .i 0, .str [], .str [], .slice [] 0 .exact, .i 0, .i 0, .i 0, .i 0, .str [], .i v2.line, .i v2.col]], [], [], 0⟩) (σ' := [psAV lo l s28]) (ob := Tt 3) (by kernel_rfl) (tt 3) ?_
            refine ACode.ret ?_
            refine retQ.ret (.agg [.i 4, .i v27.op, .i v27.bin, .int .u64 v27.n, .i v27.tk, .str v27.tr, .str v27.name, .slice (exRows v27.kids) v27.kids.length .no, .i v27.line, .i v27.col, .i 0, .str [], .str [], .i 0, .i 0, .int .u64 0, .i 0, .str [], .str [], .slice [] 0 .exact, .i 0, .i 0, .i 0, .i 0, .str [], .i v2.line, .i v2.col]) (by kernel_rfl) ?_
            subst hX
            exact PR.ok_intro rfl rfl
          ·
           try simp only [h25, Bool.false_eq_true, Bool.not_true, Bool.not_false, if_true, if_false] at hX
           refine ACode.region ?_
           refine AOps.runN hT nh 1 [2, 4, 40] (fr' := ⟨[(2, .loc 0 0), (4, .loc 2 0), (40, .ptr 0 0)], [[.i 0, .i 0, .i 0, .int .u64 0, .i 0, .str [], .str [], .slice [] 0 .exact, .i 0, .i 0, .i 0, .str [], .str [], .i 0, .i 0, .int .u64 0, .i 0, .str [], .str [], .slice [] 0 .exact, .i 0, .i 0, .i 0, .i 0, .str [], .i 0, .i 0], [.i v2.kind, .str v2.text, .int .u64 v2.n, .i v2.line, .i v2.col], [.i 0, .i 0, .i 0, .int .u64 0, .i 0, .str [], .str [], .slice [] 0 .exact, .i 0, .i 0, .i 0, .str [], .str [], .i 0, .i 0, .int .u64 0, .i 0, .str [], .str [], .slice [] 0 .exact, .i 0, .i 0, .i 0, .i 0, .str [], .i v2.line, .i v2.col]], [], [], 0⟩) (σ' := [psAV lo l s24]) (ob := Tt 2) (by kernel_rfl) (tt 2) ?_
           have nk29 : kindF l 1 s24 ≠ .out := by intro h9; simp only [h9, R.out_bind] at hX; exact hne hX.symm
           refine AOps.call (fid := 57) (cap := []) (avs := [.ptr 0 0, .i 1]) (by kernel_rfl) rfl (by kernel_rfl) (by kernel_rfl) en_57 (by kernel_rfl) (ACalls.mono (p_kind l lo hll 1 s24 nk29) ?_)
           cases k29 : kindF l 1 s24 with
           | out => exact absurd k29 nk29
           | bad ea eb ec =>
            rintro _ _ ⟨rfl, pp, dd, rfl⟩
            simp only [k29, R.bad_bind] at hX
            subst hX
            exact PR.bad_intro (vAV := fun (r : Rt) => .agg (rtAV r)) pp dd rfl rfl
           | ok v30 s31 =>
            rintro _ _ ⟨rfl, rfl⟩
            simp only [k29, R.ok_bind] at hX
            refine AOps.runN hT nh 5 [2, 4] (fr' := ⟨[(2, .loc 0 0), (4, .loc 2 0)], [[.i 0, .i 0, .i 0, .int .u64 0, .i 0, .str [], .str [], .slice [] 0 .exact, .i 0, .i 0, .i 0, .str [], .str [], .i 0, .i 0, .int .u64 0, .i 0, .str [], .str [], .slice [] 0 .exact, .i 0, .i 0, .i 0, .i 0, .str [], .i 0, .i 0], [.i v2.kind, .str v2.text, .int .u64 v2.n, .i v2.line, .i v2.col], [.i 3, .i 0, .i 0, .int .u64 0, .i 0, .str [], .str [], .slice [] 0 .exact, .i 0, .i 0, .i 0, .str [], .str [], .i 0, .i 0, .int .u64 0, .i 0, .str [], .str [], .slice [] 0 .exact, .i 0, .i 0, .i 0, .i 0, .str v30.text, .i v2.line, .i v2.col]], [], [], 0⟩) (σ' := [psAV lo l s31]) (ob := Tt 6) (by kernel_rfl) (tt 6) ?_
            refine AOps.nil ?_
            refine ACode.seq ?_
            refine ACode.run hT nh [2] (fr' := ⟨[(2, .loc 0 0)], [[.i 3, .i 0, .i 0, .int .u64 0, .i 0, .str [], .str [], .slice [] 0 .exact, .i 0, .i 0, .i 0, .str [], .str [], .i 0, .i 0, .int .u64 0, .i 0, .str [], .str [], .slice [] 0 .exact, .i 0, .i 0, .i 0, .i 0, .str v30.text, .i v2.line, .i v2.col], [.i v2.kind, .str v2.text, .int .u64 v2.n, .i v2.line, .i v2.col], [.i 3, .i 0, .i 0, .int .u64 0, .i 0, .str [], .str [], .slice [] 0 .exact, .i 0, .i 0, .i 0, .str [], .str [], .i 0, .i 0, .int .u64 0, .i 0, .str [], .str [], .slice [] 0 .exact, .i 0, .i 0, .i 0, .i 0, .str v30.text, .i v2.line, .i v2.col]], [], [], 0⟩) (σ' := [psAV lo l s31]) (ob := Tt 3) (by kernel_rfl) (tt 3) ?_
            refine ACode.ret ?_
            refine retQ.ret (.agg [.i 3, .i 0, .i 0, .int .u64 0, .i 0, .str [], .str [], .slice [] 0 .exact, .i 0, .i 0, .i 0, .str [], .str [], .i 0, .i 0, .int .u64 0, .i 0, .str [], .str [], .slice [] 0 .exact, .i 0, .i 0, .i 0, .i 0, .str v30.text, .i v2.line, .i v2.col]) (by kernel_rfl) ?_
            subst hX
            exact PR.ok_intro rfl rfl
        ·
         try simp only [h21, Bool.false_eq_true, Bool.not_true, Bool.not_false, if_true, if_false] at hX
         refine ACode.region ?_
         refine AOps.runN hT nh 1 [2, 4, 12] (fr' := ⟨[(2, .loc 0 0), (4, .loc 2 0), (12, .ptr 0 0)], [[.i 0, .i 0, .i 0, .int .u64 0, .i 0, .str [], .str [], .slice [] 0 .exact, .i 0, .i 0, .i 0, .str [], .str [], .i 0, .i 0, .int .u64 0, .i 0, .str [], .str [], .slice [] 0 .exact, .i 0, .i 0, .i 0, .i 0, .str [], .i 0, .i 0], [.i v2.kind, .str v2.text, .int .u64 v2.n, .i v2.line, .i v2.col], [.i 0, .i 0, .i 0, .int .u64 0, .i 0, .str [], .str [], .slice [] 0 .exact, .i 0, .i 0, .i 0, .str [], .str [], .i 0, .i 0, .int .u64 0, .i 0, .str [], .str [], .slice [] 0 .exact, .i 0, .i 0, .i 0, .i 0, .str [], .i v2.line, .i v2.col]], [], [], 0⟩) (σ' := [psAV lo l s20]) (ob := Tt 2) (by kernel_rfl) (tt 2) ?_
         have nk32 : exprF n l s20 ≠ .out := by intro h9; simp only [h9, R.out_bind] at hX; exact hne hX.symm
         refine AOps.call (fid := 75) (cap := []) (avs := [.ptr 0 0]) (by kernel_rfl) rfl (by kernel_rfl) (by kernel_rfl) en_75 (by kernel_rfl) (ACalls.mono ((ex_ok l lo hll n).expr s20 nk32) ?_)
         cases k32 : exprF n l s20 with
         | out => exact absurd k32 nk32
         | bad ea eb ec =>
          rintro _ _ ⟨rfl, pp, dd, rfl⟩
          simp only [k32, R.bad_bind] at hX
          subst hX
          exact PR.bad_intro (vAV := fun (r : Rt) => .agg (rtAV r)) pp dd rfl rfl
         | ok v33 s34 =>
          rintro _ _ ⟨rfl, rfl⟩
          simp only [k32, R.ok_bind] at hX
          refine AOps.runN hT nh 4 [2, 4] (fr' := ⟨[(2, .loc 0 0), (4, .loc 2 0)], [[.i 0, .i 0, .i 0, .int .u64 0, .i 0, .str [], .str [], .slice [] 0 .exact, .i 0, .i 0, .i 0, .str [], .str [], .i 0, .i 0, .int .u64 0, .i 0, .str [], .str [], .slice [] 0 .exact, .i 0, .i 0, .i 0, .i 0, .str [], .i 0, .i 0], [.i v2.kind, .str v2.text, .int .u64 v2.n, .i v2.line, .i v2.col], [.i 1, .i v33.op, .i v33.bin, .int .u64 v33.n, .i v33.tk, .str v33.tr, .str v33.name, .slice (exRows v33.kids) v33.kids.length .no, .i v33.line, .i v33.col, .i 0, .str [], .str [], .i 0, .i 0, .int .u64 0, .i 0, .str [], .str [], .slice [] 0 .exact, .i 0, .i 0, .i 0, .i 0, .str [], .i v2.line, .i v2.col]], [], [], 0⟩) (σ' := [psAV lo l s34]) (ob := Tt 5) (by kernel_rfl) (tt 5) ?_
          refine AOps.nil ?_
          refine ACode.seq ?_
          refine ACode.run hT nh [2] (fr' := ⟨[(2, .loc 0 0)], [[.i 1, .i v33.op, .i v33.bin, .int .u64 v33.n, .i v33.tk, .str v33.tr, .str v33.name, .slice (exRows v33.kids) v33.kids.length .no, .i v33.line, .i v33.col, .i 0, .str [], .str [], .i 0, .i 0, .int .u64 0, .i 0, .str [], .str [], .slice [] 0 .exact, .i 0, .i 0, .i 0, .i 0, .str [], .i v2.line, .i v2.col], [.i v2.kind, .str v2.text, .int .u64 v2.n, .i v2.line, .i v2.col], [.i 1, .i v33.op, .i v33.bin, .int .u64 v33.n, .i v33.tk, .str v33.tr, .str v33.name, .slice (exRows v33.kids) v33.kids.length .no, .i v33.line, .i v33.col, .i 0, .str [], .str [], .i 0, .i 0, .int .u64 0, .i 0, .str [], .str [], .slice [] 0 .exact, .i 0, .i 0, .i 0, .i 0, .str [], .i v2.line, .i v2.col]], [], [], 0⟩) (σ' := [psAV lo l s34]) (ob := Tt 3) (by kernel_rfl) (tt 3) ?_
          refine ACode.ret ?_
          refine retQ.ret (.agg [.i 1, .i v33.op, .i v33.bin, .int .u64 v33.n, .i v33.tk, .str v33.tr, .str v33.name, .slice (exRows v33.kids) v33.kids.length .no, .i v33.line, .i v33.col, .i 0, .str [], .str [], .i 0, .i 0, .int .u64 0, .i 0, .str [], .str [], .slice [] 0 .exact, .i 0, .i 0, .i 0, .i 0, .str [], .i v2.line, .i v2.col]) (by kernel_rfl) ?_
          subst hX
          exact PR.ok_intro rfl rfl

theorem p_args (l : List Tok) (lo : Own) (hll : l.length ≤ 100000) (n : Nat) (s : PS)  (hne : argsF n l s ≠ .out) : ACalls Tryd.prog 77 [.ptr 0 0] [psAV lo l s] (PR (fun (a : List Ex) => .slice (exRows a) a.length .no) lo l (argsF n l s)) := by
  generalize hX : argsF n l s = X at hne ⊢
  refine ACalls.soft ?_
  unfold argsF at hX
  refine ACalls.enter hT Tryd.func77 rfl (by kernel_rfl) ?_
  refine ACode.seq ?_
  refine ACode.run hT nh [0] (fr' := ⟨[(0, .ptr 0 0)], [], [], [], 0⟩) (σ' := [psAV lo l s]) (ob := Tt 2) (by kernel_rfl) (tt 2) ?_
  refine ACode.seq ?_
  refine ACode.run hT nh [0, 3] (fr' := ⟨[(0, .ptr 0 0), (3, .slice [] 0 .exact)], [], [], [], 0⟩) (σ' := [psAV lo l s]) (ob := Tt 2) (by kernel_rfl) (tt 2) ?_
  refine ACode.seq ?_
  refine ACode.region ?_
  refine AOps.runN hT nh 1 [0, 3, 4] (fr' := ⟨[(0, .ptr 0 0), (3, .slice [] 0 .exact), (4, .ptr 0 0)], [], [], [], 0⟩) (σ' := [psAV lo l s]) (ob := Tt 2) (by kernel_rfl) (tt 2) ?_
  have nk1 : mustF l [40] s ≠ .out := by intro h9; simp only [h9, R.out_bind] at hX; exact hne hX.symm
  refine AOps.call (fid := 44) (cap := []) (avs := [.ptr 0 0, .str [40]]) (by kernel_rfl) rfl (by kernel_rfl) (by kernel_rfl) en_44 (by kernel_rfl) (ACalls.mono (p_must l lo hll [40] s nk1) ?_)
  cases k1 : mustF l [40] s with
  | out => exact absurd k1 nk1
  | bad ea eb ec =>
   rintro _ _ ⟨rfl, pp, dd, rfl⟩
   simp only [k1, R.bad_bind] at hX
   subst hX
   exact PR.bad_intro (vAV := fun (a : List Ex) => .slice (exRows a) a.length .no) pp dd rfl rfl
  | ok v2 s3 =>
   rintro _ _ ⟨rfl, rfl⟩
   simp only [k1, R.ok_bind] at hX
   refine AOps.nil ?_
   refine ACode.seq ?_
   refine ACode.seq ?_
   refine ACode.region ?_
   refine AOps.runN hT nh 1 [0, 3, 6] (fr' := ⟨[(0, .ptr 0 0), (3, .slice [] 0 .exact), (6, .ptr 0 0)], [], [], [], 0⟩) (σ' := [psAV lo l s3]) (ob := Tt 2) (by kernel_rfl) (tt 2) ?_
   have nk4 : eatF l [41] s3 ≠ .out := by intro h9; simp only [h9, R.out_bind] at hX; exact hne hX.symm
   refine AOps.call (fid := 41) (cap := []) (avs := [.ptr 0 0, .str [41]]) (by kernel_rfl) rfl (by kernel_rfl) (by kernel_rfl) en_41 (by kernel_rfl) (ACalls.mono (p_eat l lo hll [41] s3 nk4) ?_)
   cases k4 : eatF l [41] s3 with
   | out => exact absurd k4 nk4
   | bad ea eb ec =>
    rintro _ _ ⟨rfl, pp, dd, rfl⟩
    simp only [k4, R.bad_bind] at hX
    subst hX
    exact PR.bad_intro (vAV := fun (a : List Ex) => .slice (exRows a) a.length .no) pp dd rfl rfl
   | ok v5 s6 =>
    rintro _ _ ⟨rfl, rfl⟩
    simp only [k4, R.ok_bind] at hX
    refine AOps.nil ?_
    refine ACode.cond (t := v5) (by kernel_rfl) (fun h7 => ?_) (fun h7 => ?_)
    ·
     try simp only [h7, Bool.false_eq_true, Bool.not_true, Bool.not_false, if_true, if_false] at hX
     refine ACode.seq ?_
     refine ACode.run hT nh [2] (fr' := ⟨[(2, .slice [] 0 .exact)], [], [], [], 0⟩) (σ' := [psAV lo l s6]) (ob := Tt 3) (by kernel_rfl) (tt 3) ?_
     refine ACode.ret ?_
     refine retQ.ret (.slice [] 0 .exact) (by kernel_rfl) ?_
     subst hX
     refine PR.ok_intro ?_ rfl
     simp only [exRows_nil]
     rfl
    ·
     try simp only [h7, Bool.false_eq_true, Bool.not_true, Bool.not_false, if_true, if_false] at hX
     refine ACode.skip ?_
     refine ACode.block ?_
     refine ACode.loop [0, 3] 0 0 (fun n0 fr σ' => ∃ (m : Nat), ∃ (acc : List Ex), ∃ (s1 : PS), ∃ (own : Own), ∃ (tk : List Nat), ∃ (nx : Nat), fr = ⟨[(0, .ptr 0 0), (3, .slice (exRows acc) acc.length own)], [], [], tk, nx⟩ ∧ σ' = [psAV lo l s1] ∧ (argsLoopF m l acc s1 = X ∧ Can tk 9 acc.length (exRows acc).length own) ∧ n0 = m + 1) _ (by kernel_rfl) ⟨n, [], s6, .exact, [], 0, rfl, rfl, ⟨hX, by rw [exRows_nil]; rfl⟩, rfl⟩ ?_
     rintro n0 fr σ' ⟨m, acc, s1, own, tk, nx, rfl, rfl, ⟨hX, hC⟩, rfl⟩
     have hm0 : m ≠ 0 := by rintro rfl; exact hne hX.symm
     obtain ⟨m, rfl⟩ : ∃ k, m = k + 1 := ⟨m - 1, by omega⟩
     rw [argsLoopF] at hX
     refine ACode.block ?_
     refine ACode.seq ?_
     refine ACode.region ?_
     refine AOps.runN hT nh 2 [0, 9, 10] (fr' := ⟨[(0, .ptr 0 0), (9, .slice (exRows acc) acc.length own), (10, .ptr 0 0)], [], [], tk, nx⟩) (σ' := [psAV lo l s1]) (ob := Tt 3) (by kernel_rfl) (tt 3) ?_
     have nk8 : exprF m l s1 ≠ .out := by intro h9; simp only [h9, R.out_bind] at hX; exact hne hX.symm
     refine AOps.call (fid := 75) (cap := []) (avs := [.ptr 0 0]) (by kernel_rfl) rfl (by kernel_rfl) (by kernel_rfl) en_75 (by kernel_rfl) (ACalls.mono ((ex_ok l lo hll m).expr s1 nk8) ?_)
     cases k8 : exprF m l s1 with
     | out => exact absurd k8 nk8
     | bad ea eb ec =>
      rintro _ _ ⟨rfl, pp, dd, rfl⟩
      simp only [k8, R.bad_bind] at hX
      subst hX
      exact PR.bad_intro (vAV := fun (a : List Ex) => .slice (exRows a) a.length .no) pp dd rfl rfl
     | ok v9 s10 =>
      rintro _ _ ⟨rfl, rfl⟩
      simp only [k8, R.ok_bind] at hX
      have hr9 : ¬ 100000 < acc.length := by intro h9; rw [if_pos h9] at hX; exact hne hX.symm
      rw [if_neg hr9] at hX
      refine AOps.runN hT nh 1 [0, 9, 12] (fr' := ⟨[(0, .ptr 0 0), (9, .slice (exRows acc) acc.length own), (12, .slice [.i v9.op, .i v9.bin, .int .u64 v9.n, .i v9.tk, .str v9.tr, .str v9.name, .slice (exRows v9.kids) v9.kids.length .no, .i v9.line, .i v9.col] 1 .exact)], [], [], tk, nx⟩) (σ' := [psAV lo l s10]) (ob := Tt 2) (by kernel_rfl) (tt 2) ?_
      refine AOps.append hT (cs := exRows acc) (ds := [.i v9.op, .i v9.bin, .int .u64 v9.n, .i v9.tk, .str v9.tr, .str v9.name, .slice (exRows v9.kids) v9.kids.length .no, .i v9.line, .i v9.col]) (n := acc.length) (k := 1) (own := own) (own' := .exact) (e := 54) (b := true) (sz := 9) (by_ := 104) [] (by kernel_rfl) rfl (by kernel_rfl) (by kernel_rfl) (by kernel_rfl) (by kernel_rfl) hC (by omega) rfl (by unfold room; omega) (fun u hu => by cases hu) ?_
      refine AOps.runN hT nh 1 [0, 3] (fr' := ⟨[(0, .ptr 0 0), (3, .slice ((exRows acc) ++ ([.i v9.op, .i v9.bin, .int .u64 v9.n, .i v9.tk, .str v9.tr, .str v9.name, .slice (exRows v9.kids) v9.kids.length .no, .i v9.line, .i v9.col] : List AV)) (acc.length + 1) (.tok nx 9))], [], [], nx :: [], nx + 1⟩) (σ' := [psAV lo l s10]) (ob := Tt 2) (by kernel_rfl) (tt 2) ?_
      refine AOps.nil ?_
      refine ACode.seq ?_
      refine ACode.seq ?_
      refine ACode.region ?_
      refine AOps.runN hT nh 1 [0, 3, 14] (fr' := ⟨[(0, .ptr 0 0), (3, .slice ((exRows acc) ++ ([.i v9.op, .i v9.bin, .int .u64 v9.n, .i v9.tk, .str v9.tr, .str v9.name, .slice (exRows v9.kids) v9.kids.length .no, .i v9.line, .i v9.col] : List AV)) (acc.length + 1) (.tok nx 9)), (14, .ptr 0 0)], [], [], nx :: [], nx + 1⟩) (σ' := [psAV lo l s10]) (ob := Tt 2) (by kernel_rfl) (tt 2) ?_
      have nk11 : eatF l [41] s10 ≠ .out := by intro h9; simp only [h9, R.out_bind] at hX; exact hne hX.symm
      refine AOps.call (fid := 41) (cap := []) (avs := [.ptr 0 0, .str [41]]) (by kernel_rfl) rfl (by kernel_rfl) (by kernel_rfl) en_41 (by kernel_rfl) (ACalls.mono (p_eat l lo hll [41] s10 nk11) ?_)
      cases k11 : eatF l [41] s10 with
      | out => exact absurd k11 nk11
      | bad ea eb ec =>
       rintro _ _ ⟨rfl, pp, dd, rfl⟩
       simp only [k11, R.bad_bind] at hX
       subst hX
       exact PR.bad_intro (vAV := fun (a : List Ex) => .slice (exRows a) a.length .no) pp dd rfl rfl
      | ok v12 s13 =>
       rintro _ _ ⟨rfl, rfl⟩
       simp only [k11, R.ok_bind] at hX
       refine AOps.nil ?_
       refine ACode.cond (t := v12) (by kernel_rfl) (fun h14 => ?_) (fun h14 => ?_)
       ·
        try simp only [h14, Bool.false_eq_true, Bool.not_true, Bool.not_false, if_true, if_false] at hX
        refine ACode.seq ?_
        refine ACode.run hT nh [2] (fr' := ⟨[(2, .slice ((exRows acc) ++ ([.i v9.op, .i v9.bin, .int .u64 v9.n, .i v9.tk, .str v9.tr, .str v9.name, .slice (exRows v9.kids) v9.kids.length .no, .i v9.line, .i v9.col] : List AV)) (acc.length + 1) (.tok nx 9))], [], [], nx :: [], nx + 1⟩) (σ' := [psAV lo l s13]) (ob := Tt 3) (by kernel_rfl) (tt 3) ?_
        refine ACode.ret ?_
        refine retQ.ret (.slice ((exRows acc) ++ ([.i v9.op, .i v9.bin, .int .u64 v9.n, .i v9.tk, .str v9.tr, .str v9.name, .slice (exRows v9.kids) v9.kids.length .no, .i v9.line, .i v9.col] : List AV)) (acc.length + 1) .no) (by kernel_rfl) ?_
        subst hX
        refine PR.ok_intro ?_ rfl
        simp only [exRows_append, exRows_one, List.length_append, List.length_cons, List.length_nil]
        rfl
       ·
        try simp only [h14, Bool.false_eq_true, Bool.not_true, Bool.not_false, if_true, if_false] at hX
        refine ACode.skip ?_
        refine ACode.region ?_
        refine AOps.runN hT nh 1 [0, 3, 17] (fr' := ⟨[(0, .ptr 0 0), (3, .slice ((exRows acc) ++ ([.i v9.op, .i v9.bin, .int .u64 v9.n, .i v9.tk, .str v9.tr, .str v9.name, .slice (exRows v9.kids) v9.kids.length .no, .i v9.line, .i v9.col] : List AV)) (acc.length + 1) (.tok nx 9)), (17, .ptr 0 0)], [], [], nx :: [], nx + 1⟩) (σ' := [psAV lo l s13]) (ob := Tt 2) (by kernel_rfl) (tt 2) ?_
        have nk15 : mustF l [44] s13 ≠ .out := by intro h9; simp only [h9, R.out_bind] at hX; exact hne hX.symm
        refine AOps.call (fid := 44) (cap := []) (avs := [.ptr 0 0, .str [44]]) (by kernel_rfl) rfl (by kernel_rfl) (by kernel_rfl) en_44 (by kernel_rfl) (ACalls.mono (p_must l lo hll [44] s13 nk15) ?_)
        cases k15 : mustF l [44] s13 with
        | out => exact absurd k15 nk15
        | bad ea eb ec =>
         rintro _ _ ⟨rfl, pp, dd, rfl⟩
         simp only [k15, R.bad_bind] at hX
         subst hX
         exact PR.bad_intro (vAV := fun (a : List Ex) => .slice (exRows a) a.length .no) pp dd rfl rfl
        | ok v16 s17 =>
         rintro _ _ ⟨rfl, rfl⟩
         simp only [k15, R.ok_bind] at hX
         refine AOps.nil ?_
         refine ⟨by kernel_rfl, _, ?_, m, (acc ++ [v9]), s17, .tok nx 9, [nx], nx + 1, (by simp only [exRows_append, exRows_one, List.length_append, List.length_cons, List.length_nil]; rfl), rfl, ?_, rfl⟩
         ·omega
         ·exact ⟨hX, ⟨rfl, by simp⟩⟩


end Go.AE

