/- Parts of the proof of a law, in build order: P5. -/
import Derived.Test.YtjdbmjllhmmddaaDoorP8Q4
import Derived.IntWalk
set_option maxRecDepth 2000
set_option linter.unusedVariables false
set_option linter.unusedSimpArgs false
set_option linter.unusedVariables false
set_option linter.unusedSimpArgs false
set_option maxRecDepth 4000
namespace Go.AE
open Go.Proofs

def cat (a b : List AV) : List AV := a ++ b
def exE : List AV := [.i 0, .i 0, .int .u64 0, .i 0, .str [], .str [], .slice [] 0 .exact, .i 0, .i 0]
def plE : List AV := [.i 0, .str [], .str [], .i 0, .i 0, .int .u64 0, .i 0, .str [], .str [], .slice [] 0 .exact, .i 0, .i 0, .i 0, .i 0]
def rtE : List AV := [.i 0, .i 0, .i 0, .int .u64 0, .i 0, .str [], .str [], .slice [] 0 .exact, .i 0, .i 0, .i 0, .str [], .str [], .i 0, .i 0, .int .u64 0, .i 0, .str [], .str [], .slice [] 0 .exact, .i 0, .i 0, .i 0, .i 0, .str [], .i 0, .i 0]
def sm0AV (nm : List UInt8) (ln cl : Int) : List AV := (cat [.i 0, .str nm] (cat rtE (cat plE (cat exE [.i 0, .slice [] 0 .exact, .slice [] 0 .exact, .slice [] 0 .exact, .i ln, .i cl]))))
structure SmOK (l : List Tok) (lo : Own) (n : Nat) : Prop where
  block : ∀ s, blockF n l s ≠ .out → ACalls Tryd.prog 46 [.ptr 0 0] [psAV lo l s] (PR (fun (a : List Sm) => .slice (smRows a) a.length .no) lo l (blockF n l s))
  stmt : ∀ s, stmtF n l s ≠ .out → ACalls Tryd.prog 60 [.ptr 0 0] [psAV lo l s] (PR (fun (s : Sm) => .agg (smAV s)) lo l (stmtF n l s))
  loop : ∀ nm ln cl s, loopF n l nm ln cl s ≠ .out → ACalls Tryd.prog 71 [.ptr 0 0, .agg (sm0AV nm ln cl)] [psAV lo l s] (PR (fun (s : Sm) => .agg (smAV s)) lo l (loopF n l nm ln cl s))
  byName : ∀ ln cl s, byNameF n l ln cl s ≠ .out → ACalls Tryd.prog 70 [.ptr 0 0, .agg (sm0AV [] ln cl)] [psAV lo l s] (PR (fun (s : Sm) => .agg (smAV s)) lo l (byNameF n l ln cl s))
  branch : ∀ ln cl s, branchF n l ln cl s ≠ .out → ACalls Tryd.prog 72 [.ptr 0 0, .agg (sm0AV [] ln cl)] [psAV lo l s] (PR (fun (s : Sm) => .agg (smAV s)) lo l (branchF n l ln cl s))

theorem p_loop (l : List Tok) (lo : Own) (hll : l.length ≤ 100000) (n : Nat) (nm : List UInt8) (ln cl : Int) (s : PS) (ih : ∀ k, k < n + 1 → SmOK l lo k) (hne : loopF (n + 1) l nm ln cl s ≠ .out) : ACalls Tryd.prog 71 [.ptr 0 0, .agg (cat [.i 0, .str nm] (cat rtE (cat plE (cat exE [.i 0, .slice [] 0 .exact, .slice [] 0 .exact, .slice [] 0 .exact, .i ln, .i cl]))))] [psAV lo l s] (PR (fun (s : Sm) => .agg (smAV s)) lo l (loopF (n + 1) l nm ln cl s)) := by
  generalize hX : loopF (n + 1) l nm ln cl s = X at hne ⊢
  refine ACalls.soft ?_
  rw [loopF] at hX
  refine ACalls.enter hT Tryd.func71 rfl (by kernel_rfl) ?_
  refine ACode.seq ?_
  refine ACode.run hT nh [0, 3, 4] (fr' := ⟨[(0, .ptr 0 0), (3, .loc 0 0), (4, .loc 1 0)], [(cat [.i 0, .str nm] (cat rtE (cat plE (cat exE [.i 0, .slice [] 0 .exact, .slice [] 0 .exact, .slice [] 0 .exact, .i ln, .i cl])))), (cat [.i 0, .str []] (cat rtE (cat plE (cat exE [.i 0, .slice [] 0 .exact, .slice [] 0 .exact, .slice [] 0 .exact, .i 0, .i 0]))))], [], [], 0⟩) (σ' := [psAV lo l s]) (ob := Tt 3) (by kernel_rfl) (tt 3) ?_
  refine ACode.seq ?_
  refine ACode.run hT nh [0, 3, 4] (fr' := ⟨[(0, .ptr 0 0), (3, .loc 0 0), (4, .loc 1 0)], [(cat [.i 7, .str nm] (cat rtE (cat plE (cat exE [.i 0, .slice [] 0 .exact, .slice [] 0 .exact, .slice [] 0 .exact, .i ln, .i cl])))), (cat [.i 0, .str []] (cat rtE (cat plE (cat exE [.i 0, .slice [] 0 .exact, .slice [] 0 .exact, .slice [] 0 .exact, .i 0, .i 0]))))], [], [], 0⟩) (σ' := [psAV lo l s]) (ob := Tt 3) (by kernel_rfl) (tt 3) ?_
  refine ACode.seq ?_
  refine ACode.region ?_
  refine AOps.runN hT nh 1 [0, 3, 4, 6] (fr' := ⟨[(0, .ptr 0 0), (3, .loc 0 0), (4, .loc 1 0), (6, .ptr 0 0)], [(cat [.i 7, .str nm] (cat rtE (cat plE (cat exE [.i 0, .slice [] 0 .exact, .slice [] 0 .exact, .slice [] 0 .exact, .i ln, .i cl])))), (cat [.i 0, .str []] (cat rtE (cat plE (cat exE [.i 0, .slice [] 0 .exact, .slice [] 0 .exact, .slice [] 0 .exact, .i 0, .i 0]))))], [], [], 0⟩) (σ' := [psAV lo l s]) (ob := Tt 2) (by kernel_rfl) (tt 2) ?_
  have nk1 : kindF l 3 s ≠ .out := by intro h9; simp only [h9, R.out_bind] at hX; exact hne hX.symm
  refine AOps.call (fid := 57) (cap := []) (avs := [.ptr 0 0, .i 3]) (by kernel_rfl) rfl (by kernel_rfl) (by kernel_rfl) en_57 (by kernel_rfl) (ACalls.mono (p_kind l lo hll 3 s nk1) ?_)
  cases k1 : kindF l 3 s with
  | out => exact absurd k1 nk1
  | bad ea eb ec =>
   rintro _ _ ⟨rfl, pp, dd, rfl⟩
   simp only [k1, R.bad_bind] at hX
   subst hX
   exact PR.bad_intro (vAV := fun (s : Sm) => .agg (smAV s)) pp dd rfl rfl
  | ok v2 s3 =>
   rintro _ _ ⟨rfl, rfl⟩
   simp only [k1, R.ok_bind] at hX
   refine AOps.runN hT nh 4 [0, 3, 4] (fr' := ⟨[(0, .ptr 0 0), (3, .loc 0 0), (4, .loc 1 0)], [(cat [.i 7, .str nm] (cat rtE (cat plE (cat exE [.i (IntKind.i64.wrap (v2.n)), .slice [] 0 .exact, .slice [] 0 .exact, .slice [] 0 .exact, .i ln, .i cl])))), (cat [.i 0, .str []] (cat rtE (cat plE (cat exE [.i 0, .slice [] 0 .exact, .slice [] 0 .exact, .slice [] 0 .exact, .i 0, .i 0]))))], [], [], 0⟩) (σ' := [psAV lo l s3]) (ob := Tt 5) (by kernel_rfl) (tt 5) ?_
   refine AOps.nil ?_
   refine ACode.seq ?_
   refine ACode.region ?_
   refine AOps.runN hT nh 1 [3, 4, 11] (fr' := ⟨[(3, .loc 0 0), (4, .loc 1 0), (11, .ptr 0 0)], [(cat [.i 7, .str nm] (cat rtE (cat plE (cat exE [.i (IntKind.i64.wrap (v2.n)), .slice [] 0 .exact, .slice [] 0 .exact, .slice [] 0 .exact, .i ln, .i cl])))), (cat [.i 0, .str []] (cat rtE (cat plE (cat exE [.i 0, .slice [] 0 .exact, .slice [] 0 .exact, .slice [] 0 .exact, .i 0, .i 0]))))], [], [], 0⟩) (σ' := [psAV lo l s3]) (ob := Tt 2) (by kernel_rfl) (tt 2) ?_
   have nk4 : blockF n l s3 ≠ .out := by intro h9; simp only [h9, R.out_bind] at hX; exact hne hX.symm
   refine AOps.call (fid := 46) (cap := []) (avs := [.ptr 0 0]) (by kernel_rfl) rfl (by kernel_rfl) (by kernel_rfl) en_46 (by kernel_rfl) (ACalls.mono ((ih n (by omega)).block s3 nk4) ?_)
   cases k4 : blockF n l s3 with
   | out => exact absurd k4 nk4
   | bad ea eb ec =>
    rintro _ _ ⟨rfl, pp, dd, rfl⟩
    simp only [k4, R.bad_bind] at hX
    subst hX
    exact PR.bad_intro (vAV := fun (s : Sm) => .agg (smAV s)) pp dd rfl rfl
   | ok v5 s6 =>
    rintro _ _ ⟨rfl, rfl⟩
    simp only [k4, R.ok_bind] at hX
    refine AOps.runN hT nh 2 [3, 4] (fr' := ⟨[(3, .loc 0 0), (4, .loc 1 0)], [(cat [.i 7, .str nm] (cat rtE (cat plE (cat exE [.i (IntKind.i64.wrap (v2.n)), .slice [] 0 .exact, .slice (smRows v5) v5.length .no, .slice [] 0 .exact, .i ln, .i cl])))), (cat [.i 0, .str []] (cat rtE (cat plE (cat exE [.i 0, .slice [] 0 .exact, .slice [] 0 .exact, .slice [] 0 .exact, .i 0, .i 0]))))], [], [], 0⟩) (σ' := [psAV lo l s6]) (ob := Tt 3) (by kernel_rfl) (tt 3) ?_
    refine AOps.nil ?_
    refine ACode.seq ?_
    refine ACode.run hT nh [4] (fr' := ⟨[(4, .loc 1 0)], [(cat [.i 7, .str nm] (cat rtE (cat plE (cat exE [.i (IntKind.i64.wrap (v2.n)), .slice [] 0 .exact, .slice (smRows v5) v5.length .no, .slice [] 0 .exact, .i ln, .i cl])))), (cat [.i 7, .str nm] (cat rtE (cat plE (cat exE [.i (IntKind.i64.wrap (v2.n)), .slice [] 0 .exact, .slice (smRows v5) v5.length .no, .slice [] 0 .exact, .i ln, .i cl]))))], [], [], 0⟩) (σ' := [psAV lo l s6]) (ob := Tt 3) (by kernel_rfl) (tt 3) ?_
    refine ACode.ret ?_
    refine retQ.ret (.agg (cat [.i 7, .str nm] (cat rtE (cat plE (cat exE [.i (IntKind.i64.wrap (v2.n)), .slice [] 0 .exact, .slice (smRows v5) v5.length .no, .slice [] 0 .exact, .i ln, .i cl]))))) (by kernel_rfl) ?_
    subst hX
    exact PR.ok_intro rfl rfl

theorem p_byName (l : List Tok) (lo : Own) (hll : l.length ≤ 100000) (n : Nat) (ln cl : Int) (s : PS) (ih : ∀ k, k < n + 1 → SmOK l lo k) (hne : byNameF (n + 1) l ln cl s ≠ .out) : ACalls Tryd.prog 70 [.ptr 0 0, .agg (cat [.i 0, .str []] (cat rtE (cat plE (cat exE [.i 0, .slice [] 0 .exact, .slice [] 0 .exact, .slice [] 0 .exact, .i ln, .i cl]))))] [psAV lo l s] (PR (fun (s : Sm) => .agg (smAV s)) lo l (byNameF (n + 1) l ln cl s)) := by
  generalize hX : byNameF (n + 1) l ln cl s = X at hne ⊢
  refine ACalls.soft ?_
  rw [byNameF] at hX
  refine ACalls.enter hT Tryd.func70 rfl (by kernel_rfl) ?_
  refine ACode.seq ?_
  refine ACode.run hT nh [0, 3, 4] (fr' := ⟨[(0, .ptr 0 0), (3, .loc 0 0), (4, .loc 1 0)], [(cat [.i 0, .str []] (cat rtE (cat plE (cat exE [.i 0, .slice [] 0 .exact, .slice [] 0 .exact, .slice [] 0 .exact, .i ln, .i cl])))), (cat [.i 0, .str []] (cat rtE (cat plE (cat exE [.i 0, .slice [] 0 .exact, .slice [] 0 .exact, .slice [] 0 .exact, .i 0, .i 0]))))], [], [], 0⟩) (σ' := [psAV lo l s]) (ob := Tt 3) (by kernel_rfl) (tt 3) ?_
  refine ACode.seq ?_
  refine ACode.region ?_
  refine AOps.runN hT nh 1 [0, 3, 4, 5] (fr' := ⟨[(0, .ptr 0 0), (3, .loc 0 0), (4, .loc 1 0), (5, .ptr 0 0)], [(cat [.i 0, .str []] (cat rtE (cat plE (cat exE [.i 0, .slice [] 0 .exact, .slice [] 0 .exact, .slice [] 0 .exact, .i ln, .i cl])))), (cat [.i 0, .str []] (cat rtE (cat plE (cat exE [.i 0, .slice [] 0 .exact, .slice [] 0 .exact, .slice [] 0 .exact, .i 0, .i 0]))))], [], [], 0⟩) (σ' := [psAV lo l s]) (ob := Tt 2) (by kernel_rfl) (tt 2) ?_
  have nk1 : nextF l s ≠ .out := by intro h9; simp only [h9, R.out_bind] at hX; exact hne hX.symm
  refine AOps.call (fid := 69) (cap := []) (avs := [.ptr 0 0]) (by kernel_rfl) rfl (by kernel_rfl) (by kernel_rfl) en_69 (by kernel_rfl) (ACalls.mono (p_next l lo hll s nk1) ?_)
  cases k1 : nextF l s with
  | out => exact absurd k1 nk1
  | bad ea eb ec =>
   rintro _ _ ⟨rfl, pp, dd, rfl⟩
   simp only [k1, R.bad_bind] at hX
   subst hX
   exact PR.bad_intro (vAV := fun (s : Sm) => .agg (smAV s)) pp dd rfl rfl
  | ok v2 s3 =>
   rintro _ _ ⟨rfl, rfl⟩
   simp only [k1, R.ok_bind] at hX
   refine AOps.runN hT nh 3 [0, 3, 4] (fr' := ⟨[(0, .ptr 0 0), (3, .loc 0 0), (4, .loc 1 0)], [(cat [.i 0, .str v2.text] (cat rtE (cat plE (cat exE [.i 0, .slice [] 0 .exact, .slice [] 0 .exact, .slice [] 0 .exact, .i ln, .i cl])))), (cat [.i 0, .str []] (cat rtE (cat plE (cat exE [.i 0, .slice [] 0 .exact, .slice [] 0 .exact, .slice [] 0 .exact, .i 0, .i 0]))))], [], [], 0⟩) (σ' := [psAV lo l s3]) (ob := Tt 4) (by kernel_rfl) (tt 4) ?_
   refine AOps.nil ?_
   refine ACode.seq ?_
   refine ACode.seq ?_
   refine ACode.region ?_
   refine AOps.runN hT nh 1 [0, 3, 4, 9] (fr' := ⟨[(0, .ptr 0 0), (3, .loc 0 0), (4, .loc 1 0), (9, .ptr 0 0)], [(cat [.i 0, .str v2.text] (cat rtE (cat plE (cat exE [.i 0, .slice [] 0 .exact, .slice [] 0 .exact, .slice [] 0 .exact, .i ln, .i cl])))), (cat [.i 0, .str []] (cat rtE (cat plE (cat exE [.i 0, .slice [] 0 .exact, .slice [] 0 .exact, .slice [] 0 .exact, .i 0, .i 0]))))], [], [], 0⟩) (σ' := [psAV lo l s3]) (ob := Tt 2) (by kernel_rfl) (tt 2) ?_
   have nk4 : eatF l [58] s3 ≠ .out := by intro h9; simp only [h9, R.out_bind] at hX; exact hne hX.symm
   refine AOps.call (fid := 41) (cap := []) (avs := [.ptr 0 0, .str [58]]) (by kernel_rfl) rfl (by kernel_rfl) (by kernel_rfl) en_41 (by kernel_rfl) (ACalls.mono (p_eat l lo hll [58] s3 nk4) ?_)
   cases k4 : eatF l [58] s3 with
   | out => exact absurd k4 nk4
   | bad ea eb ec =>
    rintro _ _ ⟨rfl, pp, dd, rfl⟩
    simp only [k4, R.bad_bind] at hX
    subst hX
    exact PR.bad_intro (vAV := fun (s : Sm) => .agg (smAV s)) pp dd rfl rfl
   | ok v5 s6 =>
    rintro _ _ ⟨rfl, rfl⟩
    simp only [k4, R.ok_bind] at hX
    refine AOps.nil ?_
    refine ACode.cond (t := v5) (by kernel_rfl) (fun h7 => ?_) (fun h7 => ?_)
    ·
     try simp only [h7, Bool.false_eq_true, Bool.not_true, Bool.not_false, if_true, if_false] at hX
     refine ACode.seq ?_
     refine ACode.region ?_
     refine AOps.runN hT nh 1 [0, 3, 4, 11] (fr' := ⟨[(0, .ptr 0 0), (3, .loc 0 0), (4, .loc 1 0), (11, .ptr 0 0)], [(cat [.i 0, .str v2.text] (cat rtE (cat plE (cat exE [.i 0, .slice [] 0 .exact, .slice [] 0 .exact, .slice [] 0 .exact, .i ln, .i cl])))), (cat [.i 0, .str []] (cat rtE (cat plE (cat exE [.i 0, .slice [] 0 .exact, .slice [] 0 .exact, .slice [] 0 .exact, .i 0, .i 0]))))], [], [], 0⟩) (σ' := [psAV lo l s6]) (ob := Tt 2) (by kernel_rfl) (tt 2) ?_
     have nk8 : mustF l [108, 111, 111, 112] s6 ≠ .out := by intro h9; simp only [h9, R.out_bind] at hX; exact hne hX.symm
     refine AOps.call (fid := 44) (cap := []) (avs := [.ptr 0 0, .str [108, 111, 111, 112]]) (by kernel_rfl) rfl (by kernel_rfl) (by kernel_rfl) en_44 (by kernel_rfl) (ACalls.mono (p_must l lo hll [108, 111, 111, 112] s6 nk8) ?_)
     cases k8 : mustF l [108, 111, 111, 112] s6 with
     | out => exact absurd k8 nk8
     | bad ea eb ec =>
      rintro _ _ ⟨rfl, pp, dd, rfl⟩
      simp only [k8, R.bad_bind] at hX
      subst hX
      exact PR.bad_intro (vAV := fun (s : Sm) => .agg (smAV s)) pp dd rfl rfl
     | ok v9 s10 =>
      rintro _ _ ⟨rfl, rfl⟩
      simp only [k8, R.ok_bind] at hX
      refine AOps.nil ?_
      refine ACode.seq ?_
      refine ACode.region ?_
      refine AOps.runN hT nh 2 [4, 13, 14] (fr' := ⟨[(4, .loc 1 0), (13, .ptr 0 0), (14, .agg (cat [.i 0, .str v2.text] (cat rtE (cat plE (cat exE [.i 0, .slice [] 0 .exact, .slice [] 0 .exact, .slice [] 0 .exact, .i ln, .i cl])))))], [(cat [.i 0, .str v2.text] (cat rtE (cat plE (cat exE [.i 0, .slice [] 0 .exact, .slice [] 0 .exact, .slice [] 0 .exact, .i ln, .i cl])))), (cat [.i 0, .str []] (cat rtE (cat plE (cat exE [.i 0, .slice [] 0 .exact, .slice [] 0 .exact, .slice [] 0 .exact, .i 0, .i 0]))))], [], [], 0⟩) (σ' := [psAV lo l s10]) (ob := Tt 3) (by kernel_rfl) (tt 3) ?_
      have nk11 : loopF n l v2.text ln cl s10 ≠ .out := by intro h9; simp only [h9, R.out_bind] at hX; exact hne hX.symm
      refine AOps.call (fid := 71) (cap := []) (avs := [.ptr 0 0, .agg (sm0AV v2.text ln cl)]) (by kernel_rfl) rfl (by kernel_rfl) (by kernel_rfl) en_71 (by kernel_rfl) (ACalls.mono ((ih n (by omega)).loop v2.text ln cl s10 nk11) ?_)
      cases k11 : loopF n l v2.text ln cl s10 with
      | out => exact absurd k11 nk11
      | bad ea eb ec =>
       rintro _ _ ⟨rfl, pp, dd, rfl⟩
       simp only [k11, R.bad_bind] at hX
       subst hX
       exact PR.bad_intro (vAV := fun (s : Sm) => .agg (smAV s)) pp dd rfl rfl
      | ok v12 s13 =>
       rintro _ _ ⟨rfl, rfl⟩
       simp only [k11, R.ok_bind] at hX
       refine AOps.runN hT nh 1 [4] (fr' := ⟨[(4, .loc 1 0)], [(cat [.i 0, .str v2.text] (cat rtE (cat plE (cat exE [.i 0, .slice [] 0 .exact, .slice [] 0 .exact, .slice [] 0 .exact, .i ln, .i cl])))), (smAV v12)], [], [], 0⟩) (σ' := [psAV lo l s13]) (ob := Tt 2) (by kernel_rfl) (tt 2) ?_
       refine AOps.nil ?_
       refine ACode.ret ?_
       refine retQ.ret (.agg (smAV v12)) (by kernel_rfl) ?_
       subst hX
       exact PR.ok_intro rfl rfl
    ·
     try simp only [h7, Bool.false_eq_true, Bool.not_true, Bool.not_false, if_true, if_false] at hX
     refine ACode.skip ?_
     refine ACode.seq ?_
     refine ACode.run hT nh [0, 3, 4] (fr' := ⟨[(0, .ptr 0 0), (3, .loc 0 0), (4, .loc 1 0)], [(cat [.i 3, .str v2.text] (cat rtE (cat plE (cat exE [.i 0, .slice [] 0 .exact, .slice [] 0 .exact, .slice [] 0 .exact, .i ln, .i cl])))), (cat [.i 0, .str []] (cat rtE (cat plE (cat exE [.i 0, .slice [] 0 .exact, .slice [] 0 .exact, .slice [] 0 .exact, .i 0, .i 0]))))], [], [], 0⟩) (σ' := [psAV lo l s6]) (ob := Tt 3) (by kernel_rfl) (tt 3) ?_
     refine ACode.seq ?_
     refine ACode.region ?_
     refine AOps.runN hT nh 1 [0, 3, 4, 17] (fr' := ⟨[(0, .ptr 0 0), (3, .loc 0 0), (4, .loc 1 0), (17, .ptr 0 0)], [(cat [.i 3, .str v2.text] (cat rtE (cat plE (cat exE [.i 0, .slice [] 0 .exact, .slice [] 0 .exact, .slice [] 0 .exact, .i ln, .i cl])))), (cat [.i 0, .str []] (cat rtE (cat plE (cat exE [.i 0, .slice [] 0 .exact, .slice [] 0 .exact, .slice [] 0 .exact, .i 0, .i 0]))))], [], [], 0⟩) (σ' := [psAV lo l s6]) (ob := Tt 2) (by kernel_rfl) (tt 2) ?_
     have nk14 : mustF l [61] s6 ≠ .out := by intro h9; simp only [h9, R.out_bind] at hX; exact hne hX.symm
     refine AOps.call (fid := 44) (cap := []) (avs := [.ptr 0 0, .str [61]]) (by kernel_rfl) rfl (by kernel_rfl) (by kernel_rfl) en_44 (by kernel_rfl) (ACalls.mono (p_must l lo hll [61] s6 nk14) ?_)
     cases k14 : mustF l [61] s6 with
     | out => exact absurd k14 nk14
     | bad ea eb ec =>
      rintro _ _ ⟨rfl, pp, dd, rfl⟩
      simp only [k14, R.bad_bind] at hX
      subst hX
      exact PR.bad_intro (vAV := fun (s : Sm) => .agg (smAV s)) pp dd rfl rfl
     | ok v15 s16 =>
      rintro _ _ ⟨rfl, rfl⟩
      simp only [k14, R.ok_bind] at hX
      refine AOps.nil ?_
      refine ACode.seq ?_
      refine ACode.region ?_
      refine AOps.runN hT nh 1 [0, 3, 4, 19] (fr' := ⟨[(0, .ptr 0 0), (3, .loc 0 0), (4, .loc 1 0), (19, .ptr 0 0)], [(cat [.i 3, .str v2.text] (cat rtE (cat plE (cat exE [.i 0, .slice [] 0 .exact, .slice [] 0 .exact, .slice [] 0 .exact, .i ln, .i cl])))), (cat [.i 0, .str []] (cat rtE (cat plE (cat exE [.i 0, .slice [] 0 .exact, .slice [] 0 .exact, .slice [] 0 .exact, .i 0, .i 0]))))], [], [], 0⟩) (σ' := [psAV lo l s16]) (ob := Tt 2) (by kernel_rfl) (tt 2) ?_
      have nk17 : rightF n l s16 ≠ .out := by intro h9; simp only [h9, R.out_bind] at hX; exact hne hX.symm
      refine AOps.call (fid := 73) (cap := []) (avs := [.ptr 0 0]) (by kernel_rfl) rfl (by kernel_rfl) (by kernel_rfl) en_73 (by kernel_rfl) (ACalls.mono (p_right l lo hll n s16 nk17) ?_)
      cases k17 : rightF n l s16 with
      | out => exact absurd k17 nk17
      | bad ea eb ec =>
       rintro _ _ ⟨rfl, pp, dd, rfl⟩
       simp only [k17, R.bad_bind] at hX
       subst hX
       exact PR.bad_intro (vAV := fun (s : Sm) => .agg (smAV s)) pp dd rfl rfl
      | ok v18 s19 =>
       rintro _ _ ⟨rfl, rfl⟩
       simp only [k17, R.ok_bind] at hX
       refine AOps.runN hT nh 2 [0, 3, 4] (fr' := ⟨[(0, .ptr 0 0), (3, .loc 0 0), (4, .loc 1 0)], [(cat [.i 3, .str v2.text] (cat (rtAV v18) (cat plE (cat exE [.i 0, .slice [] 0 .exact, .slice [] 0 .exact, .slice [] 0 .exact, .i ln, .i cl])))), (cat [.i 0, .str []] (cat rtE (cat plE (cat exE [.i 0, .slice [] 0 .exact, .slice [] 0 .exact, .slice [] 0 .exact, .i 0, .i 0]))))], [], [], 0⟩) (σ' := [psAV lo l s19]) (ob := Tt 3) (by kernel_rfl) (tt 3) ?_
       refine AOps.nil ?_
       refine ACode.seq ?_
       refine ACode.region ?_
       refine AOps.runN hT nh 1 [3, 4, 22] (fr' := ⟨[(3, .loc 0 0), (4, .loc 1 0), (22, .ptr 0 0)], [(cat [.i 3, .str v2.text] (cat (rtAV v18) (cat plE (cat exE [.i 0, .slice [] 0 .exact, .slice [] 0 .exact, .slice [] 0 .exact, .i ln, .i cl])))), (cat [.i 0, .str []] (cat rtE (cat plE (cat exE [.i 0, .slice [] 0 .exact, .slice [] 0 .exact, .slice [] 0 .exact, .i 0, .i 0]))))], [], [], 0⟩) (σ' := [psAV lo l s19]) (ob := Tt 2) (by kernel_rfl) (tt 2) ?_
       have nk20 : mustF l [59] s19 ≠ .out := by intro h9; simp only [h9, R.out_bind] at hX; exact hne hX.symm
       refine AOps.call (fid := 44) (cap := []) (avs := [.ptr 0 0, .str [59]]) (by kernel_rfl) rfl (by kernel_rfl) (by kernel_rfl) en_44 (by kernel_rfl) (ACalls.mono (p_must l lo hll [59] s19 nk20) ?_)
       cases k20 : mustF l [59] s19 with
       | out => exact absurd k20 nk20
       | bad ea eb ec =>
        rintro _ _ ⟨rfl, pp, dd, rfl⟩
        simp only [k20, R.bad_bind] at hX
        subst hX
        exact PR.bad_intro (vAV := fun (s : Sm) => .agg (smAV s)) pp dd rfl rfl
       | ok v21 s22 =>
        rintro _ _ ⟨rfl, rfl⟩
        simp only [k20, R.ok_bind] at hX
        refine AOps.nil ?_
        refine ACode.seq ?_
        refine ACode.run hT nh [4] (fr' := ⟨[(4, .loc 1 0)], [(cat [.i 3, .str v2.text] (cat (rtAV v18) (cat plE (cat exE [.i 0, .slice [] 0 .exact, .slice [] 0 .exact, .slice [] 0 .exact, .i ln, .i cl])))), (cat [.i 3, .str v2.text] (cat (rtAV v18) (cat plE (cat exE [.i 0, .slice [] 0 .exact, .slice [] 0 .exact, .slice [] 0 .exact, .i ln, .i cl]))))], [], [], 0⟩) (σ' := [psAV lo l s22]) (ob := Tt 3) (by kernel_rfl) (tt 3) ?_
        refine ACode.ret ?_
        refine retQ.ret (.agg (cat [.i 3, .str v2.text] (cat (rtAV v18) (cat plE (cat exE [.i 0, .slice [] 0 .exact, .slice [] 0 .exact, .slice [] 0 .exact, .i ln, .i cl]))))) (by kernel_rfl) ?_
        subst hX
        exact PR.ok_intro rfl rfl

theorem p_branch (l : List Tok) (lo : Own) (hll : l.length ≤ 100000) (n : Nat) (ln cl : Int) (s : PS) (ih : ∀ k, k < n + 1 → SmOK l lo k) (hne : branchF (n + 1) l ln cl s ≠ .out) : ACalls Tryd.prog 72 [.ptr 0 0, .agg (cat [.i 0, .str []] (cat rtE (cat plE (cat exE [.i 0, .slice [] 0 .exact, .slice [] 0 .exact, .slice [] 0 .exact, .i ln, .i cl]))))] [psAV lo l s] (PR (fun (s : Sm) => .agg (smAV s)) lo l (branchF (n + 1) l ln cl s)) := by
  generalize hX : branchF (n + 1) l ln cl s = X at hne ⊢
  refine ACalls.soft ?_
  rw [branchF] at hX
  refine ACalls.enter hT Tryd.func72 rfl (by kernel_rfl) ?_
  refine ACode.seq ?_
  refine ACode.run hT nh [0, 3, 4] (fr' := ⟨[(0, .ptr 0 0), (3, .loc 0 0), (4, .loc 1 0)], [(cat [.i 0, .str []] (cat rtE (cat plE (cat exE [.i 0, .slice [] 0 .exact, .slice [] 0 .exact, .slice [] 0 .exact, .i ln, .i cl])))), (cat [.i 0, .str []] (cat rtE (cat plE (cat exE [.i 0, .slice [] 0 .exact, .slice [] 0 .exact, .slice [] 0 .exact, .i 0, .i 0]))))], [], [], 0⟩) (σ' := [psAV lo l s]) (ob := Tt 3) (by kernel_rfl) (tt 3) ?_
  refine ACode.seq ?_
  refine ACode.region ?_
  refine AOps.runN hT nh 1 [0, 3, 4, 5] (fr' := ⟨[(0, .ptr 0 0), (3, .loc 0 0), (4, .loc 1 0), (5, .ptr 0 0)], [(cat [.i 0, .str []] (cat rtE (cat plE (cat exE [.i 0, .slice [] 0 .exact, .slice [] 0 .exact, .slice [] 0 .exact, .i ln, .i cl])))), (cat [.i 0, .str []] (cat rtE (cat plE (cat exE [.i 0, .slice [] 0 .exact, .slice [] 0 .exact, .slice [] 0 .exact, .i 0, .i 0]))))], [], [], 0⟩) (σ' := [psAV lo l s]) (ob := Tt 2) (by kernel_rfl) (tt 2) ?_
  have nk1 : exprF n l s ≠ .out := by intro h9; simp only [h9, R.out_bind] at hX; exact hne hX.symm
  refine AOps.call (fid := 75) (cap := []) (avs := [.ptr 0 0]) (by kernel_rfl) rfl (by kernel_rfl) (by kernel_rfl) en_75 (by kernel_rfl) (ACalls.mono ((ex_ok l lo hll n).expr s nk1) ?_)
  cases k1 : exprF n l s with
  | out => exact absurd k1 nk1
  | bad ea eb ec =>
   rintro _ _ ⟨rfl, pp, dd, rfl⟩
   simp only [k1, R.bad_bind] at hX
   subst hX
   exact PR.bad_intro (vAV := fun (s : Sm) => .agg (smAV s)) pp dd rfl rfl
  | ok v2 s3 =>
   rintro _ _ ⟨rfl, rfl⟩
   simp only [k1, R.ok_bind] at hX
   refine AOps.runN hT nh 6 [0, 3, 4] (fr' := ⟨[(0, .ptr 0 0), (3, .loc 0 0), (4, .loc 1 0)], [(cat [.i 6, .str []] (cat rtE (cat plE (cat (exAV v2) [.i 0, .slice [] 0 .exact, .slice [] 0 .exact, .slice [] 0 .exact, .i ln, .i cl])))), (cat [.i 0, .str []] (cat rtE (cat plE (cat exE [.i 0, .slice [] 0 .exact, .slice [] 0 .exact, .slice [] 0 .exact, .i 0, .i 0]))))], [], [], 0⟩) (σ' := [psAV lo l s3]) (ob := Tt 7) (by kernel_rfl) (tt 7) ?_
   refine AOps.nil ?_
   refine ACode.seq ?_
   refine ACode.region ?_
   refine AOps.runN hT nh 1 [0, 3, 4, 10] (fr' := ⟨[(0, .ptr 0 0), (3, .loc 0 0), (4, .loc 1 0), (10, .ptr 0 0)], [(cat [.i 6, .str []] (cat rtE (cat plE (cat (exAV v2) [.i 0, .slice [] 0 .exact, .slice [] 0 .exact, .slice [] 0 .exact, .i ln, .i cl])))), (cat [.i 0, .str []] (cat rtE (cat plE (cat exE [.i 0, .slice [] 0 .exact, .slice [] 0 .exact, .slice [] 0 .exact, .i 0, .i 0]))))], [], [], 0⟩) (σ' := [psAV lo l s3]) (ob := Tt 2) (by kernel_rfl) (tt 2) ?_
   have nk4 : blockF n l s3 ≠ .out := by intro h9; simp only [h9, R.out_bind] at hX; exact hne hX.symm
   refine AOps.call (fid := 46) (cap := []) (avs := [.ptr 0 0]) (by kernel_rfl) rfl (by kernel_rfl) (by kernel_rfl) en_46 (by kernel_rfl) (ACalls.mono ((ih n (by omega)).block s3 nk4) ?_)
   cases k4 : blockF n l s3 with
   | out => exact absurd k4 nk4
   | bad ea eb ec =>
    rintro _ _ ⟨rfl, pp, dd, rfl⟩
    simp only [k4, R.bad_bind] at hX
    subst hX
    exact PR.bad_intro (vAV := fun (s : Sm) => .agg (smAV s)) pp dd rfl rfl
   | ok v5 s6 =>
    rintro _ _ ⟨rfl, rfl⟩
    simp only [k4, R.ok_bind] at hX
    refine AOps.runN hT nh 2 [0, 3, 4] (fr' := ⟨[(0, .ptr 0 0), (3, .loc 0 0), (4, .loc 1 0)], [(cat [.i 6, .str []] (cat rtE (cat plE (cat (exAV v2) [.i 0, .slice [] 0 .exact, .slice (smRows v5) v5.length .no, .slice [] 0 .exact, .i ln, .i cl])))), (cat [.i 0, .str []] (cat rtE (cat plE (cat exE [.i 0, .slice [] 0 .exact, .slice [] 0 .exact, .slice [] 0 .exact, .i 0, .i 0]))))], [], [], 0⟩) (σ' := [psAV lo l s6]) (ob := Tt 3) (by kernel_rfl) (tt 3) ?_
    refine AOps.nil ?_
    refine ACode.seq ?_
    refine ACode.seq ?_
    refine ACode.region ?_
    refine AOps.runN hT nh 1 [0, 3, 4, 13] (fr' := ⟨[(0, .ptr 0 0), (3, .loc 0 0), (4, .loc 1 0), (13, .ptr 0 0)], [(cat [.i 6, .str []] (cat rtE (cat plE (cat (exAV v2) [.i 0, .slice [] 0 .exact, .slice (smRows v5) v5.length .no, .slice [] 0 .exact, .i ln, .i cl])))), (cat [.i 0, .str []] (cat rtE (cat plE (cat exE [.i 0, .slice [] 0 .exact, .slice [] 0 .exact, .slice [] 0 .exact, .i 0, .i 0]))))], [], [], 0⟩) (σ' := [psAV lo l s6]) (ob := Tt 2) (by kernel_rfl) (tt 2) ?_
    have nk7 : eatF l [101, 108, 115, 101] s6 ≠ .out := by intro h9; simp only [h9, R.out_bind] at hX; exact hne hX.symm
    refine AOps.call (fid := 41) (cap := []) (avs := [.ptr 0 0, .str [101, 108, 115, 101]]) (by kernel_rfl) rfl (by kernel_rfl) (by kernel_rfl) en_41 (by kernel_rfl) (ACalls.mono (p_eat l lo hll [101, 108, 115, 101] s6 nk7) ?_)
    cases k7 : eatF l [101, 108, 115, 101] s6 with
    | out => exact absurd k7 nk7
    | bad ea eb ec =>
     rintro _ _ ⟨rfl, pp, dd, rfl⟩
     simp only [k7, R.bad_bind] at hX
     subst hX
     exact PR.bad_intro (vAV := fun (s : Sm) => .agg (smAV s)) pp dd rfl rfl
    | ok v8 s9 =>
     rintro _ _ ⟨rfl, rfl⟩
     simp only [k7, R.ok_bind] at hX
     refine AOps.nil ?_
     refine ACode.cond (t := v8) (by kernel_rfl) (fun h10 => ?_) (fun h10 => ?_)
     ·
      try simp only [h10, Bool.false_eq_true, Bool.not_true, Bool.not_false, if_true, if_false] at hX
      refine ACode.region ?_
      refine AOps.runN hT nh 1 [3, 4, 15] (fr' := ⟨[(3, .loc 0 0), (4, .loc 1 0), (15, .ptr 0 0)], [(cat [.i 6, .str []] (cat rtE (cat plE (cat (exAV v2) [.i 0, .slice [] 0 .exact, .slice (smRows v5) v5.length .no, .slice [] 0 .exact, .i ln, .i cl])))), (cat [.i 0, .str []] (cat rtE (cat plE (cat exE [.i 0, .slice [] 0 .exact, .slice [] 0 .exact, .slice [] 0 .exact, .i 0, .i 0]))))], [], [], 0⟩) (σ' := [psAV lo l s9]) (ob := Tt 2) (by kernel_rfl) (tt 2) ?_
      have nk11 : blockF n l s9 ≠ .out := by intro h9; simp only [h9, R.out_bind] at hX; exact hne hX.symm
      refine AOps.call (fid := 46) (cap := []) (avs := [.ptr 0 0]) (by kernel_rfl) rfl (by kernel_rfl) (by kernel_rfl) en_46 (by kernel_rfl) (ACalls.mono ((ih n (by omega)).block s9 nk11) ?_)
      cases k11 : blockF n l s9 with
      | out => exact absurd k11 nk11
      | bad ea eb ec =>
       rintro _ _ ⟨rfl, pp, dd, rfl⟩
       simp only [k11, R.bad_bind] at hX
       subst hX
       exact PR.bad_intro (vAV := fun (s : Sm) => .agg (smAV s)) pp dd rfl rfl
      | ok v12 s13 =>
       rintro _ _ ⟨rfl, rfl⟩
       simp only [k11, R.ok_bind] at hX
       refine AOps.runN hT nh 2 [3, 4] (fr' := ⟨[(3, .loc 0 0), (4, .loc 1 0)], [(cat [.i 6, .str []] (cat rtE (cat plE (cat (exAV v2) [.i 0, .slice [] 0 .exact, .slice (smRows v5) v5.length .no, .slice (smRows v12) v12.length .no, .i ln, .i cl])))), (cat [.i 0, .str []] (cat rtE (cat plE (cat exE [.i 0, .slice [] 0 .exact, .slice [] 0 .exact, .slice [] 0 .exact, .i 0, .i 0]))))], [], [], 0⟩) (σ' := [psAV lo l s13]) (ob := Tt 3) (by kernel_rfl) (tt 3) ?_
       refine AOps.nil ?_
       refine ACode.seq ?_
       refine ACode.run hT nh [4] (fr' := ⟨[(4, .loc 1 0)], [(cat [.i 6, .str []] (cat rtE (cat plE (cat (exAV v2) [.i 0, .slice [] 0 .exact, .slice (smRows v5) v5.length .no, .slice (smRows v12) v12.length .no, .i ln, .i cl])))), (cat [.i 6, .str []] (cat rtE (cat plE (cat (exAV v2) [.i 0, .slice [] 0 .exact, .slice (smRows v5) v5.length .no, .slice (smRows v12) v12.length .no, .i ln, .i cl]))))], [], [], 0⟩) (σ' := [psAV lo l s13]) (ob := Tt 3) (by kernel_rfl) (tt 3) ?_
       refine ACode.ret ?_
       refine retQ.ret (.agg (cat [.i 6, .str []] (cat rtE (cat plE (cat (exAV v2) [.i 0, .slice [] 0 .exact, .slice (smRows v5) v5.length .no, .slice (smRows v12) v12.length .no, .i ln, .i cl]))))) (by kernel_rfl) ?_
       subst hX
       exact PR.ok_intro rfl rfl
     ·
      try simp only [h10, Bool.false_eq_true, Bool.not_true, Bool.not_false, if_true, if_false] at hX
      refine ACode.skip ?_
      refine ACode.seq ?_
      refine ACode.run hT nh [4] (fr' := ⟨[(4, .loc 1 0)], [(cat [.i 6, .str []] (cat rtE (cat plE (cat (exAV v2) [.i 0, .slice [] 0 .exact, .slice (smRows v5) v5.length .no, .slice [] 0 .exact, .i ln, .i cl])))), (cat [.i 6, .str []] (cat rtE (cat plE (cat (exAV v2) [.i 0, .slice [] 0 .exact, .slice (smRows v5) v5.length .no, .slice [] 0 .exact, .i ln, .i cl]))))], [], [], 0⟩) (σ' := [psAV lo l s9]) (ob := Tt 3) (by kernel_rfl) (tt 3) ?_
      refine ACode.ret ?_
      refine retQ.ret (.agg (cat [.i 6, .str []] (cat rtE (cat plE (cat (exAV v2) [.i 0, .slice [] 0 .exact, .slice (smRows v5) v5.length .no, .slice [] 0 .exact, .i ln, .i cl]))))) (by kernel_rfl) ?_
      subst hX
      exact PR.ok_intro rfl rfl

theorem p_block (l : List Tok) (lo : Own) (hll : l.length ≤ 100000) (n : Nat) (s : PS) (ih : ∀ k, k < n + 1 → SmOK l lo k) (hne : blockF (n + 1) l s ≠ .out) : ACalls Tryd.prog 46 [.ptr 0 0] [psAV lo l s] (PR (fun (a : List Sm) => .slice (smRows a) a.length .no) lo l (blockF (n + 1) l s)) := by
  generalize hX : blockF (n + 1) l s = X at hne ⊢
  refine ACalls.soft ?_
  rw [blockF] at hX
  refine ACalls.enter hT Tryd.func46 rfl (by kernel_rfl) ?_
  refine ACode.seq ?_
  refine ACode.run hT nh [0] (fr' := ⟨[(0, .ptr 0 0)], [], [], [], 0⟩) (σ' := [psAV lo l s]) (ob := Tt 2) (by kernel_rfl) (tt 2) ?_
  refine ACode.seq ?_
  refine ACode.region ?_
  refine AOps.runN hT nh 2 [0, 4, 5] (fr' := ⟨[(0, .ptr 0 0), (4, .ptr 0 0), (5, .ptr 0 0)], [], [], [], 0⟩) (σ' := [psAV lo l s]) (ob := Tt 3) (by kernel_rfl) (tt 3) ?_
  have nk1 : mustF l [123] s ≠ .out := by intro h9; simp only [h9, R.out_bind] at hX; exact hne hX.symm
  refine AOps.call (fid := 44) (cap := []) (avs := [.ptr 0 0, .str [123]]) (by kernel_rfl) rfl (by kernel_rfl) (by kernel_rfl) en_44 (by kernel_rfl) (ACalls.mono (p_must l lo hll [123] s nk1) ?_)
  cases k1 : mustF l [123] s with
  | out => exact absurd k1 nk1
  | bad ea eb ec =>
   rintro _ _ ⟨rfl, pp, dd, rfl⟩
   simp only [k1, R.bad_bind] at hX
   subst hX
   exact PR.bad_intro (vAV := fun (a : List Sm) => .slice (smRows a) a.length .no) pp dd rfl rfl
  | ok v2 s3 =>
   rintro _ _ ⟨rfl, rfl⟩
   simp only [k1, R.ok_bind] at hX
   have nk4 : downF v2 s3 ≠ .out := by intro h9; simp only [h9, R.out_bind] at hX; exact hne hX.symm
   refine AOps.call (fid := 59) (cap := []) (avs := [.ptr 0 0, .agg (tokAV v2)]) (by kernel_rfl) rfl (by kernel_rfl) (by kernel_rfl) en_59 (by kernel_rfl) (ACalls.mono (p_down l lo hll v2 s3 nk4) ?_)
   cases k4 : downF v2 s3 with
   | out => exact absurd k4 nk4
   | bad ea eb ec =>
    rintro _ _ ⟨rfl, pp, dd, rfl⟩
    simp only [k4, R.bad_bind] at hX
    subst hX
    exact PR.bad_intro (vAV := fun (a : List Sm) => .slice (smRows a) a.length .no) pp dd rfl rfl
   | ok v5 s6 =>
    rintro _ _ ⟨rfl, rfl⟩
    simp only [k4, R.ok_bind] at hX
    refine AOps.nil ?_
    refine ACode.seq ?_
    refine ACode.run hT nh [0, 3] (fr' := ⟨[(0, .ptr 0 0), (3, .slice [] 0 .exact)], [], [], [], 0⟩) (σ' := [psAV lo l s6]) (ob := Tt 2) (by kernel_rfl) (tt 2) ?_
    refine ACode.seq ?_
    refine ACode.block ?_
    refine ACode.loop [0, 3] 0 0 (fun n0 fr σ' => ∃ (m : Nat), ∃ (acc : List Sm), ∃ (s1 : PS), ∃ (own : Own), ∃ (tk : List Nat), ∃ (nx : Nat), fr = ⟨[(0, .ptr 0 0), (3, .slice (smRows acc) acc.length own)], [], [], tk, nx⟩ ∧ σ' = [psAV lo l s1] ∧ (m ≤ n ∧ blockLoopF m l acc s1 = X ∧ Can tk 58 acc.length (smRows acc).length own) ∧ n0 = m + 1) _ (by kernel_rfl) ⟨n, [], s6, .exact, [], 0, rfl, rfl, ⟨Nat.le_refl _, hX, by rw [smRows_nil]; rfl⟩, rfl⟩ ?_
    rintro n0 fr σ' ⟨m, acc, s1, own, tk, nx, rfl, rfl, ⟨hm, hX, hC⟩, rfl⟩
    have hm0 : m ≠ 0 := by rintro rfl; exact hne hX.symm
    obtain ⟨m, rfl⟩ : ∃ k, m = k + 1 := ⟨m - 1, by omega⟩
    rw [blockLoopF] at hX
    refine ACode.seq ?_
    refine ACode.seq ?_
    refine ACode.region ?_
    refine AOps.runN hT nh 1 [0, 3, 8] (fr' := ⟨[(0, .ptr 0 0), (3, .slice (smRows acc) acc.length own), (8, .ptr 0 0)], [], [], tk, nx⟩) (σ' := [psAV lo l s1]) (ob := Tt 2) (by kernel_rfl) (tt 2) ?_
    have nk7 : eatF l [125] s1 ≠ .out := by intro h9; simp only [h9, R.out_bind] at hX; exact hne hX.symm
    refine AOps.call (fid := 41) (cap := []) (avs := [.ptr 0 0, .str [125]]) (by kernel_rfl) rfl (by kernel_rfl) (by kernel_rfl) en_41 (by kernel_rfl) (ACalls.mono (p_eat l lo hll [125] s1 nk7) ?_)
    cases k7 : eatF l [125] s1 with
    | out => exact absurd k7 nk7
    | bad ea eb ec =>
     rintro _ _ ⟨rfl, pp, dd, rfl⟩
     simp only [k7, R.bad_bind] at hX
     subst hX
     exact PR.bad_intro (vAV := fun (a : List Sm) => .slice (smRows a) a.length .no) pp dd rfl rfl
    | ok v8 s9 =>
     rintro _ _ ⟨rfl, rfl⟩
     simp only [k7, R.ok_bind] at hX
     refine AOps.runN hT nh 1 [0, 3, 10] (fr' := ⟨[(0, .ptr 0 0), (3, .slice (smRows acc) acc.length own), (10, .bool (!v8))], [], [], tk, nx⟩) (σ' := [psAV lo l s9]) (ob := Tt 2) (by kernel_rfl) (tt 2) ?_
     refine AOps.nil ?_
     refine ACode.cond (t := !v8) (by kernel_rfl) (fun h10 => ?_) (fun h10 => ?_)
     ·
      have h10k := h10; simp only [Bool.and_eq_true, Bool.or_eq_true, Bool.and_eq_false_iff, Bool.or_eq_false_iff, decide_eq_true_eq, decide_eq_false_iff_not, beq_iff_eq, bne_iff_ne, ne_eq, Bool.not_eq_true', Bool.not_eq_false', beq_eq_false_iff_ne, bne_eq_false_iff_eq] at h10k
      try simp only [h10, Bool.false_eq_true, Bool.not_true, Bool.not_false, if_true, if_false] at hX
      refine ACode.skip ?_
      refine ACode.block ?_
      refine ACode.region ?_
      refine AOps.runN hT nh 2 [0, 11, 12] (fr' := ⟨[(0, .ptr 0 0), (11, .slice (smRows acc) acc.length own), (12, .ptr 0 0)], [], [], tk, nx⟩) (σ' := [psAV lo l s9]) (ob := Tt 3) (by kernel_rfl) (tt 3) ?_
      have nk11 : stmtF m l s9 ≠ .out := by intro h9; simp only [h9, R.out_bind] at hX; exact hne hX.symm
      refine AOps.call (fid := 60) (cap := []) (avs := [.ptr 0 0]) (by kernel_rfl) rfl (by kernel_rfl) (by kernel_rfl) en_60 (by kernel_rfl) (ACalls.mono ((ih m (by omega)).stmt s9 nk11) ?_)
      cases k11 : stmtF m l s9 with
      | out => exact absurd k11 nk11
      | bad ea eb ec =>
       rintro _ _ ⟨rfl, pp, dd, rfl⟩
       simp only [k11, R.bad_bind] at hX
       subst hX
       exact PR.bad_intro (vAV := fun (a : List Sm) => .slice (smRows a) a.length .no) pp dd rfl rfl
      | ok v12 s13 =>
       rintro _ _ ⟨rfl, rfl⟩
       simp only [k11, R.ok_bind] at hX
       have hr9 : ¬ 100000 < acc.length := by intro h9; rw [if_pos h9] at hX; exact hne hX.symm
       rw [if_neg hr9] at hX
       refine AOps.runN hT nh 1 [0, 11, 14] (fr' := ⟨[(0, .ptr 0 0), (11, .slice (smRows acc) acc.length own), (14, .slice (smAV v12) 1 .exact)], [], [], tk, nx⟩) (σ' := [psAV lo l s13]) (ob := Tt 2) (by kernel_rfl) (tt 2) ?_
       refine AOps.append hT (cs := smRows acc) (ds := (smAV v12)) (n := acc.length) (k := 1) (own := own) (own' := .exact) (e := 60) (b := true) (sz := 58) (by_ := 688) [] (by kernel_rfl) rfl (by kernel_rfl) (by kernel_rfl) (by kernel_rfl) (by kernel_rfl) hC (by omega) rfl (by unfold room; omega) (fun u hu => by cases hu) ?_
       refine AOps.runN hT nh 1 [0, 3] (fr' := ⟨[(0, .ptr 0 0), (3, .slice ((smRows acc) ++ ((smAV v12) : List AV)) (acc.length + 1) (.tok nx 58))], [], [], nx :: [], nx + 1⟩) (σ' := [psAV lo l s13]) (ob := Tt 2) (by kernel_rfl) (tt 2) ?_
       refine AOps.nil ?_
       refine ⟨by kernel_rfl, _, ?_, m, (acc ++ [v12]), s13, .tok nx 58, [nx], nx + 1, (by simp only [smRows_append, smRows_one, List.length_append, List.length_cons, List.length_nil]; rfl), rfl, ?_, rfl⟩
       ·omega
       ·exact ⟨by omega, hX, ⟨rfl, by simp⟩⟩
     ·
      have h10k := h10; simp only [Bool.and_eq_true, Bool.or_eq_true, Bool.and_eq_false_iff, Bool.or_eq_false_iff, decide_eq_true_eq, decide_eq_false_iff_not, beq_iff_eq, bne_iff_ne, ne_eq, Bool.not_eq_true', Bool.not_eq_false', beq_eq_false_iff_ne, bne_eq_false_iff_eq] at h10k
      try simp only [h10, Bool.false_eq_true, Bool.not_true, Bool.not_false, if_true, if_false] at hX
      refine ACode.exit ?_
      refine ACode.seq ?_
      replace hX := upF_bind hne hX
      obtain ⟨hdp, hX⟩ := hX
      refine ACode.run hT nh [3] (fr' := ⟨[(3, .slice (smRows acc) acc.length own)], [], [], tk, nx⟩) (σ' := [[.slice (toksAV l) l.length lo, .i (s9.pos : Int), .i (IntKind.i64.wrap (s9.dep - 1)), .i 0, .i 0, .i 0]]) (ob := Tt 9) (by kernel_rfl) (tt 9) ?_
      rw [IntWalk.i64_in (s9.dep - 1) (by omega)]
      refine ACode.softSl 3 ?_
      refine ACode.seq ?_
      refine ACode.run hT nh [2] (fr' := ⟨[(2, .slice (smRows acc) acc.length .no)], [], [], tk, nx⟩) (σ' := [[.slice (toksAV l) l.length lo, .i (s9.pos : Int), .i (s9.dep - 1), .i 0, .i 0, .i 0]]) (ob := Tt 3) (by kernel_rfl) (tt 3) ?_
      refine ACode.ret ?_
      refine retQ.ret (.slice (smRows acc) acc.length .no) (by kernel_rfl) ?_
      subst hX
      exact PR.ok_intro rfl rfl

theorem p_stmt (l : List Tok) (lo : Own) (hll : l.length ≤ 100000) (n : Nat) (s : PS) (ih : ∀ k, k < n + 1 → SmOK l lo k) (hne : stmtF (n + 1) l s ≠ .out) : ACalls Tryd.prog 60 [.ptr 0 0] [psAV lo l s] (PR (fun (s : Sm) => .agg (smAV s)) lo l (stmtF (n + 1) l s)) := by
  generalize hX : stmtF (n + 1) l s = X at hne ⊢
  refine ACalls.soft ?_
  rw [stmtF] at hX
  refine ACalls.enter hT Tryd.func60 rfl (by kernel_rfl) ?_
  refine ACode.seq ?_
  refine ACode.run hT nh [0, 2] (fr' := ⟨[(0, .ptr 0 0), (2, .loc 0 0)], [(cat [.i 0, .str []] (cat rtE (cat plE (cat exE [.i 0, .slice [] 0 .exact, .slice [] 0 .exact, .slice [] 0 .exact, .i 0, .i 0]))))], [], [], 0⟩) (σ' := [psAV lo l s]) (ob := Tt 2) (by kernel_rfl) (tt 2) ?_
  refine ACode.seq ?_
  refine ACode.region ?_
  refine AOps.runN hT nh 1 [0, 2, 5] (fr' := ⟨[(0, .ptr 0 0), (2, .loc 0 0), (5, .ptr 0 0)], [(cat [.i 0, .str []] (cat rtE (cat plE (cat exE [.i 0, .slice [] 0 .exact, .slice [] 0 .exact, .slice [] 0 .exact, .i 0, .i 0]))))], [], [], 0⟩) (σ' := [psAV lo l s]) (ob := Tt 2) (by kernel_rfl) (tt 2) ?_
  have nk1 : peekF l s ≠ .out := by intro h9; simp only [h9, R.out_bind] at hX; exact hne hX.symm
  refine AOps.call (fid := 40) (cap := []) (avs := [.ptr 0 0]) (by kernel_rfl) rfl (by kernel_rfl) (by kernel_rfl) en_40 (by kernel_rfl) (ACalls.mono (p_peek l lo hll s nk1) ?_)
  cases k1 : peekF l s with
  | out => exact absurd k1 nk1
  | bad ea eb ec =>
   rintro _ _ ⟨rfl, pp, dd, rfl⟩
   simp only [k1, R.bad_bind] at hX
   subst hX
   exact PR.bad_intro (vAV := fun (s : Sm) => .agg (smAV s)) pp dd rfl rfl
  | ok v2 s3 =>
   rintro _ _ ⟨rfl, rfl⟩
   simp only [k1, R.ok_bind] at hX
   obtain ⟨hsk1, hpk1, hvk1⟩ := peekF_ok k1
   refine AOps.runN hT nh 2 [0, 2, 3] (fr' := ⟨[(0, .ptr 0 0), (2, .loc 0 0), (3, .loc 1 0)], [(cat [.i 0, .str []] (cat rtE (cat plE (cat exE [.i 0, .slice [] 0 .exact, .slice [] 0 .exact, .slice [] 0 .exact, .i 0, .i 0])))), (tokAV v2)], [], [], 0⟩) (σ' := [psAV lo l s3]) (ob := Tt 3) (by kernel_rfl) (tt 3) ?_
   refine AOps.nil ?_
   refine ACode.seq ?_
   refine ACode.run hT nh [0, 2, 3, 4] (fr' := ⟨[(0, .ptr 0 0), (2, .loc 0 0), (3, .loc 1 0), (4, .loc 2 0)], [(cat [.i 0, .str []] (cat rtE (cat plE (cat exE [.i 0, .slice [] 0 .exact, .slice [] 0 .exact, .slice [] 0 .exact, .i 0, .i 0])))), (tokAV v2), (cat [.i 0, .str []] (cat rtE (cat plE (cat exE [.i 0, .slice [] 0 .exact, .slice [] 0 .exact, .slice [] 0 .exact, .i v2.line, .i v2.col]))))], [], [], 0⟩) (σ' := [psAV lo l s3]) (ob := Tt 8) (by kernel_rfl) (tt 8) ?_
   refine ACode.seq ?_
   refine ACode.seq ?_
   refine ACode.run hT nh [0, 2, 3, 4, 14] (fr' := ⟨[(0, .ptr 0 0), (2, .loc 0 0), (3, .loc 1 0), (4, .loc 2 0), (14, .bool (v2.kind == 1))], [(cat [.i 0, .str []] (cat rtE (cat plE (cat exE [.i 0, .slice [] 0 .exact, .slice [] 0 .exact, .slice [] 0 .exact, .i 0, .i 0])))), (tokAV v2), (cat [.i 0, .str []] (cat rtE (cat plE (cat exE [.i 0, .slice [] 0 .exact, .slice [] 0 .exact, .slice [] 0 .exact, .i v2.line, .i v2.col]))))], [], [], 0⟩) (σ' := [psAV lo l s3]) (ob := Tt 4) (by kernel_rfl) (tt 4) ?_
   refine ACode.cond (t := v2.kind == 1) (by kernel_rfl) (fun h4 => ?_) (fun h4 => ?_)
   ·
    have h4k := eq_of_beq h4
    try simp only [h4, Bool.false_eq_true, Bool.not_true, Bool.not_false, if_true, if_false] at hX
    try simp only [letF] at hX
    refine ACode.seq ?_
    refine ACode.region ?_
    refine AOps.runN hT nh 2 [2, 15, 16] (fr' := ⟨[(2, .loc 0 0), (15, .ptr 0 0), (16, .agg (cat [.i 0, .str []] (cat rtE (cat plE (cat exE [.i 0, .slice [] 0 .exact, .slice [] 0 .exact, .slice [] 0 .exact, .i v2.line, .i v2.col])))))], [(cat [.i 0, .str []] (cat rtE (cat plE (cat exE [.i 0, .slice [] 0 .exact, .slice [] 0 .exact, .slice [] 0 .exact, .i 0, .i 0])))), (tokAV v2), (cat [.i 0, .str []] (cat rtE (cat plE (cat exE [.i 0, .slice [] 0 .exact, .slice [] 0 .exact, .slice [] 0 .exact, .i v2.line, .i v2.col]))))], [], [], 0⟩) (σ' := [psAV lo l s3]) (ob := Tt 3) (by kernel_rfl) (tt 3) ?_
    have nk5 : byNameF n l v2.line v2.col s3 ≠ .out := by intro h9; simp only [h9, R.out_bind] at hX; exact hne hX.symm
    refine AOps.call (fid := 70) (cap := []) (avs := [.ptr 0 0, .agg (sm0AV [] v2.line v2.col)]) (by kernel_rfl) rfl (by kernel_rfl) (by kernel_rfl) en_70 (by kernel_rfl) (ACalls.mono ((ih n (by omega)).byName v2.line v2.col s3 nk5) ?_)
    cases k5 : byNameF n l v2.line v2.col s3 with
    | out => exact absurd k5 nk5
    | bad ea eb ec =>
     rintro _ _ ⟨rfl, pp, dd, rfl⟩
     simp only [k5, R.bad_bind] at hX
     subst hX
     exact PR.bad_intro (vAV := fun (s : Sm) => .agg (smAV s)) pp dd rfl rfl
    | ok v6 s7 =>
     rintro _ _ ⟨rfl, rfl⟩
     simp only [k5, R.ok_bind] at hX
     refine AOps.runN hT nh 1 [2] (fr' := ⟨[(2, .loc 0 0)], [(smAV v6), (tokAV v2), (cat [.i 0, .str []] (cat rtE (cat plE (cat exE [.i 0, .slice [] 0 .exact, .slice [] 0 .exact, .slice [] 0 .exact, .i v2.line, .i v2.col]))))], [], [], 0⟩) (σ' := [psAV lo l s7]) (ob := Tt 2) (by kernel_rfl) (tt 2) ?_
     refine AOps.nil ?_
     refine ACode.ret ?_
     refine retQ.ret (.agg (smAV v6)) (by kernel_rfl) ?_
     subst hX
     exact PR.ok_intro rfl rfl
   ·
    have h4k := ne_of_beq_false h4
    try simp only [h4, Bool.false_eq_true, Bool.not_true, Bool.not_false, if_true, if_false] at hX
    try simp only [letF] at hX
    refine ACode.skip ?_
    refine ACode.seq ?_
    refine ACode.block ?_
    refine ACode.seq ?_
    refine ACode.region ?_
    refine AOps.runN hT nh 1 [0, 2, 3, 4, 22] (fr' := ⟨[(0, .ptr 0 0), (2, .loc 0 0), (3, .loc 1 0), (4, .loc 2 0), (22, .ptr 0 0)], [(cat [.i 0, .str []] (cat rtE (cat plE (cat exE [.i 0, .slice [] 0 .exact, .slice [] 0 .exact, .slice [] 0 .exact, .i 0, .i 0])))), (tokAV v2), (cat [.i 0, .str []] (cat rtE (cat plE (cat exE [.i 0, .slice [] 0 .exact, .slice [] 0 .exact, .slice [] 0 .exact, .i v2.line, .i v2.col]))))], [], [], 0⟩) (σ' := [psAV lo l s3]) (ob := Tt 2) (by kernel_rfl) (tt 2) ?_
    have nk8 : eatF l [108, 111, 111, 112] s3 ≠ .out := by intro h9; simp only [h9, R.out_bind] at hX; exact hne hX.symm
    refine AOps.call (fid := 41) (cap := []) (avs := [.ptr 0 0, .str [108, 111, 111, 112]]) (by kernel_rfl) rfl (by kernel_rfl) (by kernel_rfl) en_41 (by kernel_rfl) (ACalls.mono (p_eat l lo hll [108, 111, 111, 112] s3 nk8) ?_)
    cases k8 : eatF l [108, 111, 111, 112] s3 with
    | out => exact absurd k8 nk8
    | bad ea eb ec =>
     rintro _ _ ⟨rfl, pp, dd, rfl⟩
     simp only [k8, R.bad_bind] at hX
     subst hX
     exact PR.bad_intro (vAV := fun (s : Sm) => .agg (smAV s)) pp dd rfl rfl
    | ok v9 s10 =>
     rintro _ _ ⟨rfl, rfl⟩
     simp only [k8, R.ok_bind] at hX
     refine AOps.runN hT nh 1 [0, 2, 3, 4, 21] (fr' := ⟨[(0, .ptr 0 0), (2, .loc 0 0), (3, .loc 1 0), (4, .loc 2 0), (21, .bool v9)], [(cat [.i 0, .str []] (cat rtE (cat plE (cat exE [.i 0, .slice [] 0 .exact, .slice [] 0 .exact, .slice [] 0 .exact, .i 0, .i 0])))), (tokAV v2), (cat [.i 0, .str []] (cat rtE (cat plE (cat exE [.i 0, .slice [] 0 .exact, .slice [] 0 .exact, .slice [] 0 .exact, .i v2.line, .i v2.col]))))], [], [], 0⟩) (σ' := [psAV lo l s10]) (ob := Tt 2) (by kernel_rfl) (tt 2) ?_
     refine AOps.nil ?_
     refine ACode.cond (t := v9) (by kernel_rfl) (fun h11 => ?_) (fun h11 => ?_)
     ·
      try simp only [h11, Bool.false_eq_true, Bool.not_true, Bool.not_false, if_true, if_false] at hX
      try simp only [letF] at hX
      refine ACode.seq ?_
      refine ACode.region ?_
      refine AOps.runN hT nh 2 [2, 24, 25] (fr' := ⟨[(2, .loc 0 0), (24, .ptr 0 0), (25, .agg (cat [.i 0, .str []] (cat rtE (cat plE (cat exE [.i 0, .slice [] 0 .exact, .slice [] 0 .exact, .slice [] 0 .exact, .i v2.line, .i v2.col])))))], [(cat [.i 0, .str []] (cat rtE (cat plE (cat exE [.i 0, .slice [] 0 .exact, .slice [] 0 .exact, .slice [] 0 .exact, .i 0, .i 0])))), (tokAV v2), (cat [.i 0, .str []] (cat rtE (cat plE (cat exE [.i 0, .slice [] 0 .exact, .slice [] 0 .exact, .slice [] 0 .exact, .i v2.line, .i v2.col]))))], [], [], 0⟩) (σ' := [psAV lo l s10]) (ob := Tt 3) (by kernel_rfl) (tt 3) ?_
      have nk12 : loopF n l [] v2.line v2.col s10 ≠ .out := by intro h9; simp only [h9, R.out_bind] at hX; exact hne hX.symm
      refine AOps.call (fid := 71) (cap := []) (avs := [.ptr 0 0, .agg (sm0AV [] v2.line v2.col)]) (by kernel_rfl) rfl (by kernel_rfl) (by kernel_rfl) en_71 (by kernel_rfl) (ACalls.mono ((ih n (by omega)).loop [] v2.line v2.col s10 nk12) ?_)
      cases k12 : loopF n l [] v2.line v2.col s10 with
      | out => exact absurd k12 nk12
      | bad ea eb ec =>
       rintro _ _ ⟨rfl, pp, dd, rfl⟩
       simp only [k12, R.bad_bind] at hX
       subst hX
       exact PR.bad_intro (vAV := fun (s : Sm) => .agg (smAV s)) pp dd rfl rfl
      | ok v13 s14 =>
       rintro _ _ ⟨rfl, rfl⟩
       simp only [k12, R.ok_bind] at hX
       refine AOps.runN hT nh 1 [2] (fr' := ⟨[(2, .loc 0 0)], [(smAV v13), (tokAV v2), (cat [.i 0, .str []] (cat rtE (cat plE (cat exE [.i 0, .slice [] 0 .exact, .slice [] 0 .exact, .slice [] 0 .exact, .i v2.line, .i v2.col]))))], [], [], 0⟩) (σ' := [psAV lo l s14]) (ob := Tt 2) (by kernel_rfl) (tt 2) ?_
       refine AOps.nil ?_
       refine ACode.ret ?_
       refine retQ.ret (.agg (smAV v13)) (by kernel_rfl) ?_
       subst hX
       exact PR.ok_intro rfl rfl
     ·
      try simp only [h11, Bool.false_eq_true, Bool.not_true, Bool.not_false, if_true, if_false] at hX
      try simp only [letF] at hX
      refine ACode.seq ?_
      refine ACode.region ?_
      refine AOps.runN hT nh 1 [0, 2, 3, 4, 28] (fr' := ⟨[(0, .ptr 0 0), (2, .loc 0 0), (3, .loc 1 0), (4, .loc 2 0), (28, .ptr 0 0)], [(cat [.i 0, .str []] (cat rtE (cat plE (cat exE [.i 0, .slice [] 0 .exact, .slice [] 0 .exact, .slice [] 0 .exact, .i 0, .i 0])))), (tokAV v2), (cat [.i 0, .str []] (cat rtE (cat plE (cat exE [.i 0, .slice [] 0 .exact, .slice [] 0 .exact, .slice [] 0 .exact, .i v2.line, .i v2.col]))))], [], [], 0⟩) (σ' := [psAV lo l s10]) (ob := Tt 2) (by kernel_rfl) (tt 2) ?_
      have nk15 : eatF l [105, 102] s10 ≠ .out := by intro h9; simp only [h9, R.out_bind] at hX; exact hne hX.symm
      refine AOps.call (fid := 41) (cap := []) (avs := [.ptr 0 0, .str [105, 102]]) (by kernel_rfl) rfl (by kernel_rfl) (by kernel_rfl) en_41 (by kernel_rfl) (ACalls.mono (p_eat l lo hll [105, 102] s10 nk15) ?_)
      cases k15 : eatF l [105, 102] s10 with
      | out => exact absurd k15 nk15
      | bad ea eb ec =>
       rintro _ _ ⟨rfl, pp, dd, rfl⟩
       simp only [k15, R.bad_bind] at hX
       subst hX
       exact PR.bad_intro (vAV := fun (s : Sm) => .agg (smAV s)) pp dd rfl rfl
      | ok v16 s17 =>
       rintro _ _ ⟨rfl, rfl⟩
       simp only [k15, R.ok_bind] at hX
       refine AOps.runN hT nh 1 [0, 2, 3, 4, 27] (fr' := ⟨[(0, .ptr 0 0), (2, .loc 0 0), (3, .loc 1 0), (4, .loc 2 0), (27, .bool v16)], [(cat [.i 0, .str []] (cat rtE (cat plE (cat exE [.i 0, .slice [] 0 .exact, .slice [] 0 .exact, .slice [] 0 .exact, .i 0, .i 0])))), (tokAV v2), (cat [.i 0, .str []] (cat rtE (cat plE (cat exE [.i 0, .slice [] 0 .exact, .slice [] 0 .exact, .slice [] 0 .exact, .i v2.line, .i v2.col]))))], [], [], 0⟩) (σ' := [psAV lo l s17]) (ob := Tt 2) (by kernel_rfl) (tt 2) ?_
       refine AOps.nil ?_
       refine ACode.cond (t := v16) (by kernel_rfl) (fun h18 => ?_) (fun h18 => ?_)
       ·
        try simp only [h18, Bool.false_eq_true, Bool.not_true, Bool.not_false, if_true, if_false] at hX
        try simp only [letF] at hX
        refine ACode.seq ?_
        refine ACode.region ?_
        refine AOps.runN hT nh 2 [2, 30, 31] (fr' := ⟨[(2, .loc 0 0), (30, .ptr 0 0), (31, .agg (cat [.i 0, .str []] (cat rtE (cat plE (cat exE [.i 0, .slice [] 0 .exact, .slice [] 0 .exact, .slice [] 0 .exact, .i v2.line, .i v2.col])))))], [(cat [.i 0, .str []] (cat rtE (cat plE (cat exE [.i 0, .slice [] 0 .exact, .slice [] 0 .exact, .slice [] 0 .exact, .i 0, .i 0])))), (tokAV v2), (cat [.i 0, .str []] (cat rtE (cat plE (cat exE [.i 0, .slice [] 0 .exact, .slice [] 0 .exact, .slice [] 0 .exact, .i v2.line, .i v2.col]))))], [], [], 0⟩) (σ' := [psAV lo l s17]) (ob := Tt 3) (by kernel_rfl) (tt 3) ?_
        have nk19 : branchF n l v2.line v2.col s17 ≠ .out := by intro h9; simp only [h9, R.out_bind] at hX; exact hne hX.symm
        refine AOps.call (fid := 72) (cap := []) (avs := [.ptr 0 0, .agg (sm0AV [] v2.line v2.col)]) (by kernel_rfl) rfl (by kernel_rfl) (by kernel_rfl) en_72 (by kernel_rfl) (ACalls.mono ((ih n (by omega)).branch v2.line v2.col s17 nk19) ?_)
        cases k19 : branchF n l v2.line v2.col s17 with
        | out => exact absurd k19 nk19
        | bad ea eb ec =>
         rintro _ _ ⟨rfl, pp, dd, rfl⟩
         simp only [k19, R.bad_bind] at hX
         subst hX
         exact PR.bad_intro (vAV := fun (s : Sm) => .agg (smAV s)) pp dd rfl rfl
        | ok v20 s21 =>
         rintro _ _ ⟨rfl, rfl⟩
         simp only [k19, R.ok_bind] at hX
         refine AOps.runN hT nh 1 [2] (fr' := ⟨[(2, .loc 0 0)], [(smAV v20), (tokAV v2), (cat [.i 0, .str []] (cat rtE (cat plE (cat exE [.i 0, .slice [] 0 .exact, .slice [] 0 .exact, .slice [] 0 .exact, .i v2.line, .i v2.col]))))], [], [], 0⟩) (σ' := [psAV lo l s21]) (ob := Tt 2) (by kernel_rfl) (tt 2) ?_
         refine AOps.nil ?_
         refine ACode.ret ?_
         refine retQ.ret (.agg (smAV v20)) (by kernel_rfl) ?_
         subst hX
         exact PR.ok_intro rfl rfl
       ·
        try simp only [h18, Bool.false_eq_true, Bool.not_true, Bool.not_false, if_true, if_false] at hX
        try simp only [letF] at hX
        refine ACode.seq ?_
        refine ACode.region ?_
        refine AOps.runN hT nh 1 [0, 2, 3, 4, 34] (fr' := ⟨[(0, .ptr 0 0), (2, .loc 0 0), (3, .loc 1 0), (4, .loc 2 0), (34, .ptr 0 0)], [(cat [.i 0, .str []] (cat rtE (cat plE (cat exE [.i 0, .slice [] 0 .exact, .slice [] 0 .exact, .slice [] 0 .exact, .i 0, .i 0])))), (tokAV v2), (cat [.i 0, .str []] (cat rtE (cat plE (cat exE [.i 0, .slice [] 0 .exact, .slice [] 0 .exact, .slice [] 0 .exact, .i v2.line, .i v2.col]))))], [], [], 0⟩) (σ' := [psAV lo l s17]) (ob := Tt 2) (by kernel_rfl) (tt 2) ?_
        have nk22 : eatF l [97, 116, 111, 109, 105, 99] s17 ≠ .out := by intro h9; simp only [h9, R.out_bind] at hX; exact hne hX.symm
        refine AOps.call (fid := 41) (cap := []) (avs := [.ptr 0 0, .str [97, 116, 111, 109, 105, 99]]) (by kernel_rfl) rfl (by kernel_rfl) (by kernel_rfl) en_41 (by kernel_rfl) (ACalls.mono (p_eat l lo hll [97, 116, 111, 109, 105, 99] s17 nk22) ?_)
        cases k22 : eatF l [97, 116, 111, 109, 105, 99] s17 with
        | out => exact absurd k22 nk22
        | bad ea eb ec =>
         rintro _ _ ⟨rfl, pp, dd, rfl⟩
         simp only [k22, R.bad_bind] at hX
         subst hX
         exact PR.bad_intro (vAV := fun (s : Sm) => .agg (smAV s)) pp dd rfl rfl
        | ok v23 s24 =>
         rintro _ _ ⟨rfl, rfl⟩
         simp only [k22, R.ok_bind] at hX
         refine AOps.runN hT nh 1 [0, 2, 3, 4, 33] (fr' := ⟨[(0, .ptr 0 0), (2, .loc 0 0), (3, .loc 1 0), (4, .loc 2 0), (33, .bool v23)], [(cat [.i 0, .str []] (cat rtE (cat plE (cat exE [.i 0, .slice [] 0 .exact, .slice [] 0 .exact, .slice [] 0 .exact, .i 0, .i 0])))), (tokAV v2), (cat [.i 0, .str []] (cat rtE (cat plE (cat exE [.i 0, .slice [] 0 .exact, .slice [] 0 .exact, .slice [] 0 .exact, .i v2.line, .i v2.col]))))], [], [], 0⟩) (σ' := [psAV lo l s24]) (ob := Tt 2) (by kernel_rfl) (tt 2) ?_
         refine AOps.nil ?_
         refine ACode.cond (t := v23) (by kernel_rfl) (fun h25 => ?_) (fun h25 => ?_)
         ·
          try simp only [h25, Bool.false_eq_true, Bool.not_true, Bool.not_false, if_true, if_false] at hX
          try simp only [letF] at hX
          refine ACode.seq ?_
          refine ACode.region ?_
          refine AOps.runN hT nh 1 [2, 4, 36] (fr' := ⟨[(2, .loc 0 0), (4, .loc 2 0), (36, .ptr 0 0)], [(cat [.i 0, .str []] (cat rtE (cat plE (cat exE [.i 0, .slice [] 0 .exact, .slice [] 0 .exact, .slice [] 0 .exact, .i 0, .i 0])))), (tokAV v2), (cat [.i 0, .str []] (cat rtE (cat plE (cat exE [.i 0, .slice [] 0 .exact, .slice [] 0 .exact, .slice [] 0 .exact, .i v2.line, .i v2.col]))))], [], [], 0⟩) (σ' := [psAV lo l s24]) (ob := Tt 2) (by kernel_rfl) (tt 2) ?_
          have nk26 : blockF n l s24 ≠ .out := by intro h9; simp only [h9, R.out_bind] at hX; exact hne hX.symm
          refine AOps.call (fid := 46) (cap := []) (avs := [.ptr 0 0]) (by kernel_rfl) rfl (by kernel_rfl) (by kernel_rfl) en_46 (by kernel_rfl) (ACalls.mono ((ih n (by omega)).block s24 nk26) ?_)
          cases k26 : blockF n l s24 with
          | out => exact absurd k26 nk26
          | bad ea eb ec =>
           rintro _ _ ⟨rfl, pp, dd, rfl⟩
           simp only [k26, R.bad_bind] at hX
           subst hX
           exact PR.bad_intro (vAV := fun (s : Sm) => .agg (smAV s)) pp dd rfl rfl
          | ok v27 s28 =>
           rintro _ _ ⟨rfl, rfl⟩
           simp only [k26, R.ok_bind] at hX
           refine AOps.runN hT nh 4 [2, 4] (fr' := ⟨[(2, .loc 0 0), (4, .loc 2 0)], [(cat [.i 0, .str []] (cat rtE (cat plE (cat exE [.i 0, .slice [] 0 .exact, .slice [] 0 .exact, .slice [] 0 .exact, .i 0, .i 0])))), (tokAV v2), (cat [.i 10, .str []] (cat rtE (cat plE (cat exE [.i 0, .slice [] 0 .exact, .slice (smRows v27) v27.length .no, .slice [] 0 .exact, .i v2.line, .i v2.col]))))], [], [], 0⟩) (σ' := [psAV lo l s28]) (ob := Tt 5) (by kernel_rfl) (tt 5) ?_
           refine AOps.nil ?_
           refine ACode.seq ?_
           refine ACode.run hT nh [2] (fr' := ⟨[(2, .loc 0 0)], [(cat [.i 10, .str []] (cat rtE (cat plE (cat exE [.i 0, .slice [] 0 .exact, .slice (smRows v27) v27.length .no, .slice [] 0 .exact, .i v2.line, .i v2.col])))), (tokAV v2), (cat [.i 10, .str []] (cat rtE (cat plE (cat exE [.i 0, .slice [] 0 .exact, .slice (smRows v27) v27.length .no, .slice [] 0 .exact, .i v2.line, .i v2.col]))))], [], [], 0⟩) (σ' := [psAV lo l s28]) (ob := Tt 3) (by kernel_rfl) (tt 3) ?_
           refine ACode.ret ?_
           refine retQ.ret (.agg (cat [.i 10, .str []] (cat rtE (cat plE (cat exE [.i 0, .slice [] 0 .exact, .slice (smRows v27) v27.length .no, .slice [] 0 .exact, .i v2.line, .i v2.col]))))) (by kernel_rfl) ?_
           subst hX
           exact PR.ok_intro rfl rfl
         ·
          try simp only [h25, Bool.false_eq_true, Bool.not_true, Bool.not_false, if_true, if_false] at hX
          try simp only [letF] at hX
          refine ACode.seq ?_
          refine ACode.region ?_
          refine AOps.runN hT nh 1 [0, 2, 3, 4, 42] (fr' := ⟨[(0, .ptr 0 0), (2, .loc 0 0), (3, .loc 1 0), (4, .loc 2 0), (42, .ptr 0 0)], [(cat [.i 0, .str []] (cat rtE (cat plE (cat exE [.i 0, .slice [] 0 .exact, .slice [] 0 .exact, .slice [] 0 .exact, .i 0, .i 0])))), (tokAV v2), (cat [.i 0, .str []] (cat rtE (cat plE (cat exE [.i 0, .slice [] 0 .exact, .slice [] 0 .exact, .slice [] 0 .exact, .i v2.line, .i v2.col]))))], [], [], 0⟩) (σ' := [psAV lo l s24]) (ob := Tt 2) (by kernel_rfl) (tt 2) ?_
          have nk29 : isF l [108, 101, 116] s24 ≠ .out := by intro h9; simp only [h9, R.out_bind] at hX; exact hne hX.symm
          refine AOps.call (fid := 56) (cap := []) (avs := [.ptr 0 0, .str [108, 101, 116]]) (by kernel_rfl) rfl (by kernel_rfl) (by kernel_rfl) en_56 (by kernel_rfl) (ACalls.mono (p_is l lo hll [108, 101, 116] s24 nk29) ?_)
          cases k29 : isF l [108, 101, 116] s24 with
          | out => exact absurd k29 nk29
          | bad ea eb ec =>
           rintro _ _ ⟨rfl, pp, dd, rfl⟩
           simp only [k29, R.bad_bind] at hX
           subst hX
           exact PR.bad_intro (vAV := fun (s : Sm) => .agg (smAV s)) pp dd rfl rfl
          | ok v30 s31 =>
           rintro _ _ ⟨rfl, rfl⟩
           simp only [k29, R.ok_bind] at hX
           refine AOps.runN hT nh 1 [0, 2, 3, 4, 44] (fr' := ⟨[(0, .ptr 0 0), (2, .loc 0 0), (3, .loc 1 0), (4, .loc 2 0), (44, .bool v30)], [(cat [.i 0, .str []] (cat rtE (cat plE (cat exE [.i 0, .slice [] 0 .exact, .slice [] 0 .exact, .slice [] 0 .exact, .i 0, .i 0])))), (tokAV v2), (cat [.i 0, .str []] (cat rtE (cat plE (cat exE [.i 0, .slice [] 0 .exact, .slice [] 0 .exact, .slice [] 0 .exact, .i v2.line, .i v2.col]))))], [], [], 0⟩) (σ' := [psAV lo l s31]) (ob := Tt 2) (by kernel_rfl) (tt 2) ?_
           cases h32 : (v30)
           ·
            try simp only [h32, Bool.false_eq_true, Bool.not_true, Bool.not_false, if_true, if_false] at hX
            try simp only [letF] at hX
            refine AOps.runN hT nh 1 [0, 2, 3, 4, 44, 45] (fr' := ⟨[(0, .ptr 0 0), (2, .loc 0 0), (3, .loc 1 0), (4, .loc 2 0), (44, .bool false), (45, .ptr 0 0)], [(cat [.i 0, .str []] (cat rtE (cat plE (cat exE [.i 0, .slice [] 0 .exact, .slice [] 0 .exact, .slice [] 0 .exact, .i 0, .i 0])))), (tokAV v2), (cat [.i 0, .str []] (cat rtE (cat plE (cat exE [.i 0, .slice [] 0 .exact, .slice [] 0 .exact, .slice [] 0 .exact, .i v2.line, .i v2.col]))))], [], [], 0⟩) (σ' := [psAV lo l s31]) (ob := Tt 2) (by kernel_rfl) (tt 2) ?_
            have nk33 : isF l [118, 97, 114] s31 ≠ .out := by intro h9; simp only [h9, R.out_bind] at hX; exact hne hX.symm
            refine AOps.call (fid := 56) (cap := []) (avs := [.ptr 0 0, .str [118, 97, 114]]) (by kernel_rfl) rfl (by kernel_rfl) (by kernel_rfl) en_56 (by kernel_rfl) (ACalls.mono (p_is l lo hll [118, 97, 114] s31 nk33) ?_)
            cases k33 : isF l [118, 97, 114] s31 with
            | out => exact absurd k33 nk33
            | bad ea eb ec =>
             rintro _ _ ⟨rfl, pp, dd, rfl⟩
             simp only [k33, R.bad_bind] at hX
             subst hX
             exact PR.bad_intro (vAV := fun (s : Sm) => .agg (smAV s)) pp dd rfl rfl
            | ok v34 s35 =>
             rintro _ _ ⟨rfl, rfl⟩
             simp only [k33, R.ok_bind] at hX
             refine AOps.runN hT nh 2 [0, 2, 3, 4, 41] (fr' := ⟨[(0, .ptr 0 0), (2, .loc 0 0), (3, .loc 1 0), (4, .loc 2 0), (41, .bool v34)], [(cat [.i 0, .str []] (cat rtE (cat plE (cat exE [.i 0, .slice [] 0 .exact, .slice [] 0 .exact, .slice [] 0 .exact, .i 0, .i 0])))), (tokAV v2), (cat [.i 0, .str []] (cat rtE (cat plE (cat exE [.i 0, .slice [] 0 .exact, .slice [] 0 .exact, .slice [] 0 .exact, .i v2.line, .i v2.col]))))], [], [], 0⟩) (σ' := [psAV lo l s35]) (ob := Tt 3) (by kernel_rfl) (tt 3) ?_
             refine AOps.nil ?_
             refine ACode.cond (t := v34) (by kernel_rfl) (fun h36 => ?_) (fun h36 => ?_)
             ·
              try simp only [h36, Bool.false_eq_true, Bool.not_true, Bool.not_false, if_true, if_false] at hX
              try simp only [letF] at hX
              refine ACode.seq ?_
              refine ACode.run hT nh [0, 2, 4] (fr' := ⟨[(0, .ptr 0 0), (2, .loc 0 0), (4, .loc 2 0)], [(cat [.i 0, .str []] (cat rtE (cat plE (cat exE [.i 0, .slice [] 0 .exact, .slice [] 0 .exact, .slice [] 0 .exact, .i 0, .i 0])))), (tokAV v2), (cat [.i 1, .str []] (cat rtE (cat plE (cat exE [.i 0, .slice [] 0 .exact, .slice [] 0 .exact, .slice [] 0 .exact, .i v2.line, .i v2.col]))))], [], [], 0⟩) (σ' := [psAV lo l s35]) (ob := Tt 3) (by kernel_rfl) (tt 3) ?_
              refine ACode.seq ?_
              refine ACode.seq ?_
              refine ACode.region ?_
              refine AOps.runN hT nh 1 [0, 2, 4, 49] (fr' := ⟨[(0, .ptr 0 0), (2, .loc 0 0), (4, .loc 2 0), (49, .ptr 0 0)], [(cat [.i 0, .str []] (cat rtE (cat plE (cat exE [.i 0, .slice [] 0 .exact, .slice [] 0 .exact, .slice [] 0 .exact, .i 0, .i 0])))), (tokAV v2), (cat [.i 1, .str []] (cat rtE (cat plE (cat exE [.i 0, .slice [] 0 .exact, .slice [] 0 .exact, .slice [] 0 .exact, .i v2.line, .i v2.col]))))], [], [], 0⟩) (σ' := [psAV lo l s35]) (ob := Tt 2) (by kernel_rfl) (tt 2) ?_
              have nk37 : nextF l s35 ≠ .out := by intro h9; simp only [h9, R.out_bind] at hX; exact hne hX.symm
              refine AOps.call (fid := 69) (cap := []) (avs := [.ptr 0 0]) (by kernel_rfl) rfl (by kernel_rfl) (by kernel_rfl) en_69 (by kernel_rfl) (ACalls.mono (p_next l lo hll s35 nk37) ?_)
              cases k37 : nextF l s35 with
              | out => exact absurd k37 nk37
              | bad ea eb ec =>
               rintro _ _ ⟨rfl, pp, dd, rfl⟩
               simp only [k37, R.bad_bind] at hX
               subst hX
               exact PR.bad_intro (vAV := fun (s : Sm) => .agg (smAV s)) pp dd rfl rfl
              | ok v38 s39 =>
               rintro _ _ ⟨rfl, rfl⟩
               simp only [k37, R.ok_bind] at hX
               refine AOps.runN hT nh 2 [0, 2, 4, 52] (fr' := ⟨[(0, .ptr 0 0), (2, .loc 0 0), (4, .loc 2 0), (52, .bool (v38.text == [118, 97, 114]))], [(cat [.i 0, .str []] (cat rtE (cat plE (cat exE [.i 0, .slice [] 0 .exact, .slice [] 0 .exact, .slice [] 0 .exact, .i 0, .i 0])))), (tokAV v2), (cat [.i 1, .str []] (cat rtE (cat plE (cat exE [.i 0, .slice [] 0 .exact, .slice [] 0 .exact, .slice [] 0 .exact, .i v2.line, .i v2.col]))))], [], [], 0⟩) (σ' := [psAV lo l s39]) (ob := Tt 3) (by kernel_rfl) (tt 3) ?_
               refine AOps.nil ?_
               refine ACode.cond (t := v38.text == [118, 97, 114]) (by kernel_rfl) (fun h40 => ?_) (fun h40 => ?_)
               ·
                have h40k := eq_of_beq h40
                try simp only [h40, Bool.false_eq_true, Bool.not_true, Bool.not_false, if_true, if_false] at hX
                try simp only [letF] at hX
                refine ACode.run hT nh [0, 2, 4] (fr' := ⟨[(0, .ptr 0 0), (2, .loc 0 0), (4, .loc 2 0)], [(cat [.i 0, .str []] (cat rtE (cat plE (cat exE [.i 0, .slice [] 0 .exact, .slice [] 0 .exact, .slice [] 0 .exact, .i 0, .i 0])))), (tokAV v2), (cat [.i 2, .str []] (cat rtE (cat plE (cat exE [.i 0, .slice [] 0 .exact, .slice [] 0 .exact, .slice [] 0 .exact, .i v2.line, .i v2.col]))))], [], [], 0⟩) (σ' := [psAV lo l s39]) (ob := Tt 3) (by kernel_rfl) (tt 3) ?_
                refine ACode.seq ?_
                refine ACode.region ?_
                refine AOps.runN hT nh 1 [0, 2, 4, 54] (fr' := ⟨[(0, .ptr 0 0), (2, .loc 0 0), (4, .loc 2 0), (54, .ptr 0 0)], [(cat [.i 0, .str []] (cat rtE (cat plE (cat exE [.i 0, .slice [] 0 .exact, .slice [] 0 .exact, .slice [] 0 .exact, .i 0, .i 0])))), (tokAV v2), (cat [.i 2, .str []] (cat rtE (cat plE (cat exE [.i 0, .slice [] 0 .exact, .slice [] 0 .exact, .slice [] 0 .exact, .i v2.line, .i v2.col]))))], [], [], 0⟩) (σ' := [psAV lo l s39]) (ob := Tt 2) (by kernel_rfl) (tt 2) ?_
                have nk41 : kindF l 1 s39 ≠ .out := by intro h9; simp only [h9, R.out_bind] at hX; exact hne hX.symm
                refine AOps.call (fid := 57) (cap := []) (avs := [.ptr 0 0, .i 1]) (by kernel_rfl) rfl (by kernel_rfl) (by kernel_rfl) en_57 (by kernel_rfl) (ACalls.mono (p_kind l lo hll 1 s39 nk41) ?_)
                cases k41 : kindF l 1 s39 with
                | out => exact absurd k41 nk41
                | bad ea eb ec =>
                 rintro _ _ ⟨rfl, pp, dd, rfl⟩
                 simp only [k41, R.bad_bind] at hX
                 subst hX
                 exact PR.bad_intro (vAV := fun (s : Sm) => .agg (smAV s)) pp dd rfl rfl
                | ok v42 s43 =>
                 rintro _ _ ⟨rfl, rfl⟩
                 simp only [k41, R.ok_bind] at hX
                 refine AOps.runN hT nh 3 [0, 2, 4] (fr' := ⟨[(0, .ptr 0 0), (2, .loc 0 0), (4, .loc 2 0)], [(cat [.i 0, .str []] (cat rtE (cat plE (cat exE [.i 0, .slice [] 0 .exact, .slice [] 0 .exact, .slice [] 0 .exact, .i 0, .i 0])))), (tokAV v2), (cat [.i 2, .str v42.text] (cat rtE (cat plE (cat exE [.i 0, .slice [] 0 .exact, .slice [] 0 .exact, .slice [] 0 .exact, .i v2.line, .i v2.col]))))], [], [], 0⟩) (σ' := [psAV lo l s43]) (ob := Tt 4) (by kernel_rfl) (tt 4) ?_
                 refine AOps.nil ?_
                 refine ACode.seq ?_
                 refine ACode.region ?_
                 refine AOps.runN hT nh 1 [0, 2, 4, 58] (fr' := ⟨[(0, .ptr 0 0), (2, .loc 0 0), (4, .loc 2 0), (58, .ptr 0 0)], [(cat [.i 0, .str []] (cat rtE (cat plE (cat exE [.i 0, .slice [] 0 .exact, .slice [] 0 .exact, .slice [] 0 .exact, .i 0, .i 0])))), (tokAV v2), (cat [.i 2, .str v42.text] (cat rtE (cat plE (cat exE [.i 0, .slice [] 0 .exact, .slice [] 0 .exact, .slice [] 0 .exact, .i v2.line, .i v2.col]))))], [], [], 0⟩) (σ' := [psAV lo l s43]) (ob := Tt 2) (by kernel_rfl) (tt 2) ?_
                 have nk44 : mustF l [61] s43 ≠ .out := by intro h9; simp only [h9, R.out_bind] at hX; exact hne hX.symm
                 refine AOps.call (fid := 44) (cap := []) (avs := [.ptr 0 0, .str [61]]) (by kernel_rfl) rfl (by kernel_rfl) (by kernel_rfl) en_44 (by kernel_rfl) (ACalls.mono (p_must l lo hll [61] s43 nk44) ?_)
                 cases k44 : mustF l [61] s43 with
                 | out => exact absurd k44 nk44
                 | bad ea eb ec =>
                  rintro _ _ ⟨rfl, pp, dd, rfl⟩
                  simp only [k44, R.bad_bind] at hX
                  subst hX
                  exact PR.bad_intro (vAV := fun (s : Sm) => .agg (smAV s)) pp dd rfl rfl
                 | ok v45 s46 =>
                  rintro _ _ ⟨rfl, rfl⟩
                  simp only [k44, R.ok_bind] at hX
                  refine AOps.nil ?_
                  refine ACode.region ?_
                  refine AOps.runN hT nh 1 [0, 2, 4, 60] (fr' := ⟨[(0, .ptr 0 0), (2, .loc 0 0), (4, .loc 2 0), (60, .ptr 0 0)], [(cat [.i 0, .str []] (cat rtE (cat plE (cat exE [.i 0, .slice [] 0 .exact, .slice [] 0 .exact, .slice [] 0 .exact, .i 0, .i 0])))), (tokAV v2), (cat [.i 2, .str v42.text] (cat rtE (cat plE (cat exE [.i 0, .slice [] 0 .exact, .slice [] 0 .exact, .slice [] 0 .exact, .i v2.line, .i v2.col]))))], [], [], 0⟩) (σ' := [psAV lo l s46]) (ob := Tt 2) (by kernel_rfl) (tt 2) ?_
                  have nk47 : rightF n l s46 ≠ .out := by intro h9; simp only [h9, R.out_bind] at hX; exact hne hX.symm
                  refine AOps.call (fid := 73) (cap := []) (avs := [.ptr 0 0]) (by kernel_rfl) rfl (by kernel_rfl) (by kernel_rfl) en_73 (by kernel_rfl) (ACalls.mono (p_right l lo hll n s46 nk47) ?_)
                  cases k47 : rightF n l s46 with
                  | out => exact absurd k47 nk47
                  | bad ea eb ec =>
                   rintro _ _ ⟨rfl, pp, dd, rfl⟩
                   simp only [k47, R.bad_bind] at hX
                   subst hX
                   exact PR.bad_intro (vAV := fun (s : Sm) => .agg (smAV s)) pp dd rfl rfl
                  | ok v48 s49 =>
                   rintro _ _ ⟨rfl, rfl⟩
                   simp only [k47, R.ok_bind] at hX
                   refine AOps.runN hT nh 2 [0, 2, 4] (fr' := ⟨[(0, .ptr 0 0), (2, .loc 0 0), (4, .loc 2 0)], [(cat [.i 0, .str []] (cat rtE (cat plE (cat exE [.i 0, .slice [] 0 .exact, .slice [] 0 .exact, .slice [] 0 .exact, .i 0, .i 0])))), (tokAV v2), (cat [.i 2, .str v42.text] (cat (rtAV v48) (cat plE (cat exE [.i 0, .slice [] 0 .exact, .slice [] 0 .exact, .slice [] 0 .exact, .i v2.line, .i v2.col]))))], [], [], 0⟩) (σ' := [psAV lo l s49]) (ob := Tt 3) (by kernel_rfl) (tt 3) ?_
                   refine AOps.nil ?_
                   refine ACode.seq ?_
                   refine ACode.region ?_
                   refine AOps.runN hT nh 1 [2, 4, 107] (fr' := ⟨[(2, .loc 0 0), (4, .loc 2 0), (107, .ptr 0 0)], [(cat [.i 0, .str []] (cat rtE (cat plE (cat exE [.i 0, .slice [] 0 .exact, .slice [] 0 .exact, .slice [] 0 .exact, .i 0, .i 0])))), (tokAV v2), (cat [.i 2, .str v42.text] (cat (rtAV v48) (cat plE (cat exE [.i 0, .slice [] 0 .exact, .slice [] 0 .exact, .slice [] 0 .exact, .i v2.line, .i v2.col]))))], [], [], 0⟩) (σ' := [psAV lo l s49]) (ob := Tt 2) (by kernel_rfl) (tt 2) ?_
                   have nk50 : mustF l [59] s49 ≠ .out := by intro h9; simp only [h9, R.out_bind] at hX; exact hne hX.symm
                   refine AOps.call (fid := 44) (cap := []) (avs := [.ptr 0 0, .str [59]]) (by kernel_rfl) rfl (by kernel_rfl) (by kernel_rfl) en_44 (by kernel_rfl) (ACalls.mono (p_must l lo hll [59] s49 nk50) ?_)
                   cases k50 : mustF l [59] s49 with
                   | out => exact absurd k50 nk50
                   | bad ea eb ec =>
                    rintro _ _ ⟨rfl, pp, dd, rfl⟩
                    simp only [k50, R.bad_bind] at hX
                    subst hX
                    exact PR.bad_intro (vAV := fun (s : Sm) => .agg (smAV s)) pp dd rfl rfl
                   | ok v51 s52 =>
                    rintro _ _ ⟨rfl, rfl⟩
                    simp only [k50, R.ok_bind] at hX
                    refine AOps.nil ?_
                    refine ACode.seq ?_
                    refine ACode.run hT nh [2] (fr' := ⟨[(2, .loc 0 0)], [(cat [.i 2, .str v42.text] (cat (rtAV v48) (cat plE (cat exE [.i 0, .slice [] 0 .exact, .slice [] 0 .exact, .slice [] 0 .exact, .i v2.line, .i v2.col])))), (tokAV v2), (cat [.i 2, .str v42.text] (cat (rtAV v48) (cat plE (cat exE [.i 0, .slice [] 0 .exact, .slice [] 0 .exact, .slice [] 0 .exact, .i v2.line, .i v2.col]))))], [], [], 0⟩) (σ' := [psAV lo l s52]) (ob := Tt 3) (by kernel_rfl) (tt 3) ?_
                    refine ACode.ret ?_
                    refine retQ.ret (.agg (cat [.i 2, .str v42.text] (cat (rtAV v48) (cat plE (cat exE [.i 0, .slice [] 0 .exact, .slice [] 0 .exact, .slice [] 0 .exact, .i v2.line, .i v2.col]))))) (by kernel_rfl) ?_
                    subst hX
                    exact PR.ok_intro rfl rfl
               ·
                have h40k := ne_of_beq_false h40
                try simp only [h40, Bool.false_eq_true, Bool.not_true, Bool.not_false, if_true, if_false] at hX
                try simp only [letF] at hX
                refine ACode.skip ?_
                refine ACode.seq ?_
                refine ACode.region ?_
                refine AOps.runN hT nh 1 [0, 2, 4, 54] (fr' := ⟨[(0, .ptr 0 0), (2, .loc 0 0), (4, .loc 2 0), (54, .ptr 0 0)], [(cat [.i 0, .str []] (cat rtE (cat plE (cat exE [.i 0, .slice [] 0 .exact, .slice [] 0 .exact, .slice [] 0 .exact, .i 0, .i 0])))), (tokAV v2), (cat [.i 1, .str []] (cat rtE (cat plE (cat exE [.i 0, .slice [] 0 .exact, .slice [] 0 .exact, .slice [] 0 .exact, .i v2.line, .i v2.col]))))], [], [], 0⟩) (σ' := [psAV lo l s39]) (ob := Tt 2) (by kernel_rfl) (tt 2) ?_
                have nk53 : kindF l 1 s39 ≠ .out := by intro h9; simp only [h9, R.out_bind] at hX; exact hne hX.symm
                refine AOps.call (fid := 57) (cap := []) (avs := [.ptr 0 0, .i 1]) (by kernel_rfl) rfl (by kernel_rfl) (by kernel_rfl) en_57 (by kernel_rfl) (ACalls.mono (p_kind l lo hll 1 s39 nk53) ?_)
                cases k53 : kindF l 1 s39 with
                | out => exact absurd k53 nk53
                | bad ea eb ec =>
                 rintro _ _ ⟨rfl, pp, dd, rfl⟩
                 simp only [k53, R.bad_bind] at hX
                 subst hX
                 exact PR.bad_intro (vAV := fun (s : Sm) => .agg (smAV s)) pp dd rfl rfl
                | ok v54 s55 =>
                 rintro _ _ ⟨rfl, rfl⟩
                 simp only [k53, R.ok_bind] at hX
                 refine AOps.runN hT nh 3 [0, 2, 4] (fr' := ⟨[(0, .ptr 0 0), (2, .loc 0 0), (4, .loc 2 0)], [(cat [.i 0, .str []] (cat rtE (cat plE (cat exE [.i 0, .slice [] 0 .exact, .slice [] 0 .exact, .slice [] 0 .exact, .i 0, .i 0])))), (tokAV v2), (cat [.i 1, .str v54.text] (cat rtE (cat plE (cat exE [.i 0, .slice [] 0 .exact, .slice [] 0 .exact, .slice [] 0 .exact, .i v2.line, .i v2.col]))))], [], [], 0⟩) (σ' := [psAV lo l s55]) (ob := Tt 4) (by kernel_rfl) (tt 4) ?_
                 refine AOps.nil ?_
                 refine ACode.seq ?_
                 refine ACode.region ?_
                 refine AOps.runN hT nh 1 [0, 2, 4, 58] (fr' := ⟨[(0, .ptr 0 0), (2, .loc 0 0), (4, .loc 2 0), (58, .ptr 0 0)], [(cat [.i 0, .str []] (cat rtE (cat plE (cat exE [.i 0, .slice [] 0 .exact, .slice [] 0 .exact, .slice [] 0 .exact, .i 0, .i 0])))), (tokAV v2), (cat [.i 1, .str v54.text] (cat rtE (cat plE (cat exE [.i 0, .slice [] 0 .exact, .slice [] 0 .exact, .slice [] 0 .exact, .i v2.line, .i v2.col]))))], [], [], 0⟩) (σ' := [psAV lo l s55]) (ob := Tt 2) (by kernel_rfl) (tt 2) ?_
                 have nk56 : mustF l [61] s55 ≠ .out := by intro h9; simp only [h9, R.out_bind] at hX; exact hne hX.symm
                 refine AOps.call (fid := 44) (cap := []) (avs := [.ptr 0 0, .str [61]]) (by kernel_rfl) rfl (by kernel_rfl) (by kernel_rfl) en_44 (by kernel_rfl) (ACalls.mono (p_must l lo hll [61] s55 nk56) ?_)
                 cases k56 : mustF l [61] s55 with
                 | out => exact absurd k56 nk56
                 | bad ea eb ec =>
                  rintro _ _ ⟨rfl, pp, dd, rfl⟩
                  simp only [k56, R.bad_bind] at hX
                  subst hX
                  exact PR.bad_intro (vAV := fun (s : Sm) => .agg (smAV s)) pp dd rfl rfl
                 | ok v57 s58 =>
                  rintro _ _ ⟨rfl, rfl⟩
                  simp only [k56, R.ok_bind] at hX
                  refine AOps.nil ?_
                  refine ACode.region ?_
                  refine AOps.runN hT nh 1 [0, 2, 4, 60] (fr' := ⟨[(0, .ptr 0 0), (2, .loc 0 0), (4, .loc 2 0), (60, .ptr 0 0)], [(cat [.i 0, .str []] (cat rtE (cat plE (cat exE [.i 0, .slice [] 0 .exact, .slice [] 0 .exact, .slice [] 0 .exact, .i 0, .i 0])))), (tokAV v2), (cat [.i 1, .str v54.text] (cat rtE (cat plE (cat exE [.i 0, .slice [] 0 .exact, .slice [] 0 .exact, .slice [] 0 .exact, .i v2.line, .i v2.col]))))], [], [], 0⟩) (σ' := [psAV lo l s58]) (ob := Tt 2) (by kernel_rfl) (tt 2) ?_
                  have nk59 : rightF n l s58 ≠ .out := by intro h9; simp only [h9, R.out_bind] at hX; exact hne hX.symm
                  refine AOps.call (fid := 73) (cap := []) (avs := [.ptr 0 0]) (by kernel_rfl) rfl (by kernel_rfl) (by kernel_rfl) en_73 (by kernel_rfl) (ACalls.mono (p_right l lo hll n s58 nk59) ?_)
                  cases k59 : rightF n l s58 with
                  | out => exact absurd k59 nk59
                  | bad ea eb ec =>
                   rintro _ _ ⟨rfl, pp, dd, rfl⟩
                   simp only [k59, R.bad_bind] at hX
                   subst hX
                   exact PR.bad_intro (vAV := fun (s : Sm) => .agg (smAV s)) pp dd rfl rfl
                  | ok v60 s61 =>
                   rintro _ _ ⟨rfl, rfl⟩
                   simp only [k59, R.ok_bind] at hX
                   refine AOps.runN hT nh 2 [0, 2, 4] (fr' := ⟨[(0, .ptr 0 0), (2, .loc 0 0), (4, .loc 2 0)], [(cat [.i 0, .str []] (cat rtE (cat plE (cat exE [.i 0, .slice [] 0 .exact, .slice [] 0 .exact, .slice [] 0 .exact, .i 0, .i 0])))), (tokAV v2), (cat [.i 1, .str v54.text] (cat (rtAV v60) (cat plE (cat exE [.i 0, .slice [] 0 .exact, .slice [] 0 .exact, .slice [] 0 .exact, .i v2.line, .i v2.col]))))], [], [], 0⟩) (σ' := [psAV lo l s61]) (ob := Tt 3) (by kernel_rfl) (tt 3) ?_
                   refine AOps.nil ?_
                   refine ACode.seq ?_
                   refine ACode.region ?_
                   refine AOps.runN hT nh 1 [2, 4, 107] (fr' := ⟨[(2, .loc 0 0), (4, .loc 2 0), (107, .ptr 0 0)], [(cat [.i 0, .str []] (cat rtE (cat plE (cat exE [.i 0, .slice [] 0 .exact, .slice [] 0 .exact, .slice [] 0 .exact, .i 0, .i 0])))), (tokAV v2), (cat [.i 1, .str v54.text] (cat (rtAV v60) (cat plE (cat exE [.i 0, .slice [] 0 .exact, .slice [] 0 .exact, .slice [] 0 .exact, .i v2.line, .i v2.col]))))], [], [], 0⟩) (σ' := [psAV lo l s61]) (ob := Tt 2) (by kernel_rfl) (tt 2) ?_
                   have nk62 : mustF l [59] s61 ≠ .out := by intro h9; simp only [h9, R.out_bind] at hX; exact hne hX.symm
                   refine AOps.call (fid := 44) (cap := []) (avs := [.ptr 0 0, .str [59]]) (by kernel_rfl) rfl (by kernel_rfl) (by kernel_rfl) en_44 (by kernel_rfl) (ACalls.mono (p_must l lo hll [59] s61 nk62) ?_)
                   cases k62 : mustF l [59] s61 with
                   | out => exact absurd k62 nk62
                   | bad ea eb ec =>
                    rintro _ _ ⟨rfl, pp, dd, rfl⟩
                    simp only [k62, R.bad_bind] at hX
                    subst hX
                    exact PR.bad_intro (vAV := fun (s : Sm) => .agg (smAV s)) pp dd rfl rfl
                   | ok v63 s64 =>
                    rintro _ _ ⟨rfl, rfl⟩
                    simp only [k62, R.ok_bind] at hX
                    refine AOps.nil ?_
                    refine ACode.seq ?_
                    refine ACode.run hT nh [2] (fr' := ⟨[(2, .loc 0 0)], [(cat [.i 1, .str v54.text] (cat (rtAV v60) (cat plE (cat exE [.i 0, .slice [] 0 .exact, .slice [] 0 .exact, .slice [] 0 .exact, .i v2.line, .i v2.col])))), (tokAV v2), (cat [.i 1, .str v54.text] (cat (rtAV v60) (cat plE (cat exE [.i 0, .slice [] 0 .exact, .slice [] 0 .exact, .slice [] 0 .exact, .i v2.line, .i v2.col]))))], [], [], 0⟩) (σ' := [psAV lo l s64]) (ob := Tt 3) (by kernel_rfl) (tt 3) ?_
                    refine ACode.ret ?_
                    refine retQ.ret (.agg (cat [.i 1, .str v54.text] (cat (rtAV v60) (cat plE (cat exE [.i 0, .slice [] 0 .exact, .slice [] 0 .exact, .slice [] 0 .exact, .i v2.line, .i v2.col]))))) (by kernel_rfl) ?_
                    subst hX
                    exact PR.ok_intro rfl rfl
             ·
              try simp only [h36, Bool.false_eq_true, Bool.not_true, Bool.not_false, if_true, if_false] at hX
              try simp only [letF] at hX
              refine ACode.seq ?_
              refine ACode.region ?_
              refine AOps.runN hT nh 1 [0, 2, 3, 4, 64] (fr' := ⟨[(0, .ptr 0 0), (2, .loc 0 0), (3, .loc 1 0), (4, .loc 2 0), (64, .ptr 0 0)], [(cat [.i 0, .str []] (cat rtE (cat plE (cat exE [.i 0, .slice [] 0 .exact, .slice [] 0 .exact, .slice [] 0 .exact, .i 0, .i 0])))), (tokAV v2), (cat [.i 0, .str []] (cat rtE (cat plE (cat exE [.i 0, .slice [] 0 .exact, .slice [] 0 .exact, .slice [] 0 .exact, .i v2.line, .i v2.col]))))], [], [], 0⟩) (σ' := [psAV lo l s35]) (ob := Tt 2) (by kernel_rfl) (tt 2) ?_
              have nk65 : eatF l [115, 101, 116] s35 ≠ .out := by intro h9; simp only [h9, R.out_bind] at hX; exact hne hX.symm
              refine AOps.call (fid := 41) (cap := []) (avs := [.ptr 0 0, .str [115, 101, 116]]) (by kernel_rfl) rfl (by kernel_rfl) (by kernel_rfl) en_41 (by kernel_rfl) (ACalls.mono (p_eat l lo hll [115, 101, 116] s35 nk65) ?_)
              cases k65 : eatF l [115, 101, 116] s35 with
              | out => exact absurd k65 nk65
              | bad ea eb ec =>
               rintro _ _ ⟨rfl, pp, dd, rfl⟩
               simp only [k65, R.bad_bind] at hX
               subst hX
               exact PR.bad_intro (vAV := fun (s : Sm) => .agg (smAV s)) pp dd rfl rfl
              | ok v66 s67 =>
               rintro _ _ ⟨rfl, rfl⟩
               simp only [k65, R.ok_bind] at hX
               refine AOps.runN hT nh 1 [0, 2, 3, 4, 63] (fr' := ⟨[(0, .ptr 0 0), (2, .loc 0 0), (3, .loc 1 0), (4, .loc 2 0), (63, .bool v66)], [(cat [.i 0, .str []] (cat rtE (cat plE (cat exE [.i 0, .slice [] 0 .exact, .slice [] 0 .exact, .slice [] 0 .exact, .i 0, .i 0])))), (tokAV v2), (cat [.i 0, .str []] (cat rtE (cat plE (cat exE [.i 0, .slice [] 0 .exact, .slice [] 0 .exact, .slice [] 0 .exact, .i v2.line, .i v2.col]))))], [], [], 0⟩) (σ' := [psAV lo l s67]) (ob := Tt 2) (by kernel_rfl) (tt 2) ?_
               refine AOps.nil ?_
               refine ACode.cond (t := v66) (by kernel_rfl) (fun h68 => ?_) (fun h68 => ?_)
               ·
                try simp only [h68, Bool.false_eq_true, Bool.not_true, Bool.not_false, if_true, if_false] at hX
                try simp only [letF] at hX
                refine ACode.seq ?_
                refine ACode.region ?_
                refine AOps.runN hT nh 1 [0, 2, 4, 66] (fr' := ⟨[(0, .ptr 0 0), (2, .loc 0 0), (4, .loc 2 0), (66, .ptr 0 0)], [(cat [.i 0, .str []] (cat rtE (cat plE (cat exE [.i 0, .slice [] 0 .exact, .slice [] 0 .exact, .slice [] 0 .exact, .i 0, .i 0])))), (tokAV v2), (cat [.i 0, .str []] (cat rtE (cat plE (cat exE [.i 0, .slice [] 0 .exact, .slice [] 0 .exact, .slice [] 0 .exact, .i v2.line, .i v2.col]))))], [], [], 0⟩) (σ' := [psAV lo l s67]) (ob := Tt 2) (by kernel_rfl) (tt 2) ?_
                have nk69 : placeF n l s67 ≠ .out := by intro h9; simp only [h9, R.out_bind] at hX; exact hne hX.symm
                refine AOps.call (fid := 74) (cap := []) (avs := [.ptr 0 0]) (by kernel_rfl) rfl (by kernel_rfl) (by kernel_rfl) en_74 (by kernel_rfl) (ACalls.mono (p_place l lo hll n s67 nk69) ?_)
                cases k69 : placeF n l s67 with
                | out => exact absurd k69 nk69
                | bad ea eb ec =>
                 rintro _ _ ⟨rfl, pp, dd, rfl⟩
                 simp only [k69, R.bad_bind] at hX
                 subst hX
                 exact PR.bad_intro (vAV := fun (s : Sm) => .agg (smAV s)) pp dd rfl rfl
                | ok v70 s71 =>
                 rintro _ _ ⟨rfl, rfl⟩
                 simp only [k69, R.ok_bind] at hX
                 refine AOps.runN hT nh 4 [0, 2, 4] (fr' := ⟨[(0, .ptr 0 0), (2, .loc 0 0), (4, .loc 2 0)], [(cat [.i 0, .str []] (cat rtE (cat plE (cat exE [.i 0, .slice [] 0 .exact, .slice [] 0 .exact, .slice [] 0 .exact, .i 0, .i 0])))), (tokAV v2), (cat [.i 4, .str []] (cat rtE (cat (plAV v70) (cat exE [.i 0, .slice [] 0 .exact, .slice [] 0 .exact, .slice [] 0 .exact, .i v2.line, .i v2.col]))))], [], [], 0⟩) (σ' := [psAV lo l s71]) (ob := Tt 5) (by kernel_rfl) (tt 5) ?_
                 refine AOps.nil ?_
                 refine ACode.seq ?_
                 refine ACode.region ?_
                 refine AOps.runN hT nh 1 [0, 2, 4, 70] (fr' := ⟨[(0, .ptr 0 0), (2, .loc 0 0), (4, .loc 2 0), (70, .ptr 0 0)], [(cat [.i 0, .str []] (cat rtE (cat plE (cat exE [.i 0, .slice [] 0 .exact, .slice [] 0 .exact, .slice [] 0 .exact, .i 0, .i 0])))), (tokAV v2), (cat [.i 4, .str []] (cat rtE (cat (plAV v70) (cat exE [.i 0, .slice [] 0 .exact, .slice [] 0 .exact, .slice [] 0 .exact, .i v2.line, .i v2.col]))))], [], [], 0⟩) (σ' := [psAV lo l s71]) (ob := Tt 2) (by kernel_rfl) (tt 2) ?_
                 have nk72 : mustF l [61] s71 ≠ .out := by intro h9; simp only [h9, R.out_bind] at hX; exact hne hX.symm
                 refine AOps.call (fid := 44) (cap := []) (avs := [.ptr 0 0, .str [61]]) (by kernel_rfl) rfl (by kernel_rfl) (by kernel_rfl) en_44 (by kernel_rfl) (ACalls.mono (p_must l lo hll [61] s71 nk72) ?_)
                 cases k72 : mustF l [61] s71 with
                 | out => exact absurd k72 nk72
                 | bad ea eb ec =>
                  rintro _ _ ⟨rfl, pp, dd, rfl⟩
                  simp only [k72, R.bad_bind] at hX
                  subst hX
                  exact PR.bad_intro (vAV := fun (s : Sm) => .agg (smAV s)) pp dd rfl rfl
                 | ok v73 s74 =>
                  rintro _ _ ⟨rfl, rfl⟩
                  simp only [k72, R.ok_bind] at hX
                  refine AOps.nil ?_
                  refine ACode.region ?_
                  refine AOps.runN hT nh 1 [0, 2, 4, 72] (fr' := ⟨[(0, .ptr 0 0), (2, .loc 0 0), (4, .loc 2 0), (72, .ptr 0 0)], [(cat [.i 0, .str []] (cat rtE (cat plE (cat exE [.i 0, .slice [] 0 .exact, .slice [] 0 .exact, .slice [] 0 .exact, .i 0, .i 0])))), (tokAV v2), (cat [.i 4, .str []] (cat rtE (cat (plAV v70) (cat exE [.i 0, .slice [] 0 .exact, .slice [] 0 .exact, .slice [] 0 .exact, .i v2.line, .i v2.col]))))], [], [], 0⟩) (σ' := [psAV lo l s74]) (ob := Tt 2) (by kernel_rfl) (tt 2) ?_
                  have nk75 : exprF n l s74 ≠ .out := by intro h9; simp only [h9, R.out_bind] at hX; exact hne hX.symm
                  refine AOps.call (fid := 75) (cap := []) (avs := [.ptr 0 0]) (by kernel_rfl) rfl (by kernel_rfl) (by kernel_rfl) en_75 (by kernel_rfl) (ACalls.mono ((ex_ok l lo hll n).expr s74 nk75) ?_)
                  cases k75 : exprF n l s74 with
                  | out => exact absurd k75 nk75
                  | bad ea eb ec =>
                   rintro _ _ ⟨rfl, pp, dd, rfl⟩
                   simp only [k75, R.bad_bind] at hX
                   subst hX
                   exact PR.bad_intro (vAV := fun (s : Sm) => .agg (smAV s)) pp dd rfl rfl
                  | ok v76 s77 =>
                   rintro _ _ ⟨rfl, rfl⟩
                   simp only [k75, R.ok_bind] at hX
                   refine AOps.runN hT nh 2 [0, 2, 4] (fr' := ⟨[(0, .ptr 0 0), (2, .loc 0 0), (4, .loc 2 0)], [(cat [.i 0, .str []] (cat rtE (cat plE (cat exE [.i 0, .slice [] 0 .exact, .slice [] 0 .exact, .slice [] 0 .exact, .i 0, .i 0])))), (tokAV v2), (cat [.i 4, .str []] (cat rtE (cat (plAV v70) (cat (exAV v76) [.i 0, .slice [] 0 .exact, .slice [] 0 .exact, .slice [] 0 .exact, .i v2.line, .i v2.col]))))], [], [], 0⟩) (σ' := [psAV lo l s77]) (ob := Tt 3) (by kernel_rfl) (tt 3) ?_
                   refine AOps.nil ?_
                   refine ACode.seq ?_
                   refine ACode.region ?_
                   refine AOps.runN hT nh 1 [2, 4, 107] (fr' := ⟨[(2, .loc 0 0), (4, .loc 2 0), (107, .ptr 0 0)], [(cat [.i 0, .str []] (cat rtE (cat plE (cat exE [.i 0, .slice [] 0 .exact, .slice [] 0 .exact, .slice [] 0 .exact, .i 0, .i 0])))), (tokAV v2), (cat [.i 4, .str []] (cat rtE (cat (plAV v70) (cat (exAV v76) [.i 0, .slice [] 0 .exact, .slice [] 0 .exact, .slice [] 0 .exact, .i v2.line, .i v2.col]))))], [], [], 0⟩) (σ' := [psAV lo l s77]) (ob := Tt 2) (by kernel_rfl) (tt 2) ?_
                   have nk78 : mustF l [59] s77 ≠ .out := by intro h9; simp only [h9, R.out_bind] at hX; exact hne hX.symm
                   refine AOps.call (fid := 44) (cap := []) (avs := [.ptr 0 0, .str [59]]) (by kernel_rfl) rfl (by kernel_rfl) (by kernel_rfl) en_44 (by kernel_rfl) (ACalls.mono (p_must l lo hll [59] s77 nk78) ?_)
                   cases k78 : mustF l [59] s77 with
                   | out => exact absurd k78 nk78
                   | bad ea eb ec =>
                    rintro _ _ ⟨rfl, pp, dd, rfl⟩
                    simp only [k78, R.bad_bind] at hX
                    subst hX
                    exact PR.bad_intro (vAV := fun (s : Sm) => .agg (smAV s)) pp dd rfl rfl
                   | ok v79 s80 =>
                    rintro _ _ ⟨rfl, rfl⟩
                    simp only [k78, R.ok_bind] at hX
                    refine AOps.nil ?_
                    refine ACode.seq ?_
                    refine ACode.run hT nh [2] (fr' := ⟨[(2, .loc 0 0)], [(cat [.i 4, .str []] (cat rtE (cat (plAV v70) (cat (exAV v76) [.i 0, .slice [] 0 .exact, .slice [] 0 .exact, .slice [] 0 .exact, .i v2.line, .i v2.col])))), (tokAV v2), (cat [.i 4, .str []] (cat rtE (cat (plAV v70) (cat (exAV v76) [.i 0, .slice [] 0 .exact, .slice [] 0 .exact, .slice [] 0 .exact, .i v2.line, .i v2.col]))))], [], [], 0⟩) (σ' := [psAV lo l s80]) (ob := Tt 3) (by kernel_rfl) (tt 3) ?_
                    refine ACode.ret ?_
                    refine retQ.ret (.agg (cat [.i 4, .str []] (cat rtE (cat (plAV v70) (cat (exAV v76) [.i 0, .slice [] 0 .exact, .slice [] 0 .exact, .slice [] 0 .exact, .i v2.line, .i v2.col]))))) (by kernel_rfl) ?_
                    subst hX
                    exact PR.ok_intro rfl rfl
               ·
                try simp only [h68, Bool.false_eq_true, Bool.not_true, Bool.not_false, if_true, if_false] at hX
                try simp only [letF] at hX
                refine ACode.seq ?_
                refine ACode.region ?_
                refine AOps.runN hT nh 1 [0, 2, 3, 4, 76] (fr' := ⟨[(0, .ptr 0 0), (2, .loc 0 0), (3, .loc 1 0), (4, .loc 2 0), (76, .ptr 0 0)], [(cat [.i 0, .str []] (cat rtE (cat plE (cat exE [.i 0, .slice [] 0 .exact, .slice [] 0 .exact, .slice [] 0 .exact, .i 0, .i 0])))), (tokAV v2), (cat [.i 0, .str []] (cat rtE (cat plE (cat exE [.i 0, .slice [] 0 .exact, .slice [] 0 .exact, .slice [] 0 .exact, .i v2.line, .i v2.col]))))], [], [], 0⟩) (σ' := [psAV lo l s67]) (ob := Tt 2) (by kernel_rfl) (tt 2) ?_
                have nk81 : eatF l [112, 114, 105, 110, 116] s67 ≠ .out := by intro h9; simp only [h9, R.out_bind] at hX; exact hne hX.symm
                refine AOps.call (fid := 41) (cap := []) (avs := [.ptr 0 0, .str [112, 114, 105, 110, 116]]) (by kernel_rfl) rfl (by kernel_rfl) (by kernel_rfl) en_41 (by kernel_rfl) (ACalls.mono (p_eat l lo hll [112, 114, 105, 110, 116] s67 nk81) ?_)
                cases k81 : eatF l [112, 114, 105, 110, 116] s67 with
                | out => exact absurd k81 nk81
                | bad ea eb ec =>
                 rintro _ _ ⟨rfl, pp, dd, rfl⟩
                 simp only [k81, R.bad_bind] at hX
                 subst hX
                 exact PR.bad_intro (vAV := fun (s : Sm) => .agg (smAV s)) pp dd rfl rfl
                | ok v82 s83 =>
                 rintro _ _ ⟨rfl, rfl⟩
                 simp only [k81, R.ok_bind] at hX
                 refine AOps.runN hT nh 1 [0, 2, 3, 4, 75] (fr' := ⟨[(0, .ptr 0 0), (2, .loc 0 0), (3, .loc 1 0), (4, .loc 2 0), (75, .bool v82)], [(cat [.i 0, .str []] (cat rtE (cat plE (cat exE [.i 0, .slice [] 0 .exact, .slice [] 0 .exact, .slice [] 0 .exact, .i 0, .i 0])))), (tokAV v2), (cat [.i 0, .str []] (cat rtE (cat plE (cat exE [.i 0, .slice [] 0 .exact, .slice [] 0 .exact, .slice [] 0 .exact, .i v2.line, .i v2.col]))))], [], [], 0⟩) (σ' := [psAV lo l s83]) (ob := Tt 2) (by kernel_rfl) (tt 2) ?_
                 refine AOps.nil ?_
                 refine ACode.cond (t := v82) (by kernel_rfl) (fun h84 => ?_) (fun h84 => ?_)
                 ·
                  try simp only [h84, Bool.false_eq_true, Bool.not_true, Bool.not_false, if_true, if_false] at hX
                  try simp only [letF] at hX
                  refine ACode.region ?_
                  refine AOps.runN hT nh 1 [0, 2, 4, 78] (fr' := ⟨[(0, .ptr 0 0), (2, .loc 0 0), (4, .loc 2 0), (78, .ptr 0 0)], [(cat [.i 0, .str []] (cat rtE (cat plE (cat exE [.i 0, .slice [] 0 .exact, .slice [] 0 .exact, .slice [] 0 .exact, .i 0, .i 0])))), (tokAV v2), (cat [.i 0, .str []] (cat rtE (cat plE (cat exE [.i 0, .slice [] 0 .exact, .slice [] 0 .exact, .slice [] 0 .exact, .i v2.line, .i v2.col]))))], [], [], 0⟩) (σ' := [psAV lo l s83]) (ob := Tt 2) (by kernel_rfl) (tt 2) ?_
                  have nk85 : exprF n l s83 ≠ .out := by intro h9; simp only [h9, R.out_bind] at hX; exact hne hX.symm
                  refine AOps.call (fid := 75) (cap := []) (avs := [.ptr 0 0]) (by kernel_rfl) rfl (by kernel_rfl) (by kernel_rfl) en_75 (by kernel_rfl) (ACalls.mono ((ex_ok l lo hll n).expr s83 nk85) ?_)
                  cases k85 : exprF n l s83 with
                  | out => exact absurd k85 nk85
                  | bad ea eb ec =>
                   rintro _ _ ⟨rfl, pp, dd, rfl⟩
                   simp only [k85, R.bad_bind] at hX
                   subst hX
                   exact PR.bad_intro (vAV := fun (s : Sm) => .agg (smAV s)) pp dd rfl rfl
                  | ok v86 s87 =>
                   rintro _ _ ⟨rfl, rfl⟩
                   simp only [k85, R.ok_bind] at hX
                   refine AOps.runN hT nh 4 [0, 2, 4] (fr' := ⟨[(0, .ptr 0 0), (2, .loc 0 0), (4, .loc 2 0)], [(cat [.i 0, .str []] (cat rtE (cat plE (cat exE [.i 0, .slice [] 0 .exact, .slice [] 0 .exact, .slice [] 0 .exact, .i 0, .i 0])))), (tokAV v2), (cat [.i 5, .str []] (cat rtE (cat plE (cat (exAV v86) [.i 0, .slice [] 0 .exact, .slice [] 0 .exact, .slice [] 0 .exact, .i v2.line, .i v2.col]))))], [], [], 0⟩) (σ' := [psAV lo l s87]) (ob := Tt 5) (by kernel_rfl) (tt 5) ?_
                   refine AOps.nil ?_
                   refine ACode.seq ?_
                   refine ACode.region ?_
                   refine AOps.runN hT nh 1 [2, 4, 107] (fr' := ⟨[(2, .loc 0 0), (4, .loc 2 0), (107, .ptr 0 0)], [(cat [.i 0, .str []] (cat rtE (cat plE (cat exE [.i 0, .slice [] 0 .exact, .slice [] 0 .exact, .slice [] 0 .exact, .i 0, .i 0])))), (tokAV v2), (cat [.i 5, .str []] (cat rtE (cat plE (cat (exAV v86) [.i 0, .slice [] 0 .exact, .slice [] 0 .exact, .slice [] 0 .exact, .i v2.line, .i v2.col]))))], [], [], 0⟩) (σ' := [psAV lo l s87]) (ob := Tt 2) (by kernel_rfl) (tt 2) ?_
                   have nk88 : mustF l [59] s87 ≠ .out := by intro h9; simp only [h9, R.out_bind] at hX; exact hne hX.symm
                   refine AOps.call (fid := 44) (cap := []) (avs := [.ptr 0 0, .str [59]]) (by kernel_rfl) rfl (by kernel_rfl) (by kernel_rfl) en_44 (by kernel_rfl) (ACalls.mono (p_must l lo hll [59] s87 nk88) ?_)
                   cases k88 : mustF l [59] s87 with
                   | out => exact absurd k88 nk88
                   | bad ea eb ec =>
                    rintro _ _ ⟨rfl, pp, dd, rfl⟩
                    simp only [k88, R.bad_bind] at hX
                    subst hX
                    exact PR.bad_intro (vAV := fun (s : Sm) => .agg (smAV s)) pp dd rfl rfl
                   | ok v89 s90 =>
                    rintro _ _ ⟨rfl, rfl⟩
                    simp only [k88, R.ok_bind] at hX
                    refine AOps.nil ?_
                    refine ACode.seq ?_
                    refine ACode.run hT nh [2] (fr' := ⟨[(2, .loc 0 0)], [(cat [.i 5, .str []] (cat rtE (cat plE (cat (exAV v86) [.i 0, .slice [] 0 .exact, .slice [] 0 .exact, .slice [] 0 .exact, .i v2.line, .i v2.col])))), (tokAV v2), (cat [.i 5, .str []] (cat rtE (cat plE (cat (exAV v86) [.i 0, .slice [] 0 .exact, .slice [] 0 .exact, .slice [] 0 .exact, .i v2.line, .i v2.col]))))], [], [], 0⟩) (σ' := [psAV lo l s90]) (ob := Tt 3) (by kernel_rfl) (tt 3) ?_
                    refine ACode.ret ?_
                    refine retQ.ret (.agg (cat [.i 5, .str []] (cat rtE (cat plE (cat (exAV v86) [.i 0, .slice [] 0 .exact, .slice [] 0 .exact, .slice [] 0 .exact, .i v2.line, .i v2.col]))))) (by kernel_rfl) ?_
                    subst hX
                    exact PR.ok_intro rfl rfl
                 ·
                  try simp only [h84, Bool.false_eq_true, Bool.not_true, Bool.not_false, if_true, if_false] at hX
                  try simp only [letF] at hX
                  refine ACode.seq ?_
                  refine ACode.region ?_
                  refine AOps.runN hT nh 1 [0, 2, 3, 4, 83] (fr' := ⟨[(0, .ptr 0 0), (2, .loc 0 0), (3, .loc 1 0), (4, .loc 2 0), (83, .ptr 0 0)], [(cat [.i 0, .str []] (cat rtE (cat plE (cat exE [.i 0, .slice [] 0 .exact, .slice [] 0 .exact, .slice [] 0 .exact, .i 0, .i 0])))), (tokAV v2), (cat [.i 0, .str []] (cat rtE (cat plE (cat exE [.i 0, .slice [] 0 .exact, .slice [] 0 .exact, .slice [] 0 .exact, .i v2.line, .i v2.col]))))], [], [], 0⟩) (σ' := [psAV lo l s83]) (ob := Tt 2) (by kernel_rfl) (tt 2) ?_
                  have nk91 : eatF l [98, 114, 101, 97, 107] s83 ≠ .out := by intro h9; simp only [h9, R.out_bind] at hX; exact hne hX.symm
                  refine AOps.call (fid := 41) (cap := []) (avs := [.ptr 0 0, .str [98, 114, 101, 97, 107]]) (by kernel_rfl) rfl (by kernel_rfl) (by kernel_rfl) en_41 (by kernel_rfl) (ACalls.mono (p_eat l lo hll [98, 114, 101, 97, 107] s83 nk91) ?_)
                  cases k91 : eatF l [98, 114, 101, 97, 107] s83 with
                  | out => exact absurd k91 nk91
                  | bad ea eb ec =>
                   rintro _ _ ⟨rfl, pp, dd, rfl⟩
                   simp only [k91, R.bad_bind] at hX
                   subst hX
                   exact PR.bad_intro (vAV := fun (s : Sm) => .agg (smAV s)) pp dd rfl rfl
                  | ok v92 s93 =>
                   rintro _ _ ⟨rfl, rfl⟩
                   simp only [k91, R.ok_bind] at hX
                   refine AOps.runN hT nh 1 [0, 2, 3, 4, 82] (fr' := ⟨[(0, .ptr 0 0), (2, .loc 0 0), (3, .loc 1 0), (4, .loc 2 0), (82, .bool v92)], [(cat [.i 0, .str []] (cat rtE (cat plE (cat exE [.i 0, .slice [] 0 .exact, .slice [] 0 .exact, .slice [] 0 .exact, .i 0, .i 0])))), (tokAV v2), (cat [.i 0, .str []] (cat rtE (cat plE (cat exE [.i 0, .slice [] 0 .exact, .slice [] 0 .exact, .slice [] 0 .exact, .i v2.line, .i v2.col]))))], [], [], 0⟩) (σ' := [psAV lo l s93]) (ob := Tt 2) (by kernel_rfl) (tt 2) ?_
                   refine AOps.nil ?_
                   refine ACode.cond (t := v92) (by kernel_rfl) (fun h94 => ?_) (fun h94 => ?_)
                   ·
                    try simp only [h94, Bool.false_eq_true, Bool.not_true, Bool.not_false, if_true, if_false] at hX
                    try simp only [letF] at hX
                    refine ACode.region ?_
                    refine AOps.runN hT nh 1 [0, 2, 4, 85] (fr' := ⟨[(0, .ptr 0 0), (2, .loc 0 0), (4, .loc 2 0), (85, .ptr 0 0)], [(cat [.i 0, .str []] (cat rtE (cat plE (cat exE [.i 0, .slice [] 0 .exact, .slice [] 0 .exact, .slice [] 0 .exact, .i 0, .i 0])))), (tokAV v2), (cat [.i 0, .str []] (cat rtE (cat plE (cat exE [.i 0, .slice [] 0 .exact, .slice [] 0 .exact, .slice [] 0 .exact, .i v2.line, .i v2.col]))))], [], [], 0⟩) (σ' := [psAV lo l s93]) (ob := Tt 2) (by kernel_rfl) (tt 2) ?_
                    have nk95 : labelF l s93 ≠ .out := by intro h9; simp only [h9, R.out_bind] at hX; exact hne hX.symm
                    refine AOps.call (fid := 76) (cap := []) (avs := [.ptr 0 0]) (by kernel_rfl) rfl (by kernel_rfl) (by kernel_rfl) en_76 (by kernel_rfl) (ACalls.mono (p_label l lo hll s93 nk95) ?_)
                    cases k95 : labelF l s93 with
                    | out => exact absurd k95 nk95
                    | bad ea eb ec =>
                     rintro _ _ ⟨rfl, pp, dd, rfl⟩
                     simp only [k95, R.bad_bind] at hX
                     subst hX
                     exact PR.bad_intro (vAV := fun (s : Sm) => .agg (smAV s)) pp dd rfl rfl
                    | ok v96 s97 =>
                     rintro _ _ ⟨rfl, rfl⟩
                     simp only [k95, R.ok_bind] at hX
                     refine AOps.runN hT nh 4 [0, 2, 4] (fr' := ⟨[(0, .ptr 0 0), (2, .loc 0 0), (4, .loc 2 0)], [(cat [.i 0, .str []] (cat rtE (cat plE (cat exE [.i 0, .slice [] 0 .exact, .slice [] 0 .exact, .slice [] 0 .exact, .i 0, .i 0])))), (tokAV v2), (cat [.i 8, .str v96] (cat rtE (cat plE (cat exE [.i 0, .slice [] 0 .exact, .slice [] 0 .exact, .slice [] 0 .exact, .i v2.line, .i v2.col]))))], [], [], 0⟩) (σ' := [psAV lo l s97]) (ob := Tt 5) (by kernel_rfl) (tt 5) ?_
                     refine AOps.nil ?_
                     refine ACode.seq ?_
                     refine ACode.region ?_
                     refine AOps.runN hT nh 1 [2, 4, 107] (fr' := ⟨[(2, .loc 0 0), (4, .loc 2 0), (107, .ptr 0 0)], [(cat [.i 0, .str []] (cat rtE (cat plE (cat exE [.i 0, .slice [] 0 .exact, .slice [] 0 .exact, .slice [] 0 .exact, .i 0, .i 0])))), (tokAV v2), (cat [.i 8, .str v96] (cat rtE (cat plE (cat exE [.i 0, .slice [] 0 .exact, .slice [] 0 .exact, .slice [] 0 .exact, .i v2.line, .i v2.col]))))], [], [], 0⟩) (σ' := [psAV lo l s97]) (ob := Tt 2) (by kernel_rfl) (tt 2) ?_
                     have nk98 : mustF l [59] s97 ≠ .out := by intro h9; simp only [h9, R.out_bind] at hX; exact hne hX.symm
                     refine AOps.call (fid := 44) (cap := []) (avs := [.ptr 0 0, .str [59]]) (by kernel_rfl) rfl (by kernel_rfl) (by kernel_rfl) en_44 (by kernel_rfl) (ACalls.mono (p_must l lo hll [59] s97 nk98) ?_)
                     cases k98 : mustF l [59] s97 with
                     | out => exact absurd k98 nk98
                     | bad ea eb ec =>
                      rintro _ _ ⟨rfl, pp, dd, rfl⟩
                      simp only [k98, R.bad_bind] at hX
                      subst hX
                      exact PR.bad_intro (vAV := fun (s : Sm) => .agg (smAV s)) pp dd rfl rfl
                     | ok v99 s100 =>
                      rintro _ _ ⟨rfl, rfl⟩
                      simp only [k98, R.ok_bind] at hX
                      refine AOps.nil ?_
                      refine ACode.seq ?_
                      refine ACode.run hT nh [2] (fr' := ⟨[(2, .loc 0 0)], [(cat [.i 8, .str v96] (cat rtE (cat plE (cat exE [.i 0, .slice [] 0 .exact, .slice [] 0 .exact, .slice [] 0 .exact, .i v2.line, .i v2.col])))), (tokAV v2), (cat [.i 8, .str v96] (cat rtE (cat plE (cat exE [.i 0, .slice [] 0 .exact, .slice [] 0 .exact, .slice [] 0 .exact, .i v2.line, .i v2.col]))))], [], [], 0⟩) (σ' := [psAV lo l s100]) (ob := Tt 3) (by kernel_rfl) (tt 3) ?_
                      refine ACode.ret ?_
                      refine retQ.ret (.agg (cat [.i 8, .str v96] (cat rtE (cat plE (cat exE [.i 0, .slice [] 0 .exact, .slice [] 0 .exact, .slice [] 0 .exact, .i v2.line, .i v2.col]))))) (by kernel_rfl) ?_
                      subst hX
                      exact PR.ok_intro rfl rfl
                   ·
                    try simp only [h94, Bool.false_eq_true, Bool.not_true, Bool.not_false, if_true, if_false] at hX
                    try simp only [letF] at hX
                    refine ACode.seq ?_
                    refine ACode.region ?_
                    refine AOps.runN hT nh 1 [0, 2, 3, 4, 90] (fr' := ⟨[(0, .ptr 0 0), (2, .loc 0 0), (3, .loc 1 0), (4, .loc 2 0), (90, .ptr 0 0)], [(cat [.i 0, .str []] (cat rtE (cat plE (cat exE [.i 0, .slice [] 0 .exact, .slice [] 0 .exact, .slice [] 0 .exact, .i 0, .i 0])))), (tokAV v2), (cat [.i 0, .str []] (cat rtE (cat plE (cat exE [.i 0, .slice [] 0 .exact, .slice [] 0 .exact, .slice [] 0 .exact, .i v2.line, .i v2.col]))))], [], [], 0⟩) (σ' := [psAV lo l s93]) (ob := Tt 2) (by kernel_rfl) (tt 2) ?_
                    have nk101 : eatF l [99, 111, 110, 116, 105, 110, 117, 101] s93 ≠ .out := by intro h9; simp only [h9, R.out_bind] at hX; exact hne hX.symm
                    refine AOps.call (fid := 41) (cap := []) (avs := [.ptr 0 0, .str [99, 111, 110, 116, 105, 110, 117, 101]]) (by kernel_rfl) rfl (by kernel_rfl) (by kernel_rfl) en_41 (by kernel_rfl) (ACalls.mono (p_eat l lo hll [99, 111, 110, 116, 105, 110, 117, 101] s93 nk101) ?_)
                    cases k101 : eatF l [99, 111, 110, 116, 105, 110, 117, 101] s93 with
                    | out => exact absurd k101 nk101
                    | bad ea eb ec =>
                     rintro _ _ ⟨rfl, pp, dd, rfl⟩
                     simp only [k101, R.bad_bind] at hX
                     subst hX
                     exact PR.bad_intro (vAV := fun (s : Sm) => .agg (smAV s)) pp dd rfl rfl
                    | ok v102 s103 =>
                     rintro _ _ ⟨rfl, rfl⟩
                     simp only [k101, R.ok_bind] at hX
                     refine AOps.runN hT nh 1 [0, 2, 3, 4, 89] (fr' := ⟨[(0, .ptr 0 0), (2, .loc 0 0), (3, .loc 1 0), (4, .loc 2 0), (89, .bool v102)], [(cat [.i 0, .str []] (cat rtE (cat plE (cat exE [.i 0, .slice [] 0 .exact, .slice [] 0 .exact, .slice [] 0 .exact, .i 0, .i 0])))), (tokAV v2), (cat [.i 0, .str []] (cat rtE (cat plE (cat exE [.i 0, .slice [] 0 .exact, .slice [] 0 .exact, .slice [] 0 .exact, .i v2.line, .i v2.col]))))], [], [], 0⟩) (σ' := [psAV lo l s103]) (ob := Tt 2) (by kernel_rfl) (tt 2) ?_
                     refine AOps.nil ?_
                     refine ACode.cond (t := v102) (by kernel_rfl) (fun h104 => ?_) (fun h104 => ?_)
                     ·
                      try simp only [h104, Bool.false_eq_true, Bool.not_true, Bool.not_false, if_true, if_false] at hX
                      try simp only [letF] at hX
                      refine ACode.region ?_
                      refine AOps.runN hT nh 1 [0, 2, 4, 92] (fr' := ⟨[(0, .ptr 0 0), (2, .loc 0 0), (4, .loc 2 0), (92, .ptr 0 0)], [(cat [.i 0, .str []] (cat rtE (cat plE (cat exE [.i 0, .slice [] 0 .exact, .slice [] 0 .exact, .slice [] 0 .exact, .i 0, .i 0])))), (tokAV v2), (cat [.i 0, .str []] (cat rtE (cat plE (cat exE [.i 0, .slice [] 0 .exact, .slice [] 0 .exact, .slice [] 0 .exact, .i v2.line, .i v2.col]))))], [], [], 0⟩) (σ' := [psAV lo l s103]) (ob := Tt 2) (by kernel_rfl) (tt 2) ?_
                      have nk105 : labelF l s103 ≠ .out := by intro h9; simp only [h9, R.out_bind] at hX; exact hne hX.symm
                      refine AOps.call (fid := 76) (cap := []) (avs := [.ptr 0 0]) (by kernel_rfl) rfl (by kernel_rfl) (by kernel_rfl) en_76 (by kernel_rfl) (ACalls.mono (p_label l lo hll s103 nk105) ?_)
                      cases k105 : labelF l s103 with
                      | out => exact absurd k105 nk105
                      | bad ea eb ec =>
                       rintro _ _ ⟨rfl, pp, dd, rfl⟩
                       simp only [k105, R.bad_bind] at hX
                       subst hX
                       exact PR.bad_intro (vAV := fun (s : Sm) => .agg (smAV s)) pp dd rfl rfl
                      | ok v106 s107 =>
                       rintro _ _ ⟨rfl, rfl⟩
                       simp only [k105, R.ok_bind] at hX
                       refine AOps.runN hT nh 4 [0, 2, 4] (fr' := ⟨[(0, .ptr 0 0), (2, .loc 0 0), (4, .loc 2 0)], [(cat [.i 0, .str []] (cat rtE (cat plE (cat exE [.i 0, .slice [] 0 .exact, .slice [] 0 .exact, .slice [] 0 .exact, .i 0, .i 0])))), (tokAV v2), (cat [.i 9, .str v106] (cat rtE (cat plE (cat exE [.i 0, .slice [] 0 .exact, .slice [] 0 .exact, .slice [] 0 .exact, .i v2.line, .i v2.col]))))], [], [], 0⟩) (σ' := [psAV lo l s107]) (ob := Tt 5) (by kernel_rfl) (tt 5) ?_
                       refine AOps.nil ?_
                       refine ACode.seq ?_
                       refine ACode.region ?_
                       refine AOps.runN hT nh 1 [2, 4, 107] (fr' := ⟨[(2, .loc 0 0), (4, .loc 2 0), (107, .ptr 0 0)], [(cat [.i 0, .str []] (cat rtE (cat plE (cat exE [.i 0, .slice [] 0 .exact, .slice [] 0 .exact, .slice [] 0 .exact, .i 0, .i 0])))), (tokAV v2), (cat [.i 9, .str v106] (cat rtE (cat plE (cat exE [.i 0, .slice [] 0 .exact, .slice [] 0 .exact, .slice [] 0 .exact, .i v2.line, .i v2.col]))))], [], [], 0⟩) (σ' := [psAV lo l s107]) (ob := Tt 2) (by kernel_rfl) (tt 2) ?_
                       have nk108 : mustF l [59] s107 ≠ .out := by intro h9; simp only [h9, R.out_bind] at hX; exact hne hX.symm
                       refine AOps.call (fid := 44) (cap := []) (avs := [.ptr 0 0, .str [59]]) (by kernel_rfl) rfl (by kernel_rfl) (by kernel_rfl) en_44 (by kernel_rfl) (ACalls.mono (p_must l lo hll [59] s107 nk108) ?_)
                       cases k108 : mustF l [59] s107 with
                       | out => exact absurd k108 nk108
                       | bad ea eb ec =>
                        rintro _ _ ⟨rfl, pp, dd, rfl⟩
                        simp only [k108, R.bad_bind] at hX
                        subst hX
                        exact PR.bad_intro (vAV := fun (s : Sm) => .agg (smAV s)) pp dd rfl rfl
                       | ok v109 s110 =>
                        rintro _ _ ⟨rfl, rfl⟩
                        simp only [k108, R.ok_bind] at hX
                        refine AOps.nil ?_
                        refine ACode.seq ?_
                        refine ACode.run hT nh [2] (fr' := ⟨[(2, .loc 0 0)], [(cat [.i 9, .str v106] (cat rtE (cat plE (cat exE [.i 0, .slice [] 0 .exact, .slice [] 0 .exact, .slice [] 0 .exact, .i v2.line, .i v2.col])))), (tokAV v2), (cat [.i 9, .str v106] (cat rtE (cat plE (cat exE [.i 0, .slice [] 0 .exact, .slice [] 0 .exact, .slice [] 0 .exact, .i v2.line, .i v2.col]))))], [], [], 0⟩) (σ' := [psAV lo l s110]) (ob := Tt 3) (by kernel_rfl) (tt 3) ?_
                        refine ACode.ret ?_
                        refine retQ.ret (.agg (cat [.i 9, .str v106] (cat rtE (cat plE (cat exE [.i 0, .slice [] 0 .exact, .slice [] 0 .exact, .slice [] 0 .exact, .i v2.line, .i v2.col]))))) (by kernel_rfl) ?_
                        subst hX
                        exact PR.ok_intro rfl rfl
                     ·
                      try simp only [h104, Bool.false_eq_true, Bool.not_true, Bool.not_false, if_true, if_false] at hX
                      try simp only [letF] at hX
                      refine ACode.seq ?_
                      refine ACode.region ?_
                      refine AOps.runN hT nh 1 [0, 2, 3, 4, 97] (fr' := ⟨[(0, .ptr 0 0), (2, .loc 0 0), (3, .loc 1 0), (4, .loc 2 0), (97, .ptr 0 0)], [(cat [.i 0, .str []] (cat rtE (cat plE (cat exE [.i 0, .slice [] 0 .exact, .slice [] 0 .exact, .slice [] 0 .exact, .i 0, .i 0])))), (tokAV v2), (cat [.i 0, .str []] (cat rtE (cat plE (cat exE [.i 0, .slice [] 0 .exact, .slice [] 0 .exact, .slice [] 0 .exact, .i v2.line, .i v2.col]))))], [], [], 0⟩) (σ' := [psAV lo l s103]) (ob := Tt 2) (by kernel_rfl) (tt 2) ?_
                      have nk111 : eatF l [99, 97, 108, 108] s103 ≠ .out := by intro h9; simp only [h9, R.out_bind] at hX; exact hne hX.symm
                      refine AOps.call (fid := 41) (cap := []) (avs := [.ptr 0 0, .str [99, 97, 108, 108]]) (by kernel_rfl) rfl (by kernel_rfl) (by kernel_rfl) en_41 (by kernel_rfl) (ACalls.mono (p_eat l lo hll [99, 97, 108, 108] s103 nk111) ?_)
                      cases k111 : eatF l [99, 97, 108, 108] s103 with
                      | out => exact absurd k111 nk111
                      | bad ea eb ec =>
                       rintro _ _ ⟨rfl, pp, dd, rfl⟩
                       simp only [k111, R.bad_bind] at hX
                       subst hX
                       exact PR.bad_intro (vAV := fun (s : Sm) => .agg (smAV s)) pp dd rfl rfl
                      | ok v112 s113 =>
                       rintro _ _ ⟨rfl, rfl⟩
                       simp only [k111, R.ok_bind] at hX
                       refine AOps.runN hT nh 1 [0, 2, 3, 4, 96] (fr' := ⟨[(0, .ptr 0 0), (2, .loc 0 0), (3, .loc 1 0), (4, .loc 2 0), (96, .bool v112)], [(cat [.i 0, .str []] (cat rtE (cat plE (cat exE [.i 0, .slice [] 0 .exact, .slice [] 0 .exact, .slice [] 0 .exact, .i 0, .i 0])))), (tokAV v2), (cat [.i 0, .str []] (cat rtE (cat plE (cat exE [.i 0, .slice [] 0 .exact, .slice [] 0 .exact, .slice [] 0 .exact, .i v2.line, .i v2.col]))))], [], [], 0⟩) (σ' := [psAV lo l s113]) (ob := Tt 2) (by kernel_rfl) (tt 2) ?_
                       refine AOps.nil ?_
                       refine ACode.cond (t := v112) (by kernel_rfl) (fun h114 => ?_) (fun h114 => ?_)
                       ·
                        try simp only [h114, Bool.false_eq_true, Bool.not_true, Bool.not_false, if_true, if_false] at hX
                        try simp only [letF] at hX
                        refine ACode.seq ?_
                        refine ACode.region ?_
                        refine AOps.runN hT nh 1 [0, 2, 4, 99] (fr' := ⟨[(0, .ptr 0 0), (2, .loc 0 0), (4, .loc 2 0), (99, .ptr 0 0)], [(cat [.i 0, .str []] (cat rtE (cat plE (cat exE [.i 0, .slice [] 0 .exact, .slice [] 0 .exact, .slice [] 0 .exact, .i 0, .i 0])))), (tokAV v2), (cat [.i 0, .str []] (cat rtE (cat plE (cat exE [.i 0, .slice [] 0 .exact, .slice [] 0 .exact, .slice [] 0 .exact, .i v2.line, .i v2.col]))))], [], [], 0⟩) (σ' := [psAV lo l s113]) (ob := Tt 2) (by kernel_rfl) (tt 2) ?_
                        have nk115 : kindF l 1 s113 ≠ .out := by intro h9; simp only [h9, R.out_bind] at hX; exact hne hX.symm
                        refine AOps.call (fid := 57) (cap := []) (avs := [.ptr 0 0, .i 1]) (by kernel_rfl) rfl (by kernel_rfl) (by kernel_rfl) en_57 (by kernel_rfl) (ACalls.mono (p_kind l lo hll 1 s113 nk115) ?_)
                        cases k115 : kindF l 1 s113 with
                        | out => exact absurd k115 nk115
                        | bad ea eb ec =>
                         rintro _ _ ⟨rfl, pp, dd, rfl⟩
                         simp only [k115, R.bad_bind] at hX
                         subst hX
                         exact PR.bad_intro (vAV := fun (s : Sm) => .agg (smAV s)) pp dd rfl rfl
                        | ok v116 s117 =>
                         rintro _ _ ⟨rfl, rfl⟩
                         simp only [k115, R.ok_bind] at hX
                         refine AOps.runN hT nh 5 [0, 2, 4] (fr' := ⟨[(0, .ptr 0 0), (2, .loc 0 0), (4, .loc 2 0)], [(cat [.i 0, .str []] (cat rtE (cat plE (cat exE [.i 0, .slice [] 0 .exact, .slice [] 0 .exact, .slice [] 0 .exact, .i 0, .i 0])))), (tokAV v2), (cat [.i 11, .str v116.text] (cat rtE (cat plE (cat exE [.i 0, .slice [] 0 .exact, .slice [] 0 .exact, .slice [] 0 .exact, .i v2.line, .i v2.col]))))], [], [], 0⟩) (σ' := [psAV lo l s117]) (ob := Tt 6) (by kernel_rfl) (tt 6) ?_
                         refine AOps.nil ?_
                         refine ACode.region ?_
                         refine AOps.runN hT nh 1 [0, 2, 4, 104] (fr' := ⟨[(0, .ptr 0 0), (2, .loc 0 0), (4, .loc 2 0), (104, .ptr 0 0)], [(cat [.i 0, .str []] (cat rtE (cat plE (cat exE [.i 0, .slice [] 0 .exact, .slice [] 0 .exact, .slice [] 0 .exact, .i 0, .i 0])))), (tokAV v2), (cat [.i 11, .str v116.text] (cat rtE (cat plE (cat exE [.i 0, .slice [] 0 .exact, .slice [] 0 .exact, .slice [] 0 .exact, .i v2.line, .i v2.col]))))], [], [], 0⟩) (σ' := [psAV lo l s117]) (ob := Tt 2) (by kernel_rfl) (tt 2) ?_
                         have nk118 : argsF n l s117 ≠ .out := by intro h9; simp only [h9, R.out_bind] at hX; exact hne hX.symm
                         refine AOps.call (fid := 77) (cap := []) (avs := [.ptr 0 0]) (by kernel_rfl) rfl (by kernel_rfl) (by kernel_rfl) en_77 (by kernel_rfl) (ACalls.mono (p_args l lo hll n s117 nk118) ?_)
                         cases k118 : argsF n l s117 with
                         | out => exact absurd k118 nk118
                         | bad ea eb ec =>
                          rintro _ _ ⟨rfl, pp, dd, rfl⟩
                          simp only [k118, R.bad_bind] at hX
                          subst hX
                          exact PR.bad_intro (vAV := fun (s : Sm) => .agg (smAV s)) pp dd rfl rfl
                         | ok v119 s120 =>
                          rintro _ _ ⟨rfl, rfl⟩
                          simp only [k118, R.ok_bind] at hX
                          refine AOps.runN hT nh 2 [0, 2, 4] (fr' := ⟨[(0, .ptr 0 0), (2, .loc 0 0), (4, .loc 2 0)], [(cat [.i 0, .str []] (cat rtE (cat plE (cat exE [.i 0, .slice [] 0 .exact, .slice [] 0 .exact, .slice [] 0 .exact, .i 0, .i 0])))), (tokAV v2), (cat [.i 11, .str v116.text] (cat rtE (cat plE (cat exE [.i 0, .slice (exRows v119) v119.length .no, .slice [] 0 .exact, .slice [] 0 .exact, .i v2.line, .i v2.col]))))], [], [], 0⟩) (σ' := [psAV lo l s120]) (ob := Tt 3) (by kernel_rfl) (tt 3) ?_
                          refine AOps.nil ?_
                          refine ACode.seq ?_
                          refine ACode.region ?_
                          refine AOps.runN hT nh 1 [2, 4, 107] (fr' := ⟨[(2, .loc 0 0), (4, .loc 2 0), (107, .ptr 0 0)], [(cat [.i 0, .str []] (cat rtE (cat plE (cat exE [.i 0, .slice [] 0 .exact, .slice [] 0 .exact, .slice [] 0 .exact, .i 0, .i 0])))), (tokAV v2), (cat [.i 11, .str v116.text] (cat rtE (cat plE (cat exE [.i 0, .slice (exRows v119) v119.length .no, .slice [] 0 .exact, .slice [] 0 .exact, .i v2.line, .i v2.col]))))], [], [], 0⟩) (σ' := [psAV lo l s120]) (ob := Tt 2) (by kernel_rfl) (tt 2) ?_
                          have nk121 : mustF l [59] s120 ≠ .out := by intro h9; simp only [h9, R.out_bind] at hX; exact hne hX.symm
                          refine AOps.call (fid := 44) (cap := []) (avs := [.ptr 0 0, .str [59]]) (by kernel_rfl) rfl (by kernel_rfl) (by kernel_rfl) en_44 (by kernel_rfl) (ACalls.mono (p_must l lo hll [59] s120 nk121) ?_)
                          cases k121 : mustF l [59] s120 with
                          | out => exact absurd k121 nk121
                          | bad ea eb ec =>
                           rintro _ _ ⟨rfl, pp, dd, rfl⟩
                           simp only [k121, R.bad_bind] at hX
                           subst hX
                           exact PR.bad_intro (vAV := fun (s : Sm) => .agg (smAV s)) pp dd rfl rfl
                          | ok v122 s123 =>
                           rintro _ _ ⟨rfl, rfl⟩
                           simp only [k121, R.ok_bind] at hX
                           refine AOps.nil ?_
                           refine ACode.seq ?_
                           refine ACode.run hT nh [2] (fr' := ⟨[(2, .loc 0 0)], [(cat [.i 11, .str v116.text] (cat rtE (cat plE (cat exE [.i 0, .slice (exRows v119) v119.length .no, .slice [] 0 .exact, .slice [] 0 .exact, .i v2.line, .i v2.col])))), (tokAV v2), (cat [.i 11, .str v116.text] (cat rtE (cat plE (cat exE [.i 0, .slice (exRows v119) v119.length .no, .slice [] 0 .exact, .slice [] 0 .exact, .i v2.line, .i v2.col]))))], [], [], 0⟩) (σ' := [psAV lo l s123]) (ob := Tt 3) (by kernel_rfl) (tt 3) ?_
                           refine ACode.ret ?_
                           refine retQ.ret (.agg (cat [.i 11, .str v116.text] (cat rtE (cat plE (cat exE [.i 0, .slice (exRows v119) v119.length .no, .slice [] 0 .exact, .slice [] 0 .exact, .i v2.line, .i v2.col]))))) (by kernel_rfl) ?_
                           subst hX
                           exact PR.ok_intro rfl rfl
                       ·
                        try simp only [h114, Bool.false_eq_true, Bool.not_true, Bool.not_false, if_true, if_false] at hX
                        try simp only [letF] at hX
                        refine ACode.region ?_
                        refine AOps.runN hT nh 2 [0, 2, 4, 18, 19] (fr' := ⟨[(0, .ptr 0 0), (2, .loc 0 0), (4, .loc 2 0), (18, .ptr 0 0), (19, .agg (tokAV v2))], [(cat [.i 0, .str []] (cat rtE (cat plE (cat exE [.i 0, .slice [] 0 .exact, .slice [] 0 .exact, .slice [] 0 .exact, .i 0, .i 0])))), (tokAV v2), (cat [.i 0, .str []] (cat rtE (cat plE (cat exE [.i 0, .slice [] 0 .exact, .slice [] 0 .exact, .slice [] 0 .exact, .i v2.line, .i v2.col]))))], [], [], 0⟩) (σ' := [psAV lo l s113]) (ob := Tt 3) (by kernel_rfl) (tt 3) ?_
                        refine AOps.call (fid := 47) (cap := []) (avs := [.ptr 0 0, .i 4, .agg (tokAV v2)]) (by kernel_rfl) rfl (by kernel_rfl) (by kernel_rfl) en_47 (by kernel_rfl) (ACalls.mono (p_fail l lo hll 4 v2 (s113.pos : Int) s113.dep) ?_)
                        rintro _ _ ⟨rfl, pp, dd, rfl⟩
                        subst hX
                        exact PR.bad_intro (vAV := fun (s : Sm) => .agg (smAV s)) pp dd rfl rfl
           ·
            try simp only [h32, Bool.false_eq_true, Bool.not_true, Bool.not_false, if_true, if_false] at hX
            try simp only [letF] at hX
            refine AOps.runN hT nh 4 [0, 2, 3, 4, 41] (fr' := ⟨[(0, .ptr 0 0), (2, .loc 0 0), (3, .loc 1 0), (4, .loc 2 0), (41, .bool true)], [(cat [.i 0, .str []] (cat rtE (cat plE (cat exE [.i 0, .slice [] 0 .exact, .slice [] 0 .exact, .slice [] 0 .exact, .i 0, .i 0])))), (tokAV v2), (cat [.i 0, .str []] (cat rtE (cat plE (cat exE [.i 0, .slice [] 0 .exact, .slice [] 0 .exact, .slice [] 0 .exact, .i v2.line, .i v2.col]))))], [], [], 0⟩) (σ' := [psAV lo l s31]) (ob := Tt 3) (by kernel_rfl) (tt 3) ?_
            refine AOps.nil ?_
            refine ACode.cond (t := true) (by kernel_rfl) (fun _ => ?_) (fun h => Bool.noConfusion h)
            refine ACode.seq ?_
            refine ACode.run hT nh [0, 2, 4] (fr' := ⟨[(0, .ptr 0 0), (2, .loc 0 0), (4, .loc 2 0)], [(cat [.i 0, .str []] (cat rtE (cat plE (cat exE [.i 0, .slice [] 0 .exact, .slice [] 0 .exact, .slice [] 0 .exact, .i 0, .i 0])))), (tokAV v2), (cat [.i 1, .str []] (cat rtE (cat plE (cat exE [.i 0, .slice [] 0 .exact, .slice [] 0 .exact, .slice [] 0 .exact, .i v2.line, .i v2.col]))))], [], [], 0⟩) (σ' := [psAV lo l s31]) (ob := Tt 3) (by kernel_rfl) (tt 3) ?_
            refine ACode.seq ?_
            refine ACode.seq ?_
            refine ACode.region ?_
            refine AOps.runN hT nh 1 [0, 2, 4, 49] (fr' := ⟨[(0, .ptr 0 0), (2, .loc 0 0), (4, .loc 2 0), (49, .ptr 0 0)], [(cat [.i 0, .str []] (cat rtE (cat plE (cat exE [.i 0, .slice [] 0 .exact, .slice [] 0 .exact, .slice [] 0 .exact, .i 0, .i 0])))), (tokAV v2), (cat [.i 1, .str []] (cat rtE (cat plE (cat exE [.i 0, .slice [] 0 .exact, .slice [] 0 .exact, .slice [] 0 .exact, .i v2.line, .i v2.col]))))], [], [], 0⟩) (σ' := [psAV lo l s31]) (ob := Tt 2) (by kernel_rfl) (tt 2) ?_
            have nk124 : nextF l s31 ≠ .out := by intro h9; simp only [h9, R.out_bind] at hX; exact hne hX.symm
            refine AOps.call (fid := 69) (cap := []) (avs := [.ptr 0 0]) (by kernel_rfl) rfl (by kernel_rfl) (by kernel_rfl) en_69 (by kernel_rfl) (ACalls.mono (p_next l lo hll s31 nk124) ?_)
            cases k124 : nextF l s31 with
            | out => exact absurd k124 nk124
            | bad ea eb ec =>
             rintro _ _ ⟨rfl, pp, dd, rfl⟩
             simp only [k124, R.bad_bind] at hX
             subst hX
             exact PR.bad_intro (vAV := fun (s : Sm) => .agg (smAV s)) pp dd rfl rfl
            | ok v125 s126 =>
             rintro _ _ ⟨rfl, rfl⟩
             simp only [k124, R.ok_bind] at hX
             refine AOps.runN hT nh 2 [0, 2, 4, 52] (fr' := ⟨[(0, .ptr 0 0), (2, .loc 0 0), (4, .loc 2 0), (52, .bool (v125.text == [118, 97, 114]))], [(cat [.i 0, .str []] (cat rtE (cat plE (cat exE [.i 0, .slice [] 0 .exact, .slice [] 0 .exact, .slice [] 0 .exact, .i 0, .i 0])))), (tokAV v2), (cat [.i 1, .str []] (cat rtE (cat plE (cat exE [.i 0, .slice [] 0 .exact, .slice [] 0 .exact, .slice [] 0 .exact, .i v2.line, .i v2.col]))))], [], [], 0⟩) (σ' := [psAV lo l s126]) (ob := Tt 3) (by kernel_rfl) (tt 3) ?_
             refine AOps.nil ?_
             refine ACode.cond (t := v125.text == [118, 97, 114]) (by kernel_rfl) (fun h127 => ?_) (fun h127 => ?_)
             ·
              have h127k := eq_of_beq h127
              try simp only [h127, Bool.false_eq_true, Bool.not_true, Bool.not_false, if_true, if_false] at hX
              try simp only [letF] at hX
              refine ACode.run hT nh [0, 2, 4] (fr' := ⟨[(0, .ptr 0 0), (2, .loc 0 0), (4, .loc 2 0)], [(cat [.i 0, .str []] (cat rtE (cat plE (cat exE [.i 0, .slice [] 0 .exact, .slice [] 0 .exact, .slice [] 0 .exact, .i 0, .i 0])))), (tokAV v2), (cat [.i 2, .str []] (cat rtE (cat plE (cat exE [.i 0, .slice [] 0 .exact, .slice [] 0 .exact, .slice [] 0 .exact, .i v2.line, .i v2.col]))))], [], [], 0⟩) (σ' := [psAV lo l s126]) (ob := Tt 3) (by kernel_rfl) (tt 3) ?_
              refine ACode.seq ?_
              refine ACode.region ?_
              refine AOps.runN hT nh 1 [0, 2, 4, 54] (fr' := ⟨[(0, .ptr 0 0), (2, .loc 0 0), (4, .loc 2 0), (54, .ptr 0 0)], [(cat [.i 0, .str []] (cat rtE (cat plE (cat exE [.i 0, .slice [] 0 .exact, .slice [] 0 .exact, .slice [] 0 .exact, .i 0, .i 0])))), (tokAV v2), (cat [.i 2, .str []] (cat rtE (cat plE (cat exE [.i 0, .slice [] 0 .exact, .slice [] 0 .exact, .slice [] 0 .exact, .i v2.line, .i v2.col]))))], [], [], 0⟩) (σ' := [psAV lo l s126]) (ob := Tt 2) (by kernel_rfl) (tt 2) ?_
              have nk128 : kindF l 1 s126 ≠ .out := by intro h9; simp only [h9, R.out_bind] at hX; exact hne hX.symm
              refine AOps.call (fid := 57) (cap := []) (avs := [.ptr 0 0, .i 1]) (by kernel_rfl) rfl (by kernel_rfl) (by kernel_rfl) en_57 (by kernel_rfl) (ACalls.mono (p_kind l lo hll 1 s126 nk128) ?_)
              cases k128 : kindF l 1 s126 with
              | out => exact absurd k128 nk128
              | bad ea eb ec =>
               rintro _ _ ⟨rfl, pp, dd, rfl⟩
               simp only [k128, R.bad_bind] at hX
               subst hX
               exact PR.bad_intro (vAV := fun (s : Sm) => .agg (smAV s)) pp dd rfl rfl
              | ok v129 s130 =>
               rintro _ _ ⟨rfl, rfl⟩
               simp only [k128, R.ok_bind] at hX
               refine AOps.runN hT nh 3 [0, 2, 4] (fr' := ⟨[(0, .ptr 0 0), (2, .loc 0 0), (4, .loc 2 0)], [(cat [.i 0, .str []] (cat rtE (cat plE (cat exE [.i 0, .slice [] 0 .exact, .slice [] 0 .exact, .slice [] 0 .exact, .i 0, .i 0])))), (tokAV v2), (cat [.i 2, .str v129.text] (cat rtE (cat plE (cat exE [.i 0, .slice [] 0 .exact, .slice [] 0 .exact, .slice [] 0 .exact, .i v2.line, .i v2.col]))))], [], [], 0⟩) (σ' := [psAV lo l s130]) (ob := Tt 4) (by kernel_rfl) (tt 4) ?_
               refine AOps.nil ?_
               refine ACode.seq ?_
               refine ACode.region ?_
               refine AOps.runN hT nh 1 [0, 2, 4, 58] (fr' := ⟨[(0, .ptr 0 0), (2, .loc 0 0), (4, .loc 2 0), (58, .ptr 0 0)], [(cat [.i 0, .str []] (cat rtE (cat plE (cat exE [.i 0, .slice [] 0 .exact, .slice [] 0 .exact, .slice [] 0 .exact, .i 0, .i 0])))), (tokAV v2), (cat [.i 2, .str v129.text] (cat rtE (cat plE (cat exE [.i 0, .slice [] 0 .exact, .slice [] 0 .exact, .slice [] 0 .exact, .i v2.line, .i v2.col]))))], [], [], 0⟩) (σ' := [psAV lo l s130]) (ob := Tt 2) (by kernel_rfl) (tt 2) ?_
               have nk131 : mustF l [61] s130 ≠ .out := by intro h9; simp only [h9, R.out_bind] at hX; exact hne hX.symm
               refine AOps.call (fid := 44) (cap := []) (avs := [.ptr 0 0, .str [61]]) (by kernel_rfl) rfl (by kernel_rfl) (by kernel_rfl) en_44 (by kernel_rfl) (ACalls.mono (p_must l lo hll [61] s130 nk131) ?_)
               cases k131 : mustF l [61] s130 with
               | out => exact absurd k131 nk131
               | bad ea eb ec =>
                rintro _ _ ⟨rfl, pp, dd, rfl⟩
                simp only [k131, R.bad_bind] at hX
                subst hX
                exact PR.bad_intro (vAV := fun (s : Sm) => .agg (smAV s)) pp dd rfl rfl
               | ok v132 s133 =>
                rintro _ _ ⟨rfl, rfl⟩
                simp only [k131, R.ok_bind] at hX
                refine AOps.nil ?_
                refine ACode.region ?_
                refine AOps.runN hT nh 1 [0, 2, 4, 60] (fr' := ⟨[(0, .ptr 0 0), (2, .loc 0 0), (4, .loc 2 0), (60, .ptr 0 0)], [(cat [.i 0, .str []] (cat rtE (cat plE (cat exE [.i 0, .slice [] 0 .exact, .slice [] 0 .exact, .slice [] 0 .exact, .i 0, .i 0])))), (tokAV v2), (cat [.i 2, .str v129.text] (cat rtE (cat plE (cat exE [.i 0, .slice [] 0 .exact, .slice [] 0 .exact, .slice [] 0 .exact, .i v2.line, .i v2.col]))))], [], [], 0⟩) (σ' := [psAV lo l s133]) (ob := Tt 2) (by kernel_rfl) (tt 2) ?_
                have nk134 : rightF n l s133 ≠ .out := by intro h9; simp only [h9, R.out_bind] at hX; exact hne hX.symm
                refine AOps.call (fid := 73) (cap := []) (avs := [.ptr 0 0]) (by kernel_rfl) rfl (by kernel_rfl) (by kernel_rfl) en_73 (by kernel_rfl) (ACalls.mono (p_right l lo hll n s133 nk134) ?_)
                cases k134 : rightF n l s133 with
                | out => exact absurd k134 nk134
                | bad ea eb ec =>
                 rintro _ _ ⟨rfl, pp, dd, rfl⟩
                 simp only [k134, R.bad_bind] at hX
                 subst hX
                 exact PR.bad_intro (vAV := fun (s : Sm) => .agg (smAV s)) pp dd rfl rfl
                | ok v135 s136 =>
                 rintro _ _ ⟨rfl, rfl⟩
                 simp only [k134, R.ok_bind] at hX
                 refine AOps.runN hT nh 2 [0, 2, 4] (fr' := ⟨[(0, .ptr 0 0), (2, .loc 0 0), (4, .loc 2 0)], [(cat [.i 0, .str []] (cat rtE (cat plE (cat exE [.i 0, .slice [] 0 .exact, .slice [] 0 .exact, .slice [] 0 .exact, .i 0, .i 0])))), (tokAV v2), (cat [.i 2, .str v129.text] (cat (rtAV v135) (cat plE (cat exE [.i 0, .slice [] 0 .exact, .slice [] 0 .exact, .slice [] 0 .exact, .i v2.line, .i v2.col]))))], [], [], 0⟩) (σ' := [psAV lo l s136]) (ob := Tt 3) (by kernel_rfl) (tt 3) ?_
                 refine AOps.nil ?_
                 refine ACode.seq ?_
                 refine ACode.region ?_
                 refine AOps.runN hT nh 1 [2, 4, 107] (fr' := ⟨[(2, .loc 0 0), (4, .loc 2 0), (107, .ptr 0 0)], [(cat [.i 0, .str []] (cat rtE (cat plE (cat exE [.i 0, .slice [] 0 .exact, .slice [] 0 .exact, .slice [] 0 .exact, .i 0, .i 0])))), (tokAV v2), (cat [.i 2, .str v129.text] (cat (rtAV v135) (cat plE (cat exE [.i 0, .slice [] 0 .exact, .slice [] 0 .exact, .slice [] 0 .exact, .i v2.line, .i v2.col]))))], [], [], 0⟩) (σ' := [psAV lo l s136]) (ob := Tt 2) (by kernel_rfl) (tt 2) ?_
                 have nk137 : mustF l [59] s136 ≠ .out := by intro h9; simp only [h9, R.out_bind] at hX; exact hne hX.symm
                 refine AOps.call (fid := 44) (cap := []) (avs := [.ptr 0 0, .str [59]]) (by kernel_rfl) rfl (by kernel_rfl) (by kernel_rfl) en_44 (by kernel_rfl) (ACalls.mono (p_must l lo hll [59] s136 nk137) ?_)
                 cases k137 : mustF l [59] s136 with
                 | out => exact absurd k137 nk137
                 | bad ea eb ec =>
                  rintro _ _ ⟨rfl, pp, dd, rfl⟩
                  simp only [k137, R.bad_bind] at hX
                  subst hX
                  exact PR.bad_intro (vAV := fun (s : Sm) => .agg (smAV s)) pp dd rfl rfl
                 | ok v138 s139 =>
                  rintro _ _ ⟨rfl, rfl⟩
                  simp only [k137, R.ok_bind] at hX
                  refine AOps.nil ?_
                  refine ACode.seq ?_
                  refine ACode.run hT nh [2] (fr' := ⟨[(2, .loc 0 0)], [(cat [.i 2, .str v129.text] (cat (rtAV v135) (cat plE (cat exE [.i 0, .slice [] 0 .exact, .slice [] 0 .exact, .slice [] 0 .exact, .i v2.line, .i v2.col])))), (tokAV v2), (cat [.i 2, .str v129.text] (cat (rtAV v135) (cat plE (cat exE [.i 0, .slice [] 0 .exact, .slice [] 0 .exact, .slice [] 0 .exact, .i v2.line, .i v2.col]))))], [], [], 0⟩) (σ' := [psAV lo l s139]) (ob := Tt 3) (by kernel_rfl) (tt 3) ?_
                  refine ACode.ret ?_
                  refine retQ.ret (.agg (cat [.i 2, .str v129.text] (cat (rtAV v135) (cat plE (cat exE [.i 0, .slice [] 0 .exact, .slice [] 0 .exact, .slice [] 0 .exact, .i v2.line, .i v2.col]))))) (by kernel_rfl) ?_
                  subst hX
                  exact PR.ok_intro rfl rfl
             ·
              have h127k := ne_of_beq_false h127
              try simp only [h127, Bool.false_eq_true, Bool.not_true, Bool.not_false, if_true, if_false] at hX
              try simp only [letF] at hX
              refine ACode.skip ?_
              refine ACode.seq ?_
              refine ACode.region ?_
              refine AOps.runN hT nh 1 [0, 2, 4, 54] (fr' := ⟨[(0, .ptr 0 0), (2, .loc 0 0), (4, .loc 2 0), (54, .ptr 0 0)], [(cat [.i 0, .str []] (cat rtE (cat plE (cat exE [.i 0, .slice [] 0 .exact, .slice [] 0 .exact, .slice [] 0 .exact, .i 0, .i 0])))), (tokAV v2), (cat [.i 1, .str []] (cat rtE (cat plE (cat exE [.i 0, .slice [] 0 .exact, .slice [] 0 .exact, .slice [] 0 .exact, .i v2.line, .i v2.col]))))], [], [], 0⟩) (σ' := [psAV lo l s126]) (ob := Tt 2) (by kernel_rfl) (tt 2) ?_
              have nk140 : kindF l 1 s126 ≠ .out := by intro h9; simp only [h9, R.out_bind] at hX; exact hne hX.symm
              refine AOps.call (fid := 57) (cap := []) (avs := [.ptr 0 0, .i 1]) (by kernel_rfl) rfl (by kernel_rfl) (by kernel_rfl) en_57 (by kernel_rfl) (ACalls.mono (p_kind l lo hll 1 s126 nk140) ?_)
              cases k140 : kindF l 1 s126 with
              | out => exact absurd k140 nk140
              | bad ea eb ec =>
               rintro _ _ ⟨rfl, pp, dd, rfl⟩
               simp only [k140, R.bad_bind] at hX
               subst hX
               exact PR.bad_intro (vAV := fun (s : Sm) => .agg (smAV s)) pp dd rfl rfl
              | ok v141 s142 =>
               rintro _ _ ⟨rfl, rfl⟩
               simp only [k140, R.ok_bind] at hX
               refine AOps.runN hT nh 3 [0, 2, 4] (fr' := ⟨[(0, .ptr 0 0), (2, .loc 0 0), (4, .loc 2 0)], [(cat [.i 0, .str []] (cat rtE (cat plE (cat exE [.i 0, .slice [] 0 .exact, .slice [] 0 .exact, .slice [] 0 .exact, .i 0, .i 0])))), (tokAV v2), (cat [.i 1, .str v141.text] (cat rtE (cat plE (cat exE [.i 0, .slice [] 0 .exact, .slice [] 0 .exact, .slice [] 0 .exact, .i v2.line, .i v2.col]))))], [], [], 0⟩) (σ' := [psAV lo l s142]) (ob := Tt 4) (by kernel_rfl) (tt 4) ?_
               refine AOps.nil ?_
               refine ACode.seq ?_
               refine ACode.region ?_
               refine AOps.runN hT nh 1 [0, 2, 4, 58] (fr' := ⟨[(0, .ptr 0 0), (2, .loc 0 0), (4, .loc 2 0), (58, .ptr 0 0)], [(cat [.i 0, .str []] (cat rtE (cat plE (cat exE [.i 0, .slice [] 0 .exact, .slice [] 0 .exact, .slice [] 0 .exact, .i 0, .i 0])))), (tokAV v2), (cat [.i 1, .str v141.text] (cat rtE (cat plE (cat exE [.i 0, .slice [] 0 .exact, .slice [] 0 .exact, .slice [] 0 .exact, .i v2.line, .i v2.col]))))], [], [], 0⟩) (σ' := [psAV lo l s142]) (ob := Tt 2) (by kernel_rfl) (tt 2) ?_
               have nk143 : mustF l [61] s142 ≠ .out := by intro h9; simp only [h9, R.out_bind] at hX; exact hne hX.symm
               refine AOps.call (fid := 44) (cap := []) (avs := [.ptr 0 0, .str [61]]) (by kernel_rfl) rfl (by kernel_rfl) (by kernel_rfl) en_44 (by kernel_rfl) (ACalls.mono (p_must l lo hll [61] s142 nk143) ?_)
               cases k143 : mustF l [61] s142 with
               | out => exact absurd k143 nk143
               | bad ea eb ec =>
                rintro _ _ ⟨rfl, pp, dd, rfl⟩
                simp only [k143, R.bad_bind] at hX
                subst hX
                exact PR.bad_intro (vAV := fun (s : Sm) => .agg (smAV s)) pp dd rfl rfl
               | ok v144 s145 =>
                rintro _ _ ⟨rfl, rfl⟩
                simp only [k143, R.ok_bind] at hX
                refine AOps.nil ?_
                refine ACode.region ?_
                refine AOps.runN hT nh 1 [0, 2, 4, 60] (fr' := ⟨[(0, .ptr 0 0), (2, .loc 0 0), (4, .loc 2 0), (60, .ptr 0 0)], [(cat [.i 0, .str []] (cat rtE (cat plE (cat exE [.i 0, .slice [] 0 .exact, .slice [] 0 .exact, .slice [] 0 .exact, .i 0, .i 0])))), (tokAV v2), (cat [.i 1, .str v141.text] (cat rtE (cat plE (cat exE [.i 0, .slice [] 0 .exact, .slice [] 0 .exact, .slice [] 0 .exact, .i v2.line, .i v2.col]))))], [], [], 0⟩) (σ' := [psAV lo l s145]) (ob := Tt 2) (by kernel_rfl) (tt 2) ?_
                have nk146 : rightF n l s145 ≠ .out := by intro h9; simp only [h9, R.out_bind] at hX; exact hne hX.symm
                refine AOps.call (fid := 73) (cap := []) (avs := [.ptr 0 0]) (by kernel_rfl) rfl (by kernel_rfl) (by kernel_rfl) en_73 (by kernel_rfl) (ACalls.mono (p_right l lo hll n s145 nk146) ?_)
                cases k146 : rightF n l s145 with
                | out => exact absurd k146 nk146
                | bad ea eb ec =>
                 rintro _ _ ⟨rfl, pp, dd, rfl⟩
                 simp only [k146, R.bad_bind] at hX
                 subst hX
                 exact PR.bad_intro (vAV := fun (s : Sm) => .agg (smAV s)) pp dd rfl rfl
                | ok v147 s148 =>
                 rintro _ _ ⟨rfl, rfl⟩
                 simp only [k146, R.ok_bind] at hX
                 refine AOps.runN hT nh 2 [0, 2, 4] (fr' := ⟨[(0, .ptr 0 0), (2, .loc 0 0), (4, .loc 2 0)], [(cat [.i 0, .str []] (cat rtE (cat plE (cat exE [.i 0, .slice [] 0 .exact, .slice [] 0 .exact, .slice [] 0 .exact, .i 0, .i 0])))), (tokAV v2), (cat [.i 1, .str v141.text] (cat (rtAV v147) (cat plE (cat exE [.i 0, .slice [] 0 .exact, .slice [] 0 .exact, .slice [] 0 .exact, .i v2.line, .i v2.col]))))], [], [], 0⟩) (σ' := [psAV lo l s148]) (ob := Tt 3) (by kernel_rfl) (tt 3) ?_
                 refine AOps.nil ?_
                 refine ACode.seq ?_
                 refine ACode.region ?_
                 refine AOps.runN hT nh 1 [2, 4, 107] (fr' := ⟨[(2, .loc 0 0), (4, .loc 2 0), (107, .ptr 0 0)], [(cat [.i 0, .str []] (cat rtE (cat plE (cat exE [.i 0, .slice [] 0 .exact, .slice [] 0 .exact, .slice [] 0 .exact, .i 0, .i 0])))), (tokAV v2), (cat [.i 1, .str v141.text] (cat (rtAV v147) (cat plE (cat exE [.i 0, .slice [] 0 .exact, .slice [] 0 .exact, .slice [] 0 .exact, .i v2.line, .i v2.col]))))], [], [], 0⟩) (σ' := [psAV lo l s148]) (ob := Tt 2) (by kernel_rfl) (tt 2) ?_
                 have nk149 : mustF l [59] s148 ≠ .out := by intro h9; simp only [h9, R.out_bind] at hX; exact hne hX.symm
                 refine AOps.call (fid := 44) (cap := []) (avs := [.ptr 0 0, .str [59]]) (by kernel_rfl) rfl (by kernel_rfl) (by kernel_rfl) en_44 (by kernel_rfl) (ACalls.mono (p_must l lo hll [59] s148 nk149) ?_)
                 cases k149 : mustF l [59] s148 with
                 | out => exact absurd k149 nk149
                 | bad ea eb ec =>
                  rintro _ _ ⟨rfl, pp, dd, rfl⟩
                  simp only [k149, R.bad_bind] at hX
                  subst hX
                  exact PR.bad_intro (vAV := fun (s : Sm) => .agg (smAV s)) pp dd rfl rfl
                 | ok v150 s151 =>
                  rintro _ _ ⟨rfl, rfl⟩
                  simp only [k149, R.ok_bind] at hX
                  refine AOps.nil ?_
                  refine ACode.seq ?_
                  refine ACode.run hT nh [2] (fr' := ⟨[(2, .loc 0 0)], [(cat [.i 1, .str v141.text] (cat (rtAV v147) (cat plE (cat exE [.i 0, .slice [] 0 .exact, .slice [] 0 .exact, .slice [] 0 .exact, .i v2.line, .i v2.col])))), (tokAV v2), (cat [.i 1, .str v141.text] (cat (rtAV v147) (cat plE (cat exE [.i 0, .slice [] 0 .exact, .slice [] 0 .exact, .slice [] 0 .exact, .i v2.line, .i v2.col]))))], [], [], 0⟩) (σ' := [psAV lo l s151]) (ob := Tt 3) (by kernel_rfl) (tt 3) ?_
                  refine ACode.ret ?_
                  refine retQ.ret (.agg (cat [.i 1, .str v141.text] (cat (rtAV v147) (cat plE (cat exE [.i 0, .slice [] 0 .exact, .slice [] 0 .exact, .slice [] 0 .exact, .i v2.line, .i v2.col]))))) (by kernel_rfl) ?_
                  subst hX
                  exact PR.ok_intro rfl rfl

theorem sm_ok (l : List Tok) (lo : Own) (hll : l.length ≤ 100000) (n : Nat) : SmOK l lo n := by
  induction n using Nat.strongRecOn with
  | _ n ih =>
   cases n with
   | zero => exact ⟨fun s h => absurd rfl h, fun s h => absurd rfl h, fun _ _ _ s h => absurd rfl h, fun _ _ s h => absurd rfl h, fun _ _ s h => absurd rfl h⟩
   | succ n => exact ⟨fun s h => p_block l lo hll n s ih h, fun s h => p_stmt l lo hll n s ih h, fun nm ln cl s h => p_loop l lo hll n nm ln cl s ih h, fun ln cl s h => p_byName l lo hll n ln cl s ih h, fun ln cl s h => p_branch l lo hll n ln cl s ih h⟩


end Go.AE

