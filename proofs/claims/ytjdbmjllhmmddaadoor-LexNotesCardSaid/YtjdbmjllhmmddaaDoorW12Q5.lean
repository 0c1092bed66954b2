/- Parts of the proof of a law, in build order: FmtG, FmtH, FmtU, LexP, LexQ, W5, W6, W7, W8, W9. -/
import Derived.Test.YtjdbmjllhmmddaaDoorW12Q4
import Derived.Lib.AppendIntMem
import Derived.Lib.ItoaMem
import Derived.Lib.Walk
import Derived.BigCall
import Derived.BigGuard
import Derived.IntWalk
import Derived.WalkSmall
import Derived.Shelf.Strconv.Itoa3
set_option maxRecDepth 2000
set_option linter.unusedVariables false
set_option linter.unusedSimpArgs false
/- strconv.FormatUint at base 10: over any program that bears its body. -/
set_option linter.unusedVariables false
set_option linter.unusedSimpArgs false
namespace Go.Proofs
open Go.Shelf Go.RowKit Go.Sort Go.Lib
variable {P : Program}

theorem below_putRow0 {w W1 : World} {dk : Array UInt8} (h : Below w.heap.size w W1) : Below w.heap.size w (putRow (fun (b : UInt8) => Value.int .u8 (b.toNat : Int)) W1 w.heap.size 0 dk) :=
  ⟨h.os, h.tape, h.output, by simpa [putRow, mapBlock] using h.size, fun k hk => by
    rw [← h.block k hk]
    simp [putRow, mapBlock, Array.getElem?_modify, show w.heap.size ≠ k by omega]⟩

set_option maxHeartbeats 6400000 in
set_option maxRecDepth 100000 in
theorem Any.formatUint_big (L : LaysM.n246 P Tryd.laysM246_ren) (hF : P.funcs[67]? = some Tryd.f67) (u : Nat) (h1 : 100 ≤ u) (hu64 : u < 18446744073709551616) (w : World)
    (hnum : Calls P 86 #[.int .u64 u] (w.alloc (.cells Lib.zeros24 121)) fun e w' => e = .returned (.int .i64 (Lib.nDigits u)) ∧ Below (w.alloc (.cells Lib.zeros24 121)).heap.size (w.alloc (.cells Lib.zeros24 121)) w') :
    Calls P 67 #[.int .u64 u, .int .i64 10] w fun e w' => e = .returned (.string ⟨(Lib.decDigits u).toArray⟩) ∧ Below w.heap.size w w' := by
  have mixed := L.mixed
  have t3 : P.underlying 3 = _ := L.t3
  have a3 := L.a3; have z3 := L.z3; have v3 := L.v3
  have t9 : P.underlying 9 = _ := L.t9
  have a9 := L.a9; have z9 := L.z9; have v9 := L.v9
  have t4 : P.underlying 4 = _ := L.t4
  have a4 := L.a4; have z4 := L.z4; have v4 := L.v4
  have t121 : P.underlying 121 = _ := L.t171
  have a121 := L.a171; have z121 := L.z171; have v121 := L.v171
  have t0 := L.t0; have a0 := L.a0; have z0 := L.z0; have v0 := L.v0
  have t31 : P.underlying 31 = _ := L.t53
  have a31 := L.a53; have z31 := L.z53; have v31 := L.v53
  have t93 : P.underlying 93 = _ := L.t37
  have a93 := L.a37; have z93 := L.z37; have v93 := L.v37
  have t5 : P.underlying 5 = _ := L.t5
  have a5 := L.a5; have z5 := L.z5; have v5 := L.v5
  have t124 : P.underlying 124 = _ := L.t173
  have a124 := L.a173; have z124 := L.z173; have v124 := L.v173
  simp only [Tryd.laysM246_ren] at a3 z3 v3 a9 z9 v9 a4 z4 v4 a121 z121 v121 t0 a0 z0 v0 a31 z31 v31 a93 z93 v93 a5 z5 v5 a124 z124 v124 t3 t9 t4 t121 t31 t93 t5 t124
  have e86 : ∀ args w, (callFunc 86 args).run P w = .ok (.enter 86 args) w := enters_of L.f284 (by kernel_rfl) rfl
  have e87 : ∀ args w, (callFunc 87 args).run P w = .ok (.enter 87 args) w := enters_of L.f285 (by kernel_rfl) rfl
  have hu1 : 1 ≤ u := by omega
  have hnd20 : Lib.nDigits u ≤ 20 := by have := Lib.numDigits_eq u hu1 hu64; split at this <;> omega
  have hal : P.arrayLen 121 = 24 := by simp [Program.arrayLen, t121]
  have hsl : ∀ W, (Instr.sliceAt 121 (.pointer (some ⟨w.heap.size, 0, none⟩)) none (some (.int .i64 (Lib.nDigits u : Int))) none).run P W = .ok (.slice (some ⟨w.heap.size, 0, none⟩) (Lib.nDigits u) 24) W := fun W => by
    rw [run_sliceAt_array_h W 121 ⟨w.heap.size, 0, none⟩ (by simp [Program.arrayLen, Program.elem, t121]) .i64 (Lib.nDigits u : Int) (by omega) (by rw [hal]; omega)]
    go_simp
  have hH0 := Lib.holds_zero0 w 121 (Lib.nDigits u) (by omega)
  have hsz : (w.alloc (.cells Lib.zeros24 121)).heap.size = w.heap.size + 1 := by show (w.heap.push _).size = _; rw [Array.size_push]
  have hH1 : ∀ W1 : World, Below (w.alloc (.cells Lib.zeros24 121)).heap.size (w.alloc (.cells Lib.zeros24 121)) W1 → Holds (fun (b : UInt8) => Value.int .u8 (b.toNat : Int)) W1 w.heap.size 0 (Array.replicate (Lib.nDigits u) (0 : UInt8)) := fun W1 hb j hj => by
    rw [hb.cell (by rw [hsz]; exact Nat.lt_succ_self _), hb.frozen (by rw [hsz]; exact Nat.lt_succ_self _)]
    exact hH0 j hj
  have hfmt : ∀ W1 : World, Below (w.alloc (.cells Lib.zeros24 121)).heap.size (w.alloc (.cells Lib.zeros24 121)) W1 → Calls P 87 #[.slice (some ⟨w.heap.size, 0, none⟩) (Lib.nDigits u) 24, .int .u64 u] W1 fun e w' =>
      e = .returned (.tuple #[]) ∧ ∃ (n v' : Nat) (dk : Array UInt8), w' = (putRow (fun (b : UInt8) => Value.int .u8 (b.toNat : Int)) W1 w.heap.size 0 dk).drewN n ∧ FmtInv (Lib.nDigits u) u 0 v' dk := fun W1 hb => by
    have h := Any.internal_strconv_formatBase10 (ρ := Tryd.laysM246_ren) { L with } w.heap.size 0 24 u (Array.replicate (Lib.nDigits u) 0) W1 (hH1 W1 hb) (by rw [Array.size_replicate]; exact Lib.lt_pow_nDigits u) hu64 (by rw [Array.size_replicate]; omega)
    rw [Array.size_replicate] at h
    exact h
  have HH1 := Lib.hid hH1
  have iu : (100 : Int) ≤ (u : Int) := by omega
  clear hH0 hH1 hal hsz
  go_enter hF, Tryd.ntmps67
  go_wp2_with (first
    | (go_at_fn 86; refine hnum.mono ?_; rintro e W1 ⟨rfl, hb1⟩))
  go_at_fn 87
  refine (hfmt _ hb1).mono ?_
  rintro e w' ⟨rfl, k, v', dk, rfl, hF⟩
  have hcv : (convert 93 9 (.slice (some ⟨w.heap.size, 0, none⟩) (Lib.nDigits u) 24)).run P ((putRow (fun (b : UInt8) => Value.int .u8 (b.toNat : Int)) W1 w.heap.size 0 dk).drewN k) = .ok (.string ⟨(Lib.decDigits u).toArray⟩) ((putRow (fun (b : UInt8) => Value.int .u8 (b.toNat : Int)) W1 w.heap.size 0 dk).drewN k) := by
    have h := run_convert_bytes_back (P := P) ((putRow (fun (b : UInt8) => Value.int .u8 (b.toNat : Int)) W1 w.heap.size 0 dk).drewN k) 93 9 5 ⟨w.heap.size, 0, none⟩ 24 (Lib.decDigits u) t93 t5 t9 (fun j hj => by
      rw [Lib.row_is_numeral hF j hj, Lib.add_plain, World.cell?_drewN]
      exact cell?_putRow (fun (b : UInt8) => Value.int .u8 (b.toNat : Int)) _ w.heap.size 0 _ dk (HH1.out _ hb1) (by rw [hF.size, Array.size_replicate]) j (by rw [hF.size]; rw [Lib.decDigits_length] at hj; exact hj))
    rw [Lib.decDigits_length] at h
    exact h
  go_wp2
  go_ret
  refine ⟨rfl, ?_⟩
  have hsz : (w.alloc (.cells Lib.zeros24 121)).heap.size = w.heap.size + 1 := by show (w.heap.push _).size = _; rw [Array.size_push]
  have h1 : Below w.heap.size w W1 := ((Below.refl _ _).alloc (Nat.le_refl _) _).trans (hb1.mono (by rw [hsz]; omega))
  exact below_drewN (below_putRow0 h1) k

set_option maxRecDepth 100000 in
theorem Any.formatUint_small (L : LaysM.n246 P Tryd.laysM246_ren) (hF : P.funcs[67]? = some Tryd.f67) (u : Nat) (h1 : u < 100) (w : World) :
    Calls P 67 #[.int .u64 u, .int .i64 10] w fun e w' => e = .returned (.string ⟨(Lib.decDigits u).toArray⟩) ∧ w' = w := by
  have mixed := L.mixed
  have t3 : P.underlying 3 = _ := L.t3
  have a3 := L.a3; have z3 := L.z3; have v3 := L.v3
  have t9 : P.underlying 9 = _ := L.t9
  have a9 := L.a9; have z9 := L.z9; have v9 := L.v9
  have t4 : P.underlying 4 = _ := L.t4
  have a4 := L.a4; have z4 := L.z4; have v4 := L.v4
  have t31 : P.underlying 31 = _ := L.t53
  have a31 := L.a53; have z31 := L.z53; have v31 := L.v53
  simp only [Tryd.laysM246_ren] at a3 z3 v3 a9 z9 v9 a4 z4 v4 a31 z31 v31 t3 t9 t4 t31
  have e85 : ∀ args w, (callFunc 85 args).run P w = .ok (.enter 85 args) w := enters_of L.f283 (by kernel_rfl) rfl
  have hsm : ∀ W, Calls P 85 #[.int .i64 u] W fun e w' => e = .returned (.string ⟨(Lib.decDigits u).toArray⟩) ∧ w' = W := fun W => Any.internal_strconv_small (ρ := Tryd.laysM246_ren) { L with } u h1 W
  have iu : (u : Int) < 100 := by omega
  have hw : IntKind.i64.wrap (u : Int) = (u : Int) := IntWalk.i64_in (u : Int) (by omega)
  go_enter hF, Tryd.ntmps67
  go_wp2_with (go_at_fn 85; refine (hsm _).mono ?_; rintro e w' ⟨rfl, rfl⟩)
  go_ret
  exact ⟨rfl, rfl⟩
end Go.Proofs

/- strconv.FormatUint at base 10. -/
set_option linter.unusedVariables false
set_option linter.unusedSimpArgs false
namespace Go.AE
open Go.Proofs Go.RowKit

/-- From the abstract side back to a call, whatever the objects. -/
theorem ACalls.back {P : Program} {f : FuncId} {args : List AV} {R : AEnd → St → Prop} (h : ACalls P f args [] R) {V : View} {vs : List Value} (hg : GOK V) (ha : closedAll args = true) (hv : CRs V args vs) :
    Calls P f vs.toArray V.w fun e w' => Go.RowKit.Below V.w.heap.size V.w w' ∧ ∃ ae s V1, R ae s ∧ V1.w = w' ∧ EndR V1 ae e := by
  let V0 : View := { V with n := 0 }
  have hH0 : HInv V0 [] := ⟨rfl, fun i cs h => by simp at h, fun i h => by simp [V0] at h, fun i j h => by simp [V0] at h, GOK_closed (V := V) (V' := V0) rfl rfl hg⟩
  refine (h V0 vs hH0 (CRs_closed (V := V) (V' := V0) rfl rfl _ _ ha hv)).mono fun e w' ⟨ae, V1, s, hR, hw, _, gr, hE⟩ => ⟨?_, ae, s, V1, hR, hw, hE⟩
  rw [← hw]
  exact ⟨gr.os, gr.tape, gr.output, gr.le.size, fun b hb => gr.blk b hb fun i hi => by simp [V0] at hi⟩

theorem numDigits_calls {V : View} (hg : GOK V) (u : Nat) (h1 : 1 ≤ u) (h2 : u < 18446744073709551616) :
    Calls Tryd.prog 86 #[.int .u64 u] V.w fun e w' => e = .returned (.int .i64 (Lib.nDigits u)) ∧ Go.RowKit.Below V.w.heap.size V.w w' := by
  refine ((numDigits_walk u [] h1 h2).back (vs := [.int .u64 u]) hg rfl (by simp [CRs, CR])).mono fun e w' ⟨hb, ae, s, V1, ⟨_, hR⟩, _, hE⟩ => ⟨?_, hb⟩
  subst hR
  cases e <;> simp only [EndR, CR] at hE
  rw [hE]

theorem fmt67_walk (u : Nat) (h2 : u < 18446744073709551616) (σ : St) : ACalls Tryd.prog 67 [.int .u64 (u : Int), .int .i64 10] σ (fun e s => σ = s ∧ e = .ret (.str (Lib.decDigits u))) := by
  refine ACalls.of_below fun V vs hH hv => ?_
  simp only [CRs, CR] at hv
  obtain ⟨v, r, rfl, rfl, w, r2, rfl, rfl, rfl⟩ := hv
  have key : Calls Tryd.prog 67 #[.int .u64 (u : Int), .int .i64 10] V.w fun e w' => e = .returned (.string ⟨(Lib.decDigits u).toArray⟩) ∧ Below V.w.heap.size V.w w' := by
    rcases Nat.lt_or_ge u 100 with h | h
    · exact (Any.formatUint_small Tryd.laysM246 Tryd.func67 u h V.w).mono fun e w' ⟨h1, h3⟩ => ⟨h1, h3 ▸ Below.refl _ _⟩
    · refine Any.formatUint_big Tryd.laysM246 Tryd.func67 u h h2 V.w ?_
      have hV' : (V.grow (.cells Lib.zeros24 121) 0).w = V.w.alloc (.cells Lib.zeros24 121) := by simp [View.grow]
      have hn := numDigits_calls (V := V.grow (.cells Lib.zeros24 121) 0) (GOK_mono (Gr.grow V _ 0).le hH.gl) u (by omega) h2
      rw [hV'] at hn
      exact hn
  exact key.mono fun e w' ⟨h1, h3⟩ => ⟨h3, _, rfl, fun V' _ => by subst h1; simp [EndR, CR]⟩

end Go.AE

set_option linter.unusedVariables false
set_option linter.unusedSimpArgs false
set_option maxRecDepth 4000
namespace Go.AE
open Go.Proofs

theorem fmt53_walk (u : Nat) (σ : St) (h2 : u < 18446744073709551616) : ACalls Tryd.prog 53 [.int .u64 (u : Int), .int .i64 10] σ (fun e s => σ = s ∧ e = .ret (.str (Lib.decDigits u))) := by
  refine ACalls.enter hT Tryd.func53 rfl (by kernel_rfl) ?_
  refine ACode.seq ?_
  refine ACode.run hT (fun _ => false) [0, 1] (fr' := ⟨[(0, .int .u64 (u : Int)), (1, .int .i64 10)], [], [], [], 0⟩) (σ' := σ) (ob := True ∧ True) (by kernel_rfl) ⟨trivial, trivial⟩ ?_
  refine ACode.seq ?_
  refine ACode.region ?_
  refine AOps.runN hT (fun _ => false) 2 [5, 6] (fr' := ⟨[(5, .int .u64 (u : Int)), (6, .int .i64 10)], [], [], [], 0⟩) (σ' := σ) (ob := True ∧ True ∧ True) (by kernel_rfl) ⟨trivial, trivial, trivial⟩ ?_
  refine AOps.call (fid := 67) (cap := []) (avs := [.int .u64 (u : Int), .int .i64 10]) (by kernel_rfl) rfl (by kernel_rfl) (by kernel_rfl) en_67 (by kernel_rfl) (ACalls.mono (fmt67_walk u h2 _) ?_)
  rintro _ _ ⟨rfl, rfl⟩
  refine AOps.runN hT (fun _ => false) 1 [4] (fr' := ⟨[(4, .str (Lib.decDigits u))], [], [], [], 0⟩) (σ' := σ) (ob := True ∧ True) (by kernel_rfl) ⟨trivial, trivial⟩ ?_
  refine AOps.nil ?_
  refine ACode.ret ?_
  exact retQ.ret (.str (Lib.decDigits u)) (by kernel_rfl) ⟨rfl, rfl⟩

theorem fmtU_walk (n : Int) (h0 : 0 ≤ n) (h1 : n < 18446744073709551616) (σ : St) : ACalls Tryd.prog 53 [.int .u64 n, .int .i64 10] σ (fun e s => σ = s ∧ e = .ret (.str (Lib.decDigits n.toNat))) := by
  have h := fmt53_walk n.toNat σ (by omega)
  rwa [show ((n.toNat : Nat) : Int) = n by omega] at h

end Go.AE

/- Plain facts on the lexer's parts. -/
set_option linter.unusedVariables false
set_option linter.unusedSimpArgs false
namespace Go.AE

theorem letterS_lt {c : Int} (h : letterS c = true) : 0 ≤ c ∧ c < 128 := by
  simp only [letterS, Bool.or_eq_true, Bool.and_eq_true, beq_iff_eq, decide_eq_true_eq] at h
  omega
theorem digitS_lt {c : Int} (h : digitS c = true) : 0 ≤ c ∧ c < 128 := by
  simp only [digitS, Bool.and_eq_true, decide_eq_true_eq] at h
  omega
theorem wordS_lt {c : Int} (h : wordS c = true) : 0 ≤ c ∧ c < 128 := by
  simp only [wordS, Bool.or_eq_true] at h
  rcases h with h | h
  · exact letterS_lt h
  · exact digitS_lt h
theorem wordB_lt {b : UInt8} (h : wordB b = true) : b.toNat < 128 := by
  have := wordS_lt (c := (b.toNat : Int)) h
  omega

theorem dec_high (s : List UInt8) (i : Nat) (h : i < s.length) (ha : 128 ≤ (s.getD i 0).toNat) : 128 ≤ (dec s i).1 := by
  have e : s.getD i 0 = s[i] := by simp [List.getD, h]
  rw [e] at ha
  exact (decode_high ⟨s.toArray⟩ i h ha).1

theorem wordF_eq (s : List UInt8) (i : Nat) (h : i ≤ s.length) : runF wordS s i = i + ((s.drop i).takeWhile wordB).length := by
  rw [runF]
  split
  · rename_i hi
    have hd : s.drop i = s[i] :: s.drop (i + 1) := List.drop_eq_getElem_cons hi
    have e : s.getD i 0 = s[i] := by simp [List.getD, hi]
    by_cases ha : (s.getD i 0).toNat < 128
    · rw [dec_ascii s i hi ha]
      simp only
      by_cases hw : wordB (s.getD i 0) = true
      · have hw' : wordS (((s.getD i 0).toNat : Nat) : Int) = true := hw
        rw [if_pos hw', Nat.max_self, wordF_eq s (i + 1) (by omega), hd, List.takeWhile_cons, ← e, if_pos hw]
        simp only [List.length_cons]; omega
      · have hw' : ¬ wordS (((s.getD i 0).toNat : Nat) : Int) = true := hw
        rw [if_neg hw', hd, List.takeWhile_cons, ← e, if_neg hw]; simp
    · have h1 := dec_high s i hi (by omega)
      have hn : ¬ wordS ((dec s i).1 : Int) = true := fun h9 => by have := wordS_lt h9; omega
      have hw : ¬ wordB (s.getD i 0) = true := fun h9 => by have := wordB_lt h9; omega
      rw [if_neg hn, hd, List.takeWhile_cons, ← e, if_neg hw]; simp
  · rw [List.drop_eq_nil_of_le (by omega)]; simp; omega
termination_by s.length - i

theorem wordN_eq (l : List UInt8) : wordN l = (l.takeWhile wordB).length := rfl
theorem runF_word (l : List UInt8) : runF wordS l 0 = wordN l := by
  have := wordF_eq l 0 (Nat.zero_le _)
  simpa [wordN] using this

theorem takeWhile_length_take (p : UInt8 → Bool) (l : List UInt8) : l.take (l.takeWhile p).length = l.takeWhile p := by
  induction l with
  | nil => rfl
  | cons b l ih =>
    simp only [List.takeWhile_cons]
    split
    · simp [ih]
    · simp

theorem take_wordN (l : List UInt8) : l.take (wordN l) = l.takeWhile wordB := by rw [wordN_eq, takeWhile_length_take]

theorem realText_ascii (r : Rd) : ∀ (j : Nat) b, (realText r)[j]? = some b → b.toNat < 128 := by
  intro j b hj
  have hm := List.mem_of_getElem? hj
  simp only [realText, List.cons_append, List.nil_append, List.mem_cons, take_wordN] at hm
  rcases hm with rfl | hm
  · decide
  · have : ∀ {l : List UInt8} {x : UInt8}, x ∈ l.takeWhile wordB → wordB x = true := fun {l} {x} => by
      induction l with
      | nil => simp
      | cons y l ih =>
        rw [List.takeWhile_cons]
        split
        · rename_i hy
          intro hx
          rcases List.mem_cons.1 hx with rfl | hx
          · exact hy
          · exact ih hx
        · intro hx; cases hx
    exact wordB_lt (this hm)

theorem abc_ascii : ∀ (j : Nat) b, ([65, 66, 67, 68, 69, 70] : List UInt8)[j]? = some b → b.toNat < 128 := by
  intro j b hj
  have hm := List.mem_of_getElem? hj
  simp only [List.mem_cons, List.not_mem_nil, or_false] at hm
  rcases hm with rfl | rfl | rfl | rfl | rfl | rfl <;> decide

theorem len2 {a b : UInt8} {l : List UInt8} (h : [a, b].isPrefixOf l = true) : 2 ≤ l.length := by
  have := (List.isPrefixOf_iff_prefix.1 h).length_le
  simpa using this

/-! ### the whole -/
theorem blankF_ok : ∀ (k : Nat) (r : Rd), RdOK r → RdOK (blankF k r) ∧ (blankF k r).rest.length ≤ r.rest.length
  | 0, r, h => ⟨h, Nat.le_refl _⟩
  | k + 1, r, h => by
    rw [blankF]
    split
    · exact ⟨h, Nat.le_refl _⟩
    · rename_i hne
      split
      · have h1 := skipS_ok (n := lineN r.rest) h (takeWhile_le _ _)
        have := blankF_ok k _ h1
        refine ⟨this.1, Nat.le_trans this.2 ?_⟩
        simp only [skipS, List.length_drop]; omega
      · split
        · have h1 := skipS_ok (n := 1) h (by cases hr : r.rest with | nil => exact absurd hr hne | cons _ _ => simp)
          have := blankF_ok k _ h1
          refine ⟨this.1, Nat.le_trans this.2 ?_⟩
          simp only [skipS, List.length_drop]; omega
        · exact ⟨h, Nat.le_refl _⟩
theorem blankS_ok {r : Rd} (h : RdOK r) : RdOK (blankS r) := (blankF_ok _ r h).1
theorem blankS_le {r : Rd} (h : RdOK r) : (blankS r).rest.length ≤ r.rest.length := (blankF_ok _ r h).2

theorem wordN_le' (l : List UInt8) : wordN l ≤ l.length := takeWhile_le _ _
theorem wordN_pos {l : List UInt8} (hne : l ≠ []) (h : wordB (l.getD 0 0) = true) : 1 ≤ wordN l := by
  rw [wordN_eq]
  cases l with
  | nil => exact absurd rfl hne
  | cons b l => rw [List.getD_cons_zero] at h; rw [List.takeWhile_cons, if_pos h]; simp

theorem twoB_len {l : List UInt8} (h : twoB l = true) : 2 ≤ l.length := by
  simp only [twoB, Bool.or_eq_true] at h
  rcases h with h | h | h <;> exact len2 h

theorem nextR_ok {r : Rd} (h : RdOK r) (hne : r.rest ≠ []) : RdOK (nextR r) := by
  have h1 : 1 ≤ r.rest.length := by cases hr : r.rest with | nil => exact absurd hr hne | cons _ _ => simp
  unfold nextR
  split
  · exact skipS_ok h (wordN_le' _)
  · split
    · exact skipS_ok (skipS_ok h h1) (wordN_le' _)
    · unfold signR
      split
      · rename_i ht; exact skipS_ok h (twoB_len ht)
      · split
        · exact skipS_ok h h1
        · exact h

theorem nextR_lt {r : Rd} (hne : r.rest ≠ []) (hok : (nextT r).2 = true) : (nextR r).rest.length < r.rest.length := by
  have h1 : 1 ≤ r.rest.length := by cases hr : r.rest with | nil => exact absurd hr hne | cons _ _ => simp
  unfold nextR
  unfold nextT at hok
  split
  · rename_i hw
    have := wordN_pos hne hw
    simp only [skipS, List.length_drop]; omega
  · rename_i hw
    rw [if_neg hw] at hok
    split
    · simp only [realR, skipS, List.length_drop]; omega
    · rename_i h35
      rw [if_neg h35] at hok
      unfold signR
      unfold signT at hok
      split
      · simp only [skipS, List.length_drop]; omega
      · rename_i ht
        rw [if_neg ht] at hok
        split
        · simp only [skipS, List.length_drop]; omega
        · rename_i hs
          rw [if_neg hs] at hok
          cases hok

def lexF : Nat → Rd → List Tok → List Tok × Int × Int × Int
  | 0, r, acc => (acc, 0, 0, 0)
  | k + 1, r, acc =>
    if (blankS r).rest = [] then (acc ++ [⟨0, [], 0, (blankS r).line, (blankS r).col⟩], 0, 0, 0)
    else if (nextT (blankS r)).2 then lexF k (nextR (blankS r)) (acc ++ [(nextT (blankS r)).1])
    else ([], 3, (nextT (blankS r)).1.line, (nextT (blankS r)).1.col)
def lexS (s : List UInt8) : List Tok × Int × Int × Int := if (s.length : Int) > 8192 then ([], 10, 1, 1) else lexF (s.length + 1) ⟨s, 1, 1⟩ []

theorem toksAV_closed : ∀ (l : List Tok), closedAll (toksAV l) = true
  | [] => rfl
  | t :: l => by simp [toksAV, tokAV, closedAll, closed, toksAV_closed l]

end Go.AE

/- The lexer's parts byte by byte. -/
set_option linter.unusedVariables false
set_option linter.unusedSimpArgs false
namespace Go.AE

theorem get_bang (s : List UInt8) (k : Nat) : (ByteArray.mk s.toArray).get! k = s.getD k 0 := by
  simp [ByteArray.get!, List.getD, Array.getElem!_eq_getD]
  rfl

/-- What stands behind a rune's first byte, within it. -/
theorem dec_cont (s : List UInt8) (i k : Nat) (h1 : 1 ≤ k) (h2 : k < (dec s i).2) : i + k < s.length ∧ 128 ≤ (s.getD (i + k) 0).toNat := by
  have hsz : (ByteArray.mk s.toArray).size = s.length := by simp [ByteArray.size]
  have one : ∀ j, (decide (i + j < (ByteArray.mk s.toArray).size) && ((ByteArray.mk s.toArray).get! (i + j)).toNat / 64 == 2) = true → i + j < s.length ∧ 128 ≤ (s.getD (i + j) 0).toNat := by
    intro j hj
    simp only [Bool.and_eq_true, decide_eq_true_eq, beq_iff_eq, hsz, get_bang] at hj
    refine ⟨hj.1, by omega⟩
  unfold dec Utf8.decode at h2
  dsimp only at h2
  split at h2
  · simp only at h2; omega
  · split at h2
    · rename_i hc
      simp only [Bool.and_eq_true] at hc
      split at h2
      · simp only at h2
        have : k = 1 := by omega
        subst this
        exact one 1 (by simpa using hc.2)
      · simp only at h2; omega
    · split at h2
      · rename_i hc
        simp only [Bool.and_eq_true] at hc
        split at h2
        · simp only at h2
          have : k = 1 ∨ k = 2 := by omega
          rcases this with rfl | rfl
          · exact one 1 (by simpa using hc.1.2)
          · exact one 2 (by simpa using hc.2)
        · simp only at h2; omega
      · split at h2
        · rename_i hc
          simp only [Bool.and_eq_true] at hc
          split at h2
          · simp only at h2
            have : k = 1 ∨ k = 2 ∨ k = 3 := by omega
            rcases this with rfl | rfl | rfl
            · exact one 1 (by simpa using hc.1.1.2)
            · exact one 2 (by simpa using hc.1.2)
            · exact one 3 (by simpa using hc.2)
          · simp only at h2; omega
        · simp only at h2; omega

theorem takeWhile_skip (p : UInt8 → Bool) (s : List UInt8) (i : Nat) : ∀ (n : Nat), (∀ k, k < n → i + k < s.length ∧ p (s.getD (i + k) 0) = true) → ((s.drop i).takeWhile p).length = n + ((s.drop (i + n)).takeWhile p).length
  | 0, _ => by simp
  | n + 1, h => by
    rw [takeWhile_skip p s i n fun k hk => h k (by omega)]
    obtain ⟨h1, h2⟩ := h n (by omega)
    have hd : s.drop (i + n) = s[i + n] :: s.drop (i + n + 1) := List.drop_eq_getElem_cons h1
    have e : s.getD (i + n) 0 = s[i + n] := by simp [List.getD, h1]
    rw [hd, List.takeWhile_cons, ← e, if_pos h2]
    simp only [List.length_cons, Nat.add_assoc]
    omega

theorem lineF_eq (s : List UInt8) (i : Nat) (h : i ≤ s.length) : runF (fun c => c != 10) s i = i + ((s.drop i).takeWhile (fun b => b != 10)).length := by
  rw [runF]
  split
  · rename_i hi
    have hw : 1 ≤ (dec s i).2 := dec_pos s i hi
    by_cases ha : (s.getD i 0).toNat < 128
    · have hd := dec_ascii s i hi ha
      have hdr : s.drop i = s[i] :: s.drop (i + 1) := List.drop_eq_getElem_cons hi
      have e : s.getD i 0 = s[i] := by simp [List.getD, hi]
      rw [hd]
      simp only
      by_cases h10 : s.getD i 0 = 10
      · rw [if_neg (by rw [h10]; decide), hdr, List.takeWhile_cons, ← e, h10]; simp
      · rw [if_pos (by simp only [bne_iff_ne, ne_eq]; intro h9; apply h10; apply UInt8.toNat_inj.1; have : (10 : UInt8).toNat = 10 := rfl; omega), Nat.max_self, lineF_eq s (i + 1) (by omega), hdr, List.takeWhile_cons, ← e, if_pos (by simpa using h10)]
        simp only [List.length_cons]; omega
    · have h1 := dec_high s i hi (by omega)
      have hb : ∀ k, k < (dec s i).2 → i + k < s.length ∧ (s.getD (i + k) 0 != 10) = true := by
        intro k hk
        have key : i + k < s.length ∧ 128 ≤ (s.getD (i + k) 0).toNat := by
          rcases Nat.eq_zero_or_pos k with rfl | h0
          · exact ⟨hi, by rw [Nat.add_zero]; omega⟩
          · exact dec_cont s i k h0 hk
        refine ⟨key.1, ?_⟩
        simp only [bne_iff_ne, ne_eq]
        intro h9
        rw [h9] at key
        have : (10 : UInt8).toNat = 10 := rfl
        omega
      have hle : i + (dec s i).2 ≤ s.length := by
        have := (hb ((dec s i).2 - 1) (by omega)).1
        omega
      rw [if_pos (by simp only [bne_iff_ne, ne_eq]; omega), Nat.max_eq_right hw, lineF_eq s _ hle, takeWhile_skip _ s i _ hb]
      omega
  · rw [List.drop_eq_nil_of_le (by omega)]; simp; omega
termination_by s.length - i

theorem runF_line (l : List UInt8) : runF (fun c => c != 10) l 0 = lineN l := by
  have := lineF_eq l 0 (Nat.zero_le _)
  simpa [lineN] using this

theorem nameF_all (s : List UInt8) (i : Nat) (h1 : 1 ≤ i) (h : i ≤ s.length) : nameF s i = (s.drop i).all wordB := by
  rw [nameF]
  split
  · rename_i hi
    have hdr : s.drop i = s[i] :: s.drop (i + 1) := List.drop_eq_getElem_cons hi
    have e : s.getD i 0 = s[i] := by simp [List.getD, hi]
    have h0 : ((i : Int) == 0) = false := by simp; omega
    by_cases ha : (s.getD i 0).toNat < 128
    · rw [dec_ascii s i hi ha]
      simp only [h0, Bool.false_or]
      rw [hdr, List.all_cons, ← e]
      by_cases hw : wordB (s.getD i 0) = true
      · rw [if_neg, Nat.max_self, nameF_all s (i + 1) (by omega) (by omega), hw, Bool.true_and]
        simp only [wordB, letterB, digitB, Bool.or_eq_true] at hw
        rcases hw with hw | hw <;> rw [hw] <;> simp
      · have hw' := Bool.eq_false_iff.2 hw
        rw [if_pos, hw', Bool.false_and]
        simp only [wordB, letterB, digitB, Bool.or_eq_false_iff] at hw'
        rw [hw'.1, hw'.2]; rfl
    · have h1 := dec_high s i hi (by omega)
      have hl : letterS ((dec s i).1 : Int) = false := Bool.eq_false_iff.2 fun h9 => by have := letterS_lt h9; omega
      have hd : digitS ((dec s i).1 : Int) = false := Bool.eq_false_iff.2 fun h9 => by have := digitS_lt h9; omega
      have hw : wordB (s.getD i 0) = false := Bool.eq_false_iff.2 fun h9 => by have := wordB_lt h9; omega
      rw [if_pos (by simp [hl, hd]), hdr, List.all_cons, ← e, hw, Bool.false_and]
  · rw [List.drop_eq_nil_of_le (by omega)]; rfl
termination_by s.length - i

theorem nameF_eq (s : List UInt8) : nameF s 0 = nameC s := by
  rw [nameF]
  cases s with
  | nil => rfl
  | cons b r =>
    rw [dif_pos (by simp)]
    simp only [nameC]
    by_cases ha : b.toNat < 128
    · rw [dec_ascii _ _ (by simp) (by simpa using ha)]
      simp only [List.getD_cons_zero]
      by_cases hl : letterB b = true
      · rw [if_neg (by simp only [letterB] at hl; simp [hl]), Nat.max_self, nameF_all _ _ (by omega) (by simp), hl, Bool.true_and]
        simp
      · have hl' := Bool.eq_false_iff.2 hl
        rw [if_pos (by simp only [letterB] at hl'; simp [hl']), hl', Bool.false_and]
    · have h1 := dec_high (b :: r) 0 (by simp) (by simpa using Nat.le_of_not_lt ha)
      have hl : letterS ((dec (b :: r) 0).1 : Int) = false := Bool.eq_false_iff.2 fun h9 => by have := letterS_lt h9; omega
      have hb : letterB b = false := Bool.eq_false_iff.2 fun h9 => by have := letterS_lt (c := (b.toNat : Int)) h9; omega
      rw [if_pos (by simp [hl]), hb, Bool.false_and]


end Go.AE

set_option linter.unusedVariables false
set_option linter.unusedSimpArgs false
set_option maxRecDepth 4000
namespace Go.AE
open Go.Proofs

theorem skip_rd (r : Rd) (n : Nat) (hok : RdOK r) (hn : n ≤ r.rest.length) : ACalls Tryd.prog 33 [.ptr 0 0, .int .i64 (n : Int)] [[.str r.rest, .int .i64 r.line, .int .i64 r.col]] (fun e s => s = [rdAV (skipS n r)] ∧ e = .ret (.str (r.rest.take n))) := by
  obtain ⟨h1, h2, h3, h4, h5⟩ := hok
  exact skip_walk r.rest r.line r.col n hn h2 (by omega) h1 (by omega)

theorem u8_back (b : UInt8) : ((b.toNat : Int)).toNat.toUInt8 = b := by
  simp

theorem pu10_bd (s : List UInt8) : 0 ≤ (pu10 s).1 ∧ (pu10 s).1 < 18446744073709551616 := by
  have := puS_bd 10 1844674407370955162 9223372036854775807 (by omega) (by omega) s
  unfold pu10; omega

theorem wordN_le (l : List UInt8) : wordN l ≤ l.length := takeWhile_le _ _
theorem lineN_le (l : List UInt8) : lineN l ≤ l.length := takeWhile_le _ _

theorem isWord_walk0 (t : List UInt8) (σ : St) (ht : t.length ≤ 9000) : ACalls Tryd.prog 12 [.str t] σ (fun e s => σ = s ∧ e = .ret (.bool (isWordS t))) := by
  refine ACalls.enter hT Tryd.func12 rfl (by kernel_rfl) ?_
  refine ACode.seq ?_
  refine ACode.run hT (fun _ => false) [0] (fr' := ⟨[(0, .str t)], [], [], [], 0⟩) (σ' := σ) (ob := True ∧ True) (by kernel_rfl) ⟨trivial, trivial⟩ ?_
  refine ACode.seq ?_
  refine ACode.meet ⟨[(2, .bool ((!(t == [])) && ((!(decide (0 ≤ Lib.indexByte t 32))) && (Lib.contains wordsB (([32] ++ t) ++ [32])))))], [], [], [], 0⟩ σ (ACode.region ?_) ?_
  ·
    refine AOps.runN hT (fun _ => false) 3 [0, 5] (fr' := ⟨[(0, .str t), (5, .bool (!(t == [])))], [], [], [], 0⟩) (σ' := σ) (ob := True ∧ True ∧ True ∧ True) (by kernel_rfl) ⟨trivial, trivial, trivial, trivial⟩ ?_
    cases h1 : (!(t == []))
    · -- !(t == []) is false
      have h1k := h1; simp only [Bool.and_eq_true, Bool.or_eq_true, Bool.and_eq_false_iff, Bool.or_eq_false_iff, decide_eq_true_eq, decide_eq_false_iff_not, beq_iff_eq, bne_iff_ne, ne_eq, Bool.not_eq_true', Bool.not_eq_false', beq_eq_false_iff_ne, bne_eq_false_iff_eq] at h1k
      refine AOps.runN hT (fun _ => false) 11 [2] (fr' := ⟨[(2, .bool false)], [], [], [], 0⟩) (σ' := σ) (ob := True ∧ True ∧ True ∧ True ∧ True) (by kernel_rfl) ⟨trivial, trivial, trivial, trivial, trivial⟩ ?_
      refine AOps.weak [2] (AOps.nil ⟨rfl, rfl⟩)
    · -- !(t == []) is true
      have h1k := h1; simp only [Bool.and_eq_true, Bool.or_eq_true, Bool.and_eq_false_iff, Bool.or_eq_false_iff, decide_eq_true_eq, decide_eq_false_iff_not, beq_iff_eq, bne_iff_ne, ne_eq, Bool.not_eq_true', Bool.not_eq_false', beq_eq_false_iff_ne, bne_eq_false_iff_eq] at h1k
      refine AOps.runN hT (fun _ => false) 1 [0, 5, 6] (fr' := ⟨[(0, .str t), (5, .bool true), (6, .str t)], [], [], [], 0⟩) (σ' := σ) (ob := True ∧ True) (by kernel_rfl) ⟨trivial, trivial⟩ ?_
      refine AOps.call (fid := 22) (cap := []) (avs := [.str t, .str [32]]) (by kernel_rfl) rfl (by kernel_rfl) (by kernel_rfl) en_22 (by kernel_rfl) (ACalls.mono (contains1_walk t 32 _) ?_)
      rintro _ _ ⟨rfl, rfl⟩
      refine AOps.runN hT (fun _ => false) 3 [0, 10] (fr' := ⟨[(0, .str t), (10, .bool (!(decide (0 ≤ Lib.indexByte t 32))))], [], [], [], 0⟩) (σ' := σ) (ob := True ∧ True ∧ True ∧ True) (by kernel_rfl) ⟨trivial, trivial, trivial, trivial⟩ ?_
      cases h2 : (!(decide (0 ≤ Lib.indexByte t 32)))
      · -- !(decide (0 ≤ Lib.indexByte t 32)) is false
        have h2k := h2; simp only [Bool.and_eq_true, Bool.or_eq_true, Bool.and_eq_false_iff, Bool.or_eq_false_iff, decide_eq_true_eq, decide_eq_false_iff_not, beq_iff_eq, bne_iff_ne, ne_eq, Bool.not_eq_true', Bool.not_eq_false', beq_eq_false_iff_ne, bne_eq_false_iff_eq] at h2k
        refine AOps.runN hT (fun _ => false) 6 [2] (fr' := ⟨[(2, .bool false)], [], [], [], 0⟩) (σ' := σ) (ob := True ∧ True ∧ True) (by kernel_rfl) ⟨trivial, trivial, trivial⟩ ?_
        refine AOps.weak [2] (AOps.nil ⟨rfl, rfl⟩)
      · -- !(decide (0 ≤ Lib.indexByte t 32)) is true
        have h2k := h2; simp only [Bool.and_eq_true, Bool.or_eq_true, Bool.and_eq_false_iff, Bool.or_eq_false_iff, decide_eq_true_eq, decide_eq_false_iff_not, beq_iff_eq, bne_iff_ne, ne_eq, Bool.not_eq_true', Bool.not_eq_false', beq_eq_false_iff_ne, bne_eq_false_iff_eq] at h2k
        refine AOps.runN hT (fun _ => false) 3 [10, 13] (fr' := ⟨[(10, .bool true), (13, .str (([32] ++ t) ++ [32]))], [], [], [], 0⟩) (σ' := σ) (ob := True ∧ (((([32] : List UInt8).length + (t : List UInt8).length : Nat) : Int) ≤ 9223372036854775807) ∧ ((((([32] ++ t) : List UInt8).length + ([32] : List UInt8).length : Nat) : Int) ≤ 9223372036854775807) ∧ True) (by kernel_rfl) ⟨trivial, (by simp only [List.length_append, List.length_cons, List.length_nil]; omega), (by simp only [List.length_append, List.length_cons, List.length_nil]; omega), trivial⟩ ?_
        refine AOps.call (fid := 22) (cap := []) (avs := [.str wordsB, .str (([32] ++ t) ++ [32])]) (by kernel_rfl) rfl (by kernel_rfl) (by kernel_rfl) en_22 (by kernel_rfl) (ACalls.mono (contains_walk wordsB (([32] ++ t) ++ [32]) (by decide) _) ?_)
        rintro _ _ ⟨rfl, rfl⟩
        refine AOps.runN hT (fun _ => false) 2 [2] (fr' := ⟨[(2, .bool (Lib.contains wordsB (([32] ++ t) ++ [32])))], [], [], [], 0⟩) (σ' := σ) (ob := True ∧ True ∧ True) (by kernel_rfl) ⟨trivial, trivial, trivial⟩ ?_
        refine AOps.weak [2] (AOps.nil ⟨rfl, rfl⟩)
  -- on
  refine ACode.ret ?_
  refine retQ.ret (.bool ((!(t == [])) && ((!(decide (0 ≤ Lib.indexByte t 32))) && (Lib.contains wordsB (([32] ++ t) ++ [32]))))) (by kernel_rfl) ?_
  refine ⟨rfl, ?_⟩
  simp only [isWordS, Bool.and_assoc]
theorem isName_walk0 (t : List UInt8) (σ : St) (ht : t.length ≤ 9000) : ACalls Tryd.prog 11 [.str t] σ (fun e s => σ = s ∧ e = .ret (.bool (isNameS t))) := by
  refine ACalls.enter hT Tryd.func11 rfl (by kernel_rfl) ?_
  refine ACode.seq ?_
  refine ACode.run hT (fun _ => false) [0] (fr' := ⟨[(0, .str t)], [], [], [], 0⟩) (σ' := σ) (ob := True ∧ True) (by kernel_rfl) ⟨trivial, trivial⟩ ?_
  refine ACode.seq ?_
  refine ACode.seq ?_
  refine ACode.run hT (fun _ => false) [0, 6] (fr' := ⟨[(0, .str t), (6, .iter 0)], [], [(t, 0)], [], 0⟩) (σ' := σ) (ob := True ∧ True ∧ True) (by kernel_rfl) ⟨trivial, trivial, trivial⟩ ?_
  refine ACode.block ?_
  refine ACode.loop [0, 6] 0 1 (fun n0 fr σ' => ∃ (i : Nat), fr = ⟨[(0, .str t), (6, .iter 0)], [], [(t, i)], [], 0⟩ ∧ σ = σ' ∧ (nameF t 0 = nameF t i) ∧ n0 = t.length - i) _ (by kernel_rfl) ⟨0, rfl, rfl, rfl, rfl⟩ ?_
  rintro n0 fr σ' ⟨i, rfl, rfl, hP, rfl⟩
  refine ACode.seq ?_
  refine ACode.region ?_
  refine AOps.next (i := 0) (s := t) (p := i) rfl rfl (by kernel_rfl) (by kernel_rfl) (by kernel_rfl) (fun hp1 => ?_) (fun hp1 => ?_)
  · -- one more
    refine AOps.runN hT (fun _ => false) 1 [0, 6, 7, 8] (fr' := ⟨[(0, .str t), (6, .iter 0), (7, .tuple [.bool true, .int .i64 ((i : Nat) : Int), .int .i32 (((dec t i).1 : Nat) : Int)]), (8, .bool true)], [], [(t, i + (dec t i).2)], [], 0⟩) (σ' := σ) (ob := True ∧ True) (by kernel_rfl) ⟨trivial, trivial⟩ ?_
    refine AOps.nil ?_
    refine ACode.seq ?_
    refine ACode.cond (t := true) (by kernel_rfl) (fun _ => ?_) (fun h => Bool.noConfusion h)
    refine ACode.skip ?_
    refine ACode.block ?_
    refine ACode.seq ?_
    refine ACode.run hT (fun _ => false) [0, 3, 4, 6] (fr' := ⟨[(0, .str t), (3, .int .i64 ((i : Nat) : Int)), (4, .int .i32 (((dec t i).1 : Nat) : Int)), (6, .iter 0)], [], [(t, i + (dec t i).2)], [], 0⟩) (σ' := σ) (ob := True ∧ True ∧ True ∧ True ∧ True) (by kernel_rfl) ⟨trivial, trivial, trivial, trivial, trivial⟩ ?_
    refine ACode.seq ?_
    refine ACode.meet ⟨[(0, .str t), (6, .iter 0), (22, .bool ((!(letterS (((dec t i).1 : Nat) : Int))) && ((((i : Nat) : Int) == 0) || (!(digitS (((dec t i).1 : Nat) : Int))))))], [], [(t, i + (dec t i).2)], [], 0⟩ σ (ACode.region ?_) ?_
    ·
      refine AOps.runN hT (fun _ => false) 1 [0, 3, 4, 6, 11] (fr' := ⟨[(0, .str t), (3, .int .i64 ((i : Nat) : Int)), (4, .int .i32 (((dec t i).1 : Nat) : Int)), (6, .iter 0), (11, .int .i32 (((dec t i).1 : Nat) : Int))], [], [(t, i + (dec t i).2)], [], 0⟩) (σ' := σ) (ob := True ∧ True) (by kernel_rfl) ⟨trivial, trivial⟩ ?_
      refine AOps.call (fid := 20) (cap := []) (avs := [.int .i32 (((dec t i).1 : Nat) : Int)]) (by kernel_rfl) rfl (by kernel_rfl) (by kernel_rfl) en_20 (by kernel_rfl) (ACalls.mono (letter_walk (((dec t i).1 : Nat) : Int) _) ?_)
      rintro _ _ ⟨rfl, rfl⟩
      refine AOps.runN hT (fun _ => false) 2 [0, 3, 4, 6, 14] (fr' := ⟨[(0, .str t), (3, .int .i64 ((i : Nat) : Int)), (4, .int .i32 (((dec t i).1 : Nat) : Int)), (6, .iter 0), (14, .bool (!(letterS (((dec t i).1 : Nat) : Int))))], [], [(t, i + (dec t i).2)], [], 0⟩) (σ' := σ) (ob := True ∧ True ∧ True) (by kernel_rfl) ⟨trivial, trivial, trivial⟩ ?_
      cases h2 : (!(letterS (((dec t i).1 : Nat) : Int)))
      · -- !(letterS (((dec t i).1 : Nat) : Int)) is false
        have h2k := h2; simp only [Bool.and_eq_true, Bool.or_eq_true, Bool.and_eq_false_iff, Bool.or_eq_false_iff, decide_eq_true_eq, decide_eq_false_iff_not, beq_iff_eq, bne_iff_ne, ne_eq, Bool.not_eq_true', Bool.not_eq_false', beq_eq_false_iff_ne, bne_eq_false_iff_eq] at h2k
        refine AOps.runN hT (fun _ => false) 8 [0, 6, 15, 16, 17, 18, 19, 20, 21, 22] (fr' := ⟨[(0, .str t), (6, .iter 0), (15, .tuple []), (16, .tuple []), (17, .tuple []), (18, .tuple []), (19, .tuple []), (20, .tuple []), (21, .tuple []), (22, .bool false)], [], [(t, i + (dec t i).2)], [], 0⟩) (σ' := σ) (ob := True ∧ True) (by kernel_rfl) ⟨trivial, trivial⟩ ?_
        refine AOps.weak [0, 6, 22] (AOps.nil ⟨rfl, rfl⟩)
      · -- !(letterS (((dec t i).1 : Nat) : Int)) is true
        have h2k := h2; simp only [Bool.and_eq_true, Bool.or_eq_true, Bool.and_eq_false_iff, Bool.or_eq_false_iff, decide_eq_true_eq, decide_eq_false_iff_not, beq_iff_eq, bne_iff_ne, ne_eq, Bool.not_eq_true', Bool.not_eq_false', beq_eq_false_iff_ne, bne_eq_false_iff_eq] at h2k
        refine AOps.runN hT (fun _ => false) 3 [0, 4, 6, 14, 15, 16, 17] (fr' := ⟨[(0, .str t), (4, .int .i32 (((dec t i).1 : Nat) : Int)), (6, .iter 0), (14, .bool true), (15, .int .i64 ((i : Nat) : Int)), (16, .bool (((i : Nat) : Int) == 0)), (17, .bool (((i : Nat) : Int) == 0))], [], [(t, i + (dec t i).2)], [], 0⟩) (σ' := σ) (ob := True ∧ True ∧ True ∧ True) (by kernel_rfl) ⟨trivial, trivial, trivial, trivial⟩ ?_
        cases h3 : (((i : Nat) : Int) == 0)
        · -- ((i : Nat) : Int) == 0 is false
          have h3k := ne_of_beq_false h3
          refine AOps.runN hT (fun _ => false) 1 [0, 6, 14, 15, 16, 17, 18] (fr' := ⟨[(0, .str t), (6, .iter 0), (14, .bool true), (15, .int .i64 ((i : Nat) : Int)), (16, .bool false), (17, .bool false), (18, .int .i32 (((dec t i).1 : Nat) : Int))], [], [(t, i + (dec t i).2)], [], 0⟩) (σ' := σ) (ob := True ∧ True) (by kernel_rfl) ⟨trivial, trivial⟩ ?_
          refine AOps.call (fid := 21) (cap := []) (avs := [.int .i32 (((dec t i).1 : Nat) : Int)]) (by kernel_rfl) rfl (by kernel_rfl) (by kernel_rfl) en_21 (by kernel_rfl) (ACalls.mono (digit_walk (((dec t i).1 : Nat) : Int) _) ?_)
          rintro _ _ ⟨rfl, rfl⟩
          refine AOps.runN hT (fun _ => false) 3 [0, 6, 15, 16, 17, 18, 19, 20, 21, 22] (fr' := ⟨[(0, .str t), (6, .iter 0), (15, .int .i64 ((i : Nat) : Int)), (16, .bool false), (17, .bool false), (18, .int .i32 (((dec t i).1 : Nat) : Int)), (19, .bool (digitS (((dec t i).1 : Nat) : Int))), (20, .bool (!(digitS (((dec t i).1 : Nat) : Int)))), (21, .bool (!(digitS (((dec t i).1 : Nat) : Int)))), (22, .bool (!(digitS (((dec t i).1 : Nat) : Int))))], [], [(t, i + (dec t i).2)], [], 0⟩) (σ' := σ) (ob := True ∧ True ∧ True ∧ True) (by kernel_rfl) ⟨trivial, trivial, trivial, trivial⟩ ?_
          refine AOps.weak [0, 6, 22] (AOps.nil ⟨rfl, rfl⟩)
        · -- ((i : Nat) : Int) == 0 is true
          have h3k := eq_of_beq h3
          refine AOps.runN hT (fun _ => false) 5 [0, 6, 15, 16, 17, 18, 19, 20, 21, 22] (fr' := ⟨[(0, .str t), (6, .iter 0), (15, .int .i64 ((i : Nat) : Int)), (16, .bool true), (17, .bool true), (18, .tuple []), (19, .tuple []), (20, .tuple []), (21, .bool true), (22, .bool true)], [], [(t, i + (dec t i).2)], [], 0⟩) (σ' := σ) (ob := True ∧ True ∧ True) (by kernel_rfl) ⟨trivial, trivial, trivial⟩ ?_
          refine AOps.weak [0, 6, 22] (AOps.nil ⟨rfl, rfl⟩)
    -- on
    refine ACode.cond (t := (!(letterS (((dec t i).1 : Nat) : Int))) && ((((i : Nat) : Int) == 0) || (!(digitS (((dec t i).1 : Nat) : Int))))) (by kernel_rfl) (fun h4 => ?_) (fun h4 => ?_)
    · -- true
      have h4k := h4; simp only [Bool.and_eq_true, Bool.or_eq_true, Bool.and_eq_false_iff, Bool.or_eq_false_iff, decide_eq_true_eq, decide_eq_false_iff_not, beq_iff_eq, bne_iff_ne, ne_eq, Bool.not_eq_true', Bool.not_eq_false', beq_eq_false_iff_ne, bne_eq_false_iff_eq] at h4k
      refine ACode.seq ?_
      refine ACode.run hT (fun _ => false) [2] (fr' := ⟨[(2, .bool false)], [], [(t, i + (dec t i).2)], [], 0⟩) (σ' := σ) (ob := True ∧ True) (by kernel_rfl) ⟨trivial, trivial⟩ ?_
      refine ACode.ret ?_
      refine retQ.ret (.bool false) (by kernel_rfl) ?_
      refine ⟨rfl, ?_⟩
      have e9 : nameF t 0 = false := by rw [hP, nameF, dif_pos hp1, if_pos h4]
      rw [nameF_eq] at e9; simp only [isNameS, e9, Bool.false_and]
    · -- false
      have h4k := h4; simp only [Bool.and_eq_true, Bool.or_eq_true, Bool.and_eq_false_iff, Bool.or_eq_false_iff, decide_eq_true_eq, decide_eq_false_iff_not, beq_iff_eq, bne_iff_ne, ne_eq, Bool.not_eq_true', Bool.not_eq_false', beq_eq_false_iff_ne, bne_eq_false_iff_eq] at h4k
      refine ACode.skip ?_
      refine ⟨by kernel_rfl, _, ?_, i + (dec t i).2, rfl, rfl, ?_, rfl⟩
      · have := dec_pos t i hp1; omega
      · rw [hP, nameF, dif_pos hp1, if_neg (by rw [h4]; decide), Nat.max_eq_right (dec_pos t i hp1)]
  · -- the end
    refine AOps.runN hT (fun _ => false) 1 [0, 6, 7, 8] (fr' := ⟨[(0, .str t), (6, .iter 0), (7, .tuple [.bool false]), (8, .bool false)], [], [(t, i)], [], 0⟩) (σ' := σ) (ob := True ∧ True) (by kernel_rfl) ⟨trivial, trivial⟩ ?_
    refine AOps.nil ?_
    refine ACode.seq ?_
    refine ACode.cond (t := false) (by kernel_rfl) (fun h => Bool.noConfusion h) (fun _ => ?_)
    refine ACode.exit ?_
    refine ACode.seq ?_
    refine ACode.meet ⟨[(2, .bool ((!(t == [])) && (!(isWordS t))))], [], [(t, i)], [], 0⟩ σ (ACode.region ?_) ?_
    ·
      refine AOps.runN hT (fun _ => false) 3 [0, 25] (fr' := ⟨[(0, .str t), (25, .bool (!(t == [])))], [], [(t, i)], [], 0⟩) (σ' := σ) (ob := True ∧ True ∧ True ∧ True) (by kernel_rfl) ⟨trivial, trivial, trivial, trivial⟩ ?_
      cases h5 : (!(t == []))
      · -- !(t == []) is false
        have h5k := h5; simp only [Bool.and_eq_true, Bool.or_eq_true, Bool.and_eq_false_iff, Bool.or_eq_false_iff, decide_eq_true_eq, decide_eq_false_iff_not, beq_iff_eq, bne_iff_ne, ne_eq, Bool.not_eq_true', Bool.not_eq_false', beq_eq_false_iff_ne, bne_eq_false_iff_eq] at h5k
        refine AOps.runN hT (fun _ => false) 5 [2] (fr' := ⟨[(2, .bool false)], [], [(t, i)], [], 0⟩) (σ' := σ) (ob := True ∧ True ∧ True) (by kernel_rfl) ⟨trivial, trivial, trivial⟩ ?_
        refine AOps.weak [2] (AOps.nil ⟨rfl, rfl⟩)
      · -- !(t == []) is true
        have h5k := h5; simp only [Bool.and_eq_true, Bool.or_eq_true, Bool.and_eq_false_iff, Bool.or_eq_false_iff, decide_eq_true_eq, decide_eq_false_iff_not, beq_iff_eq, bne_iff_ne, ne_eq, Bool.not_eq_true', Bool.not_eq_false', beq_eq_false_iff_ne, bne_eq_false_iff_eq] at h5k
        refine AOps.runN hT (fun _ => false) 1 [25, 26] (fr' := ⟨[(25, .bool true), (26, .str t)], [], [(t, i)], [], 0⟩) (σ' := σ) (ob := True ∧ True) (by kernel_rfl) ⟨trivial, trivial⟩ ?_
        refine AOps.call (fid := 12) (cap := []) (avs := [.str t]) (by kernel_rfl) rfl (by kernel_rfl) (by kernel_rfl) en_12 (by kernel_rfl) (ACalls.mono (isWord_walk0 t _ ht) ?_)
        rintro _ _ ⟨rfl, rfl⟩
        refine AOps.runN hT (fun _ => false) 3 [2] (fr' := ⟨[(2, .bool (!(isWordS t)))], [], [(t, i)], [], 0⟩) (σ' := σ) (ob := True ∧ True ∧ True ∧ True) (by kernel_rfl) ⟨trivial, trivial, trivial, trivial⟩ ?_
        refine AOps.weak [2] (AOps.nil ⟨rfl, rfl⟩)
    -- on
    refine ACode.ret ?_
    refine retQ.ret (.bool ((!(t == [])) && (!(isWordS t)))) (by kernel_rfl) ?_
    refine ⟨rfl, ?_⟩
    have e9 : nameF t 0 = true := by rw [hP, nameF, dif_neg (by omega)]
    rw [nameF_eq] at e9; simp only [isNameS, e9, Bool.true_and]
theorem len1 {l : List UInt8} (h : l ≠ []) : 1 ≤ l.length := by
  cases l with
  | nil => exact absurd rfl h
  | cons _ _ => simp

theorem blank_walk (r0 : Rd) (hok0 : RdOK r0) : ACalls Tryd.prog 26 [.ptr 0 0] [[.str r0.rest, .int .i64 r0.line, .int .i64 r0.col]] (fun e s => s = [rdAV (blankS r0)] ∧ e = .ret (.tuple [])) := by
  refine ACalls.enter hT Tryd.func26 rfl (by kernel_rfl) ?_
  refine ACode.scope ?_
  refine ACode.seq ?_
  refine ACode.label ?_
  refine ACode.block ?_
  refine ACode.loop [0] 0 0 (fun n0 fr σ' => ∃ (k : Nat), ∃ (r : Rd), fr = ⟨[(0, .ptr 0 0)], [], [], [], 0⟩ ∧ σ' = [[.str r.rest, .int .i64 r.line, .int .i64 r.col]] ∧ (RdOK r ∧ r.rest.length ≤ k ∧ blankS r0 = blankF k r) ∧ n0 = r.rest.length) _ (by kernel_rfl) ⟨r0.rest.length, r0, rfl, rfl, ⟨hok0, Nat.le_refl _, rfl⟩, rfl⟩ ?_
  rintro n0 fr σ' ⟨k, r, rfl, rfl, ⟨hok, hk, hP⟩, rfl⟩
  refine ACode.seq ?_
  refine ACode.seq ?_
  refine ACode.run hT (fun _ => false) [0, 6] (fr' := ⟨[(0, .ptr 0 0), (6, .bool (!(r.rest == [])))], [], [], [], 0⟩) (σ' := [[.str r.rest, .int .i64 r.line, .int .i64 r.col]]) (ob := True ∧ True ∧ True ∧ True ∧ True ∧ True) (by kernel_rfl) ⟨trivial, trivial, trivial, trivial, trivial, trivial⟩ ?_
  refine ACode.cond (t := !(r.rest == [])) (by kernel_rfl) (fun h1 => ?_) (fun h1 => ?_)
  · -- true
    have hne : r.rest ≠ [] := by simpa using h1
    refine ACode.skip ?_
    refine ACode.block ?_
    refine ACode.block ?_
    refine ACode.seq ?_
    refine ACode.region ?_
    refine AOps.runN hT (fun _ => false) 4 [0, 11] (fr' := ⟨[(0, .ptr 0 0), (11, .str r.rest)], [], [], [], 0⟩) (σ' := [[.str r.rest, .int .i64 r.line, .int .i64 r.col]]) (ob := True ∧ True ∧ True ∧ True ∧ True) (by kernel_rfl) ⟨trivial, trivial, trivial, trivial, trivial⟩ ?_
    refine AOps.call (fid := 32) (cap := []) (avs := [.str r.rest, .str [47, 47]]) (by kernel_rfl) rfl (by kernel_rfl) (by kernel_rfl) en_32 (by kernel_rfl) (ACalls.mono (hasPrefix_walk r.rest [47, 47] _) ?_)
    rintro _ _ ⟨rfl, rfl⟩
    refine AOps.runN hT (fun _ => false) 1 [0, 7] (fr' := ⟨[(0, .ptr 0 0), (7, .bool ([47, 47].isPrefixOf r.rest))], [], [], [], 0⟩) (σ' := [[.str r.rest, .int .i64 r.line, .int .i64 r.col]]) (ob := True ∧ True) (by kernel_rfl) ⟨trivial, trivial⟩ ?_
    refine AOps.nil ?_
    refine ACode.cond (t := [47, 47].isPrefixOf r.rest) (by kernel_rfl) (fun h2 => ?_) (fun h2 => ?_)
    · -- true
      skip
      refine ACode.region ?_
      refine AOps.runN hT (fun _ => false) 2 [0, 13, 14] (fr' := ⟨[(0, .ptr 0 0), (13, .ptr 0 0), (14, .ptr 0 0)], [], [], [], 0⟩) (σ' := [[.str r.rest, .int .i64 r.line, .int .i64 r.col]]) (ob := True ∧ True ∧ True) (by kernel_rfl) ⟨trivial, trivial, trivial⟩ ?_
      refine AOps.call (fid := 34) (cap := []) (avs := [.ptr 0 0, .func 35 []]) (by kernel_rfl) rfl (by kernel_rfl) (by kernel_rfl) en_34 (by kernel_rfl) (ACalls.mono (run_walk 35 (fun c => c != 10) en_35 notLF_walk r.rest r.line r.col) ?_)
      rintro _ _ ⟨rfl, rfl⟩
      rw [runF_line]
      refine AOps.call (fid := 33) (cap := []) (avs := [.ptr 0 0, .int .i64 (lineN r.rest : Int)]) (by kernel_rfl) rfl (by kernel_rfl) (by kernel_rfl) en_33 (by kernel_rfl) (ACalls.mono (skip_rd r (lineN r.rest) hok (lineN_le _)) ?_)
      rintro _ _ ⟨rfl, rfl⟩
      refine AOps.nil ?_
      refine ⟨by kernel_rfl, _, ?_, k - 1, skipS (lineN r.rest) r, rfl, rfl, ?_, rfl⟩
      · have hp := lineN_pos h2; have h8 := lineN_le r.rest; simp only [skipS, List.length_drop]; omega
      · have hp := lineN_pos h2
        have h8 := lineN_le r.rest
        have hk9 : k = (k - 1) + 1 := by omega
        refine ⟨skipS_ok hok (lineN_le r.rest), by simp only [skipS, List.length_drop]; omega, ?_⟩
        rw [hP, hk9, blankF, if_neg hne, if_pos h2, Nat.add_sub_cancel]
    · -- false
      skip
      refine ACode.seq ?_
      refine ACode.region ?_
      refine AOps.runN hT (fun _ => false) 5 [0, 22] (fr' := ⟨[(0, .ptr 0 0), (22, .int .u8 ((r.rest.getD 0 0).toNat : Int))], [], [], [], 0⟩) (σ' := [[.str r.rest, .int .i64 r.line, .int .i64 r.col]]) (ob := True ∧ True ∧ True ∧ True ∧ (0 ≤ (0 : Int) ∧ (0 : Int) < ((r.rest) : List UInt8).length) ∧ True) (by kernel_rfl) ⟨trivial, trivial, trivial, trivial, (by have := len1 hne; omega), trivial⟩ ?_
      refine AOps.call (fid := 36) (cap := []) (avs := [.str [32, 9, 13, 10], .int .u8 ((r.rest.getD 0 0).toNat : Int)]) (by kernel_rfl) rfl (by kernel_rfl) (by kernel_rfl) en_36 (by kernel_rfl) (ACalls.mono (indexByte_walk [32, 9, 13, 10] ((r.rest.getD 0 0).toNat : Int) _) ?_)
      rintro _ _ ⟨rfl, rfl⟩
      refine AOps.runN hT (fun _ => false) 2 [0, 17] (fr' := ⟨[(0, .ptr 0 0), (17, .bool (decide ((Lib.indexByte [32, 9, 13, 10] (((r.rest.getD 0 0).toNat : Int) : Int).toNat.toUInt8) ≥ 0)))], [], [], [], 0⟩) (σ' := [[.str r.rest, .int .i64 r.line, .int .i64 r.col]]) (ob := True ∧ True ∧ True) (by kernel_rfl) ⟨trivial, trivial, trivial⟩ ?_
      refine AOps.nil ?_
      refine ACode.cond (t := decide ((Lib.indexByte [32, 9, 13, 10] (((r.rest.getD 0 0).toNat : Int) : Int).toNat.toUInt8) ≥ 0)) (by kernel_rfl) (fun h3 => ?_) (fun h3 => ?_)
      · -- true
        have h3k := of_decide_eq_true h3
        refine ACode.region ?_
        refine AOps.runN hT (fun _ => false) 1 [0, 25] (fr' := ⟨[(0, .ptr 0 0), (25, .ptr 0 0)], [], [], [], 0⟩) (σ' := [[.str r.rest, .int .i64 r.line, .int .i64 r.col]]) (ob := True ∧ True) (by kernel_rfl) ⟨trivial, trivial⟩ ?_
        refine AOps.call (fid := 33) (cap := []) (avs := [.ptr 0 0, .int .i64 1]) (by kernel_rfl) rfl (by kernel_rfl) (by kernel_rfl) en_33 (by kernel_rfl) (ACalls.mono (skip_rd r 1 hok (by have := len1 hne; omega)) ?_)
        rintro _ _ ⟨rfl, rfl⟩
        refine AOps.nil ?_
        refine ⟨by kernel_rfl, _, ?_, k - 1, skipS 1 r, rfl, rfl, ?_, rfl⟩
        · have hp : 1 ≤ 1 := Nat.le_refl 1; have h8 := len1 hne; simp only [skipS, List.length_drop]; omega
        · have hp : 1 ≤ 1 := Nat.le_refl 1
          have h8 := len1 hne
          have hk9 : k = (k - 1) + 1 := by omega
          refine ⟨skipS_ok hok (len1 hne), by simp only [skipS, List.length_drop]; omega, ?_⟩
          rw [hP, hk9, blankF, if_neg hne, if_neg (by rw [h2]; decide), if_pos (by unfold blankB; rw [u8_back] at h3; exact h3), Nat.add_sub_cancel]
      · -- false
        have h3k := of_decide_eq_false h3
        refine ACode.exit ?_
        refine retQ.fall (.tuple []) (by kernel_rfl) ?_
        refine ⟨?_, rfl⟩
        have hk9 : k = (k - 1) + 1 := by have := len1 hne; omega
        rw [hP, hk9, blankF, if_neg hne, if_neg (by rw [h2]; decide), if_neg (by unfold blankB; rw [u8_back] at h3; rw [h3]; decide)]
        rfl
  · -- false
    skip
    refine ACode.exit ?_
    refine retQ.fall (.tuple []) (by kernel_rfl) ?_
    refine ⟨?_, rfl⟩
    have hne : r.rest = [] := by simpa using h1
    rw [hP]
    cases k with
    | zero => rfl
    | succ k => rw [blankF, if_pos hne]; rfl

end Go.AE

set_option linter.unusedVariables false
set_option linter.unusedSimpArgs false
set_option maxRecDepth 4000
namespace Go.AE
open Go.Proofs

theorem word_walk (r : Rd) (hok : RdOK r) : ACalls Tryd.prog 37 [.ptr 0 0] [[.str r.rest, .int .i64 r.line, .int .i64 r.col]] (fun e s => s = [rdAV (skipS (wordN r.rest) r)] ∧ e = .ret (.tuple [.agg (tokAV (wordT r).1), .bool (wordT r).2])) := by
  refine ACalls.enter hT Tryd.func37 rfl (by kernel_rfl) ?_
  have hlen : (r.rest.take (wordN r.rest)).length ≤ 9000 := by have := hok.2.2.2.2; simp only [List.length_take]; omega
  refine ACode.seq ?_
  refine ACode.run hT (fun _ => false) [0, 2] (fr' := ⟨[(0, .ptr 0 0), (2, .loc 0 0)], [[.int .i64 0, .str [], .int .u64 0, .int .i64 0, .int .i64 0]], [], [], 0⟩) (σ' := [[.str r.rest, .int .i64 r.line, .int .i64 r.col]]) (ob := True ∧ True ∧ True) (by kernel_rfl) ⟨trivial, trivial, trivial⟩ ?_
  refine ACode.seq ?_
  refine ACode.draw [(10, 1)] 1 [] 1 (by kernel_rfl) (by kernel_rfl) ?_
  refine AAny.run hT (fun _ => false) (fuel := 0) [0, 1, 2, 3, 4, 5, 6, 7, 8, 9, 10] [0, 2, 4] (fz' := false) (l' := #[true, true, true, true, true, true, true, true, true, true, true]) (fr' := ⟨[(0, .ptr 0 0), (2, .loc 0 0), (4, .loc 1 0)], [[.int .i64 0, .str [], .int .u64 0, .int .i64 0, .int .i64 0], [.int .i64 0, .str [], .int .u64 0, .int .i64 r.line, .int .i64 r.col]], [], [], 0⟩) (σ' := [[.str r.rest, .int .i64 r.line, .int .i64 r.col]]) (ob := True ∧ True ∧ True ∧ True ∧ True ∧ True ∧ True ∧ True ∧ True ∧ True ∧ True ∧ True) (by kernel_rfl) (by kernel_rfl) ⟨trivial, trivial, trivial, trivial, trivial, trivial, trivial, trivial, trivial, trivial, trivial, trivial⟩ ?_
  refine AAny.done (by kernel_rfl) ?_
  refine ACode.seq ?_
  refine ACode.region ?_
  refine AOps.runN hT (fun _ => false) 2 [2, 4, 16, 17] (fr' := ⟨[(2, .loc 0 0), (4, .loc 1 0), (16, .ptr 0 0), (17, .ptr 0 0)], [[.int .i64 0, .str [], .int .u64 0, .int .i64 0, .int .i64 0], [.int .i64 0, .str [], .int .u64 0, .int .i64 r.line, .int .i64 r.col]], [], [], 0⟩) (σ' := [[.str r.rest, .int .i64 r.line, .int .i64 r.col]]) (ob := True ∧ True ∧ True) (by kernel_rfl) ⟨trivial, trivial, trivial⟩ ?_
  refine AOps.call (fid := 34) (cap := []) (avs := [.ptr 0 0, .func 51 []]) (by kernel_rfl) rfl (by kernel_rfl) (by kernel_rfl) en_34 (by kernel_rfl) (ACalls.mono (run_walk 51 wordS en_51 word1_walk r.rest r.line r.col) ?_)
  rintro _ _ ⟨rfl, rfl⟩
  rw [runF_word]
  refine AOps.call (fid := 33) (cap := []) (avs := [.ptr 0 0, .int .i64 (wordN r.rest : Int)]) (by kernel_rfl) rfl (by kernel_rfl) (by kernel_rfl) en_33 (by kernel_rfl) (ACalls.mono (skip_rd r (wordN r.rest) hok (wordN_le _)) ?_)
  rintro _ _ ⟨rfl, rfl⟩
  refine AOps.runN hT (fun _ => false) 2 [2, 4] (fr' := ⟨[(2, .loc 0 0), (4, .loc 1 0)], [[.int .i64 0, .str [], .int .u64 0, .int .i64 0, .int .i64 0], [.int .i64 0, .str (r.rest.take (wordN r.rest)), .int .u64 0, .int .i64 r.line, .int .i64 r.col]], [], [], 0⟩) (σ' := [[.str ((skipS (wordN r.rest) r).rest), .int .i64 ((skipS (wordN r.rest) r).line), .int .i64 ((skipS (wordN r.rest) r).col)]]) (ob := True ∧ True ∧ True) (by kernel_rfl) ⟨trivial, trivial, trivial⟩ ?_
  refine AOps.nil ?_
  refine ACode.seq ?_
  refine ACode.block ?_
  refine ACode.seq ?_
  refine ACode.region ?_
  refine AOps.runN hT (fun _ => false) 2 [2, 4, 42] (fr' := ⟨[(2, .loc 0 0), (4, .loc 1 0), (42, .str (r.rest.take (wordN r.rest)))], [[.int .i64 0, .str [], .int .u64 0, .int .i64 0, .int .i64 0], [.int .i64 0, .str (r.rest.take (wordN r.rest)), .int .u64 0, .int .i64 r.line, .int .i64 r.col]], [], [], 0⟩) (σ' := [[.str ((skipS (wordN r.rest) r).rest), .int .i64 ((skipS (wordN r.rest) r).line), .int .i64 ((skipS (wordN r.rest) r).col)]]) (ob := True ∧ True ∧ True) (by kernel_rfl) ⟨trivial, trivial, trivial⟩ ?_
  refine AOps.call (fid := 12) (cap := []) (avs := [.str (r.rest.take (wordN r.rest))]) (by kernel_rfl) rfl (by kernel_rfl) (by kernel_rfl) en_12 (by kernel_rfl) (ACalls.mono (isWord_walk0 (r.rest.take (wordN r.rest)) _ hlen) ?_)
  rintro _ _ ⟨rfl, rfl⟩
  refine AOps.runN hT (fun _ => false) 1 [2, 4, 40] (fr' := ⟨[(2, .loc 0 0), (4, .loc 1 0), (40, .bool (isWordS (r.rest.take (wordN r.rest))))], [[.int .i64 0, .str [], .int .u64 0, .int .i64 0, .int .i64 0], [.int .i64 0, .str (r.rest.take (wordN r.rest)), .int .u64 0, .int .i64 r.line, .int .i64 r.col]], [], [], 0⟩) (σ' := [[.str ((skipS (wordN r.rest) r).rest), .int .i64 ((skipS (wordN r.rest) r).line), .int .i64 ((skipS (wordN r.rest) r).col)]]) (ob := True ∧ True) (by kernel_rfl) ⟨trivial, trivial⟩ ?_
  refine AOps.nil ?_
  refine ACode.cond (t := isWordS (r.rest.take (wordN r.rest))) (by kernel_rfl) (fun h1 => ?_) (fun h1 => ?_)
  · -- true
    skip
    refine ACode.run hT (fun _ => false) [2, 4] (fr' := ⟨[(2, .loc 0 0), (4, .loc 1 0)], [[.int .i64 0, .str [], .int .u64 0, .int .i64 0, .int .i64 0], [.int .i64 2, .str (r.rest.take (wordN r.rest)), .int .u64 0, .int .i64 r.line, .int .i64 r.col]], [], [], 0⟩) (σ' := [[.str ((skipS (wordN r.rest) r).rest), .int .i64 ((skipS (wordN r.rest) r).line), .int .i64 ((skipS (wordN r.rest) r).col)]]) (ob := True ∧ True ∧ True) (by kernel_rfl) ⟨trivial, trivial, trivial⟩ ?_
    refine ACode.seq ?_
    refine ACode.run hT (fun _ => false) [2, 3] (fr' := ⟨[(2, .loc 0 0), (3, .bool true)], [[.int .i64 2, .str (r.rest.take (wordN r.rest)), .int .u64 0, .int .i64 r.line, .int .i64 r.col], [.int .i64 2, .str (r.rest.take (wordN r.rest)), .int .u64 0, .int .i64 r.line, .int .i64 r.col]], [], [], 0⟩) (σ' := [[.str ((skipS (wordN r.rest) r).rest), .int .i64 ((skipS (wordN r.rest) r).line), .int .i64 ((skipS (wordN r.rest) r).col)]]) (ob := True ∧ True ∧ True ∧ True) (by kernel_rfl) ⟨trivial, trivial, trivial, trivial⟩ ?_
    refine ACode.ret ?_
    refine retQ.ret (.tuple [.agg [.int .i64 2, .str (r.rest.take (wordN r.rest)), .int .u64 0, .int .i64 r.line, .int .i64 r.col], .bool true]) (by kernel_rfl) ?_
    refine ⟨rfl, ?_⟩
    simp only [wordT, h1, if_true]
    rfl
  · -- false
    skip
    refine ACode.seq ?_
    refine ACode.region ?_
    refine AOps.runN hT (fun _ => false) 2 [2, 4, 47] (fr' := ⟨[(2, .loc 0 0), (4, .loc 1 0), (47, .str (r.rest.take (wordN r.rest)))], [[.int .i64 0, .str [], .int .u64 0, .int .i64 0, .int .i64 0], [.int .i64 0, .str (r.rest.take (wordN r.rest)), .int .u64 0, .int .i64 r.line, .int .i64 r.col]], [], [], 0⟩) (σ' := [[.str ((skipS (wordN r.rest) r).rest), .int .i64 ((skipS (wordN r.rest) r).line), .int .i64 ((skipS (wordN r.rest) r).col)]]) (ob := True ∧ True ∧ True) (by kernel_rfl) ⟨trivial, trivial, trivial⟩ ?_
    refine AOps.call (fid := 11) (cap := []) (avs := [.str (r.rest.take (wordN r.rest))]) (by kernel_rfl) rfl (by kernel_rfl) (by kernel_rfl) en_11 (by kernel_rfl) (ACalls.mono (isName_walk0 (r.rest.take (wordN r.rest)) _ hlen) ?_)
    rintro _ _ ⟨rfl, rfl⟩
    refine AOps.runN hT (fun _ => false) 1 [2, 4, 45] (fr' := ⟨[(2, .loc 0 0), (4, .loc 1 0), (45, .bool (isNameS (r.rest.take (wordN r.rest))))], [[.int .i64 0, .str [], .int .u64 0, .int .i64 0, .int .i64 0], [.int .i64 0, .str (r.rest.take (wordN r.rest)), .int .u64 0, .int .i64 r.line, .int .i64 r.col]], [], [], 0⟩) (σ' := [[.str ((skipS (wordN r.rest) r).rest), .int .i64 ((skipS (wordN r.rest) r).line), .int .i64 ((skipS (wordN r.rest) r).col)]]) (ob := True ∧ True) (by kernel_rfl) ⟨trivial, trivial⟩ ?_
    refine AOps.nil ?_
    refine ACode.cond (t := isNameS (r.rest.take (wordN r.rest))) (by kernel_rfl) (fun h2 => ?_) (fun h2 => ?_)
    · -- true
      skip
      refine ACode.run hT (fun _ => false) [2, 4] (fr' := ⟨[(2, .loc 0 0), (4, .loc 1 0)], [[.int .i64 0, .str [], .int .u64 0, .int .i64 0, .int .i64 0], [.int .i64 1, .str (r.rest.take (wordN r.rest)), .int .u64 0, .int .i64 r.line, .int .i64 r.col]], [], [], 0⟩) (σ' := [[.str ((skipS (wordN r.rest) r).rest), .int .i64 ((skipS (wordN r.rest) r).line), .int .i64 ((skipS (wordN r.rest) r).col)]]) (ob := True ∧ True ∧ True) (by kernel_rfl) ⟨trivial, trivial, trivial⟩ ?_
      refine ACode.seq ?_
      refine ACode.run hT (fun _ => false) [2, 3] (fr' := ⟨[(2, .loc 0 0), (3, .bool true)], [[.int .i64 1, .str (r.rest.take (wordN r.rest)), .int .u64 0, .int .i64 r.line, .int .i64 r.col], [.int .i64 1, .str (r.rest.take (wordN r.rest)), .int .u64 0, .int .i64 r.line, .int .i64 r.col]], [], [], 0⟩) (σ' := [[.str ((skipS (wordN r.rest) r).rest), .int .i64 ((skipS (wordN r.rest) r).line), .int .i64 ((skipS (wordN r.rest) r).col)]]) (ob := True ∧ True ∧ True ∧ True) (by kernel_rfl) ⟨trivial, trivial, trivial, trivial⟩ ?_
      refine ACode.ret ?_
      refine retQ.ret (.tuple [.agg [.int .i64 1, .str (r.rest.take (wordN r.rest)), .int .u64 0, .int .i64 r.line, .int .i64 r.col], .bool true]) (by kernel_rfl) ?_
      refine ⟨rfl, ?_⟩
      simp only [wordT, h1, h2, if_true, Bool.false_eq_true, if_false]
      rfl
    · -- false
      skip
      refine ACode.seq ?_
      refine ACode.region ?_
      refine AOps.runN hT (fun _ => false) 2 [2, 4, 23] (fr' := ⟨[(2, .loc 0 0), (4, .loc 1 0), (23, .str (r.rest.take (wordN r.rest)))], [[.int .i64 0, .str [], .int .u64 0, .int .i64 0, .int .i64 0], [.int .i64 0, .str (r.rest.take (wordN r.rest)), .int .u64 0, .int .i64 r.line, .int .i64 r.col]], [], [], 0⟩) (σ' := [[.str ((skipS (wordN r.rest) r).rest), .int .i64 ((skipS (wordN r.rest) r).line), .int .i64 ((skipS (wordN r.rest) r).col)]]) (ob := True ∧ True ∧ True) (by kernel_rfl) ⟨trivial, trivial, trivial⟩ ?_
      refine AOps.call (fid := 52) (cap := []) (avs := [.str (r.rest.take (wordN r.rest)), .int .i64 10, .int .i64 63]) (by kernel_rfl) rfl (by kernel_rfl) (by kernel_rfl) en_52 (by kernel_rfl) (ACalls.mono (parseUint10 (r.rest.take (wordN r.rest)) hlen _) ?_)
      rintro _ _ ⟨rfl, (⟨hr, rfl⟩ | ⟨hr, rfl⟩)⟩
      · -- good
        refine AOps.runN hT (fun _ => false) 5 [2, 4, 5, 6] (fr' := ⟨[(2, .loc 0 0), (4, .loc 1 0), (5, .int .u64 ((pu10 (r.rest.take (wordN r.rest))).1)), (6, .nilIface)], [[.int .i64 0, .str [], .int .u64 0, .int .i64 0, .int .i64 0], [.int .i64 0, .str (r.rest.take (wordN r.rest)), .int .u64 0, .int .i64 r.line, .int .i64 r.col]], [], [], 0⟩) (σ' := [[.str ((skipS (wordN r.rest) r).rest), .int .i64 ((skipS (wordN r.rest) r).line), .int .i64 ((skipS (wordN r.rest) r).col)]]) (ob := True ∧ True ∧ True ∧ True ∧ True ∧ True) (by kernel_rfl) ⟨trivial, trivial, trivial, trivial, trivial, trivial⟩ ?_
        refine AOps.nil ?_
        refine ACode.seq ?_
        refine ACode.run hT (fun _ => false) [2, 4, 5, 6] (fr' := ⟨[(2, .loc 0 0), (4, .loc 1 0), (5, .int .u64 ((pu10 (r.rest.take (wordN r.rest))).1)), (6, .nilIface)], [[.int .i64 0, .str [], .int .u64 0, .int .i64 0, .int .i64 0], [.int .i64 3, .str (r.rest.take (wordN r.rest)), .int .u64 ((pu10 (r.rest.take (wordN r.rest))).1), .int .i64 r.line, .int .i64 r.col]], [], [], 0⟩) (σ' := [[.str ((skipS (wordN r.rest) r).rest), .int .i64 ((skipS (wordN r.rest) r).line), .int .i64 ((skipS (wordN r.rest) r).col)]]) (ob := True ∧ True ∧ True ∧ True ∧ True ∧ True) (by kernel_rfl) ⟨trivial, trivial, trivial, trivial, trivial, trivial⟩ ?_
        refine ACode.seq ?_
        refine ACode.draw [(10, 0)] 2 [] 0 (by kernel_rfl) (by kernel_rfl) ?_
        refine AAny.run hT (fun _ => false) (fuel := 5) [0, 1, 2, 3, 4, 6, 7] [2, 30, 33, 34, 37] (fz' := true) (l' := #[true, true, true, true, true, false, true, true, false, false, false, false]) (fr' := ⟨[(2, .loc 0 0), (30, .agg [.int .i64 3, .str (r.rest.take (wordN r.rest)), .int .u64 ((pu10 (r.rest.take (wordN r.rest))).1), .int .i64 r.line, .int .i64 r.col]), (33, .bool true), (34, .int .u64 ((pu10 (r.rest.take (wordN r.rest))).1)), (37, .str (r.rest.take (wordN r.rest)))], [[.int .i64 0, .str [], .int .u64 0, .int .i64 0, .int .i64 0], [.int .i64 3, .str (r.rest.take (wordN r.rest)), .int .u64 ((pu10 (r.rest.take (wordN r.rest))).1), .int .i64 r.line, .int .i64 r.col]], [], [], 0⟩) (σ' := [[.str ((skipS (wordN r.rest) r).rest), .int .i64 ((skipS (wordN r.rest) r).line), .int .i64 ((skipS (wordN r.rest) r).col)]]) (ob := True ∧ True ∧ True ∧ True ∧ True ∧ True ∧ True ∧ True) (by kernel_rfl) (by kernel_rfl) ⟨trivial, trivial, trivial, trivial, trivial, trivial, trivial, trivial⟩ ?_
        refine AAny.call (fuel := 4) (i := 5) (fid := 53) (cap := []) (avs := [.int .u64 ((pu10 (r.rest.take (wordN r.rest))).1), .int .i64 10]) rfl (by kernel_rfl) (by kernel_rfl) (by kernel_rfl) (by kernel_rfl) rfl (by kernel_rfl) en_53 (by kernel_rfl) (ACalls.mono (fmtU_walk ((pu10 (r.rest.take (wordN r.rest))).1) (pu10_bd _).1 (pu10_bd _).2 _) ?_) (by kernel_rfl)
        rintro _ _ ⟨rfl, rfl⟩
        refine AAny.run hT (fun _ => false) (fuel := 0) [8, 9, 10, 11] [2, 3] (fz' := false) (l' := #[true, true, true, true, true, true, true, true, true, true, true, true]) (fr' := ⟨[(2, .loc 0 0), (3, .bool ((Lib.decDigits ((pu10 (r.rest.take (wordN r.rest))).1 : Int).toNat) == (r.rest.take (wordN r.rest))))], [[.int .i64 3, .str (r.rest.take (wordN r.rest)), .int .u64 ((pu10 (r.rest.take (wordN r.rest))).1), .int .i64 r.line, .int .i64 r.col], [.int .i64 3, .str (r.rest.take (wordN r.rest)), .int .u64 ((pu10 (r.rest.take (wordN r.rest))).1), .int .i64 r.line, .int .i64 r.col]], [], [], 0⟩) (σ' := [[.str ((skipS (wordN r.rest) r).rest), .int .i64 ((skipS (wordN r.rest) r).line), .int .i64 ((skipS (wordN r.rest) r).col)]]) (ob := True ∧ True ∧ True ∧ True ∧ True) (by kernel_rfl) (by kernel_rfl) ⟨trivial, trivial, trivial, trivial, trivial⟩ ?_
        refine AAny.done (by kernel_rfl) ?_
        refine ACode.ret ?_
        refine retQ.ret (.tuple [.agg [.int .i64 3, .str (r.rest.take (wordN r.rest)), .int .u64 ((pu10 (r.rest.take (wordN r.rest))).1), .int .i64 r.line, .int .i64 r.col], .bool ((Lib.decDigits ((pu10 (r.rest.take (wordN r.rest))).1 : Int).toNat) == (r.rest.take (wordN r.rest)))]) (by kernel_rfl) ?_
        refine ⟨rfl, ?_⟩
        have hr : (pu10 (r.rest.take (wordN r.rest))).2 = true := hr
        simp only [wordT, h1, h2, hr, Bool.false_eq_true, if_false, Bool.true_and, Bool.false_and]
        rfl
      · -- bad
        refine AOps.runN hT (fun _ => false) 5 [2, 4, 5, 6] (fr' := ⟨[(2, .loc 0 0), (4, .loc 1 0), (5, .int .u64 ((pu10 (r.rest.take (wordN r.rest))).1)), (6, .iface 118 (.any))], [[.int .i64 0, .str [], .int .u64 0, .int .i64 0, .int .i64 0], [.int .i64 0, .str (r.rest.take (wordN r.rest)), .int .u64 0, .int .i64 r.line, .int .i64 r.col]], [], [], 0⟩) (σ' := [[.str ((skipS (wordN r.rest) r).rest), .int .i64 ((skipS (wordN r.rest) r).line), .int .i64 ((skipS (wordN r.rest) r).col)]]) (ob := True ∧ True ∧ True ∧ True ∧ True ∧ True) (by kernel_rfl) ⟨trivial, trivial, trivial, trivial, trivial, trivial⟩ ?_
        refine AOps.nil ?_
        refine ACode.seq ?_
        refine ACode.run hT (fun _ => false) [2, 4, 5, 6] (fr' := ⟨[(2, .loc 0 0), (4, .loc 1 0), (5, .int .u64 ((pu10 (r.rest.take (wordN r.rest))).1)), (6, .iface 118 (.any))], [[.int .i64 0, .str [], .int .u64 0, .int .i64 0, .int .i64 0], [.int .i64 3, .str (r.rest.take (wordN r.rest)), .int .u64 ((pu10 (r.rest.take (wordN r.rest))).1), .int .i64 r.line, .int .i64 r.col]], [], [], 0⟩) (σ' := [[.str ((skipS (wordN r.rest) r).rest), .int .i64 ((skipS (wordN r.rest) r).line), .int .i64 ((skipS (wordN r.rest) r).col)]]) (ob := True ∧ True ∧ True ∧ True ∧ True ∧ True) (by kernel_rfl) ⟨trivial, trivial, trivial, trivial, trivial, trivial⟩ ?_
        refine ACode.seq ?_
        refine ACode.draw [(10, 0)] 2 [] 0 (by kernel_rfl) (by kernel_rfl) ?_
        refine AAny.run hT (fun _ => false) (fuel := 0) [0, 1, 2, 3, 4, 6, 7, 5, 8, 9, 10, 11] [2, 3] (fz' := false) (l' := #[true, true, true, true, true, true, true, true, true, true, true, true]) (fr' := ⟨[(2, .loc 0 0), (3, .bool false)], [[.int .i64 3, .str (r.rest.take (wordN r.rest)), .int .u64 ((pu10 (r.rest.take (wordN r.rest))).1), .int .i64 r.line, .int .i64 r.col], [.int .i64 3, .str (r.rest.take (wordN r.rest)), .int .u64 ((pu10 (r.rest.take (wordN r.rest))).1), .int .i64 r.line, .int .i64 r.col]], [], [], 0⟩) (σ' := [[.str ((skipS (wordN r.rest) r).rest), .int .i64 ((skipS (wordN r.rest) r).line), .int .i64 ((skipS (wordN r.rest) r).col)]]) (ob := True ∧ True ∧ True ∧ True ∧ True ∧ True ∧ True ∧ True ∧ True ∧ True ∧ True ∧ True ∧ True) (by kernel_rfl) (by kernel_rfl) ⟨trivial, trivial, trivial, trivial, trivial, trivial, trivial, trivial, trivial, trivial, trivial, trivial, trivial⟩ ?_
        refine AAny.done (by kernel_rfl) ?_
        refine ACode.ret ?_
        refine retQ.ret (.tuple [.agg [.int .i64 3, .str (r.rest.take (wordN r.rest)), .int .u64 ((pu10 (r.rest.take (wordN r.rest))).1), .int .i64 r.line, .int .i64 r.col], .bool false]) (by kernel_rfl) ?_
        refine ⟨rfl, ?_⟩
        have hr : (pu10 (r.rest.take (wordN r.rest))).2 = false := hr
        simp only [wordT, h1, h2, hr, Bool.false_eq_true, if_false, Bool.true_and, Bool.false_and]
        rfl
theorem real_walk (r : Rd) (hok : RdOK r) (hne : r.rest ≠ []) : ACalls Tryd.prog 38 [.ptr 0 0] [[.str r.rest, .int .i64 r.line, .int .i64 r.col]] (fun e s => s = [rdAV (realR r)] ∧ e = .ret (.tuple [.agg (tokAV (realT r).1), .bool (realT r).2])) := by
  refine ACalls.enter hT Tryd.func38 rfl (by kernel_rfl) ?_
  have hlen : (realText r).length ≤ 8193 := by have := hok.2.2.2.2; simp only [realText, List.length_append, List.length_cons, List.length_nil, List.length_take, List.length_drop]; omega
  have hlen2 : ((realText r).drop 1).length ≤ 9000 := by simp only [List.length_drop]; omega
  refine ACode.seq ?_
  refine ACode.run hT (fun _ => false) [0, 2] (fr' := ⟨[(0, .ptr 0 0), (2, .loc 0 0)], [[.int .i64 0, .str [], .int .u64 0, .int .i64 0, .int .i64 0]], [], [], 0⟩) (σ' := [[.str r.rest, .int .i64 r.line, .int .i64 r.col]]) (ob := True ∧ True ∧ True) (by kernel_rfl) ⟨trivial, trivial, trivial⟩ ?_
  refine ACode.seq ?_
  refine ACode.draw [(10, 1)] 1 [] 1 (by kernel_rfl) (by kernel_rfl) ?_
  refine AAny.run hT (fun _ => false) (fuel := 0) [0, 1, 2, 3, 4, 5, 6, 7, 8, 9, 10] [0, 2, 4] (fz' := false) (l' := #[true, true, true, true, true, true, true, true, true, true, true]) (fr' := ⟨[(0, .ptr 0 0), (2, .loc 0 0), (4, .loc 1 0)], [[.int .i64 0, .str [], .int .u64 0, .int .i64 0, .int .i64 0], [.int .i64 4, .str [], .int .u64 0, .int .i64 r.line, .int .i64 r.col]], [], [], 0⟩) (σ' := [[.str r.rest, .int .i64 r.line, .int .i64 r.col]]) (ob := True ∧ True ∧ True ∧ True ∧ True ∧ True ∧ True ∧ True ∧ True ∧ True ∧ True ∧ True) (by kernel_rfl) (by kernel_rfl) ⟨trivial, trivial, trivial, trivial, trivial, trivial, trivial, trivial, trivial, trivial, trivial, trivial⟩ ?_
  refine AAny.done (by kernel_rfl) ?_
  refine ACode.seq ?_
  refine ACode.region ?_
  refine AOps.runN hT (fun _ => false) 1 [0, 2, 4, 16] (fr' := ⟨[(0, .ptr 0 0), (2, .loc 0 0), (4, .loc 1 0), (16, .ptr 0 0)], [[.int .i64 0, .str [], .int .u64 0, .int .i64 0, .int .i64 0], [.int .i64 4, .str [], .int .u64 0, .int .i64 r.line, .int .i64 r.col]], [], [], 0⟩) (σ' := [[.str r.rest, .int .i64 r.line, .int .i64 r.col]]) (ob := True ∧ True) (by kernel_rfl) ⟨trivial, trivial⟩ ?_
  refine AOps.call (fid := 33) (cap := []) (avs := [.ptr 0 0, .int .i64 1]) (by kernel_rfl) rfl (by kernel_rfl) (by kernel_rfl) en_33 (by kernel_rfl) (ACalls.mono (skip_rd r 1 hok (by have := len1 hne; omega)) ?_)
  rintro _ _ ⟨rfl, rfl⟩
  refine AOps.nil ?_
  refine ACode.seq ?_
  refine ACode.region ?_
  refine AOps.runN hT (fun _ => false) 2 [2, 4, 18, 19] (fr' := ⟨[(2, .loc 0 0), (4, .loc 1 0), (18, .ptr 0 0), (19, .ptr 0 0)], [[.int .i64 0, .str [], .int .u64 0, .int .i64 0, .int .i64 0], [.int .i64 4, .str [], .int .u64 0, .int .i64 r.line, .int .i64 r.col]], [], [], 0⟩) (σ' := [[.str ((skipS 1 r).rest), .int .i64 ((skipS 1 r).line), .int .i64 ((skipS 1 r).col)]]) (ob := True ∧ True ∧ True) (by kernel_rfl) ⟨trivial, trivial, trivial⟩ ?_
  refine AOps.call (fid := 34) (cap := []) (avs := [.ptr 0 0, .func 54 []]) (by kernel_rfl) rfl (by kernel_rfl) (by kernel_rfl) en_34 (by kernel_rfl) (ACalls.mono (run_walk 54 wordS en_54 real1_walk (skipS 1 r).rest (skipS 1 r).line (skipS 1 r).col) ?_)
  rintro _ _ ⟨rfl, rfl⟩
  rw [runF_word]
  refine AOps.call (fid := 33) (cap := []) (avs := [.ptr 0 0, .int .i64 (wordN (skipS 1 r).rest : Int)]) (by kernel_rfl) rfl (by kernel_rfl) (by kernel_rfl) en_33 (by kernel_rfl) (ACalls.mono (skip_rd (skipS 1 r) (wordN (skipS 1 r).rest) (skipS_ok hok (by have := len1 hne; omega)) (wordN_le _)) ?_)
  rintro _ _ ⟨rfl, rfl⟩
  refine AOps.runN hT (fun _ => false) 3 [2, 4] (fr' := ⟨[(2, .loc 0 0), (4, .loc 1 0)], [[.int .i64 0, .str [], .int .u64 0, .int .i64 0, .int .i64 0], [.int .i64 4, .str ([35] ++ ((skipS 1 r).rest.take (wordN (skipS 1 r).rest))), .int .u64 0, .int .i64 r.line, .int .i64 r.col]], [], [], 0⟩) (σ' := [[.str ((skipS (wordN (skipS 1 r).rest) (skipS 1 r)).rest), .int .i64 ((skipS (wordN (skipS 1 r).rest) (skipS 1 r)).line), .int .i64 ((skipS (wordN (skipS 1 r).rest) (skipS 1 r)).col)]]) (ob := (((([35] : List UInt8).length + (((skipS 1 r).rest.take (wordN (skipS 1 r).rest)) : List UInt8).length : Nat) : Int) ≤ 9223372036854775807) ∧ True ∧ True ∧ True) (by kernel_rfl) ⟨(by have h9 := hlen; simp only [realText, skipS, List.length_append, List.length_cons, List.length_nil] at h9 ⊢; omega), trivial, trivial, trivial⟩ ?_
  refine AOps.nil ?_
  refine ACode.seq ?_
  refine ACode.region ?_
  refine AOps.runN hT (fun _ => false) 3 [2, 4, 27] (fr' := ⟨[(2, .loc 0 0), (4, .loc 1 0), (27, .str (([35] ++ ((skipS 1 r).rest.take (wordN (skipS 1 r).rest))).drop 1))], [[.int .i64 0, .str [], .int .u64 0, .int .i64 0, .int .i64 0], [.int .i64 4, .str ([35] ++ ((skipS 1 r).rest.take (wordN (skipS 1 r).rest))), .int .u64 0, .int .i64 r.line, .int .i64 r.col]], [], [], 0⟩) (σ' := [[.str ((skipS (wordN (skipS 1 r).rest) (skipS 1 r)).rest), .int .i64 ((skipS (wordN (skipS 1 r).rest) (skipS 1 r)).line), .int .i64 ((skipS (wordN (skipS 1 r).rest) (skipS 1 r)).col)]]) (ob := True ∧ True ∧ ((0 : Int) ≤ 1 ∧ 1 ≤ ((([35] ++ ((skipS 1 r).rest.take (wordN (skipS 1 r).rest))) : List UInt8).length : Int)) ∧ True) (by kernel_rfl) ⟨trivial, trivial, (by have h9 := hlen; simp only [realText, skipS, List.length_append, List.length_cons, List.length_nil] at h9 ⊢; omega), trivial⟩ ?_
  refine AOps.call (fid := 52) (cap := []) (avs := [.str (([35] ++ ((skipS 1 r).rest.take (wordN (skipS 1 r).rest))).drop 1), .int .i64 16, .int .i64 64]) (by kernel_rfl) rfl (by kernel_rfl) (by kernel_rfl) en_52 (by kernel_rfl) (ACalls.mono (parseUint16 (([35] ++ ((skipS 1 r).rest.take (wordN (skipS 1 r).rest))).drop 1) hlen2 _) ?_)
  rintro _ _ ⟨rfl, (⟨hr, rfl⟩ | ⟨hr, rfl⟩)⟩
  · -- good
    refine AOps.runN hT (fun _ => false) 5 [2, 4, 5, 6] (fr' := ⟨[(2, .loc 0 0), (4, .loc 1 0), (5, .int .u64 ((pu16 (([35] ++ ((skipS 1 r).rest.take (wordN (skipS 1 r).rest))).drop 1)).1)), (6, .nilIface)], [[.int .i64 0, .str [], .int .u64 0, .int .i64 0, .int .i64 0], [.int .i64 4, .str ([35] ++ ((skipS 1 r).rest.take (wordN (skipS 1 r).rest))), .int .u64 0, .int .i64 r.line, .int .i64 r.col]], [], [], 0⟩) (σ' := [[.str ((skipS (wordN (skipS 1 r).rest) (skipS 1 r)).rest), .int .i64 ((skipS (wordN (skipS 1 r).rest) (skipS 1 r)).line), .int .i64 ((skipS (wordN (skipS 1 r).rest) (skipS 1 r)).col)]]) (ob := True ∧ True ∧ True ∧ True ∧ True ∧ True) (by kernel_rfl) ⟨trivial, trivial, trivial, trivial, trivial, trivial⟩ ?_
    refine AOps.nil ?_
    refine ACode.seq ?_
    refine ACode.run hT (fun _ => false) [2, 4, 6] (fr' := ⟨[(2, .loc 0 0), (4, .loc 1 0), (6, .nilIface)], [[.int .i64 0, .str [], .int .u64 0, .int .i64 0, .int .i64 0], [.int .i64 4, .str ([35] ++ ((skipS 1 r).rest.take (wordN (skipS 1 r).rest))), .int .u64 ((pu16 (([35] ++ ((skipS 1 r).rest.take (wordN (skipS 1 r).rest))).drop 1)).1), .int .i64 r.line, .int .i64 r.col]], [], [], 0⟩) (σ' := [[.str ((skipS (wordN (skipS 1 r).rest) (skipS 1 r)).rest), .int .i64 ((skipS (wordN (skipS 1 r).rest) (skipS 1 r)).line), .int .i64 ((skipS (wordN (skipS 1 r).rest) (skipS 1 r)).col)]]) (ob := True ∧ True ∧ True ∧ True) (by kernel_rfl) ⟨trivial, trivial, trivial, trivial⟩ ?_
    refine ACode.seq ?_
    refine ACode.meet ⟨[(2, .loc 0 0), (3, .bool ((((([35] ++ ((skipS 1 r).rest.take (wordN (skipS 1 r).rest))) : List UInt8).length : Int) == 17) && (!(Lib.containsAny ([35] ++ ((skipS 1 r).rest.take (wordN (skipS 1 r).rest))) [65, 66, 67, 68, 69, 70]))))], [[.int .i64 4, .str ([35] ++ ((skipS 1 r).rest.take (wordN (skipS 1 r).rest))), .int .u64 ((pu16 (([35] ++ ((skipS 1 r).rest.take (wordN (skipS 1 r).rest))).drop 1)).1), .int .i64 r.line, .int .i64 r.col], [.int .i64 4, .str ([35] ++ ((skipS 1 r).rest.take (wordN (skipS 1 r).rest))), .int .u64 ((pu16 (([35] ++ ((skipS 1 r).rest.take (wordN (skipS 1 r).rest))).drop 1)).1), .int .i64 r.line, .int .i64 r.col]], [], [], 0⟩ [[.str ((skipS (wordN (skipS 1 r).rest) (skipS 1 r)).rest), .int .i64 ((skipS (wordN (skipS 1 r).rest) (skipS 1 r)).line), .int .i64 ((skipS (wordN (skipS 1 r).rest) (skipS 1 r)).col)]] ?_ ?_
    ·
      refine ACode.draw [(15, 0)] 2 [] 0 (by kernel_rfl) (by kernel_rfl) ?_
      refine AAny.run hT (fun _ => false) (fuel := 7) [0, 1, 2, 3, 4, 5, 6, 7, 8, 9] [2, 4, 33, 42] (fz' := true) (l' := #[true, true, true, true, true, true, true, true, true, true, false, false, false, false, false, false, false]) (fr' := ⟨[(2, .loc 0 0), (4, .loc 1 0), (33, .agg [.int .i64 4, .str ([35] ++ ((skipS 1 r).rest.take (wordN (skipS 1 r).rest))), .int .u64 ((pu16 (([35] ++ ((skipS 1 r).rest.take (wordN (skipS 1 r).rest))).drop 1)).1), .int .i64 r.line, .int .i64 r.col]), (42, .bool (((([35] ++ ((skipS 1 r).rest.take (wordN (skipS 1 r).rest))) : List UInt8).length : Int) == 17))], [[.int .i64 0, .str [], .int .u64 0, .int .i64 0, .int .i64 0], [.int .i64 4, .str ([35] ++ ((skipS 1 r).rest.take (wordN (skipS 1 r).rest))), .int .u64 ((pu16 (([35] ++ ((skipS 1 r).rest.take (wordN (skipS 1 r).rest))).drop 1)).1), .int .i64 r.line, .int .i64 r.col]], [], [], 0⟩) (σ' := [[.str ((skipS (wordN (skipS 1 r).rest) (skipS 1 r)).rest), .int .i64 ((skipS (wordN (skipS 1 r).rest) (skipS 1 r)).line), .int .i64 ((skipS (wordN (skipS 1 r).rest) (skipS 1 r)).col)]]) (ob := True ∧ True ∧ True ∧ True ∧ True ∧ True ∧ True ∧ True ∧ True ∧ True ∧ True) (by kernel_rfl) (by kernel_rfl) ⟨trivial, trivial, trivial, trivial, trivial, trivial, trivial, trivial, trivial, trivial, trivial⟩ ?_
      cases h1 : (((([35] ++ ((skipS 1 r).rest.take (wordN (skipS 1 r).rest))) : List UInt8).length : Int) == 17)
      · -- ((([35] ++ ((skipS 1 r).rest.take (wordN (skipS 1 r).rest))) : List UInt8).length : Int) == 17 is false
        have h1k := ne_of_beq_false h1
        refine AAny.run hT (fun _ => false) (fuel := 0) [10, 11, 12, 13, 14, 15, 16] [2, 3] (fz' := false) (l' := #[true, true, true, true, true, true, true, true, true, true, true, true, true, true, true, true, true]) (fr' := ⟨[(2, .loc 0 0), (3, .bool false)], [[.int .i64 4, .str ([35] ++ ((skipS 1 r).rest.take (wordN (skipS 1 r).rest))), .int .u64 ((pu16 (([35] ++ ((skipS 1 r).rest.take (wordN (skipS 1 r).rest))).drop 1)).1), .int .i64 r.line, .int .i64 r.col], [.int .i64 4, .str ([35] ++ ((skipS 1 r).rest.take (wordN (skipS 1 r).rest))), .int .u64 ((pu16 (([35] ++ ((skipS 1 r).rest.take (wordN (skipS 1 r).rest))).drop 1)).1), .int .i64 r.line, .int .i64 r.col]], [], [], 0⟩) (σ' := [[.str ((skipS (wordN (skipS 1 r).rest) (skipS 1 r)).rest), .int .i64 ((skipS (wordN (skipS 1 r).rest) (skipS 1 r)).line), .int .i64 ((skipS (wordN (skipS 1 r).rest) (skipS 1 r)).col)]]) (ob := True ∧ True ∧ True ∧ True ∧ True ∧ True ∧ True ∧ True) (by kernel_rfl) (by kernel_rfl) ⟨trivial, trivial, trivial, trivial, trivial, trivial, trivial, trivial⟩ ?_
        refine AAny.done (by kernel_rfl) ?_
        exact ⟨rfl, rfl⟩
      · -- ((([35] ++ ((skipS 1 r).rest.take (wordN (skipS 1 r).rest))) : List UInt8).length : Int) == 17 is true
        have h1k := eq_of_beq h1
        refine AAny.run hT (fun _ => false) (fuel := 5) [10, 11] [2, 33, 42, 44] (fz' := true) (l' := #[true, true, true, true, true, true, true, true, true, true, true, true, false, false, false, false, false]) (fr' := ⟨[(2, .loc 0 0), (33, .agg [.int .i64 4, .str ([35] ++ ((skipS 1 r).rest.take (wordN (skipS 1 r).rest))), .int .u64 ((pu16 (([35] ++ ((skipS 1 r).rest.take (wordN (skipS 1 r).rest))).drop 1)).1), .int .i64 r.line, .int .i64 r.col]), (42, .bool true), (44, .str ([35] ++ ((skipS 1 r).rest.take (wordN (skipS 1 r).rest))))], [[.int .i64 0, .str [], .int .u64 0, .int .i64 0, .int .i64 0], [.int .i64 4, .str ([35] ++ ((skipS 1 r).rest.take (wordN (skipS 1 r).rest))), .int .u64 ((pu16 (([35] ++ ((skipS 1 r).rest.take (wordN (skipS 1 r).rest))).drop 1)).1), .int .i64 r.line, .int .i64 r.col]], [], [], 0⟩) (σ' := [[.str ((skipS (wordN (skipS 1 r).rest) (skipS 1 r)).rest), .int .i64 ((skipS (wordN (skipS 1 r).rest) (skipS 1 r)).line), .int .i64 ((skipS (wordN (skipS 1 r).rest) (skipS 1 r)).col)]]) (ob := True ∧ True ∧ True) (by kernel_rfl) (by kernel_rfl) ⟨trivial, trivial, trivial⟩ ?_
        refine AAny.call (fuel := 4) (i := 12) (fid := 55) (cap := []) (avs := [.str ([35] ++ ((skipS 1 r).rest.take (wordN (skipS 1 r).rest))), .str [65, 66, 67, 68, 69, 70]]) rfl (by kernel_rfl) (by kernel_rfl) (by kernel_rfl) (by kernel_rfl) rfl (by kernel_rfl) en_55 (by kernel_rfl) (ACalls.mono (containsAny_walk ([35] ++ ((skipS 1 r).rest.take (wordN (skipS 1 r).rest))) [65, 66, 67, 68, 69, 70] (by omega) (by decide) (realText_ascii r) abc_ascii _) ?_) (by kernel_rfl)
        rintro _ _ ⟨rfl, rfl⟩
        refine AAny.run hT (fun _ => false) (fuel := 0) [13, 14, 15, 16] [2, 3] (fz' := false) (l' := #[true, true, true, true, true, true, true, true, true, true, true, true, true, true, true, true, true]) (fr' := ⟨[(2, .loc 0 0), (3, .bool (!(Lib.containsAny ([35] ++ ((skipS 1 r).rest.take (wordN (skipS 1 r).rest))) [65, 66, 67, 68, 69, 70])))], [[.int .i64 4, .str ([35] ++ ((skipS 1 r).rest.take (wordN (skipS 1 r).rest))), .int .u64 ((pu16 (([35] ++ ((skipS 1 r).rest.take (wordN (skipS 1 r).rest))).drop 1)).1), .int .i64 r.line, .int .i64 r.col], [.int .i64 4, .str ([35] ++ ((skipS 1 r).rest.take (wordN (skipS 1 r).rest))), .int .u64 ((pu16 (([35] ++ ((skipS 1 r).rest.take (wordN (skipS 1 r).rest))).drop 1)).1), .int .i64 r.line, .int .i64 r.col]], [], [], 0⟩) (σ' := [[.str ((skipS (wordN (skipS 1 r).rest) (skipS 1 r)).rest), .int .i64 ((skipS (wordN (skipS 1 r).rest) (skipS 1 r)).line), .int .i64 ((skipS (wordN (skipS 1 r).rest) (skipS 1 r)).col)]]) (ob := True ∧ True ∧ True ∧ True ∧ True) (by kernel_rfl) (by kernel_rfl) ⟨trivial, trivial, trivial, trivial, trivial⟩ ?_
        refine AAny.done (by kernel_rfl) ?_
        exact ⟨rfl, rfl⟩
    -- on
    refine ACode.ret ?_
    refine retQ.ret (.tuple [.agg [.int .i64 4, .str ([35] ++ ((skipS 1 r).rest.take (wordN (skipS 1 r).rest))), .int .u64 ((pu16 (([35] ++ ((skipS 1 r).rest.take (wordN (skipS 1 r).rest))).drop 1)).1), .int .i64 r.line, .int .i64 r.col], .bool ((((([35] ++ ((skipS 1 r).rest.take (wordN (skipS 1 r).rest))) : List UInt8).length : Int) == 17) && (!(Lib.containsAny ([35] ++ ((skipS 1 r).rest.take (wordN (skipS 1 r).rest))) [65, 66, 67, 68, 69, 70])))]) (by kernel_rfl) ?_
    refine ⟨rfl, ?_⟩
    have hr : (pu16 ((realText r).drop 1)).2 = true := hr
    simp only [realT, hr, Bool.true_and, Bool.false_and]
    rfl
  · -- bad
    refine AOps.runN hT (fun _ => false) 5 [2, 4, 5, 6] (fr' := ⟨[(2, .loc 0 0), (4, .loc 1 0), (5, .int .u64 ((pu16 (([35] ++ ((skipS 1 r).rest.take (wordN (skipS 1 r).rest))).drop 1)).1)), (6, .iface 118 (.any))], [[.int .i64 0, .str [], .int .u64 0, .int .i64 0, .int .i64 0], [.int .i64 4, .str ([35] ++ ((skipS 1 r).rest.take (wordN (skipS 1 r).rest))), .int .u64 0, .int .i64 r.line, .int .i64 r.col]], [], [], 0⟩) (σ' := [[.str ((skipS (wordN (skipS 1 r).rest) (skipS 1 r)).rest), .int .i64 ((skipS (wordN (skipS 1 r).rest) (skipS 1 r)).line), .int .i64 ((skipS (wordN (skipS 1 r).rest) (skipS 1 r)).col)]]) (ob := True ∧ True ∧ True ∧ True ∧ True ∧ True) (by kernel_rfl) ⟨trivial, trivial, trivial, trivial, trivial, trivial⟩ ?_
    refine AOps.nil ?_
    refine ACode.seq ?_
    refine ACode.run hT (fun _ => false) [2, 4, 6] (fr' := ⟨[(2, .loc 0 0), (4, .loc 1 0), (6, .iface 118 (.any))], [[.int .i64 0, .str [], .int .u64 0, .int .i64 0, .int .i64 0], [.int .i64 4, .str ([35] ++ ((skipS 1 r).rest.take (wordN (skipS 1 r).rest))), .int .u64 ((pu16 (([35] ++ ((skipS 1 r).rest.take (wordN (skipS 1 r).rest))).drop 1)).1), .int .i64 r.line, .int .i64 r.col]], [], [], 0⟩) (σ' := [[.str ((skipS (wordN (skipS 1 r).rest) (skipS 1 r)).rest), .int .i64 ((skipS (wordN (skipS 1 r).rest) (skipS 1 r)).line), .int .i64 ((skipS (wordN (skipS 1 r).rest) (skipS 1 r)).col)]]) (ob := True ∧ True ∧ True ∧ True) (by kernel_rfl) ⟨trivial, trivial, trivial, trivial⟩ ?_
    refine ACode.seq ?_
    refine ACode.draw [(15, 0)] 2 [] 0 (by kernel_rfl) (by kernel_rfl) ?_
    refine AAny.run hT (fun _ => false) (fuel := 0) [0, 1, 2, 3, 4, 5, 6, 7, 8, 9, 10, 11, 12, 13, 14, 15, 16] [2, 3] (fz' := false) (l' := #[true, true, true, true, true, true, true, true, true, true, true, true, true, true, true, true, true]) (fr' := ⟨[(2, .loc 0 0), (3, .bool false)], [[.int .i64 4, .str ([35] ++ ((skipS 1 r).rest.take (wordN (skipS 1 r).rest))), .int .u64 ((pu16 (([35] ++ ((skipS 1 r).rest.take (wordN (skipS 1 r).rest))).drop 1)).1), .int .i64 r.line, .int .i64 r.col], [.int .i64 4, .str ([35] ++ ((skipS 1 r).rest.take (wordN (skipS 1 r).rest))), .int .u64 ((pu16 (([35] ++ ((skipS 1 r).rest.take (wordN (skipS 1 r).rest))).drop 1)).1), .int .i64 r.line, .int .i64 r.col]], [], [], 0⟩) (σ' := [[.str ((skipS (wordN (skipS 1 r).rest) (skipS 1 r)).rest), .int .i64 ((skipS (wordN (skipS 1 r).rest) (skipS 1 r)).line), .int .i64 ((skipS (wordN (skipS 1 r).rest) (skipS 1 r)).col)]]) (ob := True ∧ True ∧ True ∧ True ∧ True ∧ True ∧ True ∧ True ∧ True ∧ True ∧ True ∧ True ∧ True ∧ True ∧ True ∧ True ∧ True ∧ True) (by kernel_rfl) (by kernel_rfl) ⟨trivial, trivial, trivial, trivial, trivial, trivial, trivial, trivial, trivial, trivial, trivial, trivial, trivial, trivial, trivial, trivial, trivial, trivial⟩ ?_
    refine AAny.done (by kernel_rfl) ?_
    refine ACode.ret ?_
    refine retQ.ret (.tuple [.agg [.int .i64 4, .str ([35] ++ ((skipS 1 r).rest.take (wordN (skipS 1 r).rest))), .int .u64 ((pu16 (([35] ++ ((skipS 1 r).rest.take (wordN (skipS 1 r).rest))).drop 1)).1), .int .i64 r.line, .int .i64 r.col], .bool false]) (by kernel_rfl) ?_
    refine ⟨rfl, ?_⟩
    have hr : (pu16 ((realText r).drop 1)).2 = false := hr
    simp only [realT, hr, Bool.true_and, Bool.false_and]
    rfl
theorem sign_walk (r : Rd) (hok : RdOK r) (hne : r.rest ≠ []) : ACalls Tryd.prog 39 [.ptr 0 0] [[.str r.rest, .int .i64 r.line, .int .i64 r.col]] (fun e s => s = [rdAV (signR r)] ∧ e = .ret (.tuple [.agg (tokAV (signT r).1), .bool (signT r).2])) := by
  refine ACalls.enter hT Tryd.func39 rfl (by kernel_rfl) ?_
  refine ACode.seq ?_
  refine ACode.run hT (fun _ => false) [0, 2] (fr' := ⟨[(0, .ptr 0 0), (2, .loc 0 0)], [[.int .i64 0, .str [], .int .u64 0, .int .i64 0, .int .i64 0]], [], [], 0⟩) (σ' := [[.str r.rest, .int .i64 r.line, .int .i64 r.col]]) (ob := True ∧ True ∧ True) (by kernel_rfl) ⟨trivial, trivial, trivial⟩ ?_
  refine ACode.seq ?_
  refine ACode.draw [(10, 1)] 1 [] 1 (by kernel_rfl) (by kernel_rfl) ?_
  refine AAny.run hT (fun _ => false) (fuel := 0) [0, 1, 2, 3, 4, 5, 6, 7, 8, 9, 10] [0, 2, 4] (fz' := false) (l' := #[true, true, true, true, true, true, true, true, true, true, true]) (fr' := ⟨[(0, .ptr 0 0), (2, .loc 0 0), (4, .loc 1 0)], [[.int .i64 0, .str [], .int .u64 0, .int .i64 0, .int .i64 0], [.int .i64 5, .str [], .int .u64 0, .int .i64 r.line, .int .i64 r.col]], [], [], 0⟩) (σ' := [[.str r.rest, .int .i64 r.line, .int .i64 r.col]]) (ob := True ∧ True ∧ True ∧ True ∧ True ∧ True ∧ True ∧ True ∧ True ∧ True ∧ True ∧ True) (by kernel_rfl) (by kernel_rfl) ⟨trivial, trivial, trivial, trivial, trivial, trivial, trivial, trivial, trivial, trivial, trivial, trivial⟩ ?_
  refine AAny.done (by kernel_rfl) ?_
  refine ACode.seq ?_
  refine ACode.seq ?_
  refine ACode.run hT (fun _ => false) [0, 2, 4, 16, 17] (fr' := ⟨[(0, .ptr 0 0), (2, .loc 0 0), (4, .loc 1 0), (16, .agg [.str [61, 61], .str [33, 61], .str [60, 61]]), (17, .int .i64 0)], [[.int .i64 0, .str [], .int .u64 0, .int .i64 0, .int .i64 0], [.int .i64 5, .str [], .int .u64 0, .int .i64 r.line, .int .i64 r.col]], [], [], 0⟩) (σ' := [[.str r.rest, .int .i64 r.line, .int .i64 r.col]]) (ob := True ∧ True ∧ True) (by kernel_rfl) ⟨trivial, trivial, trivial⟩ ?_
  refine ACode.block ?_
  refine ACode.loop [0, 2, 4, 16, 17] 2 0 (fun n0 fr σ' => (fr = ⟨[(0, .ptr 0 0), (2, .loc 0 0), (4, .loc 1 0), (16, .agg [.str [61, 61], .str [33, 61], .str [60, 61]]), (17, .int .i64 0)], [[.int .i64 0, .str [], .int .u64 0, .int .i64 0, .int .i64 0], [.int .i64 5, .str [], .int .u64 0, .int .i64 r.line, .int .i64 r.col]], [], [], 0⟩ ∧ σ' = [[.str r.rest, .int .i64 r.line, .int .i64 r.col]] ∧ (True) ∧ n0 = 4) ∨ (fr = ⟨[(0, .ptr 0 0), (2, .loc 0 0), (4, .loc 1 0), (16, .agg [.str [61, 61], .str [33, 61], .str [60, 61]]), (17, .int .i64 1)], [[.int .i64 0, .str [], .int .u64 0, .int .i64 0, .int .i64 0], [.int .i64 5, .str [], .int .u64 0, .int .i64 r.line, .int .i64 r.col]], [], [], 0⟩ ∧ σ' = [[.str r.rest, .int .i64 r.line, .int .i64 r.col]] ∧ ([61, 61].isPrefixOf r.rest = false) ∧ n0 = 3) ∨ (fr = ⟨[(0, .ptr 0 0), (2, .loc 0 0), (4, .loc 1 0), (16, .agg [.str [61, 61], .str [33, 61], .str [60, 61]]), (17, .int .i64 2)], [[.int .i64 0, .str [], .int .u64 0, .int .i64 0, .int .i64 0], [.int .i64 5, .str [], .int .u64 0, .int .i64 r.line, .int .i64 r.col]], [], [], 0⟩ ∧ σ' = [[.str r.rest, .int .i64 r.line, .int .i64 r.col]] ∧ ([61, 61].isPrefixOf r.rest = false ∧ [33, 61].isPrefixOf r.rest = false) ∧ n0 = 2) ∨ (fr = ⟨[(0, .ptr 0 0), (2, .loc 0 0), (4, .loc 1 0), (16, .agg [.str [61, 61], .str [33, 61], .str [60, 61]]), (17, .int .i64 3)], [[.int .i64 0, .str [], .int .u64 0, .int .i64 0, .int .i64 0], [.int .i64 5, .str [], .int .u64 0, .int .i64 r.line, .int .i64 r.col]], [], [], 0⟩ ∧ σ' = [[.str r.rest, .int .i64 r.line, .int .i64 r.col]] ∧ ([61, 61].isPrefixOf r.rest = false ∧ [33, 61].isPrefixOf r.rest = false ∧ [60, 61].isPrefixOf r.rest = false) ∧ n0 = 1)) _ (by kernel_rfl) (.inl ⟨rfl, rfl, trivial, rfl⟩) ?_
  rintro n0 fr σ' (⟨rfl, rfl, _, rfl⟩ | ⟨rfl, rfl, q1, rfl⟩ | ⟨rfl, rfl, ⟨q1, q2⟩, rfl⟩ | ⟨rfl, rfl, ⟨q1, q2, q3⟩, rfl⟩)
  · -- round 0
    refine ACode.seq ?_
    refine ACode.run hT (fun _ => false) [0, 2, 4, 16, 17, 18] (fr' := ⟨[(0, .ptr 0 0), (2, .loc 0 0), (4, .loc 1 0), (16, .agg [.str [61, 61], .str [33, 61], .str [60, 61]]), (17, .int .i64 0), (18, .bool true)], [[.int .i64 0, .str [], .int .u64 0, .int .i64 0, .int .i64 0], [.int .i64 5, .str [], .int .u64 0, .int .i64 r.line, .int .i64 r.col]], [], [], 0⟩) (σ' := [[.str r.rest, .int .i64 r.line, .int .i64 r.col]]) (ob := True ∧ True) (by kernel_rfl) ⟨trivial, trivial⟩ ?_
    refine ACode.seq ?_
    refine ACode.cond (t := true) (by kernel_rfl) (fun _ => ?_) (fun h => Bool.noConfusion h)
    refine ACode.skip ?_
    refine ACode.seq ?_
    refine ACode.block ?_
    refine ACode.seq ?_
    refine ACode.run hT (fun _ => false) [0, 2, 4, 6, 16, 17] (fr' := ⟨[(0, .ptr 0 0), (2, .loc 0 0), (4, .loc 1 0), (6, .str [61, 61]), (16, .agg [.str [61, 61], .str [33, 61], .str [60, 61]]), (17, .int .i64 0)], [[.int .i64 0, .str [], .int .u64 0, .int .i64 0, .int .i64 0], [.int .i64 5, .str [], .int .u64 0, .int .i64 r.line, .int .i64 r.col]], [], [], 0⟩) (σ' := [[.str r.rest, .int .i64 r.line, .int .i64 r.col]]) (ob := (0 ≤ (0 : Int) ∧ (0 : Int) < 3) ∧ True ∧ True) (by kernel_rfl) ⟨(by first | omega | (have := len1 hne; omega)), trivial, trivial⟩ ?_
    refine ACode.seq ?_
    refine ACode.region ?_
    refine AOps.runN hT (fun _ => false) 5 [0, 2, 4, 16, 17, 23, 24] (fr' := ⟨[(0, .ptr 0 0), (2, .loc 0 0), (4, .loc 1 0), (16, .agg [.str [61, 61], .str [33, 61], .str [60, 61]]), (17, .int .i64 0), (23, .str r.rest), (24, .str [61, 61])], [[.int .i64 0, .str [], .int .u64 0, .int .i64 0, .int .i64 0], [.int .i64 5, .str [], .int .u64 0, .int .i64 r.line, .int .i64 r.col]], [], [], 0⟩) (σ' := [[.str r.rest, .int .i64 r.line, .int .i64 r.col]]) (ob := True ∧ True ∧ True ∧ True ∧ True ∧ True) (by kernel_rfl) ⟨trivial, trivial, trivial, trivial, trivial, trivial⟩ ?_
    refine AOps.call (fid := 32) (cap := []) (avs := [.str r.rest, .str [61, 61]]) (by kernel_rfl) rfl (by kernel_rfl) (by kernel_rfl) en_32 (by kernel_rfl) (ACalls.mono (hasPrefix_walk r.rest [61, 61] _) ?_)
    rintro _ _ ⟨rfl, rfl⟩
    refine AOps.nil ?_
    refine ACode.cond (t := [61, 61].isPrefixOf r.rest) (by kernel_rfl) (fun h1 => ?_) (fun h1 => ?_)
    · -- true
      skip
      refine ACode.seq ?_
      refine ACode.region ?_
      refine AOps.runN hT (fun _ => false) 1 [2, 4, 26] (fr' := ⟨[(2, .loc 0 0), (4, .loc 1 0), (26, .ptr 0 0)], [[.int .i64 0, .str [], .int .u64 0, .int .i64 0, .int .i64 0], [.int .i64 5, .str [], .int .u64 0, .int .i64 r.line, .int .i64 r.col]], [], [], 0⟩) (σ' := [[.str r.rest, .int .i64 r.line, .int .i64 r.col]]) (ob := True ∧ True) (by kernel_rfl) ⟨trivial, trivial⟩ ?_
      refine AOps.call (fid := 33) (cap := []) (avs := [.ptr 0 0, .int .i64 2]) (by kernel_rfl) rfl (by kernel_rfl) (by kernel_rfl) en_33 (by kernel_rfl) (ACalls.mono (skip_rd r 2 hok (len2 h1)) ?_)
      rintro _ _ ⟨rfl, rfl⟩
      refine AOps.runN hT (fun _ => false) 2 [2, 4] (fr' := ⟨[(2, .loc 0 0), (4, .loc 1 0)], [[.int .i64 0, .str [], .int .u64 0, .int .i64 0, .int .i64 0], [.int .i64 5, .str (r.rest.take 2), .int .u64 0, .int .i64 r.line, .int .i64 r.col]], [], [], 0⟩) (σ' := [[.str ((skipS 2 r).rest), .int .i64 ((skipS 2 r).line), .int .i64 ((skipS 2 r).col)]]) (ob := True ∧ True ∧ True) (by kernel_rfl) ⟨trivial, trivial, trivial⟩ ?_
      refine AOps.nil ?_
      refine ACode.seq ?_
      refine ACode.run hT (fun _ => false) [2, 3] (fr' := ⟨[(2, .loc 0 0), (3, .bool true)], [[.int .i64 5, .str (r.rest.take 2), .int .u64 0, .int .i64 r.line, .int .i64 r.col], [.int .i64 5, .str (r.rest.take 2), .int .u64 0, .int .i64 r.line, .int .i64 r.col]], [], [], 0⟩) (σ' := [[.str ((skipS 2 r).rest), .int .i64 ((skipS 2 r).line), .int .i64 ((skipS 2 r).col)]]) (ob := True ∧ True ∧ True ∧ True) (by kernel_rfl) ⟨trivial, trivial, trivial, trivial⟩ ?_
      refine ACode.ret ?_
      refine retQ.ret (.tuple [.agg [.int .i64 5, .str (r.rest.take 2), .int .u64 0, .int .i64 r.line, .int .i64 r.col], .bool true]) (by kernel_rfl) ?_
      have e9 : twoB r.rest = true := by simp only [twoB, h1, Bool.true_or, Bool.or_true, Bool.false_or]
      refine ⟨by simp only [signR, e9, if_true]; rfl, ?_⟩
      simp only [signT, e9, if_true]
      rfl
    · -- false
      skip
      refine ACode.skip ?_
      refine ACode.run hT (fun _ => false) [0, 2, 4, 16, 17] (fr' := ⟨[(0, .ptr 0 0), (2, .loc 0 0), (4, .loc 1 0), (16, .agg [.str [61, 61], .str [33, 61], .str [60, 61]]), (17, .int .i64 1)], [[.int .i64 0, .str [], .int .u64 0, .int .i64 0, .int .i64 0], [.int .i64 5, .str [], .int .u64 0, .int .i64 r.line, .int .i64 r.col]], [], [], 0⟩) (σ' := [[.str r.rest, .int .i64 r.line, .int .i64 r.col]]) (ob := True ∧ True ∧ True) (by kernel_rfl) ⟨trivial, trivial, trivial⟩ ?_
      refine ⟨by kernel_rfl, _, ?_, (.inr (.inl ⟨rfl, rfl, ?_, rfl⟩))⟩
      · omega
      · exact h1
  · -- round 1
    refine ACode.seq ?_
    refine ACode.run hT (fun _ => false) [0, 2, 4, 16, 17, 18] (fr' := ⟨[(0, .ptr 0 0), (2, .loc 0 0), (4, .loc 1 0), (16, .agg [.str [61, 61], .str [33, 61], .str [60, 61]]), (17, .int .i64 1), (18, .bool true)], [[.int .i64 0, .str [], .int .u64 0, .int .i64 0, .int .i64 0], [.int .i64 5, .str [], .int .u64 0, .int .i64 r.line, .int .i64 r.col]], [], [], 0⟩) (σ' := [[.str r.rest, .int .i64 r.line, .int .i64 r.col]]) (ob := True ∧ True) (by kernel_rfl) ⟨trivial, trivial⟩ ?_
    refine ACode.seq ?_
    refine ACode.cond (t := true) (by kernel_rfl) (fun _ => ?_) (fun h => Bool.noConfusion h)
    refine ACode.skip ?_
    refine ACode.seq ?_
    refine ACode.block ?_
    refine ACode.seq ?_
    refine ACode.run hT (fun _ => false) [0, 2, 4, 6, 16, 17] (fr' := ⟨[(0, .ptr 0 0), (2, .loc 0 0), (4, .loc 1 0), (6, .str [33, 61]), (16, .agg [.str [61, 61], .str [33, 61], .str [60, 61]]), (17, .int .i64 1)], [[.int .i64 0, .str [], .int .u64 0, .int .i64 0, .int .i64 0], [.int .i64 5, .str [], .int .u64 0, .int .i64 r.line, .int .i64 r.col]], [], [], 0⟩) (σ' := [[.str r.rest, .int .i64 r.line, .int .i64 r.col]]) (ob := (0 ≤ (1 : Int) ∧ (1 : Int) < 3) ∧ True ∧ True) (by kernel_rfl) ⟨(by first | omega | (have := len1 hne; omega)), trivial, trivial⟩ ?_
    refine ACode.seq ?_
    refine ACode.region ?_
    refine AOps.runN hT (fun _ => false) 5 [0, 2, 4, 16, 17, 23, 24] (fr' := ⟨[(0, .ptr 0 0), (2, .loc 0 0), (4, .loc 1 0), (16, .agg [.str [61, 61], .str [33, 61], .str [60, 61]]), (17, .int .i64 1), (23, .str r.rest), (24, .str [33, 61])], [[.int .i64 0, .str [], .int .u64 0, .int .i64 0, .int .i64 0], [.int .i64 5, .str [], .int .u64 0, .int .i64 r.line, .int .i64 r.col]], [], [], 0⟩) (σ' := [[.str r.rest, .int .i64 r.line, .int .i64 r.col]]) (ob := True ∧ True ∧ True ∧ True ∧ True ∧ True) (by kernel_rfl) ⟨trivial, trivial, trivial, trivial, trivial, trivial⟩ ?_
    refine AOps.call (fid := 32) (cap := []) (avs := [.str r.rest, .str [33, 61]]) (by kernel_rfl) rfl (by kernel_rfl) (by kernel_rfl) en_32 (by kernel_rfl) (ACalls.mono (hasPrefix_walk r.rest [33, 61] _) ?_)
    rintro _ _ ⟨rfl, rfl⟩
    refine AOps.nil ?_
    refine ACode.cond (t := [33, 61].isPrefixOf r.rest) (by kernel_rfl) (fun h2 => ?_) (fun h2 => ?_)
    · -- true
      skip
      refine ACode.seq ?_
      refine ACode.region ?_
      refine AOps.runN hT (fun _ => false) 1 [2, 4, 26] (fr' := ⟨[(2, .loc 0 0), (4, .loc 1 0), (26, .ptr 0 0)], [[.int .i64 0, .str [], .int .u64 0, .int .i64 0, .int .i64 0], [.int .i64 5, .str [], .int .u64 0, .int .i64 r.line, .int .i64 r.col]], [], [], 0⟩) (σ' := [[.str r.rest, .int .i64 r.line, .int .i64 r.col]]) (ob := True ∧ True) (by kernel_rfl) ⟨trivial, trivial⟩ ?_
      refine AOps.call (fid := 33) (cap := []) (avs := [.ptr 0 0, .int .i64 2]) (by kernel_rfl) rfl (by kernel_rfl) (by kernel_rfl) en_33 (by kernel_rfl) (ACalls.mono (skip_rd r 2 hok (len2 h2)) ?_)
      rintro _ _ ⟨rfl, rfl⟩
      refine AOps.runN hT (fun _ => false) 2 [2, 4] (fr' := ⟨[(2, .loc 0 0), (4, .loc 1 0)], [[.int .i64 0, .str [], .int .u64 0, .int .i64 0, .int .i64 0], [.int .i64 5, .str (r.rest.take 2), .int .u64 0, .int .i64 r.line, .int .i64 r.col]], [], [], 0⟩) (σ' := [[.str ((skipS 2 r).rest), .int .i64 ((skipS 2 r).line), .int .i64 ((skipS 2 r).col)]]) (ob := True ∧ True ∧ True) (by kernel_rfl) ⟨trivial, trivial, trivial⟩ ?_
      refine AOps.nil ?_
      refine ACode.seq ?_
      refine ACode.run hT (fun _ => false) [2, 3] (fr' := ⟨[(2, .loc 0 0), (3, .bool true)], [[.int .i64 5, .str (r.rest.take 2), .int .u64 0, .int .i64 r.line, .int .i64 r.col], [.int .i64 5, .str (r.rest.take 2), .int .u64 0, .int .i64 r.line, .int .i64 r.col]], [], [], 0⟩) (σ' := [[.str ((skipS 2 r).rest), .int .i64 ((skipS 2 r).line), .int .i64 ((skipS 2 r).col)]]) (ob := True ∧ True ∧ True ∧ True) (by kernel_rfl) ⟨trivial, trivial, trivial, trivial⟩ ?_
      refine ACode.ret ?_
      refine retQ.ret (.tuple [.agg [.int .i64 5, .str (r.rest.take 2), .int .u64 0, .int .i64 r.line, .int .i64 r.col], .bool true]) (by kernel_rfl) ?_
      have e9 : twoB r.rest = true := by simp only [twoB, q1, h2, Bool.true_or, Bool.or_true, Bool.false_or]
      refine ⟨by simp only [signR, e9, if_true]; rfl, ?_⟩
      simp only [signT, e9, if_true]
      rfl
    · -- false
      skip
      refine ACode.skip ?_
      refine ACode.run hT (fun _ => false) [0, 2, 4, 16, 17] (fr' := ⟨[(0, .ptr 0 0), (2, .loc 0 0), (4, .loc 1 0), (16, .agg [.str [61, 61], .str [33, 61], .str [60, 61]]), (17, .int .i64 2)], [[.int .i64 0, .str [], .int .u64 0, .int .i64 0, .int .i64 0], [.int .i64 5, .str [], .int .u64 0, .int .i64 r.line, .int .i64 r.col]], [], [], 0⟩) (σ' := [[.str r.rest, .int .i64 r.line, .int .i64 r.col]]) (ob := True ∧ True ∧ True) (by kernel_rfl) ⟨trivial, trivial, trivial⟩ ?_
      refine ⟨by kernel_rfl, _, ?_, (.inr (.inr (.inl ⟨rfl, rfl, ?_, rfl⟩)))⟩
      · omega
      · exact ⟨q1, h2⟩
  · -- round 2
    refine ACode.seq ?_
    refine ACode.run hT (fun _ => false) [0, 2, 4, 16, 17, 18] (fr' := ⟨[(0, .ptr 0 0), (2, .loc 0 0), (4, .loc 1 0), (16, .agg [.str [61, 61], .str [33, 61], .str [60, 61]]), (17, .int .i64 2), (18, .bool true)], [[.int .i64 0, .str [], .int .u64 0, .int .i64 0, .int .i64 0], [.int .i64 5, .str [], .int .u64 0, .int .i64 r.line, .int .i64 r.col]], [], [], 0⟩) (σ' := [[.str r.rest, .int .i64 r.line, .int .i64 r.col]]) (ob := True ∧ True) (by kernel_rfl) ⟨trivial, trivial⟩ ?_
    refine ACode.seq ?_
    refine ACode.cond (t := true) (by kernel_rfl) (fun _ => ?_) (fun h => Bool.noConfusion h)
    refine ACode.skip ?_
    refine ACode.seq ?_
    refine ACode.block ?_
    refine ACode.seq ?_
    refine ACode.run hT (fun _ => false) [0, 2, 4, 6, 16, 17] (fr' := ⟨[(0, .ptr 0 0), (2, .loc 0 0), (4, .loc 1 0), (6, .str [60, 61]), (16, .agg [.str [61, 61], .str [33, 61], .str [60, 61]]), (17, .int .i64 2)], [[.int .i64 0, .str [], .int .u64 0, .int .i64 0, .int .i64 0], [.int .i64 5, .str [], .int .u64 0, .int .i64 r.line, .int .i64 r.col]], [], [], 0⟩) (σ' := [[.str r.rest, .int .i64 r.line, .int .i64 r.col]]) (ob := (0 ≤ (2 : Int) ∧ (2 : Int) < 3) ∧ True ∧ True) (by kernel_rfl) ⟨(by first | omega | (have := len1 hne; omega)), trivial, trivial⟩ ?_
    refine ACode.seq ?_
    refine ACode.region ?_
    refine AOps.runN hT (fun _ => false) 5 [0, 2, 4, 16, 17, 23, 24] (fr' := ⟨[(0, .ptr 0 0), (2, .loc 0 0), (4, .loc 1 0), (16, .agg [.str [61, 61], .str [33, 61], .str [60, 61]]), (17, .int .i64 2), (23, .str r.rest), (24, .str [60, 61])], [[.int .i64 0, .str [], .int .u64 0, .int .i64 0, .int .i64 0], [.int .i64 5, .str [], .int .u64 0, .int .i64 r.line, .int .i64 r.col]], [], [], 0⟩) (σ' := [[.str r.rest, .int .i64 r.line, .int .i64 r.col]]) (ob := True ∧ True ∧ True ∧ True ∧ True ∧ True) (by kernel_rfl) ⟨trivial, trivial, trivial, trivial, trivial, trivial⟩ ?_
    refine AOps.call (fid := 32) (cap := []) (avs := [.str r.rest, .str [60, 61]]) (by kernel_rfl) rfl (by kernel_rfl) (by kernel_rfl) en_32 (by kernel_rfl) (ACalls.mono (hasPrefix_walk r.rest [60, 61] _) ?_)
    rintro _ _ ⟨rfl, rfl⟩
    refine AOps.nil ?_
    refine ACode.cond (t := [60, 61].isPrefixOf r.rest) (by kernel_rfl) (fun h3 => ?_) (fun h3 => ?_)
    · -- true
      skip
      refine ACode.seq ?_
      refine ACode.region ?_
      refine AOps.runN hT (fun _ => false) 1 [2, 4, 26] (fr' := ⟨[(2, .loc 0 0), (4, .loc 1 0), (26, .ptr 0 0)], [[.int .i64 0, .str [], .int .u64 0, .int .i64 0, .int .i64 0], [.int .i64 5, .str [], .int .u64 0, .int .i64 r.line, .int .i64 r.col]], [], [], 0⟩) (σ' := [[.str r.rest, .int .i64 r.line, .int .i64 r.col]]) (ob := True ∧ True) (by kernel_rfl) ⟨trivial, trivial⟩ ?_
      refine AOps.call (fid := 33) (cap := []) (avs := [.ptr 0 0, .int .i64 2]) (by kernel_rfl) rfl (by kernel_rfl) (by kernel_rfl) en_33 (by kernel_rfl) (ACalls.mono (skip_rd r 2 hok (len2 h3)) ?_)
      rintro _ _ ⟨rfl, rfl⟩
      refine AOps.runN hT (fun _ => false) 2 [2, 4] (fr' := ⟨[(2, .loc 0 0), (4, .loc 1 0)], [[.int .i64 0, .str [], .int .u64 0, .int .i64 0, .int .i64 0], [.int .i64 5, .str (r.rest.take 2), .int .u64 0, .int .i64 r.line, .int .i64 r.col]], [], [], 0⟩) (σ' := [[.str ((skipS 2 r).rest), .int .i64 ((skipS 2 r).line), .int .i64 ((skipS 2 r).col)]]) (ob := True ∧ True ∧ True) (by kernel_rfl) ⟨trivial, trivial, trivial⟩ ?_
      refine AOps.nil ?_
      refine ACode.seq ?_
      refine ACode.run hT (fun _ => false) [2, 3] (fr' := ⟨[(2, .loc 0 0), (3, .bool true)], [[.int .i64 5, .str (r.rest.take 2), .int .u64 0, .int .i64 r.line, .int .i64 r.col], [.int .i64 5, .str (r.rest.take 2), .int .u64 0, .int .i64 r.line, .int .i64 r.col]], [], [], 0⟩) (σ' := [[.str ((skipS 2 r).rest), .int .i64 ((skipS 2 r).line), .int .i64 ((skipS 2 r).col)]]) (ob := True ∧ True ∧ True ∧ True) (by kernel_rfl) ⟨trivial, trivial, trivial, trivial⟩ ?_
      refine ACode.ret ?_
      refine retQ.ret (.tuple [.agg [.int .i64 5, .str (r.rest.take 2), .int .u64 0, .int .i64 r.line, .int .i64 r.col], .bool true]) (by kernel_rfl) ?_
      have e9 : twoB r.rest = true := by simp only [twoB, q1, q2, h3, Bool.true_or, Bool.or_true, Bool.false_or]
      refine ⟨by simp only [signR, e9, if_true]; rfl, ?_⟩
      simp only [signT, e9, if_true]
      rfl
    · -- false
      skip
      refine ACode.skip ?_
      refine ACode.run hT (fun _ => false) [0, 2, 4, 16, 17] (fr' := ⟨[(0, .ptr 0 0), (2, .loc 0 0), (4, .loc 1 0), (16, .agg [.str [61, 61], .str [33, 61], .str [60, 61]]), (17, .int .i64 3)], [[.int .i64 0, .str [], .int .u64 0, .int .i64 0, .int .i64 0], [.int .i64 5, .str [], .int .u64 0, .int .i64 r.line, .int .i64 r.col]], [], [], 0⟩) (σ' := [[.str r.rest, .int .i64 r.line, .int .i64 r.col]]) (ob := True ∧ True ∧ True) (by kernel_rfl) ⟨trivial, trivial, trivial⟩ ?_
      refine ⟨by kernel_rfl, _, ?_, (.inr (.inr (.inr ⟨rfl, rfl, ?_, rfl⟩)))⟩
      · omega
      · exact ⟨q1, q2, h3⟩
  · -- round 3
    refine ACode.seq ?_
    refine ACode.run hT (fun _ => false) [0, 2, 4, 16, 17, 18] (fr' := ⟨[(0, .ptr 0 0), (2, .loc 0 0), (4, .loc 1 0), (16, .agg [.str [61, 61], .str [33, 61], .str [60, 61]]), (17, .int .i64 3), (18, .bool false)], [[.int .i64 0, .str [], .int .u64 0, .int .i64 0, .int .i64 0], [.int .i64 5, .str [], .int .u64 0, .int .i64 r.line, .int .i64 r.col]], [], [], 0⟩) (σ' := [[.str r.rest, .int .i64 r.line, .int .i64 r.col]]) (ob := True ∧ True) (by kernel_rfl) ⟨trivial, trivial⟩ ?_
    refine ACode.seq ?_
    refine ACode.cond (t := false) (by kernel_rfl) (fun h => Bool.noConfusion h) (fun _ => ?_)
    refine ACode.exit ?_
    refine ACode.seq ?_
    refine ACode.seq ?_
    refine ACode.region ?_
    refine AOps.runN hT (fun _ => false) 5 [0, 2, 4, 35] (fr' := ⟨[(0, .ptr 0 0), (2, .loc 0 0), (4, .loc 1 0), (35, .int .u8 ((r.rest.getD 0 0).toNat : Int))], [[.int .i64 0, .str [], .int .u64 0, .int .i64 0, .int .i64 0], [.int .i64 5, .str [], .int .u64 0, .int .i64 r.line, .int .i64 r.col]], [], [], 0⟩) (σ' := [[.str r.rest, .int .i64 r.line, .int .i64 r.col]]) (ob := True ∧ True ∧ True ∧ True ∧ (0 ≤ (0 : Int) ∧ (0 : Int) < ((r.rest) : List UInt8).length) ∧ True) (by kernel_rfl) ⟨trivial, trivial, trivial, trivial, (by first | omega | (have := len1 hne; omega)), trivial⟩ ?_
    refine AOps.call (fid := 36) (cap := []) (avs := [.str [123, 125, 40, 41, 91, 93, 59, 58, 44, 46, 61, 60, 43, 45, 42, 47, 37], .int .u8 ((r.rest.getD 0 0).toNat : Int)]) (by kernel_rfl) rfl (by kernel_rfl) (by kernel_rfl) en_36 (by kernel_rfl) (ACalls.mono (indexByte_walk [123, 125, 40, 41, 91, 93, 59, 58, 44, 46, 61, 60, 43, 45, 42, 47, 37] ((r.rest.getD 0 0).toNat : Int) _) ?_)
    rintro _ _ ⟨rfl, rfl⟩
    refine AOps.runN hT (fun _ => false) 1 [0, 2, 4, 37] (fr' := ⟨[(0, .ptr 0 0), (2, .loc 0 0), (4, .loc 1 0), (37, .bool (decide ((Lib.indexByte [123, 125, 40, 41, 91, 93, 59, 58, 44, 46, 61, 60, 43, 45, 42, 47, 37] (((r.rest.getD 0 0).toNat : Int) : Int).toNat.toUInt8) < 0)))], [[.int .i64 0, .str [], .int .u64 0, .int .i64 0, .int .i64 0], [.int .i64 5, .str [], .int .u64 0, .int .i64 r.line, .int .i64 r.col]], [], [], 0⟩) (σ' := [[.str r.rest, .int .i64 r.line, .int .i64 r.col]]) (ob := True ∧ True) (by kernel_rfl) ⟨trivial, trivial⟩ ?_
    refine AOps.nil ?_
    refine ACode.cond (t := decide ((Lib.indexByte [123, 125, 40, 41, 91, 93, 59, 58, 44, 46, 61, 60, 43, 45, 42, 47, 37] (((r.rest.getD 0 0).toNat : Int) : Int).toNat.toUInt8) < 0)) (by kernel_rfl) (fun h4 => ?_) (fun h4 => ?_)
    · -- true
      have h4k := of_decide_eq_true h4
      refine ACode.seq ?_
      refine ACode.run hT (fun _ => false) [2, 3] (fr' := ⟨[(2, .loc 0 0), (3, .bool false)], [[.int .i64 5, .str [], .int .u64 0, .int .i64 r.line, .int .i64 r.col], [.int .i64 5, .str [], .int .u64 0, .int .i64 r.line, .int .i64 r.col]], [], [], 0⟩) (σ' := [[.str r.rest, .int .i64 r.line, .int .i64 r.col]]) (ob := True ∧ True ∧ True ∧ True) (by kernel_rfl) ⟨trivial, trivial, trivial, trivial⟩ ?_
      refine ACode.ret ?_
      refine retQ.ret (.tuple [.agg [.int .i64 5, .str [], .int .u64 0, .int .i64 r.line, .int .i64 r.col], .bool false]) (by kernel_rfl) ?_
      have e9 : twoB r.rest = false := by simp only [twoB, q1, q2, q3, Bool.or_false]
      have e8 : signB (r.rest.getD 0 0) = false := by rw [u8_back] at h4; simp only [signB, h4, Bool.not_true, Bool.not_false]
      refine ⟨by simp only [signR, e9, e8, Bool.false_eq_true, if_false]; rfl, ?_⟩
      simp only [signT, e9, e8, Bool.false_eq_true, if_false]
      rfl
    · -- false
      have h4k := of_decide_eq_false h4
      refine ACode.skip ?_
      refine ACode.seq ?_
      refine ACode.region ?_
      refine AOps.runN hT (fun _ => false) 1 [2, 4, 39] (fr' := ⟨[(2, .loc 0 0), (4, .loc 1 0), (39, .ptr 0 0)], [[.int .i64 0, .str [], .int .u64 0, .int .i64 0, .int .i64 0], [.int .i64 5, .str [], .int .u64 0, .int .i64 r.line, .int .i64 r.col]], [], [], 0⟩) (σ' := [[.str r.rest, .int .i64 r.line, .int .i64 r.col]]) (ob := True ∧ True) (by kernel_rfl) ⟨trivial, trivial⟩ ?_
      refine AOps.call (fid := 33) (cap := []) (avs := [.ptr 0 0, .int .i64 1]) (by kernel_rfl) rfl (by kernel_rfl) (by kernel_rfl) en_33 (by kernel_rfl) (ACalls.mono (skip_rd r 1 hok (len1 hne)) ?_)
      rintro _ _ ⟨rfl, rfl⟩
      refine AOps.runN hT (fun _ => false) 2 [2, 4] (fr' := ⟨[(2, .loc 0 0), (4, .loc 1 0)], [[.int .i64 0, .str [], .int .u64 0, .int .i64 0, .int .i64 0], [.int .i64 5, .str (r.rest.take 1), .int .u64 0, .int .i64 r.line, .int .i64 r.col]], [], [], 0⟩) (σ' := [[.str ((skipS 1 r).rest), .int .i64 ((skipS 1 r).line), .int .i64 ((skipS 1 r).col)]]) (ob := True ∧ True ∧ True) (by kernel_rfl) ⟨trivial, trivial, trivial⟩ ?_
      refine AOps.nil ?_
      refine ACode.seq ?_
      refine ACode.run hT (fun _ => false) [2, 3] (fr' := ⟨[(2, .loc 0 0), (3, .bool true)], [[.int .i64 5, .str (r.rest.take 1), .int .u64 0, .int .i64 r.line, .int .i64 r.col], [.int .i64 5, .str (r.rest.take 1), .int .u64 0, .int .i64 r.line, .int .i64 r.col]], [], [], 0⟩) (σ' := [[.str ((skipS 1 r).rest), .int .i64 ((skipS 1 r).line), .int .i64 ((skipS 1 r).col)]]) (ob := True ∧ True ∧ True ∧ True) (by kernel_rfl) ⟨trivial, trivial, trivial, trivial⟩ ?_
      refine ACode.ret ?_
      refine retQ.ret (.tuple [.agg [.int .i64 5, .str (r.rest.take 1), .int .u64 0, .int .i64 r.line, .int .i64 r.col], .bool true]) (by kernel_rfl) ?_
      have e9 : twoB r.rest = false := by simp only [twoB, q1, q2, q3, Bool.or_false]
      have e8 : signB (r.rest.getD 0 0) = true := by rw [u8_back] at h4; simp only [signB, h4, Bool.not_true, Bool.not_false]
      refine ⟨by simp only [signR, e9, e8, if_true, Bool.false_eq_true, if_false]; rfl, ?_⟩
      simp only [signT, e9, e8, if_true, Bool.false_eq_true, if_false]
      rfl

end Go.AE

set_option linter.unusedVariables false
set_option linter.unusedSimpArgs false
set_option maxRecDepth 4000
namespace Go.AE
open Go.Proofs

theorem next_walk (r : Rd) (hok : RdOK r) (hne : r.rest ≠ []) : ACalls Tryd.prog 27 [.ptr 0 0] [[.str r.rest, .int .i64 r.line, .int .i64 r.col]] (fun e s => s = [rdAV (nextR r)] ∧ e = .ret (.tuple [.agg (tokAV (nextT r).1), .bool (nextT r).2])) := by
  refine ACalls.enter hT Tryd.func27 rfl (by kernel_rfl) ?_
  have hb := byte_bd (r.rest.getD 0 0)
  refine ACode.seq ?_
  refine ACode.run hT (fun _ => false) [0, 2] (fr' := ⟨[(0, .ptr 0 0), (2, .loc 0 0)], [[.int .i64 0, .str [], .int .u64 0, .int .i64 0, .int .i64 0]], [], [], 0⟩) (σ' := [[.str r.rest, .int .i64 r.line, .int .i64 r.col]]) (ob := True ∧ True ∧ True) (by kernel_rfl) ⟨trivial, trivial, trivial⟩ ?_
  refine ACode.seq ?_
  refine ACode.region ?_
  refine AOps.runN hT (fun _ => false) 7 [0, 2, 4] (fr' := ⟨[(0, .ptr 0 0), (2, .loc 0 0), (4, .int .i32 (IntKind.i32.wrap (((r.rest.getD 0 0).toNat : Int))))], [[.int .i64 0, .str [], .int .u64 0, .int .i64 0, .int .i64 0]], [], [], 0⟩) (σ' := [[.str r.rest, .int .i64 r.line, .int .i64 r.col]]) (ob := True ∧ True ∧ True ∧ True ∧ (0 ≤ (0 : Int) ∧ (0 : Int) < ((r.rest) : List UInt8).length) ∧ True ∧ True ∧ True) (by kernel_rfl) ⟨trivial, trivial, trivial, trivial, (by have := len1 hne; omega), trivial, trivial, trivial⟩ ?_
  rw [IntWalk.i32_in (((r.rest.getD 0 0).toNat : Int)) (by omega)]
  refine AOps.nil ?_
  refine ACode.seq ?_
  refine ACode.block ?_
  refine ACode.seq ?_
  refine ACode.meet ⟨[(0, .ptr 0 0), (2, .loc 0 0), (4, .int .i32 (((r.rest.getD 0 0).toNat : Int))), (11, .bool ((letterS (((r.rest.getD 0 0).toNat : Int))) || (digitS (((r.rest.getD 0 0).toNat : Int)))))], [[.int .i64 0, .str [], .int .u64 0, .int .i64 0, .int .i64 0]], [], [], 0⟩ [[.str r.rest, .int .i64 r.line, .int .i64 r.col]] (ACode.region ?_) ?_
  ·
    refine AOps.runN hT (fun _ => false) 1 [0, 2, 4, 12] (fr' := ⟨[(0, .ptr 0 0), (2, .loc 0 0), (4, .int .i32 (((r.rest.getD 0 0).toNat : Int))), (12, .int .i32 (((r.rest.getD 0 0).toNat : Int)))], [[.int .i64 0, .str [], .int .u64 0, .int .i64 0, .int .i64 0]], [], [], 0⟩) (σ' := [[.str r.rest, .int .i64 r.line, .int .i64 r.col]]) (ob := True ∧ True) (by kernel_rfl) ⟨trivial, trivial⟩ ?_
    refine AOps.call (fid := 20) (cap := []) (avs := [.int .i32 (((r.rest.getD 0 0).toNat : Int))]) (by kernel_rfl) rfl (by kernel_rfl) (by kernel_rfl) en_20 (by kernel_rfl) (ACalls.mono (letter_walk (((r.rest.getD 0 0).toNat : Int)) _) ?_)
    rintro _ _ ⟨rfl, rfl⟩
    refine AOps.runN hT (fun _ => false) 1 [0, 2, 4, 14] (fr' := ⟨[(0, .ptr 0 0), (2, .loc 0 0), (4, .int .i32 (((r.rest.getD 0 0).toNat : Int))), (14, .bool (letterS (((r.rest.getD 0 0).toNat : Int))))], [[.int .i64 0, .str [], .int .u64 0, .int .i64 0, .int .i64 0]], [], [], 0⟩) (σ' := [[.str r.rest, .int .i64 r.line, .int .i64 r.col]]) (ob := True ∧ True) (by kernel_rfl) ⟨trivial, trivial⟩ ?_
    cases h1 : (letterS (((r.rest.getD 0 0).toNat : Int)))
    · -- letterS (((r.rest.getD 0 0).toNat : Int)) is false
      skip
      refine AOps.runN hT (fun _ => false) 1 [0, 2, 4, 14, 15] (fr' := ⟨[(0, .ptr 0 0), (2, .loc 0 0), (4, .int .i32 (((r.rest.getD 0 0).toNat : Int))), (14, .bool false), (15, .int .i32 (((r.rest.getD 0 0).toNat : Int)))], [[.int .i64 0, .str [], .int .u64 0, .int .i64 0, .int .i64 0]], [], [], 0⟩) (σ' := [[.str r.rest, .int .i64 r.line, .int .i64 r.col]]) (ob := True ∧ True) (by kernel_rfl) ⟨trivial, trivial⟩ ?_
      refine AOps.call (fid := 21) (cap := []) (avs := [.int .i32 (((r.rest.getD 0 0).toNat : Int))]) (by kernel_rfl) rfl (by kernel_rfl) (by kernel_rfl) en_21 (by kernel_rfl) (ACalls.mono (digit_walk (((r.rest.getD 0 0).toNat : Int)) _) ?_)
      rintro _ _ ⟨rfl, rfl⟩
      refine AOps.runN hT (fun _ => false) 2 [0, 2, 4, 11] (fr' := ⟨[(0, .ptr 0 0), (2, .loc 0 0), (4, .int .i32 (((r.rest.getD 0 0).toNat : Int))), (11, .bool (digitS (((r.rest.getD 0 0).toNat : Int))))], [[.int .i64 0, .str [], .int .u64 0, .int .i64 0, .int .i64 0]], [], [], 0⟩) (σ' := [[.str r.rest, .int .i64 r.line, .int .i64 r.col]]) (ob := True ∧ True ∧ True) (by kernel_rfl) ⟨trivial, trivial, trivial⟩ ?_
      refine AOps.weak [0, 2, 4, 11] (AOps.nil ⟨rfl, rfl⟩)
    · -- letterS (((r.rest.getD 0 0).toNat : Int)) is true
      skip
      refine AOps.runN hT (fun _ => false) 4 [0, 2, 4, 11] (fr' := ⟨[(0, .ptr 0 0), (2, .loc 0 0), (4, .int .i32 (((r.rest.getD 0 0).toNat : Int))), (11, .bool true)], [[.int .i64 0, .str [], .int .u64 0, .int .i64 0, .int .i64 0]], [], [], 0⟩) (σ' := [[.str r.rest, .int .i64 r.line, .int .i64 r.col]]) (ob := True ∧ True ∧ True) (by kernel_rfl) ⟨trivial, trivial, trivial⟩ ?_
      refine AOps.weak [0, 2, 4, 11] (AOps.nil ⟨rfl, rfl⟩)
  -- on
  refine ACode.cond (t := (letterS (((r.rest.getD 0 0).toNat : Int))) || (digitS (((r.rest.getD 0 0).toNat : Int)))) (by kernel_rfl) (fun h2 => ?_) (fun h2 => ?_)
  · -- true
    have h2k := h2; simp only [Bool.and_eq_true, Bool.or_eq_true, Bool.and_eq_false_iff, Bool.or_eq_false_iff, decide_eq_true_eq, decide_eq_false_iff_not, beq_iff_eq, bne_iff_ne, ne_eq, Bool.not_eq_true', Bool.not_eq_false', beq_eq_false_iff_ne, bne_eq_false_iff_eq] at h2k
    refine ACode.seq ?_
    refine ACode.region ?_
    refine AOps.runN hT (fun _ => false) 1 [2, 18] (fr' := ⟨[(2, .loc 0 0), (18, .ptr 0 0)], [[.int .i64 0, .str [], .int .u64 0, .int .i64 0, .int .i64 0]], [], [], 0⟩) (σ' := [[.str r.rest, .int .i64 r.line, .int .i64 r.col]]) (ob := True ∧ True) (by kernel_rfl) ⟨trivial, trivial⟩ ?_
    refine AOps.call (fid := 37) (cap := []) (avs := [.ptr 0 0]) (by kernel_rfl) rfl (by kernel_rfl) (by kernel_rfl) en_37 (by kernel_rfl) (ACalls.mono (word_walk r hok) ?_)
    rintro _ _ ⟨rfl, rfl⟩
    refine AOps.runN hT (fun _ => false) 4 [2, 3] (fr' := ⟨[(2, .loc 0 0), (3, .bool ((wordT r).2))], [[.int .i64 ((wordT r).1.kind), .str ((wordT r).1.text), .int .u64 ((wordT r).1.n), .int .i64 ((wordT r).1.line), .int .i64 ((wordT r).1.col)]], [], [], 0⟩) (σ' := [[.str ((skipS (wordN r.rest) r).rest), .int .i64 ((skipS (wordN r.rest) r).line), .int .i64 ((skipS (wordN r.rest) r).col)]]) (ob := True ∧ True ∧ True ∧ True ∧ True) (by kernel_rfl) ⟨trivial, trivial, trivial, trivial, trivial⟩ ?_
    refine AOps.nil ?_
    refine ACode.ret ?_
    refine retQ.ret (.tuple [.agg [.int .i64 ((wordT r).1.kind), .str ((wordT r).1.text), .int .u64 ((wordT r).1.n), .int .i64 ((wordT r).1.line), .int .i64 ((wordT r).1.col)], .bool ((wordT r).2)]) (by kernel_rfl) ?_
    have e9 : wordB (r.rest.getD 0 0) = true := h2
    refine ⟨by simp only [nextR, e9, if_true]; rfl, ?_⟩
    simp only [nextT, e9, if_true]
    rfl
  · -- false
    have h2k := h2; simp only [Bool.and_eq_true, Bool.or_eq_true, Bool.and_eq_false_iff, Bool.or_eq_false_iff, decide_eq_true_eq, decide_eq_false_iff_not, beq_iff_eq, bne_iff_ne, ne_eq, Bool.not_eq_true', Bool.not_eq_false', beq_eq_false_iff_ne, bne_eq_false_iff_eq] at h2k
    refine ACode.seq ?_
    refine ACode.run hT (fun _ => false) [0, 2, 22] (fr' := ⟨[(0, .ptr 0 0), (2, .loc 0 0), (22, .bool ((((r.rest.getD 0 0).toNat : Int)) == 35))], [[.int .i64 0, .str [], .int .u64 0, .int .i64 0, .int .i64 0]], [], [], 0⟩) (σ' := [[.str r.rest, .int .i64 r.line, .int .i64 r.col]]) (ob := True ∧ True ∧ True ∧ True) (by kernel_rfl) ⟨trivial, trivial, trivial, trivial⟩ ?_
    refine ACode.cond (t := (((r.rest.getD 0 0).toNat : Int)) == 35) (by kernel_rfl) (fun h3 => ?_) (fun h3 => ?_)
    · -- true
      have h3k := eq_of_beq h3
      refine ACode.seq ?_
      refine ACode.region ?_
      refine AOps.runN hT (fun _ => false) 1 [2, 25] (fr' := ⟨[(2, .loc 0 0), (25, .ptr 0 0)], [[.int .i64 0, .str [], .int .u64 0, .int .i64 0, .int .i64 0]], [], [], 0⟩) (σ' := [[.str r.rest, .int .i64 r.line, .int .i64 r.col]]) (ob := True ∧ True) (by kernel_rfl) ⟨trivial, trivial⟩ ?_
      refine AOps.call (fid := 38) (cap := []) (avs := [.ptr 0 0]) (by kernel_rfl) rfl (by kernel_rfl) (by kernel_rfl) en_38 (by kernel_rfl) (ACalls.mono (real_walk r hok hne) ?_)
      rintro _ _ ⟨rfl, rfl⟩
      refine AOps.runN hT (fun _ => false) 4 [2, 3] (fr' := ⟨[(2, .loc 0 0), (3, .bool ((realT r).2))], [[.int .i64 ((realT r).1.kind), .str ((realT r).1.text), .int .u64 ((realT r).1.n), .int .i64 ((realT r).1.line), .int .i64 ((realT r).1.col)]], [], [], 0⟩) (σ' := [[.str ((realR r).rest), .int .i64 ((realR r).line), .int .i64 ((realR r).col)]]) (ob := True ∧ True ∧ True ∧ True ∧ True) (by kernel_rfl) ⟨trivial, trivial, trivial, trivial, trivial⟩ ?_
      refine AOps.nil ?_
      refine ACode.ret ?_
      refine retQ.ret (.tuple [.agg [.int .i64 ((realT r).1.kind), .str ((realT r).1.text), .int .u64 ((realT r).1.n), .int .i64 ((realT r).1.line), .int .i64 ((realT r).1.col)], .bool ((realT r).2)]) (by kernel_rfl) ?_
      have e9 : wordB (r.rest.getD 0 0) = false := h2
      have e8 : r.rest.getD 0 0 = 35 := by have := h3k; apply UInt8.toNat_inj.1; have h7 : (35 : UInt8).toNat = 35 := rfl; omega
      refine ⟨by simp only [nextR, e9, e8, if_true, Bool.false_eq_true, if_false]; rfl, ?_⟩
      simp only [nextT, e9, e8, if_true, Bool.false_eq_true, if_false]
      rfl
    · -- false
      have h3k := ne_of_beq_false h3
      refine ACode.skip ?_
      refine ACode.seq ?_
      refine ACode.region ?_
      refine AOps.runN hT (fun _ => false) 1 [2, 29] (fr' := ⟨[(2, .loc 0 0), (29, .ptr 0 0)], [[.int .i64 0, .str [], .int .u64 0, .int .i64 0, .int .i64 0]], [], [], 0⟩) (σ' := [[.str r.rest, .int .i64 r.line, .int .i64 r.col]]) (ob := True ∧ True) (by kernel_rfl) ⟨trivial, trivial⟩ ?_
      refine AOps.call (fid := 39) (cap := []) (avs := [.ptr 0 0]) (by kernel_rfl) rfl (by kernel_rfl) (by kernel_rfl) en_39 (by kernel_rfl) (ACalls.mono (sign_walk r hok hne) ?_)
      rintro _ _ ⟨rfl, rfl⟩
      refine AOps.runN hT (fun _ => false) 4 [2, 3] (fr' := ⟨[(2, .loc 0 0), (3, .bool ((signT r).2))], [[.int .i64 ((signT r).1.kind), .str ((signT r).1.text), .int .u64 ((signT r).1.n), .int .i64 ((signT r).1.line), .int .i64 ((signT r).1.col)]], [], [], 0⟩) (σ' := [[.str ((signR r).rest), .int .i64 ((signR r).line), .int .i64 ((signR r).col)]]) (ob := True ∧ True ∧ True ∧ True ∧ True) (by kernel_rfl) ⟨trivial, trivial, trivial, trivial, trivial⟩ ?_
      refine AOps.nil ?_
      refine ACode.ret ?_
      refine retQ.ret (.tuple [.agg [.int .i64 ((signT r).1.kind), .str ((signT r).1.text), .int .u64 ((signT r).1.n), .int .i64 ((signT r).1.line), .int .i64 ((signT r).1.col)], .bool ((signT r).2)]) (by kernel_rfl) ?_
      have e9 : wordB (r.rest.getD 0 0) = false := h2
      have e8 : ¬ r.rest.getD 0 0 = 35 := by intro h7; have := h3k; rw [h7] at this; exact this rfl
      refine ⟨by simp only [nextR, e9, e8, Bool.false_eq_true, if_false]; rfl, ?_⟩
      simp only [nextT, e9, e8, Bool.false_eq_true, if_false]
      rfl

end Go.AE

set_option linter.unusedVariables false
set_option linter.unusedSimpArgs false
set_option maxRecDepth 4000
namespace Go.AE
open Go.Proofs

theorem lex_walk0 (t : List UInt8)  : ACalls Tryd.prog 15 [.str t] [] (fun e s => ∃ own, own.plain = true ∧ e = .ret (.tuple [.slice (toksAV (lexS t).1) ((lexS t).1.length) own, .agg [.int .i64 ((lexS t).2.1), .int .i64 ((lexS t).2.2.1), .int .i64 ((lexS t).2.2.2)]])) := by
  refine ACalls.enter hT Tryd.func15 rfl (by kernel_rfl) ?_
  refine ACode.seq ?_
  refine ACode.run hT (fun d => match d with | some 14 => true | _ => false) [0, 3] (fr' := ⟨[(0, .str t), (3, .loc 0 0)], [[.int .i64 0, .int .i64 0, .int .i64 0]], [], [], 0⟩) (σ' := []) (ob := True ∧ True ∧ True) (by kernel_rfl) ⟨trivial, trivial, trivial⟩ ?_
  refine ACode.seq ?_
  refine ACode.seq ?_
  refine ACode.run hT (fun d => match d with | some 14 => true | _ => false) [0, 3, 10] (fr' := ⟨[(0, .str t), (3, .loc 0 0), (10, .bool (decide ((((t) : List UInt8).length : Int) > 8192)))], [[.int .i64 0, .int .i64 0, .int .i64 0]], [], [], 0⟩) (σ' := []) (ob := True ∧ True ∧ True ∧ True) (by kernel_rfl) ⟨trivial, trivial, trivial, trivial⟩ ?_
  refine ACode.cond (t := decide ((((t) : List UInt8).length : Int) > 8192)) (by kernel_rfl) (fun h1 => ?_) (fun h1 => ?_)
  · -- true
    have h1k := of_decide_eq_true h1
    refine ACode.seq ?_
    refine ACode.run hT (fun d => match d with | some 14 => true | _ => false) [2, 3] (fr' := ⟨[(2, .slice [] 0 .exact), (3, .loc 0 0)], [[.int .i64 10, .int .i64 1, .int .i64 1]], [], [], 0⟩) (σ' := []) (ob := True ∧ True ∧ True ∧ True) (by kernel_rfl) ⟨trivial, trivial, trivial, trivial⟩ ?_
    refine ACode.ret ?_
    refine retQ.ret (.tuple [.slice [] 0 .exact, .agg [.int .i64 10, .int .i64 1, .int .i64 1]]) (by kernel_rfl) ?_
    have e9 : lexS t = ([], 10, 1, 1) := by rw [lexS, if_pos h1k]
    rw [e9]
    exact ⟨.exact, rfl, rfl⟩
  · -- false
    have h1k := of_decide_eq_false h1
    refine ACode.skip ?_
    refine ACode.seq ?_
    refine ACode.run hT (fun d => match d with | some 14 => true | _ => false) [0, 3, 4] (fr' := ⟨[(0, .str t), (3, .loc 0 0), (4, .slice [] 0 .exact)], [[.int .i64 0, .int .i64 0, .int .i64 0]], [], [], 0⟩) (σ' := []) (ob := True ∧ True) (by kernel_rfl) ⟨trivial, trivial⟩ ?_
    refine ACode.seq ?_
    refine ACode.run hT (fun d => match d with | some 14 => true | _ => false) [3, 4, 5] (fr' := ⟨[(3, .loc 0 0), (4, .slice [] 0 .exact), (5, .ptr 0 0)], [[.int .i64 0, .int .i64 0, .int .i64 0]], [], [], 0⟩) (σ' := [[.str t, .int .i64 1, .int .i64 1]]) (ob := True ∧ True ∧ True ∧ True ∧ True) (by kernel_rfl) ⟨trivial, trivial, trivial, trivial, trivial⟩ ?_
    refine ACode.block ?_
    refine ACode.loop [3, 4, 5] 1 0 (fun n0 fr σ' => ∃ (k : Nat), ∃ (r : Rd), ∃ (acc : List Tok), ∃ (own : Own), ∃ (tk : List Nat), ∃ (nx : Nat), fr = ⟨[(3, .loc 0 0), (4, .slice (toksAV acc) acc.length own), (5, .ptr 0 0)], [[.int .i64 0, .int .i64 0, .int .i64 0]], [], tk, nx⟩ ∧ σ' = [[.str r.rest, .int .i64 r.line, .int .i64 r.col]] ∧ (RdOK r ∧ r.rest.length < k ∧ acc.length + r.rest.length ≤ 8192 ∧ Can tk 5 acc.length (toksAV acc).length own ∧ lexF (t.length + 1) ⟨t, 1, 1⟩ [] = lexF k r acc) ∧ n0 = k + 1) _ (by kernel_rfl) ⟨t.length + 1, ⟨t, 1, 1⟩, [], .exact, [], 0, rfl, rfl, ⟨⟨Int.le_refl _, Int.le_refl _, by simp only; omega, by simp only; omega, by simp only; omega⟩, by simp only; omega, by simp only [List.length_nil]; omega, rfl, rfl⟩, rfl⟩ ?_
    rintro n0 fr σ' ⟨k, r, acc, own, tk, nx, rfl, rfl, ⟨hok, hk, hacc, hC, hP⟩, rfl⟩
    have hk9 : k = (k - 1) + 1 := by omega
    have hble := blankS_le hok
    refine ACode.block ?_
    refine ACode.seq ?_
    refine ACode.region ?_
    refine AOps.runN hT (fun d => match d with | some 14 => true | _ => false) 1 [3, 4, 5, 15] (fr' := ⟨[(3, .loc 0 0), (4, .slice (toksAV acc) acc.length own), (5, .ptr 0 0), (15, .ptr 0 0)], [[.int .i64 0, .int .i64 0, .int .i64 0]], [], tk, nx⟩) (σ' := [[.str r.rest, .int .i64 r.line, .int .i64 r.col]]) (ob := True ∧ True) (by kernel_rfl) ⟨trivial, trivial⟩ ?_
    refine AOps.call (fid := 26) (cap := []) (avs := [.ptr 0 0]) (by kernel_rfl) rfl (by kernel_rfl) (by kernel_rfl) en_26 (by kernel_rfl) (ACalls.mono (blank_walk r hok) ?_)
    rintro _ _ ⟨rfl, rfl⟩
    refine AOps.nil ?_
    refine ACode.seq ?_
    refine ACode.seq ?_
    refine ACode.run hT (fun d => match d with | some 14 => true | _ => false) [3, 4, 5, 21] (fr' := ⟨[(3, .loc 0 0), (4, .slice (toksAV acc) acc.length own), (5, .ptr 0 0), (21, .bool (((blankS r).rest) == []))], [[.int .i64 0, .int .i64 0, .int .i64 0]], [], tk, nx⟩) (σ' := [[.str ((blankS r).rest), .int .i64 ((blankS r).line), .int .i64 ((blankS r).col)]]) (ob := True ∧ True ∧ True ∧ True ∧ True ∧ True) (by kernel_rfl) ⟨trivial, trivial, trivial, trivial, trivial, trivial⟩ ?_
    refine ACode.cond (t := ((blankS r).rest) == []) (by kernel_rfl) (fun h2 => ?_) (fun h2 => ?_)
    · -- true
      have h2k := eq_of_beq h2
      refine ACode.seq ?_
      cases own with
      | no => exact hC.elim
      | exact =>
        refine ACode.draw [(14, 0)] 1 [] 1 (by kernel_rfl) (by kernel_rfl) ?_
        refine AAny.run hT (fun d => match d with | some 14 => true | _ => false) (fuel := 0) [0, 1, 2, 3, 4, 5, 6, 7, 8, 9, 12, 10, 11, 13, 14] [2, 3] (fz' := false) (l' := #[true, true, true, true, true, true, true, true, true, true, true, true, true, true, true]) (fr' := ⟨[(2, .slice ((toksAV acc) ++ ([.int .i64 0, .str [], .int .u64 0, .int .i64 ((blankS r).line), .int .i64 ((blankS r).col)] : List AV)) (acc.length + 1) (.tok nx 5)), (3, .loc 0 0)], [[.int .i64 0, .int .i64 0, .int .i64 0]], [], nx :: tk, nx + 1⟩) (σ' := [[.str ((blankS r).rest), .int .i64 ((blankS r).line), .int .i64 ((blankS r).col)]]) (ob := True ∧ True ∧ True ∧ True ∧ True ∧ True ∧ True ∧ True ∧ True ∧ True ∧ True ∧ True ∧ ((toksAV acc : List AV).length = acc.length * 5 ∧ ([.int .i64 0, .str [], .int .u64 0, .int .i64 ((blankS r).line), .int .i64 ((blankS r).col)] : List AV).length = 1 * 5 ∧ 0 < 1 ∧ (acc.length + 1) * 48 ≤ room) ∧ True ∧ True ∧ True) (by kernel_rfl) (by kernel_rfl) ⟨trivial, trivial, trivial, trivial, trivial, trivial, trivial, trivial, trivial, trivial, trivial, trivial, ⟨hC, rfl, by omega, by unfold room; omega⟩, trivial, trivial, trivial⟩ ?_
        refine AAny.done (by kernel_rfl) ?_
        refine ACode.ret ?_
        refine retQ.ret (.tuple [.slice ((toksAV acc) ++ ([.int .i64 0, .str [], .int .u64 0, .int .i64 ((blankS r).line), .int .i64 ((blankS r).col)] : List AV)) (acc.length + 1) .no, .agg [.int .i64 0, .int .i64 0, .int .i64 0]]) (by kernel_rfl) ?_
        have e8 : lexS t = lexF k r acc := by rw [lexS, if_neg (by omega), hP]
        have he : (blankS r).rest = [] := by simpa using h2
        have e9 : lexS t = (acc ++ [⟨0, [], 0, (blankS r).line, (blankS r).col⟩], 0, 0, 0) := by rw [e8, hk9, lexF, if_pos he]
        rw [e9]
        exact ⟨.no, rfl, by simp only [toksAV_append, List.length_append, toksAV, List.append_nil]; rfl⟩
      | tok u9 s9 =>
        obtain ⟨rfl, hu9⟩ := hC
        refine ACode.draw [(14, 0)] 1 [] 1 (by kernel_rfl) (by kernel_rfl) ?_
        refine AAny.run hT (fun d => match d with | some 14 => true | _ => false) (fuel := 0) [0, 1, 2, 3, 4, 5, 6, 7, 8, 9, 12, 10, 11, 13, 14] [2, 3] (fz' := false) (l' := #[true, true, true, true, true, true, true, true, true, true, true, true, true, true, true]) (fr' := ⟨[(2, .slice ((toksAV acc) ++ ([.int .i64 0, .str [], .int .u64 0, .int .i64 ((blankS r).line), .int .i64 ((blankS r).col)] : List AV)) (acc.length + 1) (.tok nx 5)), (3, .loc 0 0)], [[.int .i64 0, .int .i64 0, .int .i64 0]], [], nx :: dropTok tk (some u9), nx + 1⟩) (σ' := [[.str ((blankS r).rest), .int .i64 ((blankS r).line), .int .i64 ((blankS r).col)]]) (ob := True ∧ True ∧ True ∧ True ∧ True ∧ True ∧ True ∧ True ∧ True ∧ True ∧ True ∧ True ∧ (u9 ∈ tk ∧ ([.int .i64 0, .str [], .int .u64 0, .int .i64 ((blankS r).line), .int .i64 ((blankS r).col)] : List AV).length = 1 * 5 ∧ (acc.length + 1) * 48 ≤ room) ∧ True ∧ True ∧ True) (by kernel_rfl) (by kernel_rfl) ⟨trivial, trivial, trivial, trivial, trivial, trivial, trivial, trivial, trivial, trivial, trivial, trivial, ⟨hu9, rfl, by unfold room; omega⟩, trivial, trivial, trivial⟩ ?_
        refine AAny.done (by kernel_rfl) ?_
        refine ACode.ret ?_
        refine retQ.ret (.tuple [.slice ((toksAV acc) ++ ([.int .i64 0, .str [], .int .u64 0, .int .i64 ((blankS r).line), .int .i64 ((blankS r).col)] : List AV)) (acc.length + 1) .no, .agg [.int .i64 0, .int .i64 0, .int .i64 0]]) (by kernel_rfl) ?_
        have e8 : lexS t = lexF k r acc := by rw [lexS, if_neg (by omega), hP]
        have he : (blankS r).rest = [] := by simpa using h2
        have e9 : lexS t = (acc ++ [⟨0, [], 0, (blankS r).line, (blankS r).col⟩], 0, 0, 0) := by rw [e8, hk9, lexF, if_pos he]
        rw [e9]
        exact ⟨.no, rfl, by simp only [toksAV_append, List.length_append, toksAV, List.append_nil]; rfl⟩
    · -- false
      have hne : (blankS r).rest ≠ [] := ne_of_beq_false h2
      refine ACode.skip ?_
      refine ACode.seq ?_
      refine ACode.region ?_
      refine AOps.runN hT (fun d => match d with | some 14 => true | _ => false) 1 [3, 4, 5, 36] (fr' := ⟨[(3, .loc 0 0), (4, .slice (toksAV acc) acc.length own), (5, .ptr 0 0), (36, .ptr 0 0)], [[.int .i64 0, .int .i64 0, .int .i64 0]], [], tk, nx⟩) (σ' := [[.str ((blankS r).rest), .int .i64 ((blankS r).line), .int .i64 ((blankS r).col)]]) (ob := True ∧ True) (by kernel_rfl) ⟨trivial, trivial⟩ ?_
      refine AOps.call (fid := 27) (cap := []) (avs := [.ptr 0 0]) (by kernel_rfl) rfl (by kernel_rfl) (by kernel_rfl) en_27 (by kernel_rfl) (ACalls.mono (next_walk (blankS r) (blankS_ok hok) hne) ?_)
      rintro _ _ ⟨rfl, rfl⟩
      refine AOps.runN hT (fun d => match d with | some 14 => true | _ => false) 6 [3, 4, 5, 6, 7] (fr' := ⟨[(3, .loc 0 0), (4, .slice (toksAV acc) acc.length own), (5, .ptr 0 0), (6, .loc 1 0), (7, .bool ((nextT (blankS r)).2))], [[.int .i64 0, .int .i64 0, .int .i64 0], [.int .i64 ((nextT (blankS r)).1.kind), .str ((nextT (blankS r)).1.text), .int .u64 ((nextT (blankS r)).1.n), .int .i64 ((nextT (blankS r)).1.line), .int .i64 ((nextT (blankS r)).1.col)]], [], tk, nx⟩) (σ' := [[.str ((nextR (blankS r)).rest), .int .i64 ((nextR (blankS r)).line), .int .i64 ((nextR (blankS r)).col)]]) (ob := True ∧ True ∧ True ∧ True ∧ True ∧ True ∧ True) (by kernel_rfl) ⟨trivial, trivial, trivial, trivial, trivial, trivial, trivial⟩ ?_
      refine AOps.nil ?_
      refine ACode.seq ?_
      refine ACode.seq ?_
      refine ACode.run hT (fun d => match d with | some 14 => true | _ => false) [3, 4, 5, 6, 41] (fr' := ⟨[(3, .loc 0 0), (4, .slice (toksAV acc) acc.length own), (5, .ptr 0 0), (6, .loc 1 0), (41, .bool (!((nextT (blankS r)).2)))], [[.int .i64 0, .int .i64 0, .int .i64 0], [.int .i64 ((nextT (blankS r)).1.kind), .str ((nextT (blankS r)).1.text), .int .u64 ((nextT (blankS r)).1.n), .int .i64 ((nextT (blankS r)).1.line), .int .i64 ((nextT (blankS r)).1.col)]], [], tk, nx⟩) (σ' := [[.str ((nextR (blankS r)).rest), .int .i64 ((nextR (blankS r)).line), .int .i64 ((nextR (blankS r)).col)]]) (ob := True ∧ True ∧ True) (by kernel_rfl) ⟨trivial, trivial, trivial⟩ ?_
      refine ACode.cond (t := !((nextT (blankS r)).2)) (by kernel_rfl) (fun h3 => ?_) (fun h3 => ?_)
      · -- true
        have h3k := h3; simp only [Bool.and_eq_true, Bool.or_eq_true, Bool.and_eq_false_iff, Bool.or_eq_false_iff, decide_eq_true_eq, decide_eq_false_iff_not, beq_iff_eq, bne_iff_ne, ne_eq, Bool.not_eq_true', Bool.not_eq_false', beq_eq_false_iff_ne, bne_eq_false_iff_eq] at h3k
        refine ACode.seq ?_
        refine ACode.draw [(6, 0)] 2 [] 0 (by kernel_rfl) (by kernel_rfl) ?_
        refine AAny.run hT (fun d => match d with | some 14 => true | _ => false) (fuel := 0) [0, 1, 2, 3, 4, 5, 6] [2, 3] (fz' := false) (l' := #[true, true, true, true, true, true, true]) (fr' := ⟨[(2, .slice [] 0 .exact), (3, .loc 0 0)], [[.int .i64 3, .int .i64 ((nextT (blankS r)).1.line), .int .i64 ((nextT (blankS r)).1.col)], [.int .i64 ((nextT (blankS r)).1.kind), .str ((nextT (blankS r)).1.text), .int .u64 ((nextT (blankS r)).1.n), .int .i64 ((nextT (blankS r)).1.line), .int .i64 ((nextT (blankS r)).1.col)]], [], tk, nx⟩) (σ' := [[.str ((nextR (blankS r)).rest), .int .i64 ((nextR (blankS r)).line), .int .i64 ((nextR (blankS r)).col)]]) (ob := True ∧ True ∧ True ∧ True ∧ True ∧ True ∧ True ∧ True) (by kernel_rfl) (by kernel_rfl) ⟨trivial, trivial, trivial, trivial, trivial, trivial, trivial, trivial⟩ ?_
        refine AAny.done (by kernel_rfl) ?_
        refine ACode.ret ?_
        refine retQ.ret (.tuple [.slice [] 0 .exact, .agg [.int .i64 3, .int .i64 ((nextT (blankS r)).1.line), .int .i64 ((nextT (blankS r)).1.col)]]) (by kernel_rfl) ?_
        have e8 : lexS t = lexF k r acc := by rw [lexS, if_neg (by omega), hP]
        have hnx : ¬ (nextT (blankS r)).2 = true := by simpa using h3
        have e9 : lexS t = ([], 3, (nextT (blankS r)).1.line, (nextT (blankS r)).1.col) := by rw [e8, hk9, lexF, if_neg hne, if_neg hnx]
        rw [e9]
        exact ⟨.exact, rfl, rfl⟩
      · -- false
        have h3k := h3; simp only [Bool.and_eq_true, Bool.or_eq_true, Bool.and_eq_false_iff, Bool.or_eq_false_iff, decide_eq_true_eq, decide_eq_false_iff_not, beq_iff_eq, bne_iff_ne, ne_eq, Bool.not_eq_true', Bool.not_eq_false', beq_eq_false_iff_ne, bne_eq_false_iff_eq] at h3k
        refine ACode.skip ?_
        refine ACode.region ?_
        refine AOps.runN hT (fun d => match d with | some 14 => true | _ => false) 3 [3, 5, 47, 49] (fr' := ⟨[(3, .loc 0 0), (5, .ptr 0 0), (47, .slice (toksAV acc) acc.length own), (49, .slice [.int .i64 ((nextT (blankS r)).1.kind), .str ((nextT (blankS r)).1.text), .int .u64 ((nextT (blankS r)).1.n), .int .i64 ((nextT (blankS r)).1.line), .int .i64 ((nextT (blankS r)).1.col)] 1 .exact)], [[.int .i64 0, .int .i64 0, .int .i64 0], [.int .i64 ((nextT (blankS r)).1.kind), .str ((nextT (blankS r)).1.text), .int .u64 ((nextT (blankS r)).1.n), .int .i64 ((nextT (blankS r)).1.line), .int .i64 ((nextT (blankS r)).1.col)]], [], tk, nx⟩) (σ' := [[.str ((nextR (blankS r)).rest), .int .i64 ((nextR (blankS r)).line), .int .i64 ((nextR (blankS r)).col)]]) (ob := True ∧ True ∧ True ∧ True) (by kernel_rfl) ⟨trivial, trivial, trivial, trivial⟩ ?_
        refine AOps.append hT (cs := toksAV acc) (ds := [.int .i64 ((nextT (blankS r)).1.kind), .str ((nextT (blankS r)).1.text), .int .u64 ((nextT (blankS r)).1.n), .int .i64 ((nextT (blankS r)).1.line), .int .i64 ((nextT (blankS r)).1.col)]) (n := acc.length) (k := 1) (own := own) (own' := .exact) (e := 33) (b := true) (sz := 5) (by_ := 48) [] (by kernel_rfl) rfl (by kernel_rfl) (by kernel_rfl) (by kernel_rfl) (by kernel_rfl) hC (by omega) rfl (by unfold room; omega) (fun u hu => by cases hu) ?_
        refine AOps.runN hT (fun d => match d with | some 14 => true | _ => false) 1 [3, 4, 5] (fr' := ⟨[(3, .loc 0 0), (4, .slice ((toksAV acc) ++ ([.int .i64 ((nextT (blankS r)).1.kind), .str ((nextT (blankS r)).1.text), .int .u64 ((nextT (blankS r)).1.n), .int .i64 ((nextT (blankS r)).1.line), .int .i64 ((nextT (blankS r)).1.col)] : List AV)) (acc.length + 1) (.tok nx 5)), (5, .ptr 0 0)], [[.int .i64 0, .int .i64 0, .int .i64 0], [.int .i64 ((nextT (blankS r)).1.kind), .str ((nextT (blankS r)).1.text), .int .u64 ((nextT (blankS r)).1.n), .int .i64 ((nextT (blankS r)).1.line), .int .i64 ((nextT (blankS r)).1.col)]], [], nx :: [], nx + 1⟩) (σ' := [[.str ((nextR (blankS r)).rest), .int .i64 ((nextR (blankS r)).line), .int .i64 ((nextR (blankS r)).col)]]) (ob := True ∧ True) (by kernel_rfl) ⟨trivial, trivial⟩ ?_
        refine AOps.nil ?_
        refine ⟨by kernel_rfl, _, ?_, k - 1, nextR (blankS r), acc ++ [(nextT (blankS r)).1], .tok nx 5, [nx], nx + 1, (by simp only [toksAV_append, List.length_append, toksAV, List.append_nil]; rfl), rfl, ?_, rfl⟩
        · omega
        · have hnx : (nextT (blankS r)).2 = true := by simpa using h3
          have hlt := nextR_lt hne hnx
          refine ⟨nextR_ok (blankS_ok hok) hne, by omega, by simp only [List.length_append, List.length_cons, List.length_nil]; omega, ⟨rfl, by simp⟩, ?_⟩
          rw [hP, hk9, lexF, if_neg hne, if_pos hnx, Nat.add_sub_cancel]

theorem lex_walk (t : List UInt8) (σ : St) : ACalls Tryd.prog 15 [.str t] σ (fun e s => σ = s ∧ ∃ own, own.plain = true ∧ e = .ret (.tuple [.slice (toksAV (lexS t).1) ((lexS t).1.length) own, .agg [.int .i64 ((lexS t).2.1), .int .i64 ((lexS t).2.2.1), .int .i64 ((lexS t).2.2.2)]])) := by
  refine ((lex_walk0 t).frame rfl ?_).mono ?_
  · rintro e s ⟨own, _, rfl⟩
    simp [AEnd.closed, closed, closedAll, toksAV_closed]
  · rintro e s ⟨h1, _, h2⟩
    exact ⟨h1, h2⟩


end Go.AE

set_option linter.unusedVariables false
set_option linter.unusedSimpArgs false
set_option maxRecDepth 4000
namespace Go.AE
open Go.Proofs

theorem lexC1 : lexS [120, 49, 60, 61, 50] = ([⟨1, [120, 49], 0, 1, 1⟩, ⟨5, [60, 61], 0, 1, 3⟩, ⟨3, [50], 2, 1, 5⟩, ⟨0, [], 0, 1, 6⟩], 0, 0, 0) := by decide +kernel
theorem lexC2 : lexS [32, 49, 120] = ([], 3, 1, 2) := by decide +kernel
theorem loopC : isWordS [108, 111, 111, 112] = true := by decide +kernel

theorem alive_walk  (σ : St)  : ACalls Tryd.prog 10 [] σ (fun e s => σ = s ∧ e = .ret (.bool true)) := by
  refine ACalls.enter hT Tryd.func10 rfl (by kernel_rfl) ?_
  refine ACode.seq ?_
  refine ACode.run hT (fun _ => false) [] (fr' := ⟨[], [], [], [], 0⟩) (σ' := σ) (ob := True ∧ True) (by kernel_rfl) ⟨trivial, trivial⟩ ?_
  refine ACode.seq ?_
  refine ACode.region ?_
  refine AOps.call (fid := 15) (cap := []) (avs := [.str [120, 49, 60, 61, 50]]) (by kernel_rfl) rfl (by kernel_rfl) (by kernel_rfl) en_15 (by kernel_rfl) (ACalls.mono (lex_walk [120, 49, 60, 61, 50] _) ?_)
  rintro _ _ ⟨rfl, own, hown, rfl⟩
  rw [lexC1]
  refine AOps.runN hT (fun _ => false) 6 [1, 2] (fr' := ⟨[(1, .slice [.int .i64 1, .str [120, 49], .int .u64 0, .int .i64 1, .int .i64 1, .int .i64 5, .str [60, 61], .int .u64 0, .int .i64 1, .int .i64 3, .int .i64 3, .str [50], .int .u64 2, .int .i64 1, .int .i64 5, .int .i64 0, .str [], .int .u64 0, .int .i64 1, .int .i64 6] 4 own), (2, .loc 0 0)], [[.int .i64 0, .int .i64 0, .int .i64 0]], [], [], 0⟩) (σ' := σ) (ob := True ∧ True ∧ True ∧ True ∧ True ∧ True ∧ True) (by kernel_rfl) ⟨trivial, trivial, trivial, trivial, trivial, trivial, trivial⟩ ?_
  refine AOps.nil ?_
  refine ACode.seq ?_
  refine ACode.region ?_
  refine AOps.call (fid := 15) (cap := []) (avs := [.str [32, 49, 120]]) (by kernel_rfl) rfl (by kernel_rfl) (by kernel_rfl) en_15 (by kernel_rfl) (ACalls.mono (lex_walk [32, 49, 120] _) ?_)
  rintro _ _ ⟨rfl, own2, hown2, rfl⟩
  rw [lexC2]
  refine AOps.runN hT (fun _ => false) 6 [1, 2, 4] (fr' := ⟨[(1, .slice [.int .i64 1, .str [120, 49], .int .u64 0, .int .i64 1, .int .i64 1, .int .i64 5, .str [60, 61], .int .u64 0, .int .i64 1, .int .i64 3, .int .i64 3, .str [50], .int .u64 2, .int .i64 1, .int .i64 5, .int .i64 0, .str [], .int .u64 0, .int .i64 1, .int .i64 6] 4 own), (2, .loc 0 0), (4, .loc 1 0)], [[.int .i64 0, .int .i64 0, .int .i64 0], [.int .i64 3, .int .i64 1, .int .i64 2]], [], [], 0⟩) (σ' := σ) (ob := True ∧ True ∧ True ∧ True ∧ True ∧ True ∧ True) (by kernel_rfl) ⟨trivial, trivial, trivial, trivial, trivial, trivial, trivial⟩ ?_
  refine AOps.nil ?_
  refine ACode.seq ?_
  refine ACode.region ?_
  refine AOps.runN hT (fun _ => false) 42 [54] (fr' := ⟨[(54, .bool true)], [[.int .i64 0, .int .i64 0, .int .i64 0], [.int .i64 3, .int .i64 1, .int .i64 2]], [], [], 0⟩) (σ' := σ) (ob := True ∧ True ∧ True ∧ True ∧ True ∧ True ∧ True ∧ True ∧ True ∧ True ∧ (0 ≤ (0 : Int) ∧ (0 : Int) < (4 : Nat) ∧ 0 * 5 ≤ ([.int .i64 1, .str [120, 49], .int .u64 0, .int .i64 1, .int .i64 1, .int .i64 5, .str [60, 61], .int .u64 0, .int .i64 1, .int .i64 3, .int .i64 3, .str [50], .int .u64 2, .int .i64 1, .int .i64 5, .int .i64 0, .str [], .int .u64 0, .int .i64 1, .int .i64 6] : List AV).length) ∧ (0 ≤ ([.int .i64 1, .str [120, 49], .int .u64 0, .int .i64 1, .int .i64 1] : List AV).length) ∧ True ∧ True ∧ True ∧ True ∧ True ∧ (0 ≤ (1 : Int) ∧ (1 : Int) < (4 : Nat) ∧ 1 * 5 ≤ ([.int .i64 1, .str [120, 49], .int .u64 0, .int .i64 1, .int .i64 1, .int .i64 5, .str [60, 61], .int .u64 0, .int .i64 1, .int .i64 3, .int .i64 3, .str [50], .int .u64 2, .int .i64 1, .int .i64 5, .int .i64 0, .str [], .int .u64 0, .int .i64 1, .int .i64 6] : List AV).length) ∧ (1 ≤ ([.int .i64 5, .str [60, 61], .int .u64 0, .int .i64 1, .int .i64 3] : List AV).length) ∧ True ∧ True ∧ True ∧ True ∧ True ∧ (0 ≤ (2 : Int) ∧ (2 : Int) < (4 : Nat) ∧ 2 * 5 ≤ ([.int .i64 1, .str [120, 49], .int .u64 0, .int .i64 1, .int .i64 1, .int .i64 5, .str [60, 61], .int .u64 0, .int .i64 1, .int .i64 3, .int .i64 3, .str [50], .int .u64 2, .int .i64 1, .int .i64 5, .int .i64 0, .str [], .int .u64 0, .int .i64 1, .int .i64 6] : List AV).length) ∧ (2 ≤ ([.int .i64 3, .str [50], .int .u64 2, .int .i64 1, .int .i64 5] : List AV).length) ∧ True ∧ True ∧ True ∧ True ∧ True ∧ (0 ≤ (2 : Int) ∧ (2 : Int) < (4 : Nat) ∧ 2 * 5 ≤ ([.int .i64 1, .str [120, 49], .int .u64 0, .int .i64 1, .int .i64 1, .int .i64 5, .str [60, 61], .int .u64 0, .int .i64 1, .int .i64 3, .int .i64 3, .str [50], .int .u64 2, .int .i64 1, .int .i64 5, .int .i64 0, .str [], .int .u64 0, .int .i64 1, .int .i64 6] : List AV).length) ∧ (4 ≤ ([.int .i64 3, .str [50], .int .u64 2, .int .i64 1, .int .i64 5] : List AV).length) ∧ True ∧ True ∧ True ∧ True ∧ True ∧ True ∧ True ∧ True ∧ True ∧ True) (by kernel_rfl) ⟨trivial, trivial, trivial, trivial, trivial, trivial, trivial, trivial, trivial, trivial, (by simp), (by simp), trivial, trivial, trivial, trivial, trivial, (by simp), (by simp), trivial, trivial, trivial, trivial, trivial, (by simp), (by simp), trivial, trivial, trivial, trivial, trivial, (by simp), (by simp), trivial, trivial, trivial, trivial, trivial, trivial, trivial, trivial, trivial, trivial⟩ ?_
  refine AOps.call (fid := 12) (cap := []) (avs := [.str [108, 111, 111, 112]]) (by kernel_rfl) rfl (by kernel_rfl) (by kernel_rfl) en_12 (by kernel_rfl) (ACalls.mono (isWord_walk0 [108, 111, 111, 112] _ (by decide)) ?_)
  rintro _ _ ⟨rfl, rfl⟩
  rw [loopC]
  refine AOps.runN hT (fun _ => false) 2 [0] (fr' := ⟨[(0, .bool true)], [[.int .i64 0, .int .i64 0, .int .i64 0], [.int .i64 3, .int .i64 1, .int .i64 2]], [], [], 0⟩) (σ' := σ) (ob := True ∧ True ∧ True) (by kernel_rfl) ⟨trivial, trivial, trivial⟩ ?_
  refine AOps.nil ?_
  refine ACode.ret ?_
  exact retQ.ret (.bool true) (by kernel_rfl) ⟨rfl, rfl⟩

end Go.AE

