/- Parts of the proof of a law, in build order: W12. -/
import Derived.Test.YtjdbmjllhmmddaaDoorW12Q6
import Derived.IntWalk
set_option maxRecDepth 2000
set_option linter.unusedVariables false
set_option linter.unusedSimpArgs false
set_option linter.unusedVariables false
set_option linter.unusedSimpArgs false
set_option maxRecDepth 4000
namespace Go.AE
open Go.Proofs

theorem lex_ok (t : List UInt8) (l : List Tok) (h : lexS t = (l, 0, 0, 0)) (σ : St) : ACalls Tryd.prog 15 [.str t] σ (fun e s => σ = s ∧ ∃ own, own.plain = true ∧ e = .ret (.tuple [.slice (toksAV l) l.length own, .agg [.int .i64 0, .int .i64 0, .int .i64 0]])) := by
  have := lex_walk t σ
  rw [h] at this
  exact this
theorem lex_err (t : List UInt8) (k ln cl : Int) (h : lexS t = ([], k, ln, cl)) (σ : St) : ACalls Tryd.prog 15 [.str t] σ (fun e s => σ = s ∧ ∃ own, own.plain = true ∧ e = .ret (.tuple [.slice [] 0 own, .agg [.int .i64 k, .int .i64 ln, .int .i64 cl]])) := by
  have := lex_walk t σ
  rw [h] at this
  exact this

/-- What comes out of the lexer. -/
theorem lexS_cases (t : List UInt8) (h : t.length ≤ 8192) : (∃ l, lexS t = (l, 0, 0, 0) ∧ l.length ≤ t.length + 1 ∧ 0 < l.length ∧ ∀ i, (l.getD i default).text.length ≤ t.length) ∨ ∃ ln cl, lexS t = ([], 3, ln, cl) := by
  by_cases hz : (lexS t).2.1 = 0
  · refine .inl ?_
    have e := lexS_eq t h
    rw [e] at hz
    obtain ⟨h0, xs, l, c, e1, h1, h2, h3⟩ := lexR_toks _ hz
    refine ⟨xs ++ [⟨0, [], 0, l, c⟩], ?_, ?_, ?_, ?_⟩
    · rw [e, ← e1, ← h0]
    · simp only [List.length_append, List.length_cons, List.length_nil]
      have : xs.length ≤ t.length := h2
      omega
    · simp
    · intro i
      by_cases hi : i < xs.length
      · rw [getD_left hi]
        have : xs.getD i default ∈ xs := by rw [List.getD_eq_getElem?_getD, List.getElem?_eq_getElem hi]; exact List.getElem_mem _
        exact h3 _ this
      · by_cases hi2 : i = xs.length
        · subst hi2; simp [List.getD]
        · have : (xs ++ [(⟨0, [], 0, l, c⟩ : Tok)]).getD i default = default := by
            rw [List.getD_eq_getElem?_getD, List.getElem?_eq_none (by simp; omega)]; rfl
          rw [this]
          show (0 : Nat) ≤ _
          omega
  · refine .inr ?_
    rw [lexS_eq t h] at hz ⊢
    obtain ⟨h1, h2⟩ := lexR_none _ hz
    exact ⟨(lexR ⟨t, 1, 1⟩).2.2.1, (lexR ⟨t, 1, 1⟩).2.2.2, by rw [← h1, ← h2]⟩

theorem backT_len (l : List Tok) (n : Nat) (h : ∀ i, (l.getD i default).text.length ≤ n) : ∀ i, i ≤ l.length → (backT (l.take i)).length ≤ (n + 1) * i := by
  intro i
  induction i with
  | zero => intro _; simp [backT]
  | succ i ih =>
    intro hi
    have e : l.take (i + 1) = l.take i ++ [l.getD i default] := by
      rw [List.take_add_one, List.getElem?_eq_getElem (show i < l.length by omega)]; simp [List.getD, show i < l.length by omega]
    rw [e, backT_append]
    have := ih (by omega)
    have h2 := h i
    simp only [List.length_append, backT, List.length_cons, List.length_nil]
    rw [Nat.mul_add, Nat.mul_one]
    omega
theorem backT_succ (l : List Tok) (i : Nat) (hi : i < l.length) : backT (l.take (i + 1)) = (backT (l.take i) ++ (l.getD i default).text) ++ [10] := by
  have e : l.take (i + 1) = l.take i ++ [l.getD i default] := by
    rw [List.take_add_one, List.getElem?_eq_getElem hi]; simp [List.getD, hi]
  rw [e, backT_append]
  simp [backT]

theorem lexBack_err (t : List UInt8) (k ln cl : Int) (σ : St) (hl : lexS t = ([], k, ln, cl)) (hk : k ≠ 0) : ACalls Tryd.prog 4 [.str t] σ (fun e s => σ = s ∧ e = .ret (.bool true)) := by
  refine ACalls.enter hT Tryd.func4 rfl (by kernel_rfl) ?_
  refine ACode.seq ?_
  refine ACode.run hT (fun _ => false) [0] (fr' := ⟨[(0, .str t)], [], [], [], 0⟩) (σ' := σ) (ob := True ∧ True) (by kernel_rfl) ⟨trivial, trivial⟩ ?_
  refine ACode.seq ?_
  refine ACode.seq ?_
  refine ACode.region ?_
  refine AOps.call (fid := 10) (cap := []) (avs := []) (by kernel_rfl) rfl (by kernel_rfl) (by kernel_rfl) en_10 (by kernel_rfl) (ACalls.mono (alive_walk _) ?_)
  rintro _ _ ⟨rfl, rfl⟩
  refine AOps.runN hT (fun _ => false) 1 [0, 12] (fr' := ⟨[(0, .str t), (12, .bool false)], [], [], [], 0⟩) (σ' := σ) (ob := True ∧ True) (by kernel_rfl) ⟨trivial, trivial⟩ ?_
  refine AOps.nil ?_
  refine ACode.cond (t := false) (by kernel_rfl) (fun h => Bool.noConfusion h) (fun _ => ?_)
  refine ACode.skip ?_
  refine ACode.seq ?_
  refine ACode.seq ?_
  refine ACode.run hT (fun _ => false) [0, 15] (fr' := ⟨[(0, .str t), (15, .bool (decide ((((t) : List UInt8).length : Int) > 8192)))], [], [], [], 0⟩) (σ' := σ) (ob := True ∧ True ∧ True ∧ True) (by kernel_rfl) ⟨trivial, trivial, trivial, trivial⟩ ?_
  refine ACode.cond (t := decide ((((t) : List UInt8).length : Int) > 8192)) (by kernel_rfl) (fun h1 => ?_) (fun h1 => ?_)
  · -- true
    have h1k := of_decide_eq_true h1
    refine ACode.seq ?_
    refine ACode.run hT (fun _ => false) [2] (fr' := ⟨[(2, .bool true)], [], [], [], 0⟩) (σ' := σ) (ob := True ∧ True) (by kernel_rfl) ⟨trivial, trivial⟩ ?_
    refine ACode.ret ?_
    refine retQ.ret (.bool true) (by kernel_rfl) ?_
    exact ⟨rfl, rfl⟩
  · -- false
    have h1k := of_decide_eq_false h1
    refine ACode.skip ?_
    refine ACode.seq ?_
    refine ACode.region ?_
    refine AOps.runN hT (fun _ => false) 1 [17] (fr' := ⟨[(17, .str t)], [], [], [], 0⟩) (σ' := σ) (ob := True ∧ True) (by kernel_rfl) ⟨trivial, trivial⟩ ?_
    refine AOps.call (fid := 15) (cap := []) (avs := [.str t]) (by kernel_rfl) rfl (by kernel_rfl) (by kernel_rfl) en_15 (by kernel_rfl) (ACalls.mono (lex_err t k ln cl hl _) ?_)
    rintro _ _ ⟨rfl, own2, hown2, rfl⟩
    refine AOps.runN hT (fun _ => false) 6 [3, 4] (fr' := ⟨[(3, .slice [] 0 own2), (4, .loc 0 0)], [[.int .i64 k, .int .i64 ln, .int .i64 cl]], [], [], 0⟩) (σ' := σ) (ob := True ∧ True ∧ True ∧ True ∧ True ∧ True ∧ True) (by kernel_rfl) ⟨trivial, trivial, trivial, trivial, trivial, trivial, trivial⟩ ?_
    refine AOps.nil ?_
    refine ACode.seq ?_
    refine ACode.seq ?_
    refine ACode.run hT (fun _ => false) [3, 23] (fr' := ⟨[(3, .slice [] 0 own2), (23, .bool (!((k == 0) && ((ln == 0) && (cl == 0)))))], [[.int .i64 k, .int .i64 ln, .int .i64 cl]], [], [], 0⟩) (σ' := σ) (ob := True ∧ True ∧ True ∧ True) (by kernel_rfl) ⟨trivial, trivial, trivial, trivial⟩ ?_
    refine ACode.cond (t := !((k == 0) && ((ln == 0) && (cl == 0)))) (by kernel_rfl) (fun h2 => ?_) (fun h2 => ?_)
    · -- true
      have h2k := h2; simp only [Bool.and_eq_true, Bool.or_eq_true, Bool.and_eq_false_iff, Bool.or_eq_false_iff, decide_eq_true_eq, decide_eq_false_iff_not, beq_iff_eq, bne_iff_ne, ne_eq, Bool.not_eq_true', Bool.not_eq_false', beq_eq_false_iff_ne, bne_eq_false_iff_eq] at h2k
      refine ACode.seq ?_
      refine ACode.run hT (fun _ => false) [2] (fr' := ⟨[(2, .bool true)], [[.int .i64 k, .int .i64 ln, .int .i64 cl]], [], [], 0⟩) (σ' := σ) (ob := True ∧ True ∧ True ∧ True ∧ True) (by kernel_rfl) ⟨trivial, trivial, trivial, trivial, trivial⟩ ?_
      refine ACode.ret ?_
      refine retQ.ret (.bool true) (by kernel_rfl) ?_
      exact ⟨rfl, rfl⟩
    · -- false
      have h2k := h2; simp only [Bool.and_eq_true, Bool.or_eq_true, Bool.and_eq_false_iff, Bool.or_eq_false_iff, decide_eq_true_eq, decide_eq_false_iff_not, beq_iff_eq, bne_iff_ne, ne_eq, Bool.not_eq_true', Bool.not_eq_false', beq_eq_false_iff_ne, bne_eq_false_iff_eq] at h2k
      exfalso
      simp_all
theorem lexBack_ok (t : List UInt8) (l m : List Tok) (σ : St) (hl : lexS t = (l, 0, 0, 0)) (hln : l.length ≤ 8193) (htx : ∀ i, (l.getD i default).text.length ≤ 8192) (hm : ∀ i, l.length ≤ i → (backT (l.take i)).length ≤ 8192 → lexS (backT (l.take i)) = (m, 0, 0, 0)) (hml : m.length = l.length) (hk : ∀ i, i < l.length → (m.getD i default).kind = (l.getD i default).kind ∧ (m.getD i default).text = (l.getD i default).text ∧ (m.getD i default).n = (l.getD i default).n ∧ (i + 1 < l.length → (m.getD i default).line = i + 1 ∧ (m.getD i default).col = 1)) : ACalls Tryd.prog 4 [.str t] σ (fun e s => σ = s ∧ e = .ret (.bool true)) := by
  refine ACalls.enter hT Tryd.func4 rfl (by kernel_rfl) ?_
  refine ACode.seq ?_
  refine ACode.run hT (fun _ => false) [0] (fr' := ⟨[(0, .str t)], [], [], [], 0⟩) (σ' := σ) (ob := True ∧ True) (by kernel_rfl) ⟨trivial, trivial⟩ ?_
  refine ACode.seq ?_
  refine ACode.seq ?_
  refine ACode.region ?_
  refine AOps.call (fid := 10) (cap := []) (avs := []) (by kernel_rfl) rfl (by kernel_rfl) (by kernel_rfl) en_10 (by kernel_rfl) (ACalls.mono (alive_walk _) ?_)
  rintro _ _ ⟨rfl, rfl⟩
  refine AOps.runN hT (fun _ => false) 1 [0, 12] (fr' := ⟨[(0, .str t), (12, .bool false)], [], [], [], 0⟩) (σ' := σ) (ob := True ∧ True) (by kernel_rfl) ⟨trivial, trivial⟩ ?_
  refine AOps.nil ?_
  refine ACode.cond (t := false) (by kernel_rfl) (fun h => Bool.noConfusion h) (fun _ => ?_)
  refine ACode.skip ?_
  refine ACode.seq ?_
  refine ACode.seq ?_
  refine ACode.run hT (fun _ => false) [0, 15] (fr' := ⟨[(0, .str t), (15, .bool (decide ((((t) : List UInt8).length : Int) > 8192)))], [], [], [], 0⟩) (σ' := σ) (ob := True ∧ True ∧ True ∧ True) (by kernel_rfl) ⟨trivial, trivial, trivial, trivial⟩ ?_
  refine ACode.cond (t := decide ((((t) : List UInt8).length : Int) > 8192)) (by kernel_rfl) (fun h1 => ?_) (fun h1 => ?_)
  · -- true
    have h1k := of_decide_eq_true h1
    refine ACode.seq ?_
    refine ACode.run hT (fun _ => false) [2] (fr' := ⟨[(2, .bool true)], [], [], [], 0⟩) (σ' := σ) (ob := True ∧ True) (by kernel_rfl) ⟨trivial, trivial⟩ ?_
    refine ACode.ret ?_
    refine retQ.ret (.bool true) (by kernel_rfl) ?_
    exact ⟨rfl, rfl⟩
  · -- false
    have h1k := of_decide_eq_false h1
    refine ACode.skip ?_
    refine ACode.seq ?_
    refine ACode.region ?_
    refine AOps.runN hT (fun _ => false) 1 [17] (fr' := ⟨[(17, .str t)], [], [], [], 0⟩) (σ' := σ) (ob := True ∧ True) (by kernel_rfl) ⟨trivial, trivial⟩ ?_
    refine AOps.call (fid := 15) (cap := []) (avs := [.str t]) (by kernel_rfl) rfl (by kernel_rfl) (by kernel_rfl) en_15 (by kernel_rfl) (ACalls.mono (lex_ok t l hl _) ?_)
    rintro _ _ ⟨rfl, own4, hown4, rfl⟩
    refine AOps.runN hT (fun _ => false) 6 [3, 4] (fr' := ⟨[(3, .slice (toksAV l) l.length own4), (4, .loc 0 0)], [[.int .i64 0, .int .i64 0, .int .i64 0]], [], [], 0⟩) (σ' := σ) (ob := True ∧ True ∧ True ∧ True ∧ True ∧ True ∧ True) (by kernel_rfl) ⟨trivial, trivial, trivial, trivial, trivial, trivial, trivial⟩ ?_
    refine AOps.nil ?_
    refine ACode.seq ?_
    refine ACode.seq ?_
    refine ACode.run hT (fun _ => false) [3, 23] (fr' := ⟨[(3, .slice (toksAV l) l.length own4), (23, .bool false)], [[.int .i64 0, .int .i64 0, .int .i64 0]], [], [], 0⟩) (σ' := σ) (ob := True ∧ True ∧ True ∧ True) (by kernel_rfl) ⟨trivial, trivial, trivial, trivial⟩ ?_
    refine ACode.cond (t := false) (by kernel_rfl) (fun h => Bool.noConfusion h) (fun _ => ?_)
    refine ACode.skip ?_
    refine ACode.seq ?_
    refine ACode.run hT (fun _ => false) [3, 5] (fr' := ⟨[(3, .slice (toksAV l) l.length own4), (5, .str [])], [[.int .i64 0, .int .i64 0, .int .i64 0]], [], [], 0⟩) (σ' := σ) (ob := True ∧ True) (by kernel_rfl) ⟨trivial, trivial⟩ ?_
    refine ACode.seq ?_
    refine ACode.seq ?_
    refine ACode.run hT (fun _ => false) [3, 5, 27, 28, 29] (fr' := ⟨[(3, .slice (toksAV l) l.length own4), (5, .str []), (27, .slice (toksAV l) l.length own4), (28, .int .i64 ((l.length : Nat) : Int)), (29, .int .i64 0)], [[.int .i64 0, .int .i64 0, .int .i64 0]], [], [], 0⟩) (σ' := σ) (ob := True ∧ True ∧ True ∧ True) (by kernel_rfl) ⟨trivial, trivial, trivial, trivial⟩ ?_
    refine ACode.block ?_
    refine ACode.loop [3, 5, 27, 28, 29] 1 0 (fun n0 fr σ' => ∃ (i : Nat), fr = ⟨[(3, .slice (toksAV l) l.length own4), (5, .str (backT (l.take i))), (27, .slice (toksAV l) l.length own4), (28, .int .i64 ((l.length : Nat) : Int)), (29, .int .i64 (i : Int))], [[.int .i64 0, .int .i64 0, .int .i64 0]], [], [], 0⟩ ∧ σ = σ' ∧ (i ≤ l.length) ∧ n0 = l.length - i) _ (by kernel_rfl) ⟨0, rfl, rfl, Nat.zero_le _, rfl⟩ ?_
    rintro n0 fr σ' ⟨i, rfl, rfl, hP, rfl⟩
    have hB := backT_len l 8192 htx i hP
    have hTx := htx i
    have hB2 : 8193 * i ≤ 8193 * 8193 := Nat.mul_le_mul_left _ (by omega)
    refine ACode.seq ?_
    refine ACode.run hT (fun _ => false) [3, 5, 27, 28, 29, 30] (fr' := ⟨[(3, .slice (toksAV l) l.length own4), (5, .str (backT (l.take i))), (27, .slice (toksAV l) l.length own4), (28, .int .i64 ((l.length : Nat) : Int)), (29, .int .i64 (i : Int)), (30, .bool (decide ((i : Int) < ((l.length : Nat) : Int))))], [[.int .i64 0, .int .i64 0, .int .i64 0]], [], [], 0⟩) (σ' := σ) (ob := True ∧ True) (by kernel_rfl) ⟨trivial, trivial⟩ ?_
    refine ACode.seq ?_
    refine ACode.cond (t := decide ((i : Int) < ((l.length : Nat) : Int))) (by kernel_rfl) (fun h2 => ?_) (fun h2 => ?_)
    · -- true
      have h2k := of_decide_eq_true h2
      refine ACode.skip ?_
      refine ACode.seq ?_
      refine ACode.block ?_
      refine ACode.seq ?_
      refine ACode.region ?_
      refine AOps.runN hT (fun _ => false) 1 [3, 5, 27, 28, 29, 31] (fr' := ⟨[(3, .slice (toksAV l) l.length own4), (5, .str (backT (l.take i))), (27, .slice (toksAV l) l.length own4), (28, .int .i64 ((l.length : Nat) : Int)), (29, .int .i64 (i : Int)), (31, .dat (((toksAV l : List AV).drop (i * 5)).take 5))], [[.int .i64 0, .int .i64 0, .int .i64 0]], [], [], 0⟩) (σ' := σ) (ob := (0 ≤ ((i : Int) : Int) ∧ ((i : Int) : Int) < (l.length : Nat) ∧ i * 5 ≤ (toksAV l : List AV).length) ∧ True) (by kernel_rfl) ⟨(by rw [toksAV_length]; omega), trivial⟩ ?_
      rw [toksAV_at l i (by omega)]
      refine AOps.runN hT (fun _ => false) 3 [3, 5, 7, 27, 28, 29] (fr' := ⟨[(3, .slice (toksAV l) l.length own4), (5, .str (backT (l.take i))), (7, .loc 1 0), (27, .slice (toksAV l) l.length own4), (28, .int .i64 ((l.length : Nat) : Int)), (29, .int .i64 (i : Int))], [[.int .i64 0, .int .i64 0, .int .i64 0], [.int .i64 ((l.getD i default).kind), .str ((l.getD i default).text), .int .u64 ((l.getD i default).n), .int .i64 ((l.getD i default).line), .int .i64 ((l.getD i default).col)]], [], [], 0⟩) (σ' := σ) (ob := (5 ≤ ([.int .i64 ((l.getD i default).kind), .str ((l.getD i default).text), .int .u64 ((l.getD i default).n), .int .i64 ((l.getD i default).line), .int .i64 ((l.getD i default).col)] : List AV).length) ∧ True ∧ True ∧ True) (by kernel_rfl) ⟨(by first | omega | (simp; done) | (simp; omega)), trivial, trivial, trivial⟩ ?_
      refine AOps.nil ?_
      refine ACode.run hT (fun _ => false) [3, 5, 27, 28, 29] (fr' := ⟨[(3, .slice (toksAV l) l.length own4), (5, .str (((backT (l.take i)) ++ ((l.getD i default).text)) ++ [10])), (27, .slice (toksAV l) l.length own4), (28, .int .i64 ((l.length : Nat) : Int)), (29, .int .i64 (i : Int))], [[.int .i64 0, .int .i64 0, .int .i64 0], [.int .i64 ((l.getD i default).kind), .str ((l.getD i default).text), .int .u64 ((l.getD i default).n), .int .i64 ((l.getD i default).line), .int .i64 ((l.getD i default).col)]], [], [], 0⟩) (σ' := σ) (ob := True ∧ True ∧ True ∧ (((((backT (l.take i)) : List UInt8).length + (((l.getD i default).text) : List UInt8).length : Nat) : Int) ≤ 9223372036854775807) ∧ ((((((backT (l.take i)) ++ ((l.getD i default).text)) : List UInt8).length + ([10] : List UInt8).length : Nat) : Int) ≤ 9223372036854775807) ∧ True ∧ True) (by kernel_rfl) ⟨trivial, trivial, trivial, (by first | omega | (simp only [List.length_append, List.length_cons, List.length_nil]; omega)), (by first | omega | (simp only [List.length_append, List.length_cons, List.length_nil]; omega)), trivial, trivial⟩ ?_
      refine ACode.run hT (fun _ => false) [3, 5, 27, 28, 29] (fr' := ⟨[(3, .slice (toksAV l) l.length own4), (5, .str (((backT (l.take i)) ++ ((l.getD i default).text)) ++ [10])), (27, .slice (toksAV l) l.length own4), (28, .int .i64 ((l.length : Nat) : Int)), (29, .int .i64 (IntKind.i64.wrap ((i : Int) + 1)))], [[.int .i64 0, .int .i64 0, .int .i64 0], [.int .i64 ((l.getD i default).kind), .str ((l.getD i default).text), .int .u64 ((l.getD i default).n), .int .i64 ((l.getD i default).line), .int .i64 ((l.getD i default).col)]], [], [], 0⟩) (σ' := σ) (ob := True ∧ True ∧ True) (by kernel_rfl) ⟨trivial, trivial, trivial⟩ ?_
      rw [IntWalk.i64_in ((i : Int) + 1) (by omega)]
      refine ⟨by kernel_rfl, _, ?_, i + 1, (by rw [backT_succ l i (by omega)]; rfl), rfl, ?_, rfl⟩
      · omega
      · exact (by omega)
    · -- false
      have h2k := of_decide_eq_false h2
      refine ACode.exit ?_
      refine ACode.seq ?_
      refine ACode.seq ?_
      refine ACode.run hT (fun _ => false) [3, 5, 41] (fr' := ⟨[(3, .slice (toksAV l) l.length own4), (5, .str (backT (l.take i))), (41, .bool (decide ((((backT (l.take i)) : List UInt8).length : Int) > 8192)))], [[.int .i64 0, .int .i64 0, .int .i64 0]], [], [], 0⟩) (σ' := σ) (ob := True ∧ True ∧ True ∧ True) (by kernel_rfl) ⟨trivial, trivial, trivial, trivial⟩ ?_
      refine ACode.cond (t := decide ((((backT (l.take i)) : List UInt8).length : Int) > 8192)) (by kernel_rfl) (fun h3 => ?_) (fun h3 => ?_)
      · -- true
        have h3k := of_decide_eq_true h3
        refine ACode.seq ?_
        refine ACode.run hT (fun _ => false) [2] (fr' := ⟨[(2, .bool true)], [[.int .i64 0, .int .i64 0, .int .i64 0]], [], [], 0⟩) (σ' := σ) (ob := True ∧ True) (by kernel_rfl) ⟨trivial, trivial⟩ ?_
        refine ACode.ret ?_
        refine retQ.ret (.bool true) (by kernel_rfl) ?_
        exact ⟨rfl, rfl⟩
      · -- false
        have h3k := of_decide_eq_false h3
        refine ACode.skip ?_
        refine ACode.seq ?_
        refine ACode.region ?_
        refine AOps.runN hT (fun _ => false) 1 [3, 43] (fr' := ⟨[(3, .slice (toksAV l) l.length own4), (43, .str (backT (l.take i)))], [[.int .i64 0, .int .i64 0, .int .i64 0]], [], [], 0⟩) (σ' := σ) (ob := True ∧ True) (by kernel_rfl) ⟨trivial, trivial⟩ ?_
        refine AOps.call (fid := 15) (cap := []) (avs := [.str (backT (l.take i))]) (by kernel_rfl) rfl (by kernel_rfl) (by kernel_rfl) en_15 (by kernel_rfl) (ACalls.mono (lex_ok (backT (l.take i)) m (hm i (by omega) (by omega)) _) ?_)
        rintro _ _ ⟨rfl, own6, hown6, rfl⟩
        refine AOps.runN hT (fun _ => false) 6 [3, 8, 9] (fr' := ⟨[(3, .slice (toksAV l) l.length own4), (8, .slice (toksAV m) m.length own6), (9, .loc 1 0)], [[.int .i64 0, .int .i64 0, .int .i64 0], [.int .i64 0, .int .i64 0, .int .i64 0]], [], [], 0⟩) (σ' := σ) (ob := True ∧ True ∧ True ∧ True ∧ True ∧ True ∧ True) (by kernel_rfl) ⟨trivial, trivial, trivial, trivial, trivial, trivial, trivial⟩ ?_
        refine AOps.nil ?_
        refine ACode.seq ?_
        refine ACode.seq ?_
        refine ACode.region ?_
        refine AOps.runN hT (fun _ => false) 10 [3, 8, 56] (fr' := ⟨[(3, .slice (toksAV l) l.length own4), (8, .slice (toksAV m) m.length own6), (56, .bool (((m.length : Nat) : Int) != ((l.length : Nat) : Int)))], [[.int .i64 0, .int .i64 0, .int .i64 0], [.int .i64 0, .int .i64 0, .int .i64 0]], [], [], 0⟩) (σ' := σ) (ob := True ∧ True ∧ True ∧ True ∧ True ∧ True ∧ True ∧ True ∧ True ∧ True ∧ True) (by kernel_rfl) ⟨trivial, trivial, trivial, trivial, trivial, trivial, trivial, trivial, trivial, trivial, trivial⟩ ?_
        refine AOps.nil ?_
        refine ACode.cond (t := ((m.length : Nat) : Int) != ((l.length : Nat) : Int)) (by kernel_rfl) (fun h4 => ?_) (fun h4 => ?_)
        · -- true
          have h4k := h4; simp only [Bool.and_eq_true, Bool.or_eq_true, Bool.and_eq_false_iff, Bool.or_eq_false_iff, decide_eq_true_eq, decide_eq_false_iff_not, beq_iff_eq, bne_iff_ne, ne_eq, Bool.not_eq_true', Bool.not_eq_false', beq_eq_false_iff_ne, bne_eq_false_iff_eq] at h4k
          refine ACode.seq ?_
          refine ACode.run hT (fun _ => false) [2] (fr' := ⟨[(2, .bool false)], [[.int .i64 0, .int .i64 0, .int .i64 0], [.int .i64 0, .int .i64 0, .int .i64 0]], [], [], 0⟩) (σ' := σ) (ob := True ∧ True) (by kernel_rfl) ⟨trivial, trivial⟩ ?_
          refine ACode.ret ?_
          refine retQ.ret (.bool false) (by kernel_rfl) ?_
          exfalso
          rw [hml] at h4
          simp at h4
        · -- false
          have h4k := h4; simp only [Bool.and_eq_true, Bool.or_eq_true, Bool.and_eq_false_iff, Bool.or_eq_false_iff, decide_eq_true_eq, decide_eq_false_iff_not, beq_iff_eq, bne_iff_ne, ne_eq, Bool.not_eq_true', Bool.not_eq_false', beq_eq_false_iff_ne, bne_eq_false_iff_eq] at h4k
          refine ACode.skip ?_
          refine ACode.seq ?_
          refine ACode.seq ?_
          refine ACode.run hT (fun _ => false) [3, 8, 58, 59] (fr' := ⟨[(3, .slice (toksAV l) l.length own4), (8, .slice (toksAV m) m.length own6), (58, .int .i64 ((l.length : Nat) : Int)), (59, .int .i64 0)], [[.int .i64 0, .int .i64 0, .int .i64 0], [.int .i64 0, .int .i64 0, .int .i64 0]], [], [], 0⟩) (σ' := σ) (ob := True ∧ True ∧ True ∧ True) (by kernel_rfl) ⟨trivial, trivial, trivial, trivial⟩ ?_
          refine ACode.block ?_
          refine ACode.loop [3, 8, 58, 59] 2 0 (fun n0 fr σ' => ∃ (i : Nat), fr = ⟨[(3, .slice (toksAV l) l.length own4), (8, .slice (toksAV m) m.length own6), (58, .int .i64 ((l.length : Nat) : Int)), (59, .int .i64 (i : Int))], [[.int .i64 0, .int .i64 0, .int .i64 0], [.int .i64 0, .int .i64 0, .int .i64 0]], [], [], 0⟩ ∧ σ = σ' ∧ (i ≤ l.length) ∧ n0 = l.length - i) _ (by kernel_rfl) ⟨0, rfl, rfl, Nat.zero_le _, rfl⟩ ?_
          rintro n0 fr σ' ⟨i, rfl, rfl, hP, rfl⟩
          refine ACode.seq ?_
          refine ACode.run hT (fun _ => false) [3, 8, 58, 59, 60] (fr' := ⟨[(3, .slice (toksAV l) l.length own4), (8, .slice (toksAV m) m.length own6), (58, .int .i64 ((l.length : Nat) : Int)), (59, .int .i64 (i : Int)), (60, .bool (decide ((i : Int) < ((l.length : Nat) : Int))))], [[.int .i64 0, .int .i64 0, .int .i64 0], [.int .i64 0, .int .i64 0, .int .i64 0]], [], [], 0⟩) (σ' := σ) (ob := True ∧ True) (by kernel_rfl) ⟨trivial, trivial⟩ ?_
          refine ACode.seq ?_
          refine ACode.cond (t := decide ((i : Int) < ((l.length : Nat) : Int))) (by kernel_rfl) (fun h5 => ?_) (fun h5 => ?_)
          · -- true
            have h5k := of_decide_eq_true h5
            refine ACode.skip ?_
            refine ACode.seq ?_
            refine ACode.block ?_
            refine ACode.seq ?_
            refine ACode.run hT (fun _ => false) [3, 8, 10, 58, 59] (fr' := ⟨[(3, .slice (toksAV l) l.length own4), (8, .slice (toksAV m) m.length own6), (10, .int .i64 (i : Int)), (58, .int .i64 ((l.length : Nat) : Int)), (59, .int .i64 (i : Int))], [[.int .i64 0, .int .i64 0, .int .i64 0], [.int .i64 0, .int .i64 0, .int .i64 0]], [], [], 0⟩) (σ' := σ) (ob := True ∧ True ∧ True) (by kernel_rfl) ⟨trivial, trivial, trivial⟩ ?_
            refine ACode.seq ?_
            refine ACode.meet ⟨[(3, .slice (toksAV l) l.length own4), (8, .slice (toksAV m) m.length own6), (58, .int .i64 ((l.length : Nat) : Int)), (59, .int .i64 (i : Int)), (123, .bool ((((l.getD i default).kind) != ((m.getD i default).kind)) || ((!(((l.getD i default).text) == ((m.getD i default).text))) || ((((l.getD i default).n) != ((m.getD i default).n)) || ((decide (((i : Int) + 1) < ((l.length : Nat) : Int))) && ((((m.getD i default).line) != ((i : Int) + 1)) || (((m.getD i default).col) != 1)))))))], [[.int .i64 0, .int .i64 0, .int .i64 0], [.int .i64 0, .int .i64 0, .int .i64 0]], [], [], 0⟩ σ ?_ ?_
            ·
              refine ACode.draw [] 2 [] 0 (by kernel_rfl) (by kernel_rfl) ?_
              refine AAny.run hT (fun _ => false) (fuel := 59) [0, 1, 2] [3, 8, 10, 58, 59, 64] (fz' := true) (l' := #[true, true, true, false, false, false, false, false, false, false, false, false, false, false, false, false, false, false, false, false, false, false, false, false, false, false, false, false, false, false, false, false, false, false, false, false, false, false, false, false, false, false, false, false, false, false, false, false, false, false, false, false, false, false, false, false, false, false, false, false, false, false]) (fr' := ⟨[(3, .slice (toksAV l) l.length own4), (8, .slice (toksAV m) m.length own6), (10, .int .i64 (i : Int)), (58, .int .i64 ((l.length : Nat) : Int)), (59, .int .i64 (i : Int)), (64, .dat (((toksAV l : List AV).drop (i * 5)).take 5))], [[.int .i64 0, .int .i64 0, .int .i64 0], [.int .i64 0, .int .i64 0, .int .i64 0]], [], [], 0⟩) (σ' := σ) (ob := True ∧ True ∧ (0 ≤ ((i : Int) : Int) ∧ ((i : Int) : Int) < (l.length : Nat) ∧ i * 5 ≤ (toksAV l : List AV).length) ∧ True) (by kernel_rfl) (by kernel_rfl) ⟨trivial, trivial, (by rw [toksAV_length]; omega), trivial⟩ ?_
              rw [toksAV_at l i (by omega)]
              refine AAny.run hT (fun _ => false) (fuel := 54) [3, 4, 5, 6, 7] [3, 8, 10, 58, 59, 66, 69] (fz' := true) (l' := #[true, true, true, true, true, true, true, true, false, false, false, false, false, false, false, false, false, false, false, false, false, false, false, false, false, false, false, false, false, false, false, false, false, false, false, false, false, false, false, false, false, false, false, false, false, false, false, false, false, false, false, false, false, false, false, false, false, false, false, false, false, false]) (fr' := ⟨[(3, .slice (toksAV l) l.length own4), (8, .slice (toksAV m) m.length own6), (10, .int .i64 (i : Int)), (58, .int .i64 ((l.length : Nat) : Int)), (59, .int .i64 (i : Int)), (66, .int .i64 ((l.getD i default).kind)), (69, .dat (((toksAV m : List AV).drop (i * 5)).take 5))], [[.int .i64 0, .int .i64 0, .int .i64 0], [.int .i64 0, .int .i64 0, .int .i64 0]], [], [], 0⟩) (σ' := σ) (ob := (0 ≤ ([.int .i64 ((l.getD i default).kind), .str ((l.getD i default).text), .int .u64 ((l.getD i default).n), .int .i64 ((l.getD i default).line), .int .i64 ((l.getD i default).col)] : List AV).length) ∧ True ∧ True ∧ True ∧ (0 ≤ ((i : Int) : Int) ∧ ((i : Int) : Int) < (m.length : Nat) ∧ i * 5 ≤ (toksAV m : List AV).length) ∧ True) (by kernel_rfl) (by kernel_rfl) ⟨(by first | omega | (simp; done) | (simp; omega)), trivial, trivial, trivial, (by rw [toksAV_length]; omega), trivial⟩ ?_
              rw [toksAV_at m i (by omega)]
              refine AAny.run hT (fun _ => false) (fuel := 50) [8, 9, 10, 11] [3, 8, 10, 58, 59, 73] (fz' := true) (l' := #[true, true, true, true, true, true, true, true, true, true, true, true, false, false, false, false, false, false, false, false, false, false, false, false, false, false, false, false, false, false, false, false, false, false, false, false, false, false, false, false, false, false, false, false, false, false, false, false, false, false, false, false, false, false, false, false, false, false, false, false, false, false]) (fr' := ⟨[(3, .slice (toksAV l) l.length own4), (8, .slice (toksAV m) m.length own6), (10, .int .i64 (i : Int)), (58, .int .i64 ((l.length : Nat) : Int)), (59, .int .i64 (i : Int)), (73, .bool (((l.getD i default).kind) != ((m.getD i default).kind)))], [[.int .i64 0, .int .i64 0, .int .i64 0], [.int .i64 0, .int .i64 0, .int .i64 0]], [], [], 0⟩) (σ' := σ) (ob := (0 ≤ ([.int .i64 ((m.getD i default).kind), .str ((m.getD i default).text), .int .u64 ((m.getD i default).n), .int .i64 ((m.getD i default).line), .int .i64 ((m.getD i default).col)] : List AV).length) ∧ True ∧ True ∧ True ∧ True) (by kernel_rfl) (by kernel_rfl) ⟨(by first | omega | (simp; done) | (simp; omega)), trivial, trivial, trivial, trivial⟩ ?_
              cases h6 : (((l.getD i default).kind) != ((m.getD i default).kind))
              · -- ((l.getD i default).kind) != ((m.getD i default).kind) is false
                have h6k := h6; simp only [Bool.and_eq_true, Bool.or_eq_true, Bool.and_eq_false_iff, Bool.or_eq_false_iff, decide_eq_true_eq, decide_eq_false_iff_not, beq_iff_eq, bne_iff_ne, ne_eq, Bool.not_eq_true', Bool.not_eq_false', beq_eq_false_iff_ne, bne_eq_false_iff_eq] at h6k
                refine AAny.run hT (fun _ => false) (fuel := 47) [12, 13, 14] [3, 8, 10, 58, 59, 73, 76] (fz' := true) (l' := #[true, true, true, true, true, true, true, true, true, true, true, true, true, true, true, false, false, false, false, false, false, false, false, false, false, false, false, false, false, false, false, false, false, false, false, false, false, false, false, false, false, false, false, false, false, false, false, false, false, false, false, false, false, false, false, false, false, false, false, false, false, false]) (fr' := ⟨[(3, .slice (toksAV l) l.length own4), (8, .slice (toksAV m) m.length own6), (10, .int .i64 (i : Int)), (58, .int .i64 ((l.length : Nat) : Int)), (59, .int .i64 (i : Int)), (73, .bool false), (76, .dat (((toksAV l : List AV).drop (i * 5)).take 5))], [[.int .i64 0, .int .i64 0, .int .i64 0], [.int .i64 0, .int .i64 0, .int .i64 0]], [], [], 0⟩) (σ' := σ) (ob := True ∧ True ∧ (0 ≤ ((i : Int) : Int) ∧ ((i : Int) : Int) < (l.length : Nat) ∧ i * 5 ≤ (toksAV l : List AV).length) ∧ True) (by kernel_rfl) (by kernel_rfl) ⟨trivial, trivial, (by rw [toksAV_length]; omega), trivial⟩ ?_
                rw [toksAV_at l i (by omega)]
                refine AAny.run hT (fun _ => false) (fuel := 42) [15, 16, 17, 18, 19] [3, 8, 10, 58, 59, 73, 78, 81] (fz' := true) (l' := #[true, true, true, true, true, true, true, true, true, true, true, true, true, true, true, true, true, true, true, true, false, false, false, false, false, false, false, false, false, false, false, false, false, false, false, false, false, false, false, false, false, false, false, false, false, false, false, false, false, false, false, false, false, false, false, false, false, false, false, false, false, false]) (fr' := ⟨[(3, .slice (toksAV l) l.length own4), (8, .slice (toksAV m) m.length own6), (10, .int .i64 (i : Int)), (58, .int .i64 ((l.length : Nat) : Int)), (59, .int .i64 (i : Int)), (73, .bool false), (78, .str ((l.getD i default).text)), (81, .dat (((toksAV m : List AV).drop (i * 5)).take 5))], [[.int .i64 0, .int .i64 0, .int .i64 0], [.int .i64 0, .int .i64 0, .int .i64 0]], [], [], 0⟩) (σ' := σ) (ob := (1 ≤ ([.int .i64 ((l.getD i default).kind), .str ((l.getD i default).text), .int .u64 ((l.getD i default).n), .int .i64 ((l.getD i default).line), .int .i64 ((l.getD i default).col)] : List AV).length) ∧ True ∧ True ∧ True ∧ (0 ≤ ((i : Int) : Int) ∧ ((i : Int) : Int) < (m.length : Nat) ∧ i * 5 ≤ (toksAV m : List AV).length) ∧ True) (by kernel_rfl) (by kernel_rfl) ⟨(by first | omega | (simp; done) | (simp; omega)), trivial, trivial, trivial, (by rw [toksAV_length]; omega), trivial⟩ ?_
                rw [toksAV_at m i (by omega)]
                refine AAny.run hT (fun _ => false) (fuel := 37) [20, 21, 22, 23, 24] [3, 8, 10, 58, 59, 86] (fz' := true) (l' := #[true, true, true, true, true, true, true, true, true, true, true, true, true, true, true, true, true, true, true, true, true, true, true, true, true, false, false, false, false, false, false, false, false, false, false, false, false, false, false, false, false, false, false, false, false, false, false, false, false, false, false, false, false, false, false, false, false, false, false, false, false, false]) (fr' := ⟨[(3, .slice (toksAV l) l.length own4), (8, .slice (toksAV m) m.length own6), (10, .int .i64 (i : Int)), (58, .int .i64 ((l.length : Nat) : Int)), (59, .int .i64 (i : Int)), (86, .bool (!(((l.getD i default).text) == ((m.getD i default).text))))], [[.int .i64 0, .int .i64 0, .int .i64 0], [.int .i64 0, .int .i64 0, .int .i64 0]], [], [], 0⟩) (σ' := σ) (ob := (1 ≤ ([.int .i64 ((m.getD i default).kind), .str ((m.getD i default).text), .int .u64 ((m.getD i default).n), .int .i64 ((m.getD i default).line), .int .i64 ((m.getD i default).col)] : List AV).length) ∧ True ∧ True ∧ True ∧ True ∧ True) (by kernel_rfl) (by kernel_rfl) ⟨(by first | omega | (simp; done) | (simp; omega)), trivial, trivial, trivial, trivial, trivial⟩ ?_
                cases h7 : (!(((l.getD i default).text) == ((m.getD i default).text)))
                · -- !(((l.getD i default).text) == ((m.getD i default).text)) is false
                  have h7k := h7; simp only [Bool.and_eq_true, Bool.or_eq_true, Bool.and_eq_false_iff, Bool.or_eq_false_iff, decide_eq_true_eq, decide_eq_false_iff_not, beq_iff_eq, bne_iff_ne, ne_eq, Bool.not_eq_true', Bool.not_eq_false', beq_eq_false_iff_ne, bne_eq_false_iff_eq] at h7k
                  refine AAny.run hT (fun _ => false) (fuel := 34) [25, 26, 27] [3, 8, 10, 58, 59, 86, 89] (fz' := true) (l' := #[true, true, true, true, true, true, true, true, true, true, true, true, true, true, true, true, true, true, true, true, true, true, true, true, true, true, true, true, false, false, false, false, false, false, false, false, false, false, false, false, false, false, false, false, false, false, false, false, false, false, false, false, false, false, false, false, false, false, false, false, false, false]) (fr' := ⟨[(3, .slice (toksAV l) l.length own4), (8, .slice (toksAV m) m.length own6), (10, .int .i64 (i : Int)), (58, .int .i64 ((l.length : Nat) : Int)), (59, .int .i64 (i : Int)), (86, .bool false), (89, .dat (((toksAV l : List AV).drop (i * 5)).take 5))], [[.int .i64 0, .int .i64 0, .int .i64 0], [.int .i64 0, .int .i64 0, .int .i64 0]], [], [], 0⟩) (σ' := σ) (ob := True ∧ True ∧ (0 ≤ ((i : Int) : Int) ∧ ((i : Int) : Int) < (l.length : Nat) ∧ i * 5 ≤ (toksAV l : List AV).length) ∧ True) (by kernel_rfl) (by kernel_rfl) ⟨trivial, trivial, (by rw [toksAV_length]; omega), trivial⟩ ?_
                  rw [toksAV_at l i (by omega)]
                  refine AAny.run hT (fun _ => false) (fuel := 29) [28, 29, 30, 31, 32] [3, 8, 10, 58, 59, 86, 91, 94] (fz' := true) (l' := #[true, true, true, true, true, true, true, true, true, true, true, true, true, true, true, true, true, true, true, true, true, true, true, true, true, true, true, true, true, true, true, true, true, false, false, false, false, false, false, false, false, false, false, false, false, false, false, false, false, false, false, false, false, false, false, false, false, false, false, false, false, false]) (fr' := ⟨[(3, .slice (toksAV l) l.length own4), (8, .slice (toksAV m) m.length own6), (10, .int .i64 (i : Int)), (58, .int .i64 ((l.length : Nat) : Int)), (59, .int .i64 (i : Int)), (86, .bool false), (91, .int .u64 ((l.getD i default).n)), (94, .dat (((toksAV m : List AV).drop (i * 5)).take 5))], [[.int .i64 0, .int .i64 0, .int .i64 0], [.int .i64 0, .int .i64 0, .int .i64 0]], [], [], 0⟩) (σ' := σ) (ob := (2 ≤ ([.int .i64 ((l.getD i default).kind), .str ((l.getD i default).text), .int .u64 ((l.getD i default).n), .int .i64 ((l.getD i default).line), .int .i64 ((l.getD i default).col)] : List AV).length) ∧ True ∧ True ∧ True ∧ (0 ≤ ((i : Int) : Int) ∧ ((i : Int) : Int) < (m.length : Nat) ∧ i * 5 ≤ (toksAV m : List AV).length) ∧ True) (by kernel_rfl) (by kernel_rfl) ⟨(by first | omega | (simp; done) | (simp; omega)), trivial, trivial, trivial, (by rw [toksAV_length]; omega), trivial⟩ ?_
                  rw [toksAV_at m i (by omega)]
                  refine AAny.run hT (fun _ => false) (fuel := 24) [33, 34, 35, 36, 37] [3, 8, 10, 58, 59, 99] (fz' := true) (l' := #[true, true, true, true, true, true, true, true, true, true, true, true, true, true, true, true, true, true, true, true, true, true, true, true, true, true, true, true, true, true, true, true, true, true, true, true, true, true, false, false, false, false, false, false, false, false, false, false, false, false, false, false, false, false, false, false, false, false, false, false, false, false]) (fr' := ⟨[(3, .slice (toksAV l) l.length own4), (8, .slice (toksAV m) m.length own6), (10, .int .i64 (i : Int)), (58, .int .i64 ((l.length : Nat) : Int)), (59, .int .i64 (i : Int)), (99, .bool (((l.getD i default).n) != ((m.getD i default).n)))], [[.int .i64 0, .int .i64 0, .int .i64 0], [.int .i64 0, .int .i64 0, .int .i64 0]], [], [], 0⟩) (σ' := σ) (ob := (2 ≤ ([.int .i64 ((m.getD i default).kind), .str ((m.getD i default).text), .int .u64 ((m.getD i default).n), .int .i64 ((m.getD i default).line), .int .i64 ((m.getD i default).col)] : List AV).length) ∧ True ∧ True ∧ True ∧ True ∧ True) (by kernel_rfl) (by kernel_rfl) ⟨(by first | omega | (simp; done) | (simp; omega)), trivial, trivial, trivial, trivial, trivial⟩ ?_
                  cases h8 : (((l.getD i default).n) != ((m.getD i default).n))
                  · -- ((l.getD i default).n) != ((m.getD i default).n) is false
                    have h8k := h8; simp only [Bool.and_eq_true, Bool.or_eq_true, Bool.and_eq_false_iff, Bool.or_eq_false_iff, decide_eq_true_eq, decide_eq_false_iff_not, beq_iff_eq, bne_iff_ne, ne_eq, Bool.not_eq_true', Bool.not_eq_false', beq_eq_false_iff_ne, bne_eq_false_iff_eq] at h8k
                    refine AAny.run hT (fun _ => false) (fuel := 18) [38, 39, 40, 41, 42, 43] [3, 8, 10, 58, 59, 99, 105] (fz' := true) (l' := #[true, true, true, true, true, true, true, true, true, true, true, true, true, true, true, true, true, true, true, true, true, true, true, true, true, true, true, true, true, true, true, true, true, true, true, true, true, true, true, true, true, true, true, true, false, false, false, false, false, false, false, false, false, false, false, false, false, false, false, false, false, false]) (fr' := ⟨[(3, .slice (toksAV l) l.length own4), (8, .slice (toksAV m) m.length own6), (10, .int .i64 (i : Int)), (58, .int .i64 ((l.length : Nat) : Int)), (59, .int .i64 (i : Int)), (99, .bool false), (105, .bool (decide ((IntKind.i64.wrap ((i : Int) + 1)) < ((l.length : Nat) : Int))))], [[.int .i64 0, .int .i64 0, .int .i64 0], [.int .i64 0, .int .i64 0, .int .i64 0]], [], [], 0⟩) (σ' := σ) (ob := True ∧ True ∧ True ∧ True ∧ True ∧ True ∧ True) (by kernel_rfl) (by kernel_rfl) ⟨trivial, trivial, trivial, trivial, trivial, trivial, trivial⟩ ?_
                    rw [IntWalk.i64_in ((i : Int) + 1) (by omega)]
                    cases h9 : (decide (((i : Int) + 1) < ((l.length : Nat) : Int)))
                    · -- decide (((i : Int) + 1) < ((l.length : Nat) : Int)) is false
                      have h9k := of_decide_eq_false h9
                      refine AAny.run hT (fun _ => false) (fuel := 0) [44, 45, 46, 47, 48, 49, 50, 51, 52, 53, 54, 55, 56, 57, 58, 59, 60, 61] [3, 8, 58, 59, 123] (fz' := true) (l' := #[true, true, true, true, true, true, true, true, true, true, true, true, true, true, true, true, true, true, true, true, true, true, true, true, true, true, true, true, true, true, true, true, true, true, true, true, true, true, true, true, true, true, true, true, true, true, true, true, true, true, true, true, true, true, true, true, true, true, true, true, true, true]) (fr' := ⟨[(3, .slice (toksAV l) l.length own4), (8, .slice (toksAV m) m.length own6), (58, .int .i64 ((l.length : Nat) : Int)), (59, .int .i64 (i : Int)), (123, .bool false)], [[.int .i64 0, .int .i64 0, .int .i64 0], [.int .i64 0, .int .i64 0, .int .i64 0]], [], [], 0⟩) (σ' := σ) (ob := True ∧ True ∧ True ∧ True ∧ True ∧ True ∧ True ∧ True ∧ True ∧ True ∧ True ∧ True ∧ True ∧ True ∧ True ∧ True ∧ True ∧ True ∧ True) (by kernel_rfl) (by kernel_rfl) ⟨trivial, trivial, trivial, trivial, trivial, trivial, trivial, trivial, trivial, trivial, trivial, trivial, trivial, trivial, trivial, trivial, trivial, trivial, trivial⟩ ?_
                      refine AAny.done (by kernel_rfl) ?_
                      exact ⟨rfl, rfl⟩
                    · -- decide (((i : Int) + 1) < ((l.length : Nat) : Int)) is true
                      have h9k := of_decide_eq_true h9
                      refine AAny.run hT (fun _ => false) (fuel := 15) [44, 45, 46] [3, 8, 10, 58, 59, 99, 105, 108] (fz' := true) (l' := #[true, true, true, true, true, true, true, true, true, true, true, true, true, true, true, true, true, true, true, true, true, true, true, true, true, true, true, true, true, true, true, true, true, true, true, true, true, true, true, true, true, true, true, true, true, true, true, false, false, false, false, false, false, false, false, false, false, false, false, false, false, false]) (fr' := ⟨[(3, .slice (toksAV l) l.length own4), (8, .slice (toksAV m) m.length own6), (10, .int .i64 (i : Int)), (58, .int .i64 ((l.length : Nat) : Int)), (59, .int .i64 (i : Int)), (99, .bool false), (105, .bool true), (108, .dat (((toksAV m : List AV).drop (i * 5)).take 5))], [[.int .i64 0, .int .i64 0, .int .i64 0], [.int .i64 0, .int .i64 0, .int .i64 0]], [], [], 0⟩) (σ' := σ) (ob := True ∧ True ∧ (0 ≤ ((i : Int) : Int) ∧ ((i : Int) : Int) < (m.length : Nat) ∧ i * 5 ≤ (toksAV m : List AV).length) ∧ True) (by kernel_rfl) (by kernel_rfl) ⟨trivial, trivial, (by rw [toksAV_length]; omega), trivial⟩ ?_
                      rw [toksAV_at m i (by omega)]
                      refine AAny.run hT (fun _ => false) (fuel := 9) [47, 48, 49, 50, 51, 52] [3, 8, 10, 58, 59, 99, 105, 114] (fz' := true) (l' := #[true, true, true, true, true, true, true, true, true, true, true, true, true, true, true, true, true, true, true, true, true, true, true, true, true, true, true, true, true, true, true, true, true, true, true, true, true, true, true, true, true, true, true, true, true, true, true, true, true, true, true, true, true, false, false, false, false, false, false, false, false, false]) (fr' := ⟨[(3, .slice (toksAV l) l.length own4), (8, .slice (toksAV m) m.length own6), (10, .int .i64 (i : Int)), (58, .int .i64 ((l.length : Nat) : Int)), (59, .int .i64 (i : Int)), (99, .bool false), (105, .bool true), (114, .bool (((m.getD i default).line) != (IntKind.i64.wrap ((i : Int) + 1))))], [[.int .i64 0, .int .i64 0, .int .i64 0], [.int .i64 0, .int .i64 0, .int .i64 0]], [], [], 0⟩) (σ' := σ) (ob := (3 ≤ ([.int .i64 ((m.getD i default).kind), .str ((m.getD i default).text), .int .u64 ((m.getD i default).n), .int .i64 ((m.getD i default).line), .int .i64 ((m.getD i default).col)] : List AV).length) ∧ True ∧ True ∧ True ∧ True ∧ True ∧ True) (by kernel_rfl) (by kernel_rfl) ⟨(by first | omega | (simp; done) | (simp; omega)), trivial, trivial, trivial, trivial, trivial, trivial⟩ ?_
                      rw [IntWalk.i64_in ((i : Int) + 1) (by omega)]
                      cases h10 : (((m.getD i default).line) != ((i : Int) + 1))
                      · -- ((m.getD i default).line) != ((i : Int) + 1) is false
                        have h10k := h10; simp only [Bool.and_eq_true, Bool.or_eq_true, Bool.and_eq_false_iff, Bool.or_eq_false_iff, decide_eq_true_eq, decide_eq_false_iff_not, beq_iff_eq, bne_iff_ne, ne_eq, Bool.not_eq_true', Bool.not_eq_false', beq_eq_false_iff_ne, bne_eq_false_iff_eq] at h10k
                        refine AAny.run hT (fun _ => false) (fuel := 6) [53, 54, 55] [3, 8, 58, 59, 99, 105, 114, 117] (fz' := true) (l' := #[true, true, true, true, true, true, true, true, true, true, true, true, true, true, true, true, true, true, true, true, true, true, true, true, true, true, true, true, true, true, true, true, true, true, true, true, true, true, true, true, true, true, true, true, true, true, true, true, true, true, true, true, true, true, true, true, false, false, false, false, false, false]) (fr' := ⟨[(3, .slice (toksAV l) l.length own4), (8, .slice (toksAV m) m.length own6), (58, .int .i64 ((l.length : Nat) : Int)), (59, .int .i64 (i : Int)), (99, .bool false), (105, .bool true), (114, .bool false), (117, .dat (((toksAV m : List AV).drop (i * 5)).take 5))], [[.int .i64 0, .int .i64 0, .int .i64 0], [.int .i64 0, .int .i64 0, .int .i64 0]], [], [], 0⟩) (σ' := σ) (ob := True ∧ True ∧ (0 ≤ ((i : Int) : Int) ∧ ((i : Int) : Int) < (m.length : Nat) ∧ i * 5 ≤ (toksAV m : List AV).length) ∧ True) (by kernel_rfl) (by kernel_rfl) ⟨trivial, trivial, (by rw [toksAV_length]; omega), trivial⟩ ?_
                        rw [toksAV_at m i (by omega)]
                        refine AAny.run hT (fun _ => false) (fuel := 0) [56, 57, 58, 59, 60, 61] [3, 8, 58, 59, 123] (fz' := true) (l' := #[true, true, true, true, true, true, true, true, true, true, true, true, true, true, true, true, true, true, true, true, true, true, true, true, true, true, true, true, true, true, true, true, true, true, true, true, true, true, true, true, true, true, true, true, true, true, true, true, true, true, true, true, true, true, true, true, true, true, true, true, true, true]) (fr' := ⟨[(3, .slice (toksAV l) l.length own4), (8, .slice (toksAV m) m.length own6), (58, .int .i64 ((l.length : Nat) : Int)), (59, .int .i64 (i : Int)), (123, .bool (((m.getD i default).col) != 1))], [[.int .i64 0, .int .i64 0, .int .i64 0], [.int .i64 0, .int .i64 0, .int .i64 0]], [], [], 0⟩) (σ' := σ) (ob := (4 ≤ ([.int .i64 ((m.getD i default).kind), .str ((m.getD i default).text), .int .u64 ((m.getD i default).n), .int .i64 ((m.getD i default).line), .int .i64 ((m.getD i default).col)] : List AV).length) ∧ True ∧ True ∧ True ∧ True ∧ True ∧ True) (by kernel_rfl) (by kernel_rfl) ⟨(by first | omega | (simp; done) | (simp; omega)), trivial, trivial, trivial, trivial, trivial, trivial⟩ ?_
                        refine AAny.done (by kernel_rfl) ?_
                        exact ⟨rfl, rfl⟩
                      · -- ((m.getD i default).line) != ((i : Int) + 1) is true
                        have h10k := h10; simp only [Bool.and_eq_true, Bool.or_eq_true, Bool.and_eq_false_iff, Bool.or_eq_false_iff, decide_eq_true_eq, decide_eq_false_iff_not, beq_iff_eq, bne_iff_ne, ne_eq, Bool.not_eq_true', Bool.not_eq_false', beq_eq_false_iff_ne, bne_eq_false_iff_eq] at h10k
                        refine AAny.run hT (fun _ => false) (fuel := 0) [53, 54, 55, 56, 57, 58, 59, 60, 61] [3, 8, 58, 59, 123] (fz' := true) (l' := #[true, true, true, true, true, true, true, true, true, true, true, true, true, true, true, true, true, true, true, true, true, true, true, true, true, true, true, true, true, true, true, true, true, true, true, true, true, true, true, true, true, true, true, true, true, true, true, true, true, true, true, true, true, true, true, true, true, true, true, true, true, true]) (fr' := ⟨[(3, .slice (toksAV l) l.length own4), (8, .slice (toksAV m) m.length own6), (58, .int .i64 ((l.length : Nat) : Int)), (59, .int .i64 (i : Int)), (123, .bool true)], [[.int .i64 0, .int .i64 0, .int .i64 0], [.int .i64 0, .int .i64 0, .int .i64 0]], [], [], 0⟩) (σ' := σ) (ob := True ∧ True ∧ True ∧ True ∧ True ∧ True ∧ True ∧ True ∧ True ∧ True) (by kernel_rfl) (by kernel_rfl) ⟨trivial, trivial, trivial, trivial, trivial, trivial, trivial, trivial, trivial, trivial⟩ ?_
                        refine AAny.done (by kernel_rfl) ?_
                        exact ⟨rfl, rfl⟩
                  · -- ((l.getD i default).n) != ((m.getD i default).n) is true
                    have h8k := h8; simp only [Bool.and_eq_true, Bool.or_eq_true, Bool.and_eq_false_iff, Bool.or_eq_false_iff, decide_eq_true_eq, decide_eq_false_iff_not, beq_iff_eq, bne_iff_ne, ne_eq, Bool.not_eq_true', Bool.not_eq_false', beq_eq_false_iff_ne, bne_eq_false_iff_eq] at h8k
                    refine AAny.run hT (fun _ => false) (fuel := 0) [38, 39, 40, 41, 42, 43, 44, 45, 46, 47, 48, 49, 50, 51, 52, 53, 54, 55, 56, 57, 58, 59, 60, 61] [3, 8, 58, 59, 123] (fz' := true) (l' := #[true, true, true, true, true, true, true, true, true, true, true, true, true, true, true, true, true, true, true, true, true, true, true, true, true, true, true, true, true, true, true, true, true, true, true, true, true, true, true, true, true, true, true, true, true, true, true, true, true, true, true, true, true, true, true, true, true, true, true, true, true, true]) (fr' := ⟨[(3, .slice (toksAV l) l.length own4), (8, .slice (toksAV m) m.length own6), (58, .int .i64 ((l.length : Nat) : Int)), (59, .int .i64 (i : Int)), (123, .bool true)], [[.int .i64 0, .int .i64 0, .int .i64 0], [.int .i64 0, .int .i64 0, .int .i64 0]], [], [], 0⟩) (σ' := σ) (ob := True ∧ True ∧ True ∧ True ∧ True ∧ True ∧ True ∧ True ∧ True ∧ True ∧ True ∧ True ∧ True ∧ True ∧ True ∧ True ∧ True ∧ True ∧ True ∧ True ∧ True ∧ True ∧ True ∧ True ∧ True) (by kernel_rfl) (by kernel_rfl) ⟨trivial, trivial, trivial, trivial, trivial, trivial, trivial, trivial, trivial, trivial, trivial, trivial, trivial, trivial, trivial, trivial, trivial, trivial, trivial, trivial, trivial, trivial, trivial, trivial, trivial⟩ ?_
                    refine AAny.done (by kernel_rfl) ?_
                    exact ⟨rfl, rfl⟩
                · -- !(((l.getD i default).text) == ((m.getD i default).text)) is true
                  have h7k := h7; simp only [Bool.and_eq_true, Bool.or_eq_true, Bool.and_eq_false_iff, Bool.or_eq_false_iff, decide_eq_true_eq, decide_eq_false_iff_not, beq_iff_eq, bne_iff_ne, ne_eq, Bool.not_eq_true', Bool.not_eq_false', beq_eq_false_iff_ne, bne_eq_false_iff_eq] at h7k
                  refine AAny.run hT (fun _ => false) (fuel := 0) [25, 26, 27, 28, 29, 30, 31, 32, 33, 34, 35, 36, 37, 38, 39, 40, 41, 42, 43, 44, 45, 46, 47, 48, 49, 50, 51, 52, 53, 54, 55, 56, 57, 58, 59, 60, 61] [3, 8, 58, 59, 123] (fz' := true) (l' := #[true, true, true, true, true, true, true, true, true, true, true, true, true, true, true, true, true, true, true, true, true, true, true, true, true, true, true, true, true, true, true, true, true, true, true, true, true, true, true, true, true, true, true, true, true, true, true, true, true, true, true, true, true, true, true, true, true, true, true, true, true, true]) (fr' := ⟨[(3, .slice (toksAV l) l.length own4), (8, .slice (toksAV m) m.length own6), (58, .int .i64 ((l.length : Nat) : Int)), (59, .int .i64 (i : Int)), (123, .bool true)], [[.int .i64 0, .int .i64 0, .int .i64 0], [.int .i64 0, .int .i64 0, .int .i64 0]], [], [], 0⟩) (σ' := σ) (ob := True ∧ True ∧ True ∧ True ∧ True ∧ True ∧ True ∧ True ∧ True ∧ True ∧ True ∧ True ∧ True ∧ True ∧ True ∧ True ∧ True ∧ True ∧ True ∧ True ∧ True ∧ True ∧ True ∧ True ∧ True ∧ True ∧ True ∧ True ∧ True ∧ True ∧ True ∧ True ∧ True ∧ True ∧ True ∧ True ∧ True ∧ True) (by kernel_rfl) (by kernel_rfl) ⟨trivial, trivial, trivial, trivial, trivial, trivial, trivial, trivial, trivial, trivial, trivial, trivial, trivial, trivial, trivial, trivial, trivial, trivial, trivial, trivial, trivial, trivial, trivial, trivial, trivial, trivial, trivial, trivial, trivial, trivial, trivial, trivial, trivial, trivial, trivial, trivial, trivial, trivial⟩ ?_
                  refine AAny.done (by kernel_rfl) ?_
                  exact ⟨rfl, rfl⟩
              · -- ((l.getD i default).kind) != ((m.getD i default).kind) is true
                have h6k := h6; simp only [Bool.and_eq_true, Bool.or_eq_true, Bool.and_eq_false_iff, Bool.or_eq_false_iff, decide_eq_true_eq, decide_eq_false_iff_not, beq_iff_eq, bne_iff_ne, ne_eq, Bool.not_eq_true', Bool.not_eq_false', beq_eq_false_iff_ne, bne_eq_false_iff_eq] at h6k
                refine AAny.run hT (fun _ => false) (fuel := 0) [12, 13, 14, 15, 16, 17, 18, 19, 20, 21, 22, 23, 24, 25, 26, 27, 28, 29, 30, 31, 32, 33, 34, 35, 36, 37, 38, 39, 40, 41, 42, 43, 44, 45, 46, 47, 48, 49, 50, 51, 52, 53, 54, 55, 56, 57, 58, 59, 60, 61] [3, 8, 58, 59, 123] (fz' := true) (l' := #[true, true, true, true, true, true, true, true, true, true, true, true, true, true, true, true, true, true, true, true, true, true, true, true, true, true, true, true, true, true, true, true, true, true, true, true, true, true, true, true, true, true, true, true, true, true, true, true, true, true, true, true, true, true, true, true, true, true, true, true, true, true]) (fr' := ⟨[(3, .slice (toksAV l) l.length own4), (8, .slice (toksAV m) m.length own6), (58, .int .i64 ((l.length : Nat) : Int)), (59, .int .i64 (i : Int)), (123, .bool true)], [[.int .i64 0, .int .i64 0, .int .i64 0], [.int .i64 0, .int .i64 0, .int .i64 0]], [], [], 0⟩) (σ' := σ) (ob := True ∧ True ∧ True ∧ True ∧ True ∧ True ∧ True ∧ True ∧ True ∧ True ∧ True ∧ True ∧ True ∧ True ∧ True ∧ True ∧ True ∧ True ∧ True ∧ True ∧ True ∧ True ∧ True ∧ True ∧ True ∧ True ∧ True ∧ True ∧ True ∧ True ∧ True ∧ True ∧ True ∧ True ∧ True ∧ True ∧ True ∧ True ∧ True ∧ True ∧ True ∧ True ∧ True ∧ True ∧ True ∧ True ∧ True ∧ True ∧ True ∧ True ∧ True) (by kernel_rfl) (by kernel_rfl) ⟨trivial, trivial, trivial, trivial, trivial, trivial, trivial, trivial, trivial, trivial, trivial, trivial, trivial, trivial, trivial, trivial, trivial, trivial, trivial, trivial, trivial, trivial, trivial, trivial, trivial, trivial, trivial, trivial, trivial, trivial, trivial, trivial, trivial, trivial, trivial, trivial, trivial, trivial, trivial, trivial, trivial, trivial, trivial, trivial, trivial, trivial, trivial, trivial, trivial, trivial, trivial⟩ ?_
                refine AAny.done (by kernel_rfl) ?_
                exact ⟨rfl, rfl⟩
            -- on
            refine ACode.cond (t := (((l.getD i default).kind) != ((m.getD i default).kind)) || ((!(((l.getD i default).text) == ((m.getD i default).text))) || ((((l.getD i default).n) != ((m.getD i default).n)) || ((decide (((i : Int) + 1) < ((l.length : Nat) : Int))) && ((((m.getD i default).line) != ((i : Int) + 1)) || (((m.getD i default).col) != 1)))))) (by kernel_rfl) (fun h11 => ?_) (fun h11 => ?_)
            · -- true
              have h11k := h11; simp only [Bool.and_eq_true, Bool.or_eq_true, Bool.and_eq_false_iff, Bool.or_eq_false_iff, decide_eq_true_eq, decide_eq_false_iff_not, beq_iff_eq, bne_iff_ne, ne_eq, Bool.not_eq_true', Bool.not_eq_false', beq_eq_false_iff_ne, bne_eq_false_iff_eq] at h11k
              refine ACode.seq ?_
              refine ACode.run hT (fun _ => false) [2] (fr' := ⟨[(2, .bool false)], [[.int .i64 0, .int .i64 0, .int .i64 0], [.int .i64 0, .int .i64 0, .int .i64 0]], [], [], 0⟩) (σ' := σ) (ob := True ∧ True) (by kernel_rfl) ⟨trivial, trivial⟩ ?_
              refine ACode.ret ?_
              refine retQ.ret (.bool false) (by kernel_rfl) ?_
              exfalso
              obtain ⟨q1, q2, q3, q4⟩ := hk i (by omega)
              rw [q1, q2, q3] at h11
              simp only [bne_self_eq_false, beq_self_eq_true, Bool.not_true, Bool.false_or, Bool.and_eq_true, decide_eq_true_eq] at h11
              obtain ⟨r1, r2⟩ := q4 (by omega)
              rw [r1, r2] at h11
              simp at h11
            · -- false
              have h11k := h11; simp only [Bool.and_eq_true, Bool.or_eq_true, Bool.and_eq_false_iff, Bool.or_eq_false_iff, decide_eq_true_eq, decide_eq_false_iff_not, beq_iff_eq, bne_iff_ne, ne_eq, Bool.not_eq_true', Bool.not_eq_false', beq_eq_false_iff_ne, bne_eq_false_iff_eq] at h11k
              refine ACode.skip ?_
              refine ACode.run hT (fun _ => false) [3, 8, 58, 59] (fr' := ⟨[(3, .slice (toksAV l) l.length own4), (8, .slice (toksAV m) m.length own6), (58, .int .i64 ((l.length : Nat) : Int)), (59, .int .i64 (IntKind.i64.wrap ((i : Int) + 1)))], [[.int .i64 0, .int .i64 0, .int .i64 0], [.int .i64 0, .int .i64 0, .int .i64 0]], [], [], 0⟩) (σ' := σ) (ob := True ∧ True ∧ True) (by kernel_rfl) ⟨trivial, trivial, trivial⟩ ?_
              rw [IntWalk.i64_in ((i : Int) + 1) (by omega)]
              refine ⟨by kernel_rfl, _, ?_, i + 1, rfl, rfl, ?_, rfl⟩
              · omega
              · exact (by omega)
          · -- false
            have h5k := of_decide_eq_false h5
            refine ACode.exit ?_
            refine ACode.seq ?_
            refine ACode.run hT (fun _ => false) [2] (fr' := ⟨[(2, .bool true)], [[.int .i64 0, .int .i64 0, .int .i64 0], [.int .i64 0, .int .i64 0, .int .i64 0]], [], [], 0⟩) (σ' := σ) (ob := True ∧ True) (by kernel_rfl) ⟨trivial, trivial⟩ ?_
            refine ACode.ret ?_
            refine retQ.ret (.bool true) (by kernel_rfl) ?_
            exact ⟨rfl, rfl⟩

theorem lexS_big (t : List UInt8) (h : ¬ t.length ≤ 8192) : lexS t = ([], 10, 1, 1) := by unfold lexS; rw [if_pos (by omega)]

theorem lexBack_walk (t : List UInt8) (σ : St) : ACalls Tryd.prog 4 [.str t] σ (fun e s => σ = s ∧ e = .ret (.bool true)) := by
  by_cases h : t.length ≤ 8192
  · rcases lexS_cases t h with ⟨l, hl, h1, h2, h3⟩ | ⟨ln, cl, hl⟩
    · obtain ⟨m, hm, hml, hk⟩ : ∃ m : List Tok, ((backT l).length ≤ 8192 → lexS (backT l) = (m, 0, 0, 0)) ∧ m.length = l.length ∧ ∀ i, i < l.length → (m.getD i default).kind = (l.getD i default).kind ∧ (m.getD i default).text = (l.getD i default).text ∧ (m.getD i default).n = (l.getD i default).n ∧ (i + 1 < l.length → (m.getD i default).line = i + 1 ∧ (m.getD i default).col = 1) := by
        by_cases hb : (backT l).length ≤ 8192
        · have hz : (lexS t).2.1 = 0 := by rw [hl]
          have hb' : (backT (lexS t).1).length ≤ 8192 := by rw [hl]; exact hb
          have := back_plain t h hz hb'
          rw [hl] at this
          obtain ⟨q1, q2, q3⟩ := this
          exact ⟨(lexS (backT l)).1, fun _ => by rw [← q1], q2, q3⟩
        · refine ⟨(List.range l.length).map fun i => ⟨(l.getD i default).kind, (l.getD i default).text, (l.getD i default).n, i + 1, 1⟩, fun h9 => absurd h9 hb, by simp, fun i hi => ?_⟩
          simp [List.getD, hi]
      exact lexBack_ok t l m σ hl (by omega) (fun i => Nat.le_trans (h3 i) h) (fun i hi hs => by rw [List.take_of_length_le hi] at hs ⊢; exact hm hs) hml hk
    · exact lexBack_err t 3 ln cl σ hl (by decide)
  · exact lexBack_err t 10 1 1 σ (lexS_big t h) (by decide)

end Go.AE

