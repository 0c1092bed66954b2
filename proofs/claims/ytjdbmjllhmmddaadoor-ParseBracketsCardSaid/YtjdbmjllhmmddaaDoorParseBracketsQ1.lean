/- Parts of the proof of a law, in build order: PAny, LexJ, PBr, PBl, P13, PNz, P14. -/
import Derived.Test.YtjdbmjllhmmddaaDoorParseBracketsQ0
import Derived.IntWalk
set_option maxRecDepth 2000
set_option linter.unusedVariables false
set_option linter.unusedSimpArgs false
/- Parse of any text. -/
set_option linter.unusedVariables false
set_option linter.unusedSimpArgs false
set_option maxRecDepth 4000
namespace Go.AE
open Go.Proofs

def parseT (n : Nat) (t : List UInt8) : R Pg := if (lexS t).2.1 = 0 then programF n (lexS t).1 pgZ ⟨0, 0⟩ else .bad (lexS t).2.1 (lexS t).2.2.1 (lexS t).2.2.2

theorem lexS_cases' (t : List UInt8) : (∃ l, lexS t = (l, 0, 0, 0) ∧ LOK l ∧ 0 < l.length ∧ l.length ≤ 8193 ∧ l.length ≤ t.length + 1 ∧ t.length ≤ 8192) ∨ ∃ k ln cl, lexS t = ([], k, ln, cl) ∧ (k = 3 ∨ k = 10) := by
  by_cases h : t.length ≤ 8192
  · by_cases hz : (lexS t).2.1 = 0
    · refine .inl ?_
      have e := lexS_eq t h
      rw [e] at hz
      obtain ⟨h0, xs, l, c, e1, h1, h2, h3⟩ := lexR_toks _ hz
      have h2' : xs.length ≤ t.length := h2
      refine ⟨xs ++ [⟨0, [], 0, l, c⟩], by rw [e, ← e1, ← h0], ⟨?_, ?_, ?_⟩, by simp, ?_, ?_, h⟩
      · simp only [List.length_append, List.length_cons, List.length_nil]; omega
      · simp [List.getD]
      · intro i
        by_cases hi : i < xs.length
        · have e2 : (xs ++ [(⟨0, [], 0, l, c⟩ : Tok)]).getD i default = xs[i] := by
            rw [List.getD_eq_getElem?_getD, List.getElem?_append_left hi, List.getElem?_eq_getElem hi]; rfl
          rw [e2]
          have := h3 _ (List.getElem_mem hi)
          exact Nat.le_trans this h
        · by_cases hi2 : i = xs.length
          · subst hi2; simp [List.getD]
          · have : (xs ++ [(⟨0, [], 0, l, c⟩ : Tok)]).getD i default = default := by
              rw [List.getD_eq_getElem?_getD, List.getElem?_eq_none (by simp; omega)]; rfl
            rw [this]
            show (0 : Nat) ≤ _
            omega
      · simp only [List.length_append, List.length_cons, List.length_nil]; omega
      · simp only [List.length_append, List.length_cons, List.length_nil]; omega
    · refine .inr ?_
      rw [lexS_eq t h] at hz ⊢
      obtain ⟨h1, h2⟩ := lexR_none _ hz
      exact ⟨3, (lexR ⟨t, 1, 1⟩).2.2.1, (lexR ⟨t, 1, 1⟩).2.2.2, by rw [← h1, ← h2], .inl rfl⟩
  · refine .inr ⟨10, 1, 1, ?_, .inr rfl⟩
    unfold lexS
    rw [if_pos (by omega)]

theorem parseT_out (t : List UInt8) (n : Nat) (hn : 163862 ≤ n) : parseT n t ≠ .out := by
  rcases lexS_cases' t with ⟨l, e, L, h0, h1, _⟩ | ⟨k, ln, cl, e, hk⟩ <;> unfold parseT <;> rw [e]
  · rw [if_pos rfl]; exact program_out L h0 (by omega)
  · rw [if_neg (by simp only; omega)]; intro h; cases h
theorem parse_any (t : List UInt8) (n : Nat) (hn : 163862 ≤ n) (σ : St) : ACalls Tryd.prog 17 [.str t] σ (fun e s => σ = s ∧ e = .ret (parseAV (parseT n t))) := by
  rcases lexS_cases' t with ⟨l, e, L, h0, h1, _⟩ | ⟨k, ln, cl, e, hk⟩
  · have hp : parseT n t = programF n l pgZ ⟨0, 0⟩ := by unfold parseT; rw [e, if_pos rfl]
    rw [hp]
    exact parse_ok t l e L.len n (program_out L h0 (by omega)) σ
  · have hp : parseT n t = .bad k ln cl := by unfold parseT; rw [e, if_neg (by simp only; omega)]
    rw [hp]
    exact parse_err t k ln cl e (by omega) σ

end Go.AE

/- Two texts, one behind the other: what the lexer makes of them. -/
set_option linter.unusedVariables false
set_option linter.unusedSimpArgs false
namespace Go.AE

theorem lineN_leJ (l : List UInt8) : lineN l ≤ l.length := takeWhile_le _ _
def shR (d : Int) (r : Rd) : Rd := ⟨r.rest, r.line + d, r.col⟩
def shT (d : Int) (x : Tok) : Tok := { x with line := x.line + d }
theorem advL_sh (d : Int) : ∀ (s : List UInt8) (L : Int), advL (L + d) s = advL L s + d
  | [], L => rfl
  | b :: s, L => by
    simp only [advL]
    split
    · rw [show L + d + 1 = L + 1 + d by omega, advL_sh d s]
    · exact advL_sh d s L
theorem skipS_sh (d : Int) (n : Nat) (r : Rd) : skipS n (shR d r) = shR d (skipS n r) := by simp only [skipS, shR, advL_sh]
theorem blankS_sh (d : Int) (n : Nat) : ∀ (r : Rd), r.rest.length ≤ n → blankS (shR d r) = shR d (blankS r) := by
  induction n with
  | zero =>
    intro r h
    have : r.rest = [] := List.length_eq_zero_iff.1 (by omega)
    rw [blankS_step (shR d r), if_pos (show (shR d r).rest = [] from this), blankS_step r, if_pos this]
  | succ n ih =>
    intro r h
    by_cases hne : r.rest = []
    · rw [blankS_step (shR d r), if_pos (show (shR d r).rest = [] from hne), blankS_step r, if_pos hne]
    · have hp : 1 ≤ r.rest.length := by cases hr : r.rest with | nil => exact absurd hr hne | cons _ _ => simp
      rw [blankS_step (shR d r), if_neg (show ¬ (shR d r).rest = [] from hne), blankS_step r, if_neg hne]
      show (if [47, 47].isPrefixOf r.rest then blankS (skipS (lineN r.rest) (shR d r)) else if blankB (r.rest.getD 0 0) then blankS (skipS 1 (shR d r)) else shR d r) = _
      split
      · rename_i hl
        have := lineN_pos hl
        rw [skipS_sh, ih _ (by simp only [skipS, List.length_drop]; omega)]
      · split
        · rw [skipS_sh, ih _ (by simp only [skipS, List.length_drop]; omega)]
        · rfl
theorem nextT_sh (d : Int) (r : Rd) : nextT (shR d r) = (shT d (nextT r).1, (nextT r).2) := by
  unfold nextT
  show (if wordB (r.rest.getD 0 0) then wordT (shR d r) else if (r.rest.getD 0 0) = 35 then realT (shR d r) else signT (shR d r)) = _
  split
  · unfold wordT
    show (if isWordS (r.rest.take (wordN r.rest)) then _ else if isNameS (r.rest.take (wordN r.rest)) then _ else _) = _
    dsimp only
    split
    · rfl
    · split <;> rfl
  · split
    · rfl
    · unfold signT
      show (if twoB r.rest then _ else if signB (r.rest.getD 0 0) then _ else _) = _
      split
      · rfl
      · split <;> rfl
theorem nextR_sh (d : Int) (r : Rd) : nextR (shR d r) = shR d (nextR r) := by
  unfold nextR
  show (if wordB (r.rest.getD 0 0) then skipS (wordN r.rest) (shR d r) else if (r.rest.getD 0 0) = 35 then realR (shR d r) else signR (shR d r)) = _
  split
  · exact skipS_sh _ _ _
  · split
    · unfold realR
      show skipS (wordN (r.rest.drop 1)) (skipS 1 (shR d r)) = _
      rw [skipS_sh, skipS_sh]
    · unfold signR
      show (if twoB r.rest then skipS 2 (shR d r) else if signB (r.rest.getD 0 0) then skipS 1 (shR d r) else shR d r) = _
      split
      · exact skipS_sh _ _ _
      · split
        · exact skipS_sh _ _ _
        · rfl
theorem lexR_sh (d : Int) (r : Rd) : (lexR (shR d r)).1 = (lexR r).1.map (shT d) ∧ (lexR (shR d r)).2.1 = (lexR r).2.1 := by
  refine lexR_ind (P := fun r x => (lexR (shR d r)).1 = x.1.map (shT d) ∧ (lexR (shR d r)).2.1 = x.2.1) ?_ ?_ ?_ r
  · intro r he
    rw [lexR_step, blankS_sh d _ r (Nat.le_refl _), if_pos (show (shR d (blankS r)).rest = [] from he)]
    exact ⟨rfl, rfl⟩
  · intro r hne hok ih
    rw [lexR_step (shR d r), blankS_sh d _ r (Nat.le_refl _), if_neg (show ¬ (shR d (blankS r)).rest = [] from hne), nextT_sh, if_pos hok, nextR_sh]
    obtain ⟨i1, i2⟩ := ih
    unfold glue
    rw [i2]
    split
    · exact ⟨by rw [i1]; rfl, i2⟩
    · exact ⟨i1, i2⟩
  · intro r hne hok
    rw [lexR_step (shR d r), blankS_sh d _ r (Nat.le_refl _), if_neg (show ¬ (shR d (blankS r)).rest = [] from hne), nextT_sh, if_neg (by simp only [hok]; simp)]
    exact ⟨rfl, rfl⟩

theorem blankS_app (b : List UInt8) (n : Nat) : ∀ (r : Rd), r.rest.length ≤ n → ((blankS r).rest = [] → blankS (app r (10 :: b)) = blankS ⟨b, (blankS r).line + 1, 1⟩) ∧ ((blankS r).rest ≠ [] → blankS (app r (10 :: b)) = app (blankS r) (10 :: b)) := by
  have base : ∀ r : Rd, r.rest = [] → ((blankS r).rest = [] → blankS (app r (10 :: b)) = blankS ⟨b, (blankS r).line + 1, 1⟩) ∧ ((blankS r).rest ≠ [] → blankS (app r (10 :: b)) = app (blankS r) (10 :: b)) := by
    intro r h
    have e : blankS r = r := by rw [blankS_step, if_pos h]
    rw [e]
    refine ⟨fun _ => ?_, fun h9 => absurd h h9⟩
    simp only [app, h, List.nil_append]
    exact blankS_nl _ _ _
  induction n with
  | zero => intro r h; exact base r (List.length_eq_zero_iff.1 (by omega))
  | succ n ih =>
    intro r h
    by_cases hne : r.rest = []
    · exact base r hne
    · have hp : 1 ≤ r.rest.length := by cases hr : r.rest with | nil => exact absurd hr hne | cons _ _ => simp
      have e0 : (app r (10 :: b)).rest.getD 0 0 = r.rest.getD 0 0 := getD_app _ _ hne
      have epre : [47, 47].isPrefixOf (app r (10 :: b)).rest = [47, 47].isPrefixOf r.rest := by
        show [47, 47].isPrefixOf (r.rest ++ 10 :: b) = _
        match r.rest, hne with
        | [x], _ => simp [List.isPrefixOf]
        | x :: y :: v, _ => simp [List.isPrefixOf]
      have elin : lineN (app r (10 :: b)).rest = lineN r.rest := by
        show lineN (r.rest ++ 10 :: b) = _
        unfold lineN
        rw [takeWhile_stop _ _ _ _ (by decide)]
      rw [blankS_step r, if_neg hne, blankS_step (app r (10 :: b)), if_neg (show ¬ (app r (10 :: b)).rest = [] by simp [app]), epre, e0, elin]
      split
      · rename_i hl
        have := lineN_pos hl
        rw [skipS_app _ _ _ (lineN_leJ _)]
        exact ih _ (by simp only [skipS, List.length_drop]; omega)
      · split
        · rw [skipS_app _ _ _ hp]
          exact ih _ (by simp only [skipS, List.length_drop]; omega)
        · exact ⟨fun h9 => absurd h9 hne, fun _ => rfl⟩

theorem lexR_join (b : List UInt8) (r : Rd) : ((lexR r).2.1 ≠ 0 → lexR (app r (10 :: b)) = lexR r) ∧ ((lexR r).2.1 = 0 → ∀ xs l c, (lexR r).1 = xs ++ [⟨0, [], 0, l, c⟩] → lexR (app r (10 :: b)) = glue xs (lexR ⟨b, l + 1, 1⟩)) := by
  refine lexR_ind (P := fun r x => (x.2.1 ≠ 0 → lexR (app r (10 :: b)) = x) ∧ (x.2.1 = 0 → ∀ xs l c, x.1 = xs ++ [⟨0, [], 0, l, c⟩] → lexR (app r (10 :: b)) = glue xs (lexR ⟨b, l + 1, 1⟩))) ?_ ?_ ?_ r
  · intro r he
    refine ⟨fun h => absurd rfl h, fun _ xs l c e => ?_⟩
    have e1 : ([] : List Tok) ++ [⟨0, [], 0, (blankS r).line, (blankS r).col⟩] = xs ++ [⟨0, [], 0, l, c⟩] := e
    obtain ⟨e2, e3⟩ := List.append_inj' e1 rfl
    injection e3 with e3 _
    injection e3 with _ _ _ e4 e5
    subst e2; subst e4
    rw [lexR_blank ((blankS_app b _ r (Nat.le_refl _)).1 he)]
    unfold glue
    split <;> rfl
  · intro r hne hok ih
    have hb := (blankS_app b _ r (Nat.le_refl _)).2 hne
    have hstep : lexR (app r (10 :: b)) = glue [(nextT (blankS r)).1] (lexR (app (nextR (blankS r)) (10 :: b))) := by
      rw [lexR_step, hb, if_neg (by simp [app]), nextT_app (.inl rfl) _ _ hne, if_pos hok, nextR_app (.inl rfl) _ _ hne]
    rw [hstep]
    refine ⟨fun h => ?_, fun h xs l c e => ?_⟩
    · rw [glue_err] at h
      rw [ih.1 h]
    · rw [glue_err] at h
      obtain ⟨_, ys, l', c', e', _⟩ := lexR_toks _ h
      unfold glue at e
      rw [if_pos h, e'] at e
      have e1 : ((nextT (blankS r)).1 :: ys) ++ [⟨0, [], 0, l', c'⟩] = xs ++ [⟨0, [], 0, l, c⟩] := by rw [← e]; simp
      obtain ⟨e2, e3⟩ := List.append_inj' e1 rfl
      injection e3 with e3 _
      injection e3 with _ _ _ e4 e5
      rw [ih.2 h ys l' c' e', glue_glue, e4, ← e2]
      rfl
  · intro r hne hok
    refine ⟨fun _ => ?_, fun h => by cases h⟩
    have hb := (blankS_app b _ r (Nat.le_refl _)).2 hne
    rw [lexR_step, hb, if_neg (by simp [app]), nextT_app (.inl rfl) _ _ hne, if_neg (by simp only [hok]; simp)]


end Go.AE

/- A bracket around an expression, in plain Lean. -/
set_option linter.unusedVariables false
set_option linter.unusedSimpArgs false
set_option maxRecDepth 4000
namespace Go.AE
open Go.Proofs

def prt (e : Ex) : Sm := ⟨5, [], rtZ, plZ, e, 0, [], [], [], 1, 10⟩
def pgOf (e : Ex) : Pg := ⟨[], [], [], [⟨[prt e], 1, 1⟩]⟩
def brA : List Tok := [⟨2, [116, 104, 114, 101, 97, 100], 0, 1, 1⟩, ⟨5, [123], 0, 1, 8⟩, ⟨2, [112, 114, 105, 110, 116], 0, 1, 10⟩]
def brB (L : Int) (C : Int) : List Tok := [⟨5, [59], 0, L, C⟩, ⟨5, [125], 0, L, C + 2⟩, ⟨0, [], 0, L, C + 3⟩]
def brP : Tok := ⟨5, [40], 0, 1, 16⟩
def brQ (L : Int) : Tok := ⟨5, [41], 0, L, 1⟩
def br1 (S : List Tok) (L : Int) : List Tok := brA ++ (S ++ brB L 1)
def br2 (S : List Tok) (L : Int) : List Tok := brA ++ (brP :: (S ++ (brQ L :: brB L 2)))

theorem head_br (m : Nat) (X : List Tok) : programF (m + 4) (brA ++ X) pgZ ⟨0, 0⟩ =
    ((((exprF m (brA ++ X) ⟨3, 1⟩).bind fun e s => (mustF (brA ++ X) [59] s).bind fun _ s => .ok (prt e) s).bind fun v s => blockLoopF (m + 1) (brA ++ X) [v] s).bind fun x s => programF (m + 3) (brA ++ X) ⟨[], [], [], [⟨x, 1, 1⟩]⟩ s) := by kernel_rfl
theorem head_in (m : Nat) (X : List Tok) : exprF (m + 7) (brA ++ (brP :: X)) ⟨3, 1⟩ =
    ((((exprF m (brA ++ (brP :: X)) ⟨4, 2⟩).bind fun e s => (mustF (brA ++ (brP :: X)) [41] s).bind fun _ s => (upF s).bind fun _ s => .ok e s).bind fun e s => chainLoopF (m + 3) (brA ++ (brP :: X)) 2 e s).bind fun e s => chainLoopF (m + 4) (brA ++ (brP :: X)) 1 e s).bind fun e s => chainLoopF (m + 5) (brA ++ (brP :: X)) 0 e s := by kernel_rfl

theorem must_ok {l : List Tok} {w : List UInt8} {s s1 : PS} {t : Tok} (h : mustF l w s = .ok t s1) : s.pos < l.length ∧ s1 = ⟨s.pos + 1, s.dep⟩ ∧ (l.getD s.pos default).text = w := by
  unfold mustF at h
  obtain ⟨t, s2, e1, h⟩ := R.bind_ok h
  have e1' := e1
  unfold peekF at e1
  split at e1
  · rename_i hp
    cases e1
    obtain ⟨b, s3, e2, h⟩ := R.bind_ok h
    unfold eatF at e2
    obtain ⟨b2, s4, e3, e2⟩ := R.bind_ok e2
    unfold isF at e3
    rw [e1', R.ok_bind] at e3
    cases e3
    split at e2
    · rename_i hc
      cases e2
      simp only [Bool.not_true, Bool.false_eq_true, if_false] at h
      cases h
      simp only [Bool.and_eq_true, beq_iff_eq] at hc
      exact ⟨hp, rfl, hc.2⟩
    · cases e2
      simp at h
  · cases e1
theorem must_is {l : List Tok} {w : List UInt8} {s : PS} (hp : s.pos < l.length) (hk : (l.getD s.pos default).kind = 5) (ht : (l.getD s.pos default).text = w) : mustF l w s = .ok (l.getD s.pos default) ⟨s.pos + 1, s.dep⟩ := by
  have hpk : peekF l s = .ok (l.getD s.pos default) s := by unfold peekF; rw [if_pos hp]
  unfold mustF
  rw [hpk, R.ok_bind]
  unfold eatF isF
  rw [hpk, R.ok_bind, R.ok_bind, hk, ht]
  simp [R.bind]
theorem eat_is {l : List Tok} {w : List UInt8} {s : PS} (hp : s.pos < l.length) (hk : (l.getD s.pos default).kind = 5) (ht : (l.getD s.pos default).text = w) : eatF l w s = .ok true ⟨s.pos + 1, s.dep⟩ := by
  have hpk : peekF l s = .ok (l.getD s.pos default) s := by unfold peekF; rw [if_pos hp]
  unfold eatF isF
  rw [hpk, R.ok_bind, R.ok_bind, hk, ht]
  simp
theorem chain_stop {l : List Tok} {k v : Nat} {e : Ex} {s : PS} (hp : s.pos < l.length) (ht : (l.getD s.pos default).text = [59]) : chainLoopF (k + 1) l v e s = .ok e s := by
  have hpk : peekF l s = .ok (l.getD s.pos default) s := by unfold peekF; rw [if_pos hp]
  rw [chainLoopF, hpk, R.ok_bind, ht, (sg_pair v).1]
  simp

theorem br_at {X S Y : List Tok} {i : Nat} (hi : i < S.length) : (X ++ (S ++ Y)).getD (X.length + i) default = S.getD i default := by
  simp only [List.getD_eq_getElem?_getD]
  rw [List.getElem?_append_right (by omega), Nat.add_sub_cancel_left, List.getElem?_append_left hi]
theorem br_end {X S Y : List Tok} (i : Nat) : (X ++ (S ++ Y)).getD (X.length + S.length + i) default = Y.getD i default := by
  simp only [List.getD_eq_getElem?_getD]
  rw [List.getElem?_append_right (by omega), List.getElem?_append_right (by omega)]
  congr 2; omega

theorem br1_in (S : List Tok) (L : Int) (i : Nat) (h1 : 3 ≤ i) (h2 : i < S.length + 3) : (br1 S L).getD i default = S.getD (i - 3) default := by
  have h : brA.length = 3 := rfl
  have e := br_at (X := brA) (S := S) (Y := brB L 1) (i := i - 3) (by omega)
  rw [h, show 3 + (i - 3) = i by omega] at e
  exact e
theorem br2_in (S : List Tok) (L : Int) (i : Nat) (h1 : 3 ≤ i) (h2 : i < S.length + 3) : (br2 S L).getD (i + 1) default = S.getD (i - 3) default := by
  have h : (brA ++ [brP]).length = 4 := rfl
  have e := br_at (X := brA ++ [brP]) (S := S) (Y := brQ L :: brB L 2) (i := i - 3) (by omega)
  rw [h, show 4 + (i - 3) = i + 1 by omega] at e
  have : br2 S L = (brA ++ [brP]) ++ (S ++ (brQ L :: brB L 2)) := by simp [br2]
  rw [this]; exact e

def brC (S : List Tok) (L : Int) : Lk where
  F := True
  l1 := br1 S L
  l2 := br2 S L
  lo := 3
  hi := S.length + 4
  d := 1
  δ := 1
  dl := fun _ => trivial
  d0 := by decide
  inl := by
    intro i h1 h2
    simp only [br2, brA, brB, List.length_append, List.length_cons, List.length_nil]
    omega
  tok := by
    intro i h1 h2
    by_cases h3 : i < S.length + 3
    · have e1 := br1_in S L i h1 h3
      have e2 := br2_in S L i h1 h3
      rw [e1, e2]
      exact .refl _
    · have h4 : i = S.length + 3 := by omega
      subst h4
      have e1 : (br1 S L).getD (S.length + 3) default = ⟨5, [59], 0, L, 1⟩ := by
        rw [br1, show S.length + 3 = brA.length + S.length + 0 by simp only [brA, List.length_cons, List.length_nil]; omega, br_end]; rfl
      have e2 : (br2 S L).getD (S.length + 3 + 1) default = brQ L := by
        have : br2 S L = (brA ++ [brP]) ++ (S ++ (brQ L :: brB L 2)) := by simp [br2]
        rw [this, show S.length + 3 + 1 = (brA ++ [brP]).length + S.length + 0 by simp only [brA, List.length_append, List.length_cons, List.length_nil]; omega, br_end]; rfl
      rw [e1, e2]
      exact ⟨rfl, rfl, .inr ⟨trivial, rfl, rfl, rfl⟩⟩

theorem br1_end (S : List Tok) (L : Int) (i : Nat) : (br1 S L).getD (S.length + 3 + i) default = (brB L 1).getD i default := by
  rw [br1, show S.length + 3 + i = brA.length + S.length + i by simp only [brA, List.length_cons, List.length_nil]; omega, br_end]
theorem br2_end (S : List Tok) (L : Int) (i : Nat) : (br2 S L).getD (S.length + 4 + i) default = (brQ L :: brB L 2).getD i default := by
  have : br2 S L = (brA ++ [brP]) ++ (S ++ (brQ L :: brB L 2)) := by simp [br2]
  rw [this, show S.length + 4 + i = (brA ++ [brP]).length + S.length + i by simp only [brA, List.length_append, List.length_cons, List.length_nil]; omega, br_end]
theorem br1_len (S : List Tok) (L : Int) : (br1 S L).length = S.length + 6 := by simp only [br1, brA, brB, List.length_append, List.length_cons, List.length_nil]; omega
theorem br2_len (S : List Tok) (L : Int) : (br2 S L).length = S.length + 8 := by simp only [br2, brA, brB, List.length_append, List.length_cons, List.length_nil]; omega

theorem tail_br {l : List Tok} {m n : Nat} {e : Ex} {s : PS} {p : Pg} {s' : PS} (hd : s.dep = 1) (hl : s.pos + 2 < l.length) (h1 : (l.getD s.pos default).kind = 5 ∧ (l.getD s.pos default).text = [59]) (h2 : (l.getD (s.pos + 1) default).kind = 5 ∧ (l.getD (s.pos + 1) default).text = [125]) (h3 : (l.getD (s.pos + 2) default).kind = 0)
    (h : ((((R.ok e s).bind fun e s => (mustF l [59] s).bind fun _ s => .ok (prt e) s).bind fun v s => blockLoopF (m + 1) l [v] s).bind fun x s => programF (n + 1) l ⟨[], [], [], [⟨x, 1, 1⟩]⟩ s) = .ok p s') : p = pgOf e := by
  rw [R.ok_bind, must_is (by omega) h1.1 h1.2, R.ok_bind, R.ok_bind, blockLoopF, eat_is (by show s.pos + 1 < _; omega) h2.1 h2.2, R.ok_bind] at h
  simp only [Bool.not_true, Bool.false_eq_true, if_false] at h
  have hup : upF ⟨s.pos + 1 + 1, s.dep⟩ = .ok () ⟨s.pos + 1 + 1, s.dep - 1⟩ := by unfold upF; rw [if_pos (by rw [hd]; rfl)]
  rw [hup, R.ok_bind, R.ok_bind, programF, if_neg (by simp [pgBig])] at h
  have hpk : peekF l ⟨s.pos + 1 + 1, s.dep - 1⟩ = .ok (l.getD (s.pos + 2) default) ⟨s.pos + 1 + 1, s.dep - 1⟩ := by unfold peekF; rw [if_pos (show s.pos + 1 + 1 < _ by omega)]
  rw [hpk, R.ok_bind, h3] at h
  simp only [beq_self_eq_true, if_true] at h
  cases h
  rfl

theorem br_plain (S : List Tok) (L : Int) (m : Nat) (L1 : LOK (br1 S L)) (hm : 10 * (S.length + 6) + 7 ≤ m) {p q : Pg} {s1 s2 : PS} (h1 : programF (m + 4) (br1 S L) pgZ ⟨0, 0⟩ = .ok p s1) (h2 : programF (m + 11) (br2 S L) pgZ ⟨0, 0⟩ = .ok q s2) :
    ∃ e1 e2 s, VE e1 e2 ∧ p = pgOf e1 ∧ q = pgOf e2 ∧ exprF m (br1 S L) ⟨3, 1⟩ = .ok e1 s := by
  rw [br1, head_br] at h1
  have hl1 := br1_len S L
  have hl2 := br2_len S L
  cases hx : exprF m (br1 S L) ⟨3, 1⟩ with
  | out => rw [br1] at hx; rw [hx] at h1; cases h1
  | bad a b c => rw [br1] at hx; rw [hx] at h1; cases h1
  | ok e1 s =>
    have hN := (expr_nice L1 (s := ⟨3, 1⟩) ⟨by rw [hl1]; simp only; omega, by decide, by decide⟩ (n := m) (by rw [hl1]; simp only; omega)).ok e1 s hx
    obtain ⟨hpos, hG, hdep⟩ := hN
    simp only at hpos hdep
    have hgp := hG.pos
    rw [hl1] at hgp
    rw [← br1, hx] at h1
    have h1' := h1
    obtain ⟨x, sx, hb, _⟩ := R.bind_ok h1'
    obtain ⟨v, sv, hb2, _⟩ := R.bind_ok hb
    rw [R.ok_bind] at hb2
    obtain ⟨t, st, hb3, _⟩ := R.bind_ok hb2
    obtain ⟨_, _, htx⟩ := must_ok hb3
    have hle : s.pos ≤ S.length + 3 := by
      by_cases h9 : s.pos ≤ S.length + 3
      · exact h9
      · exfalso
        have : s.pos = S.length + 3 + 1 ∨ s.pos = S.length + 3 + 2 := by omega
        rcases this with e | e <;> rw [e, br1_end] at htx <;> simp [brB] at htx
    have hsim := (ex_sim (brC S L) m).expr ⟨3, 1⟩ (Nat.le_refl _) e1 s hx (by show s.pos < S.length + 4; omega)
    have h2a := h2
    rw [br2, show m + 11 = (m + 7) + 4 from rfl, head_br, head_in] at h2a
    rw [← br2] at h2a
    have hs : (brC S L).sh ⟨3, 1⟩ = ⟨4, 2⟩ := rfl
    rw [hs] at hsim
    rcases hsim with ⟨e2, he2, hv⟩ | ⟨_, hno⟩
    · have he2 : exprF m (br2 S L) ⟨4, 2⟩ = .ok e2 ⟨s.pos + 1, s.dep + 1⟩ := he2
      rw [he2, R.ok_bind] at h2a
      have h2b := h2a
      obtain ⟨x2, sx2, g, _⟩ := R.bind_ok h2b
      obtain ⟨v2, sv2, g, _⟩ := R.bind_ok g
      obtain ⟨y2, sy2, g, _⟩ := R.bind_ok g
      obtain ⟨y3, sy3, g, _⟩ := R.bind_ok g
      obtain ⟨y4, sy4, g, _⟩ := R.bind_ok g
      obtain ⟨y5, sy5, g, _⟩ := R.bind_ok g
      obtain ⟨y6, sy6, g, _⟩ := R.bind_ok g
      obtain ⟨_, _, htx2⟩ := must_ok g
      simp only at htx2
      have heq : s.pos = S.length + 3 := by
        by_cases h9 : s.pos = S.length + 3
        · exact h9
        · exfalso
          have ht := (brC S L).tok s.pos (by show 3 ≤ s.pos; omega) (by show s.pos < S.length + 4; omega)
          have e1' : ((brC S L).l1.getD s.pos default).text = [59] := htx
          have e2' : ((brC S L).l2.getD (s.pos + (brC S L).d) default).text = [41] := htx2
          have a1 := br1_in S L s.pos (by omega) (by omega)
          have a2 := br2_in S L s.pos (by omega) (by omega)
          rw [a1] at htx
          rw [a2, htx] at htx2
          simp at htx2
      have hm2 : mustF (br2 S L) [41] ⟨s.pos + 1, s.dep + 1⟩ = .ok ((br2 S L).getD (s.pos + 1) default) ⟨s.pos + 1 + 1, s.dep + 1⟩ := by
        refine must_is (by rw [hl2]; simp only; omega) ?_ htx2
        simp only
        rw [heq, show S.length + 3 + 1 = S.length + 4 + 0 by omega, br2_end]; rfl
      have hup : upF ⟨s.pos + 1 + 1, s.dep + 1⟩ = .ok () ⟨s.pos + 1 + 1, s.dep⟩ := by
        unfold upF
        rw [if_pos (by rw [hdep]; rfl)]
        simp only
        congr 2; omega
      rw [hm2, R.ok_bind, hup, R.ok_bind, R.ok_bind] at h2a
      have k0 : (br2 S L).getD (s.pos + 1 + 1) default = ⟨5, [59], 0, L, 2⟩ := by
        rw [heq, show S.length + 3 + 1 + 1 = S.length + 4 + 1 by omega, br2_end]; rfl
      have k1 : (br2 S L).getD (s.pos + 1 + 1 + 1) default = ⟨5, [125], 0, L, 2 + 2⟩ := by
        rw [heq, show S.length + 3 + 1 + 1 + 1 = S.length + 4 + 2 by omega, br2_end]; rfl
      have k2 : (br2 S L).getD (s.pos + 1 + 1 + 2) default = ⟨0, [], 0, L, 2 + 3⟩ := by
        rw [heq, show S.length + 3 + 1 + 1 + 2 = S.length + 4 + 3 by omega, br2_end]; rfl
      have hst : ∀ (k v : Nat), chainLoopF (k + 1) (br2 S L) v e2 ⟨s.pos + 1 + 1, s.dep⟩ = .ok e2 ⟨s.pos + 1 + 1, s.dep⟩ := fun k v => chain_stop (by rw [hl2]; simp only; omega) (by simp only; rw [k0])
      rw [hst, R.ok_bind, hst, R.ok_bind, hst] at h2a
      refine ⟨e1, e2, s, hv, ?_, ?_, rfl⟩
      · refine tail_br (l := br1 S L) (s := s) hdep (by rw [hl1]; omega) ?_ ?_ ?_ h1
        · rw [heq, show S.length + 3 = S.length + 3 + 0 from rfl, br1_end]; exact ⟨rfl, rfl⟩
        · rw [heq, br1_end]; exact ⟨rfl, rfl⟩
        · rw [heq, br1_end]; rfl
      · refine tail_br (l := br2 S L) (s := ⟨s.pos + 1 + 1, s.dep⟩) hdep (by rw [hl2]; simp only; omega) ?_ ?_ ?_ h2a
        · simp only; rw [k0]; exact ⟨rfl, rfl⟩
        · simp only; rw [k1]; exact ⟨rfl, rfl⟩
        · simp only; rw [k2]
    · exfalso
      obtain ⟨x2, sx2, g, _⟩ := R.bind_ok h2a
      obtain ⟨v2, sv2, g, _⟩ := R.bind_ok g
      obtain ⟨y2, sy2, g, _⟩ := R.bind_ok g
      obtain ⟨y3, sy3, g, _⟩ := R.bind_ok g
      obtain ⟨y4, sy4, g, _⟩ := R.bind_ok g
      obtain ⟨y5, sy5, g, _⟩ := R.bind_ok g
      obtain ⟨y6, sy6, g, _⟩ := R.bind_ok g
      exact hno y6 sy6 g

end Go.AE

/- The two texts of ParseBrackets, as tokens. -/
set_option linter.unusedVariables false
set_option linter.unusedSimpArgs false
set_option maxRecDepth 4000
namespace Go.AE
open Go.Proofs

theorem lexTok' {r r1 r2 : Rd} {x : Tok} (hb : blankS r = r1) (hne : (match r1.rest with | [] => false | _ => true) = true) (h1 : nextT r1 = (x, true)) (h2 : nextR r1 = r2) : lexR r = glue [x] (lexR r2) := by
  rw [lexR_step, hb, h1, h2, if_neg (by intro h; rw [h] at hne; cases hne)]
  simp
theorem lexb_th (X : List UInt8) : lexR ⟨116 :: 104 :: 114 :: 101 :: 97 :: 100 :: 32 :: X, 1, 1⟩ = glue [⟨2, [116, 104, 114, 101, 97, 100], 0, 1, 1⟩] (lexR ⟨32 :: X, 1, 7⟩) := lexTok' (r1 := ⟨116 :: 104 :: 114 :: 101 :: 97 :: 100 :: 32 :: X, 1, 1⟩) (by kernel_rfl) (by kernel_rfl) (by kernel_rfl) (by kernel_rfl)
theorem lexb_lb (X : List UInt8) : lexR ⟨32 :: 123 :: X, 1, 7⟩ = glue [⟨5, [123], 0, 1, 8⟩] (lexR ⟨X, 1, 9⟩) := lexTok' (r1 := ⟨123 :: X, 1, 8⟩) (by kernel_rfl) (by kernel_rfl) (by kernel_rfl) (by kernel_rfl)
theorem lexb_pr (X : List UInt8) : lexR ⟨32 :: 112 :: 114 :: 105 :: 110 :: 116 :: 10 :: X, 1, 9⟩ = glue [⟨2, [112, 114, 105, 110, 116], 0, 1, 10⟩] (lexR ⟨10 :: X, 1, 15⟩) := lexTok' (r1 := ⟨112 :: 114 :: 105 :: 110 :: 116 :: 10 :: X, 1, 10⟩) (by kernel_rfl) (by kernel_rfl) (by kernel_rfl) (by kernel_rfl)
theorem lexb_prs (X : List UInt8) : lexR ⟨32 :: 112 :: 114 :: 105 :: 110 :: 116 :: 32 :: X, 1, 9⟩ = glue [⟨2, [112, 114, 105, 110, 116], 0, 1, 10⟩] (lexR ⟨32 :: X, 1, 15⟩) := lexTok' (r1 := ⟨112 :: 114 :: 105 :: 110 :: 116 :: 32 :: X, 1, 10⟩) (by kernel_rfl) (by kernel_rfl) (by kernel_rfl) (by kernel_rfl)
theorem lexb_lp (X : List UInt8) : lexR ⟨32 :: 40 :: X, 1, 15⟩ = glue [⟨5, [40], 0, 1, 16⟩] (lexR ⟨X, 1, 17⟩) := lexTok' (r1 := ⟨40 :: X, 1, 16⟩) (by kernel_rfl) (by kernel_rfl) (by kernel_rfl) (by kernel_rfl)
theorem lexb_end (L : Int) : lexR ⟨[59, 32, 125], L, 1⟩ = (brB L 1, 0, 0, 0) := by kernel_rfl
theorem lexb_end2 (L : Int) : lexR ⟨[41, 59, 32, 125], L, 1⟩ = (brQ L :: brB L 2, 0, 0, 0) := by kernel_rfl

def brT1 (s : List UInt8) : List UInt8 := ([116, 104, 114, 101, 97, 100, 32, 123, 32, 112, 114, 105, 110, 116, 10] ++ s) ++ [10, 59, 32, 125]
def brT2 (s : List UInt8) : List UInt8 := ([116, 104, 114, 101, 97, 100, 32, 123, 32, 112, 114, 105, 110, 116, 32, 40, 10] ++ s) ++ [10, 41, 59, 32, 125]

theorem br_lex (s : List UInt8) (hs : s.length ≤ 4096) : (∃ S L, lexS (brT1 s) = (br1 S L, 0, 0, 0) ∧ lexS (brT2 s) = (br2 S L, 0, 0, 0) ∧ S.length ≤ s.length) ∨ ∃ k ln cl, lexS (brT1 s) = ([], k, ln, cl) ∧ k ≠ 0 := by
  have e1 : lexS (brT1 s) = glue (brA.take 3) (lexR (app ⟨s, 2, 1⟩ (10 :: [59, 32, 125]))) := by
    rw [lexS_eq _ (by simp only [brT1, List.length_append, List.length_cons, List.length_nil]; omega)]
    have e : brT1 s = 116 :: 104 :: 114 :: 101 :: 97 :: 100 :: 32 :: 123 :: 32 :: 112 :: 114 :: 105 :: 110 :: 116 :: 10 :: (s ++ 10 :: [59, 32, 125]) := by
      simp only [brT1, List.append_assoc, List.cons_append, List.nil_append]
    rw [e, lexb_th, lexb_lb, lexb_pr, lexR_blank (blankS_nl _ _ _), glue_glue, glue_glue]
    rfl
  have e2 : lexS (brT2 s) = glue (brA ++ [brP]) (lexR (app ⟨s, 2, 1⟩ (10 :: [41, 59, 32, 125]))) := by
    rw [lexS_eq _ (by simp only [brT2, List.length_append, List.length_cons, List.length_nil]; omega)]
    have e : brT2 s = 116 :: 104 :: 114 :: 101 :: 97 :: 100 :: 32 :: 123 :: 32 :: 112 :: 114 :: 105 :: 110 :: 116 :: 32 :: 40 :: 10 :: (s ++ 10 :: [41, 59, 32, 125]) := by
      simp only [brT2, List.append_assoc, List.cons_append, List.nil_append]
    rw [e, lexb_th, lexb_lb, lexb_prs, lexb_lp, lexR_blank (blankS_nl _ _ _), glue_glue, glue_glue, glue_glue]
    rfl
  by_cases hz : (lexR ⟨s, 2, 1⟩).2.1 = 0
  · refine .inl ?_
    obtain ⟨_, xs, l, c, q1, _, q2, _⟩ := lexR_toks _ hz
    have j1 := (lexR_join [59, 32, 125] ⟨s, 2, 1⟩).2 hz xs l c q1
    have j2 := (lexR_join [41, 59, 32, 125] ⟨s, 2, 1⟩).2 hz xs l c q1
    refine ⟨xs, l + 1, ?_, ?_, q2⟩
    · rw [e1, j1, lexb_end, glue_glue]
      simp [glue, br1, brA]
    · rw [e2, j2, lexb_end2, glue_glue]
      simp [glue, br2]
  · refine .inr ?_
    have j1 := (lexR_join [59, 32, 125] ⟨s, 2, 1⟩).1 hz
    obtain ⟨h1, h2⟩ := lexR_none _ hz
    refine ⟨3, (lexR ⟨s, 2, 1⟩).2.2.1, (lexR ⟨s, 2, 1⟩).2.2.2, ?_, by decide⟩
    rw [e1, j1]
    unfold glue
    rw [if_neg hz, ← h1, ← h2]

end Go.AE

set_option linter.unusedVariables false
set_option linter.unusedSimpArgs false
set_option maxRecDepth 4000
namespace Go.AE
open Go.Proofs

theorem strAV_at : ∀ (l : List (List UInt8)) (j : Nat), j < l.length → ((strAV l).drop (j * 1)).take 1 = [.str (l.getD j [])]
  | [], j, h => by simp at h
  | e :: l, 0, h => by simp [strAV]
  | e :: l, j + 1, h => by
   have := strAV_at l j (by simpa using h)
   rw [show (j + 1) * 1 = 1 + j * 1 from by omega, ← List.drop_drop]
   simpa [strAV] using this

theorem same_walk (x : List (List UInt8)) (σ : St) (hx : x.length ≤ 1000000) : ACalls Tryd.prog 18 [.slice (strAV x) x.length .no, .slice (strAV x) x.length .no] σ (fun e s => σ = s ∧ e = .ret (.bool true)) := by
  refine ACalls.enter hT Tryd.func18 rfl (by kernel_rfl) ?_
  refine ACode.seq ?_
  refine ACode.run hT nh [0, 1] (fr' := ⟨[(0, .slice (strAV x) x.length .no), (1, .slice (strAV x) x.length .no)], [], [], [], 0⟩) (σ' := σ) (ob := Tt 2) (by kernel_rfl) (tt 2) ?_
  refine ACode.seq ?_
  refine ACode.seq ?_
  refine ACode.run hT nh [0, 1, 10] (fr' := ⟨[(0, .slice (strAV x) x.length .no), (1, .slice (strAV x) x.length .no), (10, .bool (((x.length : Nat) : Int) != ((x.length : Nat) : Int)))], [], [], [], 0⟩) (σ' := σ) (ob := Tt 6) (by kernel_rfl) (tt 6) ?_
  refine ACode.cond (t := ((x.length : Nat) : Int) != ((x.length : Nat) : Int)) (by kernel_rfl) (fun h1 => ?_) (fun h1 => ?_)
  ·
   have h1k := h1; simp only [Bool.and_eq_true, Bool.or_eq_true, Bool.and_eq_false_iff, Bool.or_eq_false_iff, decide_eq_true_eq, decide_eq_false_iff_not, beq_iff_eq, bne_iff_ne, ne_eq, Bool.not_eq_true', Bool.not_eq_false', beq_eq_false_iff_ne, bne_eq_false_iff_eq] at h1k
   refine ACode.seq ?_
   refine ACode.run hT nh [4] (fr' := ⟨[(4, .bool false)], [], [], [], 0⟩) (σ' := σ) (ob := Tt 2) (by kernel_rfl) (tt 2) ?_
   refine ACode.ret ?_
   refine retQ.ret (.bool false) (by kernel_rfl) ?_
   exfalso; revert h1; simp
  ·
   have h1k := h1; simp only [Bool.and_eq_true, Bool.or_eq_true, Bool.and_eq_false_iff, Bool.or_eq_false_iff, decide_eq_true_eq, decide_eq_false_iff_not, beq_iff_eq, bne_iff_ne, ne_eq, Bool.not_eq_true', Bool.not_eq_false', beq_eq_false_iff_ne, bne_eq_false_iff_eq] at h1k
   refine ACode.skip ?_
   refine ACode.seq ?_
   refine ACode.seq ?_
   refine ACode.run hT nh [0, 1, 12, 13] (fr' := ⟨[(0, .slice (strAV x) x.length .no), (1, .slice (strAV x) x.length .no), (12, .i ((x.length : Nat) : Int)), (13, .i 0)], [], [], [], 0⟩) (σ' := σ) (ob := Tt 4) (by kernel_rfl) (tt 4) ?_
   refine ACode.block ?_
   refine ACode.loop [0, 1, 12, 13] 0 0 (fun n0 fr σ' => ∃ (i : Nat), fr = ⟨[(0, .slice (strAV x) x.length .no), (1, .slice (strAV x) x.length .no), (12, .i ((x.length : Nat) : Int)), (13, .i (i : Int))], [], [], [], 0⟩ ∧ σ = σ' ∧ (i ≤ x.length) ∧ n0 = x.length - i) _ (by kernel_rfl) ⟨0, rfl, rfl, Nat.zero_le _, rfl⟩ ?_
   rintro n0 fr σ' ⟨i, rfl, rfl, hi, rfl⟩
   refine ACode.seq ?_
   refine ACode.run hT nh [0, 1, 12, 13, 14] (fr' := ⟨[(0, .slice (strAV x) x.length .no), (1, .slice (strAV x) x.length .no), (12, .i ((x.length : Nat) : Int)), (13, .i (i : Int)), (14, .bool (decide ((i : Int) < ((x.length : Nat) : Int))))], [], [], [], 0⟩) (σ' := σ) (ob := Tt 2) (by kernel_rfl) (tt 2) ?_
   refine ACode.seq ?_
   refine ACode.cond (t := decide ((i : Int) < ((x.length : Nat) : Int))) (by kernel_rfl) (fun h2 => ?_) (fun h2 => ?_)
   ·
    have h2k := of_decide_eq_true h2
    refine ACode.skip ?_
    refine ACode.seq ?_
    refine ACode.block ?_
    refine ACode.seq ?_
    refine ACode.run hT nh [0, 1, 5, 12, 13] (fr' := ⟨[(0, .slice (strAV x) x.length .no), (1, .slice (strAV x) x.length .no), (5, .i (i : Int)), (12, .i ((x.length : Nat) : Int)), (13, .i (i : Int))], [], [], [], 0⟩) (σ' := σ) (ob := Tt 3) (by kernel_rfl) (tt 3) ?_
    refine ACode.seq ?_
    refine ACode.draw [] 0 [] 0 (by kernel_rfl) (by kernel_rfl) ?_
    refine AAny.run hT nh (fuel := 6) [0, 1, 2] [0, 1, 5, 12, 13, 18] (fz' := true) (l' := #[true, true, true, false, false, false, false, false, false]) (fr' := ⟨[(0, .slice (strAV x) x.length .no), (1, .slice (strAV x) x.length .no), (5, .i (i : Int)), (12, .i ((x.length : Nat) : Int)), (13, .i (i : Int)), (18, .dat (((strAV x : List AV).drop (i * 1)).take 1))], [], [], [], 0⟩) (σ' := σ) (ob := True ∧ True ∧ (0 ≤ ((i : Int) : Int) ∧ ((i : Int) : Int) < (x.length : Nat) ∧ i * 1 ≤ (strAV x : List AV).length) ∧ True) (by kernel_rfl) (by kernel_rfl) ⟨trivial, trivial, (by first | (rw [strAV_length]; omega) | omega | (simp; done) | decide), trivial⟩ ?_
    rw [strAV_at x i (by omega)]
    refine AAny.run hT nh (fuel := 2) [3, 4, 5, 6] [0, 1, 12, 13, 19, 22] (fz' := true) (l' := #[true, true, true, true, true, true, true, false, false]) (fr' := ⟨[(0, .slice (strAV x) x.length .no), (1, .slice (strAV x) x.length .no), (12, .i ((x.length : Nat) : Int)), (13, .i (i : Int)), (19, .str (x.getD i [])), (22, .dat (((strAV x : List AV).drop (i * 1)).take 1))], [], [], [], 0⟩) (σ' := σ) (ob := True ∧ True ∧ True ∧ (0 ≤ ((i : Int) : Int) ∧ ((i : Int) : Int) < (x.length : Nat) ∧ i * 1 ≤ (strAV x : List AV).length) ∧ True) (by kernel_rfl) (by kernel_rfl) ⟨trivial, trivial, trivial, (by first | (rw [strAV_length]; omega) | omega | (simp; done) | decide), trivial⟩ ?_
    rw [strAV_at x i (by omega)]
    refine AAny.run hT nh (fuel := 0) [7, 8] [0, 1, 12, 13, 24] (fz' := true) (l' := #[true, true, true, true, true, true, true, true, true]) (fr' := ⟨[(0, .slice (strAV x) x.length .no), (1, .slice (strAV x) x.length .no), (12, .i ((x.length : Nat) : Int)), (13, .i (i : Int)), (24, .bool (!((x.getD i []) == (x.getD i []))))], [], [], [], 0⟩) (σ' := σ) (ob := Tt 3) (by kernel_rfl) (by kernel_rfl) (tt 3) ?_
    refine AAny.done (by kernel_rfl) ?_
    refine ACode.cond (t := !((x.getD i []) == (x.getD i []))) (by kernel_rfl) (fun h3 => ?_) (fun h3 => ?_)
    ·
     have h3k := h3; simp only [Bool.and_eq_true, Bool.or_eq_true, Bool.and_eq_false_iff, Bool.or_eq_false_iff, decide_eq_true_eq, decide_eq_false_iff_not, beq_iff_eq, bne_iff_ne, ne_eq, Bool.not_eq_true', Bool.not_eq_false', beq_eq_false_iff_ne, bne_eq_false_iff_eq] at h3k
     refine ACode.seq ?_
     refine ACode.run hT nh [4] (fr' := ⟨[(4, .bool false)], [], [], [], 0⟩) (σ' := σ) (ob := Tt 2) (by kernel_rfl) (tt 2) ?_
     refine ACode.ret ?_
     refine retQ.ret (.bool false) (by kernel_rfl) ?_
     exfalso; revert h3; simp
    ·
     have h3k := h3; simp only [Bool.and_eq_true, Bool.or_eq_true, Bool.and_eq_false_iff, Bool.or_eq_false_iff, decide_eq_true_eq, decide_eq_false_iff_not, beq_iff_eq, bne_iff_ne, ne_eq, Bool.not_eq_true', Bool.not_eq_false', beq_eq_false_iff_ne, bne_eq_false_iff_eq] at h3k
     refine ACode.skip ?_
     refine ACode.run hT nh [0, 1, 12, 13] (fr' := ⟨[(0, .slice (strAV x) x.length .no), (1, .slice (strAV x) x.length .no), (12, .i ((x.length : Nat) : Int)), (13, .i (IntKind.i64.wrap ((i : Int) + 1)))], [], [], [], 0⟩) (σ' := σ) (ob := Tt 3) (by kernel_rfl) (tt 3) ?_
     rw [IntWalk.i64_in ((i : Int) + 1) (by omega)]
     refine ⟨by kernel_rfl, _, ?_, i + 1, rfl, rfl, ?_, rfl⟩
     ·omega
     ·omega
   ·
    have h2k := of_decide_eq_false h2
    refine ACode.exit ?_
    refine ACode.seq ?_
    refine ACode.run hT nh [4] (fr' := ⟨[(4, .bool true)], [], [], [], 0⟩) (σ' := σ) (ob := Tt 2) (by kernel_rfl) (tt 2) ?_
    refine ACode.ret ?_
    refine retQ.ret (.bool true) (by kernel_rfl) ?_
    exact ⟨rfl, rfl⟩

end Go.AE

/- What is wrong is told by a number that is not 0. -/
set_option linter.unusedVariables false
set_option linter.unusedSimpArgs false
namespace Go.AE
variable {α β : Type}

class NZ {α : Type} (x : R α) : Prop where
  nz : ∀ a b c, x = .bad a b c → a ≠ 0
instance {s : PS} {v : α} : NZ (R.ok v s) := ⟨fun _ _ _ h => by cases h⟩
instance {b c : Int} : NZ (R.bad 4 b c : R α) := ⟨fun _ _ _ h => by cases h; decide⟩
instance {b c : Int} : NZ (R.bad 10 b c : R α) := ⟨fun _ _ _ h => by cases h; decide⟩
instance : NZ (R.out : R α) := ⟨fun _ _ _ h => by cases h⟩
theorem NZ.bindI {x : R α} {f : α → PS → R β} (hx : NZ x) (hf : ∀ a s1, NZ (f a s1)) : NZ (x.bind f) :=
  ⟨fun a b c h => by
    cases x with
    | ok v s1 => exact (hf v s1).nz a b c h
    | bad a' b' c' => cases h; exact hx.nz _ _ _ rfl
    | out => cases h⟩
theorem NZ.iteI {c : Prop} [Decidable c] {x y : R α} (hx : NZ x) (hy : NZ y) : NZ (if c then x else y) := by split; exact hx; exact hy
instance {l : List Tok} {s : PS} : NZ (peekF l s) := by unfold peekF; (repeat' first | with_reducible (refine NZ.bindI ?_ (fun _ _ => ?_)) | with_reducible (refine NZ.iteI ?_ ?_) | infer_instance)
instance {l : List Tok} {s : PS} : NZ (nextF l s) := by unfold nextF; (repeat' first | with_reducible (refine NZ.bindI ?_ (fun _ _ => ?_)) | with_reducible (refine NZ.iteI ?_ ?_) | infer_instance)
instance {l : List Tok} {w : List UInt8} {s : PS} : NZ (isF l w s) := by unfold isF; (repeat' first | with_reducible (refine NZ.bindI ?_ (fun _ _ => ?_)) | with_reducible (refine NZ.iteI ?_ ?_) | infer_instance)
instance {l : List Tok} {w : List UInt8} {s : PS} : NZ (eatF l w s) := by unfold eatF; (repeat' first | with_reducible (refine NZ.bindI ?_ (fun _ _ => ?_)) | with_reducible (refine NZ.iteI ?_ ?_) | infer_instance)
instance {l : List Tok} {w : List UInt8} {s : PS} : NZ (mustF l w s) := by unfold mustF; (repeat' first | with_reducible (refine NZ.bindI ?_ (fun _ _ => ?_)) | with_reducible (refine NZ.iteI ?_ ?_) | infer_instance)
instance {l : List Tok} {k : Int} {s : PS} : NZ (kindF l k s) := by unfold kindF; (repeat' first | with_reducible (refine NZ.bindI ?_ (fun _ _ => ?_)) | with_reducible (refine NZ.iteI ?_ ?_) | infer_instance)
instance {t : Tok} {s : PS} : NZ (downF t s) := by unfold downF; (repeat' first | with_reducible (refine NZ.bindI ?_ (fun _ _ => ?_)) | with_reducible (refine NZ.iteI ?_ ?_) | infer_instance)
instance {s : PS} : NZ (upF s) := by unfold upF; (repeat' first | with_reducible (refine NZ.bindI ?_ (fun _ _ => ?_)) | with_reducible (refine NZ.iteI ?_ ?_) | infer_instance)
instance {l : List Tok} {s : PS} : NZ (typF l s) := by unfold typF; (repeat' first | with_reducible (refine NZ.bindI ?_ (fun _ _ => ?_)) | with_reducible (refine NZ.iteI ?_ ?_) | infer_instance)
instance {l : List Tok} {s : PS} : NZ (namedF l s) := by unfold namedF; (repeat' first | with_reducible (refine NZ.bindI ?_ (fun _ _ => ?_)) | with_reducible (refine NZ.iteI ?_ ?_) | infer_instance)
theorem ex_nz (l : List Tok) : ∀ n, (∀ s, NZ (exprF n l s)) ∧ (∀ v s, NZ (chainF n l v s)) ∧ (∀ v e s, NZ (chainLoopF n l v e s)) ∧ (∀ s, NZ (prefixF n l s)) ∧ (∀ s, NZ (atomF n l s))
  | 0 => ⟨fun s => by rw [exprF]; (repeat' first | with_reducible (refine NZ.bindI ?_ (fun _ _ => ?_)) | with_reducible (refine NZ.iteI ?_ ?_) | infer_instance), fun v s => by rw [chainF]; (repeat' first | with_reducible (refine NZ.bindI ?_ (fun _ _ => ?_)) | with_reducible (refine NZ.iteI ?_ ?_) | infer_instance), fun v e s => by rw [chainLoopF]; (repeat' first | with_reducible (refine NZ.bindI ?_ (fun _ _ => ?_)) | with_reducible (refine NZ.iteI ?_ ?_) | infer_instance), fun s => by rw [prefixF]; (repeat' first | with_reducible (refine NZ.bindI ?_ (fun _ _ => ?_)) | with_reducible (refine NZ.iteI ?_ ?_) | infer_instance), fun s => by rw [atomF]; (repeat' first | with_reducible (refine NZ.bindI ?_ (fun _ _ => ?_)) | with_reducible (refine NZ.iteI ?_ ?_) | infer_instance)⟩
  | n + 1 => by
    obtain ⟨h1, h2, h3, h4, h5⟩ := ex_nz l n
    exact ⟨fun s => by rw [exprF]; (repeat' first | with_reducible (refine NZ.bindI ?_ (fun _ _ => ?_)) | with_reducible (refine NZ.iteI ?_ ?_) | infer_instance), fun v s => by rw [chainF]; (repeat' first | with_reducible (refine NZ.bindI ?_ (fun _ _ => ?_)) | with_reducible (refine NZ.iteI ?_ ?_) | infer_instance), fun v e s => by rw [chainLoopF]; (repeat' first | with_reducible (refine NZ.bindI ?_ (fun _ _ => ?_)) | with_reducible (refine NZ.iteI ?_ ?_) | infer_instance), fun s => by rw [prefixF]; (repeat' first | with_reducible (refine NZ.bindI ?_ (fun _ _ => ?_)) | with_reducible (refine NZ.iteI ?_ ?_) | infer_instance), fun s => by rw [atomF]; (repeat' first | with_reducible (refine NZ.bindI ?_ (fun _ _ => ?_)) | with_reducible (refine NZ.iteI ?_ ?_) | infer_instance)⟩
instance {n : Nat} {l : List Tok} {s : PS} : NZ (exprF n l s) := (ex_nz l n).1 s
instance {n : Nat} {l : List Tok} {v : Nat} {s : PS} : NZ (chainF n l v s) := (ex_nz l n).2.1 v s
instance {n : Nat} {l : List Tok} {v : Nat} {e : Ex} {s : PS} : NZ (chainLoopF n l v e s) := (ex_nz l n).2.2.1 v e s
instance {n : Nat} {l : List Tok} {s : PS} : NZ (prefixF n l s) := (ex_nz l n).2.2.2.1 s
instance {n : Nat} {l : List Tok} {s : PS} : NZ (atomF n l s) := (ex_nz l n).2.2.2.2 s
instance {n : Nat} {l : List Tok} {s : PS} : NZ (placeF n l s) := by unfold placeF; (repeat' first | with_reducible (refine NZ.bindI ?_ (fun _ _ => ?_)) | with_reducible (refine NZ.iteI ?_ ?_) | infer_instance)
instance {n : Nat} {l : List Tok} {s : PS} : NZ (rightF n l s) := by unfold rightF; (repeat' first | with_reducible (refine NZ.bindI ?_ (fun _ _ => ?_)) | with_reducible (refine NZ.iteI ?_ ?_) | infer_instance)
instance {l : List Tok} {s : PS} : NZ (labelF l s) := by unfold labelF; (repeat' first | with_reducible (refine NZ.bindI ?_ (fun _ _ => ?_)) | with_reducible (refine NZ.iteI ?_ ?_) | infer_instance)
theorem argsLoop_nz (l : List Tok) : ∀ n acc s, NZ (argsLoopF n l acc s)
  | 0, acc, s => by rw [argsLoopF]; (repeat' first | with_reducible (refine NZ.bindI ?_ (fun _ _ => ?_)) | with_reducible (refine NZ.iteI ?_ ?_) | infer_instance)
  | n + 1, acc, s => by have := argsLoop_nz l n; rw [argsLoopF]; (repeat' first | with_reducible (refine NZ.bindI ?_ (fun _ _ => ?_)) | with_reducible (refine NZ.iteI ?_ ?_) | infer_instance)
instance {n : Nat} {l : List Tok} {acc : List Ex} {s : PS} : NZ (argsLoopF n l acc s) := argsLoop_nz l n acc s
instance {n : Nat} {l : List Tok} {s : PS} : NZ (argsF n l s) := by unfold argsF; (repeat' first | with_reducible (refine NZ.bindI ?_ (fun _ _ => ?_)) | with_reducible (refine NZ.iteI ?_ ?_) | infer_instance)
instance {n : Nat} {l : List Tok} {a b : Int} {s : PS} : NZ (letF n l a b s) := by unfold letF; (repeat' first | with_reducible (refine NZ.bindI ?_ (fun _ _ => ?_)) | with_reducible (refine NZ.iteI ?_ ?_) | infer_instance)
theorem sm_nz (l : List Tok) : ∀ n, (∀ s, NZ (blockF n l s)) ∧ (∀ acc s, NZ (blockLoopF n l acc s)) ∧ (∀ nm a b s, NZ (loopF n l nm a b s)) ∧ (∀ a b s, NZ (byNameF n l a b s)) ∧ (∀ a b s, NZ (branchF n l a b s)) ∧ (∀ s, NZ (stmtF n l s))
  | 0 => ⟨fun s => by rw [blockF]; (repeat' first | with_reducible (refine NZ.bindI ?_ (fun _ _ => ?_)) | with_reducible (refine NZ.iteI ?_ ?_) | infer_instance), fun acc s => by rw [blockLoopF]; (repeat' first | with_reducible (refine NZ.bindI ?_ (fun _ _ => ?_)) | with_reducible (refine NZ.iteI ?_ ?_) | infer_instance), fun nm a b s => by rw [loopF]; (repeat' first | with_reducible (refine NZ.bindI ?_ (fun _ _ => ?_)) | with_reducible (refine NZ.iteI ?_ ?_) | infer_instance), fun a b s => by rw [byNameF]; (repeat' first | with_reducible (refine NZ.bindI ?_ (fun _ _ => ?_)) | with_reducible (refine NZ.iteI ?_ ?_) | infer_instance), fun a b s => by rw [branchF]; (repeat' first | with_reducible (refine NZ.bindI ?_ (fun _ _ => ?_)) | with_reducible (refine NZ.iteI ?_ ?_) | infer_instance), fun s => by rw [stmtF]; (repeat' first | with_reducible (refine NZ.bindI ?_ (fun _ _ => ?_)) | with_reducible (refine NZ.iteI ?_ ?_) | infer_instance)⟩
  | n + 1 => by
    obtain ⟨h1, h2, h3, h4, h5, h6⟩ := sm_nz l n
    exact ⟨fun s => by rw [blockF]; (repeat' first | with_reducible (refine NZ.bindI ?_ (fun _ _ => ?_)) | with_reducible (refine NZ.iteI ?_ ?_) | infer_instance), fun acc s => by rw [blockLoopF]; (repeat' first | with_reducible (refine NZ.bindI ?_ (fun _ _ => ?_)) | with_reducible (refine NZ.iteI ?_ ?_) | infer_instance), fun nm a b s => by rw [loopF]; (repeat' first | with_reducible (refine NZ.bindI ?_ (fun _ _ => ?_)) | with_reducible (refine NZ.iteI ?_ ?_) | infer_instance), fun a b s => by rw [byNameF]; (repeat' first | with_reducible (refine NZ.bindI ?_ (fun _ _ => ?_)) | with_reducible (refine NZ.iteI ?_ ?_) | infer_instance), fun a b s => by rw [branchF]; (repeat' first | with_reducible (refine NZ.bindI ?_ (fun _ _ => ?_)) | with_reducible (refine NZ.iteI ?_ ?_) | infer_instance), fun s => by rw [stmtF]; (repeat' first | with_reducible (refine NZ.bindI ?_ (fun _ _ => ?_)) | with_reducible (refine NZ.iteI ?_ ?_) | infer_instance)⟩
instance {n : Nat} {l : List Tok} {s : PS} : NZ (blockF n l s) := (sm_nz l n).1 s
instance {n : Nat} {l : List Tok} {acc : List Sm} {s : PS} : NZ (blockLoopF n l acc s) := (sm_nz l n).2.1 acc s
instance {n : Nat} {l : List Tok} {nm : List UInt8} {a b : Int} {s : PS} : NZ (loopF n l nm a b s) := (sm_nz l n).2.2.1 nm a b s
instance {n : Nat} {l : List Tok} {a b : Int} {s : PS} : NZ (byNameF n l a b s) := (sm_nz l n).2.2.2.1 a b s
instance {n : Nat} {l : List Tok} {a b : Int} {s : PS} : NZ (branchF n l a b s) := (sm_nz l n).2.2.2.2.1 a b s
instance {n : Nat} {l : List Tok} {s : PS} : NZ (stmtF n l s) := (sm_nz l n).2.2.2.2.2 s

theorem recordLoop_nz (l : List Tok) : ∀ n acc s, NZ (recordLoopF n l acc s)
  | 0, acc, s => by rw [recordLoopF]; (repeat' first | with_reducible (refine NZ.bindI ?_ (fun _ _ => ?_)) | with_reducible (refine NZ.iteI ?_ ?_) | infer_instance)
  | n + 1, acc, s => by have := recordLoop_nz l n; rw [recordLoopF]; (repeat' first | with_reducible (refine NZ.bindI ?_ (fun _ _ => ?_)) | with_reducible (refine NZ.iteI ?_ ?_) | infer_instance)
instance {n : Nat} {l : List Tok} {acc : List Nm} {s : PS} : NZ (recordLoopF n l acc s) := recordLoop_nz l n acc s
instance {n : Nat} {l : List Tok} {s : PS} : NZ (recordF n l s) := by unfold recordF; (repeat' first | with_reducible (refine NZ.bindI ?_ (fun _ _ => ?_)) | with_reducible (refine NZ.iteI ?_ ?_) | infer_instance)
theorem paramsLoop_nz (l : List Tok) : ∀ n acc s, NZ (paramsLoopF n l acc s)
  | 0, acc, s => by rw [paramsLoopF]; (repeat' first | with_reducible (refine NZ.bindI ?_ (fun _ _ => ?_)) | with_reducible (refine NZ.iteI ?_ ?_) | infer_instance)
  | n + 1, acc, s => by have := paramsLoop_nz l n; rw [paramsLoopF]; (repeat' first | with_reducible (refine NZ.bindI ?_ (fun _ _ => ?_)) | with_reducible (refine NZ.iteI ?_ ?_) | infer_instance)
instance {n : Nat} {l : List Tok} {acc : List Nm} {s : PS} : NZ (paramsLoopF n l acc s) := paramsLoop_nz l n acc s
instance {n : Nat} {l : List Tok} {s : PS} : NZ (funF n l s) := by unfold funF; (repeat' first | with_reducible (refine NZ.bindI ?_ (fun _ _ => ?_)) | with_reducible (refine NZ.iteI ?_ ?_) | infer_instance)
theorem program_nz (l : List Tok) : ∀ n p s, NZ (programF n l p s)
  | 0, p, s => by rw [programF]; (repeat' first | with_reducible (refine NZ.bindI ?_ (fun _ _ => ?_)) | with_reducible (refine NZ.iteI ?_ ?_) | infer_instance)
  | n + 1, p, s => by have := program_nz l n; rw [programF]; (repeat' first | with_reducible (refine NZ.bindI ?_ (fun _ _ => ?_)) | with_reducible (refine NZ.iteI ?_ ?_) | infer_instance)

end Go.AE

set_option linter.unusedVariables false
set_option linter.unusedSimpArgs false
set_option maxRecDepth 4000
namespace Go.AE
open Go.Proofs

theorem parse_some (t : List UInt8) (σ : St) : ACalls Tryd.prog 17 [.str t] σ (fun e s => σ = s ∧ ∃ (y0 y1 y2 y3 : AV) (fa fb fc : Int), e = .ret (.tuple [.agg [y0, y1, y2, y3], .agg [.i fa, .i fb, .i fc]])) := by
  refine (parse_any t 200000 (by decide) σ).mono ?_
  rintro e s ⟨h, rfl⟩
  refine ⟨h, ?_⟩
  have hne := parseT_out t 200000 (by decide)
  cases hx : parseT 200000 t with
  | out => exact absurd hx hne
  | ok p s1 => exact ⟨_, _, _, _, _, _, _, rfl⟩
  | bad a b c => exact ⟨_, _, _, _, _, _, _, rfl⟩
theorem parse_is (t : List UInt8) (n : Nat) (hn : 163862 ≤ n) (x : R Pg) (h : parseT n t = x) (σ : St) : ACalls Tryd.prog 17 [.str t] σ (fun e s => σ = s ∧ e = .ret (parseAV x)) := by
  subst h
  exact parse_any t n hn σ

theorem same_walk2 (e1 e2 : Ex) (hv : VE e1 e2) (hx : (exT e1).length ≤ 1000000) (σ : St) : ACalls Tryd.prog 18 [.slice (strAV (exT e1)) (exT e1).length .no, .slice (strAV (exT e2)) (exT e2).length .no] σ (fun e s => σ = s ∧ e = .ret (.bool true)) := by
  rw [← hv.text]
  exact same_walk (exT e1) σ hx

theorem brackets_bad1 (s : List UInt8) (a b c : Int) (n1 : Nat) (σ : St) (hn1 : 163862 ≤ n1) (hp1 : parseT n1 (brT1 s) = .bad a b c) (ha : a ≠ 0) : ACalls Tryd.prog 9 [.str s] σ (fun e s2 => σ = s2 ∧ e = .ret (.bool true)) := by
  refine ACalls.enter hT Tryd.func9 rfl (by kernel_rfl) ?_
  refine ACode.seq ?_
  refine ACode.run hT nh [0] (fr' := ⟨[(0, .str s)], [], [], [], 0⟩) (σ' := σ) (ob := Tt 2) (by kernel_rfl) (tt 2) ?_
  refine ACode.seq ?_
  refine ACode.seq ?_
  refine ACode.region ?_
  refine AOps.call (fid := 16) (cap := []) (avs := []) (by kernel_rfl) rfl (by kernel_rfl) (by kernel_rfl) en_16 (by kernel_rfl) (ACalls.mono (alive5_walk _) ?_)
  rintro _ _ ⟨rfl, rfl⟩
  refine AOps.runN hT nh 1 [0, 8] (fr' := ⟨[(0, .str s), (8, .bool false)], [], [], [], 0⟩) (σ' := σ) (ob := Tt 2) (by kernel_rfl) (tt 2) ?_
  refine AOps.nil ?_
  refine ACode.cond (t := false) (by kernel_rfl) (fun h => Bool.noConfusion h) (fun _ => ?_)
  refine ACode.skip ?_
  refine ACode.seq ?_
  refine ACode.seq ?_
  refine ACode.run hT nh [0, 11] (fr' := ⟨[(0, .str s), (11, .bool (decide ((((s) : List UInt8).length : Int) > 4096)))], [], [], [], 0⟩) (σ' := σ) (ob := Tt 4) (by kernel_rfl) (tt 4) ?_
  refine ACode.cond (t := decide ((((s) : List UInt8).length : Int) > 4096)) (by kernel_rfl) (fun h1 => ?_) (fun h1 => ?_)
  ·
   have h1k := of_decide_eq_true h1
   refine ACode.seq ?_
   refine ACode.run hT nh [2] (fr' := ⟨[(2, .bool true)], [], [], [], 0⟩) (σ' := σ) (ob := Tt 2) (by kernel_rfl) (tt 2) ?_
   refine ACode.ret ?_
   refine retQ.ret (.bool true) (by kernel_rfl) ?_
   exact ⟨rfl, rfl⟩
  ·
   have h1k := of_decide_eq_false h1
   refine ACode.skip ?_
   refine ACode.seq ?_
   refine ACode.region ?_
   refine AOps.runN hT nh 3 [0, 15] (fr' := ⟨[(0, .str s), (15, .str (([116, 104, 114, 101, 97, 100, 32, 123, 32, 112, 114, 105, 110, 116, 10] ++ s) ++ [10, 59, 32, 125]))], [], [], [], 0⟩) (σ' := σ) (ob := True ∧ (((([116, 104, 114, 101, 97, 100, 32, 123, 32, 112, 114, 105, 110, 116, 10] : List UInt8).length + (s : List UInt8).length : Nat) : Int) ≤ 9223372036854775807) ∧ ((((([116, 104, 114, 101, 97, 100, 32, 123, 32, 112, 114, 105, 110, 116, 10] ++ s) : List UInt8).length + ([10, 59, 32, 125] : List UInt8).length : Nat) : Int) ≤ 9223372036854775807) ∧ True) (by kernel_rfl) ⟨trivial, (by first | omega | (simp only [List.length_append, List.length_cons, List.length_nil]; omega)), (by first | omega | (simp only [List.length_append, List.length_cons, List.length_nil]; omega)), trivial⟩ ?_
   refine AOps.call (fid := 17) (cap := []) (avs := [.str (([116, 104, 114, 101, 97, 100, 32, 123, 32, 112, 114, 105, 110, 116, 10] ++ s) ++ [10, 59, 32, 125])]) (by kernel_rfl) rfl (by kernel_rfl) (by kernel_rfl) en_17 (by kernel_rfl) (ACalls.mono (parse_is (brT1 s) n1 hn1 (.bad a b c) hp1 _) ?_)
   rintro _ _ ⟨rfl, rfl⟩
   refine AOps.runN hT nh 7 [0, 3, 4] (fr' := ⟨[(0, .str s), (3, .loc 0 0), (4, .loc 1 0)], [[.slice [] 0 .exact, .slice [] 0 .exact, .slice [] 0 .exact, .slice [] 0 .exact], [.i a, .i b, .i c]], [], [], 0⟩) (σ' := σ) (ob := Tt 8) (by kernel_rfl) (tt 8) ?_
   refine AOps.nil ?_
   refine ACode.seq ?_
   refine ACode.region ?_
   refine AOps.runN hT nh 3 [3, 4, 22] (fr' := ⟨[(3, .loc 0 0), (4, .loc 1 0), (22, .str (([116, 104, 114, 101, 97, 100, 32, 123, 32, 112, 114, 105, 110, 116, 32, 40, 10] ++ s) ++ [10, 41, 59, 32, 125]))], [[.slice [] 0 .exact, .slice [] 0 .exact, .slice [] 0 .exact, .slice [] 0 .exact], [.i a, .i b, .i c]], [], [], 0⟩) (σ' := σ) (ob := True ∧ (((([116, 104, 114, 101, 97, 100, 32, 123, 32, 112, 114, 105, 110, 116, 32, 40, 10] : List UInt8).length + (s : List UInt8).length : Nat) : Int) ≤ 9223372036854775807) ∧ ((((([116, 104, 114, 101, 97, 100, 32, 123, 32, 112, 114, 105, 110, 116, 32, 40, 10] ++ s) : List UInt8).length + ([10, 41, 59, 32, 125] : List UInt8).length : Nat) : Int) ≤ 9223372036854775807) ∧ True) (by kernel_rfl) ⟨trivial, (by first | omega | (simp only [List.length_append, List.length_cons, List.length_nil]; omega)), (by first | omega | (simp only [List.length_append, List.length_cons, List.length_nil]; omega)), trivial⟩ ?_
   refine AOps.call (fid := 17) (cap := []) (avs := [.str (([116, 104, 114, 101, 97, 100, 32, 123, 32, 112, 114, 105, 110, 116, 32, 40, 10] ++ s) ++ [10, 41, 59, 32, 125])]) (by kernel_rfl) rfl (by kernel_rfl) (by kernel_rfl) en_17 (by kernel_rfl) (ACalls.mono (parse_some (brT2 s) _) ?_)
   rintro _ _ ⟨rfl, y0, y1, y2, y3, fa, fb, fc, rfl⟩
   refine AOps.runN hT nh 7 [3, 4, 5, 6] (fr' := ⟨[(3, .loc 0 0), (4, .loc 1 0), (5, .loc 2 0), (6, .loc 3 0)], [[.slice [] 0 .exact, .slice [] 0 .exact, .slice [] 0 .exact, .slice [] 0 .exact], [.i a, .i b, .i c], [y0, y1, y2, y3], [.i fa, .i fb, .i fc]], [], [], 0⟩) (σ' := σ) (ob := Tt 8) (by kernel_rfl) (tt 8) ?_
   refine AOps.nil ?_
   refine ACode.seq ?_
   refine ACode.seq ?_
   refine ACode.region ?_
   refine AOps.runN hT nh 4 [3, 5, 6, 29] (fr' := ⟨[(3, .loc 0 0), (5, .loc 2 0), (6, .loc 3 0), (29, .bool (!((a == 0) && ((b == 0) && (c == 0)))))], [[.slice [] 0 .exact, .slice [] 0 .exact, .slice [] 0 .exact, .slice [] 0 .exact], [.i a, .i b, .i c], [y0, y1, y2, y3], [.i fa, .i fb, .i fc]], [], [], 0⟩) (σ' := σ) (ob := Tt 5) (by kernel_rfl) (tt 5) ?_
   cases h2 : (!((a == 0) && ((b == 0) && (c == 0))))
   ·
    have h2k := h2; simp only [Bool.and_eq_true, Bool.or_eq_true, Bool.and_eq_false_iff, Bool.or_eq_false_iff, decide_eq_true_eq, decide_eq_false_iff_not, beq_iff_eq, bne_iff_ne, ne_eq, Bool.not_eq_true', Bool.not_eq_false', beq_eq_false_iff_ne, bne_eq_false_iff_eq] at h2k
    exact absurd (by simp at h2; exact h2.1) ha
   ·
    have h2k := h2; simp only [Bool.and_eq_true, Bool.or_eq_true, Bool.and_eq_false_iff, Bool.or_eq_false_iff, decide_eq_true_eq, decide_eq_false_iff_not, beq_iff_eq, bne_iff_ne, ne_eq, Bool.not_eq_true', Bool.not_eq_false', beq_eq_false_iff_ne, bne_eq_false_iff_eq] at h2k
    refine AOps.runN hT nh 19 [3, 5, 48] (fr' := ⟨[(3, .loc 0 0), (5, .loc 2 0), (48, .bool true)], [[.slice [] 0 .exact, .slice [] 0 .exact, .slice [] 0 .exact, .slice [] 0 .exact], [.i a, .i b, .i c], [y0, y1, y2, y3], [.i fa, .i fb, .i fc]], [], [], 0⟩) (σ' := σ) (ob := Tt 6) (by kernel_rfl) (tt 6) ?_
    refine AOps.nil ?_
    refine ACode.cond (t := true) (by kernel_rfl) (fun _ => ?_) (fun h => Bool.noConfusion h)
    refine ACode.seq ?_
    refine ACode.run hT nh [2] (fr' := ⟨[(2, .bool true)], [[.slice [] 0 .exact, .slice [] 0 .exact, .slice [] 0 .exact, .slice [] 0 .exact], [.i a, .i b, .i c], [y0, y1, y2, y3], [.i fa, .i fb, .i fc]], [], [], 0⟩) (σ' := σ) (ob := Tt 2) (by kernel_rfl) (tt 2) ?_
    refine ACode.ret ?_
    refine retQ.ret (.bool true) (by kernel_rfl) ?_
    exact ⟨rfl, rfl⟩
theorem brackets_bad2 (s : List UInt8) (a b c : Int) (p : Pg) (sp : PS) (n1 n2 : Nat) (σ : St) (hn1 : 163862 ≤ n1) (hn2 : 163862 ≤ n2) (hp1 : parseT n1 (brT1 s) = .ok p sp) (hp2 : parseT n2 (brT2 s) = .bad a b c) (ha : a ≠ 0) : ACalls Tryd.prog 9 [.str s] σ (fun e s2 => σ = s2 ∧ e = .ret (.bool true)) := by
  refine ACalls.enter hT Tryd.func9 rfl (by kernel_rfl) ?_
  refine ACode.seq ?_
  refine ACode.run hT nh [0] (fr' := ⟨[(0, .str s)], [], [], [], 0⟩) (σ' := σ) (ob := Tt 2) (by kernel_rfl) (tt 2) ?_
  refine ACode.seq ?_
  refine ACode.seq ?_
  refine ACode.region ?_
  refine AOps.call (fid := 16) (cap := []) (avs := []) (by kernel_rfl) rfl (by kernel_rfl) (by kernel_rfl) en_16 (by kernel_rfl) (ACalls.mono (alive5_walk _) ?_)
  rintro _ _ ⟨rfl, rfl⟩
  refine AOps.runN hT nh 1 [0, 8] (fr' := ⟨[(0, .str s), (8, .bool false)], [], [], [], 0⟩) (σ' := σ) (ob := Tt 2) (by kernel_rfl) (tt 2) ?_
  refine AOps.nil ?_
  refine ACode.cond (t := false) (by kernel_rfl) (fun h => Bool.noConfusion h) (fun _ => ?_)
  refine ACode.skip ?_
  refine ACode.seq ?_
  refine ACode.seq ?_
  refine ACode.run hT nh [0, 11] (fr' := ⟨[(0, .str s), (11, .bool (decide ((((s) : List UInt8).length : Int) > 4096)))], [], [], [], 0⟩) (σ' := σ) (ob := Tt 4) (by kernel_rfl) (tt 4) ?_
  refine ACode.cond (t := decide ((((s) : List UInt8).length : Int) > 4096)) (by kernel_rfl) (fun h1 => ?_) (fun h1 => ?_)
  ·
   have h1k := of_decide_eq_true h1
   refine ACode.seq ?_
   refine ACode.run hT nh [2] (fr' := ⟨[(2, .bool true)], [], [], [], 0⟩) (σ' := σ) (ob := Tt 2) (by kernel_rfl) (tt 2) ?_
   refine ACode.ret ?_
   refine retQ.ret (.bool true) (by kernel_rfl) ?_
   exact ⟨rfl, rfl⟩
  ·
   have h1k := of_decide_eq_false h1
   refine ACode.skip ?_
   refine ACode.seq ?_
   refine ACode.region ?_
   refine AOps.runN hT nh 3 [0, 15] (fr' := ⟨[(0, .str s), (15, .str (([116, 104, 114, 101, 97, 100, 32, 123, 32, 112, 114, 105, 110, 116, 10] ++ s) ++ [10, 59, 32, 125]))], [], [], [], 0⟩) (σ' := σ) (ob := True ∧ (((([116, 104, 114, 101, 97, 100, 32, 123, 32, 112, 114, 105, 110, 116, 10] : List UInt8).length + (s : List UInt8).length : Nat) : Int) ≤ 9223372036854775807) ∧ ((((([116, 104, 114, 101, 97, 100, 32, 123, 32, 112, 114, 105, 110, 116, 10] ++ s) : List UInt8).length + ([10, 59, 32, 125] : List UInt8).length : Nat) : Int) ≤ 9223372036854775807) ∧ True) (by kernel_rfl) ⟨trivial, (by first | omega | (simp only [List.length_append, List.length_cons, List.length_nil]; omega)), (by first | omega | (simp only [List.length_append, List.length_cons, List.length_nil]; omega)), trivial⟩ ?_
   refine AOps.call (fid := 17) (cap := []) (avs := [.str (([116, 104, 114, 101, 97, 100, 32, 123, 32, 112, 114, 105, 110, 116, 10] ++ s) ++ [10, 59, 32, 125])]) (by kernel_rfl) rfl (by kernel_rfl) (by kernel_rfl) en_17 (by kernel_rfl) (ACalls.mono (parse_is (brT1 s) n1 hn1 (.ok p sp) hp1 _) ?_)
   rintro _ _ ⟨rfl, rfl⟩
   refine AOps.runN hT nh 7 [0, 3, 4] (fr' := ⟨[(0, .str s), (3, .loc 0 0), (4, .loc 1 0)], [[.slice (rcRows p.recs) p.recs.length .no, .slice (nmRows p.globals) p.globals.length .no, .slice (fuRows p.funs) p.funs.length .no, .slice (tdRows p.threads) p.threads.length .no], [.i 0, .i 0, .i 0]], [], [], 0⟩) (σ' := σ) (ob := Tt 8) (by kernel_rfl) (tt 8) ?_
   refine AOps.nil ?_
   refine ACode.seq ?_
   refine ACode.region ?_
   refine AOps.runN hT nh 3 [3, 4, 22] (fr' := ⟨[(3, .loc 0 0), (4, .loc 1 0), (22, .str (([116, 104, 114, 101, 97, 100, 32, 123, 32, 112, 114, 105, 110, 116, 32, 40, 10] ++ s) ++ [10, 41, 59, 32, 125]))], [[.slice (rcRows p.recs) p.recs.length .no, .slice (nmRows p.globals) p.globals.length .no, .slice (fuRows p.funs) p.funs.length .no, .slice (tdRows p.threads) p.threads.length .no], [.i 0, .i 0, .i 0]], [], [], 0⟩) (σ' := σ) (ob := True ∧ (((([116, 104, 114, 101, 97, 100, 32, 123, 32, 112, 114, 105, 110, 116, 32, 40, 10] : List UInt8).length + (s : List UInt8).length : Nat) : Int) ≤ 9223372036854775807) ∧ ((((([116, 104, 114, 101, 97, 100, 32, 123, 32, 112, 114, 105, 110, 116, 32, 40, 10] ++ s) : List UInt8).length + ([10, 41, 59, 32, 125] : List UInt8).length : Nat) : Int) ≤ 9223372036854775807) ∧ True) (by kernel_rfl) ⟨trivial, (by first | omega | (simp only [List.length_append, List.length_cons, List.length_nil]; omega)), (by first | omega | (simp only [List.length_append, List.length_cons, List.length_nil]; omega)), trivial⟩ ?_
   refine AOps.call (fid := 17) (cap := []) (avs := [.str (([116, 104, 114, 101, 97, 100, 32, 123, 32, 112, 114, 105, 110, 116, 32, 40, 10] ++ s) ++ [10, 41, 59, 32, 125])]) (by kernel_rfl) rfl (by kernel_rfl) (by kernel_rfl) en_17 (by kernel_rfl) (ACalls.mono (parse_is (brT2 s) n2 hn2 (.bad a b c) hp2 _) ?_)
   rintro _ _ ⟨rfl, rfl⟩
   refine AOps.runN hT nh 7 [3, 4, 5, 6] (fr' := ⟨[(3, .loc 0 0), (4, .loc 1 0), (5, .loc 2 0), (6, .loc 3 0)], [[.slice (rcRows p.recs) p.recs.length .no, .slice (nmRows p.globals) p.globals.length .no, .slice (fuRows p.funs) p.funs.length .no, .slice (tdRows p.threads) p.threads.length .no], [.i 0, .i 0, .i 0], [.slice [] 0 .exact, .slice [] 0 .exact, .slice [] 0 .exact, .slice [] 0 .exact], [.i a, .i b, .i c]], [], [], 0⟩) (σ' := σ) (ob := Tt 8) (by kernel_rfl) (tt 8) ?_
   refine AOps.nil ?_
   refine ACode.seq ?_
   refine ACode.seq ?_
   refine ACode.region ?_
   refine AOps.runN hT nh 9 [3, 5, 34] (fr' := ⟨[(3, .loc 0 0), (5, .loc 2 0), (34, .bool (!((a == 0) && ((b == 0) && (c == 0)))))], [[.slice (rcRows p.recs) p.recs.length .no, .slice (nmRows p.globals) p.globals.length .no, .slice (fuRows p.funs) p.funs.length .no, .slice (tdRows p.threads) p.threads.length .no], [.i 0, .i 0, .i 0], [.slice [] 0 .exact, .slice [] 0 .exact, .slice [] 0 .exact, .slice [] 0 .exact], [.i a, .i b, .i c]], [], [], 0⟩) (σ' := σ) (ob := Tt 10) (by kernel_rfl) (tt 10) ?_
   cases h2 : (!((a == 0) && ((b == 0) && (c == 0))))
   ·
    have h2k := h2; simp only [Bool.and_eq_true, Bool.or_eq_true, Bool.and_eq_false_iff, Bool.or_eq_false_iff, decide_eq_true_eq, decide_eq_false_iff_not, beq_iff_eq, bne_iff_ne, ne_eq, Bool.not_eq_true', Bool.not_eq_false', beq_eq_false_iff_ne, bne_eq_false_iff_eq] at h2k
    exact absurd (by simp at h2; exact h2.1) ha
   ·
    have h2k := h2; simp only [Bool.and_eq_true, Bool.or_eq_true, Bool.and_eq_false_iff, Bool.or_eq_false_iff, decide_eq_true_eq, decide_eq_false_iff_not, beq_iff_eq, bne_iff_ne, ne_eq, Bool.not_eq_true', Bool.not_eq_false', beq_eq_false_iff_ne, bne_eq_false_iff_eq] at h2k
    refine AOps.runN hT nh 14 [3, 5, 48] (fr' := ⟨[(3, .loc 0 0), (5, .loc 2 0), (48, .bool true)], [[.slice (rcRows p.recs) p.recs.length .no, .slice (nmRows p.globals) p.globals.length .no, .slice (fuRows p.funs) p.funs.length .no, .slice (tdRows p.threads) p.threads.length .no], [.i 0, .i 0, .i 0], [.slice [] 0 .exact, .slice [] 0 .exact, .slice [] 0 .exact, .slice [] 0 .exact], [.i a, .i b, .i c]], [], [], 0⟩) (σ' := σ) (ob := Tt 4) (by kernel_rfl) (tt 4) ?_
    refine AOps.nil ?_
    refine ACode.cond (t := true) (by kernel_rfl) (fun _ => ?_) (fun h => Bool.noConfusion h)
    refine ACode.seq ?_
    refine ACode.run hT nh [2] (fr' := ⟨[(2, .bool true)], [[.slice (rcRows p.recs) p.recs.length .no, .slice (nmRows p.globals) p.globals.length .no, .slice (fuRows p.funs) p.funs.length .no, .slice (tdRows p.threads) p.threads.length .no], [.i 0, .i 0, .i 0], [.slice [] 0 .exact, .slice [] 0 .exact, .slice [] 0 .exact, .slice [] 0 .exact], [.i a, .i b, .i c]], [], [], 0⟩) (σ' := σ) (ob := Tt 2) (by kernel_rfl) (tt 2) ?_
    refine ACode.ret ?_
    refine retQ.ret (.bool true) (by kernel_rfl) ?_
    exact ⟨rfl, rfl⟩
theorem brackets_ok (s : List UInt8) (e1 e2 : Ex) (sp1 sp2 : PS) (n1 n2 : Nat) (σ : St) (hn1 : 163862 ≤ n1) (hn2 : 163862 ≤ n2) (hp1 : parseT n1 (brT1 s) = .ok (pgOf e1) sp1) (hp2 : parseT n2 (brT2 s) = .ok (pgOf e2) sp2) (hv : VE e1 e2) (hx1 : (exT e1).length ≤ 1000000) (hx2 : (exT e2).length ≤ 1000000) : ACalls Tryd.prog 9 [.str s] σ (fun e s2 => σ = s2 ∧ e = .ret (.bool true)) := by
  refine ACalls.enter hT Tryd.func9 rfl (by kernel_rfl) ?_
  refine ACode.seq ?_
  refine ACode.run hT nh [0] (fr' := ⟨[(0, .str s)], [], [], [], 0⟩) (σ' := σ) (ob := Tt 2) (by kernel_rfl) (tt 2) ?_
  refine ACode.seq ?_
  refine ACode.seq ?_
  refine ACode.region ?_
  refine AOps.call (fid := 16) (cap := []) (avs := []) (by kernel_rfl) rfl (by kernel_rfl) (by kernel_rfl) en_16 (by kernel_rfl) (ACalls.mono (alive5_walk _) ?_)
  rintro _ _ ⟨rfl, rfl⟩
  refine AOps.runN hT nh 1 [0, 8] (fr' := ⟨[(0, .str s), (8, .bool false)], [], [], [], 0⟩) (σ' := σ) (ob := Tt 2) (by kernel_rfl) (tt 2) ?_
  refine AOps.nil ?_
  refine ACode.cond (t := false) (by kernel_rfl) (fun h => Bool.noConfusion h) (fun _ => ?_)
  refine ACode.skip ?_
  refine ACode.seq ?_
  refine ACode.seq ?_
  refine ACode.run hT nh [0, 11] (fr' := ⟨[(0, .str s), (11, .bool (decide ((((s) : List UInt8).length : Int) > 4096)))], [], [], [], 0⟩) (σ' := σ) (ob := Tt 4) (by kernel_rfl) (tt 4) ?_
  refine ACode.cond (t := decide ((((s) : List UInt8).length : Int) > 4096)) (by kernel_rfl) (fun h1 => ?_) (fun h1 => ?_)
  ·
   have h1k := of_decide_eq_true h1
   refine ACode.seq ?_
   refine ACode.run hT nh [2] (fr' := ⟨[(2, .bool true)], [], [], [], 0⟩) (σ' := σ) (ob := Tt 2) (by kernel_rfl) (tt 2) ?_
   refine ACode.ret ?_
   refine retQ.ret (.bool true) (by kernel_rfl) ?_
   exact ⟨rfl, rfl⟩
  ·
   have h1k := of_decide_eq_false h1
   refine ACode.skip ?_
   refine ACode.seq ?_
   refine ACode.region ?_
   refine AOps.runN hT nh 3 [0, 15] (fr' := ⟨[(0, .str s), (15, .str (([116, 104, 114, 101, 97, 100, 32, 123, 32, 112, 114, 105, 110, 116, 10] ++ s) ++ [10, 59, 32, 125]))], [], [], [], 0⟩) (σ' := σ) (ob := True ∧ (((([116, 104, 114, 101, 97, 100, 32, 123, 32, 112, 114, 105, 110, 116, 10] : List UInt8).length + (s : List UInt8).length : Nat) : Int) ≤ 9223372036854775807) ∧ ((((([116, 104, 114, 101, 97, 100, 32, 123, 32, 112, 114, 105, 110, 116, 10] ++ s) : List UInt8).length + ([10, 59, 32, 125] : List UInt8).length : Nat) : Int) ≤ 9223372036854775807) ∧ True) (by kernel_rfl) ⟨trivial, (by first | omega | (simp only [List.length_append, List.length_cons, List.length_nil]; omega)), (by first | omega | (simp only [List.length_append, List.length_cons, List.length_nil]; omega)), trivial⟩ ?_
   refine AOps.call (fid := 17) (cap := []) (avs := [.str (([116, 104, 114, 101, 97, 100, 32, 123, 32, 112, 114, 105, 110, 116, 10] ++ s) ++ [10, 59, 32, 125])]) (by kernel_rfl) rfl (by kernel_rfl) (by kernel_rfl) en_17 (by kernel_rfl) (ACalls.mono (parse_is (brT1 s) n1 hn1 (.ok (pgOf e1) sp1) hp1 _) ?_)
   rintro _ _ ⟨rfl, rfl⟩
   refine AOps.runN hT nh 7 [0, 3, 4] (fr' := ⟨[(0, .str s), (3, .loc 0 0), (4, .loc 1 0)], [[.slice [] 0 .no, .slice [] 0 .no, .slice [] 0 .no, .slice [.slice [.i 5, .str [], .i 0, .i 0, .i 0, .int .u64 0, .i 0, .str [], .str [], .slice [] 0 .no, .i 0, .i 0, .i 0, .str [], .str [], .i 0, .i 0, .int .u64 0, .i 0, .str [], .str [], .slice [] 0 .no, .i 0, .i 0, .i 0, .i 0, .str [], .i 0, .i 0, .i 0, .str [], .str [], .i 0, .i 0, .int .u64 0, .i 0, .str [], .str [], .slice [] 0 .no, .i 0, .i 0, .i 0, .i 0, .i e1.op, .i e1.bin, .int .u64 e1.n, .i e1.tk, .str e1.tr, .str e1.name, .slice (exRows e1.kids) e1.kids.length .no, .i e1.line, .i e1.col, .i 0, .slice [] 0 .no, .slice [] 0 .no, .slice [] 0 .no, .i 1, .i 10] 1 .no, .i 1, .i 1] 1 .no], [.i 0, .i 0, .i 0]], [], [], 0⟩) (σ' := σ) (ob := Tt 8) (by kernel_rfl) (tt 8) ?_
   refine AOps.nil ?_
   refine ACode.seq ?_
   refine ACode.region ?_
   refine AOps.runN hT nh 3 [3, 4, 22] (fr' := ⟨[(3, .loc 0 0), (4, .loc 1 0), (22, .str (([116, 104, 114, 101, 97, 100, 32, 123, 32, 112, 114, 105, 110, 116, 32, 40, 10] ++ s) ++ [10, 41, 59, 32, 125]))], [[.slice [] 0 .no, .slice [] 0 .no, .slice [] 0 .no, .slice [.slice [.i 5, .str [], .i 0, .i 0, .i 0, .int .u64 0, .i 0, .str [], .str [], .slice [] 0 .no, .i 0, .i 0, .i 0, .str [], .str [], .i 0, .i 0, .int .u64 0, .i 0, .str [], .str [], .slice [] 0 .no, .i 0, .i 0, .i 0, .i 0, .str [], .i 0, .i 0, .i 0, .str [], .str [], .i 0, .i 0, .int .u64 0, .i 0, .str [], .str [], .slice [] 0 .no, .i 0, .i 0, .i 0, .i 0, .i e1.op, .i e1.bin, .int .u64 e1.n, .i e1.tk, .str e1.tr, .str e1.name, .slice (exRows e1.kids) e1.kids.length .no, .i e1.line, .i e1.col, .i 0, .slice [] 0 .no, .slice [] 0 .no, .slice [] 0 .no, .i 1, .i 10] 1 .no, .i 1, .i 1] 1 .no], [.i 0, .i 0, .i 0]], [], [], 0⟩) (σ' := σ) (ob := True ∧ (((([116, 104, 114, 101, 97, 100, 32, 123, 32, 112, 114, 105, 110, 116, 32, 40, 10] : List UInt8).length + (s : List UInt8).length : Nat) : Int) ≤ 9223372036854775807) ∧ ((((([116, 104, 114, 101, 97, 100, 32, 123, 32, 112, 114, 105, 110, 116, 32, 40, 10] ++ s) : List UInt8).length + ([10, 41, 59, 32, 125] : List UInt8).length : Nat) : Int) ≤ 9223372036854775807) ∧ True) (by kernel_rfl) ⟨trivial, (by first | omega | (simp only [List.length_append, List.length_cons, List.length_nil]; omega)), (by first | omega | (simp only [List.length_append, List.length_cons, List.length_nil]; omega)), trivial⟩ ?_
   refine AOps.call (fid := 17) (cap := []) (avs := [.str (([116, 104, 114, 101, 97, 100, 32, 123, 32, 112, 114, 105, 110, 116, 32, 40, 10] ++ s) ++ [10, 41, 59, 32, 125])]) (by kernel_rfl) rfl (by kernel_rfl) (by kernel_rfl) en_17 (by kernel_rfl) (ACalls.mono (parse_is (brT2 s) n2 hn2 (.ok (pgOf e2) sp2) hp2 _) ?_)
   rintro _ _ ⟨rfl, rfl⟩
   refine AOps.runN hT nh 7 [3, 4, 5, 6] (fr' := ⟨[(3, .loc 0 0), (4, .loc 1 0), (5, .loc 2 0), (6, .loc 3 0)], [[.slice [] 0 .no, .slice [] 0 .no, .slice [] 0 .no, .slice [.slice [.i 5, .str [], .i 0, .i 0, .i 0, .int .u64 0, .i 0, .str [], .str [], .slice [] 0 .no, .i 0, .i 0, .i 0, .str [], .str [], .i 0, .i 0, .int .u64 0, .i 0, .str [], .str [], .slice [] 0 .no, .i 0, .i 0, .i 0, .i 0, .str [], .i 0, .i 0, .i 0, .str [], .str [], .i 0, .i 0, .int .u64 0, .i 0, .str [], .str [], .slice [] 0 .no, .i 0, .i 0, .i 0, .i 0, .i e1.op, .i e1.bin, .int .u64 e1.n, .i e1.tk, .str e1.tr, .str e1.name, .slice (exRows e1.kids) e1.kids.length .no, .i e1.line, .i e1.col, .i 0, .slice [] 0 .no, .slice [] 0 .no, .slice [] 0 .no, .i 1, .i 10] 1 .no, .i 1, .i 1] 1 .no], [.i 0, .i 0, .i 0], [.slice [] 0 .no, .slice [] 0 .no, .slice [] 0 .no, .slice [.slice [.i 5, .str [], .i 0, .i 0, .i 0, .int .u64 0, .i 0, .str [], .str [], .slice [] 0 .no, .i 0, .i 0, .i 0, .str [], .str [], .i 0, .i 0, .int .u64 0, .i 0, .str [], .str [], .slice [] 0 .no, .i 0, .i 0, .i 0, .i 0, .str [], .i 0, .i 0, .i 0, .str [], .str [], .i 0, .i 0, .int .u64 0, .i 0, .str [], .str [], .slice [] 0 .no, .i 0, .i 0, .i 0, .i 0, .i e2.op, .i e2.bin, .int .u64 e2.n, .i e2.tk, .str e2.tr, .str e2.name, .slice (exRows e2.kids) e2.kids.length .no, .i e2.line, .i e2.col, .i 0, .slice [] 0 .no, .slice [] 0 .no, .slice [] 0 .no, .i 1, .i 10] 1 .no, .i 1, .i 1] 1 .no], [.i 0, .i 0, .i 0]], [], [], 0⟩) (σ' := σ) (ob := Tt 8) (by kernel_rfl) (tt 8) ?_
   refine AOps.nil ?_
   refine ACode.seq ?_
   refine ACode.seq ?_
   refine ACode.region ?_
   refine AOps.runN hT nh 23 [3, 5, 48] (fr' := ⟨[(3, .loc 0 0), (5, .loc 2 0), (48, .bool false)], [[.slice [] 0 .no, .slice [] 0 .no, .slice [] 0 .no, .slice [.slice [.i 5, .str [], .i 0, .i 0, .i 0, .int .u64 0, .i 0, .str [], .str [], .slice [] 0 .no, .i 0, .i 0, .i 0, .str [], .str [], .i 0, .i 0, .int .u64 0, .i 0, .str [], .str [], .slice [] 0 .no, .i 0, .i 0, .i 0, .i 0, .str [], .i 0, .i 0, .i 0, .str [], .str [], .i 0, .i 0, .int .u64 0, .i 0, .str [], .str [], .slice [] 0 .no, .i 0, .i 0, .i 0, .i 0, .i e1.op, .i e1.bin, .int .u64 e1.n, .i e1.tk, .str e1.tr, .str e1.name, .slice (exRows e1.kids) e1.kids.length .no, .i e1.line, .i e1.col, .i 0, .slice [] 0 .no, .slice [] 0 .no, .slice [] 0 .no, .i 1, .i 10] 1 .no, .i 1, .i 1] 1 .no], [.i 0, .i 0, .i 0], [.slice [] 0 .no, .slice [] 0 .no, .slice [] 0 .no, .slice [.slice [.i 5, .str [], .i 0, .i 0, .i 0, .int .u64 0, .i 0, .str [], .str [], .slice [] 0 .no, .i 0, .i 0, .i 0, .str [], .str [], .i 0, .i 0, .int .u64 0, .i 0, .str [], .str [], .slice [] 0 .no, .i 0, .i 0, .i 0, .i 0, .str [], .i 0, .i 0, .i 0, .str [], .str [], .i 0, .i 0, .int .u64 0, .i 0, .str [], .str [], .slice [] 0 .no, .i 0, .i 0, .i 0, .i 0, .i e2.op, .i e2.bin, .int .u64 e2.n, .i e2.tk, .str e2.tr, .str e2.name, .slice (exRows e2.kids) e2.kids.length .no, .i e2.line, .i e2.col, .i 0, .slice [] 0 .no, .slice [] 0 .no, .slice [] 0 .no, .i 1, .i 10] 1 .no, .i 1, .i 1] 1 .no], [.i 0, .i 0, .i 0]], [], [], 0⟩) (σ' := σ) (ob := True ∧ True ∧ True ∧ True ∧ True ∧ True ∧ True ∧ True ∧ True ∧ True ∧ True ∧ True ∧ True ∧ True ∧ True ∧ True ∧ True ∧ (0 ≤ (0 : Int) ∧ (0 : Int) < (1 : Nat) ∧ 0 * 3 ≤ ([.slice [.i 5, .str [], .i 0, .i 0, .i 0, .int .u64 0, .i 0, .str [], .str [], .slice [] 0 .no, .i 0, .i 0, .i 0, .str [], .str [], .i 0, .i 0, .int .u64 0, .i 0, .str [], .str [], .slice [] 0 .no, .i 0, .i 0, .i 0, .i 0, .str [], .i 0, .i 0, .i 0, .str [], .str [], .i 0, .i 0, .int .u64 0, .i 0, .str [], .str [], .slice [] 0 .no, .i 0, .i 0, .i 0, .i 0, .i e1.op, .i e1.bin, .int .u64 e1.n, .i e1.tk, .str e1.tr, .str e1.name, .slice (exRows e1.kids) e1.kids.length .no, .i e1.line, .i e1.col, .i 0, .slice [] 0 .no, .slice [] 0 .no, .slice [] 0 .no, .i 1, .i 10] 1 .no, .i 1, .i 1] : List AV).length) ∧ (0 ≤ ([.slice [.i 5, .str [], .i 0, .i 0, .i 0, .int .u64 0, .i 0, .str [], .str [], .slice [] 0 .no, .i 0, .i 0, .i 0, .str [], .str [], .i 0, .i 0, .int .u64 0, .i 0, .str [], .str [], .slice [] 0 .no, .i 0, .i 0, .i 0, .i 0, .str [], .i 0, .i 0, .i 0, .str [], .str [], .i 0, .i 0, .int .u64 0, .i 0, .str [], .str [], .slice [] 0 .no, .i 0, .i 0, .i 0, .i 0, .i e1.op, .i e1.bin, .int .u64 e1.n, .i e1.tk, .str e1.tr, .str e1.name, .slice (exRows e1.kids) e1.kids.length .no, .i e1.line, .i e1.col, .i 0, .slice [] 0 .no, .slice [] 0 .no, .slice [] 0 .no, .i 1, .i 10] 1 .no, .i 1, .i 1] : List AV).length) ∧ True ∧ True ∧ True ∧ True ∧ True) (by kernel_rfl) ⟨trivial, trivial, trivial, trivial, trivial, trivial, trivial, trivial, trivial, trivial, trivial, trivial, trivial, trivial, trivial, trivial, trivial, (by first | omega | (simp; done) | (simp; omega)), (by first | omega | (simp; done) | (simp; omega)), trivial, trivial, trivial, trivial, trivial⟩ ?_
   refine AOps.nil ?_
   refine ACode.cond (t := false) (by kernel_rfl) (fun h => Bool.noConfusion h) (fun _ => ?_)
   refine ACode.skip ?_
   refine ACode.seq ?_
   refine ACode.draw [] 4 [] 0 (by kernel_rfl) (by kernel_rfl) ?_
   refine AAny.run hT nh (fuel := 5) [0, 1, 2, 3, 4, 5, 6, 7, 8, 9, 10, 11, 12, 13, 14, 15, 16, 17, 18, 19, 20, 21, 23, 24, 25, 26, 27, 28, 29, 30] [62, 70, 79] (fz' := true) (l' := #[true, true, true, true, true, true, true, true, true, true, true, true, true, true, true, true, true, true, true, true, true, true, false, true, true, true, true, true, true, true, true, false, false, false, false]) (fr' := ⟨[(62, .bool true), (70, .agg [.i e1.op, .i e1.bin, .int .u64 e1.n, .i e1.tk, .str e1.tr, .str e1.name, .slice (exRows e1.kids) e1.kids.length .no, .i e1.line, .i e1.col]), (79, .agg [.i e2.op, .i e2.bin, .int .u64 e2.n, .i e2.tk, .str e2.tr, .str e2.name, .slice (exRows e2.kids) e2.kids.length .no, .i e2.line, .i e2.col])], [[.slice [] 0 .no, .slice [] 0 .no, .slice [] 0 .no, .slice [.slice [.i 5, .str [], .i 0, .i 0, .i 0, .int .u64 0, .i 0, .str [], .str [], .slice [] 0 .no, .i 0, .i 0, .i 0, .str [], .str [], .i 0, .i 0, .int .u64 0, .i 0, .str [], .str [], .slice [] 0 .no, .i 0, .i 0, .i 0, .i 0, .str [], .i 0, .i 0, .i 0, .str [], .str [], .i 0, .i 0, .int .u64 0, .i 0, .str [], .str [], .slice [] 0 .no, .i 0, .i 0, .i 0, .i 0, .i e1.op, .i e1.bin, .int .u64 e1.n, .i e1.tk, .str e1.tr, .str e1.name, .slice (exRows e1.kids) e1.kids.length .no, .i e1.line, .i e1.col, .i 0, .slice [] 0 .no, .slice [] 0 .no, .slice [] 0 .no, .i 1, .i 10] 1 .no, .i 1, .i 1] 1 .no], [.i 0, .i 0, .i 0], [.slice [] 0 .no, .slice [] 0 .no, .slice [] 0 .no, .slice [.slice [.i 5, .str [], .i 0, .i 0, .i 0, .int .u64 0, .i 0, .str [], .str [], .slice [] 0 .no, .i 0, .i 0, .i 0, .str [], .str [], .i 0, .i 0, .int .u64 0, .i 0, .str [], .str [], .slice [] 0 .no, .i 0, .i 0, .i 0, .i 0, .str [], .i 0, .i 0, .i 0, .str [], .str [], .i 0, .i 0, .int .u64 0, .i 0, .str [], .str [], .slice [] 0 .no, .i 0, .i 0, .i 0, .i 0, .i e2.op, .i e2.bin, .int .u64 e2.n, .i e2.tk, .str e2.tr, .str e2.name, .slice (exRows e2.kids) e2.kids.length .no, .i e2.line, .i e2.col, .i 0, .slice [] 0 .no, .slice [] 0 .no, .slice [] 0 .no, .i 1, .i 10] 1 .no, .i 1, .i 1] 1 .no], [.i 0, .i 0, .i 0]], [], [], 0⟩) (σ' := σ) (ob := True ∧ True ∧ True ∧ True ∧ True ∧ True ∧ True ∧ (0 ≤ (0 : Int) ∧ (0 : Int) < (1 : Nat) ∧ 0 * 3 ≤ ([.slice [.i 5, .str [], .i 0, .i 0, .i 0, .int .u64 0, .i 0, .str [], .str [], .slice [] 0 .no, .i 0, .i 0, .i 0, .str [], .str [], .i 0, .i 0, .int .u64 0, .i 0, .str [], .str [], .slice [] 0 .no, .i 0, .i 0, .i 0, .i 0, .str [], .i 0, .i 0, .i 0, .str [], .str [], .i 0, .i 0, .int .u64 0, .i 0, .str [], .str [], .slice [] 0 .no, .i 0, .i 0, .i 0, .i 0, .i e2.op, .i e2.bin, .int .u64 e2.n, .i e2.tk, .str e2.tr, .str e2.name, .slice (exRows e2.kids) e2.kids.length .no, .i e2.line, .i e2.col, .i 0, .slice [] 0 .no, .slice [] 0 .no, .slice [] 0 .no, .i 1, .i 10] 1 .no, .i 1, .i 1] : List AV).length) ∧ (0 ≤ ([.slice [.i 5, .str [], .i 0, .i 0, .i 0, .int .u64 0, .i 0, .str [], .str [], .slice [] 0 .no, .i 0, .i 0, .i 0, .str [], .str [], .i 0, .i 0, .int .u64 0, .i 0, .str [], .str [], .slice [] 0 .no, .i 0, .i 0, .i 0, .i 0, .str [], .i 0, .i 0, .i 0, .str [], .str [], .i 0, .i 0, .int .u64 0, .i 0, .str [], .str [], .slice [] 0 .no, .i 0, .i 0, .i 0, .i 0, .i e2.op, .i e2.bin, .int .u64 e2.n, .i e2.tk, .str e2.tr, .str e2.name, .slice (exRows e2.kids) e2.kids.length .no, .i e2.line, .i e2.col, .i 0, .slice [] 0 .no, .slice [] 0 .no, .slice [] 0 .no, .i 1, .i 10] 1 .no, .i 1, .i 1] : List AV).length) ∧ True ∧ True ∧ True ∧ True ∧ True ∧ True ∧ True ∧ (0 ≤ (0 : Int) ∧ (0 : Int) < (1 : Nat) ∧ 0 * 3 ≤ ([.slice [.i 5, .str [], .i 0, .i 0, .i 0, .int .u64 0, .i 0, .str [], .str [], .slice [] 0 .no, .i 0, .i 0, .i 0, .str [], .str [], .i 0, .i 0, .int .u64 0, .i 0, .str [], .str [], .slice [] 0 .no, .i 0, .i 0, .i 0, .i 0, .str [], .i 0, .i 0, .i 0, .str [], .str [], .i 0, .i 0, .int .u64 0, .i 0, .str [], .str [], .slice [] 0 .no, .i 0, .i 0, .i 0, .i 0, .i e1.op, .i e1.bin, .int .u64 e1.n, .i e1.tk, .str e1.tr, .str e1.name, .slice (exRows e1.kids) e1.kids.length .no, .i e1.line, .i e1.col, .i 0, .slice [] 0 .no, .slice [] 0 .no, .slice [] 0 .no, .i 1, .i 10] 1 .no, .i 1, .i 1] : List AV).length) ∧ (0 ≤ ([.slice [.i 5, .str [], .i 0, .i 0, .i 0, .int .u64 0, .i 0, .str [], .str [], .slice [] 0 .no, .i 0, .i 0, .i 0, .str [], .str [], .i 0, .i 0, .int .u64 0, .i 0, .str [], .str [], .slice [] 0 .no, .i 0, .i 0, .i 0, .i 0, .str [], .i 0, .i 0, .i 0, .str [], .str [], .i 0, .i 0, .int .u64 0, .i 0, .str [], .str [], .slice [] 0 .no, .i 0, .i 0, .i 0, .i 0, .i e1.op, .i e1.bin, .int .u64 e1.n, .i e1.tk, .str e1.tr, .str e1.name, .slice (exRows e1.kids) e1.kids.length .no, .i e1.line, .i e1.col, .i 0, .slice [] 0 .no, .slice [] 0 .no, .slice [] 0 .no, .i 1, .i 10] 1 .no, .i 1, .i 1] : List AV).length) ∧ True ∧ (0 ≤ (0 : Int) ∧ (0 : Int) < (1 : Nat) ∧ 0 * 58 ≤ ([.i 5, .str [], .i 0, .i 0, .i 0, .int .u64 0, .i 0, .str [], .str [], .slice [] 0 .no, .i 0, .i 0, .i 0, .str [], .str [], .i 0, .i 0, .int .u64 0, .i 0, .str [], .str [], .slice [] 0 .no, .i 0, .i 0, .i 0, .i 0, .str [], .i 0, .i 0, .i 0, .str [], .str [], .i 0, .i 0, .int .u64 0, .i 0, .str [], .str [], .slice [] 0 .no, .i 0, .i 0, .i 0, .i 0, .i e1.op, .i e1.bin, .int .u64 e1.n, .i e1.tk, .str e1.tr, .str e1.name, .slice (exRows e1.kids) e1.kids.length .no, .i e1.line, .i e1.col, .i 0, .slice [] 0 .no, .slice [] 0 .no, .slice [] 0 .no, .i 1, .i 10] : List AV).length) ∧ (43 ≤ ([.i 5, .str [], .i 0, .i 0, .i 0, .int .u64 0, .i 0, .str [], .str [], .slice [] 0 .no, .i 0, .i 0, .i 0, .str [], .str [], .i 0, .i 0, .int .u64 0, .i 0, .str [], .str [], .slice [] 0 .no, .i 0, .i 0, .i 0, .i 0, .str [], .i 0, .i 0, .i 0, .str [], .str [], .i 0, .i 0, .int .u64 0, .i 0, .str [], .str [], .slice [] 0 .no, .i 0, .i 0, .i 0, .i 0, .i e1.op, .i e1.bin, .int .u64 e1.n, .i e1.tk, .str e1.tr, .str e1.name, .slice (exRows e1.kids) e1.kids.length .no, .i e1.line, .i e1.col, .i 0, .slice [] 0 .no, .slice [] 0 .no, .slice [] 0 .no, .i 1, .i 10] : List AV).length) ∧ (9 ≤ ([.i e1.op, .i e1.bin, .int .u64 e1.n, .i e1.tk, .str e1.tr, .str e1.name, .slice (exRows e1.kids) e1.kids.length .no, .i e1.line, .i e1.col, .i 0, .slice [] 0 .no, .slice [] 0 .no, .slice [] 0 .no, .i 1, .i 10] : List AV).length) ∧ True ∧ True ∧ (0 ≤ (0 : Int) ∧ (0 : Int) < (1 : Nat) ∧ 0 * 3 ≤ ([.slice [.i 5, .str [], .i 0, .i 0, .i 0, .int .u64 0, .i 0, .str [], .str [], .slice [] 0 .no, .i 0, .i 0, .i 0, .str [], .str [], .i 0, .i 0, .int .u64 0, .i 0, .str [], .str [], .slice [] 0 .no, .i 0, .i 0, .i 0, .i 0, .str [], .i 0, .i 0, .i 0, .str [], .str [], .i 0, .i 0, .int .u64 0, .i 0, .str [], .str [], .slice [] 0 .no, .i 0, .i 0, .i 0, .i 0, .i e2.op, .i e2.bin, .int .u64 e2.n, .i e2.tk, .str e2.tr, .str e2.name, .slice (exRows e2.kids) e2.kids.length .no, .i e2.line, .i e2.col, .i 0, .slice [] 0 .no, .slice [] 0 .no, .slice [] 0 .no, .i 1, .i 10] 1 .no, .i 1, .i 1] : List AV).length) ∧ (0 ≤ ([.slice [.i 5, .str [], .i 0, .i 0, .i 0, .int .u64 0, .i 0, .str [], .str [], .slice [] 0 .no, .i 0, .i 0, .i 0, .str [], .str [], .i 0, .i 0, .int .u64 0, .i 0, .str [], .str [], .slice [] 0 .no, .i 0, .i 0, .i 0, .i 0, .str [], .i 0, .i 0, .i 0, .str [], .str [], .i 0, .i 0, .int .u64 0, .i 0, .str [], .str [], .slice [] 0 .no, .i 0, .i 0, .i 0, .i 0, .i e2.op, .i e2.bin, .int .u64 e2.n, .i e2.tk, .str e2.tr, .str e2.name, .slice (exRows e2.kids) e2.kids.length .no, .i e2.line, .i e2.col, .i 0, .slice [] 0 .no, .slice [] 0 .no, .slice [] 0 .no, .i 1, .i 10] 1 .no, .i 1, .i 1] : List AV).length) ∧ True ∧ (0 ≤ (0 : Int) ∧ (0 : Int) < (1 : Nat) ∧ 0 * 58 ≤ ([.i 5, .str [], .i 0, .i 0, .i 0, .int .u64 0, .i 0, .str [], .str [], .slice [] 0 .no, .i 0, .i 0, .i 0, .str [], .str [], .i 0, .i 0, .int .u64 0, .i 0, .str [], .str [], .slice [] 0 .no, .i 0, .i 0, .i 0, .i 0, .str [], .i 0, .i 0, .i 0, .str [], .str [], .i 0, .i 0, .int .u64 0, .i 0, .str [], .str [], .slice [] 0 .no, .i 0, .i 0, .i 0, .i 0, .i e2.op, .i e2.bin, .int .u64 e2.n, .i e2.tk, .str e2.tr, .str e2.name, .slice (exRows e2.kids) e2.kids.length .no, .i e2.line, .i e2.col, .i 0, .slice [] 0 .no, .slice [] 0 .no, .slice [] 0 .no, .i 1, .i 10] : List AV).length) ∧ (43 ≤ ([.i 5, .str [], .i 0, .i 0, .i 0, .int .u64 0, .i 0, .str [], .str [], .slice [] 0 .no, .i 0, .i 0, .i 0, .str [], .str [], .i 0, .i 0, .int .u64 0, .i 0, .str [], .str [], .slice [] 0 .no, .i 0, .i 0, .i 0, .i 0, .str [], .i 0, .i 0, .i 0, .str [], .str [], .i 0, .i 0, .int .u64 0, .i 0, .str [], .str [], .slice [] 0 .no, .i 0, .i 0, .i 0, .i 0, .i e2.op, .i e2.bin, .int .u64 e2.n, .i e2.tk, .str e2.tr, .str e2.name, .slice (exRows e2.kids) e2.kids.length .no, .i e2.line, .i e2.col, .i 0, .slice [] 0 .no, .slice [] 0 .no, .slice [] 0 .no, .i 1, .i 10] : List AV).length) ∧ (9 ≤ ([.i e2.op, .i e2.bin, .int .u64 e2.n, .i e2.tk, .str e2.tr, .str e2.name, .slice (exRows e2.kids) e2.kids.length .no, .i e2.line, .i e2.col, .i 0, .slice [] 0 .no, .slice [] 0 .no, .slice [] 0 .no, .i 1, .i 10] : List AV).length) ∧ True) (by kernel_rfl) (by kernel_rfl) ⟨trivial, trivial, trivial, trivial, trivial, trivial, trivial, (by first | omega | (simp; done) | (simp; omega)), (by first | omega | (simp; done) | (simp; omega)), trivial, trivial, trivial, trivial, trivial, trivial, trivial, (by first | omega | (simp; done) | (simp; omega)), (by first | omega | (simp; done) | (simp; omega)), trivial, (by first | omega | (simp; done) | (simp; omega)), (by first | omega | (simp; done) | (simp; omega)), (by first | omega | (simp; done) | (simp; omega)), trivial, trivial, (by first | omega | (simp; done) | (simp; omega)), (by first | omega | (simp; done) | (simp; omega)), trivial, (by first | omega | (simp; done) | (simp; omega)), (by first | omega | (simp; done) | (simp; omega)), (by first | omega | (simp; done) | (simp; omega)), trivial⟩ ?_
   refine AAny.call (fuel := 4) (i := 22) (fid := 19) (cap := []) (avs := [.agg [.i e1.op, .i e1.bin, .int .u64 e1.n, .i e1.tk, .str e1.tr, .str e1.name, .slice (exRows e1.kids) e1.kids.length .no, .i e1.line, .i e1.col]]) rfl (by kernel_rfl) (by kernel_rfl) (by kernel_rfl) (by kernel_rfl) rfl (by kernel_rfl) en_19 (by kernel_rfl) (ACalls.mono (expr_walk _ e1 (Nat.le_refl _) hx1 _) ?_) (by kernel_rfl)
   rintro _ _ ⟨rfl, rfl⟩
   refine AAny.call (fuel := 3) (i := 31) (fid := 19) (cap := []) (avs := [.agg [.i e2.op, .i e2.bin, .int .u64 e2.n, .i e2.tk, .str e2.tr, .str e2.name, .slice (exRows e2.kids) e2.kids.length .no, .i e2.line, .i e2.col]]) rfl (by kernel_rfl) (by kernel_rfl) (by kernel_rfl) (by kernel_rfl) rfl (by kernel_rfl) en_19 (by kernel_rfl) (ACalls.mono (expr_walk _ e2 (Nat.le_refl _) hx2 _) ?_) (by kernel_rfl)
   rintro _ _ ⟨rfl, rfl⟩
   refine AAny.call (fuel := 2) (i := 32) (fid := 18) (cap := []) (avs := [.slice (strAV (exT e1)) ((exT e1).length) .no, .slice (strAV (exT e2)) ((exT e2).length) .no]) rfl (by kernel_rfl) (by kernel_rfl) (by kernel_rfl) (by kernel_rfl) rfl (by kernel_rfl) en_18 (by kernel_rfl) (ACalls.mono (same_walk2 e1 e2 hv hx1 _) ?_) (by kernel_rfl)
   rintro _ _ ⟨rfl, rfl⟩
   refine AAny.run hT nh (fuel := 0) [33, 34] [2] (fz' := false) (l' := #[true, true, true, true, true, true, true, true, true, true, true, true, true, true, true, true, true, true, true, true, true, true, true, true, true, true, true, true, true, true, true, true, true, true, true]) (fr' := ⟨[(2, .bool true)], [[.slice [] 0 .no, .slice [] 0 .no, .slice [] 0 .no, .slice [.slice [.i 5, .str [], .i 0, .i 0, .i 0, .int .u64 0, .i 0, .str [], .str [], .slice [] 0 .no, .i 0, .i 0, .i 0, .str [], .str [], .i 0, .i 0, .int .u64 0, .i 0, .str [], .str [], .slice [] 0 .no, .i 0, .i 0, .i 0, .i 0, .str [], .i 0, .i 0, .i 0, .str [], .str [], .i 0, .i 0, .int .u64 0, .i 0, .str [], .str [], .slice [] 0 .no, .i 0, .i 0, .i 0, .i 0, .i e1.op, .i e1.bin, .int .u64 e1.n, .i e1.tk, .str e1.tr, .str e1.name, .slice (exRows e1.kids) e1.kids.length .no, .i e1.line, .i e1.col, .i 0, .slice [] 0 .no, .slice [] 0 .no, .slice [] 0 .no, .i 1, .i 10] 1 .no, .i 1, .i 1] 1 .no], [.i 0, .i 0, .i 0], [.slice [] 0 .no, .slice [] 0 .no, .slice [] 0 .no, .slice [.slice [.i 5, .str [], .i 0, .i 0, .i 0, .int .u64 0, .i 0, .str [], .str [], .slice [] 0 .no, .i 0, .i 0, .i 0, .str [], .str [], .i 0, .i 0, .int .u64 0, .i 0, .str [], .str [], .slice [] 0 .no, .i 0, .i 0, .i 0, .i 0, .str [], .i 0, .i 0, .i 0, .str [], .str [], .i 0, .i 0, .int .u64 0, .i 0, .str [], .str [], .slice [] 0 .no, .i 0, .i 0, .i 0, .i 0, .i e2.op, .i e2.bin, .int .u64 e2.n, .i e2.tk, .str e2.tr, .str e2.name, .slice (exRows e2.kids) e2.kids.length .no, .i e2.line, .i e2.col, .i 0, .slice [] 0 .no, .slice [] 0 .no, .slice [] 0 .no, .i 1, .i 10] 1 .no, .i 1, .i 1] 1 .no], [.i 0, .i 0, .i 0]], [], [], 0⟩) (σ' := σ) (ob := Tt 3) (by kernel_rfl) (by kernel_rfl) (tt 3) ?_
   refine AAny.done (by kernel_rfl) ?_
   refine ACode.ret ?_
   refine retQ.ret (.bool true) (by kernel_rfl) ?_
   exact ⟨rfl, rfl⟩
theorem brackets_big (s : List UInt8)  (σ : St) (hs : 4096 < s.length) : ACalls Tryd.prog 9 [.str s] σ (fun e s2 => σ = s2 ∧ e = .ret (.bool true)) := by
  refine ACalls.enter hT Tryd.func9 rfl (by kernel_rfl) ?_
  refine ACode.seq ?_
  refine ACode.run hT nh [0] (fr' := ⟨[(0, .str s)], [], [], [], 0⟩) (σ' := σ) (ob := Tt 2) (by kernel_rfl) (tt 2) ?_
  refine ACode.seq ?_
  refine ACode.seq ?_
  refine ACode.region ?_
  refine AOps.call (fid := 16) (cap := []) (avs := []) (by kernel_rfl) rfl (by kernel_rfl) (by kernel_rfl) en_16 (by kernel_rfl) (ACalls.mono (alive5_walk _) ?_)
  rintro _ _ ⟨rfl, rfl⟩
  refine AOps.runN hT nh 1 [0, 8] (fr' := ⟨[(0, .str s), (8, .bool false)], [], [], [], 0⟩) (σ' := σ) (ob := Tt 2) (by kernel_rfl) (tt 2) ?_
  refine AOps.nil ?_
  refine ACode.cond (t := false) (by kernel_rfl) (fun h => Bool.noConfusion h) (fun _ => ?_)
  refine ACode.skip ?_
  refine ACode.seq ?_
  refine ACode.seq ?_
  refine ACode.run hT nh [0, 11] (fr' := ⟨[(0, .str s), (11, .bool (decide ((((s) : List UInt8).length : Int) > 4096)))], [], [], [], 0⟩) (σ' := σ) (ob := Tt 4) (by kernel_rfl) (tt 4) ?_
  refine ACode.cond (t := decide ((((s) : List UInt8).length : Int) > 4096)) (by kernel_rfl) (fun h1 => ?_) (fun h1 => ?_)
  ·
   have h1k := of_decide_eq_true h1
   refine ACode.seq ?_
   refine ACode.run hT nh [2] (fr' := ⟨[(2, .bool true)], [], [], [], 0⟩) (σ' := σ) (ob := Tt 2) (by kernel_rfl) (tt 2) ?_
   refine ACode.ret ?_
   refine retQ.ret (.bool true) (by kernel_rfl) ?_
   exact ⟨rfl, rfl⟩
  ·
   have h1k := of_decide_eq_false h1
   exact absurd hs (by have := of_decide_eq_false h1; omega)

theorem parseBrackets_walk (s : List UInt8) (σ : St) : ACalls Tryd.prog 9 [.str s] σ (fun e s2 => σ = s2 ∧ e = .ret (.bool true)) := by
  by_cases hs : s.length ≤ 4096
  ·rcases br_lex s hs with ⟨S, L, l1, l2, hS⟩ | ⟨k, ln, cl, l1, hk⟩
   ·have L1 : LOK (br1 S L) := by
     rcases lexS_cases' (brT1 s) with ⟨l, e, q, _⟩ | ⟨k, ln, cl, e, hk⟩
     ·rw [l1] at e; cases e; exact q
     ·rw [l1] at e; simp only [Prod.mk.injEq] at e; omega
    have p1 : parseT 200000 (brT1 s) = programF 200000 (br1 S L) pgZ ⟨0, 0⟩ := by unfold parseT; rw [l1, if_pos rfl]
    have p2 : parseT 200007 (brT2 s) = programF 200007 (br2 S L) pgZ ⟨0, 0⟩ := by unfold parseT; rw [l2, if_pos rfl]
    cases hx : parseT 200000 (brT1 s) with
    | out => exact absurd hx (parseT_out _ _ (by decide))
    | bad a b c => exact brackets_bad1 s a b c 200000 σ (by decide) hx ((program_nz _ _ _ _).nz a b c (by rw [← p1]; exact hx))
    | ok p sp =>
     cases hy : parseT 200007 (brT2 s) with
     | out => exact absurd hy (parseT_out _ _ (by decide))
     | bad a b c => exact brackets_bad2 s a b c p sp 200000 200007 σ (by decide) (by decide) hx hy ((program_nz _ _ _ _).nz a b c (by rw [← p2]; exact hy))
     | ok q sq =>
      obtain ⟨e1, e2, s1, hv, rfl, rfl, he⟩ := br_plain S L 199996 L1 (by omega) (by rw [← hx, p1]) (by rw [← hy, p2])
      have hz := (ex_sz (br1 S L) 199996).expr _ _ _ he
      have hg := (expr_nice L1 (s := ⟨3, 1⟩) ⟨by rw [br1_len]; simp only; omega, by decide, by decide⟩ (n := 199996) (by rw [br1_len]; simp only; omega)).ok e1 s1 he
      have hp := hg.2.1.pos
      rw [br1_len] at hp
      have hb : (exT e1).length ≤ 1000000 := by omega
      exact brackets_ok s e1 e2 sp sq 200000 200007 σ (by decide) (by decide) hx hy hv hb (by rw [← hv.text]; exact hb)
   ·have hx : parseT 200000 (brT1 s) = .bad k ln cl := by unfold parseT; rw [l1, if_neg (by simp only; exact hk)]
    exact brackets_bad1 s k ln cl 200000 σ (by decide) hx hk
  ·exact brackets_big s σ (by omega)

end Go.AE

