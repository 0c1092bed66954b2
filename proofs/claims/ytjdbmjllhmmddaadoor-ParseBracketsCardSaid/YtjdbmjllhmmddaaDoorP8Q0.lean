/- Parts of the proof of a law, in build order: Ae1, AeG, Ae2, Ae3, Ae4, Ae5, Ae6, Ae7, Ae8, Ae9, Ae10, Ae11. -/
import Derived.WalkKit
import Derived.Laws.StructEq
set_option maxRecDepth 2000
set_option linter.unusedVariables false
set_option linter.unusedSimpArgs false
/- The abstract side of a walk: values with slices and strings by content, and what they mean in a world of the model. -/
set_option linter.unusedVariables false
set_option linter.unusedSimpArgs false
namespace Go.AE

inductive Own where
  | exact
  | no
  | tok (t sz : Nat)

def Own.plain : Own → Bool
  | .tok _ _ => false
  | _ => true

inductive AV where
  | any
  | bool (b : Bool)
  | int (k : IntKind) (n : Int)
  | str (s : List UInt8)
  | nilp
  | ptr (i o : Nat)
  | loc (i o : Nat)
  | iter (i : Nat)
  | dat (cs : List AV)
  | slice (cs : List AV) (n : Nat) (own : Own)
  | func (f : FuncId) (cap : List AV)
  | nilFunc
  | iface (t : TypeId) (v : AV)
  | nilIface
  | agg (cs : List AV)
  | tuple (vs : List AV)

instance : Inhabited AV := ⟨.any⟩

structure View where
  n : Nat
  mu : Nat → Nat
  ext : Nat → Nat
  w : World

mutual
def CR (V : View) : AV → Value → Prop
  | .any, _ => True
  | .bool b, v => v = .bool b
  | .int k n, v => v = .int k n
  | .str s, v => ∃ x : ByteArray, v = .string x ∧ x.data.toList = s
  | .nilp, v => v = .pointer none
  | .ptr i o, v => i < V.n ∧ v = .pointer (some ⟨V.mu i, o, none⟩)
  | .loc _ _, _ => False
  | .iter _, _ => False
  | .dat cs, v => ∃ b o, v = .pointer (some ⟨b, o, none⟩) ∧ b < V.w.heap.size ∧ o + cs.length ≤ V.ext b ∧ CRat V cs b o
  | .slice cs n own, v => own.plain = true ∧ ∃ A cap, v = .slice A n cap ∧ n ≤ cap ∧ (own = .exact → cap = n) ∧
      ((A = none ∧ cs = [] ∧ n = 0 ∧ cap = 0) ∨ ∃ b o, A = some ⟨b, o, none⟩ ∧ b < V.w.heap.size ∧ o + cs.length ≤ V.ext b ∧ CRat V cs b o)
  | .func f cap, v => ∃ vs : List Value, v = .func (.func f) #[] vs.toArray ∧ CRs V cap vs
  | .nilFunc, v => v = .nilFunc
  | .iface t a, v => ∃ x, v = .iface t x ∧ CR V a x
  | .nilIface, v => v = .nilIface
  | .agg cs, v => ∃ vs : List Value, v = .agg vs.toArray ∧ CRs V cs vs ∧ (∀ x ∈ vs, x.oneCell' = true)
  | .tuple cs, v => ∃ vs : List Value, v = .tuple vs.toArray ∧ CRs V cs vs
def CRs (V : View) : List AV → List Value → Prop
  | [], vs => vs = []
  | a :: as, vs => ∃ v r, vs = v :: r ∧ CR V a v ∧ CRs V as r
def CRat (V : View) : List AV → Nat → Nat → Prop
  | [], _, _ => True
  | a :: as, b, o => (∃ v, V.w.cell? ⟨b, o, none⟩ = some v ∧ v.oneCell' = true ∧ CR V a v) ∧ CRat V as b (o + 1)
end

structure VLE (V V' : View) : Prop where
  n : V.n ≤ V'.n
  mu : ∀ i, i < V.n → V'.mu i = V.mu i
  size : V.w.heap.size ≤ V'.w.heap.size
  ext : ∀ b, b < V.w.heap.size → V.ext b ≤ V'.ext b
  cell : ∀ b o, b < V.w.heap.size → o < V.ext b → V'.w.cell? ⟨b, o, none⟩ = V.w.cell? ⟨b, o, none⟩

theorem VLE.refl (V : View) : VLE V V := ⟨Nat.le_refl _, fun _ _ => rfl, Nat.le_refl _, fun _ _ => Nat.le_refl _, fun _ _ _ _ => rfl⟩
theorem VLE.trans {A B C : View} (h : VLE A B) (k : VLE B C) : VLE A C :=
  ⟨Nat.le_trans h.n k.n, fun i hi => (k.mu i (Nat.lt_of_lt_of_le hi h.n)).trans (h.mu i hi), Nat.le_trans h.size k.size,
   fun b hb => Nat.le_trans (h.ext b hb) (k.ext b (Nat.lt_of_lt_of_le hb h.size)),
   fun b o hb ho => (k.cell b o (Nat.lt_of_lt_of_le hb h.size) (Nat.lt_of_lt_of_le ho (h.ext b hb))).trans (h.cell b o hb ho)⟩

mutual
theorem CR_mono {V V' : View} (h : VLE V V') : ∀ (a : AV) (v : Value), CR V a v → CR V' a v
  | .any, _, _ => by simp [CR]
  | .bool b, v, hv => by simpa [CR] using hv
  | .int k n, v, hv => by simpa [CR] using hv
  | .str s, v, hv => by simpa [CR] using hv
  | .nilp, v, hv => by simpa [CR] using hv
  | .ptr i o, v, hv => by
    simp only [CR] at hv ⊢
    exact ⟨Nat.lt_of_lt_of_le hv.1 h.n, by rw [h.mu i hv.1]; exact hv.2⟩
  | .loc _ _, _, hv => by simp [CR] at hv
  | .iter _, _, hv => by simp [CR] at hv
  | .dat cs, v, hv => by
    simp only [CR] at hv ⊢
    obtain ⟨b, o, e, hb, he, hc⟩ := hv
    exact ⟨b, o, e, Nat.lt_of_lt_of_le hb h.size, Nat.le_trans he (h.ext b hb), CRat_mono h cs b o hb he hc⟩
  | .slice cs n own, v, hv => by
    simp only [CR] at hv ⊢
    obtain ⟨hp, A, cap, e, hnc, ho, hA⟩ := hv
    refine ⟨hp, A, cap, e, hnc, ho, ?_⟩
    rcases hA with hA | ⟨b, o, eA, hb, he, hc⟩
    · exact .inl hA
    · exact .inr ⟨b, o, eA, Nat.lt_of_lt_of_le hb h.size, Nat.le_trans he (h.ext b hb), CRat_mono h cs b o hb he hc⟩
  | .func f cap, v, hv => by
    simp only [CR] at hv ⊢
    obtain ⟨vs, e, hc⟩ := hv
    exact ⟨vs, e, CRs_mono h cap vs hc⟩
  | .nilFunc, v, hv => by simpa [CR] using hv
  | .iface t a, v, hv => by
    simp only [CR] at hv ⊢
    obtain ⟨x, e, hc⟩ := hv
    exact ⟨x, e, CR_mono h a x hc⟩
  | .nilIface, v, hv => by simpa [CR] using hv
  | .agg cs, v, hv => by
    simp only [CR] at hv ⊢
    obtain ⟨vs, e, hc, h1⟩ := hv
    exact ⟨vs, e, CRs_mono h cs vs hc, h1⟩
  | .tuple cs, v, hv => by
    simp only [CR] at hv ⊢
    obtain ⟨vs, e, hc⟩ := hv
    exact ⟨vs, e, CRs_mono h cs vs hc⟩
theorem CRs_mono {V V' : View} (h : VLE V V') : ∀ (as : List AV) (vs : List Value), CRs V as vs → CRs V' as vs
  | [], vs, hv => by simpa [CRs] using hv
  | a :: as, vs, hv => by
    simp only [CRs] at hv ⊢
    obtain ⟨v, r, e, h1, h2⟩ := hv
    exact ⟨v, r, e, CR_mono h a v h1, CRs_mono h as r h2⟩
theorem CRat_mono {V V' : View} (h : VLE V V') : ∀ (as : List AV) (b o : Nat), b < V.w.heap.size → o + as.length ≤ V.ext b → CRat V as b o → CRat V' as b o
  | [], b, o, _, _, _ => by simp [CRat]
  | a :: as, b, o, hb, he, hv => by
    simp only [CRat] at hv ⊢
    obtain ⟨⟨v, hc, h1, hr⟩, h2⟩ := hv
    simp only [List.length_cons] at he
    exact ⟨⟨v, (h.cell b o hb (by omega)).trans hc, h1, CR_mono h a v hr⟩, CRat_mono h as b (o + 1) hb (by omega) h2⟩
end

theorem CRs_length {V : View} : ∀ {as : List AV} {vs : List Value}, CRs V as vs → vs.length = as.length
  | [], vs, h => by simp [CRs] at h; simp [h]
  | a :: as, vs, h => by
    simp only [CRs] at h
    obtain ⟨v, r, rfl, _, h2⟩ := h
    simp [CRs_length h2]

theorem CRs_get {V : View} : ∀ {as : List AV} {vs : List Value} (i : Nat) (a : AV), CRs V as vs → as[i]? = some a → ∃ v, vs[i]? = some v ∧ CR V a v
  | [], vs, i, a, _, ha => by simp at ha
  | x :: as, vs, i, a, h, ha => by
    simp only [CRs] at h
    obtain ⟨v, r, rfl, h1, h2⟩ := h
    cases i with
    | zero => simp at ha; subst ha; exact ⟨v, by simp, h1⟩
    | succ i => simp at ha; obtain ⟨u, hu, hc⟩ := CRs_get i a h2 ha; exact ⟨u, by simpa using hu, hc⟩

theorem CRs_append {V : View} : ∀ {as bs : List AV} {vs us : List Value}, CRs V as vs → CRs V bs us → CRs V (as ++ bs) (vs ++ us)
  | [], bs, vs, us, h, k => by simp [CRs] at h; subst h; simpa using k
  | a :: as, bs, vs, us, h, k => by
    simp only [CRs] at h
    obtain ⟨v, r, rfl, h1, h2⟩ := h
    simp only [List.cons_append, CRs]
    exact ⟨v, r ++ us, rfl, h1, CRs_append h2 k⟩

theorem CRs_take {V : View} : ∀ {as : List AV} {vs : List Value} (n : Nat), CRs V as vs → CRs V (as.take n) (vs.take n)
  | [], vs, n, h => by simp [CRs] at h; subst h; simp [CRs]
  | a :: as, vs, n, h => by
    simp only [CRs] at h
    obtain ⟨v, r, rfl, h1, h2⟩ := h
    cases n with
    | zero => simp [CRs]
    | succ n => simp only [List.take_succ_cons, CRs]; exact ⟨v, _, rfl, h1, CRs_take n h2⟩

theorem CRs_drop {V : View} : ∀ {as : List AV} {vs : List Value} (n : Nat), CRs V as vs → CRs V (as.drop n) (vs.drop n)
  | [], vs, n, h => by simp [CRs] at h; subst h; simp [CRs]
  | a :: as, vs, n, h => by
    simp only [CRs] at h
    obtain ⟨v, r, rfl, h1, h2⟩ := h
    cases n with
    | zero => simp only [List.drop_zero, CRs]; exact ⟨v, r, rfl, h1, h2⟩
    | succ n => simpa using CRs_drop n h2

theorem CRat_take {V : View} : ∀ {as : List AV} {b o : Nat} (n : Nat), CRat V as b o → CRat V (as.take n) b o
  | [], b, o, n, h => by simp [CRat]
  | a :: as, b, o, 0, h => by simp [CRat]
  | a :: as, b, o, n + 1, h => by
    simp only [CRat, List.take_succ_cons] at h ⊢
    exact ⟨h.1, CRat_take n h.2⟩

theorem CRat_drop {V : View} : ∀ {as : List AV} {b o : Nat} (n : Nat), CRat V as b o → CRat V (as.drop n) b (o + n)
  | [], b, o, n, h => by simp [CRat]
  | a :: as, b, o, 0, h => h
  | a :: as, b, o, n + 1, h => by
    simp only [CRat, List.drop_succ_cons] at h ⊢
    have := CRat_drop n h.2
    rwa [show o + 1 + n = o + (n + 1) from by omega] at this

theorem CRat_append {V : View} : ∀ {as bs : List AV} {b o : Nat}, CRat V as b o → CRat V bs b (o + as.length) → CRat V (as ++ bs) b o
  | [], bs, b, o, h, k => by simpa using k
  | a :: as, bs, b, o, h, k => by
    simp only [CRat, List.cons_append, List.length_cons] at h k ⊢
    exact ⟨h.1, CRat_append h.2 (by rwa [show o + 1 + as.length = o + (as.length + 1) from by omega])⟩

theorem CRat_list {V : View} : ∀ {as : List AV} {b o : Nat}, CRat V as b o → ∃ vs : List Value, CRs V as vs ∧ (∀ x ∈ vs, x.oneCell' = true) ∧ ∀ j v, vs[j]? = some v → V.w.cell? ⟨b, o + j, none⟩ = some v
  | [], b, o, _ => ⟨[], by simp [CRs], by simp, by simp⟩
  | a :: as, b, o, h => by
    simp only [CRat] at h
    obtain ⟨⟨v, hc, h1, hr⟩, h2⟩ := h
    obtain ⟨vs, hs, h3, h4⟩ := CRat_list h2
    refine ⟨v :: vs, by simp only [CRs]; exact ⟨v, vs, rfl, hr, hs⟩, ?_, ?_⟩
    · intro x hx
      rcases List.mem_cons.1 hx with rfl | hx
      · exact h1
      · exact h3 x hx
    · intro j u hj
      cases j with
      | zero => simp at hj; subst hj; simpa using hc
      | succ j => simp at hj; have := h4 j u hj; rwa [show o + 1 + j = o + (j + 1) from by omega] at this

theorem CRat_of_list {V : View} : ∀ {as : List AV} {vs : List Value} {b o : Nat}, CRs V as vs → (∀ x ∈ vs, x.oneCell' = true) → (∀ j v, vs[j]? = some v → V.w.cell? ⟨b, o + j, none⟩ = some v) → CRat V as b o
  | [], vs, b, o, _, _, _ => by simp [CRat]
  | a :: as, vs, b, o, h, h1, hc => by
    simp only [CRs] at h
    obtain ⟨v, r, rfl, hr, h2⟩ := h
    simp only [CRat]
    refine ⟨⟨v, by simpa using hc 0 v (by simp), h1 v (by simp), hr⟩, CRat_of_list h2 (fun x hx => h1 x (by simp [hx])) fun j u hj => ?_⟩
    rw [show o + 1 + j = o + (j + 1) from by omega]
    exact hc (j + 1) u (by simpa using hj)

end Go.AE

/- The program's own variables, as they are when a law is called: of this seat. -/
set_option linter.unusedVariables false
namespace Go.AE

def lk {α : Type} : List (Nat × α) → Nat → Option α
  | [], _ => none
  | (k, v) :: r, t => match Nat.beq k t with | true => some v | false => lk r t

def AllOf {α : Type} (F : Nat → α → Prop) : List (Nat × α) → Prop
  | [] => True
  | (k, v) :: r => F k v ∧ AllOf F r

theorem lk_all {α : Type} {F : Nat → α → Prop} : ∀ {l : List (Nat × α)} {t : Nat} {a : α}, AllOf F l → lk l t = some a → F t a
  | [], t, a, _, h => by simp [lk] at h
  | (k, v) :: r, t, a, hf, h => by
    simp only [lk] at h
    split at h
    · rename_i e
      have e := Nat.eq_of_beq_eq_true e
      subst e
      injection h with h; subst h
      exact hf.1
    · exact lk_all hf.2 h

theorem AllOf.mono {α : Type} {F G : Nat → α → Prop} (hm : ∀ k a, F k a → G k a) : ∀ {l : List (Nat × α)}, AllOf F l → AllOf G l
  | [], _ => trivial
  | (k, v) :: r, h => ⟨hm _ _ h.1, AllOf.mono hm h.2⟩

def theG : List (Nat × List AV) :=
  [(1, [.iface 145 .any]), (2, [.iface 145 .any]),
   (3, [.int .u64 1, .int .u64 10, .int .u64 100, .int .u64 1000, .int .u64 10000, .int .u64 100000, .int .u64 1000000, .int .u64 10000000, .int .u64 100000000, .int .u64 1000000000, .int .u64 10000000000, .int .u64 100000000000, .int .u64 1000000000000, .int .u64 10000000000000, .int .u64 100000000000000, .int .u64 1000000000000000, .int .u64 10000000000000000, .int .u64 100000000000000000, .int .u64 1000000000000000000, .int .u64 10000000000000000000])]
def theInt : List Nat := [0]

def GAt (V : View) (g : Nat) (cs : List AV) : Prop := CR V (.dat cs) (.pointer (some ⟨g, 0, none⟩))
def GOK (V : View) : Prop := AllOf (GAt V) theG ∧ ∀ x ∈ theInt, ∃ m, GAt V x [.int .i64 m]

theorem GOK_mono {V V' : View} (h : VLE V V') (k : GOK V) : GOK V' :=
  ⟨AllOf.mono (fun _ _ hv => CR_mono h _ _ hv) k.1, fun x hx => let ⟨m, hm⟩ := k.2 x hx; ⟨m, CR_mono h _ _ hm⟩⟩

end Go.AE

/- The abstract frame and heap, what they mean in a run of the model, and how each change of the world keeps that. -/
set_option linter.unusedVariables false
set_option linter.unusedSimpArgs false
namespace Go.AE

structure Fr where
  sl : List (Nat × AV)
  bx : List (List AV)
  it : List (List UInt8 × Nat)
  tk : List Nat
  nx : Nat

abbrev St := List (List AV)

def look : List (Nat × AV) → Nat → AV
  | [], _ => .any
  | (k, v) :: r, t => if k = t then v else look r t

structure Gh where
  V : View
  nu : Nat → Nat
  iu : Nat → Nat
  tb : Nat → Nat
  nb : Nat
  ni : Nat
  nx : Nat

def TokOk (g : Gh) (cs : List AV) (n t sz : Nat) (v : Value) : Prop :=
  ∃ cap c e, v = .slice (some ⟨g.tb t, 0, none⟩) n cap ∧ cs.length = g.V.ext (g.tb t) ∧ cs.length = n * sz ∧
    g.V.w.heap[g.tb t]? = some (.cells c e (0, 0)) ∧ cap * sz ≤ c.size ∧ n ≤ cap

def VR (g : Gh) (tk : List Nat) : AV → Value → Prop
  | .any, _ => True
  | .loc i o, v => i < g.nb ∧ v = .pointer (some ⟨g.nu i, o, none⟩)
  | .iter i, v => i < g.ni ∧ v = .pointer (some ⟨g.iu i, 0, none⟩)
  | .slice cs n (.tok t sz), v => t < g.nx ∧ CR g.V (.slice cs n .no) v ∧ (t ∈ tk → TokOk g cs n t sz v)
  | a, v => CR g.V a v

structure GLE (g g' : Gh) (tk tk' : List Nat) : Prop where
  V : VLE g.V g'.V
  nu : ∀ i, i < g.nb → g'.nu i = g.nu i
  iu : ∀ i, i < g.ni → g'.iu i = g.iu i
  nb : g.nb ≤ g'.nb
  ni : g.ni ≤ g'.ni
  nx : g.nx ≤ g'.nx
  tk : ∀ t, t ∈ tk' → t < g.nx → t ∈ tk ∧ g'.tb t = g.tb t ∧ g'.V.w.heap[g.tb t]? = g.V.w.heap[g.tb t]? ∧ g'.V.ext (g.tb t) = g.V.ext (g.tb t)

theorem VR_mono {g g' : Gh} {tk tk' : List Nat} (h : GLE g g' tk tk') {a : AV} {v : Value} (hv : VR g tk a v) : VR g' tk' a v := by
  unfold VR at hv ⊢
  split
  · trivial
  · exact ⟨Nat.lt_of_lt_of_le hv.1 h.nb, by rw [h.nu _ hv.1]; exact hv.2⟩
  · exact ⟨Nat.lt_of_lt_of_le hv.1 h.ni, by rw [h.iu _ hv.1]; exact hv.2⟩
  · refine ⟨Nat.lt_of_lt_of_le hv.1 h.nx, CR_mono h.V _ _ hv.2.1, fun ht => ?_⟩
    obtain ⟨k0, k1, k2, k3⟩ := h.tk _ ht hv.1
    obtain ⟨cap, c, e, e1, e2, e3, e4, e5, e6⟩ := hv.2.2 k0
    exact ⟨cap, c, e, by rw [k1]; exact e1, by rw [k1, k3]; exact e2, e3, by rw [k1, k2]; exact e4, e5, e6⟩
  · rename_i h1 h2 h3 h4
    have hv' : CR g.V a v := by
      split at hv
      · exact absurd rfl h1
      · exact absurd rfl (h2 _ _)
      · exact absurd rfl (h3 _)
      · exact absurd rfl (h4 _ _ _ _)
      · exact hv
    exact CR_mono h.V _ _ hv'

def shut : AV → Option AV
  | .loc _ _ => none
  | .iter _ => none
  | .slice cs n (.tok _ _) => some (.slice cs n .no)
  | a => some a

theorem CR_of_VR {g : Gh} {tk : List Nat} {a b : AV} {v : Value} (h : VR g tk a v) (hs : shut a = some b) : CR g.V b v := by
  cases a with
  | slice cs n own =>
    cases own with
    | tok t sz => simp only [shut, Option.some.injEq] at hs; subst hs; exact h.2.1
    | exact => simp only [shut, Option.some.injEq] at hs; subst hs; exact h
    | no => simp only [shut, Option.some.injEq] at hs; subst hs; exact h
  | loc i o => simp [shut] at hs
  | iter i => simp [shut] at hs
  | any => simp only [shut, Option.some.injEq] at hs; subst hs; simp [CR]
  | _ => simp only [shut, Option.some.injEq] at hs; subst hs; exact h

theorem VR_of_CR {g : Gh} {tk : List Nat} {a : AV} {v : Value} (h : CR g.V a v) : VR g tk a v := by
  unfold VR
  split
  · trivial
  · simp [CR] at h
  · simp [CR] at h
  · simp [CR, Own.plain] at h
  · exact h

def VRs (g : Gh) (tk : List Nat) : List AV → List Value → Prop
  | [], vs => vs = []
  | a :: as, vs => ∃ v r, vs = v :: r ∧ VR g tk a v ∧ VRs g tk as r

theorem VRs_mono {g g' : Gh} {tk tk' : List Nat} (h : GLE g g' tk tk') : ∀ {as : List AV} {vs : List Value}, VRs g tk as vs → VRs g' tk' as vs
  | [], vs, hv => hv
  | a :: as, vs, hv => by
    obtain ⟨v, r, e, h1, h2⟩ := hv
    exact ⟨v, r, e, VR_mono h h1, VRs_mono h h2⟩

theorem VRs_length {g : Gh} {tk : List Nat} : ∀ {as : List AV} {vs : List Value}, VRs g tk as vs → vs.length = as.length
  | [], vs, h => by simp [VRs] at h; simp [h]
  | a :: as, vs, h => by
    obtain ⟨v, r, rfl, _, h2⟩ := h
    simp [VRs_length h2]

theorem VRs_get {g : Gh} {tk : List Nat} : ∀ {as : List AV} {vs : List Value} (i : Nat) (a : AV), VRs g tk as vs → as[i]? = some a → ∃ v, vs[i]? = some v ∧ VR g tk a v
  | [], vs, i, a, _, ha => by simp at ha
  | x :: as, vs, i, a, h, ha => by
    obtain ⟨v, r, rfl, h1, h2⟩ := h
    cases i with
    | zero => simp at ha; subst ha; exact ⟨v, by simp, h1⟩
    | succ i => simp at ha; obtain ⟨u, hu, hc⟩ := VRs_get i a h2 ha; exact ⟨u, by simpa using hu, hc⟩

theorem VRs_append {g : Gh} {tk : List Nat} : ∀ {as bs : List AV} {vs us : List Value}, VRs g tk as vs → VRs g tk bs us → VRs g tk (as ++ bs) (vs ++ us)
  | [], bs, vs, us, h, k => by simp [VRs] at h; subst h; simpa using k
  | a :: as, bs, vs, us, h, k => by
    obtain ⟨v, r, rfl, h1, h2⟩ := h
    exact ⟨v, r ++ us, rfl, h1, VRs_append h2 k⟩

theorem VRs_take {g : Gh} {tk : List Nat} : ∀ {as : List AV} {vs : List Value} (n : Nat), VRs g tk as vs → VRs g tk (as.take n) (vs.take n)
  | [], vs, n, h => by simp [VRs] at h; subst h; simp [VRs]
  | a :: as, vs, n, h => by
    obtain ⟨v, r, rfl, h1, h2⟩ := h
    cases n with
    | zero => simp [VRs]
    | succ n => exact ⟨v, _, rfl, h1, VRs_take n h2⟩

theorem VRs_drop {g : Gh} {tk : List Nat} : ∀ {as : List AV} {vs : List Value} (n : Nat), VRs g tk as vs → VRs g tk (as.drop n) (vs.drop n)
  | [], vs, n, h => by simp [VRs] at h; subst h; simp [VRs]
  | a :: as, vs, n, h => by
    obtain ⟨v, r, rfl, h1, h2⟩ := h
    cases n with
    | zero => exact ⟨v, r, rfl, h1, h2⟩
    | succ n => simpa using VRs_drop n h2

theorem VRs_of_CRs {g : Gh} {tk : List Nat} : ∀ {as : List AV} {vs : List Value}, CRs g.V as vs → VRs g tk as vs
  | [], vs, h => by simpa [CRs, VRs] using h
  | a :: as, vs, h => by
    simp only [CRs] at h
    obtain ⟨v, r, rfl, h1, h2⟩ := h
    exact ⟨v, r, rfl, VR_of_CR h1, VRs_of_CRs h2⟩

def shutAll : List AV → Option (List AV)
  | [] => some []
  | a :: as => match shut a with | some b => (match shutAll as with | some bs => some (b :: bs) | none => none) | none => none

theorem CRs_of_VRs {g : Gh} {tk : List Nat} : ∀ {as bs : List AV} {vs : List Value}, VRs g tk as vs → shutAll as = some bs → CRs g.V bs vs
  | [], bs, vs, h, k => by simp [shutAll] at k; subst k; simpa [CRs, VRs] using h
  | a :: as, bs, vs, h, k => by
    obtain ⟨v, r, rfl, h1, h2⟩ := h
    simp only [shutAll] at k
    split at k
    · rename_i b hb
      split at k
      · rename_i bs' hbs
        injection k with k; subst k
        simp only [CRs]
        exact ⟨v, r, rfl, CR_of_VR h1 hb, CRs_of_VRs h2 hbs⟩
      · cases k
    · cases k

structure Gr (V0 V : View) : Prop where
  le : VLE V0 V
  os : V.w.os = V0.w.os
  tape : V.w.tape = V0.w.tape
  output : V.w.output = V0.w.output
  blk : ∀ b, b < V0.w.heap.size → (∀ i, i < V0.n → V0.mu i ≠ b) → V.w.heap[b]? = V0.w.heap[b]?
  ext : ∀ b, b < V0.w.heap.size → V.ext b = V0.ext b
  new : ∀ i, V0.n ≤ i → i < V.n → V0.w.heap.size ≤ V.mu i

theorem Gr.refl (V : View) : Gr V V := ⟨VLE.refl V, rfl, rfl, rfl, fun _ _ _ => rfl, fun _ _ => rfl, fun i h k => by omega⟩
theorem Gr.trans {A B C : View} (h : Gr A B) (k : Gr B C) : Gr A C where
  le := h.le.trans k.le
  os := k.os.trans h.os
  tape := k.tape.trans h.tape
  output := k.output.trans h.output
  blk b hb hn := by
    rw [k.blk b (Nat.lt_of_lt_of_le hb h.le.size) fun i hi => ?_, h.blk b hb hn]
    rcases Nat.lt_or_ge i A.n with h' | h'
    · rw [h.le.mu i h']; exact hn i h'
    · have := h.new i h' hi; omega
  ext b hb := (k.ext b (Nat.lt_of_lt_of_le hb h.le.size)).trans (h.ext b hb)
  new i h1 h2 := by
    rcases Nat.lt_or_ge i B.n with h' | h'
    · rw [k.le.mu i h']; exact h.new i h1 h'
    · exact Nat.le_trans h.le.size (k.new i h' h2)

structure HInv (V : View) (σ : St) : Prop where
  n : V.n = σ.length
  ob : ∀ i cs, σ[i]? = some cs → ∃ c e, V.w.heap[V.mu i]? = some (.cells c e (0, 0)) ∧ CRs V cs c.toList ∧ ∀ x ∈ c.toList, x.oneCell' = true
  ox : ∀ i, i < V.n → V.ext (V.mu i) = 0
  inj : ∀ i j, i < V.n → j < V.n → V.mu i = V.mu j → i = j
  gl : GOK V

theorem lt_of_heap {w : World} {b : Nat} {x : Obj} (h : w.heap[b]? = some x) : b < w.heap.size := (Array.getElem?_eq_some_iff.1 h).1

theorem HInv.lt {V : View} {σ : St} (h : HInv V σ) {i : Nat} (hi : i < V.n) : V.mu i < V.w.heap.size := by
  have hi' : i < σ.length := by rw [← h.n]; exact hi
  obtain ⟨c, e, hh, _⟩ := h.ob i σ[i] (List.getElem?_eq_getElem hi')
  exact lt_of_heap hh

structure FInv (g : Gh) (fr : Fr) (B : Nat) : Prop where
  nb : g.nb = fr.bx.length
  ni : g.ni = fr.it.length
  nx : g.nx = fr.nx
  bx : ∀ i cs, fr.bx[i]? = some cs → ∃ c e, g.V.w.heap[g.nu i]? = some (.cells c e (0, 0)) ∧ VRs g fr.tk cs c.toList ∧ ∀ x ∈ c.toList, x.oneCell' = true
  bxn : ∀ i, i < g.nb → B ≤ g.nu i ∧ g.V.ext (g.nu i) = 0 ∧ ∀ j, j < g.V.n → g.V.mu j ≠ g.nu i
  bxi : ∀ i j, i < g.nb → j < g.nb → g.nu i = g.nu j → i = j
  it : ∀ i s p, fr.it[i]? = some (s, p) → B ≤ g.iu i ∧ ∃ x : ByteArray, g.V.w.heap[g.iu i]? = some (.stringIter x p) ∧ x.data.toList = s
  iti : ∀ i j, i < g.ni → j < g.ni → g.iu i = g.iu j → i = j
  tk : ∀ t, t ∈ fr.tk → t < fr.nx ∧ B ≤ g.tb t ∧ g.tb t < g.V.w.heap.size ∧ (∀ j, j < g.V.n → g.V.mu j ≠ g.tb t) ∧ ∀ j, j < g.nb → g.nu j ≠ g.tb t
  tkc : ∀ t, t ∈ fr.tk → ∃ c e, g.V.w.heap[g.tb t]? = some (.cells c e (0, 0))
  tki : ∀ t u, t ∈ fr.tk → u ∈ fr.tk → g.tb t = g.tb u → t = u

structure Ent where
  V : View
  nt : Nat
  df : List Deferred := []

structure Rel (E : Ent) (g : Gh) (fr : Fr) (σ : St) (a : Act) (w : World) : Prop where
  w : g.V.w = w
  H : HInv g.V σ
  F : FInv g fr E.V.w.heap.size
  sl : ∀ k, VR g fr.tk (look fr.sl k) (a.tmps.getD k undef)
  df : a.defers = E.df
  nt : a.tmps.size = E.nt
  gr : Gr E.V g.V

def Fr.put (fr : Fr) (d : Option Nat) (v : AV) : Fr :=
  match d with
  | some d => { fr with sl := (d, v) :: fr.sl }
  | none => fr

theorem Rel.put {E : Ent} {g : Gh} {fr : Fr} {σ : St} {a : Act} {w : World} (h : Rel E g fr σ a w) (d : Option Nat) {v : AV} {x : Value} (hv : VR g fr.tk v x) (hd : ∀ k, d = some k → k < E.nt) :
    Rel E g (fr.put d v) σ (a.put d x) w := by
  cases d with
  | none => exact h
  | some d =>
    have hd := hd d rfl
    refine ⟨h.w, h.H, ⟨h.F.nb, h.F.ni, h.F.nx, h.F.bx, h.F.bxn, h.F.bxi, h.F.it, h.F.iti, h.F.tk, h.F.tkc, h.F.tki⟩, ?_, h.df, ?_, h.gr⟩
    · intro k
      simp only [Fr.put, look, Act.put]
      split
      · rename_i e; subst e
        rw [show (a.tmps.setIfInBounds d x).getD d undef = x from by simp [Array.getD, h.nt, hd]]
        exact hv
      · rename_i hne
        have := h.sl k
        rwa [show (a.tmps.setIfInBounds d x).getD k undef = a.tmps.getD k undef from by
          simp [Array.getD_eq_getD_getElem?, Array.getElem?_setIfInBounds_ne hne]]
    · simp [Act.put, h.nt]

theorem Rel.weak {E : Ent} {g : Gh} {fr : Fr} {σ : St} {a : Act} {w : World} (h : Rel E g fr σ a w) (sl : List (Nat × AV)) (hs : ∀ k, look sl k = look fr.sl k ∨ look sl k = .any) :
    Rel E g { fr with sl := sl } σ a w := by
  refine ⟨h.w, h.H, ⟨h.F.nb, h.F.ni, h.F.nx, h.F.bx, h.F.bxn, h.F.bxi, h.F.it, h.F.iti, h.F.tk, h.F.tkc, h.F.tki⟩, fun k => ?_, h.df, h.nt, h.gr⟩
  rcases hs k with e | e
  · show VR g fr.tk (look sl k) _; rw [e]; exact h.sl k
  · show VR g fr.tk (look sl k) _; rw [e]; simp [VR]

def keep (sl : List (Nat × AV)) : List Nat → List (Nat × AV)
  | [] => []
  | k :: ks => (k, look sl k) :: keep sl ks

theorem look_keep (sl : List (Nat × AV)) : ∀ (ks : List Nat) (k : Nat), look (keep sl ks) k = look sl k ∨ look (keep sl ks) k = .any
  | [], k => .inr rfl
  | x :: ks, k => by
    simp only [keep, look]
    split
    · rename_i e; subst e; exact .inl rfl
    · exact look_keep sl ks k

end Go.AE

/- Each change of the world: a call, a draw, a new block, a store, an append: the abstract frame and heap follow. -/
set_option linter.unusedVariables false
set_option linter.unusedSimpArgs false
namespace Go.AE

theorem GLE.of_gr {g : Gh} {V' : View} {tk : List Nat} (gr : Gr g.V V') (htk : ∀ t, t ∈ tk → g.tb t < g.V.w.heap.size ∧ ∀ j, j < g.V.n → g.V.mu j ≠ g.tb t) : GLE g { g with V := V' } tk tk where
  V := gr.le
  nu _ _ := rfl
  iu _ _ := rfl
  nb := Nat.le_refl _
  ni := Nat.le_refl _
  nx := Nat.le_refl _
  tk t ht _ := ⟨ht, rfl, gr.blk _ (htk t ht).1 (htk t ht).2, gr.ext _ (htk t ht).1⟩

theorem FInv.ltb {g : Gh} {fr : Fr} {B : Nat} (h : FInv g fr B) {i : Nat} (hi : i < g.nb) : g.nu i < g.V.w.heap.size := by
  have hi' : i < fr.bx.length := by rw [← h.nb]; exact hi
  obtain ⟨c, e, hh, _⟩ := h.bx i fr.bx[i] (List.getElem?_eq_getElem hi')
  exact lt_of_heap hh

theorem FInv.ltt {g : Gh} {fr : Fr} {B : Nat} (h : FInv g fr B) {i : Nat} (hi : i < g.ni) : g.iu i < g.V.w.heap.size := by
  have hi' : i < fr.it.length := by rw [← h.ni]; exact hi
  obtain ⟨_, x, hh, _⟩ := h.it i (fr.it[i]).1 (fr.it[i]).2 (List.getElem?_eq_getElem hi')
  exact lt_of_heap hh

theorem iter_ne_obj {V : View} {σ : St} (hH : HInv V σ) {r : Nat} {x : ByteArray} {p : Nat} (h : V.w.heap[r]? = some (.stringIter x p)) : ∀ j, j < V.n → V.mu j ≠ r := by
  intro j hj e
  have hj' : j < σ.length := by rw [← hH.n]; exact hj
  obtain ⟨c, t, hh, _⟩ := hH.ob j σ[j] (List.getElem?_eq_getElem hj')
  rw [e, h] at hh
  cases hh

theorem Rel.step {E : Ent} {g : Gh} {fr : Fr} {σ σ' : St} {a : Act} {w : World} (h : Rel E g fr σ a w) {V' : View} (gr : Gr g.V V') (hH : HInv V' σ') :
    Rel E { g with V := V' } fr σ' a V'.w := by
  have hG : GLE g { g with V := V' } fr.tk fr.tk := GLE.of_gr gr fun t ht => ⟨(h.F.tk t ht).2.2.1, (h.F.tk t ht).2.2.2.1⟩
  have hnew : ∀ (b : Nat), b < g.V.w.heap.size → (∀ j, j < g.V.n → g.V.mu j ≠ b) → ∀ j, j < V'.n → V'.mu j ≠ b := fun b hb hn j hj => by
    rcases Nat.lt_or_ge j g.V.n with h' | h'
    · rw [gr.le.mu j h']; exact hn j h'
    · have := gr.new j h' hj; omega
  refine ⟨rfl, hH, ?_, fun k => VR_mono hG (h.sl k), h.df, h.nt, h.gr.trans gr⟩
  refine ⟨h.F.nb, h.F.ni, h.F.nx, ?_, ?_, h.F.bxi, ?_, h.F.iti, ?_, ?_, h.F.tki⟩
  · intro i cs hi
    have hi' : i < g.nb := by rw [h.F.nb]; exact (List.getElem?_eq_some_iff.1 hi).1
    obtain ⟨c, e, hh, hv, h1⟩ := h.F.bx i cs hi
    exact ⟨c, e, (gr.blk _ (lt_of_heap hh) (h.F.bxn i hi').2.2).trans hh, VRs_mono hG hv, h1⟩
  · intro i hi
    obtain ⟨h1, h2, h3⟩ := h.F.bxn i hi
    exact ⟨h1, (gr.ext _ (h.F.ltb hi)).trans h2, hnew _ (h.F.ltb hi) h3⟩
  · intro i s p hi
    obtain ⟨h1, x, hh, hs⟩ := h.F.it i s p hi
    exact ⟨h1, x, (gr.blk _ (lt_of_heap hh) (iter_ne_obj h.H hh)).trans hh, hs⟩
  · intro t ht
    obtain ⟨h1, h2, h3, h4, h5⟩ := h.F.tk t ht
    exact ⟨h1, h2, Nat.lt_of_lt_of_le h3 gr.le.size, hnew _ h3 h4, h5⟩
  · intro t ht
    obtain ⟨c, e, hh⟩ := h.F.tkc t ht
    exact ⟨c, e, (gr.blk _ (h.F.tk t ht).2.2.1 (h.F.tk t ht).2.2.2.1).trans hh⟩

def View.atW (V : View) (w : World) : View := { V with w := w }

theorem Gr.of_heap {V : View} {w : World} (hh : w.heap = V.w.heap) (h1 : w.os = V.w.os) (h2 : w.tape = V.w.tape) (h3 : w.output = V.w.output) : Gr V (V.atW w) where
  le := ⟨Nat.le_refl _, fun _ _ => rfl, by simp [View.atW, hh], fun _ _ => Nat.le_refl _, fun b o _ _ => by simp [View.atW, World.cell?, hh]⟩
  os := h1
  tape := h2
  output := h3
  blk b _ _ := by simp [View.atW, hh]
  ext _ _ := rfl
  new i a b := by simp [View.atW] at b; omega

theorem HInv.of_heap {V : View} {σ : St} {w : World} (h : HInv V σ) (hh : w.heap = V.w.heap) (hv : VLE V (V.atW w)) : HInv (V.atW w) σ where
  n := h.n
  ob i cs hi := by
    obtain ⟨c, e, h1, h2, h3⟩ := h.ob i cs hi
    exact ⟨c, e, by simpa [View.atW, hh] using h1, CRs_mono hv _ _ h2, h3⟩
  ox := h.ox
  inj := h.inj
  gl := GOK_mono hv h.gl

theorem Rel.drawn {E : Ent} {g : Gh} {fr : Fr} {σ : St} {a : Act} {w : World} (h : Rel E g fr σ a w) (n : Nat) :
    Rel E { g with V := g.V.atW { w with drawn := n } } fr σ a { w with drawn := n } := by
  have gr : Gr g.V (g.V.atW { w with drawn := n }) := Gr.of_heap (by simp [h.w]) (by simp [h.w]) (by simp [h.w]) (by simp [h.w])
  exact h.step gr (h.H.of_heap (by simp [h.w]) gr.le)

def View.grow (V : View) (o : Obj) (e : Nat) : View :=
  { V with w := V.w.alloc o, ext := fun b => if b = V.w.heap.size then e else V.ext b }

theorem alloc_heap_old (w : World) (o : Obj) {b : Nat} (h : b < w.heap.size) : (w.alloc o).heap[b]? = w.heap[b]? := by
  show (w.heap.push o)[b]? = _
  rw [Array.getElem?_push, if_neg (by omega)]
theorem alloc_heap_new (w : World) (o : Obj) : (w.alloc o).heap[w.heap.size]? = some o := by
  show (w.heap.push o)[w.heap.size]? = _
  simp
theorem alloc_size (w : World) (o : Obj) : (w.alloc o).heap.size = w.heap.size + 1 := by
  show (w.heap.push o).size = _
  simp
theorem cell_of_heap {w w' : World} {b o : Nat} (h : w'.heap[b]? = w.heap[b]?) : w'.cell? ⟨b, o, none⟩ = w.cell? ⟨b, o, none⟩ := by
  simp only [World.cell?]; rw [h]

theorem Gr.grow (V : View) (o : Obj) (e : Nat) : Gr V (V.grow o e) where
  le := ⟨Nat.le_refl _, fun _ _ => rfl, by simp only [View.grow, alloc_size]; omega, fun b hb => by simp only [View.grow]; rw [if_neg (by omega)]; exact Nat.le_refl _,
    fun b o' hb _ => cell_of_heap (alloc_heap_old _ _ hb)⟩
  os := rfl
  tape := rfl
  output := rfl
  blk b hb _ := alloc_heap_old _ _ hb
  ext b hb := by simp only [View.grow]; rw [if_neg (by omega)]
  new i h k := by simp only [View.grow] at k; omega

theorem HInv.grow {V : View} {σ : St} (h : HInv V σ) (o : Obj) (e : Nat) : HInv (V.grow o e) σ where
  n := h.n
  ob i cs hi := by
    obtain ⟨c, t, h1, h2, h3⟩ := h.ob i cs hi
    exact ⟨c, t, (alloc_heap_old _ _ (lt_of_heap h1)).trans h1, CRs_mono (Gr.grow V o e).le _ _ h2, h3⟩
  ox i hi := by
    have := h.lt hi
    simp only [View.grow]
    rw [if_neg (by omega)]
    exact h.ox i hi
  inj := h.inj
  gl := GOK_mono (Gr.grow V o e).le h.gl

theorem Rel.grow {E : Ent} {g : Gh} {fr : Fr} {σ : St} {a : Act} {w : World} (h : Rel E g fr σ a w) (o : Obj) (e : Nat) :
    Rel E { g with V := g.V.grow o e } fr σ a (w.alloc o) := by
  have := h.step (Gr.grow g.V o e) (h.H.grow o e)
  have hw : (g.V.grow o e).w = w.alloc o := by simp [View.grow, h.w]
  rwa [hw] at this

theorem Rel.newBox {E : Ent} {g : Gh} {fr : Fr} {σ : St} {a : Act} {w : World} (h : Rel E g fr σ a w) {cs : List AV} {c : Array Value} (t : TypeId)
    (hv : VRs g fr.tk cs c.toList) (h1 : ∀ x ∈ c.toList, x.oneCell' = true) :
    ∃ g', Rel E g' { fr with bx := fr.bx ++ [cs] } σ a (w.alloc (.cells c t (0, 0))) ∧ VR g' fr.tk (.loc fr.bx.length 0) (.pointer (some ⟨w.heap.size, 0, none⟩)) ∧ GLE g g' fr.tk fr.tk := by
  have R := h.grow (.cells c t (0, 0)) 0
  have hsz : g.V.w.heap.size = w.heap.size := by rw [h.w]
  have hG0 : GLE g { g with V := g.V.grow (.cells c t (0, 0)) 0 } fr.tk fr.tk := GLE.of_gr (Gr.grow _ _ _) fun t ht => ⟨(h.F.tk t ht).2.2.1, (h.F.tk t ht).2.2.2.1⟩
  let g1 : Gh := { g with V := g.V.grow (.cells c t (0, 0)) 0, nu := fun i => if i = g.nb then w.heap.size else g.nu i, nb := g.nb + 1 }
  have hG : GLE { g with V := g.V.grow (.cells c t (0, 0)) 0 } g1 fr.tk fr.tk :=
    ⟨VLE.refl _, fun i hi => by simp only [g1]; rw [if_neg (by have : i < g.nb := hi; omega)], fun _ _ => rfl, Nat.le_succ _, Nat.le_refl _, Nat.le_refl _, fun t ht _ => ⟨ht, rfl, rfl, rfl⟩⟩
  have hG2 : GLE g g1 fr.tk fr.tk :=
    ⟨hG0.V, fun i hi => by simp only [g1]; rw [if_neg (by omega)], fun _ _ => rfl, Nat.le_succ _, Nat.le_refl _, Nat.le_refl _, hG0.tk⟩
  refine ⟨g1, ⟨R.w, R.H, ?_, fun k => VR_mono hG (R.sl k), R.df, R.nt, R.gr⟩, ?_, hG2⟩
  · have hlast : ∀ i, i < g.nb + 1 → i = g.nb ∨ i < g.nb := fun i hi => by omega
    refine ⟨by simp [g1, h.F.nb], R.F.ni, R.F.nx, ?_, ?_, ?_, R.F.it, R.F.iti, ?_, R.F.tkc, R.F.tki⟩
    · intro i x hi
      rw [List.getElem?_append] at hi
      split at hi
      · rename_i hlt
        obtain ⟨c', e, hh, hv', h1'⟩ := R.F.bx i x hi
        refine ⟨c', e, ?_, VRs_mono hG hv', h1'⟩
        simp only [g1]
        rw [if_neg (by rw [h.F.nb]; omega)]
        exact hh
      · rename_i hge
        have hi0 : i - fr.bx.length = 0 := by
          rcases Nat.eq_zero_or_pos (i - fr.bx.length) with h0 | h0
          · exact h0
          · rw [List.getElem?_eq_none (by simp; omega)] at hi; cases hi
        have hie : i = g.nb := by rw [h.F.nb]; omega
        rw [hi0] at hi
        simp only [List.getElem?_cons_zero, Option.some.injEq] at hi
        subst hi
        refine ⟨c, t, ?_, VRs_mono hG2 hv, h1⟩
        simp only [g1, hie, if_true, View.grow]
        rw [← hsz]
        exact alloc_heap_new _ _
    · intro i hi
      rcases hlast i hi with rfl | hi
      · simp only [g1, if_true, View.grow, ← hsz]
        refine ⟨h.gr.le.size, trivial, fun j hj => ?_⟩
        have := h.H.lt hj
        omega
      · have := R.F.bxn i hi
        simp only [g1]
        rw [if_neg (by omega)]
        exact this
    · intro i j hi hj e
      simp only [g1] at e
      rcases hlast i hi with rfl | hi <;> rcases hlast j hj with rfl | hj
      · rfl
      · rw [if_pos rfl, if_neg (by omega)] at e
        have := h.F.ltb hj; omega
      · rw [if_pos rfl, if_neg (by omega)] at e
        have := h.F.ltb hi; omega
      · rw [if_neg (by omega), if_neg (by omega)] at e
        exact h.F.bxi i j hi hj e
    · intro u hu
      obtain ⟨k1, k2, k3, k4, k5⟩ := R.F.tk u hu
      refine ⟨k1, k2, k3, k4, fun j hj => ?_⟩
      rcases hlast j hj with rfl | hj
      · simp only [g1, if_true]
        have := (h.F.tk u hu).2.2.1
        omega
      · simp only [g1]; rw [if_neg (by omega)]; exact k5 j hj
  · simp only [VR, g1, ← h.F.nb, if_true]
    exact ⟨by omega, trivial⟩

theorem Rel.newIter {E : Ent} {g : Gh} {fr : Fr} {σ : St} {a : Act} {w : World} (h : Rel E g fr σ a w) (x : ByteArray) (p : Nat) :
    ∃ g', Rel E g' { fr with it := fr.it ++ [(x.data.toList, p)] } σ a (w.alloc (.stringIter x p)) ∧ VR g' fr.tk (.iter fr.it.length) (.pointer (some ⟨w.heap.size, 0, none⟩)) ∧ GLE g g' fr.tk fr.tk := by
  have R := h.grow (.stringIter x p) 0
  have hsz : g.V.w.heap.size = w.heap.size := by rw [h.w]
  have hG0 : GLE g { g with V := g.V.grow (.stringIter x p) 0 } fr.tk fr.tk := GLE.of_gr (Gr.grow _ _ _) fun t ht => ⟨(h.F.tk t ht).2.2.1, (h.F.tk t ht).2.2.2.1⟩
  let g1 : Gh := { g with V := g.V.grow (.stringIter x p) 0, iu := fun i => if i = g.ni then w.heap.size else g.iu i, ni := g.ni + 1 }
  have hG : GLE { g with V := g.V.grow (.stringIter x p) 0 } g1 fr.tk fr.tk :=
    ⟨VLE.refl _, fun _ _ => rfl, fun i hi => by simp only [g1]; rw [if_neg (by have : i < g.ni := hi; omega)], Nat.le_refl _, Nat.le_succ _, Nat.le_refl _, fun t ht _ => ⟨ht, rfl, rfl, rfl⟩⟩
  have hG2 : GLE g g1 fr.tk fr.tk :=
    ⟨hG0.V, fun _ _ => rfl, fun i hi => by simp only [g1]; rw [if_neg (by omega)], Nat.le_refl _, Nat.le_succ _, Nat.le_refl _, hG0.tk⟩
  refine ⟨g1, ⟨R.w, R.H, ?_, fun k => VR_mono hG (R.sl k), R.df, R.nt, R.gr⟩, ?_, hG2⟩
  · have hlast : ∀ i, i < g.ni + 1 → i = g.ni ∨ i < g.ni := fun i hi => by omega
    refine ⟨R.F.nb, by simp [g1, h.F.ni], R.F.nx, ?_, R.F.bxn, R.F.bxi, ?_, ?_, R.F.tk, R.F.tkc, R.F.tki⟩
    · intro i cs hi
      obtain ⟨c', e, hh, hv', h1'⟩ := R.F.bx i cs hi
      exact ⟨c', e, hh, VRs_mono hG hv', h1'⟩
    · intro i s q hi
      rw [List.getElem?_append] at hi
      split at hi
      · rename_i hlt
        obtain ⟨k1, k2⟩ := R.F.it i s q hi
        simp only [g1]
        rw [if_neg (by rw [h.F.ni]; omega)]
        exact ⟨k1, k2⟩
      · rename_i hge
        have hi0 : i - fr.it.length = 0 := by
          rcases Nat.eq_zero_or_pos (i - fr.it.length) with h0 | h0
          · exact h0
          · rw [List.getElem?_eq_none (by simp; omega)] at hi; cases hi
        have hie : i = g.ni := by rw [h.F.ni]; omega
        rw [hi0] at hi
        simp only [List.getElem?_cons_zero, Option.some.injEq, Prod.mk.injEq] at hi
        obtain ⟨rfl, rfl⟩ := hi
        simp only [g1, hie, if_true, View.grow]
        refine ⟨by rw [← hsz]; exact h.gr.le.size, x, ?_, rfl⟩
        rw [← hsz]; exact alloc_heap_new _ _
    · intro i j hi hj e
      simp only [g1] at e
      rcases hlast i hi with rfl | hi <;> rcases hlast j hj with rfl | hj
      · rfl
      · rw [if_pos rfl, if_neg (by omega)] at e
        have := h.F.ltt hj; omega
      · rw [if_pos rfl, if_neg (by omega)] at e
        have := h.F.ltt hi; omega
      · rw [if_neg (by omega), if_neg (by omega)] at e
        exact h.F.iti i j hi hj e
  · simp only [VR, g1, ← h.F.ni, if_true]
    exact ⟨by omega, trivial⟩

theorem Rel.newObj {E : Ent} {g : Gh} {fr : Fr} {σ : St} {a : Act} {w : World} (h : Rel E g fr σ a w) {cs : List AV} {c : Array Value} (t : TypeId)
    (hv : CRs g.V cs c.toList) (h1 : ∀ x ∈ c.toList, x.oneCell' = true) :
    ∃ g', Rel E g' fr (σ ++ [cs]) a (w.alloc (.cells c t (0, 0))) ∧ VR g' fr.tk (.ptr σ.length 0) (.pointer (some ⟨w.heap.size, 0, none⟩)) ∧ GLE g g' fr.tk fr.tk := by
  have hsz : g.V.w.heap.size = w.heap.size := by rw [h.w]
  let V' : View := { (g.V.grow (.cells c t (0, 0)) 0) with n := g.V.n + 1, mu := fun i => if i = g.V.n then g.V.w.heap.size else g.V.mu i }
  have hg := Gr.grow g.V (.cells c t (0, 0)) 0
  have gr : Gr g.V V' := by
    refine ⟨⟨Nat.le_succ _, fun i hi => by simp only [V']; rw [if_neg (by omega)], hg.le.size, hg.le.ext, hg.le.cell⟩, hg.os, hg.tape, hg.output, hg.blk, hg.ext, fun i hi hi' => ?_⟩
    have : i = g.V.n := by have : i < g.V.n + 1 := hi'; omega
    simp [V', this]
  have hlast : ∀ i, i < g.V.n + 1 → i = g.V.n ∨ i < g.V.n := fun i hi => by omega
  have hH : HInv V' (σ ++ [cs]) := by
    refine ⟨by simp [V', h.H.n], ?_, ?_, ?_, GOK_mono gr.le h.H.gl⟩
    · intro i x hi
      rw [List.getElem?_append] at hi
      split at hi
      · rename_i hlt
        obtain ⟨c', e, hh, hv', h1'⟩ := h.H.ob i x hi
        refine ⟨c', e, ?_, CRs_mono gr.le _ _ hv', h1'⟩
        simp only [V']
        rw [if_neg (by rw [h.H.n]; omega)]
        exact (alloc_heap_old _ _ (lt_of_heap hh)).trans hh
      · rename_i hge
        have hi0 : i - σ.length = 0 := by
          rcases Nat.eq_zero_or_pos (i - σ.length) with h0 | h0
          · exact h0
          · rw [List.getElem?_eq_none (by simp; omega)] at hi; cases hi
        have hie : i = g.V.n := by rw [h.H.n]; omega
        rw [hi0] at hi
        simp only [List.getElem?_cons_zero, Option.some.injEq] at hi
        subst hi
        refine ⟨c, t, ?_, CRs_mono gr.le _ _ hv, h1⟩
        simp only [V', hie, if_true, View.grow]
        exact alloc_heap_new _ _
    · intro i hi
      rcases hlast i hi with rfl | hi
      · simp [V', View.grow]
      · have := h.H.lt hi
        have e1 : (if i = g.V.n then g.V.w.heap.size else g.V.mu i) = g.V.mu i := if_neg (by omega)
        simp only [V', View.grow]
        rw [e1, if_neg (by omega)]
        exact h.H.ox i hi
    · intro i j hi hj e
      simp only [V'] at e
      rcases hlast i hi with rfl | hi <;> rcases hlast j hj with rfl | hj
      · rfl
      · rw [if_pos rfl, if_neg (by omega)] at e
        have := h.H.lt hj; omega
      · rw [if_pos rfl, if_neg (by omega)] at e
        have := h.H.lt hi; omega
      · rw [if_neg (by omega), if_neg (by omega)] at e
        exact h.H.inj i j hi hj e
  refine ⟨{ g with V := V' }, ?_, ?_, GLE.of_gr gr fun t ht => ⟨(h.F.tk t ht).2.2.1, (h.F.tk t ht).2.2.2.1⟩⟩
  · have := h.step gr hH
    have hw : V'.w = w.alloc (.cells c t (0, 0)) := by simp [V', View.grow, h.w]
    rwa [hw] at this
  · simp only [VR, CR, V', ← h.H.n, if_true, hsz]
    exact ⟨by omega, trivial⟩

end Go.AE

/- Stores: into a variable of the frame, into an object of the heap; an iterator goes on. -/
set_option linter.unusedVariables false
set_option linter.unusedSimpArgs false
namespace Go.AE

theorem setRow_size (w : World) (b : Nat) (c : Array Value) : (w.setRow b c).heap.size = w.heap.size := by simp [World.setRow]

theorem VLE.at1 {V : View} {w' : World} (b : Nat) (hb : V.ext b = 0) (hs : w'.heap.size = V.w.heap.size) (ho : ∀ k, k ≠ b → w'.heap[k]? = V.w.heap[k]?) : VLE V (V.atW w') where
  n := Nat.le_refl _
  mu _ _ := rfl
  size := by simp only [View.atW]; omega
  ext _ _ := Nat.le_refl _
  cell k o hk hl := by
    by_cases e : k = b
    · subst e; omega
    · exact cell_of_heap (ho k e)

theorem GLE.at1 {g : Gh} {tk : List Nat} {w' : World} (b : Nat) (hb : g.V.ext b = 0) (hs : w'.heap.size = g.V.w.heap.size) (ho : ∀ k, k ≠ b → w'.heap[k]? = g.V.w.heap[k]?) (ht : ∀ t, t ∈ tk → g.tb t ≠ b) :
    GLE g { g with V := g.V.atW w' } tk tk where
  V := VLE.at1 b hb hs ho
  nu _ _ := rfl
  iu _ _ := rfl
  nb := Nat.le_refl _
  ni := Nat.le_refl _
  nx := Nat.le_refl _
  tk t h _ := ⟨h, rfl, ho _ (ht t h), rfl⟩

theorem Gr.at1 {V0 V : View} {w' : World} (gr : Gr V0 V) (b : Nat) (hb : V.ext b = 0) (hn : V0.w.heap.size ≤ b) (hs : w'.heap.size = V.w.heap.size) (ho : ∀ k, k ≠ b → w'.heap[k]? = V.w.heap[k]?)
    (h1 : w'.os = V.w.os) (h2 : w'.tape = V.w.tape) (h3 : w'.output = V.w.output) : Gr V0 (V.atW w') where
  le := gr.le.trans (VLE.at1 b hb hs ho)
  os := h1.trans gr.os
  tape := h2.trans gr.tape
  output := h3.trans gr.output
  blk k hk hj := (ho k (by omega)).trans (gr.blk k hk hj)
  ext k hk := gr.ext k hk
  new i h k := gr.new i h k

theorem Rel.setBox {E : Ent} {g : Gh} {fr : Fr} {σ : St} {a : Act} {w : World} (h : Rel E g fr σ a w) {i : Nat} (hi : i < fr.bx.length) {cs : List AV} {c : Array Value}
    (hv : VRs g fr.tk cs c.toList) (h1 : ∀ x ∈ c.toList, x.oneCell' = true) :
    ∃ g', Rel E g' { fr with bx := fr.bx.set i cs } σ a (w.setRow (g.nu i) c) ∧ GLE g g' fr.tk fr.tk := by
  have hib : i < g.nb := by rw [h.F.nb]; exact hi
  obtain ⟨c0, e0, hh0, _, _⟩ := h.F.bx i fr.bx[i] (List.getElem?_eq_getElem hi)
  obtain ⟨hB, hx, hm⟩ := h.F.bxn i hib
  have hw := h.w
  have hs : (w.setRow (g.nu i) c).heap.size = g.V.w.heap.size := by rw [setRow_size, hw]
  have ho : ∀ k, k ≠ g.nu i → (w.setRow (g.nu i) c).heap[k]? = g.V.w.heap[k]? := fun k hk => by rw [setRow_other _ _ _ _ hk, hw]
  have hat : (w.setRow (g.nu i) c).heap[g.nu i]? = some (.cells c e0 (0, 0)) := setRow_heap w (g.nu i) c0 c e0 (0, 0) (by rw [← hw]; exact hh0)
  have hG : GLE g { g with V := g.V.atW (w.setRow (g.nu i) c) } fr.tk fr.tk := GLE.at1 (g.nu i) hx hs ho fun t ht => Ne.symm ((h.F.tk t ht).2.2.2.2 i hib)
  refine ⟨_, ⟨rfl, ?_, ?_, fun k => VR_mono hG (h.sl k), h.df, h.nt, ?_⟩, hG⟩
  · refine ⟨h.H.n, ?_, h.H.ox, h.H.inj, GOK_mono hG.V h.H.gl⟩
    intro j x hj
    have hjn : j < g.V.n := by rw [h.H.n]; exact (List.getElem?_eq_some_iff.1 hj).1
    obtain ⟨c', e, hh, hv', h1'⟩ := h.H.ob j x hj
    exact ⟨c', e, (ho _ (hm j hjn)).trans hh, CRs_mono hG.V _ _ hv', h1'⟩
  · refine ⟨by simp [h.F.nb], h.F.ni, h.F.nx, ?_, h.F.bxn, h.F.bxi, ?_, h.F.iti, ?_, ?_, h.F.tki⟩
    · intro j x hj
      have hjl : j < fr.bx.length := by have := (List.getElem?_eq_some_iff.1 hj).1; simpa using this
      by_cases e : i = j
      · subst e
        rw [List.getElem?_set_self hi] at hj
        injection hj with hj; subst hj
        exact ⟨c, e0, hat, VRs_mono hG hv, h1⟩
      · rw [List.getElem?_set_ne e] at hj
        obtain ⟨c', e', hh, hv', h1'⟩ := h.F.bx j x hj
        refine ⟨c', e', (ho _ fun e2 => e (h.F.bxi i j hib (by rw [h.F.nb]; exact hjl) e2.symm)).trans hh, VRs_mono hG hv', h1'⟩
    · intro j s p hj
      obtain ⟨k1, x, hh, hs'⟩ := h.F.it j s p hj
      exact ⟨k1, x, (ho _ fun e2 => by rw [e2, hh0] at hh; cases hh).trans hh, hs'⟩
    · intro t ht
      obtain ⟨k1, k2, k3, k4, k5⟩ := h.F.tk t ht
      exact ⟨k1, k2, by simp only [View.atW]; omega, k4, k5⟩
    · intro t ht
      obtain ⟨c', e', hh⟩ := h.F.tkc t ht
      exact ⟨c', e', (ho _ (Ne.symm ((h.F.tk t ht).2.2.2.2 i hib))).trans hh⟩
  · exact h.gr.at1 (g.nu i) hx hB hs ho (by rw [← hw]; rfl) (by rw [← hw]; rfl) (by rw [← hw]; rfl)

theorem Rel.setObj {E : Ent} {g : Gh} {fr : Fr} {σ : St} {a : Act} {w : World} (h : Rel E g fr σ a w) {i : Nat} (hi : i < σ.length) {cs : List AV} {c : Array Value}
    (hv : CRs g.V cs c.toList) (h1 : ∀ x ∈ c.toList, x.oneCell' = true) :
    ∃ g', Rel E g' fr (σ.set i cs) a (w.setRow (g.V.mu i) c) ∧ GLE g g' fr.tk fr.tk := by
  have hib : i < g.V.n := by rw [h.H.n]; exact hi
  obtain ⟨c0, e0, hh0, _, _⟩ := h.H.ob i σ[i] (List.getElem?_eq_getElem hi)
  have hw := h.w
  have hs : (w.setRow (g.V.mu i) c).heap.size = g.V.w.heap.size := by rw [setRow_size, hw]
  have ho : ∀ k, k ≠ g.V.mu i → (w.setRow (g.V.mu i) c).heap[k]? = g.V.w.heap[k]? := fun k hk => by rw [setRow_other _ _ _ _ hk, hw]
  have hat : (w.setRow (g.V.mu i) c).heap[g.V.mu i]? = some (.cells c e0 (0, 0)) := setRow_heap w (g.V.mu i) c0 c e0 (0, 0) (by rw [← hw]; exact hh0)
  have hle : VLE g.V (g.V.atW (w.setRow (g.V.mu i) c)) := VLE.at1 _ (h.H.ox i hib) hs ho
  have gr : Gr g.V (g.V.atW (w.setRow (g.V.mu i) c)) := by
    refine ⟨hle, by rw [← hw]; rfl, by rw [← hw]; rfl, by rw [← hw]; rfl, fun b hb hn => ho b (Ne.symm (hn i hib)), fun _ _ => rfl, fun j h k => ?_⟩
    simp only [View.atW] at k; omega
  have hH : HInv (g.V.atW (w.setRow (g.V.mu i) c)) (σ.set i cs) := by
    refine ⟨by simp [View.atW, h.H.n], ?_, h.H.ox, h.H.inj, GOK_mono hle h.H.gl⟩
    intro j x hj
    have hjl : j < σ.length := by have := (List.getElem?_eq_some_iff.1 hj).1; simpa using this
    by_cases e : i = j
    · subst e
      rw [List.getElem?_set_self hi] at hj
      injection hj with hj; subst hj
      exact ⟨c, e0, hat, CRs_mono hle _ _ hv, h1⟩
    · rw [List.getElem?_set_ne e] at hj
      obtain ⟨c', e', hh, hv', h1'⟩ := h.H.ob j x hj
      exact ⟨c', e', (ho _ fun e2 => e (h.H.inj i j hib (by rw [h.H.n]; exact hjl) e2.symm)).trans hh, CRs_mono hle _ _ hv', h1'⟩
  exact ⟨_, h.step gr hH, GLE.of_gr gr fun t ht => ⟨(h.F.tk t ht).2.2.1, (h.F.tk t ht).2.2.2.1⟩⟩

theorem Rel.setIter {E : Ent} {g : Gh} {fr : Fr} {σ : St} {a : Act} {w : World} (h : Rel E g fr σ a w) {i : Nat} {s : List UInt8} {p : Nat} (hi : fr.it[i]? = some (s, p)) (q : Nat) :
    ∃ (x : ByteArray) (g' : Gh), w.heap[g.iu i]? = some (.stringIter x p) ∧ x.data.toList = s ∧
      Rel E g' { fr with it := fr.it.set i (s, q) } σ a { w with heap := w.heap.setIfInBounds (g.iu i) (.stringIter x q) } ∧ GLE g g' fr.tk fr.tk := by
  have hw := h.w
  have hil : i < fr.it.length := (List.getElem?_eq_some_iff.1 hi).1
  have hin : i < g.ni := by rw [h.F.ni]; exact hil
  obtain ⟨hB, x, hh0, hsx⟩ := h.F.it i s p hi
  generalize hb : g.iu i = b at *
  have hbl : b < g.V.w.heap.size := lt_of_heap hh0
  let w' : World := { w with heap := w.heap.setIfInBounds b (.stringIter x q) }
  have hs : w'.heap.size = g.V.w.heap.size := by simp [w', hw]
  have ho : ∀ k, k ≠ b → w'.heap[k]? = g.V.w.heap[k]? := fun k hk => by simp [w', Array.getElem?_setIfInBounds_ne (Ne.symm hk), hw]
  have hat : w'.heap[b]? = some (.stringIter x q) := by
    have : b < w.heap.size := by rw [← hw]; exact hbl
    simp [w', this]
  have hcell : ∀ o, g.V.w.cell? ⟨b, o, none⟩ = none := fun o => by simp [World.cell?, hh0]
  have hcell' : ∀ o, w'.cell? ⟨b, o, none⟩ = none := fun o => by simp only [World.cell?]; rw [hat]
  have hle : VLE g.V (g.V.atW w') := by
    refine ⟨Nat.le_refl _, fun _ _ => rfl, by simp only [View.atW]; omega, fun _ _ => Nat.le_refl _, fun k o hk hl => ?_⟩
    by_cases e : k = b
    · subst e; simp only [View.atW]; rw [hcell, hcell']
    · exact cell_of_heap (ho k e)
  have hne : ∀ {r : Nat} {c e f}, g.V.w.heap[r]? = some (.cells c e f) → r ≠ b := fun hh e2 => by rw [e2, hh0] at hh; cases hh
  have htb : ∀ t, t ∈ fr.tk → g.tb t ≠ b := fun t ht => by obtain ⟨c, e, hh⟩ := h.F.tkc t ht; exact hne hh
  have hG : GLE g { g with V := g.V.atW w' } fr.tk fr.tk := ⟨hle, fun _ _ => rfl, fun _ _ => rfl, Nat.le_refl _, Nat.le_refl _, Nat.le_refl _, fun t ht _ => ⟨ht, rfl, ho _ (htb t ht), rfl⟩⟩
  refine ⟨x, _, by rw [← hw]; exact hh0, hsx, ⟨rfl, ?_, ?_, fun k => VR_mono hG (h.sl k), h.df, h.nt, ?_⟩, hG⟩
  · refine ⟨h.H.n, ?_, h.H.ox, h.H.inj, GOK_mono hle h.H.gl⟩
    intro j y hj
    obtain ⟨c', e, hh, hv', h1'⟩ := h.H.ob j y hj
    exact ⟨c', e, (ho _ (hne hh)).trans hh, CRs_mono hle _ _ hv', h1'⟩
  · refine ⟨h.F.nb, by simp [h.F.ni], h.F.nx, ?_, h.F.bxn, h.F.bxi, ?_, h.F.iti, ?_, ?_, h.F.tki⟩
    · intro j y hj
      obtain ⟨c', e', hh, hv', h1'⟩ := h.F.bx j y hj
      exact ⟨c', e', (ho _ (hne hh)).trans hh, VRs_mono hG hv', h1'⟩
    · intro j s' p' hj
      have hjl : j < fr.it.length := by have := (List.getElem?_eq_some_iff.1 hj).1; simpa using this
      by_cases e : i = j
      · subst e
        rw [List.getElem?_set_self hil] at hj
        injection hj with hj
        injection hj with h1 h2
        subst h1; subst h2
        exact ⟨by simp only [hb]; exact hB, x, by simp only [hb]; exact hat, hsx⟩
      · rw [List.getElem?_set_ne e] at hj
        obtain ⟨k1, y, hh, hs'⟩ := h.F.it j s' p' hj
        exact ⟨k1, y, (ho _ fun e2 => e (h.F.iti i j hin (by rw [h.F.ni]; exact hjl) (by rw [hb, e2]))).trans hh, hs'⟩
    · intro t ht
      obtain ⟨k1, k2, k3, k4, k5⟩ := h.F.tk t ht
      exact ⟨k1, k2, by simp only [View.atW]; omega, k4, k5⟩
    · intro t ht
      obtain ⟨c', e', hh⟩ := h.F.tkc t ht
      exact ⟨c', e', (ho _ (htb t ht)).trans hh⟩
  · refine ⟨h.gr.le.trans hle, by rw [← h.gr.os, hw]; rfl, by rw [← h.gr.tape, hw]; rfl, by rw [← h.gr.output, hw]; rfl, fun k hk hj => (ho k (by omega)).trans (h.gr.blk k hk hj), fun k hk => h.gr.ext k hk, fun j a b => h.gr.new j a b⟩

end Go.AE

/- Rows of data: one that is built, one that is appended to. -/
set_option linter.unusedVariables false
set_option linter.unusedSimpArgs false
namespace Go.AE

theorem CRat_row {V : View} {b : Nat} {c : Array Value} {t : TypeId} {fz : Nat × Nat} (hh : V.w.heap[b]? = some (.cells c t fz)) {cs : List AV} (o : Nat)
    (hv : CRs V cs ((c.toList.drop o).take cs.length)) (h1 : ∀ x ∈ (c.toList.drop o).take cs.length, x.oneCell' = true) : CRat V cs b o := by
  refine CRat_of_list hv h1 fun j v hj => ?_
  simp only [World.cell?, hh]
  rw [List.getElem?_take] at hj
  split at hj
  · rw [List.getElem?_drop] at hj
    simpa using hj
  · cases hj

theorem Rel.newRow {E : Ent} {g : Gh} {fr : Fr} {σ : St} {a : Act} {w : World} (h : Rel E g fr σ a w) {cs : List AV} {c : Array Value} (t : TypeId)
    (hv : CRs g.V cs (c.toList.take cs.length)) (h1 : ∀ x ∈ c.toList.take cs.length, x.oneCell' = true) :
    let g' := { g with V := g.V.grow (.cells c t (0, 0)) cs.length }
    Rel E g' fr σ a (w.alloc (.cells c t (0, 0))) ∧ CRat g'.V cs w.heap.size 0 ∧ GLE g g' fr.tk fr.tk := by
  intro g'
  have hsz : g.V.w.heap.size = w.heap.size := by rw [h.w]
  refine ⟨h.grow _ _, ?_, GLE.of_gr (Gr.grow _ _ _) fun t ht => ⟨(h.F.tk t ht).2.2.1, (h.F.tk t ht).2.2.2.1⟩⟩
  refine CRat_row (t := t) (fz := (0, 0)) (c := c) ?_ 0 (by simpa using CRs_mono (Gr.grow g.V (.cells c t (0, 0)) cs.length).le _ _ hv) (by simpa using h1)
  rw [← hsz]
  exact alloc_heap_new _ _

theorem CR_newSlice {V : View} {cs : List AV} {b n cap : Nat} {own : Own} (hb : b < V.w.heap.size) (he : cs.length ≤ V.ext b) (hc : CRat V cs b 0) (hp : own.plain = true) (hnc : n ≤ cap) (ho : own = .exact → cap = n) :
    CR V (.slice cs n own) (.slice (some ⟨b, 0, none⟩) n cap) := by
  simp only [CR]
  exact ⟨hp, _, cap, rfl, hnc, ho, .inr ⟨b, 0, rfl, hb, by omega, hc⟩⟩

def dropTok (tk : List Nat) : Option Nat → List Nat
  | none => tk
  | some t => tk.filter fun u => u != t

theorem Rel.mint {E : Ent} {g : Gh} {fr : Fr} {σ : St} {a : Act} {w : World} (h : Rel E g fr σ a w) (old : Option Nat) (b : Nat) {c : Array Value} {e : TypeId}
    (hB : E.V.w.heap.size ≤ b) (hh : g.V.w.heap[b]? = some (.cells c e (0, 0))) (hm : ∀ j, j < g.V.n → g.V.mu j ≠ b) (hnu : ∀ j, j < g.nb → g.nu j ≠ b)
    (hne : ∀ t, t ∈ dropTok fr.tk old → g.tb t ≠ b) :
    let g' := { g with tb := fun t => if t = fr.nx then b else g.tb t, nx := fr.nx + 1 }
    Rel E g' { fr with tk := fr.nx :: dropTok fr.tk old, nx := fr.nx + 1 } σ a w ∧ GLE g g' fr.tk (fr.nx :: dropTok fr.tk old) := by
  intro g'
  have hsub : ∀ t, t ∈ dropTok fr.tk old → t ∈ fr.tk := fun t ht => by
    cases old with
    | none => exact ht
    | some u => exact (List.mem_filter.1 ht).1
  have hG : GLE g g' fr.tk (fr.nx :: dropTok fr.tk old) := by
    refine ⟨VLE.refl _, fun _ _ => rfl, fun _ _ => rfl, Nat.le_refl _, Nat.le_refl _, by simp only [g', h.F.nx]; omega, fun t ht hlt => ?_⟩
    rcases List.mem_cons.1 ht with rfl | ht
    · rw [h.F.nx] at hlt; omega
    · refine ⟨hsub t ht, ?_, rfl, rfl⟩
      simp only [g']; rw [if_neg (by rw [h.F.nx] at hlt; omega)]
  refine ⟨⟨h.w, h.H, ?_, fun k => VR_mono hG (h.sl k), h.df, h.nt, h.gr⟩, hG⟩
  have htb : ∀ t, t ∈ dropTok fr.tk old → g'.tb t = g.tb t := fun t ht => by
    have := (h.F.tk t (hsub t ht)).1
    simp only [g']; rw [if_neg (by omega)]
  have hself : g'.tb fr.nx = b := by simp [g']
  refine ⟨h.F.nb, h.F.ni, rfl, ?_, h.F.bxn, h.F.bxi, h.F.it, h.F.iti, ?_, ?_, ?_⟩
  · intro i cs hi
    obtain ⟨c', e', k1, k2, k3⟩ := h.F.bx i cs hi
    exact ⟨c', e', k1, VRs_mono hG k2, k3⟩
  · intro t ht
    rcases List.mem_cons.1 ht with rfl | ht
    · rw [hself]; exact ⟨Nat.lt_succ_self _, hB, lt_of_heap hh, hm, hnu⟩
    · rw [htb t ht]
      obtain ⟨k1, k2⟩ := h.F.tk t (hsub t ht)
      exact ⟨Nat.lt_succ_of_lt k1, k2⟩
  · intro t ht
    rcases List.mem_cons.1 ht with rfl | ht
    · rw [hself]; exact ⟨c, e, hh⟩
    · rw [htb t ht]; exact h.F.tkc t (hsub t ht)
  · intro t u ht hu he
    rcases List.mem_cons.1 ht with rfl | ht <;> rcases List.mem_cons.1 hu with rfl | hu
    · rfl
    · rw [hself, htb u hu] at he; exact absurd he.symm (hne u hu)
    · rw [hself, htb t ht] at he; exact absurd he (hne t ht)
    · rw [htb t ht, htb u hu] at he; exact h.F.tki t u (hsub t ht) (hsub u hu) he

theorem GLE.trans {a b c : Gh} {t1 t2 t3 : List Nat} (h : GLE a b t1 t2) (k : GLE b c t2 t3) : GLE a c t1 t3 where
  V := h.V.trans k.V
  nu i hi := (k.nu i (Nat.lt_of_lt_of_le hi h.nb)).trans (h.nu i hi)
  iu i hi := (k.iu i (Nat.lt_of_lt_of_le hi h.ni)).trans (h.iu i hi)
  nb := Nat.le_trans h.nb k.nb
  ni := Nat.le_trans h.ni k.ni
  nx := Nat.le_trans h.nx k.nx
  tk t ht hlt := by
    obtain ⟨a1, a2, a3, a4⟩ := k.tk t ht (Nat.lt_of_lt_of_le hlt h.nx)
    obtain ⟨b1, b2, b3, b4⟩ := h.tk t a1 hlt
    exact ⟨b1, a2.trans b2, by rw [b2] at a3; exact a3.trans b3, by rw [b2] at a4; exact a4.trans b4⟩

theorem maxLen_room {n by_ : Nat} (hb0 : 0 < by_) (h : n * by_ ≤ 140737488355328) : n ≤ 140737488355328 := Nat.le_trans (Nat.le_mul_of_pos_right _ hb0) h

theorem Rel.appendNew {E : Ent} {g : Gh} {fr : Fr} {σ : St} {a : Act} {w : World} (h : Rel E g fr σ a w) {cs : List AV} {vs : List Value} {m cap sz : Nat} (t : TypeId) (rest : List Value)
    (hv : CRs g.V cs vs) (h1 : ∀ x ∈ vs, x.oneCell' = true) (hl : cs.length = m * sz) (hm : m ≤ cap) (hr : (vs ++ rest).length = cap * sz) (old : Option Nat) :
    ∃ g', Rel E g' { fr with tk := fr.nx :: dropTok fr.tk old, nx := fr.nx + 1 } σ a (w.drew.alloc (.cells (vs ++ rest).toArray t (0, 0))) ∧
      VR g' (fr.nx :: dropTok fr.tk old) (.slice cs m (.tok fr.nx sz)) (.slice (some ⟨w.heap.size, 0, none⟩) m cap) ∧ GLE g g' fr.tk (fr.nx :: dropTok fr.tk old) := by
  have hvl := CRs_length hv
  have hd : Rel E { g with V := g.V.atW w.drew } fr σ a w.drew := h.drawn (w.drawn + 1)
  have hGd : GLE g { g with V := g.V.atW w.drew } fr.tk fr.tk :=
    GLE.of_gr (Gr.of_heap (by rw [h.w]; rfl) (by rw [h.w]; rfl) (by rw [h.w]; rfl) (by rw [h.w]; rfl)) fun t ht => ⟨(h.F.tk t ht).2.2.1, (h.F.tk t ht).2.2.2.1⟩
  have htake : (vs ++ rest).toArray.toList.take cs.length = vs := by simp [← hvl]
  obtain ⟨R, hc, hG⟩ := hd.newRow (cs := cs) (c := (vs ++ rest).toArray) t (by rw [htake]; exact CRs_mono hGd.V _ _ hv) (by rw [htake]; exact h1)
  have hsz : w.drew.heap.size = w.heap.size := rfl
  have hgs : g.V.w.heap.size = w.heap.size := by rw [h.w]
  have hnew : (w.drew.alloc (.cells (vs ++ rest).toArray t (0, 0))).heap[w.heap.size]? = some (.cells (vs ++ rest).toArray t (0, 0)) := by
    rw [← hsz]; exact alloc_heap_new _ _
  obtain ⟨R2, hG2⟩ := R.mint old w.heap.size (c := (vs ++ rest).toArray) (e := t) (by rw [← hgs]; exact h.gr.le.size) (by rw [R.w]; exact hnew)
    (fun j hj => by have h' : j < g.V.n := hj
                    have := h.H.lt h'
                    have e : (({ g with V := g.V.atW w.drew } : Gh).V.grow (.cells (vs ++ rest).toArray t (0, 0)) cs.length).mu j = g.V.mu j := rfl
                    simp only [e]; omega)
    (fun j hj => by have := h.F.ltb (show j < g.nb from hj)
                    show g.nu j ≠ _; omega)
    (fun u hu => by
      have hu' : u ∈ fr.tk := by
        cases old with
        | none => exact hu
        | some x => exact (List.mem_filter.1 hu).1
      have := (h.F.tk u hu').2.2.1
      show g.tb u ≠ _; omega)
  refine ⟨_, R2, ?_, (hGd.trans hG).trans hG2⟩
  have hext : (View.grow (g.V.atW w.drew) (.cells (vs ++ rest).toArray t (0, 0)) cs.length).ext w.heap.size = cs.length := by
    show (if w.heap.size = w.drew.heap.size then cs.length else g.V.ext w.heap.size) = cs.length
    exact if_pos hsz.symm
  have hlt : w.heap.size < (View.grow (g.V.atW w.drew) (.cells (vs ++ rest).toArray t (0, 0)) cs.length).w.heap.size := by
    simp only [View.grow, View.atW, alloc_size]; rw [hsz]; omega
  simp only [VR]
  refine ⟨by omega, CR_newSlice hlt (by rw [hext]; exact Nat.le_refl _) hc rfl hm (fun e => by cases e), fun _ => ⟨cap, (vs ++ rest).toArray, t, ?_, ?_, hl, ?_, ?_, hm⟩⟩
  · simp
  · simp only [if_true]; exact hext.symm
  · simp only [if_true]
    exact hnew
  · have := hr; simp only [List.size_toArray]; omega

theorem Rel.appendAt {E : Ent} {g : Gh} {fr : Fr} {σ : St} {a : Act} {w : World} (h : Rel E g fr σ a w) {cs ds : List AV} {us : List Value} {n k t sz : Nat} {v : Value}
    (hs : VR g fr.tk (.slice cs n (.tok t sz)) v) (ht : t ∈ fr.tk) (hd : CRs g.V ds us) (h1 : ∀ x ∈ us, x.oneCell' = true) (hk : ds.length = k * sz) :
    ∃ cap c e, v = .slice (some ⟨g.tb t, 0, none⟩) n cap ∧ w.heap[g.tb t]? = some (.cells c e (0, 0)) ∧ cs.length = n * sz ∧ cap * sz ≤ c.size ∧
      (∃ vs : List Value, vs.length = n * sz ∧ CRs g.V cs vs ∧ (∀ x ∈ vs, x.oneCell' = true) ∧ ∀ j u, vs[j]? = some u → w.cell? ((⟨g.tb t, 0, none⟩ : Addr).add j) = some u) ∧
      (n + k ≤ cap → ∃ g', Rel E g' { fr with tk := fr.nx :: dropTok fr.tk (some t), nx := fr.nx + 1 } σ a (w.setRow (g.tb t) (c.toList.take (n * sz) ++ us ++ c.toList.drop (n * sz + us.length)).toArray) ∧
        VR g' (fr.nx :: dropTok fr.tk (some t)) (.slice (cs ++ ds) (n + k) (.tok fr.nx sz)) (.slice (some ⟨g.tb t, 0, none⟩) (n + k) cap) ∧ GLE g g' fr.tk (fr.nx :: dropTok fr.tk (some t))) := by
  simp only [VR] at hs
  obtain ⟨hlt, hcr, htok⟩ := hs
  obtain ⟨cap, c, e, rfl, hext, hl, hh, hcap, hncap⟩ := htok ht
  obtain ⟨b1, b2, b3, b4, b5⟩ := h.F.tk t ht
  have hw := h.w
  have hul := CRs_length hd
  generalize hb : g.tb t = b at *
  have hat : CRat g.V cs b 0 := by
    simp only [CR] at hcr
    obtain ⟨_, A, cap', ev, _, _, hA⟩ := hcr
    injection ev with ea en ec
    rcases hA with ⟨hA, _⟩ | ⟨b', o', hA, _, _, hc⟩
    · rw [hA] at ea; cases ea
    · rw [hA] at ea
      injection ea with ea
      injection ea with e1 e2 e3
      subst e1; subst e2
      exact hc
  refine ⟨cap, c, e, rfl, by rw [← hw]; exact hh, hl, hcap, ?_, ?_⟩
  · obtain ⟨vs, k1, k2, k3⟩ := CRat_list hat
    refine ⟨vs, by rw [CRs_length k1, hl], k1, k2, fun j u hj => ?_⟩
    have := k3 j u hj
    rw [← hw]
    simpa [Addr.add_lit] using this
  intro hroom
  have hfit : n * sz + us.length ≤ c.size := by
    rw [hul, hk, ← Nat.add_mul]
    exact Nat.le_trans (Nat.mul_le_mul_right _ hroom) hcap
  let c' : Array Value := (c.toList.take (n * sz) ++ us ++ c.toList.drop (n * sz + us.length)).toArray
  have hc's : c'.size = c.size := by simp [c']; omega
  let w' := w.setRow b c'
  have hsz : w'.heap.size = g.V.w.heap.size := by rw [hw]; exact setRow_size _ _ _
  have ho : ∀ q, q ≠ b → w'.heap[q]? = g.V.w.heap[q]? := fun q hq => by simp only [w']; rw [setRow_other _ _ _ _ hq, hw]
  have hat' : w'.heap[b]? = some (.cells c' e (0, 0)) := setRow_heap w b c c' e (0, 0) (by rw [← hw]; exact hh)
  let V' : View := { g.V with w := w', ext := fun q => if q = b then n * sz + us.length else g.V.ext q }
  have hle : VLE g.V V' := by
    refine ⟨Nat.le_refl _, fun _ _ => rfl, by simp only [V']; omega, fun q _ => ?_, fun q o hq hlo => ?_⟩
    · simp only [V']
      split
      · rename_i e0; subst e0; omega
      · exact Nat.le_refl _
    · by_cases e0 : q = b
      · subst e0
        have hob : o < n * sz := by omega
        simp only [V', World.cell?]
        rw [hat', hh]
        have hoc : o < c.size := by omega
        simp only [Option.isSome_none, Bool.false_eq_true, if_false, c']
        simp only [List.getElem?_toArray]
        rw [List.append_assoc, List.getElem?_append_left (by simp; omega), List.getElem?_take_of_lt hob]
        simp
      · exact cell_of_heap (ho q e0)
  have hG : GLE g { g with V := V' } fr.tk (dropTok fr.tk (some t)) := by
    refine ⟨hle, fun _ _ => rfl, fun _ _ => rfl, Nat.le_refl _, Nat.le_refl _, Nat.le_refl _, fun u hu hul' => ?_⟩
    have hu1 := (List.mem_filter.1 hu).1
    have hu2 : u ≠ t := by have := (List.mem_filter.1 hu).2; simpa using this
    have hne : g.tb u ≠ b := fun e0 => hu2 (h.F.tki u t hu1 ht (by rw [e0, hb]))
    refine ⟨hu1, rfl, ho _ hne, ?_⟩
    simp only [V']; rw [if_neg hne]
  have R : Rel E { g with V := V' } { fr with tk := dropTok fr.tk (some t) } σ a w' := by
    refine ⟨rfl, ?_, ?_, fun q => VR_mono hG (h.sl q), h.df, h.nt, ?_⟩
    · refine ⟨h.H.n, fun i cs' hi => ?_, fun i hi => ?_, h.H.inj, GOK_mono hle h.H.gl⟩
      · have hin : i < g.V.n := by rw [h.H.n]; exact (List.getElem?_eq_some_iff.1 hi).1
        obtain ⟨c0, e0, k1, k2, k3⟩ := h.H.ob i cs' hi
        exact ⟨c0, e0, (ho _ (b4 i hin)).trans k1, CRs_mono hle _ _ k2, k3⟩
      · simp only [V']; rw [if_neg (b4 i hi)]; exact h.H.ox i hi
    · refine ⟨h.F.nb, h.F.ni, h.F.nx, fun i cs' hi => ?_, fun i hi => ?_, h.F.bxi, fun i s p hi => ?_, h.F.iti, fun u hu => ?_, fun u hu => ?_, fun u u' hu hu' => h.F.tki u u' (List.mem_filter.1 hu).1 (List.mem_filter.1 hu').1⟩
      · have hin : i < g.nb := by rw [h.F.nb]; exact (List.getElem?_eq_some_iff.1 hi).1
        obtain ⟨c0, e0, k1, k2, k3⟩ := h.F.bx i cs' hi
        exact ⟨c0, e0, (ho _ (b5 i hin)).trans k1, VRs_mono hG k2, k3⟩
      · obtain ⟨k1, k2, k3⟩ := h.F.bxn i hi
        refine ⟨k1, ?_, k3⟩
        simp only [V']; rw [if_neg (b5 i hi)]; exact k2
      · obtain ⟨k1, x, k2, k3⟩ := h.F.it i s p hi
        exact ⟨k1, x, (ho _ fun e0 => by rw [e0, hh] at k2; cases k2).trans k2, k3⟩
      · obtain ⟨k1, k2, k3, k4, k5⟩ := h.F.tk u (List.mem_filter.1 hu).1
        exact ⟨k1, k2, by simp only [V']; omega, k4, k5⟩
      · have hu1 := (List.mem_filter.1 hu).1
        have hu2 : u ≠ t := by have := (List.mem_filter.1 hu).2; simpa using this
        obtain ⟨c0, e0, k1⟩ := h.F.tkc u hu1
        exact ⟨c0, e0, (ho _ fun e1 => hu2 (h.F.tki u t hu1 ht (by rw [e1, hb]))).trans k1⟩
    · refine ⟨h.gr.le.trans hle, by rw [← h.gr.os, hw]; rfl, by rw [← h.gr.tape, hw]; rfl, by rw [← h.gr.output, hw]; rfl, fun q hq hj => (ho q (by omega)).trans (h.gr.blk q hq hj), fun q hq => ?_, fun i x y => h.gr.new i x y⟩
      simp only [V']; rw [if_neg (by omega)]; exact h.gr.ext q hq
  have hdd : dropTok (dropTok fr.tk (some t)) none = dropTok fr.tk (some t) := rfl
  obtain ⟨R2, hG2⟩ := R.mint none b (c := c') (e := e) b2 hat' b4 b5 (fun u hu => by
    have hu1 := (List.mem_filter.1 (show u ∈ dropTok fr.tk (some t) from hu)).1
    have hu2 : u ≠ t := by have := (List.mem_filter.1 (show u ∈ dropTok fr.tk (some t) from hu)).2; simpa using this
    exact fun e1 => hu2 (h.F.tki u t hu1 ht (by rw [hb]; exact e1)))
  refine ⟨_, R2, ?_, hG.trans hG2⟩
  have hext' : V'.ext b = n * sz + us.length := by simp [V']
  have hcat : CRat V' (cs ++ ds) b 0 := by
    refine CRat_append (CRat_mono hle cs b 0 (lt_of_heap hh) (by omega) hat) ?_
    rw [hl, Nat.zero_add]
    refine CRat_row (c := c') (t := e) (fz := (0, 0)) hat' (n * sz) ?_ ?_
    · have e0 : (c'.toList.drop (n * sz)).take ds.length = us := by
        simp only [c', List.append_assoc]
        rw [List.drop_append_of_le_length (by simp; omega)]
        rw [show List.drop (n * sz) (List.take (n * sz) c.toList) = [] from by simp]
        simp [← hul]
      rw [e0]; exact CRs_mono hle _ _ hd
    · have e0 : (c'.toList.drop (n * sz)).take ds.length = us := by
        simp only [c', List.append_assoc]
        rw [List.drop_append_of_le_length (by simp; omega)]
        rw [show List.drop (n * sz) (List.take (n * sz) c.toList) = [] from by simp]
        simp [← hul]
      rw [e0]; exact h1
  simp only [VR]
  refine ⟨Nat.lt_succ_self _, CR_newSlice (V := V') (by simp only [V']; omega) (by rw [hext', List.length_append]; omega) hcat rfl hroom (fun e => by cases e), fun _ => ⟨cap, c', e, ?_, ?_, ?_, ?_, ?_, hroom⟩⟩
  · simp
  · simp only [if_true, hext', List.length_append]; omega
  · rw [List.length_append, hl, hk, Nat.add_mul]
  · simp only [if_true]; exact hat'
  · rw [hc's]; exact hcap

end Go.AE

/- What an operation does on the abstract side; that the model does the same. -/
set_option linter.unusedVariables false
set_option linter.unusedSimpArgs false
namespace Go.AE

inductive EqS where
  | int | str | bool | ptr | func
  | ifc (l : List Nat)

def EqsF (P : Program) (t : Nat) : EqS → Prop
  | .int => ∃ k, P.underlying t = some (.int k)
  | .str => P.underlying t = some .string
  | .bool => P.underlying t = some .bool
  | .ifc l => ∃ ms, P.underlying t = some (.interface ms) ∧ ∀ u ∈ l, ∃ i k, P.info? u = some i ∧ i.comparable = true ∧ P.underlying u = some (.int k)
  | .ptr => ∃ e, P.underlying t = some (.pointer e)
  | .func => ∃ p q r, P.underlying t = some (.func p q r)

def EqfF (P : Program) : Nat → List Field → List EqS → Prop
  | _, [], [] => True
  | o, f :: fs, s :: l => (f.name == "_") = false ∧ f.offset = o ∧ EqsF P f.type s ∧ (∀ w : World, (isAgg f.type).run P w = .ok false w) ∧ EqfF P (o + 1) fs l
  | _, _, _ => False

inductive BP where
  | rows (l : List (Nat × Nat))
  | each (n : Nat)

def BP.fn : BP → Nat → Option (Nat × Nat)
  | .rows l, i => l[i]?
  | .each n, i => some (i * n, n)

structure Tab where
  eqs : Nat → Option EqS
  eqf : Nat → Option (List EqS)
  sz : Nat → Option (Bool × Nat)
  zero : Nat → Option (List AV)
  fld : Nat → Nat → Option (Nat × Bool × Nat)
  elm : Nat → Option (Nat × Nat × Bool × Nat)
  arr : Nat → Option (Nat × Nat × Bool)
  str : Nat → Bool
  int : Nat → Option IntKind
  bld : Nat → Option (BP × List AV)
  con : Nat → Bool

structure TabOK (P : Program) (T : Tab) : Prop where
  eqs : ∀ t s, T.eqs t = some s → EqsF P t s
  eqf : ∀ t l, T.eqf t = some l → ∃ fs : Array Field, P.underlying t = some (.struct fs) ∧ P.stoodInHeld t = false ∧ P.eqGuardType P.depth t = false ∧ EqfF P 0 fs.toList l
  sz : ∀ t b n, T.sz t = some (b, n) → ∀ w, (isAgg t).run P w = .ok b w ∧ (sizeOf t).run P w = .ok n w ∧ (b = false → n = 1)
  zero : ∀ t cs, T.zero t = some cs → ∃ z : Value, (∀ w, (zeroValue t).run P w = .ok z w) ∧ (∀ V, CRs V cs z.cells.toList) ∧ (∀ x ∈ z.cells.toList, x.oneCell' = true)
  fld : ∀ t i off b n, T.fld t i = some (off, b, n) → ∃ fs f, P.underlying t = some (.struct fs) ∧ fs[i]? = some f ∧ f.offset = off ∧ n ≠ 0 ∧ ∀ w, (isAgg f.type).run P w = .ok b w ∧ (sizeOf f.type).run P w = .ok n w
  elm : ∀ t e n b by_, T.elm t = some (e, n, b, by_) → P.underlying t = some (.slice e) ∧ 0 < n ∧ 0 < by_ ∧ (∃ i z, P.info? e = some i ∧ i.size = n ∧ i.bytes = by_ ∧ i.zero = some z ∧ z.cells.size = n ∧ ∀ x ∈ z.cells.toList, x.oneCell' = true) ∧ ∀ w, (isAgg e).run P w = .ok b w
  arr : ∀ t l n b, T.arr t = some (l, n, b) → ∃ e, P.underlying t = some (.array l e) ∧ 0 < n ∧ 1 < l ∧ ∀ w, (isAgg e).run P w = .ok b w ∧ (sizeOf e).run P w = .ok n w
  str : ∀ t, T.str t = true → P.underlying t = some .string
  int : ∀ t k, T.int t = some k → P.underlying t = some (.int k)
  bld : ∀ t pl cs, T.bld t = some (pl, cs) → ∃ z : Array Value, (∀ V, CRs V cs z.toList) ∧ (∀ x ∈ z.toList, x.oneCell' = true) ∧ ∀ parts, P.built t parts = Instr.fill pl.fn z parts
  con : ∀ t, T.con t = true → ∃ d, P.underlying t = some d ∧ ∀ ms, d ≠ .interface ms

def ofScalar : Value → AV
  | .bool b => .bool b
  | .int k n => .int k n
  | .string s => .str s.data.toList
  | .slice none 0 0 => .slice [] 0 .exact
  | .pointer none => .nilp
  | .nilFunc => .nilFunc
  | .nilIface => .nilIface
  | _ => .any

def ofConst : Value → AV
  | .agg cs => match cs.toList.all (·.oneCell') with | true => .agg (cs.toList.map ofScalar) | false => .any
  | v => ofScalar v

def ev (fr : Fr) : Operand → AV
  | .tmp t => look fr.sl t
  | .const v => ofConst v
  | .func f => .func f []
  | .global g => match lk theG g with | some cs => .dat cs | none => .any

theorem CR_ofScalar (V : View) (v : Value) : CR V (ofScalar v) v := by
  unfold ofScalar
  split <;> first | (simp [CR]; done) | skip
  simp only [CR]
  exact ⟨rfl, none, 0, rfl, Nat.le_refl _, fun _ => rfl, .inl ⟨rfl, by simp⟩⟩

theorem CRs_ofScalar (V : View) : ∀ (l : List Value), CRs V (l.map ofScalar) l
  | [] => by simp [CRs]
  | v :: l => by simp only [List.map_cons, CRs]; exact ⟨v, l, rfl, CR_ofScalar V v, CRs_ofScalar V l⟩

theorem VR_ev' {E : Ent} {g : Gh} {fr : Fr} {σ : St} {a : Act} {w : World} (h : Rel E g fr σ a w) (x : Operand) : VR g fr.tk (ev fr x) (a.eval x) := by
  cases x with
  | tmp t => exact h.sl t
  | const v =>
    show VR g fr.tk (ofConst v) v
    by_cases hv : ∃ cs, v = .agg cs
    · obtain ⟨cs, rfl⟩ := hv
      simp only [ofConst]
      split
      · rename_i hb
        refine VR_of_CR ?_
        simp only [CR]
        exact ⟨cs.toList, by simp, CRs_ofScalar _ _, fun x hx => List.all_eq_true.1 hb x hx⟩
      · simp [VR]
    · have e : ofConst v = ofScalar v := by
        cases v with
        | agg cs => exact absurd ⟨cs, rfl⟩ hv
        | _ => rfl
      rw [e]
      exact VR_of_CR (CR_ofScalar _ _)
  | global g =>
    show VR _ fr.tk (match lk theG g with | some cs => .dat cs | none => .any) (.pointer (some ⟨g, 0, none⟩))
    split
    · rename_i cs hc
      exact VR_of_CR (lk_all h.H.gl.1 hc)
    · simp [VR]
  | func f => simp [ev, VR, CR, Act.eval, CRs]

def isConst : Operand → Bool
  | .const _ => true
  | _ => false

def seqv (kc : Bool) : EqS → AV → AV → Option Bool
  | .int, .int k a, .int k' b => match decide (k = k') with | true => some (a == b) | false => none
  | .str, .str a, .str b => some (a == b)
  | .bool, .bool a, .bool b => some (a == b)
  | .ifc l, .iface t (.int k a), .iface t' (.int k' b) =>
    match Nat.beq t t' with
    | false => some false
    | true => (match l.contains t, decide (k = k') with | true, true => some (a == b) | _, _ => none)
  | .ifc _, .iface _ _, .nilIface => some false
  | .ifc _, .nilIface, .iface _ _ => some false
  | .ifc _, .nilIface, .nilIface => match kc with | true => some true | false => none
  | .ptr, .ptr _ _, .nilp => some false
  | .ptr, .nilp, .ptr _ _ => some false
  | .ptr, .nilp, .nilp => some true
  | .func, .func _ _, .nilFunc => some false
  | .func, .nilFunc, .nilFunc => some true
  | _, _, _ => none

def aggEq : List EqS → List AV → List AV → Option Bool
  | [], [], [] => some true
  | [s], [x], [y] => seqv false s x y
  | s :: l, x :: xs, y :: ys => match seqv false s x y, aggEq l xs ys with | some b, some c => some (b && c) | _, _ => none
  | _, _, _ => none

def aeqT (T : Tab) (kc : Bool) (t : TypeId) (x y : AV) : Option Bool :=
  match T.eqs t with
  | some s => seqv kc s x y
  | none =>
    match T.eqf t with
    | some l => (match x with
      | .agg xs => (match y with | .agg ys => aggEq l xs ys | _ => none)
      | _ => none)
    | none => none

def abits (op : BinOp) (k : IntKind) (x y : Int) : Option Int :=
  match op with
  | .and => some (k.wrap (BitVec.ofInt k.bits x &&& BitVec.ofInt k.bits y).toNat)
  | .or => some (k.wrap (BitVec.ofInt k.bits x ||| BitVec.ofInt k.bits y).toNat)
  | .xor => some (k.wrap (BitVec.ofInt k.bits x ^^^ BitVec.ofInt k.bits y).toNat)
  | .andNot => some (k.wrap (BitVec.ofInt k.bits x &&& ~~~(BitVec.ofInt k.bits y)).toNat)
  | _ => none

def ashift (op : BinOp) (k : IntKind) (x y : Int) : Option (AV × Prop) :=
  match op with
  | .shl => some (.int k (k.wrap (x * 2 ^ (min y.toNat k.bits))), ¬ y < 0)
  | .shr => some (.int k (x.fdiv (2 ^ (min y.toNat k.bits))), ¬ y < 0)
  | _ => none

def aint2 (op : BinOp) (k : IntKind) (a b : Int) : Option (AV × Prop) :=
  match op with
  | .add => some (.int k (k.wrap (a + b)), True)
  | .sub => some (.int k (k.wrap (a - b)), True)
  | .mul => some (.int k (k.wrap (a * b)), True)
  | .quo => some (.int k (k.wrap (a.tdiv b)), b ≠ 0)
  | .rem => some (.int k (a.tmod b), b ≠ 0)
  | .eql => some (.bool (a == b), True)
  | .neq => some (.bool (a != b), True)
  | .lss => some (.bool (decide (a < b)), True)
  | .leq => some (.bool (decide (a ≤ b)), True)
  | .gtr => some (.bool (decide (a > b)), True)
  | .geq => some (.bool (decide (a ≥ b)), True)
  | .and => match abits .and k a b with | some n => some (.int k n, True) | none => none
  | .or => match abits .or k a b with | some n => some (.int k n, True) | none => none
  | .xor => match abits .xor k a b with | some n => some (.int k n, True) | none => none
  | .andNot => match abits .andNot k a b with | some n => some (.int k n, True) | none => none
  | _ => none

def abin (T : Tab) (kc : Bool) (op : BinOp) (t : TypeId) (x y : AV) : Option (AV × Prop) :=
  match x with
  | .int k a => (match y with
    | .int k' b => (match ashift op k a b with
      | some r => some r
      | none => (match decide (k = k') with | true => aint2 op k a b | false => none))
    | _ => none)
  | .str a => (match y with
    | .str b => (match op with
      | .add => some (.str (a ++ b), ((a.length + b.length : Nat) : Int) ≤ 9223372036854775807)
      | .eql => some (.bool (a == b), True)
      | .neq => some (.bool (!(a == b)), True)
      | _ => none)
    | _ => none)
  | _ =>
    match op with
    | .eql => (match aeqT T kc t x y with | some b => some (.bool b, True) | none => none)
    | .neq => (match aeqT T kc t x y with | some b => some (.bool (!b), True) | none => none)
    | _ => none

theorem seqv_sound {P : Program} {V : View} {kc : Bool} {s : EqS} {t : TypeId} {a b : AV} {r : Bool} {u v : Value} (hs : EqsF P t s) (h : seqv kc s a b = some r) (ha : CR V a u) (hb : CR V b v) (d : Nat) (w : World) :
    (Op.equalIn (d + 2) t u v).run P w = .ok r w := by
  show (Op.equalIn ((d + 1) + 1) t u v).run P w = .ok r w
  generalize he : d + 1 = e
  unfold seqv at h
  split at h
  all_goals try (cases h; done)
  · split at h
    · rename_i hk
      have hk := of_decide_eq_true hk
      subst hk
      injection h with h; subst h
      simp only [CR] at ha hb; subst ha; subst hb
      obtain ⟨k', hu⟩ := hs
      exact run_equalIn_int w e t _ k' _ _ hu
    · cases h
  · injection h with h; subst h
    simp only [CR] at ha hb
    obtain ⟨xa, rfl, rfl⟩ := ha
    obtain ⟨xb, rfl, rfl⟩ := hb
    rw [run_equalIn_string w e t _ _ hs]
    simp [ByteArray.toList_eq]
  · injection h with h; subst h
    simp only [CR] at ha hb; subst ha; subst hb
    exact run_equalIn_bool w e t _ _ hs
  · rename_i l t1 k a t2 k' b
    simp only [CR] at ha hb
    obtain ⟨x, rfl, rfl⟩ := ha
    obtain ⟨y, rfl, rfl⟩ := hb
    obtain ⟨ms, hu, hl⟩ := hs
    split at h
    · rename_i hne
      have hne := Nat.ne_of_beq_eq_false hne
      injection h with h; subst h
      simp [Op.equalIn, run_underlying hu, hne]
    · rename_i ht
      have ht := Nat.eq_of_beq_eq_true ht
      subst ht
      split at h
      · rename_i hc hk
        have hk := of_decide_eq_true hk
        subst hk
        injection h with h; subst h
        obtain ⟨i, k0, hi, hcm, hui⟩ := hl t1 (by simpa using hc)
        have h1 := run_equalIn_int (P := P) w d t1 k k0 a b hui
        rw [he] at h1
        simp [Op.equalIn, run_underlying hu, typeInfo, hi, hcm, h1]
      · cases h
  · injection h with h; subst h
    simp only [CR] at ha hb
    obtain ⟨x, rfl, _⟩ := ha
    subst hb
    obtain ⟨ms, hu, _⟩ := hs
    simp [Op.equalIn, run_underlying hu]
  · injection h with h; subst h
    simp only [CR] at ha hb
    obtain ⟨x, rfl, _⟩ := hb
    subst ha
    obtain ⟨ms, hu, _⟩ := hs
    simp [Op.equalIn, run_underlying hu]
  · split at h
    · injection h with h; subst h
      simp only [CR] at ha hb; subst ha; subst hb
      obtain ⟨ms, hu, _⟩ := hs
      simp [Op.equalIn, run_underlying hu]
    · cases h
  · injection h with h; subst h
    simp only [CR] at ha hb
    obtain ⟨_, rfl⟩ := ha
    subst hb
    obtain ⟨e, hu⟩ := hs
    simp [Op.equalIn, run_underlying hu]
  · injection h with h; subst h
    simp only [CR] at ha hb
    obtain ⟨_, rfl⟩ := hb
    subst ha
    obtain ⟨e, hu⟩ := hs
    simp [Op.equalIn, run_underlying hu]
  · injection h with h; subst h
    simp only [CR] at ha hb; subst ha; subst hb
    obtain ⟨e, hu⟩ := hs
    simp [Op.equalIn, run_underlying hu]
  · injection h with h; subst h
    simp only [CR] at ha hb
    obtain ⟨vs, rfl, _⟩ := ha
    subst hb
    obtain ⟨p, q, r, hu⟩ := hs
    simp [Op.equalIn, run_underlying hu]
  · injection h with h; subst h
    simp only [CR] at ha hb; subst ha; subst hb
    obtain ⟨p, q, r, hu⟩ := hs
    simp [Op.equalIn, run_underlying hu]

theorem seqv_one {V : View} {kc : Bool} {s : EqS} {a b : AV} {r : Bool} {u v : Value} (h : seqv kc s a b = some r) (ha : CR V a u) (hb : CR V b v) : u.oneCell' = true ∧ v.oneCell' = true := by
  unfold seqv at h
  split at h
  all_goals try (cases h; done)
  all_goals
    simp only [CR] at ha hb
    constructor
    · first
        | (subst ha; rfl)
        | (obtain ⟨_, rfl, _⟩ := ha; rfl)
        | (obtain ⟨_, rfl⟩ := ha; rfl)
    · first
        | (subst hb; rfl)
        | (obtain ⟨_, rfl, _⟩ := hb; rfl)
        | (obtain ⟨_, rfl⟩ := hb; rfl)

theorem aggEq_sound {P : Program} {V : View} {d : Nat} {us vs : Array Value} (w : World) : ∀ {l : List EqS} {fs : List Field} {o : Nat} {xs ys : List AV} {r : Bool} {u v : List Value},
    EqfF P o fs l → aggEq l xs ys = some r → CRs V xs u → CRs V ys v → (∀ j x, u[j]? = some x → us[o + j]? = some x) → (∀ j x, v[j]? = some x → vs[o + j]? = some x) →
    (Op.eqFields (d + 2) us vs fs).run P w = .ok r w := by
  intro l
  induction l with
  | nil =>
    intro fs o xs ys r u v hf h hx hy _ _
    match fs, hf with
    | [], _ =>
      cases xs <;> cases ys <;> simp [aggEq] at h
      subst h
      simp [Op.eqFields]
  | cons s l ih =>
    intro fs o xs ys r u v hf h hx hy hu hv
    match fs, hf with
    | f :: fs, hf =>
      obtain ⟨hn, ho, hs, hag, hfs⟩ := hf
      have hn' : f.name ≠ "_" := by simpa using hn
      match xs, ys, h with
      | [], _, h => simp [aggEq] at h
      | _ :: _, [], h => cases l <;> simp [aggEq] at h
      | x :: xs, y :: ys, h =>
        simp only [CRs] at hx hy
        obtain ⟨u0, ur, rfl, hx0, hxr⟩ := hx
        obtain ⟨v0, vr, rfl, hy0, hyr⟩ := hy
        have key : ∃ b c, seqv false s x y = some b ∧ aggEq l xs ys = some c ∧ r = (b && c) := by
          cases l with
          | nil =>
            cases xs with
            | nil => cases ys with
              | nil => simp only [aggEq] at h; exact ⟨r, true, h, by simp [aggEq], by simp⟩
              | cons _ _ => simp only [aggEq] at h; split at h <;> simp_all [aggEq]
            | cons _ _ => simp only [aggEq] at h; split at h <;> simp_all [aggEq]
          | cons s2 l2 =>
            simp only [aggEq] at h
            split at h
            · rename_i b c h1 h2
              injection h with h
              exact ⟨b, c, h1, h2, h.symm⟩
            · cases h
        obtain ⟨b, c, h1, h2, rfl⟩ := key
        obtain ⟨o1, o2⟩ := seqv_one h1 hx0 hy0
        have e1 : us[f.offset]? = some u0 := by rw [ho]; exact hu 0 u0 (by simp)
        have e2 : vs[f.offset]? = some v0 := by rw [ho]; exact hv 0 v0 (by simp)
        have p1 : (part f.type us f.offset).run P w = .ok u0 w := by simp [part, Sem.run_bind, hag, e1]
        have p2 : (part f.type vs f.offset).run P w = .ok v0 w := by simp [part, Sem.run_bind, hag, e2]
        have he := seqv_sound (P := P) hs h1 hx0 hy0 d w
        have hr := ih (o := o + 1) hfs h2 hxr hyr (fun j x hj => by have := hu (j + 1) x (by simpa using hj); rwa [show o + 1 + j = o + (j + 1) from by omega]) (fun j x hj => by have := hv (j + 1) x (by simpa using hj); rwa [show o + 1 + j = o + (j + 1) from by omega])
        rw [Op.eqFields]
        simp only [if_pos hn', Sem.run_bind, p1, p2, he, Result.andThen_ok]
        cases b
        · simp
        · simpa using hr

theorem abin_sound {P : Program} {T : Tab} (hT : TabOK P T) {g : Gh} {tk : List Nat} {op : BinOp} {t : TypeId} {a b r : AV} {u v : Value} {ob : Prop} (x y : Operand) (h : abin T (isConst x || isConst y) op t a b = some (r, ob)) (hob : ob) (ha : VR g tk a u) (hb : VR g tk b v) :
    ∃ z, (∀ w, ((do eqGuard op t x y u v; binOp op t u v : Sem Value)).run P w = .ok z w) ∧ CR g.V r z ∧ z.oneCell' = true := by
  unfold abin at h
  split at h
  · rename_i k a
    split at h
    · rename_i k' b
      simp only [VR, CR] at ha hb
      subst ha; subst hb
      split at h
      · rename_i r' hs
        injection h with h; subst h
        unfold ashift at hs
        split at hs
        · simp only [Option.some.injEq, Prod.mk.injEq] at hs
          obtain ⟨rfl, rfl⟩ := hs
          exact ⟨_, fun w => by simp [eqGuard, binOp, Op.shift, hob]; rfl, by simp [CR], rfl⟩
        · simp only [Option.some.injEq, Prod.mk.injEq] at hs
          obtain ⟨rfl, rfl⟩ := hs
          exact ⟨_, fun w => by simp [eqGuard, binOp, Op.shift, hob]; rfl, by simp [CR], rfl⟩
        · cases hs
      · split at h
        · rename_i hk
          have hk' : k = k' := of_decide_eq_true hk
          subst hk'
          cases op <;> simp only [aint2, abits, Option.some.injEq, Prod.mk.injEq, reduceCtorEq] at h <;> obtain ⟨rfl, rfl⟩ := h <;>
            simp [eqGuard, binOp, Op.intArith, Op.intDiv, Op.intCmp, Op.intBits, CR, Value.oneCell', hob]
        · cases h
    · cases h
  · rename_i a
    split at h
    · rename_i b
      simp only [VR, CR] at ha hb
      obtain ⟨xa, rfl, rfl⟩ := ha
      obtain ⟨xb, rfl, rfl⟩ := hb
      cases op <;> simp only [Option.some.injEq, Prod.mk.injEq, reduceCtorEq] at h <;> obtain ⟨rfl, rfl⟩ := h
      case add =>
        have e1 : xa.data.toList.length = xa.size := by rw [Array.length_toList]; rfl
        have e2 : xb.data.toList.length = xb.size := by rw [Array.length_toList]; rfl
        have h63 : ¬ ((9223372036854775807 : Int) < (xa.size : Int) + (xb.size : Int)) := by rw [e1, e2] at hob; omega
        refine ⟨.string (xa ++ xb), fun w => ?_, ?_, rfl⟩
        · simp [eqGuard, binOp_string_add, Op.stringOp, h63]
        · simp only [CR]; exact ⟨xa ++ xb, rfl, by simp⟩
      case eql => simp [eqGuard, binOp_string_eql, ByteArray.toList_eq, CR, Value.oneCell']
      case neq => simp [eqGuard, binOp_string_neq, ByteArray.toList_eq, CR, Value.oneCell']
    · cases h
  · rename_i hni hns
    have key : ∀ {q : Bool}, aeqT T (isConst x || isConst y) t a b = some q → ∀ w, ((do eqGuard op t x y u v; Op.equal t u v : Sem Bool)).run P w = .ok q w ∧ (∀ k i, u ≠ .int k i) ∧ (∀ s, u ≠ .string s) ∧ (∀ k i, u ≠ .float k i) ∧ (∀ k i j, u ≠ .complex k i j) := by
      intro q hq w
      unfold aeqT at hq
      split at hq
      · rename_i s hs
        have hs := hT.eqs t s hs
        have ha' : CR g.V a u := by
          unfold seqv at hq
          split at hq
          all_goals first | exact ha | (cases hq; done) | skip
        have hb' : CR g.V b v := by
          unfold seqv at hq
          split at hq
          all_goals first | exact hb | (cases hq; done) | skip
        have he := seqv_sound (P := P) hs hq ha' hb' 9998 w
        have hg : (eqGuard op t x y u v).run P w = .ok () w ∧ (∀ k i, u ≠ .int k i) ∧ (∀ s, u ≠ .string s) ∧ (∀ k i, u ≠ .float k i) ∧ (∀ k i j, u ≠ .complex k i j) := by
          unfold seqv at hq
          split at hq
          all_goals try (cases hq; done)
          all_goals simp only [CR] at ha' hb'
          · exact absurd rfl (hni _ _)
          · exact absurd rfl (hns _)
          · subst ha'; subst hb'; cases op <;> simp [eqGuard]
          · obtain ⟨_, rfl, _⟩ := ha'; obtain ⟨_, rfl, _⟩ := hb'; cases op <;> simp [eqGuard]
          · obtain ⟨_, rfl, _⟩ := ha'; subst hb'; cases op <;> simp [eqGuard]
          · obtain ⟨_, rfl, _⟩ := hb'; subst ha'; cases op <;> simp [eqGuard]
          · split at hq
            · rename_i hk
              subst ha'; subst hb'
              have hk' : isConst x = true ∨ isConst y = true := by simpa using hk
              cases op <;> simp [eqGuard] <;> (cases x <;> cases y <;> simp [isConst] at hk' ⊢)
            · cases hq
          · obtain ⟨_, rfl⟩ := ha'; subst hb'; cases op <;> simp [eqGuard]
          · obtain ⟨_, rfl⟩ := hb'; subst ha'; cases op <;> simp [eqGuard]
          · subst ha'; subst hb'; cases op <;> simp [eqGuard]
          · obtain ⟨_, rfl, _⟩ := ha'; subst hb'; cases op <;> simp [eqGuard]
          · subst ha'; subst hb'; cases op <;> simp [eqGuard]
        refine ⟨?_, hg.2⟩
        simp only [Sem.run_bind, hg.1, Result.andThen_ok]
        exact he
      · split at hq
        · rename_i l hl
          obtain ⟨fs, hu, hst, hgt, hf⟩ := hT.eqf t l hl
          split at hq
          · split at hq
            · rename_i xs ys
              simp only [VR, CR] at ha hb
              obtain ⟨us, rfl, hus, _⟩ := ha
              obtain ⟨vs, rfl, hvs, _⟩ := hb
              have he := aggEq_sound (P := P) (V := g.V) (d := 9997) (us := us.toArray) (vs := vs.toArray) w hf hq hus hvs (fun j x hj => by simpa using hj) (fun j x hj => by simpa using hj)
              have hfo : P.fieldsOf t = fs := by simp [Program.fieldsOf, hu]
              have he2 := run_equalIn_struct (P := P) w 9999 t us.toArray vs.toArray (by rw [hfo]; exact hu) hst
              rw [hfo] at he2
              refine ⟨?_, by simp, by simp, by simp, by simp⟩
              simp only [Sem.run_bind, run_eqGuard_agg w op t x y us.toArray vs.toArray hgt, Result.andThen_ok]
              show (Op.equalIn (9999 + 1) t _ _).run P w = _
              rw [he2]; exact he
            · cases hq
          · cases hq
        · cases hq
    split at h
    · split at h
      · rename_i q hq
        simp only [Option.some.injEq, Prod.mk.injEq] at h
        obtain ⟨rfl, rfl⟩ := h
        refine ⟨.bool q, fun w => ?_, by simp [CR], rfl⟩
        obtain ⟨h1, h2, h3, h4, h5⟩ := key hq w
        simp only [Sem.run_bind] at h1 ⊢
        have e : binOp .eql t u v = (do pure (.bool (← Op.equal t u v))) := by
          cases u <;> first | rfl | exact absurd rfl (h2 _ _) | exact absurd rfl (h3 _) | exact absurd rfl (h4 _ _) | exact absurd rfl (h5 _ _ _)
        rw [e]
        simp only [Sem.run_bind]
        generalize (eqGuard .eql t x y u v).run P w = r1 at h1 ⊢
        cases r1 with
        | ok _ w1 => simp only [Result.andThen_ok] at h1 ⊢; rw [h1]; simp
        | halt _ _ => simp [Result.andThen] at h1
      · cases h
    · split at h
      · rename_i q hq
        simp only [Option.some.injEq, Prod.mk.injEq] at h
        obtain ⟨rfl, rfl⟩ := h
        refine ⟨.bool (!q), fun w => ?_, by simp [CR], rfl⟩
        obtain ⟨h1, h2, h3, h4, h5⟩ := key hq w
        simp only [Sem.run_bind] at h1 ⊢
        have e : binOp .neq t u v = (do pure (.bool (!(← Op.equal t u v)))) := by
          cases u <;> first | rfl | exact absurd rfl (h2 _ _) | exact absurd rfl (h3 _) | exact absurd rfl (h4 _ _) | exact absurd rfl (h5 _ _ _)
        rw [e]
        simp only [Sem.run_bind]
        generalize (eqGuard .neq t x y u v).run P w = r1 at h1 ⊢
        cases r1 with
        | ok _ w1 => simp only [Result.andThen_ok] at h1 ⊢; rw [h1]; simp
        | halt _ _ => simp [Result.andThen] at h1
      · cases h
    · cases h

end Go.AE

/- Operations that touch memory, on the abstract side; that the model does the same. -/
set_option linter.unusedVariables false
set_option linter.unusedSimpArgs false
namespace Go.AE

def cellsOf : AV → Option (List AV)
  | .agg cs => some cs
  | .any => none
  | .tuple _ => none
  | v => some [v]

theorem cellsOf_sound {g : Gh} {tk : List Nat} {v : AV} {x : Value} {cs : List AV} (h : VR g tk v x) (hc : cellsOf v = some cs) : VRs g tk cs x.cells.toList ∧ ∀ y ∈ x.cells.toList, y.oneCell' = true := by
  have one : ∀ {u : AV} {y : Value}, VR g tk u y → y.oneCell' = true → VRs g tk [u] y.cells.toList ∧ ∀ z ∈ y.cells.toList, z.oneCell' = true := fun {u y} hu hy => by
    have e : y.cells = #[y] := by cases y <;> first | rfl | simp [Value.oneCell'] at hy
    rw [e]
    exact ⟨⟨y, [], rfl, hu, rfl⟩, by simp [hy]⟩
  cases v with
  | any => simp [cellsOf] at hc
  | tuple vs => simp [cellsOf] at hc
  | agg l =>
    simp only [cellsOf, Option.some.injEq] at hc; subst hc
    simp only [VR, CR] at h
    obtain ⟨vs, rfl, h1, h2⟩ := h
    exact ⟨VRs_of_CRs (by simpa [Value.cells] using h1), by simpa [Value.cells] using h2⟩
  | slice l n own =>
    simp only [cellsOf, Option.some.injEq] at hc; subst hc
    refine one h ?_
    cases own with
    | tok t sz => simp only [VR, CR] at h; obtain ⟨_, ⟨_, A, cap, rfl, _⟩, _⟩ := h; rfl
    | exact => simp only [VR, CR] at h; obtain ⟨_, A, cap, rfl, _⟩ := h; rfl
    | no => simp only [VR, CR] at h; obtain ⟨_, A, cap, rfl, _⟩ := h; rfl
  | loc i o => simp only [cellsOf, Option.some.injEq] at hc; subst hc; refine one h ?_; simp only [VR] at h; rw [h.2]; rfl
  | iter i => simp only [cellsOf, Option.some.injEq] at hc; subst hc; refine one h ?_; simp only [VR] at h; rw [h.2]; rfl
  | bool b => simp only [cellsOf, Option.some.injEq] at hc; subst hc; refine one h ?_; simp only [VR, CR] at h; rw [h]; rfl
  | int k n => simp only [cellsOf, Option.some.injEq] at hc; subst hc; refine one h ?_; simp only [VR, CR] at h; rw [h]; rfl
  | str s => simp only [cellsOf, Option.some.injEq] at hc; subst hc; refine one h ?_; simp only [VR, CR] at h; obtain ⟨y, rfl, _⟩ := h; rfl
  | nilp => simp only [cellsOf, Option.some.injEq] at hc; subst hc; refine one h ?_; simp only [VR, CR] at h; rw [h]; rfl
  | ptr i o => simp only [cellsOf, Option.some.injEq] at hc; subst hc; refine one h ?_; simp only [VR, CR] at h; rw [h.2]; rfl
  | dat l => simp only [cellsOf, Option.some.injEq] at hc; subst hc; refine one h ?_; simp only [VR, CR] at h; obtain ⟨b, o, rfl, _⟩ := h; rfl
  | func f l => simp only [cellsOf, Option.some.injEq] at hc; subst hc; refine one h ?_; simp only [VR, CR] at h; obtain ⟨vs, rfl, _⟩ := h; rfl
  | nilFunc => simp only [cellsOf, Option.some.injEq] at hc; subst hc; refine one h ?_; simp only [VR, CR] at h; rw [h]; rfl
  | iface t u => simp only [cellsOf, Option.some.injEq] at hc; subst hc; refine one h ?_; simp only [VR, CR] at h; obtain ⟨y, rfl, _⟩ := h; rfl
  | nilIface => simp only [cellsOf, Option.some.injEq] at hc; subst hc; refine one h ?_; simp only [VR, CR] at h; rw [h]; rfl

def chk {α : Type} (b : Bool) (x : Option α) : Option α := match b with | true => x | false => none
theorem chk_some {α : Type} {b : Bool} {x : Option α} {r : α} (h : chk b x = some r) : b = true ∧ x = some r := by
  cases b
  · simp [chk] at h
  · exact ⟨rfl, h⟩

def putAt (cs : List AV) (o : Nat) (vs : List AV) : List AV := cs.take o ++ vs ++ cs.drop (o + vs.length)

section
variable {P : Program} {T : Tab} {E : Ent} {g : Gh} {fr : Fr} {σ : St} {a : Act} {w : World}

theorem run_loadVar_list (hT : TabOK P T) {t : TypeId} {b : Bool} {n : Nat} (ht : T.sz t = some (b, n)) (bl o : Nat) (vs : List Value) (hl : vs.length = n)
    (hc : ∀ j v, vs[j]? = some v → w.cell? ⟨bl, o + j, none⟩ = some v) :
    ∃ z, (loadVar t ⟨bl, o, none⟩).run P w = .ok z w ∧ ((b = true ∧ z = .agg vs.toArray) ∨ (b = false ∧ ∃ v, vs = [v] ∧ z = v)) := by
  obtain ⟨h1, h2, h3⟩ := hT.sz t b n ht w
  cases b with
  | true =>
    have hld := run_loadCells_list (P := P) (w := w) ⟨bl, o, none⟩ vs (fun j v hj => by rw [Addr.add_lit]; exact hc j v hj)
    refine ⟨_, ?_, .inl ⟨rfl, rfl⟩⟩
    simp only [loadVar, Sem.run_bind, h1, h2, Result.andThen_ok, if_true, ← hl, hld, Sem.run_pure]
  | false =>
    have hn := h3 rfl
    match vs, hl.trans hn with
    | [v], _ =>
      refine ⟨v, ?_, .inr ⟨rfl, v, rfl, rfl⟩⟩
      have := hc 0 v (by simp)
      simp only [Nat.add_zero] at this
      simp only [loadVar, Sem.run_bind, h1, Result.andThen_ok, Bool.false_eq_true, if_false, run_load, this]

def aload (T : Tab) (fr : Fr) (σ : St) (t : TypeId) (p : AV) : Option (AV × Prop) :=
  match T.sz t with
  | none => none
  | some (b, n) =>
    match p with
    | .loc i o =>
      match fr.bx[i]? with
      | none => none
      | some cs =>
        match b with
        | true => chk (Nat.ble (o + n) cs.length) (match shutAll ((cs.drop o).take n) with | some l => some (.agg l, True) | none => none)
        | false => match cs[o]? with | some v => some (v, True) | none => none
    | .ptr i o =>
      match σ[i]? with
      | none => none
      | some cs =>
        match b with
        | true => chk (Nat.ble (o + n) cs.length) (some (.agg ((cs.drop o).take n), True))
        | false => match cs[o]? with | some v => some (v, True) | none => none
    | .dat cs =>
      match b with
      | true => some (.agg (cs.take n), n ≤ cs.length)
      | false => match cs with | v :: _ => some (v, True) | [] => none
    | _ => none

theorem cells_row {w : World} {b : Nat} {c : Array Value} {e : TypeId} {f : Nat × Nat} (h : w.heap[b]? = some (.cells c e f)) (o : Nat) : w.cell? ⟨b, o, none⟩ = c.toList[o]? := by
  simp [World.cell?, h]

theorem aload_sound (hT : TabOK P T) (R : Rel E g fr σ a w) {t : TypeId} {p v : AV} {ob : Prop} (h : aload T fr σ t p = some (v, ob)) (hob : ob) {x : Value} (hx : VR g fr.tk p x) :
    ∃ z, (Instr.loadAt t x).run P w = .ok z w ∧ VR g fr.tk v z := by
  unfold aload at h
  split at h
  · cases h
  rename_i b n ht
  have fin : ∀ (bl o : Nat) (vs : List Value), x = .pointer (some ⟨bl, o, none⟩) → vs.length = n → (∀ j u, vs[j]? = some u → w.cell? ⟨bl, o + j, none⟩ = some u) →
      (∀ z, ((b = true ∧ z = .agg vs.toArray) ∨ (b = false ∧ ∃ u, vs = [u] ∧ z = u)) → VR g fr.tk v z) → ∃ z, (Instr.loadAt t x).run P w = .ok z w ∧ VR g fr.tk v z := by
    intro bl o vs e hl hc hz
    obtain ⟨z, h1, h2⟩ := run_loadVar_list (w := w) hT ht bl o vs hl hc
    refine ⟨z, ?_, hz z h2⟩
    subst e
    simp only [Instr.loadAt, Instr.sureAddr, Sem.run_bind, Sem.run_pure, Result.andThen_ok, h1]
  split at h
  · rename_i i o
    split at h
    · cases h
    rename_i cs hcs
    simp only [VR] at hx
    obtain ⟨c, e, hh, hv, h1⟩ := R.F.bx i cs hcs
    rw [R.w] at hh
    have hvl := VRs_length hv
    split at h
    · obtain ⟨hob, h⟩ := chk_some h
      have hob := Nat.le_of_ble_eq_true hob
      split at h
      · rename_i l hl
        simp only [Option.some.injEq, Prod.mk.injEq] at h
        obtain ⟨rfl, rfl⟩ := h
        refine fin _ o ((c.toList.drop o).take n) hx.2 (by simp at hvl ⊢; omega) (fun j u hj => ?_) fun z hz => ?_
        · rw [cells_row hh]
          rw [List.getElem?_take] at hj
          split at hj
          · rw [List.getElem?_drop] at hj; exact hj
          · cases hj
        · rcases hz with ⟨_, rfl⟩ | ⟨hb, _⟩
          · refine VR_of_CR ?_
            simp only [CR]
            exact ⟨_, rfl, CRs_of_VRs (VRs_take n (VRs_drop o hv)) hl, fun y hy => h1 y (List.mem_of_mem_drop (List.mem_of_mem_take hy))⟩
          · cases hb
      · cases h
    · split at h
      · rename_i u hu
        simp only [Option.some.injEq, Prod.mk.injEq] at h
        obtain ⟨rfl, rfl⟩ := h
        obtain ⟨y, hy, hr⟩ := VRs_get o _ hv hu
        have hn := (hT.sz t false n ht w).2.2 rfl
        refine fin _ o [y] hx.2 (by simp [hn]) (fun j q hj => ?_) fun z hz => ?_
        · cases j with
          | zero => simp at hj; subst hj; rw [cells_row hh]; simpa using hy
          | succ j => simp at hj
        · rcases hz with ⟨hb, _⟩ | ⟨_, q, hq, rfl⟩
          · cases hb
          · simp only [List.cons.injEq, and_true] at hq; subst hq; exact hr
      · cases h
  · rename_i i o
    split at h
    · cases h
    rename_i cs hcs
    simp only [VR, CR] at hx
    obtain ⟨c, e, hh, hv, h1⟩ := R.H.ob i cs hcs
    rw [R.w] at hh
    have hvl := CRs_length hv
    split at h
    · obtain ⟨hob, h⟩ := chk_some h
      have hob := Nat.le_of_ble_eq_true hob
      simp only [Option.some.injEq, Prod.mk.injEq] at h
      obtain ⟨rfl, rfl⟩ := h
      refine fin _ o ((c.toList.drop o).take n) hx.2 (by simp at hvl ⊢; omega) (fun j u hj => ?_) fun z hz => ?_
      · rw [cells_row hh]
        rw [List.getElem?_take] at hj
        split at hj
        · rw [List.getElem?_drop] at hj; exact hj
        · cases hj
      · rcases hz with ⟨_, rfl⟩ | ⟨hb, _⟩
        · refine VR_of_CR ?_
          simp only [CR]
          exact ⟨_, rfl, CRs_take n (CRs_drop o hv), fun y hy => h1 y (List.mem_of_mem_drop (List.mem_of_mem_take hy))⟩
        · cases hb
    · split at h
      · rename_i u hu
        simp only [Option.some.injEq, Prod.mk.injEq] at h
        obtain ⟨rfl, rfl⟩ := h
        obtain ⟨y, hy, hr⟩ := CRs_get o _ hv hu
        have hn := (hT.sz t false n ht w).2.2 rfl
        refine fin _ o [y] hx.2 (by simp [hn]) (fun j q hj => ?_) fun z hz => ?_
        · cases j with
          | zero => simp at hj; subst hj; rw [cells_row hh]; simpa using hy
          | succ j => simp at hj
        · rcases hz with ⟨hb, _⟩ | ⟨_, q, hq, rfl⟩
          · cases hb
          · simp only [List.cons.injEq, and_true] at hq; subst hq; exact VR_of_CR hr
      · cases h
  · rename_i cs
    simp only [VR, CR] at hx
    obtain ⟨bl, o, ex, hlt, hext, hat⟩ := hx
    obtain ⟨vs, hvs, h1, hc⟩ := CRat_list hat
    have hvl := CRs_length hvs
    rw [R.w] at hc
    split at h
    · simp only [Option.some.injEq, Prod.mk.injEq] at h
      obtain ⟨rfl, rfl⟩ := h
      refine fin bl o (vs.take n) ex (by simp; omega) (fun j u hj => ?_) fun z hz => ?_
      · rw [List.getElem?_take] at hj
        split at hj
        · exact hc j u hj
        · cases hj
      · rcases hz with ⟨_, rfl⟩ | ⟨hb, _⟩
        · refine VR_of_CR ?_
          simp only [CR]
          exact ⟨_, rfl, CRs_take n hvs, fun y hy => h1 y (List.mem_of_mem_take hy)⟩
        · cases hb
    · split at h
      · rename_i u cs'
        simp only [Option.some.injEq, Prod.mk.injEq] at h
        obtain ⟨rfl, rfl⟩ := h
        obtain ⟨y, hy, hr⟩ := CRs_get 0 u hvs (by simp)
        have hn := (hT.sz t false n ht w).2.2 rfl
        refine fin bl o [y] ex (by simp [hn]) (fun j q hj => ?_) fun z hz => ?_
        · cases j with
          | zero => simp at hj; subst hj; exact hc 0 y hy
          | succ j => simp at hj
        · rcases hz with ⟨hb, _⟩ | ⟨_, q, hq, rfl⟩
          · cases hb
          · simp only [List.cons.injEq, and_true] at hq; subst hq; exact VR_of_CR hr
      · cases h
  · cases h

def astore (T : Tab) (fr : Fr) (σ : St) (t : TypeId) (p v : AV) : Option (Fr × St × Prop) :=
  match T.sz t with
  | none => none
  | some (b, n) =>
    match cellsOf v with
    | none => none
    | some vs =>
      match p with
      | .loc i o =>
        match fr.bx[i]? with
        | none => none
        | some cs => chk (Nat.beq vs.length n && Nat.ble (o + n) cs.length) (some ({ fr with bx := fr.bx.set i (putAt cs o vs) }, σ, True))
      | .ptr i o =>
        match σ[i]?, shutAll vs with
        | some cs, some us => chk (Nat.beq us.length n && Nat.ble (o + n) cs.length) (some (fr, σ.set i (putAt cs o us), True))
        | _, _ => none
      | _ => none

def KpX (t : Option AV) (g : Gh) (w w' : World) : Prop := (∀ j, j < g.nb → (∀ o, t ≠ some (.loc j o)) → w'.heap[g.nu j]? = w.heap[g.nu j]?) ∧ ∀ j, j < g.V.n → (∀ o, t ≠ some (.ptr j o)) → w'.heap[g.V.mu j]? = w.heap[g.V.mu j]?

theorem shutAll_length : ∀ {as bs : List AV}, shutAll as = some bs → bs.length = as.length
  | [], bs, h => by simp [shutAll] at h; subst h; rfl
  | a :: as, bs, h => by
    simp only [shutAll] at h
    split at h
    · split at h
      · rename_i bs' hb
        injection h with h; subst h
        simp [shutAll_length hb]
      · cases h
    · cases h

theorem run_storeAt_row (hT : TabOK P T) {t : TypeId} {b : Bool} {n : Nat} (ht : T.sz t = some (b, n)) {bl o : Nat} {c : Array Value} {e : TypeId} (hh : w.heap[bl]? = some (.cells c e (0, 0))) {y : Value}
    (hl : y.cells.toList.length = n) (hf : o + n ≤ c.size) (h1 : ∀ z ∈ y.cells.toList, z.oneCell' = true) :
    (Instr.storeAt t (.pointer (some ⟨bl, o, none⟩)) y).run P w = .ok () (w.setRow bl (c.toList.take o ++ y.cells.toList ++ c.toList.drop (o + n)).toArray) := by
  obtain ⟨_, h2, _⟩ := hT.sz t b n ht w
  have hst := run_storeCells_at (P := P) bl o e y.cells.toList 0 c w hh (by rw [hl]; simpa using hf) h1
  have hs : y.cells.size = n := by simpa using hl
  simp only [Nat.add_zero, hl] at hst
  simp only [Instr.storeAt, Instr.sureAddr, storeVar, Sem.run_bind, Sem.run_pure, Result.andThen_ok, h2, hs, ne_eq, not_true_eq_false, if_false, hst]

theorem astore_sound (hT : TabOK P T) (R : Rel E g fr σ a w) {t : TypeId} {p v : AV} {fr' : Fr} {σ' : St} {ob : Prop} (h : astore T fr σ t p v = some (fr', σ', ob)) (hob : ob) {x y : Value} (hx : VR g fr.tk p x) (hy : VR g fr.tk v y) :
    ∃ g' w', (Instr.storeAt t x y).run P w = .ok () w' ∧ Rel E g' fr' σ' a w' ∧ GLE g g' fr.tk fr'.tk ∧ KpX (some p) g w w' := by
  unfold astore at h
  split at h
  · cases h
  rename_i b n ht
  split at h
  · cases h
  rename_i vs hvs
  obtain ⟨hv, h1⟩ := cellsOf_sound hy hvs
  have hvl := VRs_length hv
  split at h
  · rename_i i o
    split at h
    · cases h
    rename_i cs hcs
    obtain ⟨hob, h⟩ := chk_some h
    simp only [Bool.and_eq_true] at hob
    have hn := Nat.eq_of_beq_eq_true hob.1
    have hf := Nat.le_of_ble_eq_true hob.2
    simp only [Option.some.injEq, Prod.mk.injEq] at h
    obtain ⟨rfl, rfl, rfl⟩ := h
    simp only [VR] at hx
    obtain ⟨c, e, hh, hb, hb1⟩ := R.F.bx i cs hcs
    have hbl := VRs_length hb
    rw [R.w] at hh
    have hi : i < fr.bx.length := (List.getElem?_eq_some_iff.1 hcs).1
    have hcl : c.size = cs.length := by simpa using hbl
    have hrun := run_storeAt_row (P := P) hT ht hh (y := y) (o := o) (by omega) (by omega) h1
    obtain ⟨g', R', hGG⟩ := R.setBox hi (cs := putAt cs o vs) (c := (c.toList.take o ++ y.cells.toList ++ c.toList.drop (o + n)).toArray)
      (by
        simp only [putAt, hn]
        exact VRs_append (VRs_append (VRs_take o hb) hv) (VRs_drop _ hb))
      (fun z hz => by
        simp only [List.mem_append] at hz
        rcases hz with (hz | hz) | hz
        · exact hb1 z (List.mem_of_mem_take hz)
        · exact h1 z hz
        · exact hb1 z (List.mem_of_mem_drop hz))
    exact ⟨g', _, by rw [hx.2]; exact hrun, R', hGG, fun j hj hn => setRow_other _ _ _ _ (fun e => hn o (by rw [R.F.bxi i j hx.1 hj e.symm])), fun j hj _ => setRow_other _ _ _ _ ((R.F.bxn i hx.1).2.2 j hj)⟩
  · rename_i i o
    split at h
    · rename_i cs us hcs hus
      obtain ⟨hob, h⟩ := chk_some h
      simp only [Bool.and_eq_true] at hob
      have hn := Nat.eq_of_beq_eq_true hob.1
      have hf := Nat.le_of_ble_eq_true hob.2
      simp only [Option.some.injEq, Prod.mk.injEq] at h
      obtain ⟨rfl, rfl, rfl⟩ := h
      simp only [VR, CR] at hx
      obtain ⟨c, e, hh, hb, hb1⟩ := R.H.ob i cs hcs
      have hbl := CRs_length hb
      rw [R.w] at hh
      have hi : i < σ.length := (List.getElem?_eq_some_iff.1 hcs).1
      have hcl : c.size = cs.length := by simpa using hbl
      have hul := shutAll_length hus
      have hrun := run_storeAt_row (P := P) hT ht hh (y := y) (o := o) (by omega) (by omega) h1
      obtain ⟨g', R', hGG⟩ := R.setObj hi (cs := putAt cs o us) (c := (c.toList.take o ++ y.cells.toList ++ c.toList.drop (o + n)).toArray)
        (by
          simp only [putAt, hn]
          exact CRs_append (CRs_append (CRs_take o hb) (CRs_of_VRs hv hus)) (CRs_drop _ hb))
        (fun z hz => by
          simp only [List.mem_append] at hz
          rcases hz with (hz | hz) | hz
          · exact hb1 z (List.mem_of_mem_take hz)
          · exact h1 z hz
          · exact hb1 z (List.mem_of_mem_drop hz))
      exact ⟨g', _, by rw [hx.2]; exact hrun, R', hGG, fun j hj _ => setRow_other _ _ _ _ (fun e => (R.F.bxn j hj).2.2 i hx.1 e.symm), fun j hj hn => setRow_other _ _ _ _ (fun e => hn o (by rw [R.H.inj i j hx.1 hj e.symm]))⟩
    · cases h
  · cases h

end

end Go.AE

/- Literals, and appends: the abstract side; that the model does the same. -/
set_option linter.unusedVariables false
set_option linter.unusedSimpArgs false
namespace Go.AE

theorem fill_fold (off : Nat) : ∀ (l : List Value) (k : Nat) (cells : Array Value), off + k + l.length ≤ cells.size →
    ((l.zipIdx k).foldl (fun (cs : Array Value) p => cs.setIfInBounds (off + p.2) p.1) cells).toList = cells.toList.take (off + k) ++ l ++ cells.toList.drop (off + k + l.length)
  | [], k, cells, _ => by simp
  | v :: l, k, cells, h => by
    simp only [List.zipIdx_cons, List.foldl_cons, List.length_cons] at h ⊢
    rw [fill_fold off l (k + 1) (cells.setIfInBounds (off + k) v) (by simp; omega)]
    simp only [Array.toList_setIfInBounds]
    have hk : off + k < cells.toList.length := by simp; omega
    rw [show off + (k + 1) = off + k + 1 from by omega]
    rw [List.take_set, List.drop_set]
    rw [if_pos (by omega)]
    rw [List.take_succ_eq_append_getElem hk, List.set_append_right _ _ (by simp; omega)]
    simp only [List.length_take, Nat.min_eq_left (Nat.le_of_lt hk), Nat.sub_self, List.set_cons_zero, List.append_assoc, List.cons_append, List.nil_append]
    congr 3
    congr 1
    omega

def afill (pl : Nat → Option (Nat × Nat)) : List AV → List (Nat × AV) → Option (List AV)
  | cs, [] => some cs
  | cs, (i, v) :: r =>
    match pl i, cellsOf v with
    | some (off, size), some vs =>
      match shutAll vs with
      | some us => chk (Nat.beq us.length size && Nat.ble (off + size) cs.length) (afill pl (putAt cs off us) r)
      | none => none
    | _, _ => none

section
variable {P : Program} {T : Tab} {E : Ent} {g : Gh} {fr : Fr} {σ : St} {a : Act} {w : World}

theorem afill_sound (R : Rel E g fr σ a w) (pl : Nat → Option (Nat × Nat)) : ∀ (ps : List (Nat × Operand)) (cs r : List AV) (z : Array Value),
    CRs g.V cs z.toList → (∀ x ∈ z.toList, x.oneCell' = true) → afill pl cs (ps.map fun p => (p.1, ev fr p.2)) = some r →
    ∃ z' : Array Value, Instr.fill pl z (ps.map fun p => (p.1, a.eval p.2)) = some z' ∧ CRs g.V r z'.toList ∧ (∀ x ∈ z'.toList, x.oneCell' = true)
  | [], cs, r, z, h, h1, hf => by
    simp only [List.map_nil, afill, Option.some.injEq] at hf
    subst hf
    exact ⟨z, rfl, h, h1⟩
  | (i, x) :: ps, cs, r, z, h, h1, hf => by
    simp only [List.map_cons, afill] at hf
    split at hf
    · rename_i off size vs hp hvs
      split at hf
      · rename_i us hus
        obtain ⟨hb, hf⟩ := chk_some hf
        simp only [Bool.and_eq_true] at hb
        have hn := Nat.eq_of_beq_eq_true hb.1
        have hl := Nat.le_of_ble_eq_true hb.2
        have hv := VR_ev' R x
        obtain ⟨k1, k2⟩ := cellsOf_sound hv hvs
        have k3 := CRs_of_VRs k1 hus
        have k4 := CRs_length k3
        have hzl := CRs_length h
        simp only [Array.length_toList] at k4 hzl
        have hfold : ((a.eval x).cells.zipIdx.foldl (fun (cs : Array Value) p => cs.setIfInBounds (off + p.2) p.1) z).toList = z.toList.take off ++ (a.eval x).cells.toList ++ z.toList.drop (off + (a.eval x).cells.size) := by
          rw [← Array.foldl_toList, Array.toList_zipIdx]
          have := fill_fold off (a.eval x).cells.toList 0 z (by simp; omega)
          simpa using this
        have ih := afill_sound R pl ps (putAt cs off us) r ((a.eval x).cells.zipIdx.foldl (fun (cs : Array Value) p => cs.setIfInBounds (off + p.2) p.1) z)
          (by rw [hfold]; simp only [putAt, hn]; rw [show (a.eval x).cells.size = size from by omega]; exact CRs_append (CRs_append (CRs_take off h) k3) (CRs_drop _ h))
          (by
            rw [hfold]
            intro y hy
            simp only [List.mem_append] at hy
            rcases hy with (hy | hy) | hy
            · exact h1 y (List.mem_of_mem_take hy)
            · exact k2 y hy
            · exact h1 y (List.mem_of_mem_drop hy)) hf
        obtain ⟨z', e1, e2, e3⟩ := ih
        refine ⟨z', ?_, e2, e3⟩
        simp only [List.map_cons, Instr.fill, hp]
        rw [if_neg (by simp; omega)]
        exact e1
      · cases hf
    · cases hf

theorem build_sound (hT : TabOK P T) (R : Rel E g fr σ a w) {t : TypeId} {parts : Array (Nat × Operand)} {pl : BP} {cs r : List AV} (ht : T.bld t = some (pl, cs))
    (hf : afill pl.fn cs (parts.toList.map fun p => (p.1, ev fr p.2)) = some r) :
    ∃ z, (∀ w, (Instr.build t (parts.map fun (i, x) => (i, a.eval x))).run P w = .ok z w) ∧ VR g fr.tk (.agg r) z := by
  obtain ⟨z0, hz, h1, hb⟩ := hT.bld t pl cs ht
  obtain ⟨z', e1, e2, e3⟩ := afill_sound R _ parts.toList cs r z0 (hz _) h1 hf
  have hbt : P.built t (parts.map fun (i, x) => (i, a.eval x)).toList = some z' := by
    rw [hb, Array.toList_map]
    exact e1
  refine ⟨.agg z', fun w => run_build w t _ z' hbt, VR_of_CR ?_⟩
  simp only [CR]
  exact ⟨z'.toList, by simp, e2, e3⟩

def reps (cs : List AV) : Nat → List AV
  | 0 => []
  | n + 1 => cs ++ reps cs n

theorem reps_length (cs : List AV) : ∀ n, (reps cs n).length = n * cs.length
  | 0 => by simp [reps]
  | n + 1 => by simp [reps, reps_length cs n, Nat.add_mul, Nat.add_comm]

theorem CRs_reps {V : View} {cs : List AV} {z : Array Value} (h : CRs V cs z.toList) (hz : 0 < z.size) : ∀ n, CRs V (reps cs n) ((List.range (n * z.size)).map fun i => z[i % z.size]!)
  | 0 => by simp [reps, CRs]
  | n + 1 => by
    have e : (List.range ((n + 1) * z.size)).map (fun i => z[i % z.size]!) = z.toList ++ (List.range (n * z.size)).map fun i => z[i % z.size]! := by
      rw [Nat.add_mul, Nat.one_mul, Nat.add_comm, List.range_add, List.map_append, List.map_map]
      congr 1
      · apply List.ext_getElem
        · simp
        · intro i h1 h2
          have hi : i < z.size := by simpa using h1
          simp [Nat.mod_eq_of_lt hi, hi]
      · apply List.map_congr_left
        intro i _
        simp
    rw [e]
    exact CRs_append h (CRs_reps h hz n)

theorem buildSlice_sound (hT : TabOK P T) (R : Rel E g fr σ a w) {t e n by_ : Nat} {b : Bool} {len : Nat} {parts : Array (Nat × Operand)} {zc r : List AV} (ht : T.elm t = some (e, n, b, by_)) (hz : T.zero e = some zc)
    (hlen : len * n ≤ 16777216) (hzl : zc.length = n) (hf : afill (fun i => some (i * n, n)) (reps zc len) (parts.toList.map fun p => (p.1, ev fr p.2)) = some r) :
    ∃ z g' w', (Instr.buildSlice t len (parts.map fun (i, x) => (i, a.eval x))).run P w = .ok z w' ∧ Rel E g' fr σ a w' ∧ VR g' fr.tk (.slice r len .exact) z ∧ GLE g g' fr.tk fr.tk ∧ ∃ o, w' = w.alloc o := by
  obtain ⟨hu, hn0, hb0, ⟨i, zi, hi, hsz, hby, hiz, hzs, hz1⟩, _⟩ := hT.elm t e n b by_ ht
  obtain ⟨z, hzr, hzc, hzo⟩ := hT.zero e zc hz
  have hzz : z = zi := by
    have := hzr w
    simp [zeroValue, typeInfo, hi, hiz] at this
    exact this.symm
  subst hzz
  have hcz := hzc g.V
  obtain ⟨z', e1, e2, e3⟩ := afill_sound R (fun i => some (i * n, n)) parts.toList (reps zc len) r ((Array.range (len * n)).map (z.cells[· % z.cells.size]!))
    (by
      have := CRs_reps hcz (by omega) len
      simpa [hzs, Array.toList_range] using this)
    (by
      intro x hx
      simp only [Array.toList_map, Array.toList_range, List.mem_map, List.mem_range] at hx
      obtain ⟨j, _, rfl⟩ := hx
      have hm : j % z.cells.size < z.cells.size := Nat.mod_lt _ (by omega)
      have : z.cells[j % z.cells.size]! ∈ z.cells.toList := by simp [hm]
      exact hzo _ this) hf
  have hrl := CRs_length e2
  obtain ⟨R', hat, hGG⟩ := R.newRow (cs := r) (c := z') e (by rw [← hrl, List.take_length]; exact e2) (fun x hx => e3 x (List.mem_of_mem_take hx))
  have hs : ¬ (2 ^ 24 < len * n) := by omega
  have hg : g.V.w.heap.size = w.heap.size := by rw [R.w]
  refine ⟨.slice (some ⟨w.heap.size, 0, none⟩) len len, _, _, ?_, R', VR_of_CR ?_, hGG, _, rfl⟩
  · simp only [Instr.buildSlice, Sem.run_bind, run_underlying hu, Result.andThen_ok, sizeOf, typeInfo, run_program, hi, hsz, Sem.run_pure]
    by_cases h0 : len * n = 0
    · rw [h0] at e1
      simp only [h0, if_true, Nat.not_lt_zero, gt_iff_lt]
      have hz0 : (Array.range 0).map (fun x => z.cells[x % z.cells.size]!) = (Array.range 0).map (fun x => (#[] : Array Value)[x % (#[] : Array Value).size]!) := by simp
      simp only [Sem.run_ite, Sem.run_bind, Sem.run_pure, Result.andThen_ok]
      rw [← hz0]
      simp [e1, newRow]
    · simp only [h0, if_false, gt_iff_lt, hs, hzr, Sem.run_ite, Sem.run_bind, Sem.run_pure, Result.andThen_ok]
      simp [e1, newRow]
  · refine CR_newSlice (b := w.heap.size) ?_ ?_ hat rfl (Nat.le_refl _) (fun _ => rfl)
    · simp only [View.grow, alloc_size]; omega
    · simp only [View.grow]; rw [if_pos hg.symm]; exact Nat.le_refl _

end
end Go.AE

/- append, on the abstract side; that the model does the same. -/
set_option linter.unusedVariables false
set_option linter.unusedSimpArgs false
namespace Go.AE

def room : Nat := 140737488355328

def aappend (T : Tab) (fr : Fr) (t : TypeId) (sv xv : AV) : Option (AV × Fr × Prop) :=
  match T.elm t with
  | none => none
  | some (_, sz, _, by_) =>
    match sv with
    | .slice cs n own =>
      match xv with
      | .slice ds k _ =>
        match own with
        | .exact => some (.slice (cs ++ ds) (n + k) (.tok fr.nx sz), { fr with tk := fr.nx :: fr.tk, nx := fr.nx + 1 }, cs.length = n * sz ∧ ds.length = k * sz ∧ 0 < k ∧ (n + k) * by_ ≤ room)
        | .tok u sz' => chk (Nat.beq sz' sz) (some (.slice (cs ++ ds) (n + k) (.tok fr.nx sz), { fr with tk := fr.nx :: dropTok fr.tk (some u), nx := fr.nx + 1 }, u ∈ fr.tk ∧ ds.length = k * sz ∧ (n + k) * by_ ≤ room))
        | .no => none
      | _ => none
    | _ => none

section
variable {P : Program} {T : Tab} {E : Ent} {g : Gh} {fr : Fr} {σ : St} {a : Act} {w : World}

def Own.shut : Own → Own
  | .exact => .exact
  | _ => .no

theorem slice_cells {g : Gh} {tk : List Nat} {cs : List AV} {n : Nat} {own : Own} {v : Value} (h : VR g tk (.slice cs n own) v) :
    ∃ A cap, v = .slice A n cap ∧ n ≤ cap ∧ (own = .exact → cap = n) ∧ ((A = none ∧ cs = [] ∧ n = 0 ∧ cap = 0) ∨
      ∃ b o vs, A = some ⟨b, o, none⟩ ∧ CRs g.V cs vs ∧ (∀ x ∈ vs, x.oneCell' = true) ∧ ∀ j u, vs[j]? = some u → g.V.w.cell? ((⟨b, o, none⟩ : Addr).add j) = some u) := by
  have key : CR g.V (.slice cs n own.shut) v := by
    cases own with
    | tok t sz => exact h.2.1
    | exact => exact h
    | no => exact h
  simp only [CR] at key
  obtain ⟨_, A, cap, e, hnc, ho, hA⟩ := key
  refine ⟨A, cap, e, hnc, fun h => ho (by rw [h]; rfl), ?_⟩
  rcases hA with hA | ⟨b, o, eA, _, _, hat⟩
  · exact .inl hA
  · obtain ⟨vs, k1, k2, k3⟩ := CRat_list hat
    exact .inr ⟨b, o, vs, eA, k1, k2, fun j u hj => by rw [Addr.add_lit]; exact k3 j u hj⟩

def Kp (g : Gh) (w w' : World) : Prop := (∀ j, j < g.nb → w'.heap[g.nu j]? = w.heap[g.nu j]?) ∧ ∀ j, j < g.V.n → w'.heap[g.V.mu j]? = w.heap[g.V.mu j]?

theorem Kp_alloc (R : Rel E g fr σ a w) (o : Obj) : Kp g w (w.alloc o) := ⟨fun j hj => alloc_heap_old w o (by rw [← R.w]; exact R.F.ltb hj), fun j hj => alloc_heap_old w o (by rw [← R.w]; exact R.H.lt hj)⟩

theorem append_sound (hT : TabOK P T) (R : Rel E g fr σ a w) {t ty : TypeId} {sv xv v : AV} {fr' : Fr} {ob : Prop} (h : aappend T fr t sv xv = some (v, fr', ob)) (hob : ob) {x y : Value}
    (hx : VR g fr.tk sv x) (hy : VR g fr.tk xv y) :
    ∃ z g' w', (Builtin.append_ #[t, t] ty #[x, y]).run P w = .ok z w' ∧ Rel E g' fr' σ a w' ∧ VR g' fr'.tk v z ∧ GLE g g' fr.tk fr'.tk ∧ Kp g w w' := by
  unfold aappend at h
  split at h
  · cases h
  rename_i e sz b by_ ht
  obtain ⟨hu, hn0, hb0, ⟨i, zi, hi, hsz, hby, hiz, hzs, hz1⟩, _⟩ := hT.elm t e sz b by_ ht
  subst hsz
  subst hby
  split at h
  · rename_i cs n own
    split at h
    · rename_i ds k own2
      obtain ⟨B, kc, rfl, _, _, hB⟩ := slice_cells hy
      have fresh : ∀ (old : Option Nat) (vs us : List Value) (A : Option Addr) (cap : Nat), CRs g.V cs vs → (∀ x ∈ vs, x.oneCell' = true) → cs.length = n * i.size → CRs g.V ds us → (∀ x ∈ us, x.oneCell' = true) → ds.length = k * i.size →
          (∃ z, (Builtin.append_ #[t, t] ty #[x, .slice B k kc]).run P w = .ok (.slice (some ⟨w.heap.size, 0, none⟩) (n + k) (grownCap w (n + k) cap e)) (w.drew.alloc (.cells (vs.toArray ++ us.toArray ++ Builtin.zeroCells zi.cells (grownCap w (n + k) cap e - (n + k))) e)) ∧ z = ()) →
          ∃ z g' w', (Builtin.append_ #[t, t] ty #[x, .slice B k kc]).run P w = .ok z w' ∧ Rel E g' { fr with tk := fr.nx :: dropTok fr.tk old, nx := fr.nx + 1 } σ a w' ∧ VR g' (fr.nx :: dropTok fr.tk old) (.slice (cs ++ ds) (n + k) (.tok fr.nx i.size)) z ∧ GLE g g' fr.tk (fr.nx :: dropTok fr.tk old) ∧ Kp g w w' := by
        intro old vs us A cap hv hv1 hvl hus hu1 hul ⟨_, hr, _⟩
        have hge := grownCap_ge w (n + k) cap e
        have l1 := CRs_length hv
        have l2 := CRs_length hus
        obtain ⟨g', R', hV, hGG⟩ := R.appendNew (cs := cs ++ ds) (vs := vs ++ us) (m := n + k) (cap := grownCap w (n + k) cap e) (sz := i.size) e (Builtin.zeroCells zi.cells (grownCap w (n + k) cap e - (n + k))).toList
          (CRs_append hv hus) (fun x hx => by rcases List.mem_append.1 hx with hx | hx; exact hv1 x hx; exact hu1 x hx) (by rw [List.length_append, hvl, hul, Nat.add_mul]) hge
          (by
            simp only [List.length_append, Array.length_toList, size_zeroCells, hzs, l1, l2, hvl, hul]
            rw [← Nat.add_mul, ← Nat.add_mul]
            congr 1
            omega) old
        refine ⟨_, g', _, hr, ?_, hV, hGG, ⟨fun j hj => alloc_heap_old w.drew _ (by show g.nu j < w.heap.size; rw [← R.w]; exact R.F.ltb hj), fun j hj => alloc_heap_old w.drew _ (by show g.V.mu j < w.heap.size; rw [← R.w]; exact R.H.lt hj)⟩⟩
        have e1 : (vs.toArray ++ us.toArray ++ Builtin.zeroCells zi.cells (grownCap w (n + k) cap e - (n + k))) = (vs ++ us ++ (Builtin.zeroCells zi.cells (grownCap w (n + k) cap e - (n + k))).toList).toArray := by
          apply Array.ext'
          simp
        rw [e1]
        exact R'
      split at h
      · simp only [Option.some.injEq, Prod.mk.injEq] at h
        obtain ⟨rfl, rfl, rfl⟩ := h
        obtain ⟨hcl, hdl, hk0, hrm⟩ := hob
        simp only [room] at hrm
        obtain ⟨A, cap, rfl, _, hcap, hA⟩ := slice_cells hx
        have hcap := hcap rfl
        subst hcap
        have hmax := maxLen_room hb0 hrm
        rcases hB with ⟨rfl, rfl, rfl, _⟩ | ⟨b2, o2, us, rfl, hus, hu1, huc⟩
        · omega
        rw [R.w] at huc
        have l2 := CRs_length hus
        have hfit := growslice_fits (need := cap + k) (old := cap) (bytes := i.bytes) (by omega) hrm
        rcases hA with ⟨rfl, rfl, rfl, _⟩ | ⟨b1, o1, vs, rfl, hvs, hv1, hvc⟩
        · have hr := run_append_nil (P := P) w t ty e i zi hu hi hiz ⟨b2, o2, none⟩ k kc us (by rw [l2, hdl]) huc hk0 (by omega) (by simp only [Nat.zero_add] at hrm; omega)
          refine fresh none [] us none 0 (by simp [CRs]) (by simp) hcl hus hu1 hdl ⟨(), ?_, rfl⟩
          simpa using hr
        · rw [R.w] at hvc
          have l1 := CRs_length hvs
          have hr := run_append_grow (P := P) w t ty e i zi hu hi hiz ⟨b1, o1, none⟩ cap cap vs (by rw [l1, hcl]) hvc ⟨b2, o2, none⟩ k kc us (by rw [l2, hdl]) huc (by omega) (by omega) hfit
          exact fresh none vs us none cap hvs hv1 hcl hus hu1 hdl ⟨(), hr, rfl⟩
      · rename_i u sz'
        obtain ⟨hs0, h'⟩ := chk_some h
        clear h
        have hs := Nat.eq_of_beq_eq_true hs0
        clear hs0
        subst hs
        have h := h'
        clear h'
        simp only [Option.some.injEq, Prod.mk.injEq] at h
        obtain ⟨rfl, rfl, rfl⟩ := h
        obtain ⟨hmem, hdl, hrm⟩ := hob
        simp only [room] at hrm
        have hmax := maxLen_room hb0 hrm
        rcases hB with ⟨rfl, rfl, rfl, _⟩ | ⟨b2, o2, us, rfl, hus, hu1, huc⟩
        · obtain ⟨cap, c, e', rfl, hh, hcl, hcc, hvs, hin⟩ := R.appendAt hx hmem (ds := []) (us := []) (k := 0) (by simp [CRs]) (by simp) (by simp)
          have hncap : n + 0 ≤ cap := by
            obtain ⟨cap', _, _, ev, _, _, _, _, h6⟩ := hx.2.2 hmem
            injection ev with _ _ e3
            omega
          obtain ⟨g', R', hV, hGG⟩ := hin hncap
          refine ⟨.slice (some ⟨g.tb u, 0, none⟩) n cap, g', w, ?_, ?_, by simpa using hV, hGG, fun _ _ => rfl, fun _ _ => rfl⟩
          · have hncap' : n ≤ cap := hncap
            simp [Builtin.append_, run_underlying hu, sizeOf, typeInfo, hi, Builtin.lenOf, hncap', run_firstCells_none, storeCells]
          · have e0 : (c.toList.take (n * i.size) ++ [] ++ c.toList.drop (n * i.size + ([] : List Value).length)).toArray = c := by simp
            rw [e0] at R'
            rwa [setRow_self w (g.tb u) c e' (0, 0) hh] at R'
        · rw [R.w] at huc
          have l2 := CRs_length hus
          obtain ⟨cap, c, e', rfl, hh, hcl, hcc, ⟨vs, l1, hvs, hv1, hvc⟩, hin⟩ := R.appendAt hx hmem (ds := ds) (us := us) (k := k) hus hu1 hdl
          by_cases hroom : n + k ≤ cap
          · obtain ⟨g', R', hV, hGG⟩ := hin hroom
            have hfit : n * i.size + us.length ≤ c.size := by
              rw [l2, hdl, ← Nat.add_mul]
              exact Nat.le_trans (Nat.mul_le_mul_right _ hroom) hcc
            have hf := run_firstCells_some (P := P) w i.size k ⟨b2, o2, none⟩ k kc us (by rw [l2, hdl]) huc
            have hst := run_storeCells_at (P := P) (g.tb u) (n * i.size) e' us 0 c w hh (by simpa using hfit) hu1
            simp only [Nat.add_zero] at hst
            refine ⟨_, g', _, ?_, R', hV, hGG, fun j hj => setRow_other _ _ _ _ ((R.F.tk u hmem).2.2.2.2 j hj), fun j hj => setRow_other _ _ _ _ ((R.F.tk u hmem).2.2.2.1 j hj)⟩
            simp [Builtin.append_, run_underlying hu, sizeOf, typeInfo, hi, Builtin.lenOf, hroom, hf, Addr.add_lit, hst]
          · have hfit := growslice_fits (need := n + k) (old := cap) (bytes := i.bytes) (by omega) hrm
            have hr := run_append_grow (P := P) w t ty e i zi hu hi hiz ⟨g.tb u, 0, none⟩ n cap vs l1 hvc ⟨b2, o2, none⟩ k kc us (by rw [l2, hdl]) huc (by omega) (by omega) hfit
            exact fresh (some u) vs us none cap hvs hv1 hcl hus hu1 hdl ⟨(), hr, rfl⟩
      · cases h
    · cases h
  · cases h

end
end Go.AE

/- All operations of a walk, on the abstract side; that the model does the same. -/
set_option linter.unusedVariables false
set_option linter.unusedSimpArgs false
namespace Go.AE

def aint : AV → Option Int
  | .int _ n => some n
  | _ => none

def abounds (len : Nat) (lo hi : Option AV) : Option (Nat × Nat × Prop) :=
  match hi with
  | none =>
    match lo with
    | none => some (0, len, True)
    | some (.int _ l) => some (l.toNat, len, 0 ≤ l ∧ l ≤ len)
    | some _ => none
  | some (.int _ h) =>
    match lo with
    | none => some (0, h.toNat, 0 ≤ h ∧ h ≤ len)
    | some (.int _ l) => some (l.toNat, h.toNat, 0 ≤ l ∧ l ≤ h ∧ h ≤ len)
    | some _ => none
  | some _ => none

def cutTo (hi : Option AV) (h : Nat) (s : List UInt8) : List UInt8 :=
  match hi with
  | none => s
  | some _ => s.take h

def aslice (T : Tab) (t : TypeId) (x : AV) (lo hi mx : Option AV) : Option (AV × Prop) :=
  match x with
  | .str s =>
    match T.str t, mx with
    | true, none =>
      match abounds s.length lo hi with
      | some (l, h, ob) => some (.str ((cutTo hi h s).drop l), ob)
      | none => none
    | _, _ => none
  | .slice cs n own =>
    match T.elm t with
    | some (_, sz, _, _) =>
      match abounds n lo hi with
      | some (l, h, ob) =>
        match mx with
        | none =>
          match hi with
          | none =>
            match lo with
            | none => some (x, True)
            | some _ => some (.slice (cs.drop (l * sz)) (n - l) own.shut, ob ∧ cs.length = n * sz)
          | some _ => some (.slice ((cs.take (h * sz)).drop (l * sz)) (h - l) .no, ob ∧ cs.length = n * sz)
        | some (.int _ m) =>
          match hi with
          | some (.int _ h') => some (.slice ((cs.take (h * sz)).drop (l * sz)) (h - l) .exact, ob ∧ cs.length = n * sz ∧ m = h')
          | _ => none
        | some _ => none
      | none => none
    | none => none
  | _ => none

def alen : AV → Option AV
  | .str s => some (.int .i64 s.length)
  | .slice _ n _ => some (.int .i64 n)
  | _ => none

def amin : List AV → Option AV
  | [] => none
  | x :: r => r.foldl (fun acc y => match acc, y with | some (.int k a), .int _ b => some (.int k (if b < a then b else a)) | _, _ => none) (some x)

def amax : List AV → Option AV
  | [] => none
  | x :: r => r.foldl (fun acc y => match acc, y with | some (.int k a), .int _ b => some (.int k (if b > a then b else a)) | _, _ => none) (some x)

def partA (b : Bool) (cs : List AV) (off n : Nat) : Option AV :=
  match b with
  | true => some (.agg ((cs.drop off).take n))
  | false => cs[off]?

def aop (T : Tab) (hp : Bool) (op : Op) (fr : Fr) (σ : St) : Option (AV × Fr × St × Prop) :=
  match op with
  | .move x => some (ev fr x, fr, σ, True)
  | .assign x => some (ev fr x, fr, σ, True)
  | .pick c x y =>
    match ev fr c with
    | .bool t => some (match t with | true => ev fr x | false => ev fr y, fr, σ, True)
    | _ => none
  | .alloc t =>
    match T.zero t with
    | some cs => (match hp with
      | true => some (.ptr σ.length 0, fr, σ ++ [cs], True)
      | false => some (.loc fr.bx.length 0, { fr with bx := fr.bx ++ [cs] }, σ, True))
    | none => none
  | .box t x =>
    match cellsOf (ev fr x) with
    | some cs => (match hp with
      | true => (match shutAll cs with | some us => some (.ptr σ.length 0, fr, σ ++ [us], True) | none => none)
      | false => some (.loc fr.bx.length 0, { fr with bx := fr.bx ++ [cs] }, σ, True))
    | none => none
  | .build t parts =>
    match T.bld t with
    | some (pl, cs) => (match afill pl.fn cs (parts.toList.map fun p => (p.1, ev fr p.2)) with
      | some r => some (.agg r, fr, σ, True)
      | none => none)
    | none => none
  | .buildSlice t len parts =>
    match T.elm t with
    | some (e, n, _, _) => (match T.zero e with
      | some zc => chk (Nat.beq zc.length n && Nat.ble (len * n) 16777216) (match afill (fun i => some (i * n, n)) (reps zc len) (parts.toList.map fun p => (p.1, ev fr p.2)) with
        | some r => some (.slice r len .exact, fr, σ, True)
        | none => none)
      | none => none)
    | none => none
  | .load t x => match aload T fr σ t (ev fr x) with | some (v, ob) => some (v, fr, σ, ob) | none => none
  | .store t x y => match astore T fr σ t (ev fr x) (ev fr y) with | some (fr', σ', ob) => some (.any, fr', σ', ob) | none => none
  | .nilCheck x =>
    match ev fr x with
    | .ptr i o => some (.ptr i o, fr, σ, True)
    | .loc i o => some (.loc i o, fr, σ, True)
    | .dat cs => some (.dat cs, fr, σ, True)
    | .func f cap => some (.func f cap, fr, σ, True)
    | _ => none
  | .binOp op t x y _ => match abin T (isConst x || isConst y) op t (ev fr x) (ev fr y) with | some (v, ob) => some (v, fr, σ, ob) | none => none
  | .unOp op _ x =>
    match op, ev fr x with
    | .not, .bool b => some (.bool (!b), fr, σ, True)
    | .neg, .int k n => some (.int k (k.wrap (0 - n)), fr, σ, True)
    | _, _ => none
  | .convert s d x =>
    match ev fr x with
    | .int k n => (match T.int s, T.int d with | some _, some k' => some (.int k' (k'.wrap n), fr, σ, True) | _, _ => none)
    | .str b => (match T.str s, T.str d with | true, true => some (.str b, fr, σ, True) | _, _ => none)
    | _ => none
  | .slice t x lo hi mx => match aslice T t (ev fr x) (lo.map (ev fr)) (hi.map (ev fr)) (mx.map (ev fr)) with | some (v, ob) => some (v, fr, σ, ob) | none => none
  | .fieldAddr t x f =>
    match T.fld t f with
    | some (off, _, _) => (match ev fr x with
      | .loc i o => some (.loc i (o + off), fr, σ, True)
      | .ptr i o => some (.ptr i (o + off), fr, σ, True)
      | .dat cs => some (.dat (cs.drop off), fr, σ, off ≤ cs.length)
      | _ => none)
    | none => none
  | .field t x f =>
    match T.fld t f with
    | some (off, b, n) => (match ev fr x with
      | .agg cs => (match partA b cs off n with | some v => some (v, fr, σ, True) | none => none)
      | _ => none)
    | none => none
  | .indexAddr t x i =>
    match ev fr i with
    | .int _ j => (match ev fr x with
      | .slice cs n _ => (match T.elm t with
        | some (_, sz, _, _) => some (.dat ((cs.drop (j.toNat * sz)).take sz), fr, σ, 0 ≤ j ∧ j < n ∧ j.toNat * sz ≤ cs.length)
        | none => none)
      | .loc b o => (match T.arr t with
        | some (l, n, _) => some (.loc b (o + j.toNat * n), fr, σ, 0 ≤ j ∧ j < l)
        | none => none)
      | .dat cs => (match T.arr t with
        | some (l, n, _) => some (.dat (cs.drop (j.toNat * n)), fr, σ, 0 ≤ j ∧ j < l ∧ j.toNat * n ≤ cs.length)
        | none => none)
      | _ => none)
    | _ => none
  | .index t x i =>
    match ev fr i with
    | .int _ j => (match ev fr x with
      | .str s => (match T.str t with
        | true => some (.int .u8 ((s.getD j.toNat 0).toNat : Int), fr, σ, 0 ≤ j ∧ j < s.length)
        | false => none)
      | .agg cs => (match T.arr t with
        | some (l, n, b) => (match partA b cs (j.toNat * n) n with | some v => some (v, fr, σ, 0 ≤ j ∧ j < l) | none => none)
        | none => none)
      | _ => none)
    | _ => none
  | .makeInterface t x =>
    match T.con t, shut (ev fr x) with
    | true, some u => some (.iface t u, fr, σ, True)
    | _, _ => none
  | .makeFunc (.func f) first cap =>
    chk (first.isEmpty) (match shutAll (cap.toList.map (ev fr)) with
    | some us => some (.func f us, fr, σ, True)
    | none => none)
  | .range t x =>
    match ev fr x with
    | .str s => (match T.str t with | true => some (.iter fr.it.length, { fr with it := fr.it ++ [(s, 0)] }, σ, True) | false => none)
    | _ => none
  | .extract x i =>
    match ev fr x with
    | .tuple vs => (match vs[i]? with | some v => some (v, fr, σ, True) | none => none)
    | _ => none
  | .call { callee := .builtin b, args, argTypes } =>
    match b, args.toList, argTypes.toList with
    | .len, [x], [t] =>
      (match ev fr x with
      | .str s => (match T.str t with | true => some (.int .i64 s.length, fr, σ, True) | false => none)
      | .slice _ n _ => (match T.elm t with | some _ => some (.int .i64 n, fr, σ, True) | none => none)
      | _ => none)
    | .append, [s, x], [t, u] => chk (Nat.beq t u) (match aappend T fr t (ev fr s) (ev fr x) with | some (v, fr', ob) => some (v, fr', σ, ob) | none => none)
    | .min, [x, y], _ => (match ev fr x, ev fr y with | .int k a, .int _ b => some (.int k (if b < a then b else a), fr, σ, True) | _, _ => none)
    | .max, [x, y], _ => (match ev fr x, ev fr y with | .int k a, .int _ b => some (.int k (if b > a then b else a), fr, σ, True) | _, _ => none)
    | _, _, _ => none
  | _ => none

end Go.AE

/- Slice expressions: that the model does the same. -/
set_option linter.unusedVariables false
set_option linter.unusedSimpArgs false
namespace Go.AE

section
variable {P : Program} {T : Tab} {E : Ent} {g : Gh} {fr : Fr} {σ : St} {a : Act} {w : World}

theorem int_of_VR {g : Gh} {tk : List Nat} {k : IntKind} {n : Int} {v : Value} (h : VR g tk (.int k n) v) : v = .int k n := by simpa [VR, CR] using h

theorem run_bound (k : IntKind) (i : Int) (y : Nat) (c : BoundsCode) (h0 : 0 ≤ i) (h1 : i ≤ y) (w : World) : (Instr.sliceBound (.int k i) y c).run P w = .ok i.toNat w := by
  simp only [Instr.sliceBound, asIntOf, Sem.run_bind, Sem.run_pure, Result.andThen_ok]
  rw [if_pos ⟨h0, h1⟩]
  rfl

theorem map_none {α β : Type} {f : α → β} {x : Option α} (h : x.map f = none) : x = none := by cases x with | none => rfl | some m => simp at h

theorem abounds_sound (R : Rel E g fr σ a w) (s : Bool) {n cap l h : Nat} {lo hi : Option Operand} {ob : Prop} (hn : n ≤ cap) (hb : abounds n (lo.map (ev fr)) (hi.map (ev fr)) = some (l, h, ob)) (hob : ob) :
    (∀ w, (Instr.sliceBounds s n cap (lo.map a.eval) (hi.map a.eval) none).run P w = .ok (l, h, cap) w) ∧ l ≤ h ∧ h ≤ n ∧ (hi = none → h = n) ∧ (lo = none → l = 0) := by
  have hint : ∀ {x : Operand} {k : IntKind} {i : Int}, ev fr x = .int k i → a.eval x = .int k i := fun {x k i} hx => by
    have := VR_ev' R x
    rw [hx] at this
    exact int_of_VR this
  unfold abounds at hb
  cases hi with
  | none =>
    simp only [Option.map_none] at hb ⊢
    cases lo with
    | none =>
      simp only [Option.map_none, Option.some.injEq, Prod.mk.injEq] at hb ⊢
      obtain ⟨rfl, rfl, rfl⟩ := hb
      exact ⟨fun w => by simp [Instr.sliceBounds], by omega, by omega, fun _ => rfl, fun _ => rfl⟩
    | some lo =>
      simp only [Option.map_some] at hb ⊢
      split at hb
      · cases ‹_ = none›
      · rename_i k i hx
        injection hx with hx
        simp only [Option.some.injEq, Prod.mk.injEq] at hb
        obtain ⟨rfl, rfl, rfl⟩ := hb
        obtain ⟨h0, h1⟩ := hob
        refine ⟨fun w => ?_, by omega, by omega, fun _ => rfl, fun h => (by cases h)⟩
        simp only [Instr.sliceBounds, Sem.run_bind, Sem.run_pure, Result.andThen_ok, hint hx, run_bound k i n _ h0 h1]
      · cases hb
  | some hi =>
    simp only [Option.map_some] at hb ⊢
    split at hb
    · cases ‹_ = none›
    · rename_i k j hx
      injection hx with hx
      cases lo with
      | none =>
        simp only [Option.map_none, Option.some.injEq, Prod.mk.injEq] at hb ⊢
        obtain ⟨rfl, rfl, rfl⟩ := hb
        obtain ⟨h0, h1⟩ := hob
        refine ⟨fun w => ?_, by omega, by omega, fun h => (by cases h), fun _ => rfl⟩
        simp only [Instr.sliceBounds, Sem.run_bind, Sem.run_pure, Result.andThen_ok, hint hx, run_bound k j cap _ h0 (by omega)]
      | some lo =>
        simp only [Option.map_some] at hb ⊢
        split at hb
        · cases ‹_ = none›
        · rename_i k' i hy
          injection hy with hy
          simp only [Option.some.injEq, Prod.mk.injEq] at hb
          obtain ⟨rfl, rfl, rfl⟩ := hb
          obtain ⟨h0, h1, h2⟩ := hob
          refine ⟨fun w => ?_, by omega, by omega, fun h => (by cases h), fun h => (by cases h)⟩
          simp only [Instr.sliceBounds, Sem.run_bind, Sem.run_pure, Result.andThen_ok, hint hx, hint hy, run_bound k j cap _ (show 0 ≤ j by omega) (by omega), run_bound k' i j.toNat _ h0 (by omega)]
        · cases hb
    · cases hb

theorem CRat_sub {V : View} {cs : List AV} {b o l h : Nat} (hat : CRat V cs b o) : CRat V ((cs.take h).drop l) b (o + l) := CRat_drop l (CRat_take h hat)

theorem aslice_sound (hT : TabOK P T) (R : Rel E g fr σ a w) {t : TypeId} {x v : AV} {lo hi mx : Option Operand} {ob : Prop} (h : aslice T t x (lo.map (ev fr)) (hi.map (ev fr)) (mx.map (ev fr)) = some (v, ob)) (hob : ob) {y : Value} (hy : VR g fr.tk x y) :
    ∃ z, (∀ w, (Instr.sliceAt t y (lo.map a.eval) (hi.map a.eval) (mx.map a.eval)).run P w = .ok z w) ∧ VR g fr.tk v z := by
  have hint : ∀ {x : Operand} {k : IntKind} {i : Int}, ev fr x = .int k i → a.eval x = .int k i := fun {x k i} hx => by
    have := VR_ev' R x
    rw [hx] at this
    exact int_of_VR this
  unfold aslice at h
  split at h
  · rename_i s
    simp only [VR, CR] at hy
    obtain ⟨b, rfl, rfl⟩ := hy
    have hbs : b.data.toList.length = b.size := by rw [Array.length_toList]; rfl
    split at h
    · rename_i ht hm
      have hu := hT.str t ht
      have hmx := map_none hm
      subst hmx
      split at h
      · rename_i l hh ob' hb
        have e0 : cutTo (hi.map (ev fr)) hh b.data.toList = b.data.toList.take hh := by
          cases hi with
          | some q => rfl
          | none =>
            have e1 : hh = b.data.toList.length := by
              unfold abounds at hb
              simp only [Option.map_none] at hb
              split at hb
              · simp only [Option.some.injEq, Prod.mk.injEq] at hb; exact hb.2.1.symm
              · simp only [Option.some.injEq, Prod.mk.injEq] at hb; exact hb.2.1.symm
              · cases hb
            rw [e1, List.take_length]
            rfl
        rw [e0] at h
        simp only [Option.some.injEq, Prod.mk.injEq] at h
        obtain ⟨rfl, rfl⟩ := h
        rw [hbs] at hb
        obtain ⟨hr, hlh, hhs, _, _⟩ := abounds_sound (P := P) R false (Nat.le_refl _) hb hob
        refine ⟨.string (b.extract l hh), fun w => ?_, VR_of_CR ?_⟩
        · simp [Instr.sliceAt, Instr.slice, run_underlying hu, hr]
        · simp only [CR]
          refine ⟨_, rfl, ?_⟩
          rw [ByteArray.data_extract, Array.toList_extract]
          simp [List.extract, List.drop_take]
      · cases h
    · cases h
  · rename_i cs n own
    split at h
    · rename_i e sz bb by_ ht
      obtain ⟨hu, hn0, hb0, ⟨i, zi, hi0, hsz, hby, hiz, hzs, hz1⟩, _⟩ := hT.elm t e sz bb by_ ht
      have hsize : ∀ w, (sizeOf e).run P w = .ok sz w := fun w => by simp [sizeOf, typeInfo, hi0, hsz]
      split at h
      · rename_i l hh ob' hb
        have key : CR g.V (.slice cs n own.shut) y := by
          cases own with
          | tok t sz => exact hy.2.1
          | exact => exact hy
          | no => exact hy
        simp only [CR] at key
        obtain ⟨hpl, A, cap, rfl, hnc, hex, hA⟩ := key
        -- the slice that comes of it
        have fin : ∀ (m : Nat) (own' : Own), l ≤ hh → hh ≤ n → hh ≤ m → m ≤ cap → cs.length = n * sz → own'.plain = true → (own' = .exact → m = hh) →
            (∀ w, (Instr.sliceBounds true n cap (lo.map a.eval) (hi.map a.eval) (mx.map a.eval)).run P w = .ok (l, hh, m) w) →
            ∃ z, (∀ w, (Instr.sliceAt t (.slice A n cap) (lo.map a.eval) (hi.map a.eval) (mx.map a.eval)).run P w = .ok z w) ∧ VR g fr.tk (.slice ((cs.take (hh * sz)).drop (l * sz)) (hh - l) own') z := by
          intro m own' hlh hhn hhm hmc hcl hpl' hex' hr
          refine ⟨.slice (if m = l then A else A.map fun q => q.add (l * sz)) (hh - l) (m - l), fun w => by simp only [Instr.sliceAt, Instr.slice, Sem.run_bind, run_underlying hu, Result.andThen_ok, hr, hsize, Sem.run_pure], VR_of_CR ?_⟩
          simp only [CR]
          refine ⟨hpl', _, _, rfl, by omega, fun hx => (by have := hex' hx; omega), ?_⟩
          rcases hA with ⟨rfl, rfl, rfl, rfl⟩ | ⟨b, o, rfl, hb1, hb2, hat⟩
          · left
            exact ⟨by split <;> rfl, by simp, by omega, by omega⟩
          · right
            by_cases hml : m = l
            · have hz : hh = l := by omega
              have h0 : ((cs.take (hh * sz)).drop (l * sz)).length = 0 := by simp [hz]
              refine ⟨b, o, by simp [hml], hb1, by omega, ?_⟩
              rw [List.eq_nil_of_length_eq_zero h0]; simp [CRat]
            · refine ⟨b, o + l * sz, by simp [hml, Addr.add_lit], hb1, ?_, CRat_sub hat⟩
              have h1 : hh * sz ≤ n * sz := Nat.mul_le_mul_right _ hhn
              have h2 : l * sz ≤ hh * sz := Nat.mul_le_mul_right _ hlh
              simp only [List.length_drop, List.length_take]
              omega
        split at h
        · rename_i hm
          have hmx := map_none hm
          subst hmx
          split at h
          · rename_i hhi
            have hhi := map_none hhi
            subst hhi
            split at h
            · rename_i hlo
              have hlo := map_none hlo
              subst hlo
              simp only [Option.some.injEq, Prod.mk.injEq] at h
              obtain ⟨rfl, rfl⟩ := h
              simp only [Option.map_none, abounds, Option.some.injEq, Prod.mk.injEq] at hb
              refine ⟨.slice A n cap, fun w => ?_, hy⟩
              have hA0 : A.map (fun q => q.add (0 * sz)) = A := by cases A <;> simp [Addr.add]
              simp [Instr.sliceAt, Instr.slice, run_underlying hu, Instr.sliceBounds, hsize]
              intro hc
              cases A with
              | none => rfl
              | some q => simp [Addr.add]
            · rename_i hlo
              simp only [Option.some.injEq, Prod.mk.injEq] at h
              obtain ⟨rfl, hob2, hcl⟩ : v = .slice (cs.drop (l * sz)) (n - l) own.shut ∧ ob' ∧ cs.length = n * sz := ⟨h.1.symm, (h.2 ▸ hob).1, (h.2 ▸ hob).2⟩
              obtain ⟨hr, hlh, hhs, hhn, _⟩ := abounds_sound (P := P) R true hnc hb hob2
              have hhn := hhn rfl
              subst hhn
              obtain ⟨z, hz, hv⟩ := fin cap own.shut hlh hhs hnc (Nat.le_refl _) hcl hpl (fun e => hex e) hr
              refine ⟨z, hz, ?_⟩
              rwa [List.take_of_length_le (by omega)] at hv
          · simp only [Option.some.injEq, Prod.mk.injEq] at h
            obtain ⟨rfl, hob2, hcl⟩ : v = .slice ((cs.take (hh * sz)).drop (l * sz)) (hh - l) .no ∧ ob' ∧ cs.length = n * sz := ⟨h.1.symm, (h.2 ▸ hob).1, (h.2 ▸ hob).2⟩
            obtain ⟨hr, hlh, hhs, _, _⟩ := abounds_sound (P := P) R true hnc hb hob2
            exact fin cap .no hlh hhs (by omega) (Nat.le_refl _) hcl rfl (fun e => (by cases e)) hr
        · rename_i k m hm
          cases mx with
          | none => simp at hm
          | some mx =>
            simp only [Option.map_some, Option.some.injEq] at hm
            split at h
            · rename_i k' h' hhi
              cases hi with
              | none => simp at hhi
              | some hi =>
                simp only [Option.map_some, Option.some.injEq] at hhi
                simp only [Option.some.injEq, Prod.mk.injEq] at h
                obtain ⟨rfl, hob2, hcl, hmh⟩ : v = .slice ((cs.take (hh * sz)).drop (l * sz)) (hh - l) .exact ∧ ob' ∧ cs.length = n * sz ∧ m = h' := ⟨h.1.symm, (h.2 ▸ hob).1, (h.2 ▸ hob).2.1, (h.2 ▸ hob).2.2⟩
                obtain ⟨_, hlh, hhs, _, hl0⟩ := abounds_sound (P := P) R true hnc hb hob2
                have hh' : hh = h'.toNat ∧ 0 ≤ h' ∧ h' ≤ n := by
                  unfold abounds at hb
                  simp only [Option.map_some, hhi] at hb
                  split at hb
                  · simp only [Option.some.injEq, Prod.mk.injEq] at hb
                    obtain ⟨_, e2, e3⟩ := hb
                    have := e3 ▸ hob2
                    exact ⟨e2.symm, this.1, this.2⟩
                  · simp only [Option.some.injEq, Prod.mk.injEq] at hb
                    obtain ⟨_, e2, e3⟩ := hb
                    have := e3 ▸ hob2
                    exact ⟨e2.symm, by omega, this.2.2⟩
                  · cases hb
                obtain ⟨e1, e2, e3⟩ := hh'
                refine fin hh .exact hlh hhs (Nat.le_refl _) (by omega) hcl rfl (fun _ => rfl) (fun w => ?_)
                have hm' := hint hm
                have hh2 := hint hhi
                subst hmh
                simp only [Option.map_some, Instr.sliceBounds, Sem.run_bind, Sem.run_pure, Result.andThen_ok, hm', hh2, run_bound k m cap _ e2 (by omega), run_bound k' m m.toNat _ e2 (by omega), e1]
                cases lo with
                | none =>
                  have := hl0 rfl
                  subst this
                  simp [e1]
                | some lo =>
                  simp only [Option.map_some]
                  simp only [Option.isSome_none, Option.isSome_some, Bool.false_eq_true, if_false, if_true]
                  have hlo : ∃ q i, a.eval lo = .int q i ∧ 0 ≤ i ∧ i ≤ (m.toNat : Int) ∧ l = i.toNat := by
                    unfold abounds at hb
                    simp only [Option.map_some, hhi] at hb
                    split at hb
                    · rename_i e; cases e
                    · rename_i q i e
                      injection e with e
                      simp only [Option.some.injEq, Prod.mk.injEq] at hb
                      obtain ⟨b1, b2, b3⟩ := hb
                      have := b3 ▸ hob2
                      exact ⟨q, i, hint e, this.1, by omega, b1.symm⟩
                    · cases hb
                  obtain ⟨q, i, e5, e6, e7, e8⟩ := hlo
                  simp only [e5, Sem.run_bind, Sem.run_pure, run_bound q i m.toNat _ e6 e7, Result.andThen_ok, e8]
            · cases h
        · cases h
      · cases h
    · cases h
  · cases h

end
end Go.AE

